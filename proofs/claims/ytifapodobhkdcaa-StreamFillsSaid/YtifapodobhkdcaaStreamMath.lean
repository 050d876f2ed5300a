/- Plain mathematics of the mix of layer 25 (no program in sight): the mix and its inverse on 64 bits. -/
namespace Go.Proofs.Ytifapodobhkdcaa.StreamMath
def sx (n : Nat) (z : BitVec 64) : BitVec 64 := z ^^^ z >>> n
def tbStep (n : Nat) (z out : BitVec 64) : BitVec 64 := z ^^^ out >>> n
/-- j rounds -/
def tb (n : Nat) (z : BitVec 64) : Nat → BitVec 64
  | 0 => z
  | j + 1 => tbStep n z (tb n z j)

theorem tb_err (n : Nat) (y : BitVec 64) (j : Nat) : tb n (sx n y) j = y ^^^ y >>> (n * (j + 1)) := by
  induction j with
  | zero => simp [tb, sx]
  | succ j ih =>
    simp only [tb, tbStep, ih]
    unfold sx
    ext i hi
    simp only [BitVec.getElem_xor, BitVec.getElem_ushiftRight, BitVec.getLsbD_xor, BitVec.getLsbD_ushiftRight]
    have e : n * (j + 1) + (n + i) = n * (j + 1 + 1) + i := by rw [Nat.mul_succ n (j+1)]; omega
    rw [e]
    cases y[i] <;> cases y.getLsbD (n + i) <;> simp

theorem ushr_big (y : BitVec 64) (m : Nat) (h : 64 ≤ m) : y >>> m = 0#64 := by
  ext i hi
  simp only [BitVec.getElem_ushiftRight, BitVec.getElem_zero]
  exact BitVec.getLsbD_of_ge _ _ (by omega)

theorem tb_sx (n : Nat) (y : BitVec 64) (j : Nat) (h : 64 ≤ n * (j + 1)) : tb n (sx n y) j = y := by
  rw [tb_err, ushr_big _ _ h]; simp

theorem sx_tb_aux (n : Nat) (z : BitVec 64) (j : Nat) : sx n (tb n z j) = z ^^^ z >>> (n * (j + 1)) := by
  induction j with
  | zero => simp [tb, sx]
  | succ j ih =>
    simp only [tb, tbStep]
    have hs : sx n (z ^^^ tb n z j >>> n) = sx n z ^^^ (sx n (tb n z j)) >>> n := by
      unfold sx
      ext i hi
      simp only [BitVec.getElem_xor, BitVec.getElem_ushiftRight, BitVec.getLsbD_xor, BitVec.getLsbD_ushiftRight]
      cases z[i] <;> cases z.getLsbD (n + i) <;> cases (tb n z j).getLsbD (n + i) <;> cases (tb n z j).getLsbD (n + (n + i)) <;> rfl
    rw [hs, ih]
    unfold sx
    ext i hi
    simp only [BitVec.getElem_xor, BitVec.getElem_ushiftRight, BitVec.getLsbD_xor, BitVec.getLsbD_ushiftRight]
    have e : n * (j + 1) + (n + i) = n * (j + 1 + 1) + i := by rw [Nat.mul_succ n (j+1)]; omega
    rw [e]
    cases z[i] <;> cases z.getLsbD (n + i) <;> simp

theorem sx_tb (n : Nat) (z : BitVec 64) (j : Nat) (h : 64 ≤ n * (j + 1)) : sx n (tb n z j) = z := by
  rw [sx_tb_aux, ushr_big _ _ h]; simp

def invStep (a x : BitVec 64) : BitVec 64 := x * (2#64 - a * x)
def inv (a : BitVec 64) : Nat → BitVec 64
  | 0 => a
  | j + 1 => invStep a (inv a j)

def first : BitVec 64 := 0xbf58476d1ce4e5b9#64
def second : BitVec 64 := 0x94d049bb133111eb#64
def golden : BitVec 64 := 0x9e3779b97f4a7c15#64
theorem inv1 : first * inv first 5 = 1#64 := by decide +kernel
theorem inv2 : second * inv second 5 = 1#64 := by decide +kernel
theorem inv1' : first * inv first 6 = 1#64 := by decide +kernel
theorem inv2' : second * inv second 6 = 1#64 := by decide +kernel

def mix (z : BitVec 64) : BitVec 64 := sx 31 (sx 27 (sx 30 z * first) * second)
def unmix (z : BitVec 64) : BitVec 64 := tb 30 (tb 27 (tb 31 z 2 * inv second 5) 2 * inv first 5) 2
def unmixR (z : BitVec 64) : BitVec 64 := tb 30 (tb 27 (tb 31 z 3 * inv second 6) 3 * inv first 6) 3

theorem unmix_mix (z : BitVec 64) : unmix (mix z) = z := by
  unfold unmix mix
  rw [tb_sx 31 _ 2 (by decide), BitVec.mul_assoc, inv2, BitVec.mul_one, tb_sx 27 _ 2 (by decide), BitVec.mul_assoc, inv1, BitVec.mul_one, tb_sx 30 _ 2 (by decide)]
theorem mix_unmix (z : BitVec 64) : mix (unmix z) = z := by
  unfold unmix mix
  rw [sx_tb 30 _ 2 (by decide), BitVec.mul_assoc, BitVec.mul_comm (inv first 5), inv1, BitVec.mul_one, sx_tb 27 _ 2 (by decide), BitVec.mul_assoc, BitVec.mul_comm (inv second 5), inv2, BitVec.mul_one, sx_tb 31 _ 2 (by decide)]
theorem mix_unmixR (z : BitVec 64) : mix (unmixR z) = z := by
  unfold unmixR mix
  rw [sx_tb 30 _ 3 (by decide), BitVec.mul_assoc, BitVec.mul_comm (inv first 6), inv1', BitVec.mul_one, sx_tb 27 _ 3 (by decide), BitVec.mul_assoc, BitVec.mul_comm (inv second 6), inv2', BitVec.mul_one, sx_tb 31 _ 3 (by decide)]
theorem unmixR_eq (z : BitVec 64) : unmixR z = unmix z := by
  rw [← unmix_mix (unmixR z), mix_unmixR]
end Go.Proofs.Ytifapodobhkdcaa.StreamMath
