/- Walks of the functions of package stream and of its reference that compute one number: each returns the plain function of the arguments, the world as it was. -/
import Derived.Test.YtifapodobhkdcaaRows
import Derived.WalkKit
import Derived.WalkSpells
import Derived.WalkLawsBesides
import Derived.Lib.Hide
import Derived.Lib.Mul64
import Derived.Test.YtifapodobhkdcaaAbsC
import Derived.Test.YtifapodobhkdcaaStreamMath
namespace Go.Proofs.Ytifapodobhkdcaa
open Go.RowKit
open StreamMath (sx tb inv)

theorem ret_int {k : IntKind} {a b : Int} (h : a = b) : Ending.returned (.int k a) = .returned (.int k b) := by rw [h]
theorem ret_int2 {k l : IntKind} {a b c d : Int} (h : a = b) (h' : c = d) : Ending.returned (.tuple #[.int k a, .int l c]) = .returned (.tuple #[.int k b, .int l d]) := by rw [h, h']

/-! ### numbers of 64 bits -/
/-- the number that a uint64's bits are, behind a name that the walk does not open -/
def U (x : BitVec 64) : Int := (x.toNat : Int)
theorem U_lo (x : BitVec 64) : 0 ≤ U x := Int.natCast_nonneg _
theorem U_hi (x : BitVec 64) : U x < 18446744073709551616 := by unfold U; have := x.isLt; omega
theorem xor_u64 (x y : BitVec 64) : bits .xor .u64 (U x) (U y) = U (x ^^^ y) := by
  unfold U; rw [bits_xor_u64_nat _ _ (by have := x.isLt; omega) (by have := y.isLt; omega), BitVec.toNat_xor]
theorem shr_u64 (x : BitVec 64) (k m : Nat) (h : m = 2 ^ k) : U x / (m : Int) = U (x >>> k) := by
  unfold U; rw [BitVec.toNat_ushiftRight, Nat.shiftRight_eq_div_pow, h, Int.natCast_ediv]
theorem xs_u64 (x : BitVec 64) (k m : Nat) (h : m = 2 ^ k) : bits .xor .u64 (U x) (U x / (m : Int)) = U (sx k x) := by
  rw [shr_u64 x k m h, xor_u64]; rfl
theorem u64_of (n : Int) : IntKind.u64.wrap n = U (BitVec.ofInt 64 n) := by
  unfold U; rw [IntKind.wrap_u64, BitVec.toNat_ofInt]; omega
theorem ofInt_U (x : BitVec 64) : BitVec.ofInt 64 (U x) = x := by unfold U; rw [BitVec.ofInt_natCast, BitVec.ofNat_toNat, BitVec.setWidth_eq]
theorem mul_u64 (x : BitVec 64) (c : Nat) : IntKind.u64.wrap (U x * (c : Int)) = U (x * BitVec.ofNat 64 c) := by
  rw [u64_of, BitVec.ofInt_mul, ofInt_U, BitVec.ofInt_natCast]
theorem i64_of (x : BitVec 64) : IntKind.i64.wrap (U x) = x.toInt := by
  unfold U; rw [IntKind.wrap_i64]; simp only [BitVec.toInt]; have := x.isLt; split <;> omega
theorem toInt_wf (x : BitVec 64) : -9223372036854775808 ≤ x.toInt ∧ x.toInt ≤ 9223372036854775807 := by
  have h1 := BitVec.le_toInt x; have h2 := BitVec.toInt_lt (x := x); simp at h1 h2; omega

/-! ### the mix -/
theorem mix_calls (z : BitVec 64) (w : World) :
    Calls Try.prog 189 #[.int .u64 (U z)] w fun e w' => e = .returned (.int .u64 (U (StreamMath.mix z))) ∧ w = w' := by
  have x30 : ∀ x : BitVec 64, bits .xor .u64 (U x) (U x / 1073741824) = U (sx 30 x) := fun x => xs_u64 x 30 1073741824 (by decide)
  have x27 : ∀ x : BitVec 64, bits .xor .u64 (U x) (U x / 134217728) = U (sx 27 x) := fun x => xs_u64 x 27 134217728 (by decide)
  have x31 : ∀ x : BitVec 64, bits .xor .u64 (U x) (U x / 2147483648) = U (sx 31 x) := fun x => xs_u64 x 31 2147483648 (by decide)
  have m1 : ∀ x : BitVec 64, IntKind.u64.wrap (U x * 13787848793156543929) = U (x * StreamMath.first) := fun x => mul_u64 x 13787848793156543929
  have m2 : ∀ x : BitVec 64, IntKind.u64.wrap (U x * 10723151780598845931) = U (x * StreamMath.second) := fun x => mul_u64 x 10723151780598845931
  go_enter Try.func189, Try.ntmps189
  go_wp2
  go_ret
  exact ⟨rfl, rfl⟩
theorem refMix_calls (z : BitVec 64) (w : World) :
    Calls Try.prog 192 #[.int .u64 (U z)] w fun e w' => e = .returned (.int .u64 (U (StreamMath.mix z))) ∧ w = w' := by
  have x30 : ∀ x : BitVec 64, bits .xor .u64 (U x) (U x / 1073741824) = U (sx 30 x) := fun x => xs_u64 x 30 1073741824 (by decide)
  have x27 : ∀ x : BitVec 64, bits .xor .u64 (U x) (U x / 134217728) = U (sx 27 x) := fun x => xs_u64 x 27 134217728 (by decide)
  have x31 : ∀ x : BitVec 64, bits .xor .u64 (U x) (U x / 2147483648) = U (sx 31 x) := fun x => xs_u64 x 31 2147483648 (by decide)
  have m1 : ∀ x : BitVec 64, IntKind.u64.wrap (U x * 13787848793156543929) = U (x * StreamMath.first) := fun x => mul_u64 x 13787848793156543929
  have m2 : ∀ x : BitVec 64, IntKind.u64.wrap (U x * 10723151780598845931) = U (x * StreamMath.second) := fun x => mul_u64 x 10723151780598845931
  go_enter Try.func192, Try.ntmps192
  go_wp2
  go_ret
  exact ⟨rfl, rfl⟩

/-- the n-th number of a stream, as bits -/
def numB (seed n : Int) : BitVec 64 := StreamMath.mix (BitVec.ofInt 64 seed + (BitVec.ofInt 64 n + 1#64) * StreamMath.golden)
/-- .. as an int -/
def num (seed n : Int) : Int := (numB seed n).toInt
theorem num_wf (seed n : Int) : -9223372036854775808 ≤ num seed n ∧ num seed n ≤ 9223372036854775807 := toInt_wf _

theorem arg_ith (seed n : Int) : IntKind.u64.wrap (IntKind.u64.wrap seed + IntKind.u64.wrap (IntKind.u64.wrap (IntKind.i64.wrap (n + 1)) * 11400714819323198485)) = U (BitVec.ofInt 64 seed + (BitVec.ofInt 64 n + 1#64) * StreamMath.golden) := by
  have e : BitVec.ofInt 64 (IntKind.i64.wrap (n + 1)) = BitVec.ofInt 64 n + 1#64 := by
    rw [IntKind.wrap_i64]
    have : BitVec.ofInt 64 n + 1#64 = BitVec.ofInt 64 (n + 1) := by rw [BitVec.ofInt_add]; rfl
    rw [this]
    apply BitVec.eq_of_toInt_eq
    rw [BitVec.toInt_ofInt, BitVec.toInt_ofInt]
    simp only [Int.bmod]
    omega
  have em := mul_u64 (BitVec.ofInt 64 (IntKind.i64.wrap (n + 1))) 11400714819323198485
  rw [u64_of (IntKind.i64.wrap (n + 1))]
  rw [show (11400714819323198485 : Int) = ((11400714819323198485 : Nat) : Int) from rfl, em, e, u64_of seed, u64_of, BitVec.ofInt_add, ofInt_U, ofInt_U]
  rfl
theorem arg_num (seed n : Int) : IntKind.u64.wrap (IntKind.u64.wrap seed + IntKind.u64.wrap (IntKind.u64.wrap (IntKind.u64.wrap n + 1) * 11400714819323198485)) = U (BitVec.ofInt 64 seed + (BitVec.ofInt 64 n + 1#64) * StreamMath.golden) := by
  have e : IntKind.u64.wrap (IntKind.u64.wrap n + 1) = U (BitVec.ofInt 64 n + 1#64) := by
    rw [u64_of n, u64_of, BitVec.ofInt_add, ofInt_U]; rfl
  have em := mul_u64 (BitVec.ofInt 64 n + 1#64) 11400714819323198485
  rw [e, show (11400714819323198485 : Int) = ((11400714819323198485 : Nat) : Int) from rfl, em, u64_of seed, u64_of, BitVec.ofInt_add, ofInt_U, ofInt_U]
  rfl

theorem number_calls (seed n : Int) (w : World) :
    Calls Try.prog 183 #[.int .i64 seed, .int .i64 n] w fun e w' => e = .returned (.int .u64 (U (numB seed n))) ∧ w = w' := by
  have h := arg_num seed n
  go_enter Try.func183, Try.ntmps183
  go_wp2_with fail
  refine (refMix_calls _ _).mono ?_
  rintro e w' ⟨rfl, rfl⟩
  go_wp2
  go_ret
  exact ⟨rfl, rfl⟩
theorem ith_calls (seed n : Int) (w : World) :
    Calls Try.prog 171 #[.int .i64 seed, .int .i64 n] w fun e w' => e = .returned (.int .i64 (num seed n)) ∧ w = w' := by
  have h := arg_ith seed n
  rw [IntWalk.i64_left] at h
  have h2 : ∀ x : BitVec 64, IntKind.i64.wrap (U x) = x.toInt := i64_of
  go_enter Try.func171, Try.ntmps171
  go_wp2_with fail
  refine (mix_calls _ _).mono ?_
  rintro e w' ⟨rfl, rfl⟩
  go_wp2
  go_ret
  exact ⟨rfl, rfl⟩

theorem strWithin_t (n lo hi : Int) (w : World) (h1 : lo ≤ n) (h2 : n ≤ hi) :
    Calls Try.prog 124 #[.int .i64 n, .int .i64 lo, .int .i64 hi] w fun e w' => e = .returned (.bool true) ∧ w = w' := by
  go_enter Try.func124, Try.ntmps124
  go_wp2
  go_ret
  exact ⟨rfl, rfl⟩
theorem strWithin_f (n lo hi : Int) (w : World) (h : n < lo ∨ hi < n) :
    Calls Try.prog 124 #[.int .i64 n, .int .i64 lo, .int .i64 hi] w fun e w' => e = .returned (.bool false) ∧ w = w' := by
  by_cases h1 : n < lo
  · go_enter Try.func124, Try.ntmps124
    go_wp2
    go_ret
    exact ⟨rfl, rfl⟩
  · have h2 : hi < n := by omega
    have h3 : decide (n ≤ hi) = false := by simp; omega
    clear h
    go_enter Try.func124, Try.ntmps124
    go_wp2
    go_ret
    exact ⟨by first | rfl | (rw [← h3]; rfl), rfl⟩
/-! ### one number of a stream: a place from 0 to 2^40 -/
def ithV (seed n : Int) : Int := if 0 ≤ n ∧ n ≤ 1099511627776 then num seed n else 0
def ithE (n : Int) : Int := if 0 ≤ n ∧ n ≤ 1099511627776 then 0 else 2
theorem ithV_in {seed n : Int} (h : 0 ≤ n ∧ n ≤ 1099511627776) : ithV seed n = num seed n := if_pos h
theorem ithE_in {n : Int} (h : 0 ≤ n ∧ n ≤ 1099511627776) : ithE n = 0 := if_pos h
theorem ithV_out {seed n : Int} (h : ¬ (0 ≤ n ∧ n ≤ 1099511627776)) : ithV seed n = 0 := if_neg h
theorem ithE_out {n : Int} (h : ¬ (0 ≤ n ∧ n ≤ 1099511627776)) : ithE n = 2 := if_neg h
theorem Ith_calls (seed n : Int) (w : World) :
    Calls Try.prog 123 #[.int .i64 seed, .int .i64 n] w fun e w' => e = .returned (.tuple #[.int .i64 (ithV seed n), .int .i64 (ithE n)]) ∧ w = w' := by
  by_cases h1 : 0 ≤ n
  · by_cases h2 : n ≤ 1099511627776
    · go_enter Try.func123, Try.ntmps123
      go_wp2_with (first | (go_at_call 171; refine (ith_calls _ _ _).mono ?_; rintro e w' ⟨rfl, rfl⟩) | go_in)
      go_ret2
      exact ⟨ret_int2 (ithV_in ⟨h1, h2⟩).symm (ithE_in ⟨h1, h2⟩).symm, rfl⟩
    · go_enter Try.func123, Try.ntmps123
      go_wp2
      go_ret2
      exact ⟨ret_int2 (ithV_out (by omega)).symm (ithE_out (by omega)).symm, rfl⟩
  · go_enter Try.func123, Try.ntmps123
    go_wp2
    go_ret2
    exact ⟨ret_int2 (ithV_out (by omega)).symm (ithE_out (by omega)).symm, rfl⟩
theorem num00 : num 0 0 = -2152535657050944081 := by decide +kernel
theorem First_calls (w : World) : Calls Try.prog 53 #[] w fun e w' => e = .returned (.bool true) ∧ w = w' := by
  have h1 : ithV 0 0 = -2152535657050944081 := (ithV_in (by decide)).trans num00
  have h2 : ithE 0 = 0 := ithE_in (by decide)
  go_enter Try.func53, Try.ntmps53
  go_wp2_with (go_at_call 123; refine (Ith_calls _ _ _).mono ?_; rintro e w' ⟨rfl, rfl⟩)
  go_ret
  exact ⟨rfl, rfl⟩

/-! ### the seed of a sub-stream -/
theorem not_i64 (x : BitVec 64) : bits .xor .i64 (-1) x.toInt = (~~~x).toInt := by
  rw [← i64_of (~~~x)]
  have h : bits .xor .i64 (-1) x.toInt = IntKind.i64.wrap ((BitVec.ofInt 64 (-1) ^^^ BitVec.ofInt 64 x.toInt).toNat : Int) := rfl
  rw [h, BitVec.ofInt_toInt, show BitVec.ofInt 64 (-1) = BitVec.allOnes 64 from by decide, BitVec.allOnes_xor]; rfl
theorem not_u64 (x : BitVec 64) : bits .xor .u64 IntKind.u64.max (U x) = U (~~~x) := by
  rw [show IntKind.u64.max = U (BitVec.allOnes 64) from by decide, xor_u64, BitVec.allOnes_xor]
def subV (seed k : Int) : Int := if 0 ≤ k ∧ k ≤ 1000000 then (~~~(numB seed k)).toInt else 0
def subE (k : Int) : Int := if 0 ≤ k ∧ k ≤ 1000000 then 0 else 2
/-! ### the upper half of a product -/
theorem and32 (n : Int) (h0 : 0 ≤ n) (h : n < 18446744073709551616) : bits .and .u64 n 4294967295 = n % 4294967296 := by
  obtain ⟨m, rfl⟩ := Int.eq_ofNat_of_zero_le h0
  rw [show (4294967295 : Int) = ((4294967295 : Nat) : Int) from rfl, bits_and_u64_nat _ _ (by omega) (by decide), show (4294967295 : Nat) = 2 ^ 32 - 1 from rfl, Nat.and_two_pow_sub_one_eq_mod]
  omega
theorem prod_bd {a b : Int} (ha : 0 ≤ a ∧ a ≤ 4294967295) (hb : 0 ≤ b ∧ b ≤ 4294967295) : 0 ≤ a * b ∧ a * b ≤ 18446744065119617025 :=
  ⟨Int.mul_nonneg ha.1 hb.1, by have := Int.mul_le_mul ha.2 hb.2 hb.1 (by omega); omega⟩
theorem split_int (x y : Int) : x * y = (x / 4294967296 * (y / 4294967296)) * 18446744073709551616 + (x / 4294967296 * (y % 4294967296) + x % 4294967296 * (y / 4294967296)) * 4294967296 + x % 4294967296 * (y % 4294967296) := by
  have hx : x = x / 4294967296 * 4294967296 + x % 4294967296 := by omega
  have hy : y = y / 4294967296 * 4294967296 + y % 4294967296 := by omega
  generalize x / 4294967296 = a at *
  generalize x % 4294967296 = b at *
  generalize y / 4294967296 = c at *
  generalize y % 4294967296 = d at *
  subst hx hy
  rw [Int.add_mul, Int.mul_add, Int.mul_add]
  have e1 : a * 4294967296 * (c * 4294967296) = a * c * 18446744073709551616 := by
    rw [Int.mul_assoc, Int.mul_comm 4294967296, Int.mul_assoc c, ← Int.mul_assoc]; rfl
  have e2 : a * 4294967296 * d = a * d * 4294967296 := by rw [Int.mul_right_comm]
  have e3 : b * (c * 4294967296) = b * c * 4294967296 := by rw [Int.mul_assoc]
  rw [e1, e2, e3]; omega
theorem mul_bits (x y : Int) (hx : 0 ≤ x ∧ x < 18446744073709551616) (hy : 0 ≤ y ∧ y < 18446744073709551616) :
    IntKind.u64.wrap (IntKind.u64.wrap (IntKind.u64.wrap (x / 4294967296 * (y / 4294967296)) +
            IntKind.u64.wrap (IntKind.u64.wrap (x / 4294967296 * bits .and .u64 y 4294967295) + IntKind.u64.wrap (bits .and .u64 x 4294967295 * bits .and .u64 y 4294967295) / 4294967296) / 4294967296) +
        IntKind.u64.wrap (bits .and .u64 (IntKind.u64.wrap (IntKind.u64.wrap (x / 4294967296 * bits .and .u64 y 4294967295) + IntKind.u64.wrap (bits .and .u64 x 4294967295 * bits .and .u64 y 4294967295) / 4294967296)) 4294967295 +
              IntKind.u64.wrap (bits .and .u64 x 4294967295 * (y / 4294967296))) / 4294967296) = x * y / 18446744073709551616 := by
  rw [and32 x hx.1 hx.2, and32 y hy.1 hy.2, split_int x y]
  have b1 := prod_bd (a := x / 4294967296) (b := y / 4294967296) (by omega) (by omega)
  have b2 := prod_bd (a := x / 4294967296) (b := y % 4294967296) (by omega) (by omega)
  have b3 := prod_bd (a := x % 4294967296) (b := y / 4294967296) (by omega) (by omega)
  have b4 := prod_bd (a := x % 4294967296) (b := y % 4294967296) (by omega) (by omega)
  generalize x / 4294967296 * (y / 4294967296) = p at *
  generalize x / 4294967296 * (y % 4294967296) = q at *
  generalize x % 4294967296 * (y / 4294967296) = r at *
  generalize x % 4294967296 * (y % 4294967296) = t at *
  simp only [IntKind.wrap_u64]
  rw [and32 _ (by omega) (by omega)]
  omega
theorem upper_bits (x y : Int) (hx : 0 ≤ x ∧ x < 18446744073709551616) (hy : 0 ≤ y ∧ y < 18446744073709551616) :
    IntKind.u64.wrap (IntKind.u64.wrap (IntKind.u64.wrap (IntKind.u64.wrap (x / 4294967296 * (y / 4294967296)) + IntKind.u64.wrap (x / 4294967296 * bits .and .u64 y 4294967295) / 4294967296) + IntKind.u64.wrap (bits .and .u64 x 4294967295 * (y / 4294967296)) / 4294967296) +
        IntKind.u64.wrap (IntKind.u64.wrap (IntKind.u64.wrap (bits .and .u64 x 4294967295 * bits .and .u64 y 4294967295) / 4294967296 + bits .and .u64 (IntKind.u64.wrap (x / 4294967296 * bits .and .u64 y 4294967295)) 4294967295) +
              bits .and .u64 (IntKind.u64.wrap (bits .and .u64 x 4294967295 * (y / 4294967296))) 4294967295) / 4294967296) = x * y / 18446744073709551616 := by
  rw [and32 x hx.1 hx.2, and32 y hy.1 hy.2, split_int x y]
  have b1 := prod_bd (a := x / 4294967296) (b := y / 4294967296) (by omega) (by omega)
  have b2 := prod_bd (a := x / 4294967296) (b := y % 4294967296) (by omega) (by omega)
  have b3 := prod_bd (a := x % 4294967296) (b := y / 4294967296) (by omega) (by omega)
  have b4 := prod_bd (a := x % 4294967296) (b := y % 4294967296) (by omega) (by omega)
  generalize x / 4294967296 * (y / 4294967296) = p at *
  generalize x / 4294967296 * (y % 4294967296) = q at *
  generalize x % 4294967296 * (y / 4294967296) = r at *
  generalize x % 4294967296 * (y % 4294967296) = t at *
  simp only [IntKind.wrap_u64]
  rw [and32 _ (by omega) (by omega), and32 _ (by omega) (by omega)]
  omega
theorem Mul64_calls (x y : Int) (hx : 0 ≤ x ∧ x < 18446744073709551616) (hy : 0 ≤ y ∧ y < 18446744073709551616) (w : World) :
    Calls Try.prog 172 #[.int .u64 x, .int .u64 y] w fun e w' => e = .returned (.tuple #[.int .u64 (x * y / 18446744073709551616), .int .u64 (IntKind.u64.wrap (x * y))]) ∧ w = w' := by
  have h := mul_bits x y hx hy
  have H := Lib.hid h
  obtain ⟨hx1, hx2⟩ := hx
  obtain ⟨hy1, hy2⟩ := hy
  clear h hx2 hy2
  go_enter Try.func172, Try.ntmps172
  go_wp2
  go_ret2
  exact ⟨ret_int2 H.out rfl, rfl⟩
theorem upper_calls (x y : Int) (hx : 0 ≤ x ∧ x < 18446744073709551616) (hy : 0 ≤ y ∧ y < 18446744073709551616) (w : World) :
    Calls Try.prog 182 #[.int .u64 x, .int .u64 y] w fun e w' => e = .returned (.int .u64 (x * y / 18446744073709551616)) ∧ w = w' := by
  have h := upper_bits x y hx hy
  have H := Lib.hid h
  obtain ⟨hx1, hx2⟩ := hx
  obtain ⟨hy1, hy2⟩ := hy
  clear h hx2 hy2
  go_enter Try.func182, Try.ntmps182
  go_wp2
  go_ret
  exact ⟨ret_int H.out, rfl⟩

/-- the n-th number of a stream, below m -/
def belowV (seed n m : Int) : Int := U (numB seed n) * m / 18446744073709551616
theorem belowV_bd {seed n m : Int} (h1 : 1 ≤ m) : 0 ≤ belowV seed n m ∧ belowV seed n m < m := by
  unfold belowV
  have h0 := U_lo (numB seed n)
  have h2 := U_hi (numB seed n)
  constructor
  · exact Int.ediv_nonneg (Int.mul_nonneg h0 (by omega)) (by decide)
  · apply Int.ediv_lt_of_lt_mul (by decide)
    rw [Int.mul_comm m]
    exact Int.mul_lt_mul_of_pos_right h2 (by omega)
theorem below_calls (seed n m : Int) (h1 : 1 ≤ m) (h2 : m ≤ 2147483648) (w : World) :
    Calls Try.prog 125 #[.int .i64 seed, .int .i64 n, .int .i64 m] w fun e w' => e = .returned (.int .i64 (belowV seed n m)) ∧ w = w' := by
  have hb := belowV_bd (seed := seed) (n := n) h1
  unfold belowV at hb
  obtain ⟨hb1, hb2⟩ := hb
  have hu : IntKind.u64.wrap (num seed n) = U (numB seed n) := by unfold num; rw [u64_of, BitVec.ofInt_toInt]
  have hm : IntKind.u64.wrap m = m := IntWalk.u64_in m (by omega)
  have h0 := U_lo (numB seed n)
  have h3 := U_hi (numB seed n)
  go_enter Try.func125, Try.ntmps125
  go_wp2_with fail
  refine (ith_calls _ _ _).mono ?_
  rintro e w' ⟨rfl, rfl⟩
  clear h3
  go_wp2_with fail
  refine (Mul64_calls _ _ ⟨h0, U_hi _⟩ ⟨by omega, by omega⟩ _).mono ?_
  rintro e w' ⟨rfl, rfl⟩
  go_wp2
  go_ret
  exact ⟨rfl, rfl⟩
theorem refBelow0_calls (seed n m : Int) (h1 : 1 ≤ m) (h2 : m ≤ 2147483648) (w : World) :
    Calls Try.prog 153 #[.int .i64 seed, .int .i64 n, .int .i64 m] w fun e w' => e = .returned (.int .i64 (belowV seed n m)) ∧ w = w' := by
  have hb := belowV_bd (seed := seed) (n := n) h1
  unfold belowV at hb
  obtain ⟨hb1, hb2⟩ := hb
  have hm : IntKind.u64.wrap m = m := IntWalk.u64_in m (by omega)
  have h0 := U_lo (numB seed n)
  go_enter Try.func153, Try.ntmps153
  go_wp2_with fail
  refine (number_calls _ _ _).mono ?_
  rintro e w' ⟨rfl, rfl⟩
  go_wp2_with fail
  refine (upper_calls _ _ ⟨h0, U_hi _⟩ ⟨by omega, by omega⟩ _).mono ?_
  rintro e w' ⟨rfl, rfl⟩
  go_wp2
  go_ret
  exact ⟨rfl, rfl⟩

def belowOk (n m : Int) : Prop := 0 ≤ n ∧ n ≤ 1099511627776 ∧ 1 ≤ m ∧ m ≤ 2147483648
instance (n m : Int) : Decidable (belowOk n m) := by unfold belowOk; infer_instance
def BelowV (seed n m : Int) : Int := if belowOk n m then belowV seed n m else 0
def BelowE (n m : Int) : Int := if belowOk n m then 0 else 2
theorem Below_calls (seed n m : Int) (w : World) :
    Calls Try.prog 54 #[.int .i64 seed, .int .i64 n, .int .i64 m] w fun e w' => e = .returned (.tuple #[.int .i64 (BelowV seed n m), .int .i64 (BelowE n m)]) ∧ w = w' := by
  by_cases h : belowOk n m
  · have e1 := Lib.hid (show BelowV seed n m = belowV seed n m from if_pos h)
    have e2 := Lib.hid (show BelowE n m = 0 from if_pos h)
    obtain ⟨h1, h2, h3, h4⟩ := h
    go_enter Try.func54, Try.ntmps54
    go_wp2_with fail
    refine (strWithin_t _ _ _ _ (by omega) (by omega)).mono ?_
    rintro e w' ⟨rfl, rfl⟩
    go_wp2_with fail
    refine (strWithin_t _ _ _ _ (by omega) (by omega)).mono ?_
    rintro e w' ⟨rfl, rfl⟩
    go_wp2_with fail
    refine (below_calls _ _ _ (by omega) (by omega) _).mono ?_
    rintro e w' ⟨rfl, rfl⟩
    go_wp2
    go_ret2
    exact ⟨ret_int2 e1.out.symm e2.out.symm, rfl⟩
  · have e1 := Lib.hid (show BelowV seed n m = 0 from if_neg h)
    have e2 := Lib.hid (show BelowE n m = 2 from if_neg h)
    by_cases h1 : 0 ≤ n ∧ n ≤ 1099511627776
    · have h3 : m < 1 ∨ 2147483648 < m := by unfold belowOk at h; omega
      obtain ⟨h1, h2⟩ := h1
      clear h
      go_enter Try.func54, Try.ntmps54
      go_wp2_with fail
      refine (strWithin_t _ _ _ _ (by omega) (by omega)).mono ?_
      rintro e w' ⟨rfl, rfl⟩
      go_wp2_with fail
      refine (strWithin_f _ _ _ _ (by omega)).mono ?_
      rintro e w' ⟨rfl, rfl⟩
      go_wp2
      go_ret2
      exact ⟨ret_int2 e1.out.symm e2.out.symm, rfl⟩
    · have h3 : n < 0 ∨ 1099511627776 < n := by omega
      clear h h1
      go_enter Try.func54, Try.ntmps54
      go_wp2_with fail
      refine (strWithin_f _ _ _ _ (by omega)).mono ?_
      rintro e w' ⟨rfl, rfl⟩
      go_wp2
      go_ret2
      exact ⟨ret_int2 e1.out.symm e2.out.symm, rfl⟩
end Go.Proofs.Ytifapodobhkdcaa
