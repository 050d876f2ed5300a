/- Plain mathematics of ranges (no program in sight). -/
namespace Go.Proofs.Ytifapodobhkdcaa
/-- a range -/
structure Rg where
  lo : Int
  hi : Int
  st : Int
/-- a row: the first member, the distance, how many -/
structure Rw where
  f : Int
  s : Int
  n : Int
theorem Rg.ext' {a b : Rg} (h1 : a.lo = b.lo) (h2 : a.hi = b.hi) (h3 : a.st = b.st) : a = b := by cases a; cases b; simp_all
theorem Rw.ext' {a b : Rw} (h1 : a.f = b.f) (h2 : a.s = b.s) (h3 : a.n = b.n) : a = b := by cases a; cases b; simp_all
def Rg.ok (r : Rg) : Prop := -1000000 ≤ r.lo ∧ r.lo ≤ 1000000 ∧ -1000000 ≤ r.hi ∧ r.hi ≤ 1000000 ∧ -1000 ≤ r.st ∧ r.st ≤ 1000 ∧ r.st ≠ 0
instance (r : Rg) : Decidable r.ok := by unfold Rg.ok; infer_instance
/-- 'Valid', behind a name that the walk does not open -/
def vB (r : Rg) : Bool := decide r.ok
theorem vB_true {r : Rg} (h : r.ok) : vB r = true := by simp [vB, h]
theorem vB_false {r : Rg} (h : ¬ r.ok) : vB r = false := by simp [vB, h]
def absI (n : Int) : Int := if n < 0 then -n else n
theorem absI_pos {n : Int} (h : 0 ≤ n) : absI n = n := if_neg (by omega)
theorem absI_neg {n : Int} (h : n < 0) : absI n = -n := if_pos h
theorem absI_bd {n : Int} (h : -1000 ≤ n) (h' : n ≤ 1000) (h0 : n ≠ 0) : 1 ≤ absI n ∧ absI n ≤ 1000 := by unfold absI; split <;> omega
/-- the row of a range -/
def rowOf (r : Rg) : Rw := ⟨if r.st < 0 then r.hi else r.lo, r.st, if r.lo ≤ r.hi then (r.hi - r.lo) / absI r.st + 1 else 0⟩
theorem rowOf_f0 {r : Rg} (h : 0 < r.st) : (rowOf r).f = r.lo := if_neg (by omega)
theorem rowOf_f1 {r : Rg} (h : r.st < 0) : (rowOf r).f = r.hi := if_pos h
theorem rowOf_n0 {r : Rg} (h : r.hi < r.lo) : (rowOf r).n = 0 := if_neg (by omega)
theorem rowOf_n1 {r : Rg} (h : r.lo ≤ r.hi) : (rowOf r).n = (r.hi - r.lo) / absI r.st + 1 := if_pos h
theorem quo_bd {r : Rg} (h : r.ok) (h1 : r.lo ≤ r.hi) : 0 ≤ (r.hi - r.lo) / absI r.st ∧ (r.hi - r.lo) / absI r.st ≤ 2000000 := by
  obtain ⟨a, b, c, d, e, f, g⟩ := h
  have hp : 1 ≤ absI r.st := by unfold absI; split <;> omega
  exact ⟨Int.ediv_nonneg (by omega) (by omega), Int.le_trans (Int.ediv_le_self _ (by omega)) (by omega)⟩
/-- numbers that stay far from the ends of an int -/
def Rw.small (x : Rw) : Prop := -1099511627776 ≤ x.f ∧ x.f ≤ 1099511627776 ∧ -1048576 ≤ x.s ∧ x.s ≤ 1048576 ∧ 0 ≤ x.n ∧ x.n ≤ 4194304
theorem prod_small {a b : Int} (h1 : -4194304 ≤ a) (h2 : a ≤ 4194304) (h3 : -1048576 ≤ b) (h4 : b ≤ 1048576) : -4398046511104 ≤ a * b ∧ a * b ≤ 4398046511104 := by
  have e : a * b = (a + 4194304) * (b + 1048576) - 1048576 * a - 4194304 * b - 4398046511104 := by
    rw [Int.add_mul, Int.mul_add, Int.mul_add]; omega
  have k1 : 0 ≤ (a + 4194304) * (b + 1048576) := Int.mul_nonneg (by omega) (by omega)
  have k2 : 0 ≤ (4194304 - a) * (1048576 - b) := Int.mul_nonneg (by omega) (by omega)
  have k3 : 0 ≤ (a + 4194304) * (1048576 - b) := Int.mul_nonneg (by omega) (by omega)
  have k4 : 0 ≤ (4194304 - a) * (b + 1048576) := Int.mul_nonneg (by omega) (by omega)
  rw [Int.sub_mul, Int.mul_sub, Int.mul_sub] at k2
  rw [Int.add_mul, Int.mul_sub, Int.mul_sub] at k3
  rw [Int.sub_mul, Int.mul_add, Int.mul_add] at k4
  rw [Int.add_mul, Int.mul_add, Int.mul_add] at k1
  constructor <;> omega
def atOf (x : Rw) (i : Int) : Int := x.f + i * x.s
def lastOf (x : Rw) : Int := x.f + (x.n - 1) * x.s
def canonOf (x : Rw) : Rg := if x.n = 0 then ⟨1, 0, 1⟩ else if x.n = 1 then ⟨x.f, x.f, 1⟩ else ⟨if x.f ≤ lastOf x then x.f else lastOf x, if x.f ≤ lastOf x then lastOf x else x.f, x.s⟩
theorem last_ne {x : Rw} (h : 2 ≤ x.n) (hs : x.s ≠ 0) : x.f ≠ lastOf x := by
  unfold lastOf
  have : (x.n - 1) * x.s ≠ 0 := Int.mul_ne_zero (by omega) hs
  omega
theorem canonOf_0 {x : Rw} (h : x.n = 0) : canonOf x = ⟨1, 0, 1⟩ := if_pos h
theorem canonOf_1 {x : Rw} (h : x.n = 1) : canonOf x = ⟨x.f, x.f, 1⟩ := by rw [canonOf, if_neg (by omega), if_pos h]
theorem canonOf_up {x : Rw} (h : 2 ≤ x.n) (hl : x.f ≤ lastOf x) : canonOf x = ⟨x.f, lastOf x, x.s⟩ := by rw [canonOf, if_neg (by omega), if_neg (by omega), if_pos hl, if_pos hl]
theorem canonOf_down {x : Rw} (h : 2 ≤ x.n) (hl : ¬ x.f ≤ lastOf x) : canonOf x = ⟨lastOf x, x.f, x.s⟩ := by rw [canonOf, if_neg (by omega), if_neg (by omega), if_neg hl, if_neg hl]
def partOf (x : Rw) (i n : Int) : Rw := ⟨atOf x i, x.s, n⟩
def backOf (x : Rw) : Rw := if x.n = 0 then x else ⟨lastOf x, -x.s, x.n⟩
theorem backOf_0 {x : Rw} (h : x.n = 0) : backOf x = x := if_pos h
theorem backOf_1 {x : Rw} (h : x.n ≠ 0) : backOf x = ⟨lastOf x, -x.s, x.n⟩ := if_neg h
def doneV (x : Rw) : Rg := if vB (canonOf x) = true then canonOf x else ⟨0, 0, 0⟩
def doneE (x : Rw) : Int := if vB (canonOf x) = true then 0 else 30
theorem done_yes {x : Rw} (h : vB (canonOf x) = true) : doneV x = canonOf x ∧ doneE x = 0 := ⟨if_pos h, if_pos h⟩
theorem done_no {x : Rw} (h : vB (canonOf x) = false) : doneV x = ⟨0, 0, 0⟩ ∧ doneE x = 30 := by rw [doneV, doneE, h]; exact ⟨rfl, rfl⟩
theorem rowOf_small {r : Rg} (h : r.ok) : (rowOf r).small ∧ (rowOf r).s ≠ 0 := by
  have hq := quo_bd h
  obtain ⟨a, b, c, d, e, f, g⟩ := h
  refine ⟨?_, g⟩
  unfold Rw.small rowOf
  simp only
  refine ⟨by split <;> omega, by split <;> omega, by omega, by omega, ?_⟩
  split
  · rename_i hle; have := hq hle; omega
  · omega
theorem tdiv_bd {a b : Int} (h1 : -4398046511104 ≤ a) (h2 : a ≤ 4398046511104) : -4398046511104 ≤ a.tdiv b ∧ a.tdiv b ≤ 4398046511104 := by
  have h := Int.natAbs_tdiv a b
  have h' : a.natAbs.div b.natAbs ≤ a.natAbs := Nat.div_le_self _ _
  rw [← h] at h'
  clear h
  generalize a.tdiv b = q at *
  omega
/-- which member a number is; -1: none -/
def isAt (x : Rw) (m : Int) : Prop := x.n ≠ 0 ∧ (m - x.f).tmod x.s = 0
instance (x : Rw) (m : Int) : Decidable (isAt x m) := by unfold isAt; infer_instance
def placeI (x : Rw) (m : Int) : Int := if isAt x m then (m - x.f).tdiv x.s else 0
def placeB (x : Rw) (m : Int) : Bool := decide (isAt x m ∧ 0 ≤ (m - x.f).tdiv x.s ∧ (m - x.f).tdiv x.s ≤ x.n - 1)
/-- what Take takes: how many stand in front, how many these are -/
def cutF (x : Rw) (k : Int) : Int := if 0 ≤ k then 0 else if k < -x.n then 0 else x.n + k
def cutN (x : Rw) (k : Int) : Int := if 0 ≤ k then (if k ≤ x.n then k else x.n) else if k < -x.n then x.n else -k
/-- the reference's row: the distance of less than two members is 1 -/
def refOf (r : Rg) : Rw := ⟨(rowOf r).f, if (rowOf r).n < 2 then 1 else r.st, (rowOf r).n⟩
theorem refOf_small {r : Rg} (h : r.ok) : (refOf r).small ∧ (refOf r).s ≠ 0 := by
  obtain ⟨⟨a, b, c, d, e, f⟩, g⟩ := rowOf_small h
  have hs : (refOf r).s = 1 ∨ (refOf r).s = r.st := by
    unfold refOf; simp only; split
    · exact .inl rfl
    · exact .inr rfl
  have h1 : (rowOf r).s = r.st := rfl
  have h2 := h.2.2.2.2.2.2
  refine ⟨⟨a, b, ?_, ?_, e, f⟩, ?_⟩ <;> rcases hs with h' | h' <;> rw [h'] <;> omega
/-! ### what the functions return -/
def canonRes (r : Rg) : Rg × Int := if vB r = true then (canonOf (rowOf r), 0) else (⟨0, 0, 0⟩, 30)
def countRes (r : Rg) : Int × Int := if vB r = true then ((rowOf r).n, 0) else (0, 30)
def ithRes (r : Rg) (i : Int) : Int × Int := if vB r = true then (if 0 ≤ i ∧ i ≤ (rowOf r).n - 1 then (atOf (rowOf r) i, 0) else (0, 2)) else (0, 30)
def placeRes (r : Rg) (m : Int) : Int × Int := if vB r = true then (if -1000000 ≤ m ∧ m ≤ 1000000 then (if placeB (rowOf r) m = true then (placeI (rowOf r) m, 0) else (0, 5)) else (0, 5)) else (0, 30)
def hasRes (r : Rg) (m : Int) : Bool × Int := if vB r = true then (decide ((placeRes r m).2 = 0), 0) else (false, 30)
theorem placeRes_cases (r : Rg) (m : Int) : ((placeRes r m).2 = 0 ∧ hasRes r m = (true, 0)) ∨ ((placeRes r m).2 = 5 ∧ hasRes r m = (false, 0)) ∨ ((placeRes r m).2 = 30 ∧ hasRes r m = (false, 30)) := by
  by_cases hv : vB r = true
  · have hh : hasRes r m = (decide ((placeRes r m).2 = 0), 0) := if_pos hv
    have hp : (placeRes r m).2 = 0 ∨ (placeRes r m).2 = 5 := by
      rw [placeRes, if_pos hv]; split
      · split
        · exact .inl rfl
        · exact .inr rfl
      · exact .inr rfl
    rcases hp with h | h
    · exact .inl ⟨h, by rw [hh, h]; rfl⟩
    · exact .inr (.inl ⟨h, by rw [hh, h]; rfl⟩)
  · exact .inr (.inr ⟨by rw [placeRes, if_neg hv], if_neg hv⟩)
end Go.Proofs.Ytifapodobhkdcaa
