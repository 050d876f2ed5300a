/- Plain laws of distributions: owners, runs of a list, the ranges and indexes of parts (no program in sight). -/

namespace Go.Proofs.Ytpomhnmfkdgafaa
/-- a range -/
structure Rg where
  lo : Int
  hi : Int
  st : Int
/-- a row: the first member, the distance, how many -/
structure Rw where
  f : Int
  s : Int
  n : Int
theorem Rg.ext' {a b : Rg} (h1 : a.lo = b.lo) (h2 : a.hi = b.hi) (h3 : a.st = b.st) : a = b := by cases a; cases b; simp_all
theorem Rw.ext' {a b : Rw} (h1 : a.f = b.f) (h2 : a.s = b.s) (h3 : a.n = b.n) : a = b := by cases a; cases b; simp_all
def Rg.ok (r : Rg) : Prop := -1000000 ≤ r.lo ∧ r.lo ≤ 1000000 ∧ -1000000 ≤ r.hi ∧ r.hi ≤ 1000000 ∧ -1000 ≤ r.st ∧ r.st ≤ 1000 ∧ r.st ≠ 0
instance (r : Rg) : Decidable r.ok := by unfold Rg.ok; infer_instance
/-- 'Valid', behind a name that the walk does not open -/
def vB (r : Rg) : Bool := decide r.ok
theorem vB_true {r : Rg} (h : r.ok) : vB r = true := by simp [vB, h]
theorem vB_false {r : Rg} (h : ¬ r.ok) : vB r = false := by simp [vB, h]
def absI (n : Int) : Int := if n < 0 then -n else n
theorem absI_pos {n : Int} (h : 0 ≤ n) : absI n = n := if_neg (by omega)
theorem absI_neg {n : Int} (h : n < 0) : absI n = -n := if_pos h
theorem absI_bd {n : Int} (h : -1000 ≤ n) (h' : n ≤ 1000) (h0 : n ≠ 0) : 1 ≤ absI n ∧ absI n ≤ 1000 := by unfold absI; split <;> omega
/-- the row of a range -/
def rowOf (r : Rg) : Rw := ⟨if r.st < 0 then r.hi else r.lo, r.st, if r.lo ≤ r.hi then (r.hi - r.lo) / absI r.st + 1 else 0⟩
theorem rowOf_f0 {r : Rg} (h : 0 < r.st) : (rowOf r).f = r.lo := if_neg (by omega)
theorem rowOf_f1 {r : Rg} (h : r.st < 0) : (rowOf r).f = r.hi := if_pos h
theorem rowOf_n0 {r : Rg} (h : r.hi < r.lo) : (rowOf r).n = 0 := if_neg (by omega)
theorem rowOf_n1 {r : Rg} (h : r.lo ≤ r.hi) : (rowOf r).n = (r.hi - r.lo) / absI r.st + 1 := if_pos h
theorem quo_bd {r : Rg} (h : r.ok) (h1 : r.lo ≤ r.hi) : 0 ≤ (r.hi - r.lo) / absI r.st ∧ (r.hi - r.lo) / absI r.st ≤ 2000000 := by
  obtain ⟨a, b, c, d, e, f, g⟩ := h
  have hp : 1 ≤ absI r.st := by unfold absI; split <;> omega
  exact ⟨Int.ediv_nonneg (by omega) (by omega), Int.le_trans (Int.ediv_le_self _ (by omega)) (by omega)⟩
/-- numbers that stay far from the ends of an int -/
def Rw.small (x : Rw) : Prop := -1099511627776 ≤ x.f ∧ x.f ≤ 1099511627776 ∧ -1048576 ≤ x.s ∧ x.s ≤ 1048576 ∧ 0 ≤ x.n ∧ x.n ≤ 4194304
theorem prod_small {a b : Int} (h1 : -4194304 ≤ a) (h2 : a ≤ 4194304) (h3 : -1048576 ≤ b) (h4 : b ≤ 1048576) : -4398046511104 ≤ a * b ∧ a * b ≤ 4398046511104 := by
  have e : a * b = (a + 4194304) * (b + 1048576) - 1048576 * a - 4194304 * b - 4398046511104 := by
    rw [Int.add_mul, Int.mul_add, Int.mul_add]; omega
  have k1 : 0 ≤ (a + 4194304) * (b + 1048576) := Int.mul_nonneg (by omega) (by omega)
  have k2 : 0 ≤ (4194304 - a) * (1048576 - b) := Int.mul_nonneg (by omega) (by omega)
  have k3 : 0 ≤ (a + 4194304) * (1048576 - b) := Int.mul_nonneg (by omega) (by omega)
  have k4 : 0 ≤ (4194304 - a) * (b + 1048576) := Int.mul_nonneg (by omega) (by omega)
  rw [Int.sub_mul, Int.mul_sub, Int.mul_sub] at k2
  rw [Int.add_mul, Int.mul_sub, Int.mul_sub] at k3
  rw [Int.sub_mul, Int.mul_add, Int.mul_add] at k4
  rw [Int.add_mul, Int.mul_add, Int.mul_add] at k1
  constructor <;> omega
def atOf (x : Rw) (i : Int) : Int := x.f + i * x.s
def lastOf (x : Rw) : Int := x.f + (x.n - 1) * x.s
def canonOf (x : Rw) : Rg := if x.n = 0 then ⟨1, 0, 1⟩ else if x.n = 1 then ⟨x.f, x.f, 1⟩ else ⟨if x.f ≤ lastOf x then x.f else lastOf x, if x.f ≤ lastOf x then lastOf x else x.f, x.s⟩
theorem last_ne {x : Rw} (h : 2 ≤ x.n) (hs : x.s ≠ 0) : x.f ≠ lastOf x := by
  unfold lastOf
  have : (x.n - 1) * x.s ≠ 0 := Int.mul_ne_zero (by omega) hs
  omega
theorem canonOf_0 {x : Rw} (h : x.n = 0) : canonOf x = ⟨1, 0, 1⟩ := if_pos h
theorem canonOf_1 {x : Rw} (h : x.n = 1) : canonOf x = ⟨x.f, x.f, 1⟩ := by rw [canonOf, if_neg (by omega), if_pos h]
theorem canonOf_up {x : Rw} (h : 2 ≤ x.n) (hl : x.f ≤ lastOf x) : canonOf x = ⟨x.f, lastOf x, x.s⟩ := by rw [canonOf, if_neg (by omega), if_neg (by omega), if_pos hl, if_pos hl]
theorem canonOf_down {x : Rw} (h : 2 ≤ x.n) (hl : ¬ x.f ≤ lastOf x) : canonOf x = ⟨lastOf x, x.f, x.s⟩ := by rw [canonOf, if_neg (by omega), if_neg (by omega), if_neg hl, if_neg hl]
def partOf (x : Rw) (i n : Int) : Rw := ⟨atOf x i, x.s, n⟩
def backOf (x : Rw) : Rw := if x.n = 0 then x else ⟨lastOf x, -x.s, x.n⟩
theorem backOf_0 {x : Rw} (h : x.n = 0) : backOf x = x := if_pos h
theorem backOf_1 {x : Rw} (h : x.n ≠ 0) : backOf x = ⟨lastOf x, -x.s, x.n⟩ := if_neg h
def doneV (x : Rw) : Rg := if vB (canonOf x) = true then canonOf x else ⟨0, 0, 0⟩
def doneE (x : Rw) : Int := if vB (canonOf x) = true then 0 else 30
theorem done_yes {x : Rw} (h : vB (canonOf x) = true) : doneV x = canonOf x ∧ doneE x = 0 := ⟨if_pos h, if_pos h⟩
theorem done_no {x : Rw} (h : vB (canonOf x) = false) : doneV x = ⟨0, 0, 0⟩ ∧ doneE x = 30 := by rw [doneV, doneE, h]; exact ⟨rfl, rfl⟩
theorem rowOf_small {r : Rg} (h : r.ok) : (rowOf r).small ∧ (rowOf r).s ≠ 0 := by
  have hq := quo_bd h
  obtain ⟨a, b, c, d, e, f, g⟩ := h
  refine ⟨?_, g⟩
  unfold Rw.small rowOf
  simp only
  refine ⟨by split <;> omega, by split <;> omega, by omega, by omega, ?_⟩
  split
  · rename_i hle; have := hq hle; omega
  · omega
theorem tdiv_bd {a b : Int} (h1 : -4398046511104 ≤ a) (h2 : a ≤ 4398046511104) : -4398046511104 ≤ a.tdiv b ∧ a.tdiv b ≤ 4398046511104 := by
  have h := Int.natAbs_tdiv a b
  have h' : a.natAbs.div b.natAbs ≤ a.natAbs := Nat.div_le_self _ _
  rw [← h] at h'
  clear h
  generalize a.tdiv b = q at *
  omega
/-- which member a number is; -1: none -/
def isAt (x : Rw) (m : Int) : Prop := x.n ≠ 0 ∧ (m - x.f).tmod x.s = 0
instance (x : Rw) (m : Int) : Decidable (isAt x m) := by unfold isAt; infer_instance
def placeI (x : Rw) (m : Int) : Int := if isAt x m then (m - x.f).tdiv x.s else 0
def placeB (x : Rw) (m : Int) : Bool := decide (isAt x m ∧ 0 ≤ (m - x.f).tdiv x.s ∧ (m - x.f).tdiv x.s ≤ x.n - 1)
/-- what Take takes: how many stand in front, how many these are -/
def cutF (x : Rw) (k : Int) : Int := if 0 ≤ k then 0 else if k < -x.n then 0 else x.n + k
def cutN (x : Rw) (k : Int) : Int := if 0 ≤ k then (if k ≤ x.n then k else x.n) else if k < -x.n then x.n else -k
/-- the reference's row: the distance of less than two members is 1 -/
def refOf (r : Rg) : Rw := ⟨(rowOf r).f, if (rowOf r).n < 2 then 1 else r.st, (rowOf r).n⟩
theorem refOf_small {r : Rg} (h : r.ok) : (refOf r).small ∧ (refOf r).s ≠ 0 := by
  obtain ⟨⟨a, b, c, d, e, f⟩, g⟩ := rowOf_small h
  have hs : (refOf r).s = 1 ∨ (refOf r).s = r.st := by
    unfold refOf; simp only; split
    · exact .inl rfl
    · exact .inr rfl
  have h1 : (rowOf r).s = r.st := rfl
  have h2 := h.2.2.2.2.2.2
  refine ⟨⟨a, b, ?_, ?_, e, f⟩, ?_⟩ <;> rcases hs with h' | h' <;> rw [h'] <;> omega
/-! ### what the functions return -/
def canonRes (r : Rg) : Rg × Int := if vB r = true then (canonOf (rowOf r), 0) else (⟨0, 0, 0⟩, 30)
def countRes (r : Rg) : Int × Int := if vB r = true then ((rowOf r).n, 0) else (0, 30)
def ithRes (r : Rg) (i : Int) : Int × Int := if vB r = true then (if 0 ≤ i ∧ i ≤ (rowOf r).n - 1 then (atOf (rowOf r) i, 0) else (0, 2)) else (0, 30)
def placeRes (r : Rg) (m : Int) : Int × Int := if vB r = true then (if -1000000 ≤ m ∧ m ≤ 1000000 then (if placeB (rowOf r) m = true then (placeI (rowOf r) m, 0) else (0, 5)) else (0, 5)) else (0, 30)
def hasRes (r : Rg) (m : Int) : Bool × Int := if vB r = true then (decide ((placeRes r m).2 = 0), 0) else (false, 30)
theorem placeRes_cases (r : Rg) (m : Int) : ((placeRes r m).2 = 0 ∧ hasRes r m = (true, 0)) ∨ ((placeRes r m).2 = 5 ∧ hasRes r m = (false, 0)) ∨ ((placeRes r m).2 = 30 ∧ hasRes r m = (false, 30)) := by
  by_cases hv : vB r = true
  · have hh : hasRes r m = (decide ((placeRes r m).2 = 0), 0) := if_pos hv
    have hp : (placeRes r m).2 = 0 ∨ (placeRes r m).2 = 5 := by
      rw [placeRes, if_pos hv]; split
      · split
        · exact .inl rfl
        · exact .inr rfl
      · exact .inr rfl
    rcases hp with h | h
    · exact .inl ⟨h, by rw [hh, h]; rfl⟩
    · exact .inr (.inl ⟨h, by rw [hh, h]; rfl⟩)
  · exact .inr (.inr ⟨by rw [placeRes, if_neg hv], if_neg hv⟩)
end Go.Proofs.Ytpomhnmfkdgafaa
namespace Go.Proofs.Ytpomhnmfkdgafaa
set_option linter.unusedVariables false
theorem row_in {r : Rg} (h : r.ok) (h1 : r.lo ≤ r.hi) : r.lo ≤ (rowOf r).f ∧ (rowOf r).f ≤ r.hi ∧ r.lo ≤ lastOf (rowOf r) ∧ lastOf (rowOf r) ≤ r.hi := by
  have hq := quo_bd h h1
  have hn : (rowOf r).n - 1 = (r.hi - r.lo) / absI r.st := by rw [rowOf_n1 h1]; omega
  have hs : (rowOf r).s = r.st := rfl
  have h9 := h.2.2.2.2.2.2
  by_cases hp : 0 < r.st
  · have ha := absI_pos (n := r.st) (by omega)
    rw [lastOf, hn, hs, rowOf_f0 hp, ha]
    rw [ha] at hq
    have e := Int.ediv_mul_le (r.hi - r.lo) (b := r.st) (by omega)
    have e0 : 0 ≤ (r.hi - r.lo) / r.st * r.st := Int.mul_nonneg hq.1 (by omega)
    omega
  · have ha := absI_neg (n := r.st) (by omega)
    rw [lastOf, hn, hs, rowOf_f1 (by omega), ha]
    rw [ha] at hq
    have e := Int.ediv_mul_le (r.hi - r.lo) (b := -r.st) (by omega)
    have e0 : 0 ≤ (r.hi - r.lo) / (-r.st) * (-r.st) := Int.mul_nonneg hq.1 (by omega)
    rw [Int.mul_neg] at e e0
    omega
theorem row_n {r : Rg} (h : r.ok) : ((rowOf r).n = 0 ∧ r.hi < r.lo) ∨ (1 ≤ (rowOf r).n ∧ r.lo ≤ r.hi) := by
  by_cases h1 : r.lo ≤ r.hi
  · have := quo_bd h h1
    rw [rowOf_n1 h1]; omega
  · exact .inl ⟨rowOf_n0 (by omega), by omega⟩
theorem canon_ok {r : Rg} (h : r.ok) : (canonOf (rowOf r)).ok := by
  rcases row_n h with ⟨hn, _⟩ | ⟨hn, hle⟩
  · rw [canonOf_0 hn]; decide
  · obtain ⟨a, b, c, d⟩ := row_in h hle
    obtain ⟨h1, h2, h3, h4, h5, h6, h7⟩ := h
    by_cases h1' : (rowOf r).n = 1
    · rw [canonOf_1 h1']
      refine ⟨?_, ?_, ?_, ?_, ?_, ?_, ?_⟩ <;> simp only <;> omega
    · have hs : (rowOf r).s = r.st := rfl
      by_cases hl : (rowOf r).f ≤ lastOf (rowOf r)
      · rw [canonOf_up (by omega) hl]
        refine ⟨?_, ?_, ?_, ?_, ?_, ?_, ?_⟩ <;> simp only <;> omega
      · rw [canonOf_down (by omega) hl]
        refine ⟨?_, ?_, ?_, ?_, ?_, ?_, ?_⟩ <;> simp only <;> omega
theorem ref_s {r : Rg} (h : 2 ≤ (rowOf r).n) : refOf r = rowOf r := by
  have e : (refOf r).s = (rowOf r).s := if_neg (by omega)
  exact Rw.ext' rfl e rfl
theorem canon_ref {r : Rg} (h : r.ok) : canonOf (refOf r) = canonOf (rowOf r) := by
  have hn : (refOf r).n = (rowOf r).n := rfl
  have hf : (refOf r).f = (rowOf r).f := rfl
  by_cases h0 : (rowOf r).n = 0
  · rw [canonOf_0 h0, canonOf_0 (hn.trans h0)]
  by_cases h1 : (rowOf r).n = 1
  · rw [canonOf_1 h1, canonOf_1 (hn.trans h1), hf]
  · rw [ref_s (by rcases row_n h with h | h <;> omega)]
theorem done_ref {r : Rg} (h : r.ok) : doneV (refOf r) = canonOf (rowOf r) ∧ doneE (refOf r) = 0 := by
  have hc := canon_ref h
  have hv : vB (canonOf (refOf r)) = true := by rw [hc]; exact vB_true (canon_ok h)
  rw [← hc]; exact done_yes hv
theorem at_ref {r : Rg} (h : r.ok) {i : Int} (h0 : 0 ≤ i) (hi : i ≤ (rowOf r).n - 1) : atOf (refOf r) i = atOf (rowOf r) i := by
  by_cases h2 : 2 ≤ (rowOf r).n
  · rw [ref_s h2]
  · have : i = 0 := by omega
    subst this
    simp [atOf, refOf]
/-- the reference's test of a place -/
theorem place_ref {r : Rg} (h : r.ok) (m : Int) : ((m - (refOf r).f).tmod (refOf r).s = 0 ∧ 0 ≤ (m - (refOf r).f).tdiv (refOf r).s ∧ (m - (refOf r).f).tdiv (refOf r).s < (refOf r).n ↔ placeB (rowOf r) m = true) ∧
    (placeB (rowOf r) m = true → (m - (refOf r).f).tdiv (refOf r).s = placeI (rowOf r) m) := by
  have hn : (refOf r).n = (rowOf r).n := rfl
  have hf : (refOf r).f = (rowOf r).f := rfl
  have hB : placeB (rowOf r) m = true ↔ (isAt (rowOf r) m ∧ 0 ≤ (m - (rowOf r).f).tdiv (rowOf r).s ∧ (m - (rowOf r).f).tdiv (rowOf r).s ≤ (rowOf r).n - 1) := by simp [placeB]
  by_cases h2 : 2 ≤ (rowOf r).n
  · rw [ref_s h2, hB]
    refine ⟨⟨fun ⟨a, b, c⟩ => ⟨⟨by omega, a⟩, b, by omega⟩, fun ⟨⟨a, b⟩, c, d⟩ => ⟨b, c, by omega⟩⟩, fun ⟨a, _⟩ => ?_⟩
    rw [placeI, if_pos a]
  · have hs : (refOf r).s = 1 := if_pos (by omega)
    rw [hs, hn, hf, Int.tmod_one, Int.tdiv_one]
    have h9 := h.2.2.2.2.2.2
    have hst : (rowOf r).s = r.st := rfl
    rcases row_n h with ⟨h0, _⟩ | ⟨h1, _⟩
    · rw [h0]
      have hno : ¬ placeB (rowOf r) m = true := by rw [hB]; exact fun h => h.1.1 h0
      exact ⟨⟨fun ⟨_, a, b⟩ => by omega, fun h => absurd h hno⟩, fun h => absurd h hno⟩
    · have h1' : (rowOf r).n = 1 := by omega
      rw [h1']
      have key : placeB (rowOf r) m = true ↔ m - (rowOf r).f = 0 := by
        rw [hB, h1', hst]
        constructor
        · rintro ⟨⟨_, a⟩, b, c⟩
          rw [hst] at a
          have hz : (m - (rowOf r).f).tdiv r.st = 0 := by omega
          have := Int.mul_tdiv_add_tmod (m - (rowOf r).f) r.st
          rw [hz, a] at this; omega
        · intro e
          refine ⟨⟨by omega, ?_⟩, ?_, ?_⟩
          · rw [e, Int.zero_tmod]
          · rw [e, Int.zero_tdiv]; omega
          · rw [e, Int.zero_tdiv]; omega
      rw [key]
      refine ⟨⟨fun ⟨_, a, b⟩ => by omega, fun e => ⟨rfl, by omega, by omega⟩⟩, fun e => ?_⟩
      have ha : isAt (rowOf r) m := by
        refine ⟨by omega, ?_⟩
        rw [e, Int.zero_tmod]
      rw [placeI, if_pos ha, e, Int.zero_tdiv]
theorem prod_bd' {a b : Int} (h1 : -4096 ≤ a) (h2 : a ≤ 4096) (h3 : -1000 ≤ b) (h4 : b ≤ 1000) : -4096000 ≤ a * b ∧ a * b ≤ 4096000 := by
  have k1 : 0 ≤ (a + 4096) * (b + 1000) := Int.mul_nonneg (by omega) (by omega)
  have k2 : 0 ≤ (4096 - a) * (1000 - b) := Int.mul_nonneg (by omega) (by omega)
  have k3 : 0 ≤ (a + 4096) * (1000 - b) := Int.mul_nonneg (by omega) (by omega)
  have k4 : 0 ≤ (4096 - a) * (b + 1000) := Int.mul_nonneg (by omega) (by omega)
  rw [Int.sub_mul, Int.mul_sub, Int.mul_sub] at k2
  rw [Int.add_mul, Int.mul_sub, Int.mul_sub] at k3
  rw [Int.sub_mul, Int.mul_add, Int.mul_add] at k4
  rw [Int.add_mul, Int.mul_add, Int.mul_add] at k1
  constructor <;> omega
theorem rowOf_f_bd {r : Rg} (h : r.ok) : -1000000 ≤ (rowOf r).f ∧ (rowOf r).f ≤ 1000000 := by
  obtain ⟨h1, h2, h3, h4, h5, h6, h7⟩ := h
  unfold rowOf; simp only; split <;> omega
theorem rowOf_n_bd {r : Rg} (h : r.ok) : 0 ≤ (rowOf r).n ∧ (rowOf r).n ≤ 2000001 := by
  by_cases h1 : r.lo ≤ r.hi
  · have := quo_bd h h1; rw [rowOf_n1 h1]; omega
  · rw [rowOf_n0 (by omega)]; omega
theorem refOf_s_bd {r : Rg} (h : r.ok) : -1000 ≤ (refOf r).s ∧ (refOf r).s ≤ 1000 ∧ (refOf r).s ≠ 0 := by
  obtain ⟨h1, h2, h3, h4, h5, h6, h7⟩ := h
  unfold refOf; simp only; split <;> omega
/-- the distance of less than two members does not matter -/
theorem canonOf_few {f s s' n : Int} (h : n = 0 ∨ n = 1) : canonOf ⟨f, s, n⟩ = canonOf ⟨f, s', n⟩ := by
  rcases h with h | h
  · rw [canonOf_0 h, canonOf_0 h]
  · rw [canonOf_1 h, canonOf_1 h]
theorem done_few {f s s' n : Int} (h : n = 0 ∨ n = 1) : doneV ⟨f, s, n⟩ = doneV ⟨f, s', n⟩ ∧ doneE ⟨f, s, n⟩ = doneE ⟨f, s', n⟩ := by
  unfold doneV doneE; rw [canonOf_few h]; exact ⟨rfl, rfl⟩
theorem row_few {r : Rg} (h : r.ok) : refOf r = rowOf r ∨ ((rowOf r).n = 0 ∨ (rowOf r).n = 1) := by
  by_cases h2 : 2 ≤ (rowOf r).n
  · exact .inl (ref_s h2)
  · right; have := rowOf_n_bd h; omega
/-! ### Shift and Expand -/
def shiftRes (r : Rg) (k : Int) : Rg × Int := if vB r = true then (if -1000000 ≤ k ∧ k ≤ 1000000 then (doneV ⟨(rowOf r).f + k, (rowOf r).s, (rowOf r).n⟩, doneE ⟨(rowOf r).f + k, (rowOf r).s, (rowOf r).n⟩) else (⟨0, 0, 0⟩, 2)) else (⟨0, 0, 0⟩, 30)
theorem shift_ref {r : Rg} (h : r.ok) (k : Int) : doneV ⟨(refOf r).f + k, (refOf r).s, (refOf r).n⟩ = doneV ⟨(rowOf r).f + k, (rowOf r).s, (rowOf r).n⟩ ∧ doneE ⟨(refOf r).f + k, (refOf r).s, (refOf r).n⟩ = doneE ⟨(rowOf r).f + k, (rowOf r).s, (rowOf r).n⟩ := by
  rcases row_few h with e | e
  · rw [e]; exact ⟨rfl, rfl⟩
  · exact done_few e
theorem lastOf_abs {x : Rw} (h : 2 ≤ x.n) (hs : x.s ≠ 0) : (if x.f ≤ lastOf x then lastOf x - x.f else x.f - lastOf x) = (x.n - 1) * absI x.s ∧ (0 < x.s → x.f ≤ lastOf x) ∧ (x.s < 0 → ¬ x.f ≤ lastOf x) := by
  have e : lastOf x = x.f + (x.n - 1) * x.s := rfl
  by_cases hp : 0 < x.s
  · have h1 : 0 < (x.n - 1) * x.s := Int.mul_pos (by omega) hp
    rw [absI_pos (by omega)]
    refine ⟨?_, fun _ => by omega, fun h => by omega⟩
    rw [if_pos (by omega)]; omega
  · have h1 : 0 < (x.n - 1) * (-x.s) := Int.mul_pos (by omega) (by omega)
    rw [absI_neg (by omega)]
    rw [Int.mul_neg] at h1 ⊢
    refine ⟨?_, fun h => by omega, fun _ => by omega⟩
    rw [if_neg (by omega)]; omega
/-- the row of the canonical range is the reference's row -/
theorem row_canon {r : Rg} (h : r.ok) (hn : 1 ≤ (rowOf r).n) : rowOf (canonOf (rowOf r)) = refOf r := by
  by_cases h1 : (rowOf r).n = 1
  · rw [canonOf_1 h1]
    refine Rw.ext' ?_ ?_ ?_
    · exact rowOf_f0 (by show (0 : Int) < 1; decide)
    · show (1 : Int) = if (rowOf r).n < 2 then 1 else r.st; rw [if_pos (by omega)]
    · rw [rowOf_n1 (by exact Int.le_refl _)]
      show ((rowOf r).f - (rowOf r).f) / absI 1 + 1 = (rowOf r).n
      rw [Int.sub_self, Int.zero_ediv, h1]; rfl
  · have h2 : 2 ≤ (rowOf r).n := by omega
    have hs : (rowOf r).s = r.st := rfl
    have h9 := h.2.2.2.2.2.2
    obtain ⟨e1, e2, e3⟩ := lastOf_abs h2 (by rw [hs]; exact h9)
    rw [ref_s h2]
    have ha := absI_bd h.2.2.2.2.1 h.2.2.2.2.2.1 h9
    by_cases hp : 0 < r.st
    · have hle := e2 (by rw [hs]; exact hp)
      rw [if_pos hle, hs] at e1
      rw [canonOf_up h2 hle]
      refine Rw.ext' ?_ rfl ?_
      · exact rowOf_f0 (by show 0 < (rowOf r).s; rw [hs]; exact hp)
      · rw [rowOf_n1 (by exact hle)]
        show (lastOf (rowOf r) - (rowOf r).f) / absI r.st + 1 = _
        rw [e1, Int.mul_ediv_cancel _ (by omega)]; omega
    · have hle := e3 (by rw [hs]; omega)
      rw [if_neg hle, hs] at e1
      rw [canonOf_down h2 hle]
      refine Rw.ext' ?_ rfl ?_
      · exact rowOf_f1 (by show (rowOf r).s < 0; rw [hs]; omega)
      · rw [rowOf_n1 (by show lastOf (rowOf r) ≤ (rowOf r).f; omega)]
        show ((rowOf r).f - lastOf (rowOf r)) / absI r.st + 1 = _
        rw [e1, Int.mul_ediv_cancel _ (by omega)]; omega
def expandRow (r : Rg) (k : Int) : Rw := ⟨(refOf r).f - k * (refOf r).s, (refOf r).s, (refOf r).n + 2 * k⟩
def expandRes (r : Rg) (k : Int) : Rg × Int := if vB r = true then (if -4096 ≤ k ∧ k ≤ 4096 then (if (rowOf r).n = 0 ∨ (rowOf r).n + 2 * k ≤ 0 then (⟨1, 0, 1⟩, 0) else (doneV (expandRow r k), doneE (expandRow r k))) else (⟨0, 0, 0⟩, 2)) else (⟨0, 0, 0⟩, 30)
theorem done_none (f s : Int) : doneV ⟨f, s, 0⟩ = ⟨1, 0, 1⟩ ∧ doneE ⟨f, s, 0⟩ = 0 := by
  have hc : canonOf ⟨f, s, 0⟩ = ⟨1, 0, 1⟩ := canonOf_0 rfl
  have hv : vB (canonOf ⟨f, s, 0⟩) = true := by rw [hc]; decide
  rw [← hc]; exact done_yes hv
theorem expand_small {r : Rg} (h : r.ok) {k : Int} (k1 : -4096 ≤ k) (k2 : k ≤ 4096) (hn : 0 < (rowOf r).n + 2 * k) : (expandRow r k).small ∧ (expandRow r k).s ≠ 0 := by
  have hf := rowOf_f_bd h
  have hn' := rowOf_n_bd h
  obtain ⟨s1, s2, s3⟩ := refOf_s_bd h
  obtain ⟨p1, p2⟩ := prod_small (a := k) (b := (refOf r).s) (by omega) (by omega) (by omega) (by omega)
  have ef : (expandRow r k).f = (rowOf r).f - k * (refOf r).s := rfl
  have es : (expandRow r k).s = (refOf r).s := rfl
  have en : (expandRow r k).n = (rowOf r).n + 2 * k := rfl
  have p3 : -4100000 ≤ k * (refOf r).s ∧ k * (refOf r).s ≤ 4100000 := by
    have q := prod_bd' (a := k) (b := (refOf r).s) k1 k2 s1 s2; omega
  refine ⟨⟨?_, ?_, ?_, ?_, ?_, ?_⟩, by rw [es]; exact s3⟩ <;> omega
end Go.Proofs.Ytpomhnmfkdgafaa
namespace Go.Proofs.Ytpomhnmfkdgafaa
set_option linter.unusedVariables false
def revRes (r : Rg) : Rg × Int := if vB r = true then (doneV (backOf (rowOf r)), doneE (backOf (rowOf r))) else (⟨0, 0, 0⟩, 30)
def takeRow (x : Rw) (k : Int) : Rw := partOf x (cutF x k) (cutN x k)
def takeRes (r : Rg) (k : Int) : Rg × Int := if vB r = true then (doneV (takeRow (rowOf r) k), doneE (takeRow (rowOf r) k)) else (⟨0, 0, 0⟩, 30)
def dropRow (x : Rw) (k : Int) : Rw := if k < 0 then partOf x 0 (cutF x k) else partOf x (cutN x k) (x.n - cutN x k)
def dropRes (r : Rg) (k : Int) : Rg × Int := if vB r = true then (doneV (dropRow (rowOf r) k), doneE (dropRow (rowOf r) k)) else (⟨0, 0, 0⟩, 30)
def dirOf (x : Rw) (k : Int) : Rw := if k < 0 then backOf x else x
def byRow (x : Rw) (k : Int) : Rw := ⟨(dirOf x k).f, (dirOf x k).s * absI k, ((dirOf x k).n + absI k - 1).tdiv (absI k)⟩
def byRes (r : Rg) (k : Int) : Rg × Int := if vB r = true then (if k ≠ 0 ∧ -1000 ≤ k ∧ k ≤ 1000 then (doneV (byRow (rowOf r) k), doneE (byRow (rowOf r) k)) else (⟨0, 0, 0⟩, 2)) else (⟨0, 0, 0⟩, 30)
/-- rows of less than two members: the same answers where the first member is the same -/
theorem done_fewer {f f' s s' n : Int} (h : n = 0 ∨ n = 1 ∧ f = f') : doneV ⟨f, s, n⟩ = doneV ⟨f', s', n⟩ ∧ doneE ⟨f, s, n⟩ = doneE ⟨f', s', n⟩ := by
  rcases h with h | ⟨h, rfl⟩
  · subst h
    obtain ⟨a, b⟩ := done_none f s
    obtain ⟨c, d⟩ := done_none f' s'
    rw [a, b, c, d]; exact ⟨rfl, rfl⟩
  · exact done_few (.inr h)
theorem backOf_n (x : Rw) : (backOf x).n = x.n := by unfold backOf; split <;> rfl
theorem lastOf_1 {x : Rw} (h : x.n = 1) : lastOf x = x.f := by unfold lastOf; rw [h]; simp
theorem rev_ref {r : Rg} (h : r.ok) : doneV (backOf (refOf r)) = doneV (backOf (rowOf r)) ∧ doneE (backOf (refOf r)) = doneE (backOf (rowOf r)) := by
  rcases row_few h with e | h0 | h1
  · rw [e]; exact ⟨rfl, rfl⟩
  · rw [backOf_0 h0, backOf_0 (show (refOf r).n = 0 from h0)]
    exact done_few (n := (rowOf r).n) (.inl h0)
  · have e1 := lastOf_1 h1
    have e2 := lastOf_1 (show (refOf r).n = 1 from h1)
    rw [backOf_1 (by omega : (rowOf r).n ≠ 0), backOf_1 (show (refOf r).n ≠ 0 by rw [show (refOf r).n = 1 from h1]; decide), e1, e2]
    exact done_few (n := (rowOf r).n) (.inr h1)
theorem last_bd {r : Rg} (h : r.ok) (h0 : (rowOf r).n ≠ 0) : -1000000 ≤ lastOf (rowOf r) ∧ lastOf (rowOf r) ≤ 1000000 := by
  rcases row_n h with ⟨hn, _⟩ | ⟨hn, hle⟩
  · exact absurd hn h0
  · obtain ⟨a, b, c, d⟩ := row_in h hle
    obtain ⟨h1, h2, h3, h4, h5, h6, h7⟩ := h
    omega
theorem lastRef_bd {r : Rg} (h : r.ok) (h0 : (rowOf r).n ≠ 0) : -1000000 ≤ lastOf (refOf r) ∧ lastOf (refOf r) ≤ 1000000 := by
  rcases row_few h with e | h1 | h1
  · rw [e]; exact last_bd h h0
  · exact absurd h1 h0
  · rw [lastOf_1 (show (refOf r).n = 1 from h1)]; exact rowOf_f_bd h
/-- a row of a valid range, or the reference's -/
def Rw.tame (x : Rw) : Prop := -1000000 ≤ x.f ∧ x.f ≤ 1000000 ∧ -1000 ≤ x.s ∧ x.s ≤ 1000 ∧ x.s ≠ 0 ∧ 0 ≤ x.n ∧ x.n ≤ 2000001 ∧ (x.n ≠ 0 → -1000000 ≤ lastOf x ∧ lastOf x ≤ 1000000)
theorem row_tame {r : Rg} (h : r.ok) : (rowOf r).tame := by
  obtain ⟨f1, f2⟩ := rowOf_f_bd h
  obtain ⟨n1, n2⟩ := rowOf_n_bd h
  obtain ⟨_, _, _, _, h5, h6, h7⟩ := h
  exact ⟨f1, f2, h5, h6, h7, n1, n2, last_bd ⟨‹_›, ‹_›, ‹_›, ‹_›, h5, h6, h7⟩⟩
theorem ref_tame {r : Rg} (h : r.ok) : (refOf r).tame := by
  obtain ⟨f1, f2⟩ := rowOf_f_bd h
  obtain ⟨n1, n2⟩ := rowOf_n_bd h
  obtain ⟨s1, s2, s3⟩ := refOf_s_bd h
  exact ⟨f1, f2, s1, s2, s3, n1, n2, lastRef_bd h⟩
theorem tame_small {x : Rw} (h : x.tame) : x.small := by
  obtain ⟨f1, f2, s1, s2, s3, n1, n2, l⟩ := h
  unfold Rw.small; omega
theorem back_tame {x : Rw} (h : x.tame) : (backOf x).small ∧ (backOf x).s ≠ 0 := by
  have hs := tame_small h
  by_cases h0 : x.n = 0
  · rw [backOf_0 h0]; exact ⟨hs, h.2.2.2.2.1⟩
  · obtain ⟨f1, f2, s1, s2, s3, n1, n2, l⟩ := h
    have := l h0
    rw [backOf_1 h0]
    unfold Rw.small
    simp only
    omega
theorem prod_row {i s : Int} (h1 : 0 ≤ i) (h2 : i ≤ 2000001) (h3 : -1000 ≤ s) (h4 : s ≤ 1000) : -2000001000 ≤ i * s ∧ i * s ≤ 2000001000 := by
  have a : i * (-1000) ≤ i * s := Int.mul_le_mul_of_nonneg_left h3 h1
  have b : i * s ≤ i * 1000 := Int.mul_le_mul_of_nonneg_left h4 h1
  omega
theorem part_tame {x : Rw} (h : x.tame) {i m : Int} (h0 : 0 ≤ i) (h1 : 0 ≤ m) (h2 : i + m ≤ x.n) : (partOf x i m).small ∧ (partOf x i m).s ≠ 0 := by
  obtain ⟨f1, f2, s1, s2, s3, n1, n2, l⟩ := h
  have p := prod_row h0 (by omega) s1 s2
  unfold partOf atOf Rw.small
  simp only
  omega
theorem cut_bd {x : Rw} (h : 0 ≤ x.n) (k : Int) : 0 ≤ cutF x k ∧ 0 ≤ cutN x k ∧ cutF x k + cutN x k ≤ x.n ∧ (k < 0 → cutF x k = x.n - cutN x k) ∧ (0 ≤ k → cutF x k = 0) := by
  unfold cutF cutN
  by_cases hk : 0 ≤ k
  · simp only [if_pos hk]
    split <;> exact ⟨by omega, by omega, by omega, fun h' => absurd hk (by omega), by simp⟩
  · simp only [if_neg hk]
    split <;> exact ⟨by omega, by omega, by omega, fun _ => by omega, fun h' => absurd h' hk⟩
theorem part_ref {r : Rg} (h : r.ok) {i m : Int} (h0 : 0 ≤ i) (h1 : 0 ≤ m) (h2 : i + m ≤ (rowOf r).n) : doneV (partOf (refOf r) i m) = doneV (partOf (rowOf r) i m) ∧ doneE (partOf (refOf r) i m) = doneE (partOf (rowOf r) i m) := by
  rcases row_few h with e | hf
  · rw [e]; exact ⟨rfl, rfl⟩
  · refine done_fewer ?_
    by_cases hm : m = 0
    · exact .inl hm
    · have hi : i = 0 := by omega
      refine .inr ⟨by omega, ?_⟩
      subst hi
      unfold atOf
      rw [Int.zero_mul, Int.zero_mul]; rfl
theorem part_0 (x : Rw) (m : Int) : partOf x 0 m = ⟨x.f, x.s, m⟩ := by unfold partOf atOf; rw [Int.zero_mul, Int.add_zero]
theorem cut_ref (r : Rg) (k : Int) : cutF (refOf r) k = cutF (rowOf r) k ∧ cutN (refOf r) k = cutN (rowOf r) k := ⟨rfl, rfl⟩
theorem take_ref {r : Rg} (h : r.ok) (k : Int) : doneV (takeRow (refOf r) k) = doneV (takeRow (rowOf r) k) ∧ doneE (takeRow (refOf r) k) = doneE (takeRow (rowOf r) k) := by
  have hc := cut_bd (rowOf_n_bd h).1 k
  exact part_ref h hc.1 hc.2.1 hc.2.2.1
theorem drop_ref {r : Rg} (h : r.ok) (k : Int) : doneV (dropRow (refOf r) k) = doneV (dropRow (rowOf r) k) ∧ doneE (dropRow (refOf r) k) = doneE (dropRow (rowOf r) k) := by
  have hc := cut_bd (rowOf_n_bd h).1 k
  unfold dropRow
  by_cases hk : k < 0
  · rw [if_pos hk, if_pos hk]
    exact part_ref h (i := 0) (m := cutF (rowOf r) k) (by omega) hc.1 (by omega)
  · rw [if_neg hk, if_neg hk]
    exact part_ref h (i := cutN (rowOf r) k) (m := (rowOf r).n - cutN (rowOf r) k) hc.2.1 (by omega) (by omega)
theorem take_tame {x : Rw} (h : x.tame) (k : Int) : (takeRow x k).small ∧ (takeRow x k).s ≠ 0 := by
  have hc := cut_bd h.2.2.2.2.2.1 k
  exact part_tame h hc.1 hc.2.1 hc.2.2.1
theorem drop_tame {x : Rw} (h : x.tame) (k : Int) : (dropRow x k).small ∧ (dropRow x k).s ≠ 0 := by
  have hc := cut_bd h.2.2.2.2.2.1 k
  unfold dropRow
  split
  · exact part_tame h (by omega) hc.1 (by omega)
  · exact part_tame h hc.2.1 (by omega) (by omega)
theorem dir_facts {x : Rw} (h : x.tame) (k : Int) : -1000000 ≤ (dirOf x k).f ∧ (dirOf x k).f ≤ 1000000 ∧ -1000 ≤ (dirOf x k).s ∧ (dirOf x k).s ≤ 1000 ∧ (dirOf x k).s ≠ 0 ∧ (dirOf x k).n = x.n := by
  obtain ⟨f1, f2, s1, s2, s3, n1, n2, l⟩ := h
  unfold dirOf
  split
  · by_cases h0 : x.n = 0
    · rw [backOf_0 h0]; exact ⟨f1, f2, s1, s2, s3, rfl⟩
    · have := l h0
      rw [backOf_1 h0]; exact ⟨this.1, this.2, by simp only; omega, by simp only; omega, by simp only; omega, rfl⟩
  · exact ⟨f1, f2, s1, s2, s3, rfl⟩
theorem prod_step {a b : Int} (h1 : -1000 ≤ a) (h2 : a ≤ 1000) (h3 : 1 ≤ b) (h4 : b ≤ 1000) : -1000000 ≤ a * b ∧ a * b ≤ 1000000 := by
  have p : a * b ≤ 1000 * b := Int.mul_le_mul_of_nonneg_right h2 (by omega)
  have q : -1000 * b ≤ a * b := Int.mul_le_mul_of_nonneg_right h1 (by omega)
  omega
theorem by_tame {x : Rw} (h : x.tame) {k : Int} (h0 : k ≠ 0) (h1 : -1000 ≤ k) (h2 : k ≤ 1000) : (byRow x k).small ∧ (byRow x k).s ≠ 0 := by
  obtain ⟨a, b, c, d, e, f⟩ := dir_facts h k
  have n1 := h.2.2.2.2.2.1
  have n2 := h.2.2.2.2.2.2.1
  obtain ⟨a1, a2⟩ := absI_bd h1 h2 h0
  have p := prod_step c d a1 a2
  have hz : (dirOf x k).s * absI k ≠ 0 := Int.mul_ne_zero e (by omega)
  have hq : 0 ≤ (x.n + absI k - 1).tdiv (absI k) ∧ (x.n + absI k - 1).tdiv (absI k) ≤ 4194304 := by
    rw [Int.tdiv_eq_ediv_of_nonneg (by omega)]
    refine ⟨Int.ediv_nonneg (by omega) (by omega), ?_⟩
    have := Int.ediv_le_self (a := x.n + absI k - 1) (absI k) (by omega)
    omega
  unfold byRow Rw.small
  simp only [f]
  omega
theorem by_ref {r : Rg} (h : r.ok) {k : Int} (h0 : k ≠ 0) (h1 : -1000 ≤ k) (h2 : k ≤ 1000) : doneV (byRow (refOf r) k) = doneV (byRow (rowOf r) k) ∧ doneE (byRow (refOf r) k) = doneE (byRow (rowOf r) k) := by
  rcases row_few h with e | hf
  · rw [e]; exact ⟨rfl, rfl⟩
  obtain ⟨a1, a2⟩ := absI_bd h1 h2 h0
  have e1 := (dir_facts (row_tame h) k).2.2.2.2.2
  have e2 := (dir_facts (ref_tame h) k).2.2.2.2.2
  have e3 : (refOf r).n = (rowOf r).n := rfl
  unfold byRow
  rw [e1, e2, e3]
  refine done_fewer ?_
  rcases hf with hf | hf
  · left
    rw [hf]
    exact Int.tdiv_eq_zero_of_lt (by omega) (by omega)
  · right
    refine ⟨?_, ?_⟩
    · rw [hf, show 1 + absI k - 1 = absI k by omega]
      exact Int.tdiv_self (by omega)
    · unfold dirOf
      split
      · rw [backOf_1 (by omega : (rowOf r).n ≠ 0), backOf_1 (show (refOf r).n ≠ 0 by rw [e3, hf]; decide)]
        simp only
        rw [lastOf_1 hf, lastOf_1 (show (refOf r).n = 1 from hf)]; rfl
      · rfl
end Go.Proofs.Ytpomhnmfkdgafaa
namespace Go.Proofs.Ytpomhnmfkdgafaa
set_option linter.unusedVariables false
def normOf (x : Rw) : Rw := if x.n = 0 then ⟨1, 1, 0⟩ else if x.n = 1 then ⟨x.f, 1, 1⟩ else x
theorem absI_pos' {n : Int} (h : n ≠ 0) : 1 ≤ absI n := by unfold absI; split <;> omega
/-- the row of the canonical range of a row -/
theorem row_norm {x : Rw} (hn : 0 ≤ x.n) (hs : x.s ≠ 0) : rowOf (canonOf x) = normOf x := by
  by_cases h0 : x.n = 0
  · rw [canonOf_0 h0, normOf, if_pos h0]; simp [rowOf]
  by_cases h1 : x.n = 1
  · rw [canonOf_1 h1, normOf, if_neg h0, if_pos h1]
    refine Rw.ext' (rowOf_f0 (by show (0 : Int) < 1; decide)) rfl ?_
    rw [rowOf_n1 (by exact Int.le_refl _)]
    show (x.f - x.f) / absI 1 + 1 = 1
    rw [Int.sub_self, Int.zero_ediv]; rfl
  · have h2 : 2 ≤ x.n := by omega
    obtain ⟨e1, e2, e3⟩ := lastOf_abs h2 hs
    have ha := absI_pos' hs
    rw [normOf, if_neg h0, if_neg h1]
    by_cases hp : 0 < x.s
    · have hle := e2 hp
      rw [if_pos hle] at e1
      rw [canonOf_up h2 hle]
      refine Rw.ext' (rowOf_f0 (by exact hp)) rfl ?_
      rw [rowOf_n1 (by exact hle)]
      show (lastOf x - x.f) / absI x.s + 1 = _
      rw [e1, Int.mul_ediv_cancel _ (by omega)]; omega
    · have hle := e3 (by omega)
      rw [if_neg hle] at e1
      rw [canonOf_down h2 hle]
      refine Rw.ext' (rowOf_f1 (by show x.s < 0; omega)) rfl ?_
      rw [rowOf_n1 (by show lastOf x ≤ x.f; omega)]
      show (x.f - lastOf x) / absI x.s + 1 = _
      rw [e1, Int.mul_ediv_cancel _ (by omega)]; omega
theorem vB_ok' {r : Rg} (h : vB r = true) : r.ok := by simpa [vB] using h
theorem done_ok {x : Rw} (h : doneE x = 0) : vB (canonOf x) = true ∧ doneV x = canonOf x := by
  cases hv : vB (canonOf x) with
  | true => exact ⟨rfl, (done_yes hv).1⟩
  | false => have := (done_no hv).2; rw [h] at this; cases this
theorem done_row {r : Rg} (h : r.ok) : doneV (rowOf r) = canonOf (rowOf r) ∧ doneE (rowOf r) = 0 := done_yes (vB_true (canon_ok h))
theorem shift_back {r : Rg} (h : vB r = true) {k : Int} (he : (shiftRes r k).2 = 0) : shiftRes (shiftRes r k).1 (-k) = (canonOf (rowOf r), 0) := by
  have hr := vB_ok' h
  by_cases hk : -1000000 ≤ k ∧ k ≤ 1000000
  case neg => rw [shiftRes, if_pos h, if_neg hk] at he; cases he
  have e1 : shiftRes r k = (doneV ⟨(rowOf r).f + k, (rowOf r).s, (rowOf r).n⟩, doneE ⟨(rowOf r).f + k, (rowOf r).s, (rowOf r).n⟩) := by rw [shiftRes, if_pos h, if_pos hk]
  rw [e1] at he ⊢
  obtain ⟨d1, d2⟩ := done_ok he
  simp only [d2]
  have hn := (rowOf_n_bd hr).1
  have hs := (rowOf_small hr).2
  obtain ⟨c1, c2⟩ := done_row hr
  have hrow := row_norm (x := ⟨(rowOf r).f + k, (rowOf r).s, (rowOf r).n⟩) hn hs
  rw [shiftRes, if_pos d1, if_pos (by omega), hrow]
  by_cases h0 : (rowOf r).n = 0
  · have en : normOf ⟨(rowOf r).f + k, (rowOf r).s, (rowOf r).n⟩ = ⟨1, 1, 0⟩ := if_pos h0
    rw [en]
    obtain ⟨a, b⟩ := done_none (1 + -k) 1
    show (doneV ⟨1 + -k, 1, 0⟩, doneE ⟨1 + -k, 1, 0⟩) = _
    rw [a, b, canonOf_0 h0]
  by_cases h1 : (rowOf r).n = 1
  · have en : normOf ⟨(rowOf r).f + k, (rowOf r).s, (rowOf r).n⟩ = ⟨(rowOf r).f + k, 1, 1⟩ := by rw [normOf]; simp only; rw [if_neg h0, if_pos h1]
    rw [en]
    show (doneV ⟨(rowOf r).f + k + -k, 1, 1⟩, doneE ⟨(rowOf r).f + k + -k, 1, 1⟩) = _
    rw [show (rowOf r).f + k + -k = (rowOf r).f by omega]
    obtain ⟨a, b⟩ := done_few (f := (rowOf r).f) (s := 1) (s' := (rowOf r).s) (n := 1) (.inr rfl)
    have ex : (⟨(rowOf r).f, (rowOf r).s, 1⟩ : Rw) = rowOf r := Rw.ext' rfl rfl h1.symm
    rw [a, b, ex, c1, c2]
  · have en : normOf ⟨(rowOf r).f + k, (rowOf r).s, (rowOf r).n⟩ = ⟨(rowOf r).f + k, (rowOf r).s, (rowOf r).n⟩ := by rw [normOf]; simp only; rw [if_neg h0, if_neg h1]
    rw [en]
    show (doneV ⟨(rowOf r).f + k + -k, (rowOf r).s, (rowOf r).n⟩, doneE ⟨(rowOf r).f + k + -k, (rowOf r).s, (rowOf r).n⟩) = _
    rw [show (rowOf r).f + k + -k = (rowOf r).f by omega]
    show (doneV (rowOf r), doneE (rowOf r)) = _
    rw [c1, c2]
theorem expand_back {r : Rg} (h : vB r = true) {k : Int} (k0 : 0 ≤ k) (hn : (rowOf r).n ≠ 0) (he : (expandRes r k).2 = 0) :
    expandRes (expandRes r k).1 (-k) = (canonOf (rowOf r), 0) ∧ countRes (expandRes r k).1 = ((rowOf r).n + 2 * k, 0) := by
  have hr := vB_ok' h
  by_cases hk : -4096 ≤ k ∧ k ≤ 4096
  case neg => rw [expandRes, if_pos h, if_neg hk] at he; cases he
  have n1 := (rowOf_n_bd hr).1
  have e1 : expandRes r k = (doneV (expandRow r k), doneE (expandRow r k)) := by rw [expandRes, if_pos h, if_pos hk, if_neg (by omega)]
  rw [e1] at he ⊢
  obtain ⟨d1, d2⟩ := done_ok he
  simp only [d2]
  have hs := (refOf_s_bd hr).2.2
  have hen : (expandRow r k).n = (rowOf r).n + 2 * k := rfl
  have hrow := row_norm (x := expandRow r k) (by omega) hs
  have hnorm : normOf (expandRow r k) = expandRow r k := by
    rw [normOf, if_neg (by omega)]
    split
    · rename_i h1
      refine Rw.ext' rfl ?_ h1.symm
      show (1 : Int) = (refOf r).s
      exact (if_pos (by omega)).symm
    · rfl
  rw [hnorm] at hrow
  obtain ⟨c1, c2⟩ := done_ref hr
  have hst : refOf (canonOf (expandRow r k)) = expandRow r k := by
    have hr2 := vB_ok' d1
    by_cases h2 : 2 ≤ (expandRow r k).n
    · rw [ref_s (by rw [hrow]; exact h2), hrow]
    · refine Rw.ext' (by show (rowOf _).f = _; rw [hrow]) ?_ (by show (rowOf _).n = _; rw [hrow])
      show (if (rowOf (canonOf (expandRow r k))).n < 2 then 1 else _) = _
      rw [if_pos (by rw [hrow]; omega)]
      show (1 : Int) = (refOf r).s
      exact (if_pos (by omega)).symm
  constructor
  · rw [expandRes, if_pos d1, if_pos (by omega), hrow, hen, if_neg (by omega)]
    have ee : expandRow (canonOf (expandRow r k)) (-k) = refOf r := by
      unfold expandRow at hst ⊢
      rw [hst]
      refine Rw.ext' ?_ rfl ?_
      · show (refOf r).f - k * (refOf r).s - -k * (refOf r).s = (refOf r).f
        rw [Int.neg_mul]; omega
      · show (refOf r).n + 2 * k + 2 * -k = (refOf r).n
        omega
    rw [ee, c1, c2]
  · rw [countRes, if_pos d1, hrow, hen]
end Go.Proofs.Ytpomhnmfkdgafaa
namespace Go.Proofs.Ytpomhnmfkdgafaa
set_option linter.unusedVariables false
theorem mul_mono {a b c : Int} (h : a ≤ b) (hc : 0 ≤ c) : a * c ≤ b * c := Int.mul_le_mul_of_nonneg_right h hc
theorem mul_anti {a b c : Int} (h : a ≤ b) (hc : c ≤ 0) : b * c ≤ a * c := by
  have := mul_mono h (c := -c) (by omega)
  rw [Int.mul_neg, Int.mul_neg] at this
  omega
theorem at_in {r : Rg} (h : r.ok) {i : Int} (h0 : 0 ≤ i) (h1 : i < (rowOf r).n) : r.lo ≤ atOf (rowOf r) i ∧ atOf (rowOf r) i ≤ r.hi := by
  have hle : r.lo ≤ r.hi := by rcases row_n h with ⟨a, b⟩ | ⟨a, b⟩ <;> omega
  obtain ⟨a, b, c, d⟩ := row_in h hle
  unfold lastOf at c d
  unfold atOf
  by_cases hs : 0 ≤ (rowOf r).s
  · have e1 := mul_mono h0 hs
    have e2 := mul_mono (show i ≤ (rowOf r).n - 1 by omega) hs
    rw [Int.zero_mul] at e1
    omega
  · have e1 := mul_anti h0 (c := (rowOf r).s) (by omega)
    have e2 := mul_anti (show i ≤ (rowOf r).n - 1 by omega) (c := (rowOf r).s) (by omega)
    rw [Int.zero_mul] at e1
    omega
theorem at_near {r : Rg} (h : r.ok) {i : Int} (h0 : 0 ≤ i) (h1 : i < (rowOf r).n) : -1000000 ≤ atOf (rowOf r) i ∧ atOf (rowOf r) i ≤ 1000000 := by
  have := at_in h h0 h1
  obtain ⟨a, b, c, d, _⟩ := h
  omega
theorem last_part (x : Rw) (i m : Int) : lastOf (partOf x i m) = atOf x (i + m - 1) := by
  unfold lastOf partOf atOf
  simp only
  rw [show i + m - 1 = i + (m - 1) by omega, Int.add_mul]; omega
theorem part_v {r : Rg} (h : r.ok) {i m : Int} (h0 : 0 ≤ i) (h1 : 0 ≤ m) (h2 : i + m ≤ (rowOf r).n) : vB (canonOf (partOf (rowOf r) i m)) = true := by
  have en : (partOf (rowOf r) i m).n = m := rfl
  have ef : (partOf (rowOf r) i m).f = atOf (rowOf r) i := rfl
  have es : (partOf (rowOf r) i m).s = r.st := rfl
  by_cases m0 : m = 0
  · rw [canonOf_0 (by omega)]; decide
  have b1 := at_near h h0 (by omega)
  by_cases m1 : m = 1
  · rw [canonOf_1 (by omega), ef]
    exact vB_true (by unfold Rg.ok; simp only; omega)
  have b2 := at_near h (i := i + m - 1) (by omega) (by omega)
  have el := last_part (rowOf r) i m
  obtain ⟨_, _, _, _, s1, s2, s3⟩ := h
  by_cases hl : (partOf (rowOf r) i m).f ≤ lastOf (partOf (rowOf r) i m)
  · rw [canonOf_up (by omega) hl]
    exact vB_true (by unfold Rg.ok; simp only; omega)
  · rw [canonOf_down (by omega) hl]
    exact vB_true (by unfold Rg.ok; simp only; omega)
/-- the first k members of a row -/
def rowL (x : Rw) (k : Nat) : List Int := (List.range k).map fun j : Nat => atOf x (j : Int)
theorem rowL_len (x : Rw) (k : Nat) : (rowL x k).length = k := by simp [rowL]
theorem rowL_get {x : Rw} {k j : Nat} (h : j < (rowL x k).length) : (rowL x k)[j] = atOf x (j : Int) := by simp [rowL]
theorem rowL_norm {x : Rw} (h : 0 ≤ x.n) : rowL (normOf x) x.n.toNat = rowL x x.n.toNat := by
  unfold rowL
  apply List.map_congr_left
  intro j hj
  have hj' : j < x.n.toNat := by simpa using hj
  unfold normOf
  by_cases h0 : x.n = 0
  · omega
  by_cases h1 : x.n = 1
  · rw [if_neg h0, if_pos h1]
    have : j = 0 := by omega
    subst this
    simp [atOf]
  · rw [if_neg h0, if_neg h1]
theorem rowL_split (x : Rw) (i m : Nat) : rowL x (i + m) = rowL x i ++ rowL (partOf x i m) m := by
  unfold rowL
  rw [List.range_add, List.map_append, List.map_map]
  congr 1
  apply List.map_congr_left
  intro j hj
  simp only [Function.comp, atOf, partOf]
  rw [show ((i + j : Nat) : Int) = (i : Int) + j by omega, Int.add_mul]; omega
theorem part_whole (x : Rw) : partOf x 0 x.n = x := by rw [part_0]
theorem place_at {r : Rg} (h : r.ok) {i : Int} (h0 : 0 ≤ i) (h1 : i < (rowOf r).n) : placeB (rowOf r) (atOf (rowOf r) i) = true ∧ placeI (rowOf r) (atOf (rowOf r) i) = i := by
  have hs : (rowOf r).s ≠ 0 := (rowOf_small h).2
  have e : atOf (rowOf r) i - (rowOf r).f = i * (rowOf r).s := by unfold atOf; omega
  have e1 : (i * (rowOf r).s).tmod (rowOf r).s = 0 := Int.mul_tmod_left _ _
  have e2 : (i * (rowOf r).s).tdiv (rowOf r).s = i := Int.mul_tdiv_cancel _ hs
  have ha : isAt (rowOf r) (atOf (rowOf r) i) := ⟨by omega, by rw [e]; exact e1⟩
  refine ⟨?_, ?_⟩
  · unfold placeB
    rw [decide_eq_true_eq, e, e2]
    exact ⟨ha, h0, by omega⟩
  · unfold placeI
    rw [if_pos ha, e, e2]
theorem at_place {x : Rw} {m : Int} (h : placeB x m = true) : 0 ≤ placeI x m ∧ placeI x m ≤ x.n - 1 ∧ atOf x (placeI x m) = m := by
  unfold placeB at h
  rw [decide_eq_true_eq] at h
  obtain ⟨ha, h1, h2⟩ := h
  unfold placeI
  rw [if_pos ha]
  refine ⟨h1, h2, ?_⟩
  have := Int.mul_tdiv_add_tmod (m - x.f) x.s
  rw [ha.2, Int.mul_comm] at this
  unfold atOf
  omega
theorem rev_rev {r : Rg} (h : vB r = true) : (revRes r).2 = 0 ∧ revRes (revRes r).1 = (canonOf (rowOf r), 0) := by
  have hr := vB_ok' h
  have hn := (rowOf_n_bd hr).1
  have hs := (rowOf_small hr).2
  have hb := back_tame (row_tame hr)
  have hx : vB (canonOf (backOf (rowOf r))) = true := by
    by_cases h0 : (rowOf r).n = 0
    · rw [backOf_0 h0, canonOf_0 h0]; decide
    rw [backOf_1 h0]
    have b0 := rowOf_f_bd hr
    have b1 := last_bd hr h0
    obtain ⟨_, _, _, _, s1, s2, s3⟩ := hr
    have es : (rowOf r).s = r.st := rfl
    by_cases h1 : (rowOf r).n = 1
    · rw [canonOf_1 (x := ⟨lastOf (rowOf r), -(rowOf r).s, (rowOf r).n⟩) h1]
      exact vB_true (by unfold Rg.ok; simp only; omega)
    have el : lastOf ⟨lastOf (rowOf r), -(rowOf r).s, (rowOf r).n⟩ = (rowOf r).f := by
      unfold lastOf; simp only; rw [Int.mul_neg]; omega
    by_cases hl : lastOf (rowOf r) ≤ (rowOf r).f
    · rw [canonOf_up (x := ⟨lastOf (rowOf r), -(rowOf r).s, (rowOf r).n⟩) (by simp only; omega) (by rw [el]; exact hl), el]
      exact vB_true (by unfold Rg.ok; simp only; omega)
    · rw [canonOf_down (x := ⟨lastOf (rowOf r), -(rowOf r).s, (rowOf r).n⟩) (by simp only; omega) (by rw [el]; exact hl), el]
      exact vB_true (by unfold Rg.ok; simp only; omega)
  obtain ⟨d1, d2⟩ := done_yes hx
  have e1 : revRes r = (canonOf (backOf (rowOf r)), 0) := by rw [revRes, if_pos h, d1, d2]
  rw [e1]
  refine ⟨rfl, ?_⟩
  simp only
  have hrow := row_norm (x := backOf (rowOf r)) (by rw [backOf_n]; exact hn) hb.2
  rw [revRes, if_pos hx, hrow]
  obtain ⟨c1, c2⟩ := done_row hr
  by_cases h0 : (rowOf r).n = 0
  · have en : normOf (backOf (rowOf r)) = ⟨1, 1, 0⟩ := if_pos (by rw [backOf_n]; exact h0)
    rw [en, backOf_0 (x := ⟨1, 1, 0⟩) rfl]
    obtain ⟨a, b⟩ := done_none 1 1
    rw [a, b, canonOf_0 h0]
  by_cases h1 : (rowOf r).n = 1
  · have en : normOf (backOf (rowOf r)) = ⟨lastOf (rowOf r), 1, 1⟩ := by
      rw [normOf, if_neg (by rw [backOf_n]; exact h0), if_pos (by rw [backOf_n]; exact h1), backOf_1 h0]
    rw [en, backOf_1 (x := ⟨lastOf (rowOf r), 1, 1⟩) (by simp), lastOf_1 h1]
    have e2 : lastOf ⟨(rowOf r).f, 1, 1⟩ = (rowOf r).f := lastOf_1 rfl
    rw [e2]
    obtain ⟨a, b⟩ := done_few (f := (rowOf r).f) (s := -1) (s' := (rowOf r).s) (n := 1) (.inr rfl)
    have ex : (⟨(rowOf r).f, (rowOf r).s, 1⟩ : Rw) = rowOf r := Rw.ext' rfl rfl h1.symm
    show (doneV ⟨(rowOf r).f, -1, 1⟩, doneE ⟨(rowOf r).f, -1, 1⟩) = _
    rw [a, b, ex, c1, c2]
  · have en : normOf (backOf (rowOf r)) = backOf (rowOf r) := by
      rw [normOf, if_neg (by rw [backOf_n]; exact h0), if_neg (by rw [backOf_n]; exact h1)]
    have ex : backOf (backOf (rowOf r)) = rowOf r := by
      rw [backOf_1 h0, backOf_1 (x := ⟨lastOf (rowOf r), -(rowOf r).s, (rowOf r).n⟩) h0]
      refine Rw.ext' ?_ ?_ rfl
      · unfold lastOf; simp only; rw [Int.mul_neg]; omega
      · simp only; omega
    rw [en, ex, c1, c2]
theorem take_all {r : Rg} (h : vB r = true) : takeRes r (rowOf r).n = (canonOf (rowOf r), 0) := by
  have hr := vB_ok' h
  have hn := (rowOf_n_bd hr).1
  obtain ⟨c1, c2⟩ := done_row hr
  have e : takeRow (rowOf r) (rowOf r).n = rowOf r := by
    unfold takeRow
    have e1 : cutF (rowOf r) (rowOf r).n = 0 := if_pos hn
    have e2 : cutN (rowOf r) (rowOf r).n = (rowOf r).n := by unfold cutN; rw [if_pos hn, if_pos (Int.le_refl _)]
    rw [e1, e2, part_whole]
  rw [takeRes, if_pos h, e, c1, c2]
/-- Take and Drop -/
theorem take_drop {r : Rg} (h : vB r = true) (k : Int) (hn : (rowOf r).n ≤ 4096) : ∃ (a b : Rg) (i m : Nat), takeRes r k = (a, 0) ∧ dropRes r k = (b, 0) ∧ vB a = true ∧ vB b = true ∧ (rowOf r).n.toNat = i + m ∧
    ((0 ≤ k ∧ (rowOf a).n = i ∧ (rowOf b).n = m ∧ rowL (rowOf r) (i + m) = rowL (rowOf a) i ++ rowL (rowOf b) m) ∨ (k < 0 ∧ (rowOf a).n = m ∧ (rowOf b).n = i ∧ rowL (rowOf r) (i + m) = rowL (rowOf b) i ++ rowL (rowOf a) m)) := by
  have hr := vB_ok' h
  have hn0 := (rowOf_n_bd hr).1
  have hs := (rowOf_small hr).2
  obtain ⟨c1, c2, c3, c4, c5⟩ := cut_bd hn0 k
  have row : ∀ i m : Nat, ((i + m : Nat) : Int) ≤ (rowOf r).n → vB (canonOf (partOf (rowOf r) i m)) = true ∧ (rowOf (canonOf (partOf (rowOf r) i m))).n = m ∧ rowL (rowOf (canonOf (partOf (rowOf r) i m))) m = rowL (partOf (rowOf r) i m) m := by
    intro i m him
    have hv := part_v hr (i := i) (m := m) (by omega) (by omega) (by omega)
    have hrow := row_norm (x := partOf (rowOf r) i m) (by show (0 : Int) ≤ m; omega) hs
    refine ⟨hv, ?_, ?_⟩
    · rw [hrow]
      unfold normOf
      split
      · rename_i h0; exact h0.symm
      · split
        · rename_i h1; exact h1.symm
        · rfl
    · rw [hrow]
      have := rowL_norm (x := partOf (rowOf r) i m) (by show (0 : Int) ≤ m; omega)
      rwa [show (partOf (rowOf r) i m).n.toNat = m from Int.toNat_natCast m] at this
  obtain ⟨f, hf⟩ := Int.eq_ofNat_of_zero_le c1
  obtain ⟨m, hm⟩ := Int.eq_ofNat_of_zero_le c2
  by_cases hk : 0 ≤ k
  · have hf0 := c5 hk
    obtain ⟨b, hb⟩ := Int.eq_ofNat_of_zero_le (show 0 ≤ (rowOf r).n - cutN (rowOf r) k by omega)
    have et : takeRow (rowOf r) k = partOf (rowOf r) ((0 : Nat) : Int) (m : Int) := by unfold takeRow; rw [hf0, hm]; rfl
    have ed : dropRow (rowOf r) k = partOf (rowOf r) (m : Int) (b : Int) := by unfold dropRow; rw [if_neg (by omega), hb, hm]
    obtain ⟨r1, r2, r3⟩ := row 0 m (by omega)
    obtain ⟨q1, q2, q3⟩ := row m b (by omega)
    refine ⟨_, _, m, b, ?_, ?_, r1, q1, by omega, .inl ⟨hk, r2, q2, ?_⟩⟩
    · rw [takeRes, if_pos h, et]; obtain ⟨d1, d2⟩ := done_yes r1; rw [d1, d2]
    · rw [dropRes, if_pos h, ed]; obtain ⟨d1, d2⟩ := done_yes q1; rw [d1, d2]
    · rw [r3, q3, rowL_split]
      congr 1
      have := rowL_split (rowOf r) 0 m
      rw [Nat.zero_add] at this
      rw [this]; simp [rowL]
  · have hf0 := c4 (by omega)
    have et : takeRow (rowOf r) k = partOf (rowOf r) (f : Int) (m : Int) := by unfold takeRow; rw [hf, hm]
    have ed : dropRow (rowOf r) k = partOf (rowOf r) ((0 : Nat) : Int) (f : Int) := by unfold dropRow; rw [if_pos (by omega), hf]; rfl
    obtain ⟨r1, r2, r3⟩ := row f m (by omega)
    obtain ⟨q1, q2, q3⟩ := row 0 f (by omega)
    refine ⟨_, _, f, m, ?_, ?_, r1, q1, by omega, .inr ⟨by omega, r2, q2, ?_⟩⟩
    · rw [takeRes, if_pos h, et]; obtain ⟨d1, d2⟩ := done_yes r1; rw [d1, d2]
    · rw [dropRes, if_pos h, ed]; obtain ⟨d1, d2⟩ := done_yes q1; rw [d1, d2]
    · rw [r3, q3, rowL_split]
      congr 1
      have := rowL_split (rowOf r) 0 f
      rw [Nat.zero_add] at this
      rw [this]; simp [rowL]
end Go.Proofs.Ytpomhnmfkdgafaa
namespace Go.Proofs.Ytpomhnmfkdgafaa
set_option linter.unusedVariables false
/-- x is a member of r -/
def Memb (r : Rg) (x : Int) : Prop := ∃ i : Nat, (i : Int) < (rowOf r).n ∧ atOf (rowOf r) i = x
theorem memb_place {r : Rg} (h : r.ok) (x : Int) : Memb r x ↔ placeB (rowOf r) x = true := by
  constructor
  · rintro ⟨i, hi, rfl⟩
    exact (place_at h (by omega) hi).1
  · intro hp
    obtain ⟨h1, h2, h3⟩ := at_place hp
    exact ⟨(placeI (rowOf r) x).toNat, by omega, by rw [Int.toNat_of_nonneg h1]; exact h3⟩
theorem has_memb {r : Rg} (h : vB r = true) (x : Int) : (hasRes r x = (true, 0) ∧ Memb r x) ∨ (hasRes r x = (false, 0) ∧ ¬ Memb r x) := by
  have hr := vB_ok' h
  rw [memb_place hr]
  by_cases hx : -1000000 ≤ x ∧ x ≤ 1000000
  · by_cases hp : placeB (rowOf r) x = true
    · refine .inl ⟨?_, hp⟩
      rw [hasRes, if_pos h, placeRes, if_pos h, if_pos hx, if_pos hp]; rfl
    · refine .inr ⟨?_, hp⟩
      rw [hasRes, if_pos h, placeRes, if_pos h, if_pos hx, if_neg hp]; rfl
  · refine .inr ⟨?_, ?_⟩
    · rw [hasRes, if_pos h, placeRes, if_pos h, if_neg hx]; rfl
    · rw [← memb_place hr]
      rintro ⟨i, hi, rfl⟩
      exact hx (at_near hr (by omega) hi)
def lowOf (x : Rw) : Int := if x.f ≤ lastOf x then x.f else lastOf x
def highOf (x : Rw) : Int := if x.f ≤ lastOf x then lastOf x else x.f
/-- a member is at a whole distance of the first one and between the ends -/
theorem memb_iff {r : Rg} (h : r.ok) (x : Int) : Memb r x ↔ (rowOf r).n ≠ 0 ∧ (rowOf r).s ∣ (x - (rowOf r).f) ∧ lowOf (rowOf r) ≤ x ∧ x ≤ highOf (rowOf r) := by
  have hs := (rowOf_small h).2
  have hn := (rowOf_n_bd h).1
  unfold Memb lowOf highOf
  generalize rowOf r = y at *
  have el : lastOf y = y.f + (y.n - 1) * y.s := rfl
  constructor
  · rintro ⟨i, hi, rfl⟩
    have e : atOf y i - y.f = i * y.s := by unfold atOf; omega
    refine ⟨by omega, by rw [e]; exact Int.dvd_mul_left _ _, ?_⟩
    by_cases hp : 0 ≤ y.s
    · have e1 := mul_mono (show (0 : Int) ≤ i by omega) hp
      have e2 := mul_mono (show (i : Int) ≤ y.n - 1 by omega) hp
      rw [Int.zero_mul] at e1
      rw [if_pos (by omega), if_pos (by omega)]
      omega
    · have e1 := mul_anti (show (0 : Int) ≤ i by omega) (c := y.s) (by omega)
      have e2 := mul_anti (show (i : Int) ≤ y.n - 1 by omega) (c := y.s) (by omega)
      rw [Int.zero_mul] at e1
      by_cases h0 : y.f ≤ lastOf y
      · rw [if_pos h0, if_pos h0]; omega
      · rw [if_neg h0, if_neg h0]; omega
  · rintro ⟨h0, ⟨q, hq⟩, h1, h2⟩
    rw [Int.mul_comm] at hq
    have q0 : 0 ≤ q ∧ q ≤ y.n - 1 := by
      by_cases hp : 0 < y.s
      · have hl : y.f ≤ lastOf y := by
          have := mul_mono (show (0 : Int) ≤ y.n - 1 by omega) (c := y.s) (by omega)
          rw [Int.zero_mul] at this; omega
        rw [if_pos hl] at h1 h2
        constructor
        · apply Classical.byContradiction
          intro hc
          have := mul_mono (show q ≤ -1 by omega) (c := y.s) (by omega)
          omega
        · apply Classical.byContradiction
          intro hc
          have := mul_mono (show y.n ≤ q by omega) (c := y.s) (by omega)
          rw [Int.sub_mul] at el
          omega
      · have hl : lastOf y ≤ y.f := by
          have := mul_anti (show (0 : Int) ≤ y.n - 1 by omega) (c := y.s) (by omega)
          rw [Int.zero_mul] at this; omega
        have h1' : lastOf y ≤ x := by
          by_cases hc : y.f ≤ lastOf y
          · rw [if_pos hc] at h1; omega
          · rw [if_neg hc] at h1; exact h1
        have h2' : x ≤ y.f := by
          by_cases hc : y.f ≤ lastOf y
          · rw [if_pos hc] at h2; omega
          · rw [if_neg hc] at h2; exact h2
        constructor
        · apply Classical.byContradiction
          intro hc
          have := mul_anti (show q ≤ -1 by omega) (c := y.s) (by omega)
          omega
        · apply Classical.byContradiction
          intro hc
          have := mul_anti (show y.n ≤ q by omega) (c := y.s) (by omega)
          rw [Int.sub_mul] at el
          omega
    refine ⟨q.toNat, by omega, ?_⟩
    rw [Int.toNat_of_nonneg q0.1]
    unfold atOf; omega
/-- the period: at which distance the members of r that are at a whole distance of s stand -/
def perOf (s t : Int) : Nat := t.natAbs / Nat.gcd s.natAbs t.natAbs
theorem per_pos {s t : Int} (ht : t ≠ 0) : 1 ≤ perOf s t ∧ perOf s t ≤ t.natAbs := by
  unfold perOf
  have h1 : 0 < t.natAbs := by omega
  have h2 := Nat.gcd_dvd_right s.natAbs t.natAbs
  have h3 : 0 < Nat.gcd s.natAbs t.natAbs := Nat.gcd_pos_of_pos_right _ h1
  exact ⟨Nat.div_pos (Nat.le_of_dvd h1 h2) h3, Nat.div_le_self _ _⟩
theorem per_dvd {s t : Int} (ht : t ≠ 0) (d : Int) : t ∣ d * s ↔ (perOf s t : Int) ∣ d := by
  rw [← Int.natAbs_dvd_natAbs, ← Int.natAbs_dvd_natAbs, Int.natAbs_mul, Int.natAbs_natCast]
  unfold perOf
  generalize d.natAbs = d
  have h1 : 0 < t.natAbs := by omega
  generalize t.natAbs = b at *
  generalize s.natAbs = a
  have hg : 0 < Nat.gcd a b := Nat.gcd_pos_of_pos_right _ h1
  obtain ⟨a', ha⟩ := Nat.gcd_dvd_left a b
  obtain ⟨b', hb⟩ := Nat.gcd_dvd_right a b
  have hc := Nat.coprime_div_gcd_div_gcd hg
  have ea : a / Nat.gcd a b = a' := by
    conv => lhs; arg 1; rw [ha]
    exact Nat.mul_div_cancel_left _ hg
  have eb : b / Nat.gcd a b = b' := by
    conv => lhs; arg 1; rw [hb]
    exact Nat.mul_div_cancel_left _ hg
  rw [ea, eb] at hc
  rw [eb]
  generalize Nat.gcd a b = g at *
  subst ha hb
  constructor
  · intro h
    have h' : g * b' ∣ g * (d * a') := by rw [show g * (d * a') = d * (g * a') by rw [← Nat.mul_assoc, Nat.mul_comm g d, Nat.mul_assoc]]; exact h
    have := Nat.dvd_of_mul_dvd_mul_left hg h'
    exact hc.symm.dvd_of_dvd_mul_right this
  · rintro ⟨c, rfl⟩
    exact ⟨c * a', by rw [Nat.mul_assoc b' c, show g * b' * (c * a') = b' * (g * (c * a')) by rw [Nat.mul_comm g b', Nat.mul_assoc], ← Nat.mul_assoc g c a', Nat.mul_comm g c, Nat.mul_assoc c g a']⟩
/-- the i-th member of x is at a whole distance of y -/
def onGrid (x y : Rw) (i : Int) : Prop := y.s ∣ (atOf x i - y.f)
theorem grid_per {x y : Rw} (hy : y.s ≠ 0) {i j : Int} (hi : onGrid x y i) : onGrid x y j ↔ (perOf x.s y.s : Int) ∣ (j - i) := by
  rw [← per_dvd hy]
  unfold onGrid at *
  have e : atOf x j - y.f = (atOf x i - y.f) + (j - i) * x.s := by unfold atOf; rw [Int.sub_mul]; omega
  rw [e]
  exact (Int.dvd_add_right hi)
/-- how many steps until a distance is overcome -/
def ceilK (x step : Int) : Int := if (x + step - 1).tdiv step ≤ 0 then 0 else (x + step - 1).tdiv step
theorem ceilK_nn (x step : Int) : 0 ≤ ceilK x step := by unfold ceilK; split <;> omega
theorem ceilK_iff {x step : Int} (hs : 0 < step) {j : Int} (hj : 0 ≤ j) : ceilK x step ≤ j ↔ x ≤ j * step := by
  have hm := Int.mul_tdiv_add_tmod (x + step - 1) step
  unfold ceilK
  by_cases h0 : 0 ≤ x + step - 1
  · have h1 := Int.tmod_nonneg step h0
    have h2 := Int.tmod_lt_of_pos (x + step - 1) hs
    have hq : 0 ≤ (x + step - 1).tdiv step := Int.tdiv_nonneg h0 (by omega)
    generalize (x + step - 1).tdiv step = q at *
    rw [Int.mul_comm] at hm
    have e : (if q ≤ 0 then 0 else q) = q := by split <;> omega
    rw [e]
    constructor
    · intro h
      have := mul_mono h (c := step) (by omega)
      omega
    · intro h
      apply Classical.byContradiction
      intro hc
      have := mul_mono (show j + 1 ≤ q by omega) (c := step) (by omega)
      rw [Int.add_mul] at this
      omega
  · have hq : (x + step - 1).tdiv step ≤ 0 := by
      have := Int.tdiv_nonneg (a := -(x + step - 1)) (b := step) (by omega) (by omega)
      rw [Int.neg_tdiv] at this
      omega
    rw [if_pos hq]
    have := mul_mono hj (c := step) (by omega)
    rw [Int.zero_mul] at this
    omega
end Go.Proofs.Ytpomhnmfkdgafaa
namespace Go.Proofs.Ytpomhnmfkdgafaa
set_option linter.unusedVariables false
/-- what Meet returns -/
inductive MeetIs (r s : Rg) : Rg → Int → Prop
  | bad (h : ¬ (vB r = true ∧ vB s = true)) : MeetIs r s ⟨0, 0, 0⟩ 30
  | none (hr : vB r = true) (hs : vB s = true) (h : ∀ i : Nat, (i : Int) < (rowOf r).n → ¬ Memb s (atOf (rowOf r) i)) : MeetIs r s ⟨1, 0, 1⟩ 0
  | some (hr : vB r = true) (hs : vB s = true) (a p k : Nat) (hp : 1 ≤ p) (hp2 : p ≤ 1000) (hk : 1 ≤ k) (hl : ((a + p * (k - 1) : Nat) : Int) < (rowOf r).n)
      (h : ∀ i : Nat, (i : Int) < (rowOf r).n → (Memb s (atOf (rowOf r) i) ↔ ∃ j : Nat, j < k ∧ i = a + p * j)) : MeetIs r s (doneV ⟨atOf (rowOf r) (a : Int), (rowOf r).s * (p : Int), (k : Int)⟩) (doneE ⟨atOf (rowOf r) (a : Int), (rowOf r).s * (p : Int), (k : Int)⟩)
def outRow (x : Rw) (k p : Int) : Rw := ⟨atOf x k, x.s * p, (x.n - k + p - 1).tdiv p⟩
def frontOf (x y : Rw) (k p : Int) : Int := if (outRow x k p).s < 0 then (outRow x k p).f - highOf y else lowOf y - (outRow x k p).f
def behindOf (x y : Rw) (k p : Int) : Int := if (outRow x k p).s < 0 then lowOf y - lastOf (outRow x k p) else lastOf (outRow x k p) - highOf y
def skipOf (x y : Rw) (k p : Int) : Int := ceilK (frontOf x y k p) (absI (outRow x k p).s)
def leaveOf (x y : Rw) (k p : Int) : Int := ceilK (behindOf x y k p) (absI (outRow x k p).s)
def meetRow (x y : Rw) (k p : Int) : Rw := if (outRow x k p).n ≤ skipOf x y k p + leaveOf x y k p then ⟨0, 1, 0⟩ else partOf (outRow x k p) (skipOf x y k p) ((outRow x k p).n - skipOf x y k p - leaveOf x y k p)
theorem per_in {r s : Rg} (hr : r.ok) (hs : s.ok) : 1 ≤ perOf (rowOf r).s (rowOf s).s ∧ perOf (rowOf r).s (rowOf s).s ≤ 1000 := by
  obtain ⟨_, _, _, _, t1, t2, t3⟩ := hs
  have := per_pos (s := (rowOf r).s) (t := (rowOf s).s) t3
  have e : (rowOf s).s = s.st := rfl
  omega
theorem meet_none {r s : Rg} (hr : vB r = true) (hs : vB s = true) (h : ∀ k : Nat, k < perOf (rowOf r).s (rowOf s).s → (k : Int) < (rowOf r).n → (rowOf s).n = 0 ∨ ¬ onGrid (rowOf r) (rowOf s) k) : MeetIs r s ⟨1, 0, 1⟩ 0 := by
  refine .none hr hs fun i hi hm => ?_
  have hsk := vB_ok' hs
  obtain ⟨h0, h1, h2, h3⟩ := (memb_iff hsk _).1 hm
  have hp := (per_in (vB_ok' hr) hsk).1
  have ht := (rowOf_small hsk).2
  have hg : onGrid (rowOf r) (rowOf s) (i : Int) := h1
  have hlt : i % perOf (rowOf r).s (rowOf s).s < perOf (rowOf r).s (rowOf s).s := Nat.mod_lt _ hp
  have hle := Nat.mod_le i (perOf (rowOf r).s (rowOf s).s)
  rcases h (i % perOf (rowOf r).s (rowOf s).s) hlt (by omega) with e | e
  · exact h0 e
  · refine e ((grid_per ht hg).2 ?_)
    have hd : (perOf (rowOf r).s (rowOf s).s : Int) ∣ ((i : Int) - (i % perOf (rowOf r).s (rowOf s).s : Nat)) := by
      have := Nat.div_add_mod i (perOf (rowOf r).s (rowOf s).s)
      exact ⟨((i / perOf (rowOf r).s (rowOf s).s : Nat) : Int), by rw [← Int.natCast_mul]; omega⟩
    have := (Int.dvd_neg).2 hd
    rwa [Int.neg_sub] at this
theorem out_at (x : Rw) (k p j : Int) : atOf (outRow x k p) j = atOf x (k + p * j) := by
  show x.f + k * x.s + j * (x.s * p) = x.f + (k + p * j) * x.s
  rw [Int.add_mul, Int.mul_comm p j, Int.mul_assoc j p, Int.mul_comm p x.s, Int.add_assoc]
theorem out_n {x : Rw} {k p : Int} (hp : 1 ≤ p) (hk : k < x.n) : (outRow x k p).n = ceilK (x.n - k) p ∧ 1 ≤ (outRow x k p).n ∧ ∀ j : Int, 0 ≤ j → (j < (outRow x k p).n ↔ k + p * j < x.n) := by
  have hc : 1 ≤ ceilK (x.n - k) p := by
    have := (ceilK_iff (x := x.n - k) (step := p) (by omega) (j := 0) (by omega))
    rw [Int.zero_mul] at this
    omega
  have e : (outRow x k p).n = ceilK (x.n - k) p := by
    show (x.n - k + p - 1).tdiv p = _
    unfold ceilK at hc ⊢
    split
    · rename_i h; rw [if_pos h] at hc; omega
    · rfl
  refine ⟨e, by omega, fun j hj => ?_⟩
  have := (ceilK_iff (x := x.n - k) (step := p) (by omega) hj)
  rw [e, Int.mul_comm p j]
  omega
theorem absI_cases (n : Int) : (0 ≤ n ∧ absI n = n) ∨ (n < 0 ∧ absI n = -n) := by unfold absI; split <;> omega
/-- which members of the grid stand between the ends -/
theorem meet_in {x y : Rw} {k p : Int} (hs : x.s * p ≠ 0) {j : Int} (hj : 0 ≤ j) (hj2 : j < (outRow x k p).n) : (lowOf y ≤ atOf x (k + p * j) ∧ atOf x (k + p * j) ≤ highOf y) ↔ (skipOf x y k p ≤ j ∧ leaveOf x y k p ≤ (outRow x k p).n - 1 - j) := by
  have e : atOf x (k + p * j) = (outRow x k p).f + j * (outRow x k p).s := by
    show _ = atOf x k + j * (x.s * p)
    unfold atOf
    rw [Int.add_mul, Int.mul_comm p j, Int.mul_assoc, Int.mul_comm p x.s]; omega
  have hS : (outRow x k p).s ≠ 0 := hs
  have el : lastOf (outRow x k p) = (outRow x k p).f + ((outRow x k p).n - 1) * (outRow x k p).s := rfl
  have hj3 : 0 ≤ (outRow x k p).n - 1 - j := by omega
  rw [e]
  unfold skipOf leaveOf frontOf behindOf
  rw [el]
  clear el e hs
  generalize outRow x k p = o at *
  rcases absI_cases o.s with ⟨h1, h2⟩ | ⟨h1, h2⟩
  · rw [h2, if_neg (by omega), if_neg (by omega), ceilK_iff (by omega) hj, ceilK_iff (by omega) hj3]
    have e1 : (o.n - 1 - j) * o.s = (o.n - 1) * o.s - j * o.s := Int.sub_mul ..
    rw [e1]; omega
  · rw [h2, if_pos h1, if_pos h1, ceilK_iff (by omega) hj, ceilK_iff (by omega) hj3]
    have e1 : (o.n - 1 - j) * -o.s = j * o.s - (o.n - 1) * o.s := by rw [Int.mul_neg, Int.sub_mul]; omega
    have e2 : j * -o.s = -(j * o.s) := Int.mul_neg ..
    rw [e1, e2]; omega
theorem meet_some {r s : Rg} (hr : vB r = true) (hs : vB s = true) {k : Nat} (hk : k < perOf (rowOf r).s (rowOf s).s) (hkn : (k : Int) < (rowOf r).n) (h0 : (rowOf s).n ≠ 0) (hg : onGrid (rowOf r) (rowOf s) k) :
    MeetIs r s (doneV (meetRow (rowOf r) (rowOf s) k (perOf (rowOf r).s (rowOf s).s))) (doneE (meetRow (rowOf r) (rowOf s) k (perOf (rowOf r).s (rowOf s).s))) := by
  have hrk := vB_ok' hr
  have hsk := vB_ok' hs
  have ht := (rowOf_small hsk).2
  have hxs := (rowOf_small hrk).2
  obtain ⟨hp1, hp2⟩ := per_in hrk hsk
  have hper := fun i : Int => grid_per (j := i) ht hg
  have hmi := fun i : Int => memb_iff hsk (atOf (rowOf r) i)
  generalize perOf (rowOf r).s (rowOf s).s = p at *
  have hS : (rowOf r).s * (p : Int) ≠ 0 := Int.mul_ne_zero hxs (by omega)
  obtain ⟨o1, o2, o3⟩ := out_n (x := rowOf r) (k := k) (p := p) (by omega) hkn
  have hin := fun (j : Int) (hj : 0 ≤ j) (hj2 : j < (outRow (rowOf r) k p).n) => meet_in (x := rowOf r) (y := rowOf s) (k := k) (p := p) hS hj hj2
  have sk := ceilK_nn (frontOf (rowOf r) (rowOf s) k p) (absI (outRow (rowOf r) k p).s)
  have lv := ceilK_nn (behindOf (rowOf r) (rowOf s) k p) (absI (outRow (rowOf r) k p).s)
  change 0 ≤ skipOf (rowOf r) (rowOf s) k p at sk
  change 0 ≤ leaveOf (rowOf r) (rowOf s) k p at lv
  have key : ∀ i : Nat, (i : Int) < (rowOf r).n → (Memb s (atOf (rowOf r) i) ↔ ∃ j : Nat, (skipOf (rowOf r) (rowOf s) k p ≤ j ∧ leaveOf (rowOf r) (rowOf s) k p ≤ (outRow (rowOf r) k p).n - 1 - j) ∧ i = k + p * j) := by
    intro i hi
    rw [hmi]
    constructor
    · rintro ⟨_, hd, hb⟩
      obtain ⟨j, hj⟩ := (hper i).1 hd
      have hj0 : 0 ≤ j := by
        apply Classical.byContradiction
        intro hc
        have := mul_mono (show j ≤ -1 by omega) (c := (p : Int)) (by omega)
        rw [Int.mul_comm j] at this
        omega
      have hjn := (o3 j hj0).2 (by omega)
      refine ⟨j.toNat, ?_, ?_⟩
      · rw [Int.toNat_of_nonneg hj0]
        refine (hin j hj0 hjn).1 ?_
        rw [show (k : Int) + p * j = i by omega]; exact hb
      · have e : ((j.toNat : Nat) : Int) = j := Int.toNat_of_nonneg hj0
        have e2 : ((k + p * j.toNat : Nat) : Int) = k + p * j := by rw [Int.natCast_add, Int.natCast_mul, e]
        omega
    · rintro ⟨j, hj, rfl⟩
      have e2 : ((k + p * j : Nat) : Int) = k + p * j := by rw [Int.natCast_add, Int.natCast_mul]
      rw [e2] at hi ⊢
      refine ⟨h0, (hper _).2 ⟨j, by omega⟩, ?_⟩
      exact (hin j (by omega) ((o3 j (by omega)).2 hi)).2 hj
  obtain ⟨sn, hsn⟩ := Int.eq_ofNat_of_zero_le sk
  obtain ⟨ln, hln⟩ := Int.eq_ofNat_of_zero_le lv
  obtain ⟨cn, hcn⟩ := Int.eq_ofNat_of_zero_le (show 0 ≤ (outRow (rowOf r) k p).n by omega)
  unfold meetRow
  rw [hsn, hln, hcn] at key ⊢
  by_cases hc : (cn : Int) ≤ (sn : Int) + ln
  · rw [if_pos hc]
    obtain ⟨d1, d2⟩ := done_none 0 1
    rw [d1, d2]
    refine .none hr hs fun i hi hm => ?_
    obtain ⟨j, hj, _⟩ := (key i hi).1 hm
    omega
  · rw [if_neg hc]
    have ek : ((cn : Int) - sn - ln) = ((cn - sn - ln : Nat) : Int) := by omega
    have ea : partOf (outRow (rowOf r) k p) (sn : Int) ((cn : Int) - sn - ln) = ⟨atOf (rowOf r) ((k + p * sn : Nat) : Int), (rowOf r).s * (p : Int), ((cn - sn - ln : Nat) : Int)⟩ := by
      refine Rw.ext' ?_ rfl ek
      show atOf (rowOf r) k + (sn : Int) * ((rowOf r).s * (p : Int)) = _
      unfold atOf
      simp only
      rw [Int.natCast_add, Int.natCast_mul, Int.add_mul, Int.mul_comm (p : Int) sn, Int.mul_assoc, Int.mul_comm (p : Int) (rowOf r).s]; omega
    rw [ea]
    refine .some hr hs (k + p * sn) p (cn - sn - ln) hp1 hp2 (by omega) ?_ fun i hi => ?_
    · have := (o3 ((cn : Int) - 1 - ln) (by omega)).1 (by omega)
      have e3 : ((k + p * sn + p * (cn - sn - ln - 1) : Nat) : Int) = k + p * ((cn : Int) - 1 - ln) := by
        have e4 : ((cn - sn - ln - 1 : Nat) : Int) = (cn : Int) - 1 - ln - sn := by omega
        rw [Int.natCast_add, Int.natCast_add, Int.natCast_mul, Int.natCast_mul, e4, Int.mul_sub]; omega
      omega
    · rw [key i hi]
      constructor
      · rintro ⟨j, hj, rfl⟩
        refine ⟨j - sn, by omega, ?_⟩
        rw [Nat.add_assoc, ← Nat.mul_add]
        congr 2
        omega
      · rintro ⟨j, hj, rfl⟩
        refine ⟨sn + j, ⟨by omega, by omega⟩, ?_⟩
        rw [Nat.mul_add, Nat.add_assoc]
end Go.Proofs.Ytpomhnmfkdgafaa
namespace Go.Proofs.Ytpomhnmfkdgafaa
set_option linter.unusedVariables false
def withinB (r s : Rg) : Bool := decide ((rowOf r).n = 0 ∨ (placeB (rowOf s) (rowOf r).f = true ∧ placeB (rowOf s) (lastOf (rowOf r)) = true ∧ ((rowOf r).n = 1 ∨ (rowOf r).s.tmod (rowOf s).s = 0)))
def withinRes (r s : Rg) : Bool × Int := if vB r = true ∧ vB s = true then (withinB r s, 0) else (false, 30)
theorem within_bad {r s : Rg} (h : ¬ (vB r = true ∧ vB s = true)) : withinRes r s = (false, 30) := if_neg h
theorem at_mid {x : Rw} {i : Int} (h0 : 0 ≤ i) (h1 : i < x.n) : lowOf x ≤ atOf x i ∧ atOf x i ≤ highOf x := by
  unfold lowOf highOf lastOf atOf
  by_cases hs : 0 ≤ x.s
  · have a := mul_mono (show i ≤ x.n - 1 by omega) hs
    have b := Int.mul_nonneg h0 hs
    split <;> omega
  · have a := mul_anti (show i ≤ x.n - 1 by omega) (show x.s ≤ 0 by omega)
    have b := mul_anti h0 (show x.s ≤ 0 by omega)
    rw [Int.zero_mul] at b
    split <;> omega
/-- the program's test -/
theorem within_iff {r s : Rg} (hr : r.ok) (hs : s.ok) (h1 : 1 ≤ (rowOf r).n) : (∀ i : Nat, (i : Int) < (rowOf r).n → Memb s (atOf (rowOf r) i)) ↔ Memb s (rowOf r).f ∧ Memb s (lastOf (rowOf r)) ∧ ((rowOf r).n = 1 ∨ (rowOf s).s ∣ (rowOf r).s) := by
  have e0 : atOf (rowOf r) ((0 : Nat) : Int) = (rowOf r).f := by simp [atOf]
  constructor
  · intro h
    refine ⟨e0 ▸ h 0 (by omega), ?_, ?_⟩
    · have := h ((rowOf r).n - 1).toNat (by omega)
      rw [show (((rowOf r).n - 1).toNat : Int) = (rowOf r).n - 1 by omega] at this
      exact this
    · by_cases hn : (rowOf r).n = 1
      · exact .inl hn
      · refine .inr ?_
        have a := ((memb_iff hs _).1 (h 0 (by omega))).2.1
        have b := ((memb_iff hs _).1 (h 1 (by omega))).2.1
        have c := Int.dvd_sub b a
        have : atOf (rowOf r) ((1 : Nat) : Int) - (rowOf s).f - (atOf (rowOf r) ((0 : Nat) : Int) - (rowOf s).f) = (rowOf r).s := by simp only [atOf, Int.natCast_one, Int.natCast_zero, Int.one_mul, Int.zero_mul]; omega
        rwa [this] at c
  · rintro ⟨h2, h3, h4⟩ i hi
    obtain ⟨f1, f2, f3, f4⟩ := (memb_iff hs _).1 h2
    obtain ⟨l1, l2, l3, l4⟩ := (memb_iff hs _).1 h3
    obtain ⟨m1, m2⟩ := at_mid (x := rowOf r) (i := i) (by omega) hi
    have m3 : lowOf (rowOf s) ≤ lowOf (rowOf r) ∧ highOf (rowOf r) ≤ highOf (rowOf s) := by
      generalize lowOf (rowOf s) = a at *
      generalize highOf (rowOf s) = b at *
      unfold lowOf highOf
      split <;> omega
    refine (memb_iff hs _).2 ⟨f1, ?_, by omega, by omega⟩
    have : atOf (rowOf r) i - (rowOf s).f = ((rowOf r).f - (rowOf s).f) + (i : Int) * (rowOf r).s := by simp only [atOf]; omega
    rw [this]
    refine Int.dvd_add f2 ?_
    rcases h4 with h4 | h4
    · have : i = 0 := by omega
      subst this; simp
    · exact Int.dvd_trans h4 ⟨(i : Int), by rw [Int.mul_comm]⟩
theorem withinB_iff {r s : Rg} (hr : r.ok) (hs : s.ok) : withinB r s = true ↔ ∀ i : Nat, (i : Int) < (rowOf r).n → Memb s (atOf (rowOf r) i) := by
  unfold withinB
  rw [decide_eq_true_iff]
  by_cases h0 : (rowOf r).n = 0
  · exact ⟨fun _ i hi => absurd hi (by omega), fun _ => .inl h0⟩
  · have := (rowOf_n_bd hr).1
    rw [within_iff hr hs (by omega), memb_place hs, memb_place hs, Int.dvd_iff_tmod_eq_zero]
    exact ⟨fun h => h.elim (fun h => absurd h h0) id, .inr⟩
theorem within_yes {r s : Rg} (hr : vB r = true) (hs : vB s = true) (h : ∀ i : Nat, (i : Int) < (rowOf r).n → Memb s (atOf (rowOf r) i)) : withinRes r s = (true, 0) := by
  rw [withinRes, if_pos ⟨hr, hs⟩, (withinB_iff (vB_ok' hr) (vB_ok' hs)).2 h]
theorem within_no {r s : Rg} (hr : vB r = true) (hs : vB s = true) (h : ¬ ∀ i : Nat, (i : Int) < (rowOf r).n → Memb s (atOf (rowOf r) i)) : withinRes r s = (false, 0) := by
  rw [withinRes, if_pos ⟨hr, hs⟩]
  cases hb : withinB r s with
  | false => rfl
  | true => exact absurd ((withinB_iff (vB_ok' hr) (vB_ok' hs)).1 hb) h
theorem meet_first {r s : Rg} {a p k : Nat} (hp : 1 ≤ p) (hk : 1 ≤ k) (h : ∀ i : Nat, (i : Int) < (rowOf r).n → (Memb s (atOf (rowOf r) i) ↔ ∃ j : Nat, j < k ∧ i = a + p * j)) : ∀ i : Nat, (i : Int) < (rowOf r).n → i < a → ¬ Memb s (atOf (rowOf r) i) := fun i hi hlt hm => by
  obtain ⟨j, _, rfl⟩ := (h i hi).1 hm
  exact absurd (Nat.le_add_right a (p * j)) (by omega)
theorem meet_gap {r s : Rg} {a p k : Nat} (hp : 1 ≤ p) (h : ∀ i : Nat, (i : Int) < (rowOf r).n → (Memb s (atOf (rowOf r) i) ↔ ∃ j : Nat, j < k ∧ i = a + p * j)) : ∀ i : Nat, (i : Int) < (rowOf r).n → a < i → i < a + p → ¬ Memb s (atOf (rowOf r) i) := fun i hi h1 h2 hm => by
  obtain ⟨j, _, rfl⟩ := (h i hi).1 hm
  cases j with
  | zero => omega
  | succ j => rw [Nat.mul_succ] at h2; omega
theorem meet_end {r s : Rg} {a p k : Nat} (hk : 1 ≤ k) (h : ∀ i : Nat, (i : Int) < (rowOf r).n → (Memb s (atOf (rowOf r) i) ↔ ∃ j : Nat, j < k ∧ i = a + p * j)) : ∀ i : Nat, (i : Int) < (rowOf r).n → a + p * (k - 1) < i → ¬ Memb s (atOf (rowOf r) i) := fun i hi h1 hm => by
  obtain ⟨j, hj, rfl⟩ := (h i hi).1 hm
  have := Nat.mul_le_mul_left p (show j ≤ k - 1 by omega)
  omega
end Go.Proofs.Ytpomhnmfkdgafaa
namespace Go.Proofs.Ytpomhnmfkdgafaa
set_option linter.unusedVariables false
theorem row_none : (rowOf ⟨1, 0, 1⟩).n = 0 := by decide
theorem norm_n {x : Rw} : (normOf x).n = x.n := by
  unfold normOf
  split
  · simp_all
  · split
    · simp_all
    · rfl
theorem norm_at {x : Rw} {i : Int} (h0 : 0 ≤ i) (h1 : i < x.n) : atOf (normOf x) i = atOf x i := by
  unfold normOf
  split
  · omega
  · split
    · have : i = 0 := by omega
      subst this
      simp [atOf]
    · rfl
theorem prog_ext {a p k n : Nat} (hp : 1 ≤ p) (hk : 1 ≤ k) (hl : a + p * (k - 1) < n) : k ≤ n ∧ (k = n → ∀ i, i < n → ∃ j, j < k ∧ i = a + p * j) ∧ ((∀ i, i < n → ∃ j, j < k ∧ i = a + p * j) → a = 0 ∧ k = n ∧ (2 ≤ n → p = 1)) := by
  have h1 : k - 1 ≤ p * (k - 1) := Nat.le_mul_of_pos_left _ hp
  refine ⟨by omega, fun he i hi => ?_, fun h => ?_⟩
  · by_cases hk1 : k = 1
    · exact ⟨0, by omega, by omega⟩
    · have hp1 : p = 1 := by
        apply Classical.byContradiction
        intro hne
        have := Nat.mul_le_mul_right (k - 1) (show 2 ≤ p by omega)
        omega
      subst hp1
      exact ⟨i, by omega, by omega⟩
  · obtain ⟨j0, _, e0⟩ := h 0 (by omega)
    have ha : a = 0 := by omega
    subst ha
    by_cases hn : 2 ≤ n
    · obtain ⟨j1, _, e1⟩ := h 1 (by omega)
      have hp1 : p = 1 := by
        have : p ∣ 1 := ⟨j1, by omega⟩
        exact Nat.dvd_one.1 this
      subst hp1
      obtain ⟨j2, hj2, e2⟩ := h (n - 1) (by omega)
      exact ⟨rfl, by omega, fun _ => rfl⟩
    · exact ⟨rfl, by omega, fun h => absurd h hn⟩
theorem meet_memb {r s a : Rg} {e : Int} (h : MeetIs r s a e) (hr : vB r = true) (he : e = 0) : vB a = true ∧ (∀ x, Memb a x ↔ Memb r x ∧ Memb s x) ∧ ((rowOf a).n = (rowOf r).n ↔ ∀ i : Nat, (i : Int) < (rowOf r).n → Memb s (atOf (rowOf r) i)) := by
  have hb := rowOf_n_bd (vB_ok' hr)
  cases h with
  | bad h => cases he
  | none hr hs h =>
    refine ⟨by decide, fun x => ⟨fun ⟨i, hi, _⟩ => ?_, fun ⟨⟨i, hi, hx⟩, h2⟩ => ?_⟩, fun hn i hi => ?_, fun hall => ?_⟩
    · rw [row_none] at hi; omega
    · rw [← hx] at h2; exact absurd h2 (h i hi)
    · rw [row_none] at hn; omega
    · rw [row_none]
      apply Classical.byContradiction
      intro hne
      exact h 0 (by omega) (hall 0 (by omega))
  | some hr hs c p k hp hp2 hk hl h =>
    obtain ⟨hv, hd⟩ := done_ok he
    rw [hd]
    have hs0 : (rowOf r).s * (p : Int) ≠ 0 := Int.mul_ne_zero (rowOf_small (vB_ok' hr)).2 (by omega)
    have hrow := row_norm (x := ⟨atOf (rowOf r) (c : Int), (rowOf r).s * (p : Int), (k : Int)⟩) (by simp only; omega) hs0
    have hat : ∀ j : Nat, atOf ⟨atOf (rowOf r) (c : Int), (rowOf r).s * (p : Int), (k : Int)⟩ (j : Int) = atOf (rowOf r) ((c + p * j : Nat) : Int) := fun j => by
      have := out_at (rowOf r) c p j
      simp only [outRow, atOf] at this ⊢
      rw [this, Int.natCast_add, Int.natCast_mul]
    have hjn : ∀ j : Nat, j < k → ((c + p * j : Nat) : Int) < (rowOf r).n := fun j hj => by
      have := Nat.mul_le_mul_left p (show j ≤ k - 1 by omega)
      omega
    have hmem : ∀ x, Memb (canonOf ⟨atOf (rowOf r) (c : Int), (rowOf r).s * (p : Int), (k : Int)⟩) x ↔ ∃ j : Nat, j < k ∧ atOf (rowOf r) ((c + p * j : Nat) : Int) = x := fun x => by
      unfold Memb
      rw [hrow]
      constructor
      · rintro ⟨i, hi, hx⟩
        rw [norm_n] at hi
        simp only at hi
        rw [norm_at (by omega) (by simp only; omega), hat] at hx
        exact ⟨i, by omega, hx⟩
      · rintro ⟨j, hj, hx⟩
        exact ⟨j, by rw [norm_n]; simp only; omega, by rw [norm_at (by omega) (by simp only; omega), hat]; exact hx⟩
    refine ⟨hv, fun x => ?_, ?_⟩
    · rw [hmem]
      constructor
      · rintro ⟨j, hj, hx⟩
        exact ⟨⟨_, hjn j hj, hx⟩, hx ▸ (h _ (hjn j hj)).2 ⟨j, hj, rfl⟩⟩
      · rintro ⟨⟨i, hi, hx⟩, h2⟩
        rw [← hx] at h2
        obtain ⟨j, hj, rfl⟩ := (h i hi).1 h2
        exact ⟨j, hj, hx⟩
    · rw [hrow, norm_n]
      obtain ⟨n, hn⟩ : ∃ n : Nat, (n : Int) = (rowOf r).n := ⟨(rowOf r).n.toNat, by omega⟩
      rw [← hn] at h hl ⊢
      obtain ⟨_, q2, q3⟩ := prog_ext (a := c) (n := n) hp hk (by omega)
      exact ⟨fun he i hi => (h i hi).2 (q2 (by simp only at he; omega) i (by omega)), fun hall => by
        have := (q3 fun i hi => (h i (by omega)).1 (hall i (by omega))).2.1
        simp only; omega⟩
theorem meet_self {r a : Rg} {e : Int} (h : MeetIs r r a e) (hr : vB r = true) : a = canonOf (rowOf r) ∧ e = 0 := by
  have hrk := vB_ok' hr
  have hb := rowOf_n_bd hrk
  have hself : ∀ i : Nat, (i : Int) < (rowOf r).n → Memb r (atOf (rowOf r) i) := fun i hi => ⟨i, hi, rfl⟩
  cases h with
  | bad h => exact absurd ⟨hr, hr⟩ h
  | none _ _ h =>
    have h0 : (rowOf r).n = 0 := by
      apply Classical.byContradiction
      intro hne
      exact h 0 (by omega) (hself 0 (by omega))
    exact ⟨(canonOf_0 h0).symm, rfl⟩
  | some _ _ c p k hp hp2 hk hl h =>
    obtain ⟨n, hn⟩ : ∃ n : Nat, (n : Int) = (rowOf r).n := ⟨(rowOf r).n.toNat, by omega⟩
    have h' : ∀ i : Nat, i < n → ∃ j : Nat, j < k ∧ i = c + p * j := fun i hi => (h i (by omega)).1 (hself i (by omega))
    obtain ⟨_, _, q3⟩ := prog_ext (a := c) (n := n) hp hk (by omega)
    obtain ⟨rfl, rfl, hp1⟩ := q3 h'
    have e0 : atOf (rowOf r) ((0 : Nat) : Int) = (rowOf r).f := by simp [atOf]
    have hd := done_row hrk
    rw [e0]
    by_cases h2 : 2 ≤ k
    · rw [hp1 h2, hn]
      have : (⟨(rowOf r).f, (rowOf r).s * ((1 : Nat) : Int), (rowOf r).n⟩ : Rw) = rowOf r := Rw.ext' rfl (by simp) rfl
      rw [this]; exact hd
    · have hk1 : k = 1 := by omega
      subst hk1
      have hf := done_few (f := (rowOf r).f) (s := (rowOf r).s * (p : Int)) (s' := (rowOf r).s) (n := ((1 : Nat) : Int)) (.inr rfl)
      rw [hf.1, hf.2, hn]
      exact hd
end Go.Proofs.Ytpomhnmfkdgafaa
namespace Go.Proofs.Ytpomhnmfkdgafaa
set_option linter.unusedVariables false
def cN (r : Rg) : Nat := (rowOf r).n.toNat
def cl (rs : List Rg) : List Nat := rs.map cN
def prodN : List Nat → Nat
  | [] => 1
  | n :: l => n * prodN l
def domB (rs : List Rg) : Bool := decide (1 ≤ rs.length ∧ rs.length ≤ 3) && rs.all vB && decide (prodN (cl rs) ≤ 4096)
theorem domB_iff {rs : List Rg} : domB rs = true ↔ (1 ≤ rs.length ∧ rs.length ≤ 3) ∧ (∀ r ∈ rs, vB r = true) ∧ prodN (cl rs) ≤ 4096 := by
  unfold domB
  rw [Bool.and_eq_true, Bool.and_eq_true, decide_eq_true_iff, decide_eq_true_iff, List.all_eq_true]
  exact ⟨fun h => ⟨h.1.1, h.1.2, h.2⟩, fun h => ⟨⟨h.1, h.2.1⟩, h.2.2⟩⟩
theorem cN_int {r : Rg} (h : vB r = true) : ((cN r : Nat) : Int) = (rowOf r).n := by
  have := (rowOf_n_bd (vB_ok' h)).1
  unfold cN; omega
theorem cN_le {r : Rg} (h : vB r = true) : cN r ≤ 2000001 := by
  have := rowOf_n_bd (vB_ok' h)
  unfold cN; omega
theorem prodN_append (a b : List Nat) : prodN (a ++ b) = prodN a * prodN b := by
  induction a with
  | nil => simp [prodN]
  | cons x a ih => simp only [List.cons_append, prodN, ih, Nat.mul_assoc]
theorem prodN_zero {l : List Nat} : prodN l = 0 ↔ 0 ∈ l := by
  induction l with
  | nil => simp [prodN]
  | cons x l ih =>
    simp only [prodN, Nat.mul_eq_zero, ih, List.mem_cons]
    exact ⟨fun h => h.imp (fun h => h.symm) id, fun h => h.imp (fun h => h.symm) id⟩
theorem prodN_take {l : List Nat} (k : Nat) (h : k < l.length) : prodN (l.take (k + 1)) = prodN (l.take k) * l[k] := by
  rw [List.take_succ_eq_append_getElem h, prodN_append]
  simp [prodN]
theorem prodN_le {l : List Nat} (h : 0 ∉ l) (k : Nat) : 1 ≤ prodN (l.take k) ∧ prodN (l.take k) ≤ prodN l := by
  have h1 : prodN (l.take k) ≠ 0 := fun e => h (List.mem_of_mem_take (prodN_zero.1 e))
  have h2 : prodN (l.drop k) ≠ 0 := fun e => h (List.mem_of_mem_drop (prodN_zero.1 e))
  have e : prodN l = prodN (l.take k) * prodN (l.drop k) := by rw [← prodN_append, List.take_append_drop]
  refine ⟨by omega, ?_⟩
  rw [e]
  exact Nat.le_mul_of_pos_right _ (by omega)
theorem cl_take (rs : List Rg) (k : Nat) : (cl rs).take k = cl (rs.take k) := by simp [cl, List.map_take]
theorem cl_get {rs : List Rg} {k : Nat} (h : k < rs.length) : (cl rs)[k]'(by simpa [cl] using h) = cN rs[k] := by simp [cl]
/-! ### all indexes -/
def memN (r : Rg) : List Int := rowL (rowOf r) (cN r)
theorem memN_len (r : Rg) : (memN r).length = cN r := rowL_len _ _
def idxs : List Rg → List (List Int)
  | [] => [[]]
  | r :: rs => (memN r).flatMap fun x => (idxs rs).map (x :: ·)
theorem flat_len {α β : Type} {f : α → List β} {m : Nat} (hf : ∀ a, (f a).length = m) : ∀ l : List α, (l.flatMap f).length = l.length * m
  | [] => by simp
  | a :: l => by rw [List.flatMap_cons, List.length_append, hf, flat_len hf l, List.length_cons, Nat.add_mul]; omega
theorem flat_at {α β : Type} {f : α → List β} {m : Nat} (hf : ∀ a, (f a).length = m) : ∀ {l : List α} {k : Nat} (h : k < l.length) {j : Nat}, j < m → (l.flatMap f)[k * m + j]? = (f l[k])[j]?
  | a :: l, 0, h, j, hj => by
    rw [List.flatMap_cons, List.getElem?_append_left (by rw [hf]; omega)]; simp
  | a :: l, k + 1, h, j, hj => by
    rw [List.flatMap_cons, List.getElem?_append_right (by rw [hf, Nat.add_mul]; omega), hf, show (k + 1) * m + j - m = k * m + j by rw [Nat.add_mul]; omega]
    exact flat_at hf (by simpa using h) hj
theorem idxs_len : ∀ rs : List Rg, (idxs rs).length = prodN (cl rs)
  | [] => rfl
  | r :: rs => by
    show ((memN r).flatMap _).length = cN r * prodN (cl rs)
    rw [flat_len (m := prodN (cl rs)) (fun x => by rw [List.length_map, idxs_len rs]), memN_len]
def ithX : List Rg → Nat → List Int
  | [], _ => []
  | r :: rs, i => atOf (rowOf r) ((i / prodN (cl rs) : Nat) : Int) :: ithX rs (i % prodN (cl rs))
theorem ithX_len : ∀ (rs : List Rg) (i : Nat), (ithX rs i).length = rs.length
  | [], _ => rfl
  | r :: rs, i => by simp [ithX, ithX_len rs]
theorem idxs_get : ∀ (rs : List Rg) (i : Nat), i < prodN (cl rs) → (idxs rs)[i]? = some (ithX rs i)
  | [], i, h => by
    have : i = 0 := by simp [cl, prodN] at h; exact h
    subst this; rfl
  | r :: rs, i, h => by
    have h' : i < cN r * prodN (cl rs) := h
    have hP : 0 < prodN (cl rs) := by
      rcases Nat.eq_zero_or_pos (prodN (cl rs)) with e | e
      · rw [e] at h'; simp at h'
      · exact e
    have hk : i / prodN (cl rs) < (memN r).length := by rw [memN_len]; exact Nat.div_lt_of_lt_mul (by rw [Nat.mul_comm]; exact h')
    have hj := Nat.mod_lt i hP
    have hf := flat_at (f := fun x => (idxs rs).map (x :: ·)) (m := prodN (cl rs)) (fun x => by rw [List.length_map, idxs_len rs]) hk hj
    have ei : i / prodN (cl rs) * prodN (cl rs) + i % prodN (cl rs) = i := by rw [Nat.mul_comm]; exact Nat.div_add_mod i _
    rw [ei] at hf
    show ((memN r).flatMap fun x => (idxs rs).map (x :: ·))[i]? = _
    rw [hf, List.getElem?_map, idxs_get rs _ hj]
    simp only [Option.map_some, ithX, memN, rowL_get]
theorem idxs_eq (rs : List Rg) : idxs rs = (List.range (prodN (cl rs))).map (ithX rs) := by
  refine List.ext_getElem? fun i => ?_
  by_cases h : i < prodN (cl rs)
  · rw [idxs_get rs i h]; simp [h]
  · rw [List.getElem?_eq_none (by rw [idxs_len]; omega), List.getElem?_eq_none (by simp; omega)]
/-- one dimension more, from the last one on -/
theorem ithX_step {rs : List Rg} {k : Nat} (h : k < rs.length) (i : Nat) :
    ithX (rs.drop k) (i % prodN (cl (rs.drop k))) = atOf (rowOf rs[k]) ((i / prodN (cl (rs.drop (k + 1))) % cN rs[k] : Nat) : Int) :: ithX (rs.drop (k + 1)) (i % prodN (cl (rs.drop (k + 1)))) ∧
    i / prodN (cl (rs.drop (k + 1))) / cN rs[k] = i / prodN (cl (rs.drop k)) := by
  have e : rs.drop k = rs[k] :: rs.drop (k + 1) := List.drop_eq_getElem_cons h
  have e2 : prodN (cl (rs.drop k)) = cN rs[k] * prodN (cl (rs.drop (k + 1))) := by rw [e]; rfl
  rw [e2]
  refine ⟨?_, by rw [Nat.div_div_eq_div_mul, Nat.mul_comm]⟩
  rw [e]
  simp only [ithX]
  rw [Nat.mod_mul_left_div_self, Nat.mod_mul_left_mod]
/-! ### where an index stands -/
def placeV : List Rg → List Int → Nat → Nat
  | r :: rs, x :: xs, a => placeV rs xs (a * cN r + (placeI (rowOf r) x).toNat)
  | _, _, a => a
def inB : List Rg → List Int → Bool
  | r :: rs, x :: xs => placeB (rowOf r) x && inB rs xs
  | [], [] => true
  | _, _ => false
theorem place_lt {r : Rg} (hr : vB r = true) {x : Int} (h : placeB (rowOf r) x = true) : (placeI (rowOf r) x).toNat < cN r ∧ atOf (rowOf r) ((placeI (rowOf r) x).toNat : Int) = x := by
  obtain ⟨h1, h2, h3⟩ := at_place h
  refine ⟨by unfold cN; omega, ?_⟩
  rw [show (((placeI (rowOf r) x).toNat : Nat) : Int) = placeI (rowOf r) x by omega]
  exact h3
theorem placeV_ok : ∀ {rs : List Rg} {xs : List Int} (a : Nat), (∀ r ∈ rs, vB r = true) → inB rs xs = true → ∃ v, placeV rs xs a = a * prodN (cl rs) + v ∧ v < prodN (cl rs) ∧ ithX rs v = xs
  | [], [], a, _, _ => ⟨0, by simp [placeV, cl, prodN], by simp [cl, prodN], rfl⟩
  | [], _ :: _, a, _, h => by cases h
  | _ :: _, [], a, _, h => by cases h
  | r :: rs, x :: xs, a, hv, h => by
    simp only [inB, Bool.and_eq_true] at h
    have hr := hv r (by simp)
    obtain ⟨p1, p2⟩ := place_lt hr h.1
    obtain ⟨v, e1, e2, e3⟩ := placeV_ok (a * cN r + (placeI (rowOf r) x).toNat) (fun r hr => hv r (by simp [hr])) h.2
    have hP : 0 < prodN (cl rs) := by omega
    refine ⟨(placeI (rowOf r) x).toNat * prodN (cl rs) + v, ?_, ?_, ?_⟩
    · show placeV rs xs _ = a * (cN r * prodN (cl rs)) + _
      rw [e1, Nat.add_mul, Nat.mul_assoc, Nat.add_assoc]
    · show _ < cN r * prodN (cl rs)
      have := Nat.mul_le_mul_right (prodN (cl rs)) (show (placeI (rowOf r) x).toNat + 1 ≤ cN r by omega)
      rw [Nat.add_mul, Nat.one_mul] at this
      omega
    · have hdiv : ((placeI (rowOf r) x).toNat * prodN (cl rs) + v) / prodN (cl rs) = (placeI (rowOf r) x).toNat := by
        rw [Nat.mul_comm, Nat.mul_add_div hP, Nat.div_eq_of_lt e2, Nat.add_zero]
      have hmod : ((placeI (rowOf r) x).toNat * prodN (cl rs) + v) % prodN (cl rs) = v := by
        rw [Nat.mul_comm, Nat.mul_add_mod, Nat.mod_eq_of_lt e2]
      simp only [ithX, hdiv, hmod, p2, e3]
theorem ithX_in : ∀ {rs : List Rg} {i : Nat}, (∀ r ∈ rs, vB r = true) → i < prodN (cl rs) → inB rs (ithX rs i) = true ∧ ∀ a, placeV rs (ithX rs i) a = a * prodN (cl rs) + i
  | [], i, _, h => by
    have : i = 0 := by simp [cl, prodN] at h; exact h
    subst this; exact ⟨rfl, fun a => by simp [placeV, cl, prodN]⟩
  | r :: rs, i, hv, h => by
    have h' : i < cN r * prodN (cl rs) := h
    have hr := hv r (by simp)
    have hP : 0 < prodN (cl rs) := by
      rcases Nat.eq_zero_or_pos (prodN (cl rs)) with e | e
      · rw [e] at h'; simp at h'
      · exact e
    have hk : i / prodN (cl rs) < cN r := Nat.div_lt_of_lt_mul (by rw [Nat.mul_comm]; exact h')
    have hkn : ((i / prodN (cl rs) : Nat) : Int) < (rowOf r).n := by rw [← cN_int hr]; omega
    obtain ⟨q1, q2⟩ := place_at (vB_ok' hr) (i := ((i / prodN (cl rs) : Nat) : Int)) (Int.natCast_nonneg _) hkn
    obtain ⟨i1, i2⟩ := ithX_in (rs := rs) (i := i % prodN (cl rs)) (fun r hr => hv r (by simp [hr])) (Nat.mod_lt _ hP)
    refine ⟨by simp only [ithX, inB, q1, i1, Bool.and_self], fun a => ?_⟩
    show placeV rs _ (a * cN r + (placeI (rowOf r) _).toNat) = a * (cN r * prodN (cl rs)) + i
    rw [i2, q2, Int.toNat_natCast, Nat.add_mul, Nat.mul_assoc, Nat.add_assoc]
    have := Nat.div_add_mod i (prodN (cl rs))
    rw [Nat.mul_comm] at this
    omega
/-- the place of an index: the only one -/
theorem place_iff {rs : List Rg} {xs : List Int} (hv : ∀ r ∈ rs, vB r = true) : (inB rs xs = true → placeV rs xs 0 < prodN (cl rs) ∧ ithX rs (placeV rs xs 0) = xs) ∧ (∀ i, i < prodN (cl rs) → ithX rs i = xs → inB rs xs = true ∧ placeV rs xs 0 = i) := by
  refine ⟨fun h => ?_, fun i hi he => ?_⟩
  · obtain ⟨v, e1, e2, e3⟩ := placeV_ok 0 hv h
    rw [Nat.zero_mul, Nat.zero_add] at e1
    rw [e1]; exact ⟨e2, e3⟩
  · obtain ⟨h1, h2⟩ := ithX_in hv hi
    rw [he] at h1 h2
    exact ⟨h1, by rw [h2, Nat.zero_mul, Nat.zero_add]⟩
theorem inB_len : ∀ {rs : List Rg} {xs : List Int}, inB rs xs = true → xs.length = rs.length
  | [], [], _ => rfl
  | [], _ :: _, h => by cases h
  | _ :: _, [], h => by cases h
  | r :: rs, x :: xs, h => by
    simp only [inB, Bool.and_eq_true] at h
    simp [inB_len h.2]
end Go.Proofs.Ytpomhnmfkdgafaa
namespace Go.Proofs.Ytpomhnmfkdgafaa
set_option linter.unusedVariables false
theorem idxs_snoc : ∀ (a : List Rg) (r : Rg), idxs (a ++ [r]) = (idxs a).flatMap fun o => (memN r).map fun x => o ++ [x]
  | [], r => by
    show (memN r).flatMap (fun x => ([[]] : List (List Int)).map (x :: ·)) = _
    simp only [idxs, List.flatMap_cons, List.flatMap_nil, List.append_nil, List.map_cons, List.map_nil, List.nil_append]
    induction memN r with
    | nil => rfl
    | cons x l ih => rw [List.flatMap_cons, ih]; rfl
  | s :: a, r => by
    show (memN s).flatMap (fun x => (idxs (a ++ [r])).map (x :: ·)) = ((memN s).flatMap fun x => (idxs a).map (x :: ·)).flatMap _
    rw [idxs_snoc a r, List.flatMap_assoc]
    congr 1
    funext x
    rw [List.map_flatMap, List.flatMap_map]
    congr 1
    funext o
    rw [List.map_map]
    rfl
/-- after k lists whole, and j of the next one -/
def nx (A : List (List Int)) (L : List Int) (k j : Nat) : List (List Int) := ((A.take k).flatMap fun o => L.map fun x => o ++ [x]) ++ match A[k]? with
  | some o => (L.take j).map fun x => o ++ [x]
  | none => []
theorem nx_0 (A : List (List Int)) (L : List Int) : nx A L 0 0 = [] := by unfold nx; cases A <;> simp
theorem nx_step {A : List (List Int)} {L : List Int} {k j : Nat} (hk : k < A.length) (hj : j < L.length) : nx A L k (j + 1) = nx A L k j ++ [A[k] ++ [L[j]]] := by
  unfold nx
  rw [List.getElem?_eq_getElem hk]
  simp only
  rw [List.take_succ_eq_append_getElem hj, List.map_append, ← List.append_assoc]
  rfl
theorem nx_row {A : List (List Int)} {L : List Int} {k : Nat} (hk : k < A.length) : nx A L k L.length = nx A L (k + 1) 0 := by
  unfold nx
  rw [List.getElem?_eq_getElem hk, List.take_length, List.take_succ_eq_append_getElem hk, List.flatMap_append]
  simp only [List.flatMap_cons, List.flatMap_nil, List.append_nil, List.take_zero, List.map_nil]
  cases A[k + 1]? <;> simp
theorem nx_end (A : List (List Int)) (L : List Int) : nx A L A.length 0 = A.flatMap fun o => L.map fun x => o ++ [x] := by
  unfold nx
  rw [List.getElem?_eq_none (Nat.le_refl _), List.take_length, List.append_nil]
theorem nx_len {A : List (List Int)} {L : List Int} {k j : Nat} (hk : k ≤ A.length) (hj : j ≤ L.length) : (nx A L k j).length ≤ A.length * L.length := by
  unfold nx
  rw [List.length_append, flat_len (m := L.length) (fun o => by simp), List.length_take, Nat.min_eq_left hk]
  by_cases h : k < A.length
  · rw [List.getElem?_eq_getElem h]
    simp only [List.length_map, List.length_take, Nat.min_eq_left hj]
    have := Nat.mul_le_mul_right L.length (show k + 1 ≤ A.length by omega)
    rw [Nat.add_mul, Nat.one_mul] at this
    omega
  · rw [List.getElem?_eq_none (by omega)]
    have : k = A.length := by omega
    subst this
    simp
theorem idxs_each : ∀ {rs : List Rg} {o : List Int}, o ∈ idxs rs → o.length = rs.length
  | [], o, h => by simp [idxs] at h; subst h; rfl
  | r :: rs, o, h => by
    obtain ⟨x, _, h⟩ := List.mem_flatMap.1 h
    obtain ⟨o', h1, rfl⟩ := List.mem_map.1 h
    simp [idxs_each h1]
theorem memN_canon {r : Rg} (h : vB r = true) : memN (canonOf (rowOf r)) = memN r ∧ cN (canonOf (rowOf r)) = cN r := by
  have hr := vB_ok' h
  have hn := (rowOf_n_bd hr).1
  have e := row_norm (x := rowOf r) hn (rowOf_small hr).2
  have en : (normOf (rowOf r)).n = (rowOf r).n := by
    unfold normOf
    split
    · simp_all
    · split
      · simp_all
      · rfl
  have ec : cN (canonOf (rowOf r)) = cN r := by unfold cN; rw [e, en]
  refine ⟨?_, ec⟩
  unfold memN
  rw [ec, e]
  exact rowL_norm hn
theorem none_c : cN ⟨1, 0, 1⟩ = 0 := by decide
end Go.Proofs.Ytpomhnmfkdgafaa
namespace Go.Proofs.Ytpomhnmfkdgafaa
set_option linter.unusedVariables false
inductive Kd where
  | whole
  | block
  | cyclic
  | blocks
  deriving DecidableEq
/-- the owner of the i-th of R members -/
def own (k : Kd) (n o R i : Nat) : Nat := match k with
  | .whole => 0
  | .block => i * o / R
  | .cyclic => i % o
  | .blocks => i / n % o
structure OkDs (k : Kd) (n o : Nat) : Prop where
  o1 : 1 ≤ o
  o8 : o ≤ 8
  n1 : k = .blocks → 1 ≤ n
  n99 : n ≤ 99
  n0 : k ≠ .blocks → n = 0
theorem own_lt {k : Kd} {n o R i : Nat} (h : OkDs k n o) (hi : i < R) : own k n o R i < o := by
  have h1 := h.o1
  cases k with
  | whole => exact h1
  | block => exact Nat.div_lt_of_lt_mul (Nat.mul_lt_mul_of_pos_right hi h1)
  | cyclic => exact Nat.mod_lt _ h1
  | blocks => exact Nat.mod_lt _ h1
def ow (k : Kd) (n o R p : Nat) : List Nat := (List.range R).filter fun i => decide (own k n o R i = p)
theorem ow_mem {k : Kd} {n o R p i : Nat} : i ∈ ow k n o R p ↔ i < R ∧ own k n o R i = p := by simp [ow]
theorem ow_len (k : Kd) (n o R p : Nat) : (ow k n o R p).length ≤ R := by
  have := List.length_filter_le (fun i => decide (own k n o R i = p)) (List.range R)
  simpa [ow] using this
/-! ### runs -/
/-- gs: the list l, cut where tg is not met -/
inductive Runs {α : Type} (tg : List α → α → Bool) : List α → List (List α) → Prop
  | nil : Runs tg [] []
  | cons {g rest : List α} {gs : List (List α)} (h0 : g ≠ []) (h1 : ∀ j (h : j < g.length), 1 ≤ j → tg (g.take j) g[j] = true) (h2 : ∀ x, rest.head? = some x → tg g x = false) (k : Runs tg rest gs) : Runs tg (g ++ rest) (g :: gs)
theorem runs_ex {α : Type} (tg : List α → α → Bool) : ∀ (m : Nat) (l : List α), l.length ≤ m → ∃ gs, Runs tg l gs := by
  intro m
  induction m with
  | zero => intro l h; have : l = [] := List.eq_nil_of_length_eq_zero (by omega); subst this; exact ⟨[], .nil⟩
  | succ m ih =>
    intro l h
    cases l with
    | nil => exact ⟨[], .nil⟩
    | cons x r =>
      -- the longest run in front
      have key : ∀ (q : Nat) (g rest : List α), rest.length ≤ q → g ≠ [] → (∀ j (h : j < g.length), 1 ≤ j → tg (g.take j) g[j] = true) → (g ++ rest).length ≤ m + 1 → ∃ gs, Runs tg (g ++ rest) gs := by
        intro q
        induction q with
        | zero =>
          intro g rest hr h0 h1 _
          have : rest = [] := List.eq_nil_of_length_eq_zero (by omega)
          subst this
          exact ⟨_, .cons h0 h1 (fun x hx => by simp at hx) .nil⟩
        | succ q ihq =>
          intro g rest hr h0 h1 hm
          cases rest with
          | nil => exact ⟨_, .cons h0 h1 (fun x hx => by simp at hx) .nil⟩
          | cons y rest =>
            cases ht : tg g y with
            | true =>
              have e : g ++ y :: rest = (g ++ [y]) ++ rest := by simp
              rw [e]
              refine ihq (g ++ [y]) rest (by simp at hr; omega) (by simp) (fun j hj hj1 => ?_) (by rw [← e]; exact hm)
              by_cases hlt : j < g.length
              · rw [List.take_append_of_le_length (by omega), List.getElem_append_left hlt]; exact h1 j hlt hj1
              · have : j = g.length := by simp at hj; omega
                subst this
                rw [List.take_append_of_le_length (Nat.le_refl _), List.take_length]
                simpa using ht
            | false =>
              obtain ⟨gs, hgs⟩ := ih (y :: rest) (by
                have : 0 < g.length := List.length_pos_iff.2 h0
                rw [List.length_append] at hm; omega)
              exact ⟨_, .cons h0 h1 (fun x hx => by simp at hx; subst hx; exact ht) hgs⟩
      exact key r.length [x] r (Nat.le_refl _) (by simp) (fun j hj hj1 => by simp at hj; omega) h
theorem Runs.flat {α : Type} {tg : List α → α → Bool} {l : List α} {gs : List (List α)} (h : Runs tg l gs) : gs.flatten = l := by
  induction h with
  | nil => rfl
  | cons h0 h1 h2 k ih => rw [List.flatten_cons, ih]
def cutAt {α : Type} (gs : List (List α)) (k : Nat) : Nat := ((gs.take k).flatten).length
theorem cutAt_0 {α : Type} (gs : List (List α)) : cutAt gs 0 = 0 := by simp [cutAt]
theorem cutAt_succ {α : Type} {gs : List (List α)} {k : Nat} (h : k < gs.length) : cutAt gs (k + 1) = cutAt gs k + gs[k].length := by
  unfold cutAt
  rw [List.take_succ_eq_append_getElem h, List.flatten_append, List.length_append, List.flatten_cons, List.flatten_nil, List.append_nil]
theorem cutAt_all {α : Type} (gs : List (List α)) : cutAt gs gs.length = gs.flatten.length := by simp [cutAt]
theorem Runs.get {α : Type} {tg : List α → α → Bool} {l : List α} {gs : List (List α)} (h : Runs tg l gs) : ∀ k (hk : k < gs.length), 0 < gs[k].length ∧ (∀ j (h : j < gs[k].length), 1 ≤ j → tg (gs[k].take j) gs[k][j] = true) ∧ (∀ x, l[cutAt gs (k + 1)]? = some x → tg gs[k] x = false) := by
  induction h with
  | nil => intro k hk; simp at hk
  | cons h0 h1 h2 kk ih =>
    rename_i g rest gs
    intro k hk
    cases k with
    | zero =>
      refine ⟨List.length_pos_iff.2 h0, h1, fun x hx => h2 x ?_⟩
      have e : cutAt (g :: gs) 1 = g.length := by simp [cutAt]
      rw [e, List.getElem?_append_right (Nat.le_refl _), Nat.sub_self] at hx
      rw [List.head?_eq_getElem?]; exact hx
    | succ k =>
      obtain ⟨a, b, c⟩ := ih k (by simpa using hk)
      refine ⟨a, b, fun x hx => c x ?_⟩
      have e : cutAt (g :: gs) (k + 1 + 1) = g.length + cutAt gs (k + 1) := by simp [cutAt]
      rw [e, List.getElem?_append_right (by omega), Nat.add_sub_cancel_left] at hx
      exact hx
theorem cut_le {α : Type} {gs : List (List α)} {k : Nat} (hk : k < gs.length) : cutAt gs k + gs[k].length ≤ gs.flatten.length := by
  have h := cutAt_succ hk
  rw [← h, ← cutAt_all]
  unfold cutAt
  have : gs.take gs.length = gs.take (k + 1) ++ gs.drop (k + 1) := by rw [List.take_length, List.take_append_drop]
  rw [this, List.flatten_append, List.length_append]
  omega
theorem cut_get {α : Type} {gs : List (List α)} {k j : Nat} (hk : k < gs.length) (hj : j < gs[k].length) : gs.flatten[cutAt gs k + j]'(by have := cut_le hk; omega) = gs[k][j] := by
  have e : gs = gs.take k ++ gs[k] :: gs.drop (k + 1) := by rw [List.getElem_cons_drop, List.take_append_drop]
  have e2 : gs.flatten = (gs.take k).flatten ++ (gs[k] ++ (gs.drop (k + 1)).flatten) := by
    conv => lhs; rw [e]
    rw [List.flatten_append, List.flatten_cons]
  have h1 : gs.flatten[cutAt gs k + j]? = some gs[k][j] := by
    rw [e2, List.getElem?_append_right (by unfold cutAt; omega), List.getElem?_append_left (by unfold cutAt; omega)]
    rw [show cutAt gs k + j - (gs.take k).flatten.length = j by unfold cutAt; omega, List.getElem?_eq_getElem hj]
  exact (List.getElem?_eq_some_iff.1 h1).2
theorem cut_part {α : Type} {gs : List (List α)} {k j : Nat} (hk : k < gs.length) (hj : j ≤ gs[k].length) : (gs.flatten.drop (cutAt gs k)).take j = gs[k].take j := by
  have e : gs = gs.take k ++ gs[k] :: gs.drop (k + 1) := by rw [List.getElem_cons_drop, List.take_append_drop]
  have e2 : gs.flatten = (gs.take k).flatten ++ (gs[k] ++ (gs.drop (k + 1)).flatten) := by
    conv => lhs; rw [e]
    rw [List.flatten_append, List.flatten_cons]
  rw [e2, List.drop_append_of_le_length (by unfold cutAt; omega), List.drop_eq_nil_of_le (by unfold cutAt; omega), List.nil_append, List.take_append_of_le_length hj]
/-- two tests that agree on the runs -/
theorem Runs.other {α : Type} {tg th : List α → α → Bool} (Good : List α → Prop) (h1 : ∀ x, Good [x]) (hs : ∀ p x, Good p → tg p x = true → Good (p ++ [x])) {l : List α} {gs : List (List α)} (h : Runs tg l gs)
    (he : ∀ p x, p ≠ [] → Good p → (∃ a b, l = a ++ p ++ x :: b) → tg p x = th p x) : Runs th l gs ∧ ∀ g ∈ gs, Good g := by
  induction h with
  | nil => exact ⟨.nil, fun g hg => by simp at hg⟩
  | cons h0 h1' h2 kk ih =>
    rename_i g rest gs
    have hg : ∀ j, 1 ≤ j → j ≤ g.length → Good (g.take j) := by
      intro j
      induction j with
      | zero => intro h; omega
      | succ j ihj =>
        intro _ hj
        have hjl : j < g.length := by omega
        rw [List.take_succ_eq_append_getElem hjl]
        rcases Nat.eq_zero_or_pos j with e | e
        · subst e; rw [List.take_zero, List.nil_append]; exact h1 _
        · exact hs _ _ (ihj e (by omega)) (h1' j hjl e)
    have hlen : 0 < g.length := List.length_pos_iff.2 h0
    have hgg : Good g := by have := hg g.length hlen (Nat.le_refl _); rwa [List.take_length] at this
    obtain ⟨i1, i2⟩ := ih fun p x hp hG hl => he p x hp hG (by
      obtain ⟨a, b, rfl⟩ := hl
      exact ⟨g ++ a, b, by simp⟩)
    refine ⟨.cons h0 (fun j hj hj1 => ?_) (fun x hx => ?_) i1, fun q hq => ?_⟩
    · rw [← he (g.take j) g[j] (by intro e; rw [List.take_eq_nil_iff] at e; rcases e with e | e; · omega
                                   · exact h0 e) (hg j hj1 (by omega)) ⟨[], g.drop (j + 1) ++ rest, by
        rw [List.nil_append, ← List.cons_append, List.getElem_cons_drop, ← List.append_assoc, List.take_append_drop]⟩]
      exact h1' j hj hj1
    · obtain ⟨r, rfl⟩ : ∃ r, rest = x :: r := by cases rest with | nil => simp at hx | cons y r => simp at hx; subst hx; exact ⟨r, rfl⟩
      rw [← he g x h0 hgg ⟨[], r, by simp⟩]
      exact h2 x hx
    · rcases List.mem_cons.1 hq with rfl | hq
      · exact hgg
      · exact i2 q hq
end Go.Proofs.Ytpomhnmfkdgafaa
