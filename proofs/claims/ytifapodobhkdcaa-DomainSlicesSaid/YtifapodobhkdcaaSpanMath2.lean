/- Plain laws of ranges: the canonical range is valid; the program's rows and the reference's agree. -/
import Derived.Test.YtifapodobhkdcaaSpanMath
namespace Go.Proofs.Ytifapodobhkdcaa
set_option linter.unusedVariables false
theorem row_in {r : Rg} (h : r.ok) (h1 : r.lo ≤ r.hi) : r.lo ≤ (rowOf r).f ∧ (rowOf r).f ≤ r.hi ∧ r.lo ≤ lastOf (rowOf r) ∧ lastOf (rowOf r) ≤ r.hi := by
  have hq := quo_bd h h1
  have hn : (rowOf r).n - 1 = (r.hi - r.lo) / absI r.st := by rw [rowOf_n1 h1]; omega
  have hs : (rowOf r).s = r.st := rfl
  have h9 := h.2.2.2.2.2.2
  by_cases hp : 0 < r.st
  · have ha := absI_pos (n := r.st) (by omega)
    rw [lastOf, hn, hs, rowOf_f0 hp, ha]
    rw [ha] at hq
    have e := Int.ediv_mul_le (r.hi - r.lo) (b := r.st) (by omega)
    have e0 : 0 ≤ (r.hi - r.lo) / r.st * r.st := Int.mul_nonneg hq.1 (by omega)
    omega
  · have ha := absI_neg (n := r.st) (by omega)
    rw [lastOf, hn, hs, rowOf_f1 (by omega), ha]
    rw [ha] at hq
    have e := Int.ediv_mul_le (r.hi - r.lo) (b := -r.st) (by omega)
    have e0 : 0 ≤ (r.hi - r.lo) / (-r.st) * (-r.st) := Int.mul_nonneg hq.1 (by omega)
    rw [Int.mul_neg] at e e0
    omega
theorem row_n {r : Rg} (h : r.ok) : ((rowOf r).n = 0 ∧ r.hi < r.lo) ∨ (1 ≤ (rowOf r).n ∧ r.lo ≤ r.hi) := by
  by_cases h1 : r.lo ≤ r.hi
  · have := quo_bd h h1
    rw [rowOf_n1 h1]; omega
  · exact .inl ⟨rowOf_n0 (by omega), by omega⟩
theorem canon_ok {r : Rg} (h : r.ok) : (canonOf (rowOf r)).ok := by
  rcases row_n h with ⟨hn, _⟩ | ⟨hn, hle⟩
  · rw [canonOf_0 hn]; decide
  · obtain ⟨a, b, c, d⟩ := row_in h hle
    obtain ⟨h1, h2, h3, h4, h5, h6, h7⟩ := h
    by_cases h1' : (rowOf r).n = 1
    · rw [canonOf_1 h1']
      refine ⟨?_, ?_, ?_, ?_, ?_, ?_, ?_⟩ <;> simp only <;> omega
    · have hs : (rowOf r).s = r.st := rfl
      by_cases hl : (rowOf r).f ≤ lastOf (rowOf r)
      · rw [canonOf_up (by omega) hl]
        refine ⟨?_, ?_, ?_, ?_, ?_, ?_, ?_⟩ <;> simp only <;> omega
      · rw [canonOf_down (by omega) hl]
        refine ⟨?_, ?_, ?_, ?_, ?_, ?_, ?_⟩ <;> simp only <;> omega
theorem ref_s {r : Rg} (h : 2 ≤ (rowOf r).n) : refOf r = rowOf r := by
  have e : (refOf r).s = (rowOf r).s := if_neg (by omega)
  exact Rw.ext' rfl e rfl
theorem canon_ref {r : Rg} (h : r.ok) : canonOf (refOf r) = canonOf (rowOf r) := by
  have hn : (refOf r).n = (rowOf r).n := rfl
  have hf : (refOf r).f = (rowOf r).f := rfl
  by_cases h0 : (rowOf r).n = 0
  · rw [canonOf_0 h0, canonOf_0 (hn.trans h0)]
  by_cases h1 : (rowOf r).n = 1
  · rw [canonOf_1 h1, canonOf_1 (hn.trans h1), hf]
  · rw [ref_s (by rcases row_n h with h | h <;> omega)]
theorem done_ref {r : Rg} (h : r.ok) : doneV (refOf r) = canonOf (rowOf r) ∧ doneE (refOf r) = 0 := by
  have hc := canon_ref h
  have hv : vB (canonOf (refOf r)) = true := by rw [hc]; exact vB_true (canon_ok h)
  rw [← hc]; exact done_yes hv
theorem at_ref {r : Rg} (h : r.ok) {i : Int} (h0 : 0 ≤ i) (hi : i ≤ (rowOf r).n - 1) : atOf (refOf r) i = atOf (rowOf r) i := by
  by_cases h2 : 2 ≤ (rowOf r).n
  · rw [ref_s h2]
  · have : i = 0 := by omega
    subst this
    simp [atOf, refOf]
/-- the reference's test of a place -/
theorem place_ref {r : Rg} (h : r.ok) (m : Int) : ((m - (refOf r).f).tmod (refOf r).s = 0 ∧ 0 ≤ (m - (refOf r).f).tdiv (refOf r).s ∧ (m - (refOf r).f).tdiv (refOf r).s < (refOf r).n ↔ placeB (rowOf r) m = true) ∧
    (placeB (rowOf r) m = true → (m - (refOf r).f).tdiv (refOf r).s = placeI (rowOf r) m) := by
  have hn : (refOf r).n = (rowOf r).n := rfl
  have hf : (refOf r).f = (rowOf r).f := rfl
  have hB : placeB (rowOf r) m = true ↔ (isAt (rowOf r) m ∧ 0 ≤ (m - (rowOf r).f).tdiv (rowOf r).s ∧ (m - (rowOf r).f).tdiv (rowOf r).s ≤ (rowOf r).n - 1) := by simp [placeB]
  by_cases h2 : 2 ≤ (rowOf r).n
  · rw [ref_s h2, hB]
    refine ⟨⟨fun ⟨a, b, c⟩ => ⟨⟨by omega, a⟩, b, by omega⟩, fun ⟨⟨a, b⟩, c, d⟩ => ⟨b, c, by omega⟩⟩, fun ⟨a, _⟩ => ?_⟩
    rw [placeI, if_pos a]
  · have hs : (refOf r).s = 1 := if_pos (by omega)
    rw [hs, hn, hf, Int.tmod_one, Int.tdiv_one]
    have h9 := h.2.2.2.2.2.2
    have hst : (rowOf r).s = r.st := rfl
    rcases row_n h with ⟨h0, _⟩ | ⟨h1, _⟩
    · rw [h0]
      have hno : ¬ placeB (rowOf r) m = true := by rw [hB]; exact fun h => h.1.1 h0
      exact ⟨⟨fun ⟨_, a, b⟩ => by omega, fun h => absurd h hno⟩, fun h => absurd h hno⟩
    · have h1' : (rowOf r).n = 1 := by omega
      rw [h1']
      have key : placeB (rowOf r) m = true ↔ m - (rowOf r).f = 0 := by
        rw [hB, h1', hst]
        constructor
        · rintro ⟨⟨_, a⟩, b, c⟩
          rw [hst] at a
          have hz : (m - (rowOf r).f).tdiv r.st = 0 := by omega
          have := Int.mul_tdiv_add_tmod (m - (rowOf r).f) r.st
          rw [hz, a] at this; omega
        · intro e
          refine ⟨⟨by omega, ?_⟩, ?_, ?_⟩
          · rw [e, Int.zero_tmod]
          · rw [e, Int.zero_tdiv]; omega
          · rw [e, Int.zero_tdiv]; omega
      rw [key]
      refine ⟨⟨fun ⟨_, a, b⟩ => by omega, fun e => ⟨rfl, by omega, by omega⟩⟩, fun e => ?_⟩
      have ha : isAt (rowOf r) m := by
        refine ⟨by omega, ?_⟩
        rw [e, Int.zero_tmod]
      rw [placeI, if_pos ha, e, Int.zero_tdiv]
theorem prod_bd' {a b : Int} (h1 : -4096 ≤ a) (h2 : a ≤ 4096) (h3 : -1000 ≤ b) (h4 : b ≤ 1000) : -4096000 ≤ a * b ∧ a * b ≤ 4096000 := by
  have k1 : 0 ≤ (a + 4096) * (b + 1000) := Int.mul_nonneg (by omega) (by omega)
  have k2 : 0 ≤ (4096 - a) * (1000 - b) := Int.mul_nonneg (by omega) (by omega)
  have k3 : 0 ≤ (a + 4096) * (1000 - b) := Int.mul_nonneg (by omega) (by omega)
  have k4 : 0 ≤ (4096 - a) * (b + 1000) := Int.mul_nonneg (by omega) (by omega)
  rw [Int.sub_mul, Int.mul_sub, Int.mul_sub] at k2
  rw [Int.add_mul, Int.mul_sub, Int.mul_sub] at k3
  rw [Int.sub_mul, Int.mul_add, Int.mul_add] at k4
  rw [Int.add_mul, Int.mul_add, Int.mul_add] at k1
  constructor <;> omega
theorem rowOf_f_bd {r : Rg} (h : r.ok) : -1000000 ≤ (rowOf r).f ∧ (rowOf r).f ≤ 1000000 := by
  obtain ⟨h1, h2, h3, h4, h5, h6, h7⟩ := h
  unfold rowOf; simp only; split <;> omega
theorem rowOf_n_bd {r : Rg} (h : r.ok) : 0 ≤ (rowOf r).n ∧ (rowOf r).n ≤ 2000001 := by
  by_cases h1 : r.lo ≤ r.hi
  · have := quo_bd h h1; rw [rowOf_n1 h1]; omega
  · rw [rowOf_n0 (by omega)]; omega
theorem refOf_s_bd {r : Rg} (h : r.ok) : -1000 ≤ (refOf r).s ∧ (refOf r).s ≤ 1000 ∧ (refOf r).s ≠ 0 := by
  obtain ⟨h1, h2, h3, h4, h5, h6, h7⟩ := h
  unfold refOf; simp only; split <;> omega
/-- the distance of less than two members does not matter -/
theorem canonOf_few {f s s' n : Int} (h : n = 0 ∨ n = 1) : canonOf ⟨f, s, n⟩ = canonOf ⟨f, s', n⟩ := by
  rcases h with h | h
  · rw [canonOf_0 h, canonOf_0 h]
  · rw [canonOf_1 h, canonOf_1 h]
theorem done_few {f s s' n : Int} (h : n = 0 ∨ n = 1) : doneV ⟨f, s, n⟩ = doneV ⟨f, s', n⟩ ∧ doneE ⟨f, s, n⟩ = doneE ⟨f, s', n⟩ := by
  unfold doneV doneE; rw [canonOf_few h]; exact ⟨rfl, rfl⟩
theorem row_few {r : Rg} (h : r.ok) : refOf r = rowOf r ∨ ((rowOf r).n = 0 ∨ (rowOf r).n = 1) := by
  by_cases h2 : 2 ≤ (rowOf r).n
  · exact .inl (ref_s h2)
  · right; have := rowOf_n_bd h; omega
/-! ### Shift and Expand -/
def shiftRes (r : Rg) (k : Int) : Rg × Int := if vB r = true then (if -1000000 ≤ k ∧ k ≤ 1000000 then (doneV ⟨(rowOf r).f + k, (rowOf r).s, (rowOf r).n⟩, doneE ⟨(rowOf r).f + k, (rowOf r).s, (rowOf r).n⟩) else (⟨0, 0, 0⟩, 2)) else (⟨0, 0, 0⟩, 30)
theorem shift_ref {r : Rg} (h : r.ok) (k : Int) : doneV ⟨(refOf r).f + k, (refOf r).s, (refOf r).n⟩ = doneV ⟨(rowOf r).f + k, (rowOf r).s, (rowOf r).n⟩ ∧ doneE ⟨(refOf r).f + k, (refOf r).s, (refOf r).n⟩ = doneE ⟨(rowOf r).f + k, (rowOf r).s, (rowOf r).n⟩ := by
  rcases row_few h with e | e
  · rw [e]; exact ⟨rfl, rfl⟩
  · exact done_few e
theorem lastOf_abs {x : Rw} (h : 2 ≤ x.n) (hs : x.s ≠ 0) : (if x.f ≤ lastOf x then lastOf x - x.f else x.f - lastOf x) = (x.n - 1) * absI x.s ∧ (0 < x.s → x.f ≤ lastOf x) ∧ (x.s < 0 → ¬ x.f ≤ lastOf x) := by
  have e : lastOf x = x.f + (x.n - 1) * x.s := rfl
  by_cases hp : 0 < x.s
  · have h1 : 0 < (x.n - 1) * x.s := Int.mul_pos (by omega) hp
    rw [absI_pos (by omega)]
    refine ⟨?_, fun _ => by omega, fun h => by omega⟩
    rw [if_pos (by omega)]; omega
  · have h1 : 0 < (x.n - 1) * (-x.s) := Int.mul_pos (by omega) (by omega)
    rw [absI_neg (by omega)]
    rw [Int.mul_neg] at h1 ⊢
    refine ⟨?_, fun h => by omega, fun _ => by omega⟩
    rw [if_neg (by omega)]; omega
/-- the row of the canonical range is the reference's row -/
theorem row_canon {r : Rg} (h : r.ok) (hn : 1 ≤ (rowOf r).n) : rowOf (canonOf (rowOf r)) = refOf r := by
  by_cases h1 : (rowOf r).n = 1
  · rw [canonOf_1 h1]
    refine Rw.ext' ?_ ?_ ?_
    · exact rowOf_f0 (by show (0 : Int) < 1; decide)
    · show (1 : Int) = if (rowOf r).n < 2 then 1 else r.st; rw [if_pos (by omega)]
    · rw [rowOf_n1 (by exact Int.le_refl _)]
      show ((rowOf r).f - (rowOf r).f) / absI 1 + 1 = (rowOf r).n
      rw [Int.sub_self, Int.zero_ediv, h1]; rfl
  · have h2 : 2 ≤ (rowOf r).n := by omega
    have hs : (rowOf r).s = r.st := rfl
    have h9 := h.2.2.2.2.2.2
    obtain ⟨e1, e2, e3⟩ := lastOf_abs h2 (by rw [hs]; exact h9)
    rw [ref_s h2]
    have ha := absI_bd h.2.2.2.2.1 h.2.2.2.2.2.1 h9
    by_cases hp : 0 < r.st
    · have hle := e2 (by rw [hs]; exact hp)
      rw [if_pos hle, hs] at e1
      rw [canonOf_up h2 hle]
      refine Rw.ext' ?_ rfl ?_
      · exact rowOf_f0 (by show 0 < (rowOf r).s; rw [hs]; exact hp)
      · rw [rowOf_n1 (by exact hle)]
        show (lastOf (rowOf r) - (rowOf r).f) / absI r.st + 1 = _
        rw [e1, Int.mul_ediv_cancel _ (by omega)]; omega
    · have hle := e3 (by rw [hs]; omega)
      rw [if_neg hle, hs] at e1
      rw [canonOf_down h2 hle]
      refine Rw.ext' ?_ rfl ?_
      · exact rowOf_f1 (by show (rowOf r).s < 0; rw [hs]; omega)
      · rw [rowOf_n1 (by show lastOf (rowOf r) ≤ (rowOf r).f; omega)]
        show ((rowOf r).f - lastOf (rowOf r)) / absI r.st + 1 = _
        rw [e1, Int.mul_ediv_cancel _ (by omega)]; omega
def expandRow (r : Rg) (k : Int) : Rw := ⟨(refOf r).f - k * (refOf r).s, (refOf r).s, (refOf r).n + 2 * k⟩
def expandRes (r : Rg) (k : Int) : Rg × Int := if vB r = true then (if -4096 ≤ k ∧ k ≤ 4096 then (if (rowOf r).n = 0 ∨ (rowOf r).n + 2 * k ≤ 0 then (⟨1, 0, 1⟩, 0) else (doneV (expandRow r k), doneE (expandRow r k))) else (⟨0, 0, 0⟩, 2)) else (⟨0, 0, 0⟩, 30)
theorem done_none (f s : Int) : doneV ⟨f, s, 0⟩ = ⟨1, 0, 1⟩ ∧ doneE ⟨f, s, 0⟩ = 0 := by
  have hc : canonOf ⟨f, s, 0⟩ = ⟨1, 0, 1⟩ := canonOf_0 rfl
  have hv : vB (canonOf ⟨f, s, 0⟩) = true := by rw [hc]; decide
  rw [← hc]; exact done_yes hv
theorem expand_small {r : Rg} (h : r.ok) {k : Int} (k1 : -4096 ≤ k) (k2 : k ≤ 4096) (hn : 0 < (rowOf r).n + 2 * k) : (expandRow r k).small ∧ (expandRow r k).s ≠ 0 := by
  have hf := rowOf_f_bd h
  have hn' := rowOf_n_bd h
  obtain ⟨s1, s2, s3⟩ := refOf_s_bd h
  obtain ⟨p1, p2⟩ := prod_small (a := k) (b := (refOf r).s) (by omega) (by omega) (by omega) (by omega)
  have ef : (expandRow r k).f = (rowOf r).f - k * (refOf r).s := rfl
  have es : (expandRow r k).s = (refOf r).s := rfl
  have en : (expandRow r k).n = (rowOf r).n + 2 * k := rfl
  have p3 : -4100000 ≤ k * (refOf r).s ∧ k * (refOf r).s ≤ 4100000 := by
    have q := prod_bd' (a := k) (b := (refOf r).s) k1 k2 s1 s2; omega
  refine ⟨⟨?_, ?_, ?_, ?_, ?_, ?_⟩, by rw [es]; exact s3⟩ <;> omega
end Go.Proofs.Ytifapodobhkdcaa
