/- Plain laws of ranges: the canonical range is valid; the program's rows and the reference's agree. -/
import Derived.Test.YtoeabdanldiccaaSpanMath
namespace Go.Proofs.Ytoeabdanldiccaa
set_option linter.unusedVariables false
theorem row_in {r : Rg} (h : r.ok) (h1 : r.lo ≤ r.hi) : r.lo ≤ (rowOf r).f ∧ (rowOf r).f ≤ r.hi ∧ r.lo ≤ lastOf (rowOf r) ∧ lastOf (rowOf r) ≤ r.hi := by
  have hq := quo_bd h h1
  have hn : (rowOf r).n - 1 = (r.hi - r.lo) / absI r.st := by rw [rowOf_n1 h1]; omega
  have hs : (rowOf r).s = r.st := rfl
  have h9 := h.2.2.2.2.2.2
  by_cases hp : 0 < r.st
  · have ha := absI_pos (n := r.st) (by omega)
    rw [lastOf, hn, hs, rowOf_f0 hp, ha]
    rw [ha] at hq
    have e := Int.ediv_mul_le (r.hi - r.lo) (b := r.st) (by omega)
    have e0 : 0 ≤ (r.hi - r.lo) / r.st * r.st := Int.mul_nonneg hq.1 (by omega)
    omega
  · have ha := absI_neg (n := r.st) (by omega)
    rw [lastOf, hn, hs, rowOf_f1 (by omega), ha]
    rw [ha] at hq
    have e := Int.ediv_mul_le (r.hi - r.lo) (b := -r.st) (by omega)
    have e0 : 0 ≤ (r.hi - r.lo) / (-r.st) * (-r.st) := Int.mul_nonneg hq.1 (by omega)
    rw [Int.mul_neg] at e e0
    omega
theorem row_n {r : Rg} (h : r.ok) : ((rowOf r).n = 0 ∧ r.hi < r.lo) ∨ (1 ≤ (rowOf r).n ∧ r.lo ≤ r.hi) := by
  by_cases h1 : r.lo ≤ r.hi
  · have := quo_bd h h1
    rw [rowOf_n1 h1]; omega
  · exact .inl ⟨rowOf_n0 (by omega), by omega⟩
theorem canon_ok {r : Rg} (h : r.ok) : (canonOf (rowOf r)).ok := by
  rcases row_n h with ⟨hn, _⟩ | ⟨hn, hle⟩
  · rw [canonOf_0 hn]; decide
  · obtain ⟨a, b, c, d⟩ := row_in h hle
    obtain ⟨h1, h2, h3, h4, h5, h6, h7⟩ := h
    by_cases h1' : (rowOf r).n = 1
    · rw [canonOf_1 h1']
      refine ⟨?_, ?_, ?_, ?_, ?_, ?_, ?_⟩ <;> simp only <;> omega
    · have hs : (rowOf r).s = r.st := rfl
      by_cases hl : (rowOf r).f ≤ lastOf (rowOf r)
      · rw [canonOf_up (by omega) hl]
        refine ⟨?_, ?_, ?_, ?_, ?_, ?_, ?_⟩ <;> simp only <;> omega
      · rw [canonOf_down (by omega) hl]
        refine ⟨?_, ?_, ?_, ?_, ?_, ?_, ?_⟩ <;> simp only <;> omega
theorem ref_s {r : Rg} (h : 2 ≤ (rowOf r).n) : refOf r = rowOf r := by
  have e : (refOf r).s = (rowOf r).s := if_neg (by omega)
  exact Rw.ext' rfl e rfl
theorem canon_ref {r : Rg} (h : r.ok) : canonOf (refOf r) = canonOf (rowOf r) := by
  have hn : (refOf r).n = (rowOf r).n := rfl
  have hf : (refOf r).f = (rowOf r).f := rfl
  by_cases h0 : (rowOf r).n = 0
  · rw [canonOf_0 h0, canonOf_0 (hn.trans h0)]
  by_cases h1 : (rowOf r).n = 1
  · rw [canonOf_1 h1, canonOf_1 (hn.trans h1), hf]
  · rw [ref_s (by rcases row_n h with h | h <;> omega)]
theorem done_ref {r : Rg} (h : r.ok) : doneV (refOf r) = canonOf (rowOf r) ∧ doneE (refOf r) = 0 := by
  have hc := canon_ref h
  have hv : vB (canonOf (refOf r)) = true := by rw [hc]; exact vB_true (canon_ok h)
  rw [← hc]; exact done_yes hv
theorem at_ref {r : Rg} (h : r.ok) {i : Int} (h0 : 0 ≤ i) (hi : i ≤ (rowOf r).n - 1) : atOf (refOf r) i = atOf (rowOf r) i := by
  by_cases h2 : 2 ≤ (rowOf r).n
  · rw [ref_s h2]
  · have : i = 0 := by omega
    subst this
    simp [atOf, refOf]
/-- the reference's test of a place -/
theorem place_ref {r : Rg} (h : r.ok) (m : Int) : ((m - (refOf r).f).tmod (refOf r).s = 0 ∧ 0 ≤ (m - (refOf r).f).tdiv (refOf r).s ∧ (m - (refOf r).f).tdiv (refOf r).s < (refOf r).n ↔ placeB (rowOf r) m = true) ∧
    (placeB (rowOf r) m = true → (m - (refOf r).f).tdiv (refOf r).s = placeI (rowOf r) m) := by
  have hn : (refOf r).n = (rowOf r).n := rfl
  have hf : (refOf r).f = (rowOf r).f := rfl
  have hB : placeB (rowOf r) m = true ↔ (isAt (rowOf r) m ∧ 0 ≤ (m - (rowOf r).f).tdiv (rowOf r).s ∧ (m - (rowOf r).f).tdiv (rowOf r).s ≤ (rowOf r).n - 1) := by simp [placeB]
  by_cases h2 : 2 ≤ (rowOf r).n
  · rw [ref_s h2, hB]
    refine ⟨⟨fun ⟨a, b, c⟩ => ⟨⟨by omega, a⟩, b, by omega⟩, fun ⟨⟨a, b⟩, c, d⟩ => ⟨b, c, by omega⟩⟩, fun ⟨a, _⟩ => ?_⟩
    rw [placeI, if_pos a]
  · have hs : (refOf r).s = 1 := if_pos (by omega)
    rw [hs, hn, hf, Int.tmod_one, Int.tdiv_one]
    have h9 := h.2.2.2.2.2.2
    have hst : (rowOf r).s = r.st := rfl
    rcases row_n h with ⟨h0, _⟩ | ⟨h1, _⟩
    · rw [h0]
      have hno : ¬ placeB (rowOf r) m = true := by rw [hB]; exact fun h => h.1.1 h0
      exact ⟨⟨fun ⟨_, a, b⟩ => by omega, fun h => absurd h hno⟩, fun h => absurd h hno⟩
    · have h1' : (rowOf r).n = 1 := by omega
      rw [h1']
      have key : placeB (rowOf r) m = true ↔ m - (rowOf r).f = 0 := by
        rw [hB, h1', hst]
        constructor
        · rintro ⟨⟨_, a⟩, b, c⟩
          rw [hst] at a
          have hz : (m - (rowOf r).f).tdiv r.st = 0 := by omega
          have := Int.mul_tdiv_add_tmod (m - (rowOf r).f) r.st
          rw [hz, a] at this; omega
        · intro e
          refine ⟨⟨by omega, ?_⟩, ?_, ?_⟩
          · rw [e, Int.zero_tmod]
          · rw [e, Int.zero_tdiv]; omega
          · rw [e, Int.zero_tdiv]; omega
      rw [key]
      refine ⟨⟨fun ⟨_, a, b⟩ => by omega, fun e => ⟨rfl, by omega, by omega⟩⟩, fun e => ?_⟩
      have ha : isAt (rowOf r) m := by
        refine ⟨by omega, ?_⟩
        rw [e, Int.zero_tmod]
      rw [placeI, if_pos ha, e, Int.zero_tdiv]
end Go.Proofs.Ytoeabdanldiccaa
