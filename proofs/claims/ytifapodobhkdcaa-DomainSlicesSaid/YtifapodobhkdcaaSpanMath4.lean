/- Plain laws of ranges: the row of a canonical range; Shift and Expand undo themselves. -/
import Derived.Test.YtifapodobhkdcaaSpanMath3
namespace Go.Proofs.Ytifapodobhkdcaa
set_option linter.unusedVariables false
def normOf (x : Rw) : Rw := if x.n = 0 then ⟨1, 1, 0⟩ else if x.n = 1 then ⟨x.f, 1, 1⟩ else x
theorem absI_pos' {n : Int} (h : n ≠ 0) : 1 ≤ absI n := by unfold absI; split <;> omega
/-- the row of the canonical range of a row -/
theorem row_norm {x : Rw} (hn : 0 ≤ x.n) (hs : x.s ≠ 0) : rowOf (canonOf x) = normOf x := by
  by_cases h0 : x.n = 0
  · rw [canonOf_0 h0, normOf, if_pos h0]; simp [rowOf]
  by_cases h1 : x.n = 1
  · rw [canonOf_1 h1, normOf, if_neg h0, if_pos h1]
    refine Rw.ext' (rowOf_f0 (by show (0 : Int) < 1; decide)) rfl ?_
    rw [rowOf_n1 (by exact Int.le_refl _)]
    show (x.f - x.f) / absI 1 + 1 = 1
    rw [Int.sub_self, Int.zero_ediv]; rfl
  · have h2 : 2 ≤ x.n := by omega
    obtain ⟨e1, e2, e3⟩ := lastOf_abs h2 hs
    have ha := absI_pos' hs
    rw [normOf, if_neg h0, if_neg h1]
    by_cases hp : 0 < x.s
    · have hle := e2 hp
      rw [if_pos hle] at e1
      rw [canonOf_up h2 hle]
      refine Rw.ext' (rowOf_f0 (by exact hp)) rfl ?_
      rw [rowOf_n1 (by exact hle)]
      show (lastOf x - x.f) / absI x.s + 1 = _
      rw [e1, Int.mul_ediv_cancel _ (by omega)]; omega
    · have hle := e3 (by omega)
      rw [if_neg hle] at e1
      rw [canonOf_down h2 hle]
      refine Rw.ext' (rowOf_f1 (by show x.s < 0; omega)) rfl ?_
      rw [rowOf_n1 (by show lastOf x ≤ x.f; omega)]
      show (x.f - lastOf x) / absI x.s + 1 = _
      rw [e1, Int.mul_ediv_cancel _ (by omega)]; omega
theorem vB_ok' {r : Rg} (h : vB r = true) : r.ok := by simpa [vB] using h
theorem done_ok {x : Rw} (h : doneE x = 0) : vB (canonOf x) = true ∧ doneV x = canonOf x := by
  cases hv : vB (canonOf x) with
  | true => exact ⟨rfl, (done_yes hv).1⟩
  | false => have := (done_no hv).2; rw [h] at this; cases this
theorem done_row {r : Rg} (h : r.ok) : doneV (rowOf r) = canonOf (rowOf r) ∧ doneE (rowOf r) = 0 := done_yes (vB_true (canon_ok h))
theorem shift_back {r : Rg} (h : vB r = true) {k : Int} (he : (shiftRes r k).2 = 0) : shiftRes (shiftRes r k).1 (-k) = (canonOf (rowOf r), 0) := by
  have hr := vB_ok' h
  by_cases hk : -1000000 ≤ k ∧ k ≤ 1000000
  case neg => rw [shiftRes, if_pos h, if_neg hk] at he; cases he
  have e1 : shiftRes r k = (doneV ⟨(rowOf r).f + k, (rowOf r).s, (rowOf r).n⟩, doneE ⟨(rowOf r).f + k, (rowOf r).s, (rowOf r).n⟩) := by rw [shiftRes, if_pos h, if_pos hk]
  rw [e1] at he ⊢
  obtain ⟨d1, d2⟩ := done_ok he
  simp only [d2]
  have hn := (rowOf_n_bd hr).1
  have hs := (rowOf_small hr).2
  obtain ⟨c1, c2⟩ := done_row hr
  have hrow := row_norm (x := ⟨(rowOf r).f + k, (rowOf r).s, (rowOf r).n⟩) hn hs
  rw [shiftRes, if_pos d1, if_pos (by omega), hrow]
  by_cases h0 : (rowOf r).n = 0
  · have en : normOf ⟨(rowOf r).f + k, (rowOf r).s, (rowOf r).n⟩ = ⟨1, 1, 0⟩ := if_pos h0
    rw [en]
    obtain ⟨a, b⟩ := done_none (1 + -k) 1
    show (doneV ⟨1 + -k, 1, 0⟩, doneE ⟨1 + -k, 1, 0⟩) = _
    rw [a, b, canonOf_0 h0]
  by_cases h1 : (rowOf r).n = 1
  · have en : normOf ⟨(rowOf r).f + k, (rowOf r).s, (rowOf r).n⟩ = ⟨(rowOf r).f + k, 1, 1⟩ := by rw [normOf]; simp only; rw [if_neg h0, if_pos h1]
    rw [en]
    show (doneV ⟨(rowOf r).f + k + -k, 1, 1⟩, doneE ⟨(rowOf r).f + k + -k, 1, 1⟩) = _
    rw [show (rowOf r).f + k + -k = (rowOf r).f by omega]
    obtain ⟨a, b⟩ := done_few (f := (rowOf r).f) (s := 1) (s' := (rowOf r).s) (n := 1) (.inr rfl)
    have ex : (⟨(rowOf r).f, (rowOf r).s, 1⟩ : Rw) = rowOf r := Rw.ext' rfl rfl h1.symm
    rw [a, b, ex, c1, c2]
  · have en : normOf ⟨(rowOf r).f + k, (rowOf r).s, (rowOf r).n⟩ = ⟨(rowOf r).f + k, (rowOf r).s, (rowOf r).n⟩ := by rw [normOf]; simp only; rw [if_neg h0, if_neg h1]
    rw [en]
    show (doneV ⟨(rowOf r).f + k + -k, (rowOf r).s, (rowOf r).n⟩, doneE ⟨(rowOf r).f + k + -k, (rowOf r).s, (rowOf r).n⟩) = _
    rw [show (rowOf r).f + k + -k = (rowOf r).f by omega]
    show (doneV (rowOf r), doneE (rowOf r)) = _
    rw [c1, c2]
theorem expand_back {r : Rg} (h : vB r = true) {k : Int} (k0 : 0 ≤ k) (hn : (rowOf r).n ≠ 0) (he : (expandRes r k).2 = 0) :
    expandRes (expandRes r k).1 (-k) = (canonOf (rowOf r), 0) ∧ countRes (expandRes r k).1 = ((rowOf r).n + 2 * k, 0) := by
  have hr := vB_ok' h
  by_cases hk : -4096 ≤ k ∧ k ≤ 4096
  case neg => rw [expandRes, if_pos h, if_neg hk] at he; cases he
  have n1 := (rowOf_n_bd hr).1
  have e1 : expandRes r k = (doneV (expandRow r k), doneE (expandRow r k)) := by rw [expandRes, if_pos h, if_pos hk, if_neg (by omega)]
  rw [e1] at he ⊢
  obtain ⟨d1, d2⟩ := done_ok he
  simp only [d2]
  have hs := (refOf_s_bd hr).2.2
  have hen : (expandRow r k).n = (rowOf r).n + 2 * k := rfl
  have hrow := row_norm (x := expandRow r k) (by omega) hs
  have hnorm : normOf (expandRow r k) = expandRow r k := by
    rw [normOf, if_neg (by omega)]
    split
    · rename_i h1
      refine Rw.ext' rfl ?_ h1.symm
      show (1 : Int) = (refOf r).s
      exact (if_pos (by omega)).symm
    · rfl
  rw [hnorm] at hrow
  obtain ⟨c1, c2⟩ := done_ref hr
  have hst : refOf (canonOf (expandRow r k)) = expandRow r k := by
    have hr2 := vB_ok' d1
    by_cases h2 : 2 ≤ (expandRow r k).n
    · rw [ref_s (by rw [hrow]; exact h2), hrow]
    · refine Rw.ext' (by show (rowOf _).f = _; rw [hrow]) ?_ (by show (rowOf _).n = _; rw [hrow])
      show (if (rowOf (canonOf (expandRow r k))).n < 2 then 1 else _) = _
      rw [if_pos (by rw [hrow]; omega)]
      show (1 : Int) = (refOf r).s
      exact (if_pos (by omega)).symm
  constructor
  · rw [expandRes, if_pos d1, if_pos (by omega), hrow, hen, if_neg (by omega)]
    have ee : expandRow (canonOf (expandRow r k)) (-k) = refOf r := by
      unfold expandRow at hst ⊢
      rw [hst]
      refine Rw.ext' ?_ rfl ?_
      · show (refOf r).f - k * (refOf r).s - -k * (refOf r).s = (refOf r).f
        rw [Int.neg_mul]; omega
      · show (refOf r).n + 2 * k + 2 * -k = (refOf r).n
        omega
    rw [ee, c1, c2]
  · rw [countRes, if_pos d1, hrow, hen]
end Go.Proofs.Ytifapodobhkdcaa
