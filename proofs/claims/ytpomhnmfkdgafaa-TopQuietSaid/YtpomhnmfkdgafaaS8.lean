/- The range of a list: the reference's Of, by the abstract machine. -/
import Derived.Test.YtpomhnmfkdgafaaS4
import Derived.Test.YtpomhnmfkdgafaaDsMath
namespace Go.Proofs.Ytpomhnmfkdgafaa
open Go.RowKit
set_option linter.unusedVariables false
set_option linter.unusedSimpArgs false
set_option maxRecDepth 100000
theorem cut_cases (x : Rw) (k : Int) : (0 ≤ k ∧ k ≤ x.n ∧ cutF x k = 0 ∧ cutN x k = k) ∨ (0 ≤ k ∧ x.n < k ∧ cutF x k = 0 ∧ cutN x k = x.n) ∨ (k < 0 ∧ k < -x.n ∧ cutF x k = 0 ∧ cutN x k = x.n) ∨ (k < 0 ∧ -x.n ≤ k ∧ cutF x k = x.n + k ∧ cutN x k = -k) := by
  unfold cutF cutN
  by_cases h0 : 0 ≤ k
  · rw [if_pos h0, if_pos h0]
    by_cases h1 : k ≤ x.n
    · rw [if_pos h1]; exact .inl ⟨h0, h1, rfl, rfl⟩
    · rw [if_neg h1]; exact .inr (.inl ⟨h0, by omega, rfl, rfl⟩)
  · rw [if_neg h0, if_neg h0]
    by_cases h1 : k < -x.n
    · rw [if_pos h1, if_pos h1]; exact .inr (.inr (.inl ⟨by omega, h1, rfl, rfl⟩))
    · rw [if_neg h1, if_neg h1]; exact .inr (.inr (.inr ⟨by omega, by omega, rfl, rfl⟩))
end Go.Proofs.Ytpomhnmfkdgafaa
namespace Go.Proofs.Ytpomhnmfkdgafaa
open Go.RowKit
set_option linter.unusedVariables false
set_option linter.unusedSimpArgs false
set_option maxRecDepth 100000
inductive RCs (I : Nat → Prop) (w : World) : List D → List Value → Prop
  | nil : RCs I w [] []
  | cons {d : D} {v : Value} {ds : List D} {vs : List Value} (h : RC I w d v) (k : RCs I w ds vs) : RCs I w (d :: ds) (v :: vs)
theorem RCs.all {I : Nat → Prop} {w : World} {ds : List D} {vs : List Value} (h : RCs I w ds vs) : ds.length = vs.length ∧ ∀ (j : Nat) (d : D) (v : Value), ds[j]? = some d → vs[j]? = some v → RC I w d v := by
  induction h with
  | nil => exact ⟨rfl, fun j d v h => by simp at h⟩
  | cons h k ih =>
    refine ⟨by simp [ih.1], fun j d v h1 h2 => ?_⟩
    cases j with
    | zero => simp at h1 h2; subst h1; subst h2; exact h
    | succ j => exact ih.2 j d v (by simpa using h1) (by simpa using h2)
theorem RC.int (I : Nat → Prop) (w : World) (n : Int) : RC I w (iD n) (.int .i64 n) := .val _ rfl
theorem RC.rg (I : Nat → Prop) (w : World) (a b c : Int) : RC I w (.agg [iD a, iD b, iD c]) (.agg #[.int .i64 a, .int .i64 b, .int .i64 c]) :=
  .agg (us := [.int .i64 a, .int .i64 b, .int .i64 c]) rfl (fun u hu => by simp at hu; rcases hu with rfl | rfl | rfl <;> rfl) (RCs.all (.cons (.int I w a) (.cons (.int I w b) (.cons (.int I w c) .nil)))).2
theorem RC.ints {w : World} {v : Value} {l : List Int} (h : IntsIn w v l) : RC (fun b => b < w.heap.size) w (rowI l) v := by
  obtain ⟨ao, cap, b, off, rfl, hc, hm, ha, hcell, hok, hnil⟩ := h
  refine .row hc hm hnil (us := l.map (Value.int .i64)) (b := b) (off := off) (by simp) (fun h => ?_) (fun j u hu => ?_) (fun u hu => by simp at hu; obtain ⟨_, _, rfl⟩ := hu; rfl) (fun j d u h1 h2 => ?_)
  · have h0 : 0 < l.length := by simpa using h
    exact ⟨ha h0, World.block_lt_of_cell? w _ (hcell 0 h0)⟩
  · have hj : j < l.length := by have := (List.getElem?_eq_some_iff.1 hu).1; simpa using this
    rw [hcell j hj, at_eq l j hj]
    simpa [hj] using hu
  · rw [List.getElem?_map] at h1 h2
    cases hl : l[j]? with
    | none => rw [hl] at h1; cases h1
    | some n => rw [hl] at h1 h2; cases h1; cases h2; exact .int _ _ n
theorem DC.law {P : Program} {f : Nat} {ds : List D} {vs : List Value} {w : World} (h : DC P f ds (bD true)) (hv : RCs (fun b => b < w.heap.size) w ds vs) : Calls P f vs.toArray w fun e w' => e = .returned (.bool true) ∧ Below w.heap.size w w' := by
  obtain ⟨h1, h2⟩ := hv.all
  refine (h.calls w _ vs (fun b hb => hb) h1 h2).mono ?_
  rintro e w' ⟨v, rfl, hr, hl⟩
  cases hr
  exact ⟨rfl, hl⟩
end Go.Proofs.Ytpomhnmfkdgafaa
namespace Go.Proofs.Ytpomhnmfkdgafaa
open Go.RowKit
set_option linter.unusedVariables false
set_option linter.unusedSimpArgs false
set_option maxRecDepth 100000
def ofS (l : List Int) : Int := if h : 1 < l.length then l[1] - l[0] else 1
def ofF (l : List Int) : Int := if h : 0 < l.length then l[0] else 0
def ofRow (l : List Int) : Rw := ⟨ofF l, ofS l, l.length⟩
def ofGood (l : List Int) : Prop := -1000 ≤ ofS l ∧ ofS l ≤ 1000 ∧ ofS l ≠ 0 ∧ ∀ j (h : j < l.length), (-1000000 ≤ l[j] ∧ l[j] ≤ 1000000) ∧ l[j] = atOf (ofRow l) j
instance (l : List Int) : Decidable (ofGood l) := by unfold ofGood; infer_instance
def ofRes (l : List Int) : Rg × Int := if ofGood l then (canonOf (ofRow l), 0) else (⟨0, 0, 0⟩, 5)
theorem of_yes {l : List Int} (h : ofGood l) : ofRes l = (canonOf (ofRow l), 0) := if_pos h
theorem of_no {l : List Int} (h : ¬ ofGood l) : ofRes l = (⟨0, 0, 0⟩, 5) := if_neg h
theorem ofS_1 {l : List Int} (h : l.length ≤ 1) : ofS l = 1 := dif_neg (by omega)
theorem ofS_2 {l : List Int} (h : 1 < l.length) : ofS l = l[1] - l[0] := dif_pos h
theorem ofF_0 {l : List Int} (h : l.length = 0) : ofF l = 0 := dif_neg (by omega)
theorem ofF_1 {l : List Int} (h : 0 < l.length) : ofF l = l[0] := dif_pos h
end Go.Proofs.Ytpomhnmfkdgafaa
namespace Go.Proofs.Ytpomhnmfkdgafaa
open Go.RowKit
set_option linter.unusedVariables false
set_option linter.unusedSimpArgs false
set_option maxRecDepth 100000
theorem of_done {l : List Int} (hl : l.length ≤ 5000) (hN : ∀ j (h : j < l.length), -1000000 ≤ l[j] ∧ l[j] ≤ 1000000) (hA : ∀ j (h : j < l.length), l[j] = atOf (ofRow l) j) (hs : ofS l ≠ 0) :
    (doneE (ofRow l) = 0 ∧ ofRes l = (doneV (ofRow l), 0)) ∨ (doneE (ofRow l) = 30 ∧ ofRes l = (⟨0, 0, 0⟩, 5)) := by
  have en : (ofRow l).n = l.length := rfl
  have ef : (ofRow l).f = ofF l := rfl
  have est : (ofRow l).s = ofS l := rfl
  have good : -1000 ≤ ofS l → ofS l ≤ 1000 → ofRes l = (canonOf (ofRow l), 0) := fun h1 h2 => of_yes ⟨h1, h2, hs, fun j h => ⟨hN j h, hA j h⟩⟩
  have key : vB (canonOf (ofRow l)) = true ↔ (-1000 ≤ ofS l ∧ ofS l ≤ 1000) := by
    by_cases c0 : l.length = 0
    · rw [canonOf_0 (by omega), ofS_1 (by omega)]; decide
    by_cases c1 : l.length = 1
    · rw [canonOf_1 (by omega), ofS_1 (by omega), ef, ofF_1 (by omega)]
      have := hN 0 (by omega)
      exact ⟨fun h => by have h := vB_okS h; unfold Rg.ok at h; simp only at h; omega, fun h => vB_true (by unfold Rg.ok; simp only; omega)⟩
    · have hf := hN 0 (by omega)
      have hq := hN (l.length - 1) (by omega)
      have e2 : lastOf (ofRow l) = l[l.length - 1] := by
        rw [hA (l.length - 1) (by omega), lastOf, atOf, en, show ((l.length - 1 : Nat) : Int) = (l.length : Int) - 1 by omega]
      rw [← ofF_1 (by omega)] at hf
      rw [← e2] at hq
      by_cases hle : (ofRow l).f ≤ lastOf (ofRow l)
      · rw [canonOf_up (by omega) hle]
        exact ⟨fun h => by have h := vB_okS h; unfold Rg.ok at h; simp only at h; omega, fun h => vB_true (by unfold Rg.ok; simp only; omega)⟩
      · rw [canonOf_down (by omega) hle]
        exact ⟨fun h => by have h := vB_okS h; unfold Rg.ok at h; simp only at h; omega, fun h => vB_true (by unfold Rg.ok; simp only; omega)⟩
  cases hv : vB (canonOf (ofRow l))
  · obtain ⟨d1, d2⟩ := done_no hv
    refine .inr ⟨d2, of_no fun g => ?_⟩
    rw [key.2 ⟨g.1, g.2.1⟩] at hv; cases hv
  · obtain ⟨d1, d2⟩ := done_yes hv
    exact .inl ⟨d2, by rw [d1]; exact good (key.1 hv).1 (key.1 hv).2⟩
end Go.Proofs.Ytpomhnmfkdgafaa
