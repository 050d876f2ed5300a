/- The first element of a list that is not as the others (no program in sight). -/
import Derived.Test.YtfkojkciobdeoaaD1
namespace Go.Proofs.Ytfkojkciobdeoaa
set_option linter.unusedVariables false
theorem first_bad {α : Type} (p : α → Bool) (l : List α) : (∀ j (h : j < l.length), p l[j] = true) ∨ ∃ q, ∃ h : q < l.length, p l[q] = false ∧ ∀ j (hj : j < l.length), j < q → p l[j] = true := by
  by_cases hall : ∀ j (h : j < l.length), p l[j] = true
  · exact .inl hall
  · have hex : ∃ j, ∃ h : j < l.length, p l[j] = false := by
      apply Classical.byContradiction
      intro hno
      exact hall fun j h => by
        cases hv : p l[j] with
        | true => rfl
        | false => exact absurd ⟨j, h, hv⟩ hno
    obtain ⟨q0, hq0⟩ := hex
    obtain ⟨q, ⟨hq, hv⟩, hmin⟩ := leastN (p := fun q => ∃ h : q < l.length, p l[q] = false) hq0
    exact .inr ⟨q, hq, hv, fun j hj hlt => by
      cases hv : p l[j] with
      | true => rfl
      | false => exact absurd ⟨hj, hv⟩ (hmin j hlt)⟩
theorem all_yes {α : Type} {p : α → Bool} {l : List α} (h : ∀ j (h : j < l.length), p l[j] = true) : l.all p = true := by
  rw [List.all_eq_true]
  intro x hx
  obtain ⟨j, hj, rfl⟩ := List.getElem_of_mem hx
  exact h j hj
theorem all_no {α : Type} {p : α → Bool} {l : List α} {q : Nat} (hq : q < l.length) (h : p l[q] = false) : l.all p = false := by
  cases ha : l.all p with
  | false => rfl
  | true => rw [List.all_eq_true.1 ha _ (List.getElem_mem hq)] at h; cases h
end Go.Proofs.Ytfkojkciobdeoaa
