/- How ranges and domains read. -/
import Derived.Test.YtfkojkciobdeoaaCame
import Derived.Test.YtfkojkciobdeoaaD1
namespace Go.Proofs.Ytfkojkciobdeoaa
open Go.RowKit Go.ChangeShapes Go.WideShapes Go.Deep
set_option linter.unusedVariables false
set_option linter.unusedSimpArgs false
set_option maxRecDepth 100000
theorem came_struct3 {P : Program} {t : TypeId} {f0 f1 f2 : Field} {α β γ : Type} {f : α → List D} {g : β → List D} {k : γ → List D} (ht : P.underlying t = some (.struct #[f0, f1, f2])) (o0 : f0.offset = 0) (o1 : f1.offset = P.cellsOf f0.type) (o2 : f2.offset = P.cellsOf f0.type + P.cellsOf f1.type) (hC : P.cellsOf t = P.cellsOf f0.type + P.cellsOf f1.type + P.cellsOf f2.type)
    (h0 : Came P f0.type f) (h1 : Came P f1.type g) (h2 : Came P f2.type k) : Came P t fun a : α × β × γ => f a.1 ++ (g a.2.1 ++ k a.2.2) := fun {H} {enc} w fuel cs x h => by
  obtain ⟨xs, n, _, rfl, hl, hlen, hf⟩ := DataW.trod_struct ht h
  have e0 := hf 0 f0 rfl
  have e1 := hf 1 f1 rfl
  have e2 := hf 2 f2 rfl
  have hx : xs.length = 3 := hlen
  rw [List.getElem?_eq_getElem (by omega)] at e0 e1 e2
  obtain ⟨a, ha⟩ := h0 w n _ _ e0
  obtain ⟨b, hb⟩ := h1 w n _ _ e1
  obtain ⟨c, hc⟩ := h2 w n _ _ e2
  refine ⟨(a, b, c), ?_⟩
  have h := ha.app (hb.app hc)
  have e : (cs.drop f0.offset).take (P.cellsOf f0.type) ++ ((cs.drop f1.offset).take (P.cellsOf f1.type) ++ (cs.drop f2.offset).take (P.cellsOf f2.type)) = cs := by
    rw [o0, o1, o2, List.drop_zero, List.take_of_length_le (l := cs.drop (P.cellsOf f0.type + P.cellsOf f1.type)) (by rw [List.length_drop]; omega), ← List.drop_drop, List.take_append_drop, List.take_append_drop]
  rw [e] at h
  exact h
theorem Came.to {P : Program} {t : TypeId} {α β : Type} {f : α → List D} {g : β → List D} (h : Came P t f) (k : ∀ a, ∃ b, f a = g b) : Came P t g := fun {H} {enc} w fuel cs x hx => by
  obtain ⟨a, ha⟩ := h w fuel cs x hx
  obtain ⟨b, e⟩ := k a
  exact ⟨b, e ▸ ha⟩
theorem came_range : Came Try.prog 39 rC := fun {H} {enc} =>
  Came.to (came_struct3 Try.underlying39 (by kernel_rfl) (by kernel_rfl) (by kernel_rfl) (by kernel_rfl) (came_int Try.underlying3) (came_int Try.underlying3) (came_int Try.underlying3)) fun a => ⟨⟨a.1, a.2.1, a.2.2⟩, rfl⟩
theorem came_dom : Came Try.prog 24 fun rs : List Rg => [rowR rs] :=
  came_struct1 Try.underlying24 (by kernel_rfl) (by kernel_rfl) (came_slice Try.underlying22 (k := 3) (fun _ => rfl) (by kernel_rfl) came_range)
theorem agg_came {H : Type} {enc : TypeId × Value → H} {P : Program} {w : World} {r : Reach} {b0 : Nat} {t : TypeId} {fs : Array Field} {α : Type} {f : α → List D} {v : Value} {d : DataW H} {p : List MemPlace} (hs : P.underlying t = some (.struct fs)) (hv : Value.okWide P w r b0 t v) (h : DataW.Trod enc P w 0 (fun _ => true) true t v d p) (hc : Came P t f) : ∃ a, RC (fun b => b < w.heap.size) w (.agg (f a)) v := by
  obtain ⟨cs, rfl, hsz⟩ := okWide_struct hs hv
  obtain ⟨fuel, hf⟩ := h
  obtain ⟨a, h1, h2, h3⟩ := hc w fuel _ _ hf
  have e : (Value.agg cs).cells = cs := rfl
  rw [e] at h1 h2 h3
  exact ⟨a, .agg (us := cs.toList) h1 h2 h3⟩
end Go.Proofs.Ytfkojkciobdeoaa
