/- How an argument reads: ints, slices, structs, by the type (no program in sight). -/
import Derived.Test.YtfkojkciobdeoaaS6
import Derived.Test.YtfkojkciobdeoaaDomMath
import Derived.Deep.Slices
import Derived.ChangeSame
import Derived.OpenShut
namespace Go.Proofs.Ytfkojkciobdeoaa
open Go.RowKit Go.ChangeShapes Go.WideShapes Go.Deep
set_option linter.unusedVariables false
set_option linter.unusedSimpArgs false
/-- the cells us read as ds -/
def Reads (w : World) (ds : List D) (us : List Value) : Prop := ds.length = us.length ∧ (∀ u ∈ us, u.oneCell' = true) ∧ ∀ (j : Nat) (d : D) (u : Value), ds[j]? = some d → us[j]? = some u → RC (fun b => b < w.heap.size) w d u
/-- what has the type reads as f of something -/
def Came (P : Program) (t : TypeId) {α : Type} (f : α → List D) : Prop := ∀ {H : Type} {enc : TypeId × Value → H} (w : World) (fuel : Nat) (cs : List Value) (x : DataW H × List MemPlace), DataW.trod enc P w 0 (fun _ => true) true fuel t cs = some x → ∃ a, Reads w (f a) cs
theorem Reads.one {w : World} {d : D} {u : Value} (ho : u.oneCell' = true) (h : RC (fun b => b < w.heap.size) w d u) : Reads w [d] [u] :=
  ⟨rfl, fun v hv => by simp at hv; subst hv; exact ho, fun j e v h1 h2 => by
    cases j with
    | zero => simp at h1 h2; subst h1; subst h2; exact h
    | succ j => simp at h1⟩
theorem Reads.app {w : World} {ds es : List D} {us vs : List Value} (h : Reads w ds us) (k : Reads w es vs) : Reads w (ds ++ es) (us ++ vs) := by
  refine ⟨by simp [h.1, k.1], fun u hu => (List.mem_append.1 hu).elim (h.2.1 u) (k.2.1 u), fun j d u a b => ?_⟩
  by_cases hj : j < ds.length
  · rw [List.getElem?_append_left hj] at a
    rw [List.getElem?_append_left (by rw [← h.1]; exact hj)] at b
    exact h.2.2 j d u a b
  · rw [List.getElem?_append_right (by omega)] at a
    rw [List.getElem?_append_right (by rw [← h.1]; omega)] at b
    exact k.2.2 _ d u a (by rw [h.1]; exact b)
theorem came_int {P : Program} {t : TypeId} (ht : P.underlying t = some (.int .i64)) : Came P t fun n : Int => [iD n] := fun w fuel cs x h => by
  obtain ⟨n, rfl, _, _⟩ := DataW.trod_int ht h
  exact ⟨n, Reads.one rfl (.val _ rfl)⟩
theorem came_slice {P : Program} {t e : TypeId} {α : Type} {f : α → List D} {k : Nat} (ht : P.underlying t = some (.slice e)) (hf : ∀ a, (f a).length = k) (hk : P.cellsOf e = k) (he : Came P e f) : Came P t fun l : List α => [.row l.length (l.flatMap f)] := fun {H} {enc} w fuel cs x h => by
  rcases open_slice ht h with ⟨rfl, _⟩ | ⟨a, len, cap, m, n, DD, Pl, rfl, hb, hl, hm, hmm, _, hi⟩
  · exact ⟨[], Reads.one rfl (RC.val (.slice none 0 0) rfl).nil_row⟩
  · simp only [if_true] at hmm
    subst hmm
    have key : ∀ q, q ≤ len → ∃ (l : List α) (us : List Value), l.length = q ∧ Reads w (l.flatMap f) us ∧ ∀ j u, us[j]? = some u → w.cell? (a.add j) = some u := by
      intro q
      induction q with
      | zero => intro _; exact ⟨[], [], rfl, ⟨rfl, fun u hu => by simp at hu, fun j d u hj => by simp at hj⟩, fun j u hj => by simp at hj⟩
      | succ q ih =>
        intro hq
        obtain ⟨l, us, h1, h2, h3⟩ := ih (by omega)
        obtain ⟨cs', hc, htr⟩ := hi q (by omega)
        obtain ⟨b, hbr⟩ := he w _ _ _ htr
        obtain ⟨_, hcl, hat⟩ := World.cells?_some hc
        have hus : us.length = q * k := by rw [← h2.1, flat_len (m := k) hf, h1]
        refine ⟨l ++ [b], us ++ cs', by simp [h1], by rw [List.flatMap_append]; simpa using h2.app hbr, fun j u hj => ?_⟩
        by_cases hjl : j < us.length
        · rw [List.getElem?_append_left hjl] at hj; exact h3 j u hj
        · rw [List.getElem?_append_right (by omega)] at hj
          have hlt : j - us.length < P.cellsOf e := by rw [← hcl]; exact (List.getElem?_eq_some_iff.1 hj).1
          have := hat _ hlt
          rw [Go.Deep.add_add, hj] at this
          rw [hk, ← hus, show us.length + (j - us.length) = j by omega] at this
          exact this
    obtain ⟨l, us, h1, h2, h3⟩ := key len (Nat.le_refl _)
    refine ⟨l, Reads.one rfl ?_⟩
    rw [h1]
    by_cases h0 : 0 < us.length
    · obtain ⟨b, off, spot⟩ := a
      have hc0 := h3 0 us[0] (List.getElem?_eq_getElem h0)
      have hspot : spot = none := by simpa [Addr.add] using World.cell?_spot hc0
      subst hspot
      have hlt := World.block_lt_of_cell? w _ hc0
      have hlt' : b < w.heap.size := by simpa [Addr.add] using hlt
      exact .row hl hm (fun h => by cases h) h2.1 (fun _ => ⟨rfl, hlt'⟩) (fun j u hj => by rw [← Go.WideShapes.add_plain]; exact h3 j u hj) h2.2.1 h2.2.2
    · have hnil : us = [] := List.eq_nil_of_length_eq_zero (by omega)
      subst hnil
      exact .row hl hm (fun h => by cases h) (b := 0) (off := 0) h2.1 (fun h => by simp at h) (fun j u hj => by simp at hj) h2.2.1 h2.2.2
theorem came_struct1 {P : Program} {t : TypeId} {f0 : Field} {α : Type} {f : α → List D} (ht : P.underlying t = some (.struct #[f0])) (ho : f0.offset = 0) (hC : P.cellsOf f0.type = P.cellsOf t) (h0 : Came P f0.type f) : Came P t f := fun {H} {enc} w fuel cs x h => by
  obtain ⟨xs, n, _, rfl, hl, hlen, hf⟩ := DataW.trod_struct ht h
  have := hf 0 f0 rfl
  rw [ho, List.drop_zero, List.take_of_length_le (by omega)] at this
  cases hx : xs[0]? with
  | none => rw [hx] at this; have h2 : xs.length = 1 := hlen; rw [List.getElem?_eq_none_iff] at hx; omega
  | some y => rw [hx] at this; exact h0 w n cs y this
end Go.Proofs.Ytfkojkciobdeoaa
