/- How a list of acts reads. -/
import Derived.Test.YtpomhnmfkdgafaaS8
import Derived.Test.YtpomhnmfkdgafaaKnown
import Derived.Deep.Slices
import Derived.ChangeSame
import Derived.OpenShut
namespace Go.Proofs.Ytpomhnmfkdgafaa
open Go.RowKit Go.ChangeShapes Go.WideShapes Go.Deep
set_option linter.unusedVariables false
set_option linter.unusedSimpArgs false
set_option maxRecDepth 100000
/-- the cells us read as ds -/
def Reads (w : World) (ds : List D) (us : List Value) : Prop := ds.length = us.length ∧ (∀ u ∈ us, u.oneCell' = true) ∧ ∀ (j : Nat) (d : D) (u : Value), ds[j]? = some d → us[j]? = some u → RC (fun b => b < w.heap.size) w d u
/-- what has the type reads as f of something -/
def Came (P : Program) (t : TypeId) {α : Type} (f : α → List D) : Prop := ∀ {H : Type} {enc : TypeId × Value → H} (w : World) (fuel : Nat) (cs : List Value) (x : DataW H × List MemPlace), DataW.trod enc P w 0 (fun _ => true) true fuel t cs = some x → ∃ a, Reads w (f a) cs
theorem Reads.one {w : World} {d : D} {u : Value} (ho : u.oneCell' = true) (h : RC (fun b => b < w.heap.size) w d u) : Reads w [d] [u] :=
  ⟨rfl, fun v hv => by simp at hv; subst hv; exact ho, fun j e v h1 h2 => by
    cases j with
    | zero => simp at h1 h2; subst h1; subst h2; exact h
    | succ j => simp at h1⟩
theorem Reads.app {w : World} {ds es : List D} {us vs : List Value} (h : Reads w ds us) (k : Reads w es vs) : Reads w (ds ++ es) (us ++ vs) := by
  refine ⟨by simp [h.1, k.1], fun u hu => (List.mem_append.1 hu).elim (h.2.1 u) (k.2.1 u), fun j d u a b => ?_⟩
  by_cases hj : j < ds.length
  · rw [List.getElem?_append_left hj] at a
    rw [List.getElem?_append_left (by rw [← h.1]; exact hj)] at b
    exact h.2.2 j d u a b
  · rw [List.getElem?_append_right (by omega)] at a
    rw [List.getElem?_append_right (by rw [← h.1]; omega)] at b
    exact k.2.2 _ d u a (by rw [h.1]; exact b)
theorem came_int {P : Program} {t : TypeId} (ht : P.underlying t = some (.int .i64)) : Came P t fun n : Int => [iD n] := fun w fuel cs x h => by
  obtain ⟨n, rfl, _, _⟩ := DataW.trod_int ht h
  exact ⟨n, Reads.one rfl (.val _ rfl)⟩
theorem came_slice {P : Program} {t e : TypeId} {α : Type} {f : α → List D} {k : Nat} (ht : P.underlying t = some (.slice e)) (hf : ∀ a, (f a).length = k) (hk : P.cellsOf e = k) (he : Came P e f) : Came P t fun l : List α => [.row l.length (l.flatMap f)] := fun {H} {enc} w fuel cs x h => by
  rcases open_slice ht h with ⟨rfl, _⟩ | ⟨a, len, cap, m, n, DD, Pl, rfl, hb, hl, hm, hmm, _, hi⟩
  · exact ⟨[], Reads.one rfl (RC.val (.slice none 0 0) rfl).nil_row⟩
  · simp only [if_true] at hmm
    subst hmm
    have key : ∀ q, q ≤ len → ∃ (l : List α) (us : List Value), l.length = q ∧ Reads w (l.flatMap f) us ∧ ∀ j u, us[j]? = some u → w.cell? (a.add j) = some u := by
      intro q
      induction q with
      | zero => intro _; exact ⟨[], [], rfl, ⟨rfl, fun u hu => by simp at hu, fun j d u hj => by simp at hj⟩, fun j u hj => by simp at hj⟩
      | succ q ih =>
        intro hq
        obtain ⟨l, us, h1, h2, h3⟩ := ih (by omega)
        obtain ⟨cs', hc, htr⟩ := hi q (by omega)
        obtain ⟨b, hbr⟩ := he w _ _ _ htr
        obtain ⟨_, hcl, hat⟩ := World.cells?_some hc
        have hus : us.length = q * k := by rw [← h2.1, flat_len (m := k) hf, h1]
        refine ⟨l ++ [b], us ++ cs', by simp [h1], by rw [List.flatMap_append]; simpa using h2.app hbr, fun j u hj => ?_⟩
        by_cases hjl : j < us.length
        · rw [List.getElem?_append_left hjl] at hj; exact h3 j u hj
        · rw [List.getElem?_append_right (by omega)] at hj
          have hlt : j - us.length < P.cellsOf e := by rw [← hcl]; exact (List.getElem?_eq_some_iff.1 hj).1
          have := hat _ hlt
          rw [Go.Deep.add_add, hj] at this
          rw [hk, ← hus, show us.length + (j - us.length) = j by omega] at this
          exact this
    obtain ⟨l, us, h1, h2, h3⟩ := key len (Nat.le_refl _)
    refine ⟨l, Reads.one rfl ?_⟩
    rw [h1]
    by_cases h0 : 0 < us.length
    · obtain ⟨b, off, spot⟩ := a
      have hc0 := h3 0 us[0] (List.getElem?_eq_getElem h0)
      have hspot : spot = none := by simpa [Addr.add] using World.cell?_spot hc0
      subst hspot
      have hlt := World.block_lt_of_cell? w _ hc0
      have hlt' : b < w.heap.size := by simpa [Addr.add] using hlt
      exact .row hl hm (fun h => by cases h) h2.1 (fun _ => ⟨rfl, hlt'⟩) (fun j u hj => by rw [← Go.WideShapes.add_plain]; exact h3 j u hj) h2.2.1 h2.2.2
    · have hnil : us = [] := List.eq_nil_of_length_eq_zero (by omega)
      subst hnil
      exact .row hl hm (fun h => by cases h) (b := 0) (off := 0) h2.1 (fun h => by simp at h) (fun j u hj => by simp at hj) h2.2.1 h2.2.2
theorem came_struct3 {P : Program} {t : TypeId} {f0 f1 f2 : Field} {α β γ : Type} {f : α → List D} {g : β → List D} {k : γ → List D} (ht : P.underlying t = some (.struct #[f0, f1, f2])) (o0 : f0.offset = 0) (o1 : f1.offset = P.cellsOf f0.type) (o2 : f2.offset = P.cellsOf f0.type + P.cellsOf f1.type) (hC : P.cellsOf t = P.cellsOf f0.type + P.cellsOf f1.type + P.cellsOf f2.type)
    (h0 : Came P f0.type f) (h1 : Came P f1.type g) (h2 : Came P f2.type k) : Came P t fun a : α × β × γ => f a.1 ++ (g a.2.1 ++ k a.2.2) := fun {H} {enc} w fuel cs x h => by
  obtain ⟨xs, n, _, rfl, hl, hlen, hf⟩ := DataW.trod_struct ht h
  have e0 := hf 0 f0 rfl
  have e1 := hf 1 f1 rfl
  have e2 := hf 2 f2 rfl
  have hx : xs.length = 3 := hlen
  rw [List.getElem?_eq_getElem (by omega)] at e0 e1 e2
  obtain ⟨a, ha⟩ := h0 w n _ _ e0
  obtain ⟨b, hb⟩ := h1 w n _ _ e1
  obtain ⟨c, hc⟩ := h2 w n _ _ e2
  refine ⟨(a, b, c), ?_⟩
  have h := ha.app (hb.app hc)
  have e : (cs.drop f0.offset).take (P.cellsOf f0.type) ++ ((cs.drop f1.offset).take (P.cellsOf f1.type) ++ (cs.drop f2.offset).take (P.cellsOf f2.type)) = cs := by
    rw [o0, o1, o2, List.drop_zero, List.take_of_length_le (l := cs.drop (P.cellsOf f0.type + P.cellsOf f1.type)) (by rw [List.length_drop]; omega), ← List.drop_drop, List.take_append_drop, List.take_append_drop]
  rw [e] at h
  exact h
theorem Came.to {P : Program} {t : TypeId} {α β : Type} {f : α → List D} {g : β → List D} (h : Came P t f) (k : ∀ a, ∃ b, f a = g b) : Came P t g := fun {H} {enc} w fuel cs x hx => by
  obtain ⟨a, ha⟩ := h w fuel cs x hx
  obtain ⟨b, e⟩ := k a
  exact ⟨b, e ▸ ha⟩
theorem one_came {H : Type} {enc : TypeId × Value → H} {P : Program} {w : World} {t : TypeId} {α : Type} {f : α → D} {v : Value} {d : DataW H} {p : List MemPlace} (hv : v.cells = #[v]) (h : DataW.Trod enc P w 0 (fun _ => true) true t v d p) (hc : Came P t fun a => [f a]) : ∃ a, RC (fun b => b < w.heap.size) w (f a) v := by
  obtain ⟨fuel, hf⟩ := h
  obtain ⟨a, h1, h2, h3⟩ := hc w fuel _ _ hf
  rw [hv] at h3
  exact ⟨a, h3 0 _ _ rfl rfl⟩
def actD (l : List (Int × Int × Int)) : List D := l.flatMap fun a => [iD a.1, iD a.2.1, iD a.2.2]
theorem came_act : Came Try.prog 29 fun a : Int × Int × Int => [iD a.1, iD a.2.1, iD a.2.2] := fun {H} {enc} =>
  Came.to (came_struct3 Try.underlying29 (by kernel_rfl) (by kernel_rfl) (by kernel_rfl) (by kernel_rfl) (came_int Try.underlying3) (came_int Try.underlying3) (came_int Try.underlying3)) fun a => ⟨a, rfl⟩
theorem came_acts : Came Try.prog 22 fun l : List (Int × Int × Int) => [.row l.length (actD l)] := fun {H} {enc} =>
  Came.to (came_slice Try.underlying22 (k := 3) (fun _ => rfl) (by kernel_rfl) came_act) fun a => ⟨a, rfl⟩
theorem act_el {l : List (Int × Int × Int)} {k : Nat} (h : k < l.length) : ElemAt 3 (actD l) k [iD l[k].1, iD l[k].2.1, iD l[k].2.2] := ⟨rfl, fun j hj => by
  unfold actD
  rw [flat_get (f := fun a : Int × Int × Int => [iD a.1, iD a.2.1, iD a.2.2]) (m := 3) (fun _ => rfl) h hj]⟩
theorem act_ids (l : List (Int × Int × Int)) (p : Nat → Bool) : D.idsL p (actD l) = true := idsL_flat (fun _ => rfl) l
theorem act_len (l : List (Int × Int × Int)) : (actD l).length = l.length * 3 := flat_len (m := 3) (fun _ => rfl) l
end Go.Proofs.Ytpomhnmfkdgafaa
