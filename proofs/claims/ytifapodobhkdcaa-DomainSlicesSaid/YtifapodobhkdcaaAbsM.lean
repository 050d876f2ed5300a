/- The abstract machine: a region that draws its order, with operations that write: all orders (no program in sight). -/
import Derived.Test.YtifapodobhkdcaaAbsL
namespace Go.Proofs.Ytifapodobhkdcaa
open Go.RowKit
set_option linter.unusedVariables false
set_option linter.unusedSimpArgs false
theorem flat_mem : ∀ {fs : Fs} {b : List (Nat × D)} {x : Nat × List (Nat × D)} {e : Nat × D}, x ∈ fs → e ∈ x.2 → e ∈ flatX fs b
  | y :: fs, b, x, e, hx, he => by
    unfold flatX
    rcases List.mem_cons.1 hx with rfl | hx
    · exact List.mem_append_left _ he
    · exact List.mem_append_right _ (flat_mem hx he)
theorem nodupB_nodup : ∀ {l : List Nat}, nodupB l = true → l.Nodup
  | [], _ => List.nodup_nil
  | x :: l, h => by
    simp only [nodupB, Bool.and_eq_true, List.all_eq_true, Bool.not_eq_true'] at h
    refine List.nodup_cons.2 ⟨fun hx => ?_, nodupB_nodup h.2⟩
    have := h.1 x hx
    simp at this
theorem flat_split : ∀ (fs : Fs) (b : List (Nat × D)), flatX fs b = flatX fs [] ++ b
  | [], b => rfl
  | x :: fs, b => by show x.2 ++ flatX fs b = (x.2 ++ flatX fs []) ++ b; rw [flat_split fs b, List.append_assoc]
theorem nodup_eq {l : List (Nat × D)} (h : (l.map (·.1)).Nodup) : ∀ e ∈ l, ∀ e' ∈ l, e.1 = e'.1 → e = e' := by
  induction l with
  | nil => intro e he; simp at he
  | cons x l ih =>
    obtain ⟨h1, h2⟩ := List.nodup_cons.1 h
    intro e he e' he' hee
    rcases List.mem_cons.1 he with h5 | h5 <;> rcases List.mem_cons.1 he' with h6 | h6
    · rw [h5, h6]
    · exact absurd (List.mem_map.2 ⟨e', h6, by rw [← hee, h5]⟩) h1
    · exact absurd (List.mem_map.2 ⟨e, h5, by rw [hee, h6]⟩) h1
    · exact ih h2 e h5 e' h6 hee
/-- entries that share a slot are of one operation -/
theorem flat_same : ∀ {fs : Fs}, ((flatX fs []).map (·.1)).Nodup → ∀ x ∈ fs, ∀ y ∈ fs, ∀ e ∈ x.2, ∀ e' ∈ y.2, e.1 = e'.1 → x = y ∧ e = e'
  | z :: fs, h, x, hx, y, hy, e, he, e', he', hee => by
    have hz : ((z.2 ++ flatX fs []).map (·.1)).Nodup := h
    rw [List.map_append] at hz
    obtain ⟨h1, h2, h3⟩ := List.nodup_append.1 hz
    rcases List.mem_cons.1 hx with h5 | h5 <;> rcases List.mem_cons.1 hy with h6 | h6
    · rw [h5] at he ⊢
      rw [h6] at he' ⊢
      exact ⟨rfl, nodup_eq h1 e he e' he' hee⟩
    · rw [h5] at he
      exact absurd hee (h3 _ (List.mem_map.2 ⟨e, he, rfl⟩) _ (List.mem_map.2 ⟨e', flat_mem h6 he', rfl⟩))
    · rw [h6] at he'
      exact absurd hee.symm (h3 _ (List.mem_map.2 ⟨e', he', rfl⟩) _ (List.mem_map.2 ⟨e, flat_mem h5 he, rfl⟩))
    · exact flat_same h2 x h5 y h6 e he e' he' hee
theorem look_mem : ∀ {l : List (Nat × D)} {t : Nat} {d : D}, look t l = some d → (t, d) ∈ l
  | e :: l, t, d, h => by
    have h' : cond (Nat.beq e.1 t) (some e.2) (look t l) = some d := h
    cases hb : Nat.beq e.1 t with
    | true =>
      rw [hb] at h'
      cases h'
      have := Nat.eq_of_beq_eq_true hb
      subst this
      exact List.mem_cons_self
    | false => rw [hb] at h'; exact List.mem_cons_of_mem _ (look_mem h')
theorem look_some : ∀ {l : List (Nat × D)} {t : Nat} {d : D}, (t, d) ∈ l → ∃ d', look t l = some d'
  | e :: l, t, d, h => by
    show ∃ d', cond (Nat.beq e.1 t) (some e.2) (look t l) = some d'
    cases hb : Nat.beq e.1 t with
    | true => exact ⟨_, rfl⟩
    | false =>
      rcases List.mem_cons.1 h with rfl | h
      · simp at hb
      · exact look_some h
theorem depX_mem {o : Oper} {base : List (Nat × D)} {e : Nat × D} : ∀ {fs : Fs}, e ∈ depX o base fs → (∃ x ∈ fs, dependsB o x.1 = true ∧ e ∈ x.2) ∨ e ∈ base
  | [], h => .inr h
  | x :: fs, h => by
    unfold depX at h
    cases hx : dependsB o x.1 with
    | false =>
      rw [hx] at h
      rcases depX_mem (fs := fs) h with ⟨y, h1, h2, h3⟩ | h
      · exact .inl ⟨y, List.mem_cons_of_mem _ h1, h2, h3⟩
      · exact .inr h
    | true =>
      rw [hx] at h
      rcases List.mem_append.1 (show e ∈ x.2 ++ depX o base fs from h) with h | h
      · exact .inl ⟨x, List.mem_cons_self, hx, h⟩
      · rcases depX_mem (fs := fs) h with ⟨y, h1, h2, h3⟩ | h
        · exact .inl ⟨y, List.mem_cons_of_mem _ h1, h2, h3⟩
        · exact .inr h
theorem look_dX {o : Oper} {base : List (Nat × D)} {t : Nat} {d : D} : ∀ {fs : Fs}, look t (depX o base fs) = some d → (∃ x ∈ fs, dependsB o x.1 = true ∧ (t, d) ∈ x.2) ∨ look t base = some d
  | [], h => .inr h
  | x :: fs, h => by
    unfold depX at h
    have app : ∀ (p q : List (Nat × D)), look t (p ++ q) = some d → (t, d) ∈ p ∨ look t q = some d := by
      intro p
      induction p with
      | nil => intro q h; exact .inr h
      | cons e p ih =>
        intro q h
        have h' : cond (Nat.beq e.1 t) (some e.2) (look t (p ++ q)) = some d := h
        cases hb : Nat.beq e.1 t with
        | true =>
          rw [hb] at h'
          cases h'
          have := Nat.eq_of_beq_eq_true hb
          subst this
          exact .inl List.mem_cons_self
        | false =>
          rw [hb] at h'
          exact (ih q h').elim (fun h => .inl (List.mem_cons_of_mem _ h)) .inr
    cases hx : dependsB o x.1 with
    | false =>
      rw [hx] at h
      rcases look_dX (fs := fs) h with ⟨y, h1, h2, h3⟩ | h
      · exact .inl ⟨y, List.mem_cons_of_mem _ h1, h2, h3⟩
      · exact .inr h
    | true =>
      rw [hx] at h
      rcases app _ _ (show look t (x.2 ++ depX o base fs) = some d from h) with h | h
      · exact .inl ⟨x, List.mem_cons_self, hx, h⟩
      · rcases look_dX (fs := fs) h with ⟨y, h1, h2, h3⟩ | h
        · exact .inl ⟨y, List.mem_cons_of_mem _ h1, h2, h3⟩
        · exact .inr h
/-- what T shows of one operation, as the order's next one -/
theorem wpOp_of_T {P : Program} {l : List Oper} {i : Nat} {o : Oper} {a : Act} {w : World} {next : Act → World → Prop} {Q : Exit → Act → World → Prop} (ho : l.toArray[i]? = some o)
    (h : ∀ Q' : Exit → Act → World → Prop, (∀ a' w', next a' w' → Q' .normal a' w') → wpList P l.toArray Q' [o] a w) : wpOp P l.toArray Q i next a w := by
  have h1 := h (fun e a w => match e with
    | .normal => next a w
    | e => Q e a w) fun a' w' hn => hn
  unfold wpOp
  rw [ho]
  simp only
  unfold wpList at h1
  split
  · rename_i hw
    rw [if_pos hw] at h1
    rcases h1 with h1 | ⟨h1, h2⟩
    · refine .inl ?_
      unfold Oper.wp at h1 ⊢
      generalize (execOp a.eval o).run P w = r at *
      cases r with
      | ok n w' =>
        cases n <;> simp only [Oper.upon] at h1 ⊢ <;>
          first
            | exact h1
            | exact Calls.mono h1 (fun e w'' he => by cases e <;> exact he)
            | exact Rows.mono h1 (fun _ _ he => he)
      | halt x w' => cases x <;> simp only [Oper.upon] at h1 ⊢ <;> exact h1
    · exact .inr ⟨h1, h2⟩
  · rename_i hw
    rw [if_neg hw] at h1
    exact h1
end Go.Proofs.Ytifapodobhkdcaa
