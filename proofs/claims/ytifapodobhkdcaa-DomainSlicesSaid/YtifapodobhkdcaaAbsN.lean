/- The abstract machine: a region that draws its order, with operations that write: the invariant, and one operation (no program in sight). -/
import Derived.Test.YtifapodobhkdcaaAbsM
namespace Go.Proofs.Ytifapodobhkdcaa
open Go.RowKit
set_option linter.unusedVariables false
set_option linter.unusedSimpArgs false
theorem put_other {a : Act} {t s : Nat} {v : Value} (h : s ≠ t) : (a.put (some t) v).tmps.getD s undef = a.tmps.getD s undef := by
  simp only [Act.put]
  exact getD_set_other _ _ _ _ _ h
theorem put_same {a : Act} {t : Nat} {v : Value} (h : t < a.tmps.size) : (a.put (some t) v).tmps.getD t undef = v := by
  simp only [Act.put]
  exact getD_set_same _ _ _ _ h
theorem listed_set {listed : Array Bool} {i j : Nat} (hs : i < listed.size) : (listed.setIfInBounds i true).getD j false = true ↔ j = i ∨ listed.getD j false = true := by
  by_cases h : i = j
  · subst h; simp [hs]
  · rw [getD_set_ne false h]
    exact ⟨.inr, fun h' => h'.elim (fun e => absurd e.symm h) id⟩
theorem look_skip {t : Nat} {p q : List (Nat × D)} (h : ∀ e ∈ p, e.1 ≠ t) : look t (p ++ q) = look t q := by
  induction p with
  | nil => rfl
  | cons e p ih =>
    have h1 : Nat.beq e.1 t = false := by
      cases hb : Nat.beq e.1 t with
      | true => exact absurd (Nat.eq_of_beq_eq_true hb) (h e List.mem_cons_self)
      | false => rfl
    show cond (Nat.beq e.1 t) (some e.2) (look t (p ++ q)) = look t q
    rw [h1]
    exact ih fun e he => h e (List.mem_cons_of_mem _ he)
theorem look_here {t : Nat} {d : D} {p q : List (Nat × D)} (h : look t p = some d) : look t (p ++ q) = some d := by
  induction p with
  | nil => cases h
  | cons e p ih =>
    have h' : cond (Nat.beq e.1 t) (some e.2) (look t p) = some d := h
    show cond (Nat.beq e.1 t) (some e.2) (look t (p ++ q)) = some d
    cases hb : Nat.beq e.1 t with
    | true => rw [hb] at h'; exact h'
    | false => rw [hb] at h'; exact ih h'
theorem look_or {t : Nat} {d : D} : ∀ {p q : List (Nat × D)}, look t (p ++ q) = some d → look t p = some d ∨ (look t p = none ∧ look t q = some d)
  | [], q, h => .inr ⟨rfl, h⟩
  | e :: p, q, h => by
    have h' : cond (Nat.beq e.1 t) (some e.2) (look t (p ++ q)) = some d := h
    cases hb : Nat.beq e.1 t with
    | true => rw [hb] at h'; exact .inl (by show cond (Nat.beq e.1 t) _ _ = _; rw [hb]; exact h')
    | false =>
      rw [hb] at h'
      rcases look_or (p := p) h' with h | ⟨h0, h⟩
      · exact .inl (by show cond (Nat.beq e.1 t) _ _ = _; rw [hb]; exact h)
      · exact .inr ⟨by show cond (Nat.beq e.1 t) _ _ = _; rw [hb]; exact h0, h⟩
theorem depX_app {o : Oper} {base : List (Nat × D)} : ∀ fs : Fs, ∃ p, depX o base fs = p ++ base ∧ ∀ e ∈ p, ∃ x ∈ fs, dependsB o x.1 = true ∧ e ∈ x.2
  | [] => ⟨[], rfl, fun e he => by simp at he⟩
  | x :: fs => by
    obtain ⟨p, h1, h2⟩ := depX_app (o := o) (base := base) fs
    unfold depX
    cases hx : dependsB o x.1 with
    | true =>
      refine ⟨x.2 ++ p, by show x.2 ++ depX o base fs = _; rw [h1, List.append_assoc], fun e he => ?_⟩
      rcases List.mem_append.1 he with h | h
      · exact ⟨x, List.mem_cons_self, hx, h⟩
      · obtain ⟨y, hy, hy2⟩ := h2 e h; exact ⟨y, List.mem_cons_of_mem _ hy, hy2⟩
    | false =>
      refine ⟨p, h1, fun e he => ?_⟩
      obtain ⟨y, hy, hy2⟩ := h2 e he
      exact ⟨y, List.mem_cons_of_mem _ hy, hy2⟩
theorem flat_inv : ∀ {fs : Fs} {b : List (Nat × D)} {e : Nat × D}, e ∈ flatX fs b → (∃ x ∈ fs, e ∈ x.2) ∨ e ∈ b
  | [], b, e, h => .inr h
  | x :: fs, b, e, h => by
    rcases List.mem_append.1 (show e ∈ x.2 ++ flatX fs b from h) with h | h
    · exact .inl ⟨x, List.mem_cons_self, h⟩
    · rcases flat_inv h with ⟨y, hy, h⟩ | h
      · exact .inl ⟨y, List.mem_cons_of_mem _ hy, h⟩
      · exact .inr h
theorem nodup_map_eq {α : Type} {f : α → Nat} : ∀ {l : List α}, (l.map f).Nodup → ∀ x ∈ l, ∀ y ∈ l, f x = f y → x = y
  | [], _, x, hx, _, _, _ => by simp at hx
  | z :: l, h, x, hx, y, hy, hxy => by
    obtain ⟨h1, h2⟩ := List.nodup_cons.1 h
    rcases List.mem_cons.1 hx with h5 | h5 <;> rcases List.mem_cons.1 hy with h6 | h6
    · rw [h5, h6]
    · exact absurd (List.mem_map.2 ⟨y, h6, by rw [← hxy, h5]⟩) h1
    · exact absurd (List.mem_map.2 ⟨x, h5, by rw [hxy, h6]⟩) h1
    · exact nodup_map_eq h2 x h5 y h6 hxy
theorem dep_edge {l : List Oper} {i j : Nat} (h : dep l i j = true) : ∃ o, l[i]? = some o ∧ ∃ e ∈ o.after, Region.binds .any e = true ∧ e.on = j := by
  unfold dep at h
  cases ho : l[i]? with
  | none => rw [ho] at h; cases h
  | some o =>
    rw [ho] at h
    simp only [dependsB, List.any_eq_true, Bool.and_eq_true] at h
    obtain ⟨e, he1, he2, he3⟩ := h
    exact ⟨o, rfl, e, Array.mem_toList_iff.1 he1, he2, Nat.eq_of_beq_eq_true he3⟩
theorem dep_lt {l : List Oper} (hf : fwdB l l.length = true) {i j : Nat} (h : dep l i j = true) : j < i := by
  obtain ⟨o, ho, e, he, hb, rfl⟩ := dep_edge h
  have hl := (List.getElem?_eq_some_iff.1 ho).1
  have h1 := List.all_eq_true.1 hf (o, i) (by rw [List.mem_zipIdx_iff_getElem?]; simpa [List.take_length] using ho)
  have h2 := List.all_eq_true.1 h1 e (Array.mem_toList_iff.2 he)
  simp only [hb, Bool.not_true, Bool.false_or] at h2
  simpa using h2
theorem look_filter {p : Nat → Bool} {t : Nat} : ∀ {q : List (Nat × D)}, look t (q.filter fun e => p e.1) = if p t then look t q else none
  | [] => by cases p t <;> rfl
  | e :: q => by
    have ih := look_filter (p := p) (t := t) (q := q)
    rw [List.filter_cons]
    cases hb : Nat.beq e.1 t with
    | true =>
      have := Nat.eq_of_beq_eq_true hb
      subst this
      cases hp : p e.1 with
      | true =>
        rw [if_pos rfl, if_pos rfl]
        show cond (Nat.beq e.1 e.1) _ _ = cond (Nat.beq e.1 e.1) _ _
        rw [hb]; rfl
      | false =>
        rw [hp] at ih
        rw [if_neg (by decide), if_neg (by decide)]
        rw [ih, if_neg (by decide)]
    | false =>
      have hr : look t (e :: q) = look t q := by show cond (Nat.beq e.1 t) _ _ = _; rw [hb]; rfl
      rw [hr, ← ih]
      cases hp : p e.1 with
      | true =>
        rw [if_pos rfl]
        show cond (Nat.beq e.1 t) _ _ = _; rw [hb]; rfl
      | false => rw [if_neg (by decide)]
/-- all that write slot s wait for operation i -/
def pOld (l : List Oper) (i s : Nat) : Bool := (List.range l.length).all fun j => !wrs l j s || dep l j i
/-- what operation i may know of slots that the region writes later -/
def bsAt (l : List Oper) (ow base : List (Nat × D)) (i : Nat) : List (Nat × D) := (ow.filter fun e => pOld l i e.1) ++ base
theorem wrs_lt {l : List Oper} {j s : Nat} (h : wrs l j s = true) : j < l.length := by
  unfold wrs at h
  cases ho : l[j]? with
  | none => rw [ho] at h; cases h
  | some o => exact (List.getElem?_eq_some_iff.1 ho).1
theorem wrs_of {l : List Oper} {j s : Nat} {o : Oper} (h : l[j]? = some o) (hd : o.dst = some s) : wrs l j s = true := by
  unfold wrs; rw [h]; simp [hd]
theorem pOld_dep {l : List Oper} {i s j : Nat} (h : pOld l i s = true) (hw : wrs l j s = true) : dep l j i = true := by
  have := List.all_eq_true.1 h j (List.mem_range.2 (wrs_lt hw))
  simpa [hw] using this
structure Sta (P : Program) (l : List Oper) (sz : Nat) (ow base : List (Nat × D)) (nb0 : Nat) (mem0 : List (Nat × Option M)) (Z : Acc) : Prop where
  chk : Chk l ow base Z
  bw : ∀ e ∈ base, ∀ j, wrs l j e.1 = false
  ow' : ∀ e ∈ ow, ∃ j, wrs l j e.1 = true
  ch : ChOk mem0 Z.ch
  ops : ∀ k o, l[k]? = some o → ∃ A B, OpOk P l.toArray sz (bsAt l ow base) nb0 mem0 o k A B ∧ Le k A Z ∧ Le (k + 1) B Z ∧ Bd k A
structure InvX (l : List Oper) (w0 : World) (I0 : Nat → Prop) (nb0 sz : Nat) (ow base : List (Nat × D)) (mem0 : List (Nat × Option M)) (Z : Acc) (listed : Array Bool) (C : List Lk) (gs : Nat → Nat) (ρ : Rho) (I : Nat → Prop) (a : Act) (w : World) : Prop where
  size : listed.size = l.length
  closed : ∀ j oj, l[j]? = some oj → listed.getD j false = true → ∀ e ∈ oj.after, Region.binds .any e = true → listed.getD e.on false = true
  suf : ∃ E, Z.ch = E ++ C
  lk : ∀ x ∈ Z.ch, listed.getD x.q false = true ↔ x ∈ C
  g : G w0 I0 ⟨curNb nb0 C, sz, base, curMem mem0 C⟩ ρ I a w
  facts : ∀ x ∈ Z.fs, listed.getD x.1 false = true → ∀ e ∈ x.2, RA ρ (curNb nb0 C) I w e.2 (a.tmps.getD e.1 undef)
  old : ∀ s d, look s ow = some d → (∀ j, wrs l j s = true → listed.getD j false = false) → RA ρ (curNb nb0 C) I w d (a.tmps.getD s undef)
  al : C = [] → ∀ x ∈ Z.al, listed.getD x.1 false = true → Fresh w0 ρ mem0 I w x.2.2 (a.tmps.getD x.2.1 undef) (gs x.1)
  inj : C = [] → ∀ x ∈ Z.al, ∀ y ∈ Z.al, listed.getD x.1 false = true → listed.getD y.1 false = true → gs x.1 = gs y.1 → x.1 = y.1
theorem ChOk.suffix {mem0 : List (Nat × Option M)} : ∀ {E C : List Lk}, ChOk mem0 (E ++ C) → ChOk mem0 C
  | [], _, h => h
  | _ :: _, _, h => ChOk.suffix h.2
theorem chain_last {l : List Oper} {al : List (Nat × Nat × M)} : ∀ {E C : List Lk}, chainOk l al (E ++ C) = true → C ≠ [] → ∃ x ∈ C, ∀ y ∈ al, dep l x.q y.1 = true
  | [], [], _, h => absurd rfl h
  | [], [x], hc, _ => ⟨x, by simp, fun y hy => List.all_eq_true.1 hc y hy⟩
  | [], x :: y :: C, hc, _ => by
    have hc' : (dep l x.q y.q && chainOk l al (y :: C)) = true := hc
    simp only [Bool.and_eq_true] at hc'
    obtain ⟨z, hz, h⟩ := chain_last (E := []) (C := y :: C) hc'.2 (by simp)
    exact ⟨z, List.mem_cons_of_mem _ hz, h⟩
  | [x], y :: C, hc, _ => by
    have hc' : (dep l x.q y.q && chainOk l al (y :: C)) = true := hc
    simp only [Bool.and_eq_true] at hc'
    exact chain_last (E := []) (C := y :: C) hc'.2 (by simp)
  | [x], [], _, h => absurd rfl h
  | x :: y :: E, C, hc, h => by
    have hc' : (dep l x.q y.q && chainOk l al (y :: (E ++ C))) = true := hc
    simp only [Bool.and_eq_true] at hc'
    exact chain_last (E := y :: E) hc'.2 h
theorem chain_at {l : List Oper} {al : List (Nat × Nat × M)} {x y : Lk} {C : List Lk} : ∀ {E : List Lk}, chainOk l al (E ++ x :: y :: C) = true → dep l x.q y.q = true
  | [], hc => by
    have hc' : (dep l x.q y.q && chainOk l al (y :: C)) = true := hc
    simp only [Bool.and_eq_true] at hc'
    exact hc'.1
  | [z], hc => by
    have hc' : (dep l z.q x.q && chainOk l al (x :: y :: C)) = true := hc
    simp only [Bool.and_eq_true] at hc'
    exact chain_at (E := []) hc'.2
  | z :: u :: E, hc => by
    have hc' : (dep l z.q u.q && chainOk l al (u :: (E ++ x :: y :: C))) = true := hc
    simp only [Bool.and_eq_true] at hc'
    exact chain_at (E := u :: E) hc'.2
theorem chain_end {l : List Oper} {al : List (Nat × Nat × M)} {x : Lk} : ∀ {E : List Lk}, chainOk l al (E ++ [x]) = true → ∀ y ∈ al, dep l x.q y.1 = true
  | [], hc => fun y hy => List.all_eq_true.1 hc y hy
  | [z], hc => by
    have hc' : (dep l z.q x.q && chainOk l al [x]) = true := hc
    simp only [Bool.and_eq_true] at hc'
    exact chain_end (E := []) hc'.2
  | z :: u :: E, hc => by
    have hc' : (dep l z.q u.q && chainOk l al (u :: (E ++ [x]))) = true := hc
    simp only [Bool.and_eq_true] at hc'
    exact chain_end (E := u :: E) hc'.2
section
variable {P : Program} {l : List Oper} {nb0 sz i : Nat} {ow base : List (Nat × D)} {mem0 : List (Nat × Option M)} {Z A B : Acc} {o : Oper}
variable {w0 : World} {I0 : Nat → Prop} {listed : Array Bool} {C : List Lk} {gs : Nat → Nat} {ρ : Rho} {I : Nat → Prop} {a : Act} {w : World}
/-- G of a state whose slots are fewer -/
theorem G.slots' {nb : Nat} {tmp tmp' : List (Nat × D)} {mem mem' : List (Nat × Option M)} (g : G w0 I0 ⟨nb, sz, tmp, mem⟩ ρ I a w) (h : ∀ t d, look t tmp' = some d → RA ρ nb I w d (a.tmps.getD t undef)) (hm : ∀ b m, getM b mem' = some m → getM b mem = some m) : G w0 I0 ⟨nb, sz, tmp', mem'⟩ ρ I a w :=
  ⟨g.later, g.lt, g.base, g.old, g.defers, g.sz, h, fun b m hb => g.mem b m (hm b m hb), fun b m b' m' h1 h2 => g.inj b m b' m' (hm _ _ h1) (hm _ _ h2)⟩
theorem Chk.slotsN (h : Chk l ow base Z) : ((flatX Z.fs []).map (·.1)).Nodup := nodupB_nodup h.slots
theorem Chk.notBase (h : Chk l ow base Z) {x : Nat × List (Nat × D)} {e : Nat × D} (hx : x ∈ Z.fs) (he : e ∈ x.2) : look e.1 base = none := by
  have := List.all_eq_true.1 h.free e (flat_mem hx he)
  simpa using this
theorem Chk.ndCh (h : Chk l ow base Z) {n : Nat × List Nat} {x : Lk} (hn : n ∈ Z.nd) (hx : x ∈ Z.ch) : n.1 ≠ x.q ∧ (dep l n.1 x.q = true ∨ dep l x.q n.1 = true ∨ ∀ b ∈ n.2, b ∉ x.tc) := by
  have h1 := List.all_eq_true.1 (List.all_eq_true.1 h.apart n hn) x hx
  simp only [Bool.and_eq_true, Bool.or_eq_true, Bool.not_eq_true'] at h1
  refine ⟨fun e => ?_, ?_⟩
  · rw [e] at h1; simp at h1
  · rcases h1.2 with (h2 | h2) | h2
    · exact .inl h2
    · exact .inr (.inl h2)
    · refine .inr (.inr fun b hb hbx => ?_)
      have h3 := List.all_eq_true.1 h2 b hb
      simp only [Bool.not_eq_true'] at h3
      have : x.tc.any (Nat.beq b) = true := List.any_eq_true.2 ⟨b, hbx, Nat.beq_refl b⟩
      rw [this] at h3; cases h3
theorem Chk.alNd (h : Chk l ow base Z) {x : Nat × Nat × M} (hx : x ∈ Z.al) : (∀ n ∈ Z.nd, n.1 ≠ x.1) ∧ (∀ c ∈ Z.ch, c.q ≠ x.1) ∧ (∀ y ∈ Z.fs, y.1 ≠ x.1) := by
  have h1 := List.all_eq_true.1 h.alidx x hx
  simp only [Bool.and_eq_true] at h1
  refine ⟨fun n hn e => ?_, fun c hc e => ?_, fun y hy e => ?_⟩
  · have h2 := List.all_eq_true.1 h1.1.1 n hn; rw [e] at h2; simp at h2
  · have h2 := List.all_eq_true.1 h1.1.2 c hc; rw [e] at h2; simp at h2
  · have h2 := List.all_eq_true.1 h1.2 y hy; rw [e] at h2; simp at h2
theorem Chk.alSl (h : Chk l ow base Z) {x : Nat × Nat × M} {y : Nat × List (Nat × D)} (hx : x ∈ Z.al) (hy : y ∈ Z.fs) : (∀ e ∈ y.2, e.1 ≠ x.2.1) ∨ ∃ c ∈ Z.ch, c.q = y.1 := by
  have h1 := List.all_eq_true.1 (List.all_eq_true.1 h.alslot x hx) y hy
  simp only [Bool.or_eq_true] at h1
  rcases h1 with h1 | h1
  · refine .inl fun e he hh => ?_
    have h2 := List.all_eq_true.1 h1 e he; rw [hh] at h2; simp at h2
  · obtain ⟨c, hc, h2⟩ := List.any_eq_true.1 h1
    exact .inr ⟨c, hc, Nat.eq_of_beq_eq_true h2⟩
theorem InvX.closed' (inv : InvX l w0 I0 nb0 sz ow base mem0 Z listed C gs ρ I a w) (hi : i ∈ Region.ready .any l.toArray listed) : ∀ j oj, l[j]? = some oj → (listed.setIfInBounds i true).getD j false = true → ∀ e ∈ oj.after, Region.binds .any e = true → (listed.setIfInBounds i true).getD e.on false = true := by
  intro j oj hj hl e he hb
  obtain ⟨_, oi, hoi, hedges⟩ := mem_ready.1 hi
  by_cases hij : i = j
  · subst hij
    have : oi = oj := by
      have h1 : l[i]? = some oi := by simpa using hoi
      rw [h1] at hj; exact Option.some.inj hj
    subst this
    exact getD_set_true (hedges e he hb)
  · rw [getD_set_ne false hij] at hl
    exact getD_set_true (inv.closed j oj hj hl e he hb)
theorem InvX.dep (inv : InvX l w0 I0 nb0 sz ow base mem0 Z listed C gs ρ I a w) {j k : Nat} (h : dep l j k = true) (hl : listed.getD j false = true) : listed.getD k false = true := by
  obtain ⟨o, ho, e, he, hb, rfl⟩ := dep_edge h
  exact inv.closed j o ho hl e he hb
theorem ready_dep (hi : i ∈ Region.ready .any l.toArray listed) {k : Nat} (h : dep l i k = true) : listed.getD k false = true := by
  obtain ⟨o, ho, e, he, hb, rfl⟩ := dep_edge h
  obtain ⟨_, oi, hoi, hedges⟩ := mem_ready.1 hi
  have h1 : l[i]? = some oi := by simpa using hoi
  rw [h1] at ho
  cases ho
  exact hedges e he hb
theorem ready_not (hi : i ∈ Region.ready .any l.toArray listed) : listed.getD i false = false := by
  obtain ⟨h, oi, hoi, _⟩ := mem_ready.1 hi
  by_cases hs : i < listed.size
  · simpa [hs] using h
  · simp [hs]
theorem same_rows (S : Sta P l sz ow base nb0 mem0 Z) (inv : InvX l w0 I0 nb0 sz ow base mem0 Z listed C gs ρ I a w) (hi : i ∈ Region.ready .any l.toArray listed) (hA : Le i A Z) (hb : Bd i A) {R : List Nat} (hR : (i, R) ∈ Z.nd) {b : Nat} (hbR : b ∈ R) : getM b (curMem mem0 C) = getM b (curMem mem0 A.ch) := by
  obtain ⟨E, hE⟩ := inv.suf
  obtain ⟨E', hE', hq⟩ := hA.ch
  have hnd := nodupB_nodup S.chk.nch
  have s1 : C <:+ Z.ch := ⟨E, hE.symm⟩
  have s2 : A.ch <:+ Z.ch := ⟨E', hE'.symm⟩
  rcases List.suffix_or_suffix_of_suffix s1 s2 with ⟨D, hD⟩ | ⟨D, hD⟩
  · have hc : ChOk mem0 (D ++ C) := by rw [hD]; have := S.ch; rw [hE'] at this; exact this.suffix
    rw [← hD]
    refine (hc.same b fun x hx hbx => ?_).symm
    have hxA : x ∈ A.ch := by rw [← hD]; exact List.mem_append_left _ hx
    have hxZ : x ∈ Z.ch := by rw [hE']; exact List.mem_append_right _ hxA
    obtain ⟨_, h | h | h⟩ := S.chk.ndCh hR hxZ
    · have h1 := ready_dep hi h
      have h2 := (inv.lk x hxZ).1 h1
      have h3 : ((D ++ C).map (·.q)).Nodup := by
        rw [hD]; rw [hE', List.map_append] at hnd
        exact (List.nodup_append.1 hnd).2.1
      rw [List.map_append] at h3
      exact (List.nodup_append.1 h3).2.2 _ (List.mem_map.2 ⟨x, hx, rfl⟩) _ (List.mem_map.2 ⟨x, h2, rfl⟩) rfl
    · have h1 := dep_lt S.chk.fwd h
      have h2 := hb x hxA
      simp only at h1
      omega
    · exact h b hbR hbx
  · have hc : ChOk mem0 (D ++ A.ch) := by rw [hD]; have := S.ch; rw [hE] at this; exact this.suffix
    rw [← hD]
    refine hc.same b fun x hx hbx => ?_
    have hxC : x ∈ C := by rw [← hD]; exact List.mem_append_left _ hx
    have hxZ : x ∈ Z.ch := by rw [hE]; exact List.mem_append_right _ hxC
    have hiq : i ≤ x.q := by
      refine hq x ?_
      rw [hE'] at hxZ
      rcases List.mem_append.1 hxZ with h | h
      · exact h
      · have h3 : ((D ++ A.ch).map (·.q)).Nodup := by
          rw [hD]; rw [hE, List.map_append] at hnd
          exact (List.nodup_append.1 hnd).2.1
        rw [List.map_append] at h3
        exact absurd rfl ((List.nodup_append.1 h3).2.2 _ (List.mem_map.2 ⟨x, hx, rfl⟩) _ (List.mem_map.2 ⟨x, h, rfl⟩))
    obtain ⟨_, h | h | h⟩ := S.chk.ndCh hR hxZ
    · have h1 := dep_lt S.chk.fwd h
      simp only at h1
      omega
    · have h1 := inv.dep h ((inv.lk x hxZ).2 hxC)
      rw [ready_not hi] at h1; cases h1
    · exact h b hbR hbx
theorem listed_mono {s : Nat} (hi : i ∈ Region.ready .any l.toArray listed) (hs : listed.size = l.length) (hu : ∀ j, wrs l j s = true → (listed.setIfInBounds i true).getD j false = false) : wrs l i s = false ∧ ∀ j, wrs l j s = true → listed.getD j false = false := by
  obtain ⟨_, oi, hoi, _⟩ := mem_ready.1 hi
  have hil : i < l.length := by have := (Array.getElem?_eq_some_iff.1 hoi).1; simpa using this
  refine ⟨?_, fun j hj => ?_⟩
  · cases hw : wrs l i s with
    | false => rfl
    | true =>
      have := hu i hw
      rw [(listed_set (by rw [hs]; exact hil)).2 (.inl rfl)] at this; cases this
  · have := hu j hj
    cases hl : listed.getD j false with
    | false => rfl
    | true => rw [getD_set_true hl] at this; cases this
theorem Chk.alOld (h : Chk l ow base Z) {x : Nat × Nat × M} (hx : x ∈ Z.al) : look x.2.1 ow = none := by
  have := List.all_eq_true.1 h.alow x hx; simpa using this
theorem Chk.fsW (h : Chk l ow base Z) {x : Nat × List (Nat × D)} {e : Nat × D} (hx : x ∈ Z.fs) (he : e ∈ x.2) : wrs l x.1 e.1 = true ∨ look e.1 ow = none := by
  have h1 := List.all_eq_true.1 (List.all_eq_true.1 h.wrf x hx) e he
  simp only [Bool.or_eq_true] at h1
  rcases h1 with h1 | h1
  · exact .inl h1
  · obtain ⟨y, hy, h2⟩ := List.any_eq_true.1 h1
    have := Nat.eq_of_beq_eq_true h2
    rw [← this]
    exact .inr (h.alOld hy)
theorem InvX.bs (inv : InvX l w0 I0 nb0 sz ow base mem0 Z listed C gs ρ I a w) (hi : i ∈ Region.ready .any l.toArray listed) {s : Nat} {d : D} (h : look s (bsAt l ow base i) = some d) : RA ρ (curNb nb0 C) I w d (a.tmps.getD s undef) := by
  rcases look_or h with h | ⟨_, h⟩
  · rw [look_filter] at h
    cases hp : pOld l i s with
    | false => rw [hp] at h; cases h
    | true =>
      rw [hp] at h
      refine inv.old s d h fun j hj => ?_
      cases hl : listed.getD j false with
      | false => rfl
      | true => have := inv.dep (pOld_dep hp hj) hl; rw [ready_not hi] at this; cases this
  · exact inv.g.tmp s d h
theorem step_pure {t : Nat} (hoil : l[i]? = some o) (S : Sta P l sz ow base nb0 mem0 Z) (inv : InvX l w0 I0 nb0 sz ow base mem0 Z listed C gs ρ I a w) (hi : i ∈ Region.ready .any l.toArray listed) (hdst : o.dst = some t) (ht : t < sz) {d : D} {R : List Nat} (hx : (i, [(t, d)]) ∈ Z.fs) (hn : (i, R) ∈ Z.nd) {v : Value} {w' : World} {I' : Nat → Prop} (he : Ext I w I' w') (hv : RA ρ (curNb nb0 C) I' w' d v) :
    InvX l w0 I0 nb0 sz ow base mem0 Z (listed.setIfInBounds i true) C gs ρ I' (a.put o.dst v) w' := by
  have hnot := ready_not hi
  have ge := inv.g.ext he
  have htb : look t base = none := S.chk.notBase (e := (t, d)) hx (by simp)
  have hne : ∀ x ∈ Z.ch, x.q ≠ i := fun x hx' e => (S.chk.ndCh hn hx').1 e.symm
  have ndfs := nodupB_nodup S.chk.nfs
  rw [hdst]
  refine ⟨by simp [inv.size], inv.closed' hi, inv.suf, fun x hx' => ?_, ?_, fun x hx' hl e he' => ?_, fun s e hs hu => ?_, fun hC x hx' hl => ?_, fun hC x hx' y hy hlx hly => ?_⟩
  · rw [getD_set_ne false (hne x hx').symm]; exact inv.lk x hx'
  · refine ⟨ge.later, ge.lt, ge.base, ge.old, ge.defers, by simp [Act.put]; exact ge.sz, fun s e hs => ?_, ge.mem, ge.inj⟩
    rw [put_other (fun h => by subst h; rw [htb] at hs; cases hs)]
    exact ge.tmp s e hs
  · by_cases hxi : x.1 = i
    · have := nodup_map_eq ndfs x hx' _ hx hxi
      subst this
      simp at he'
      subst he'
      rw [put_same (by rw [inv.g.sz]; exact ht)]
      exact hv
    · rw [getD_set_ne false (Ne.symm hxi)] at hl
      have hne2 : e.1 ≠ t := fun h => by
        have := (flat_same S.chk.slotsN x hx' _ hx e he' (t, d) (by simp) h).1
        rw [this] at hxi; exact hxi rfl
      rw [put_other hne2]
      exact (inv.facts x hx' hl e he').ext (Nat.le_refl _) inv.g.lt he
  · obtain ⟨h1, h2⟩ := listed_mono hi inv.size hu
    rw [put_other (fun h => by subst h; rw [wrs_of hoil hdst] at h1; cases h1)]
    exact (inv.old s e hs h2).ext (Nat.le_refl _) inv.g.lt he
  · have h1 := (S.chk.alNd hx').1 _ hn
    rw [getD_set_ne false h1] at hl
    have hne2 : x.2.1 ≠ t := fun h => by
      rcases S.chk.alSl hx' hx with h2 | ⟨c, hc, h2⟩
      · exact h2 (t, d) (by simp) h.symm
      · exact hne c hc h2
    rw [put_other hne2]
    exact (inv.al hC x hx' hl).ext he
  · have h1 := (S.chk.alNd hx').1 _ hn
    have h2 := (S.chk.alNd hy).1 _ hn
    rw [getD_set_ne false h1] at hlx
    rw [getD_set_ne false h2] at hly
    exact inv.inj hC x hx' y hy hlx hly
end
end Go.Proofs.Ytifapodobhkdcaa
