/- The abstract machine: weakening, rows that are no more written to, the frame of a function (no program in sight). -/
import Derived.Test.YtifapodobhkdcaaAbsE
namespace Go.Proofs.Ytifapodobhkdcaa
open Go.RowKit
set_option linter.unusedVariables false
set_option linter.unusedSimpArgs false
section
variable {P : Program} {w0 : World} {I0 : Nat → Prop} {ρ : Rho} {I : Nat → Prop} {a : Act} {w w' : World}
variable {nb nb' sz : Nat} {tmp tmp' : List (Nat × D)} {mem mem' : List (Nat × Option M)} {t : Nat} {σ : Nat → Nat}
/-! ### weakening, with the rows' numbers dealt anew -/
def Ren (σ : Nat → Nat) (nb' : Nat) (d' d : D) : Prop := ∀ ρ nb I w v, RA ρ nb I w d v → RA (fun b => ρ (σ b)) nb' I w d' v
theorem Ren.im {d : D} (h : d.ids (fun _ => false) = true) : Ren σ nb' d d := fun ρ nb I w v hv => .im (hv.closed h)
theorem Ren.eq {d d' : D} (e : d = d') (h : d.ids (fun _ => false) = true) : Ren σ nb' d' d := e ▸ Ren.im h
theorem Ren.junk (d : D) : Ren σ nb' .junk d := fun ρ nb I w v hv => .im (.junk v)
theorem RC.nil_row {v : Value} (h : RC I w (.val (.slice none 0 0)) v) : RC I w (.row 0 []) v := by
  cases h
  exact .row (Nat.le_refl _) (Nat.zero_le _) (fun _ => rfl) (b := 0) (off := 0) (us := []) rfl (fun h => by simp at h) (fun j u hu => by simp at hu) (fun u hu => by simp at hu) (fun j d u hj => by simp at hj)
theorem Ren.nil : Ren σ nb' (.row 0 []) (.val (.slice none 0 0)) := fun ρ nb I w v hv => .im (hv.closed rfl).nil_row
theorem Ren.own {b b' n n' : Nat} (hb : Nat.blt b' nb' = true) (h : Nat.beq (σ b') b = true) (hn : n' = n) : Ren σ nb' (.own b' n') (.own b n) := fun ρ nb I w v hv => by
  have h := Nat.eq_of_beq_eq_true h
  subst h
  subst hn
  have hlt : b' < nb' := by simpa using hb
  generalize hx : D.own (σ b') n' = x at hv
  cases hv with
  | im h => subst hx; cases h
  | own hb' h0 => cases hx; exact RA.own (ρ := fun b => ρ (σ b)) (b := b') hlt h0
  | _ => cases hx
theorem Ren.ptr {b b' off off' : Nat} (hb : Nat.blt b' nb' = true) (h : Nat.beq (σ b') b = true) (hn : off' = off) : Ren σ nb' (.ptr b' off') (.ptr b off) := fun ρ nb I w v hv => by
  have h := Nat.eq_of_beq_eq_true h
  subst h
  subst hn
  have hlt : b' < nb' := by simpa using hb
  generalize hx : D.ptr (σ b') off' = x at hv
  cases hv with
  | im h => subst hx; cases h
  | ptr hb' h0 => cases hx; exact RA.ptr (ρ := fun b => ρ (σ b)) (b := b') hlt h0
  | _ => cases hx
def RenL (σ : Nat → Nat) (nb' : Nat) (xs' xs : List D) : Prop := xs'.length = xs.length ∧ ∀ (j : Nat) (d' d : D), xs'[j]? = some d' → xs[j]? = some d → Ren σ nb' d' d
theorem RenL.nil : RenL σ nb' [] [] := ⟨rfl, fun j d' d h => by simp at h⟩
theorem RenL.cons {d d' : D} {xs xs' : List D} (h : Ren σ nb' d' d) (k : RenL σ nb' xs' xs) : RenL σ nb' (d' :: xs') (d :: xs) := ⟨by simp [k.1], fun j e' e h1 h2 => by
  cases j with
  | zero => simp at h1 h2; subst h1; subst h2; exact h
  | succ j => exact k.2 j e' e (by simpa using h1) (by simpa using h2)⟩
theorem RenL.im {xs xs' : List D} (e : xs' = xs) (h : D.idsL (fun _ => false) xs' = true) : RenL σ nb' xs' xs := by
  subst e
  exact ⟨rfl, fun j d' d h1 h2 => by rw [h1] at h2; cases h2; exact Ren.im (idsL_mem h j _ h1)⟩
theorem Ren.agg {xs xs' : List D} (k : RenL σ nb' xs' xs) : Ren σ nb' (.agg xs') (.agg xs) := fun ρ nb I w v hv => by
  obtain ⟨us, rfl, h1, h2, h3⟩ := hv.cells
  exact .agg (by rw [k.1, h1]) h2 fun j d' u hd hu => by
    obtain ⟨d, hd'⟩ : ∃ d, xs[j]? = some d := ⟨_, List.getElem?_eq_getElem (by rw [← k.1]; exact (List.getElem?_eq_some_iff.1 hd).1)⟩
    exact k.2 j d' d hd hd' _ _ _ _ _ (h3 j d u hd' hu)
inductive WkT (σ : Nat → Nat) (nb' : Nat) (tmp : List (Nat × D)) : List (Nat × D) → Prop
  | nil : WkT σ nb' tmp []
  | cons {t : Nat} {d d' : D} {l : List (Nat × D)} (h : look t tmp = some d) (r : Ren σ nb' d' d) (k : WkT σ nb' tmp l) : WkT σ nb' tmp ((t, d') :: l)
inductive WkM (σ : Nat → Nat) (nb' : Nat) (mem : List (Nat × Option M)) : List (Nat × Option M) → Prop
  | nil : WkM σ nb' mem []
  | cons {b size n n' : Nat} {ty : TypeId} {xs xs' : List D} {l : List (Nat × Option M)} (hb : Nat.blt b nb' = true) (h : getM (σ b) mem = some ⟨ty, size, n, xs⟩) (hn : n' = n) (r : RenL σ nb' xs' xs) (k : WkM σ nb' mem l) : WkM σ nb' mem ((b, some ⟨ty, size, n', xs'⟩) :: l)
theorem WkT.look {l : List (Nat × D)} (h : WkT σ nb' tmp l) {d' : D} (hl : look t l = some d') : ∃ d, Go.Proofs.Ytifapodobhkdcaa.look t tmp = some d ∧ Ren σ nb' d' d := by
  induction h with
  | nil => cases hl
  | cons h r k ih =>
    rename_i s d e l'
    have hl' : cond (Nat.beq s t) (some e) (Go.Proofs.Ytifapodobhkdcaa.look t l') = some d' := hl
    cases hb : Nat.beq s t with
    | true => rw [hb] at hl'; cases hl'; have := Nat.eq_of_beq_eq_true hb; subst this; exact ⟨d, h, r⟩
    | false => rw [hb] at hl'; exact ih hl'
theorem WkM.get {l : List (Nat × Option M)} (h : WkM σ nb' mem l) {b : Nat} {m' : M} (hl : getM b l = some m') : b < nb' ∧ b ∈ l.map Prod.fst ∧ ∃ m, getM (σ b) mem = some m ∧ m'.ty = m.ty ∧ m'.size = m.size ∧ m'.n = m.n ∧ RenL σ nb' m'.xs m.xs := by
  induction h with
  | nil => cases hl
  | cons hb h hn r k ih =>
    rename_i b' size n n' ty xs xs' l'
    have hl' : cond (Nat.beq b' b) (some ⟨ty, size, n', xs'⟩) (getM b l') = some m' := hl
    cases hb' : Nat.beq b' b with
    | true => rw [hb'] at hl'; cases hl'; have := Nat.eq_of_beq_eq_true hb'; subst this; exact ⟨by simpa using hb, by simp, _, h, rfl, rfl, hn, r⟩
    | false => rw [hb'] at hl'; obtain ⟨h1, h2, h3⟩ := ih hl'; exact ⟨h1, by simp only [List.map_cons, List.mem_cons]; exact .inr h2, h3⟩
def nodupB : List Nat → Bool
  | [] => true
  | x :: l => l.all (fun y => !Nat.beq x y) && nodupB l
theorem nodupB_inj {α : Type} {f : α → Nat} {g : α → Nat} : ∀ {l : List α}, nodupB (l.map fun e => σ (f e)) = true → ∀ x ∈ l.map f, ∀ y ∈ l.map f, σ x = σ y → x = y
  | [], _, x, hx, _, _, _ => by simp at hx
  | e :: l, h, x, hx, y, hy, hxy => by
    simp only [List.map_cons, nodupB, Bool.and_eq_true, List.all_eq_true, Bool.not_eq_true'] at h
    obtain ⟨h1, h2⟩ := h
    have key : ∀ z ∈ l.map f, σ (f e) ≠ σ z := fun z hz hh => by
      obtain ⟨u, hu, rfl⟩ := List.mem_map.1 hz
      have := h1 (σ (f u)) (List.mem_map.2 ⟨u, hu, rfl⟩)
      rw [hh] at this
      simp at this
    rcases List.mem_cons.1 hx with rfl | hx <;> rcases List.mem_cons.1 hy with rfl | hy
    · rfl
    · exact absurd hxy (key y hy)
    · exact absurd hxy.symm (key x hx)
    · exact nodupB_inj (g := g) h2 x hx y hy hxy
theorem Wk.mk (σ : Nat → Nat) (h1 : WkT σ nb' tmp tmp') (h2 : WkM σ nb' mem mem') (h3 : nodupB (mem'.map fun e => σ e.1) = true) : Wk ⟨nb, sz, tmp, mem⟩ ⟨nb', sz, tmp', mem'⟩ := fun w0 I0 ρ I a w g => by
  refine ⟨fun b => ρ (σ b), I, ⟨g.later, g.lt, g.base, g.old, g.defers, g.sz, fun t d' ht => ?_, fun b m' hb => ?_, fun b m b' m1 hb hb' k c c' hk hk' => ?_⟩⟩
  · obtain ⟨d, hd, r⟩ := h1.look ht
    exact r _ _ _ _ _ (g.tmp t d hd)
  · obtain ⟨hlt, _, m, hm, e1, e2, e3, r⟩ := h2.get hb
    obtain ⟨_, ⟨us, ho, hx⟩, hn⟩ := (g.mem (σ b) m hm).parts
    refine MemOk.mk' (us := us) hlt (by rw [e1, e2, e3]; exact ho) ⟨by rw [r.1, hx.1], hx.2.1, fun j d' u hd hu => ?_⟩ hn
    obtain ⟨d, hd'⟩ : ∃ d, m.xs[j]? = some d := ⟨_, List.getElem?_eq_getElem (by rw [← r.1]; exact (List.getElem?_eq_some_iff.1 hd).1)⟩
    exact r.2 j d' d hd hd' _ _ _ _ _ (hx.2.2 j d u hd' hu)
  · obtain ⟨_, hb1, n1, hn1, _⟩ := h2.get hb
    obtain ⟨_, hb2, n2, hn2, _⟩ := h2.get hb'
    exact nodupB_inj (σ := σ) (f := Prod.fst) (g := Prod.fst) h3 b hb1 b' hb2 (g.inj (σ b) n1 (σ b') n2 hn1 hn2 k c c' hk hk')
theorem set_same {α : Type} {l : List α} {j : Nat} {u : α} (h : l[j]? = some u) : l.set j u = l := by
  apply List.ext_getElem?
  intro i
  rw [List.getElem?_set]
  by_cases hij : j = i
  · subst hij; rw [if_pos rfl, if_pos (List.getElem?_eq_some_iff.1 h).1, h]
  · rw [if_neg hij]
/-! ### a nil slice as a row of the call's own -/
theorem G.know (g : G w0 I0 ⟨nb, sz, tmp, mem⟩ ρ I a w) {d : D} (h : RA ρ nb I w d (a.tmps.getD t undef)) : G w0 I0 ⟨nb, sz, (t, d) :: tmp, mem⟩ ρ I a w :=
  ⟨g.later, g.lt, g.base, g.old, g.defers, g.sz, fun s e hs => by
    have hs' : cond (Nat.beq t s) (some d) (look s tmp) = some e := hs
    cases hb : Nat.beq t s with
    | true => rw [hb] at hs'; cases hs'; have := Nat.eq_of_beq_eq_true hb; subst this; exact h
    | false => rw [hb] at hs'; exact g.tmp s e hs', g.mem, g.inj⟩
theorem G.recell (g : G w0 I0 ⟨nb, sz, tmp, mem⟩ ρ I a w) {c : Nat} {m : M} {xs' : List D} (hm : getM c mem = some m) (h : ∀ us, AllRA ρ nb I w m.xs us → AllRA ρ nb I w xs' us) : G w0 I0 ⟨nb, sz, tmp, (c, some ⟨m.ty, m.size, m.n, xs'⟩) :: mem⟩ ρ I a w := by
  have hmem : ∀ b' m', getM b' ((c, some ⟨m.ty, m.size, m.n, xs'⟩) :: mem) = some m' → (b' = c ∧ m' = ⟨m.ty, m.size, m.n, xs'⟩) ∨ getM b' mem = some m' := by
    intro b' m' h
    have h' : cond (Nat.beq c b') (some ⟨m.ty, m.size, m.n, xs'⟩) (getM b' mem) = some m' := h
    cases hb : Nat.beq c b' with
    | true => rw [hb] at h'; cases h'; exact .inl ⟨(Nat.eq_of_beq_eq_true hb).symm, rfl⟩
    | false => rw [hb] at h'; exact .inr h'
  refine ⟨g.later, g.lt, g.base, g.old, g.defers, g.sz, g.tmp, fun b' m' hm' => ?_, fun b1 m1 b2 m2 h1 h2 => ?_⟩
  · rcases hmem b' m' hm' with ⟨rfl, rfl⟩ | h'
    · obtain ⟨h1, ⟨us, ho, hx⟩, hn⟩ := (g.mem b' m hm).parts
      exact MemOk.mk' h1 (us := us) ho (h us hx) hn
    · exact g.mem b' m' h'
  · have e1 : ∃ m, getM b1 mem = some m := by
      rcases hmem b1 m1 h1 with ⟨rfl, _⟩ | h
      · exact ⟨m, hm⟩
      · exact ⟨_, h⟩
    have e2 : ∃ m, getM b2 mem = some m := by
      rcases hmem b2 m2 h2 with ⟨rfl, _⟩ | h
      · exact ⟨m, hm⟩
      · exact ⟨_, h⟩
    obtain ⟨n1, e1⟩ := e1
    obtain ⟨n2, e2⟩ := e2
    exact g.inj b1 n1 b2 n2 e1 e2
theorem G.void (g : G w0 I0 ⟨nb, sz, tmp, mem⟩ ρ I a w) (e : TypeId) (size : Nat) : G w0 I0 ⟨nb + 1, sz, tmp, (nb, some ⟨e, size, 0, []⟩) :: mem⟩ (upd ρ nb none) I a w :=
  g.renew ⟨e, size, 0, []⟩ mem none none (us := []) (grown_refl w none) (fun k hk => by cases hk) (fun b m h => ⟨h, fun k c _ hh => by cases hh⟩) (fun b m k c c' h hk hk' => by cases hk') (fun k c hk => by cases hk) (World.ownsRow_nil _ _ _ _) ⟨rfl, fun u hu => by simp at hu, fun j d u hj => by simp at hj⟩
theorem void_own (ρ : Rho) (nb : Nat) (I : Nat → Prop) (w : World) : RA (upd ρ nb none) (nb + 1) I w (.own nb 0) (.slice none 0 0) := by
  have h := RA.own (ρ := upd ρ nb none) (nb := nb + 1) (I := I) (w := w) (b := nb) (n := 0) (Nat.lt_succ_self _) (fun _ => rfl)
  rw [upd_same] at h
  exact h
theorem Wk.adoptT (t : Nat) (e : TypeId) (size : Nat) (h : look t tmp = some (.val (.slice none 0 0))) : Wk ⟨nb, sz, tmp, mem⟩ ⟨nb + 1, sz, (t, .own nb 0) :: tmp, (nb, some ⟨e, size, 0, []⟩) :: mem⟩ := fun w0 I0 ρ I a w g =>
  ⟨_, I, (g.void e size).know (by rw [(g.tmp t _ h).val_eq]; exact void_own ρ nb I w)⟩
theorem Wk.adoptM (c j : Nat) (e : TypeId) (size : Nat) {m : M} (hm : getM c mem = some m) (h : m.xs[j]? = some (.val (.slice none 0 0))) : Wk ⟨nb, sz, tmp, mem⟩ ⟨nb + 1, sz, tmp, (c, some ⟨m.ty, m.size, m.n, m.xs.set j (.own nb 0)⟩) :: (nb, some ⟨e, size, 0, []⟩) :: mem⟩ := fun w0 I0 ρ I a w g => by
  have hc : c < nb := (g.mem c m hm).parts.1
  have hne : Nat.beq nb c = false := by
    cases hb : Nat.beq nb c with
    | true => have := Nat.eq_of_beq_eq_true hb; omega
    | false => rfl
  refine ⟨_, I, (g.void e size).recell (c := c) (m := m) (by show cond (Nat.beq nb c) _ _ = _; rw [hne]; exact hm) fun us hx => ?_⟩
  obtain ⟨u, hu⟩ : ∃ u, us[j]? = some u := ⟨_, List.getElem?_eq_getElem (by rw [← hx.1]; exact (List.getElem?_eq_some_iff.1 h).1)⟩
  have hv := (hx.2.2 j _ u h hu).val_eq
  subst hv
  have := hx.set j (void_own ρ nb I w) rfl
  have e2 : us.set j (.slice none 0 0) = us := set_same hu
  rw [e2] at this
  exact this
/-! ### a row that is no more written to -/
theorem G.freeze (g : G w0 I0 ⟨nb, sz, tmp, mem⟩ ρ I a w) {b : Nat} {m : M} (hm : getM b mem = some m) (hc : D.idsL (fun _ => false) m.xs = true) : ∃ I', G w0 I0 ⟨nb, sz, tmp, (b, none) :: mem⟩ ρ I' a w ∧ (∀ b, I b → I' b) ∧
    (∀ v, RA ρ nb I' w (.own b m.n) v → RA ρ nb I' w (.row m.n m.xs) v) ∧ (∀ off v, RA ρ nb I' w (.ptr b off) v → RA ρ nb I' w (.obj (m.xs.drop off)) v) := by
  obtain ⟨hb, ⟨us, ho, hx⟩, hn⟩ := (g.mem b m hm).parts
  have hsub : ∀ b1 m1, getM b1 ((b, none) :: mem) = some m1 → b1 ≠ b ∧ getM b1 mem = some m1 := fun b1 m1 h => by
    have h' : cond (Nat.beq b b1) none (getM b1 mem) = some m1 := h
    cases hbb : Nat.beq b b1 with
    | true => rw [hbb] at h'; cases h'
    | false => rw [hbb] at h'; exact ⟨fun e => Nat.ne_of_beq_eq_false hbb e.symm, h'⟩
  have hI : ∀ k, I k → (fun k => I k ∨ ∃ c, ρ b = some (k, c)) k := fun k h => .inl h
  have hmv : ∀ d v, RA ρ nb I w d v → RA ρ nb (fun k => I k ∨ ∃ c, ρ b = some (k, c)) w d v := fun d v h => h.move (Nat.le_refl _) hI (fun _ _ => rfl)
  have hcl : ∀ (j : Nat) (d : D) (u : Value), m.xs[j]? = some d → us[j]? = some u → RC (fun k => I k ∨ ∃ c, ρ b = some (k, c)) w d u := fun j d u h1 h2 => (hmv _ _ (hx.2.2 j d u h1 h2)).closed (idsL_mem hc j d h1)
  refine ⟨fun k => I k ∨ ∃ c, ρ b = some (k, c), ⟨g.later, fun k hk => ?_, fun k hk => ?_, fun k hk => .inl (g.old k hk), g.defers, g.sz, fun t d h => hmv _ _ (g.tmp t d h), fun b1 m1 h => ?_, fun b1 m1 b2 m2 h1 h2 => g.inj b1 m1 b2 m2 (hsub _ _ h1).2 (hsub _ _ h2).2⟩, hI, fun v hv => ?_, fun off v hv => ?_⟩
  · rcases hk with h | ⟨c, h⟩
    · exact g.lt k h
    · exact ((g.mem b m hm).lt h).2
  · rcases hk with h | ⟨c, h⟩
    · exact g.base k h
    · exact .inr ((g.mem b m hm).lt h).1
  · obtain ⟨hne, h1⟩ := hsub b1 m1 h
    obtain ⟨h3, ⟨vs, ho', hx'⟩, hn'⟩ := (g.mem b1 m1 h1).parts
    refine MemOk.mk' h3 (us := vs) ho' ⟨hx'.1, hx'.2.1, fun j d u a b => hmv _ _ (hx'.2.2 j d u a b)⟩ fun k c hk hI' => ?_
    rcases hI' with h | ⟨c', h⟩
    · exact hn' k c hk h
    · exact hne (g.inj b1 m1 b m h1 hm _ _ _ hk h)
  · cases hv with
    | im h => cases h
    | own hb' h0 =>
      refine .im ?_
      cases hρ : ρ b with
      | none =>
        have hz := h0 hρ
        rw [hρ] at ho
        have hu : us = [] := List.eq_nil_of_length_eq_zero (by have := ho.1; rw [hz] at this; simpa using this)
        subst hu
        have hxs : m.xs = [] := List.eq_nil_of_length_eq_zero hx.1
        rw [hxs, hz]
        exact (RC.val (.slice none 0 0) rfl).nil_row
      | some gc =>
        obtain ⟨gb, cap⟩ := gc
        rw [hρ] at ho
        simp only [hρ] at hcl
        rcases ho.2 with ⟨h', _⟩ | ⟨g', cap', cur, h', _, _, hnc, hcm, _, _⟩
        · simp [sv] at h'
        · simp only [sv, Value.slice.injEq, Option.some.injEq, Addr.mk.injEq, and_true, true_and] at h'
          obtain ⟨rfl, rfl⟩ := h'
          exact .row hnc hcm (fun h => by cases h) (us := us) hx.1 (fun _ => ⟨rfl, .inr ⟨cap, rfl⟩⟩) (ownsRow_lies ho) hx.2.1 hcl
  · cases hv with
    | im h => cases h
    | ptr hb' hρ =>
      rename_i gb cap
      rw [hρ] at ho
      have hl := (ownsRow_lies ho).drop off
      rw [Nat.zero_add] at hl
      exact .im (.obj (.inr ⟨cap, hρ⟩) (us := us.drop off) (by simp [hx.1]) hl (fun u hu => hx.2.1 u (List.mem_of_mem_drop hu)) fun j d u h1 h2 => hcl (off + j) d u (by simpa using h1) (by simpa using h2))
def frz (b : Nat) (m : M) : D → D
  | .own b' n => cond (Nat.beq b' b && Nat.beq n m.n) (.row n m.xs) (.own b' n)
  | .ptr b' off => cond (Nat.beq b' b) (.obj (m.xs.drop off)) (.ptr b' off)
  | d => d
theorem frz_ok {b : Nat} {m : M} (h1 : ∀ v, RA ρ nb I w (.own b m.n) v → RA ρ nb I w (.row m.n m.xs) v) (h2 : ∀ off v, RA ρ nb I w (.ptr b off) v → RA ρ nb I w (.obj (m.xs.drop off)) v) {d : D} {v : Value} (h : RA ρ nb I w d v) : RA ρ nb I w (frz b m d) v := by
  cases d with
  | own b' n =>
    simp only [frz]
    cases hb : (Nat.beq b' b && Nat.beq n m.n) with
    | false => exact h
    | true =>
      simp only [Bool.and_eq_true] at hb
      have e1 := Nat.eq_of_beq_eq_true hb.1
      have e2 := Nat.eq_of_beq_eq_true hb.2
      subst e1; subst e2; exact h1 v h
  | ptr b' off =>
    simp only [frz]
    cases hb : Nat.beq b' b with
    | false => exact h
    | true => have e1 := Nat.eq_of_beq_eq_true hb; subst e1; exact h2 off v h
  | _ => exact h
theorem look_map {f : D → D} {t : Nat} : ∀ {l : List (Nat × D)} {d : D}, look t (l.map fun e => (e.1, f e.2)) = some d → ∃ e, look t l = some e ∧ d = f e
  | [], _, h => by cases h
  | e :: l, d, h => by
    have h' : cond (Nat.beq e.1 t) (some (f e.2)) (look t (l.map fun e => (e.1, f e.2))) = some d := h
    cases hb : Nat.beq e.1 t with
    | true => rw [hb] at h'; cases h'; exact ⟨e.2, by show cond (Nat.beq e.1 t) _ _ = _; rw [hb]; rfl, rfl⟩
    | false => rw [hb] at h'; obtain ⟨x, h1, h2⟩ := look_map (show look t (l.map fun e => (e.1, f e.2)) = some d from h'); exact ⟨x, by show cond (Nat.beq e.1 t) _ _ = _; rw [hb]; exact h1, h2⟩
theorem Wk.freeze (b : Nat) {m : M} (hm : getM b mem = some m) (hc : D.idsL (fun _ => false) m.xs = true) : Wk ⟨nb, sz, tmp, mem⟩ ⟨nb, sz, tmp.map fun e => (e.1, frz b m e.2), (b, none) :: mem⟩ := fun w0 I0 ρ I a w g => by
  obtain ⟨I', g', hI, h1, h2⟩ := g.freeze hm hc
  refine ⟨ρ, I', ⟨g'.later, g'.lt, g'.base, g'.old, g'.defers, g'.sz, fun t d h => ?_, g'.mem, g'.inj⟩⟩
  obtain ⟨e, he, rfl⟩ := look_map h
  exact frz_ok h1 h2 (g'.tmp t e he)
/-- the row that a cell of another row holds -/
theorem Wk.freezeM (c j b : Nat) {m mc : M} (hm : getM b mem = some m) (hc : D.idsL (fun _ => false) m.xs = true) (hmc : getM c mem = some mc) (hj : mc.xs[j]? = some (.own b m.n)) (hne : Nat.beq b c = false) :
    Wk ⟨nb, sz, tmp, mem⟩ ⟨nb, sz, tmp.map fun e => (e.1, frz b m e.2), (c, some ⟨mc.ty, mc.size, mc.n, mc.xs.set j (.row m.n m.xs)⟩) :: (b, none) :: mem⟩ := fun w0 I0 ρ I a w g => by
  obtain ⟨I', g', hI, h1, h2⟩ := g.freeze hm hc
  have g2 : G w0 I0 ⟨nb, sz, tmp.map fun e => (e.1, frz b m e.2), (b, none) :: mem⟩ ρ I' a w := ⟨g'.later, g'.lt, g'.base, g'.old, g'.defers, g'.sz, fun t d h => by
    obtain ⟨e, he, rfl⟩ := look_map h
    exact frz_ok h1 h2 (g'.tmp t e he), g'.mem, g'.inj⟩
  refine ⟨ρ, I', g2.recell (c := c) (m := mc) (by show cond (Nat.beq b c) _ _ = _; rw [hne]; exact hmc) fun us hx => ?_⟩
  obtain ⟨u, hu⟩ : ∃ u, us[j]? = some u := ⟨_, List.getElem?_eq_getElem (by rw [← hx.1]; exact (List.getElem?_eq_some_iff.1 hj).1)⟩
  have := hx.set j (h1 u (hx.2.2 j _ u hj hu)) (hx.2.1 u (List.mem_of_getElem? hu))
  have e2 : us.set j u = us := set_same hu
  rw [e2] at this
  exact this
/-! ### the frame of a function -/
inductive ResV (P : Program) (S : St) : List ResultVar → List D → Prop
  | nil : ResV P S [] []
  | tmp {t : Nat} {d : D} {l : List ResultVar} {ds : List D} (h : look t S.tmp = some d) (k : ResV P S l ds) : ResV P S (.tmp t :: l) (d :: ds)
  | cell {t : Nat} {T : TypeId} {p d : D} {ys : List D} {l : List ResultVar} {ds : List D} [hT : TyCell P T] (h : look t S.tmp = some p) (hc : cellsD S.mem p = some (d :: ys)) (k : ResV P S l ds) : ResV P S (.cell t T :: l) (d :: ds)
  | agg {t n : Nat} {T : TypeId} {p : D} {ys zs : List D} {l : List ResultVar} {ds : List D} [hT : TyAgg P T n] (h : look t S.tmp = some p) (hc : cellsD S.mem p = some ys) (hz : ys.take n = zs) (hl : zs.length = n) (k : ResV P S l ds) : ResV P S (.cell t T :: l) (.agg zs :: ds)
theorem ResV.agg1 {S : St} {t : Nat} {T : TypeId} {p e1 : D} {ys : List D} {l : List ResultVar} {ds : List D} [hT : TyAgg P T 1] (h : look t S.tmp = some p) (hc : cellsD S.mem p = some (e1 :: ys)) (k : ResV P S l ds) : ResV P S (.cell t T :: l) (.agg [e1] :: ds) := .agg h hc rfl rfl k
theorem ResV.agg2 {S : St} {t : Nat} {T : TypeId} {p e1 e2 : D} {ys : List D} {l : List ResultVar} {ds : List D} [hT : TyAgg P T 2] (h : look t S.tmp = some p) (hc : cellsD S.mem p = some (e1 :: e2 :: ys)) (k : ResV P S l ds) : ResV P S (.cell t T :: l) (.agg [e1, e2] :: ds) := .agg h hc rfl rfl k
theorem ResV.agg3 {S : St} {t : Nat} {T : TypeId} {p e1 e2 e3 : D} {ys : List D} {l : List ResultVar} {ds : List D} [hT : TyAgg P T 3] (h : look t S.tmp = some p) (hc : cellsD S.mem p = some (e1 :: e2 :: e3 :: ys)) (k : ResV P S l ds) : ResV P S (.cell t T :: l) (.agg [e1, e2, e3] :: ds) := .agg h hc rfl rfl k
theorem ResV.agg4 {S : St} {t : Nat} {T : TypeId} {p e1 e2 e3 e4 : D} {ys : List D} {l : List ResultVar} {ds : List D} [hT : TyAgg P T 4] (h : look t S.tmp = some p) (hc : cellsD S.mem p = some (e1 :: e2 :: e3 :: e4 :: ys)) (k : ResV P S l ds) : ResV P S (.cell t T :: l) (.agg [e1, e2, e3, e4] :: ds) := .agg h hc rfl rfl k
def tupD : List D → D
  | [d] => d
  | ds => .tup ds
/-- whatever reads as d reads as r -/
def Sub (d r : D) : Prop := ∀ ρ nb I w v, RA ρ nb I w d v → RC I w r v
theorem Sub.im {d : D} (h : d.ids (fun _ => false) = true) : Sub d d := fun ρ nb I w v hv => hv.closed h
theorem Sub.eq {d r : D} (e : d = r) (h : r.ids (fun _ => false) = true) : Sub d r := by subst e; exact Sub.im h
theorem Sub.nil : Sub (.val (.slice none 0 0)) (.row 0 []) := fun ρ nb I w v hv => (hv.closed rfl).nil_row
def SubL (xs ys : List D) : Prop := ys.length = xs.length ∧ ∀ (j : Nat) (d r : D), xs[j]? = some d → ys[j]? = some r → Sub d r
theorem SubL.nil : SubL [] [] := ⟨rfl, fun j d r h => by simp at h⟩
theorem SubL.cons {d r : D} {xs ys : List D} (h : Sub d r) (k : SubL xs ys) : SubL (d :: xs) (r :: ys) := ⟨by simp [k.1], fun j e s h1 h2 => by
  cases j with
  | zero => simp at h1 h2; subst h1; subst h2; exact h
  | succ j => exact k.2 j e s (by simpa using h1) (by simpa using h2)⟩
theorem Sub.tup {xs ys : List D} (k : SubL xs ys) : Sub (.tup xs) (.tup ys) := fun ρ nb I w v hv => by
  obtain ⟨us, rfl, h1, h3⟩ := hv.parts
  exact .tup (by rw [k.1, h1]) fun j r u hr hu => by
    obtain ⟨d, hd⟩ : ∃ d, xs[j]? = some d := ⟨_, List.getElem?_eq_getElem (by rw [← k.1]; exact (List.getElem?_eq_some_iff.1 hr).1)⟩
    exact k.2 j d r hd hr _ _ _ _ _ (h3 j d u hd hu)
theorem Sub.agg {xs ys : List D} (k : SubL xs ys) : Sub (.agg xs) (.agg ys) := fun ρ nb I w v hv => by
  obtain ⟨us, rfl, h1, h2, h3⟩ := hv.cells
  exact .agg (by rw [k.1, h1]) h2 fun j r u hr hu => by
    obtain ⟨d, hd⟩ : ∃ d, xs[j]? = some d := ⟨_, List.getElem?_eq_getElem (by rw [← k.1]; exact (List.getElem?_eq_some_iff.1 hr).1)⟩
    exact k.2 j d r hd hr _ _ _ _ _ (h3 j d u hd hu)
def kEnd0 (P : Program) (rs : List ResultVar) (r : D) : Exit → St → Prop
  | .normal, S | .ret, S => ∃ S' ds, Wk S S' ∧ ResV P S' rs ds ∧ Sub (tupD ds) r
  | _, _ => False
structure kEnd (P : Program) (rs : List ResultVar) (r : D) (e : Exit) (S : St) : Prop where
  h : kEnd0 P rs r e S
theorem kEnd_n {rs : List ResultVar} {r : D} {S S' : St} {ds : List D} (h : Wk S S') (h1 : ResV P S' rs ds) (h2 : Sub (tupD ds) r) : kEnd P rs r .normal S := ⟨⟨S', ds, h, h1, h2⟩⟩
theorem kEnd_r {rs : List ResultVar} {r : D} {S S' : St} {ds : List D} (h : Wk S S') (h1 : ResV P S' rs ds) (h2 : Sub (tupD ds) r) : kEnd P rs r .ret S := ⟨⟨S', ds, h, h1, h2⟩⟩
def resSem (tmps : Array Value) : ResultVar → Sem Value
  | .tmp t => pure (tmps.getD t undef)
  | .cell p t => do loadVar t (← asAddr (tmps.getD p undef))
theorem ResV.run {S : St} (g : G w0 I0 S ρ I a w) : ∀ {rs : List ResultVar} {ds : List D}, ResV P S rs ds → ∃ us : List Value, (rs.mapM (resSem a.tmps)).run P w = .ok us w ∧ ds.length = us.length ∧ ∀ (j : Nat) (d : D) (u : Value), ds[j]? = some d → us[j]? = some u → RA ρ S.nb I w d u
  | [], _, h => by cases h; exact ⟨[], by simp, rfl, fun j d u hj => by simp at hj⟩
  | .tmp t :: rs, _, h => by
    cases h with
    | tmp h k =>
      rename_i d ds
      obtain ⟨us, h1, h2, h3⟩ := k.run g
      refine ⟨a.tmps.getD t undef :: us, by simp [List.mapM_cons, resSem]; simp [h1], by simp [h2], fun j e u hj hu => ?_⟩
      cases j with
      | zero => simp at hj; simp only [List.getElem?_cons_zero, Option.some.injEq] at hu; subst hj; subst hu; exact g.tmp t _ h
      | succ j => exact h3 j e u (by simpa using hj) (by simpa using hu)
  | .cell t T :: rs, _, h => by
    cases h with
    | cell h hc k =>
      rename_i p d ys ds hT
      obtain ⟨us, h1, h2, h3⟩ := k.run g
      obtain ⟨b, off, vs, e1, e2, hl, _, hr⟩ := g.pointed (g.tmp t _ h) hc
      obtain ⟨u, us', rfl⟩ : ∃ u us', vs = u :: us' := by cases vs with | nil => simp at hl | cons u us' => exact ⟨u, us', rfl⟩
      have hcell : w.cell? ⟨b, off, none⟩ = some u := e2 0 u rfl
      obtain ⟨dd, hd1, hd2⟩ := hT.desc
      have hagg : (isAgg T).run P w = .ok false w := by
        unfold isAgg
        rw [Sem.run_bind, run_underlying hd1 w]
        cases dd <;> simp_all [aggDesc]
      have e1' : a.tmps[t]?.getD undef = .pointer (some ⟨b, off, none⟩) := by simpa using e1
      refine ⟨u :: us, by simp [List.mapM_cons, resSem]; simp [e1', asAddr, loadVar, hagg, run_load, hcell, h1], by simp [h2], fun j e v hj hu => ?_⟩
      cases j with
      | zero => simp at hj hu; subst hj; subst hu; exact hr 0 _ _ rfl rfl
      | succ j => exact h3 j e v (by simpa using hj) (by simpa using hu)
    | agg h hc hz hl0 k =>
      rename_i n p ys zs ds hT
      obtain ⟨us, h1, h2, h3⟩ := k.run g
      obtain ⟨b, off, vs, e1, e2, e3⟩ := g.pointed (g.tmp t _ h) hc
      obtain ⟨dd, hd1, hd2⟩ := hT.desc
      have h4 := e3.take n
      rw [hz] at h4
      have hlen : (vs.take n).length = n := by rw [← h4.1, hl0]
      have hr := run_loadVar_mid (P := P) w b off T (vs.take n) dd (e2.take n) hd1 (by cases dd <;> simp_all [aggDesc]) (by rw [hlen]; exact hT.size)
      have e1' : a.tmps[t]?.getD undef = .pointer (some ⟨b, off, none⟩) := by simpa using e1
      refine ⟨.agg (vs.take n).toArray :: us, by simp [List.mapM_cons, resSem]; simp [e1', asAddr, hr, h1], by simp [h2], fun j e v hj hu => ?_⟩
      cases j with
      | zero => simp only [List.getElem?_cons_zero, Option.some.injEq] at hj hu; subst hj; subst hu; exact .agg h4.1 h4.2.1 h4.2.2
      | succ j => exact h3 j e v (by simpa using hj) (by simpa using hu)
theorem results_run {S : St} {fn : Func} (g : G w0 I0 S ρ I a w) {ds : List D} (h : ResV P S fn.results.toList ds) : ∃ v, (results fn a.tmps).run P w = .ok v w ∧ RA ρ S.nb I w (tupD ds) v := by
  obtain ⟨us, h1, h2, h3⟩ := h.run g
  have hm : (fn.results.mapM (resSem a.tmps)).run P w = .ok us.toArray w := by
    rw [Array.mapM_eq_mapM_toList]
    simp only [Sem.run_map]
    rw [h1]; rfl
  unfold results
  rw [Sem.run_bind]
  refine ⟨if h : us.toArray.size = 1 then us.toArray[0] else .tuple us.toArray, ?_, ?_⟩
  · exact (congrArg (fun r => Result.andThen r _) hm).trans rfl
  · match ds, us, h2, h3 with
    | [], [], _, _ => exact .tup rfl fun j d u hj => by simp at hj
    | [d], [u], _, h3 => exact h3 0 d u rfl rfl
    | d :: e :: ds, u :: v :: us, h2, h3 => simp; exact .tup h2 h3
def slots : Nat → List D → List (Nat × D)
  | _, [] => []
  | i, d :: ds => (i, d) :: slots (i + 1) ds
theorem look_slots {t : Nat} : ∀ {ds : List D} {i : Nat} {d : D}, look t (slots i ds) = some d → i ≤ t ∧ ds[t - i]? = some d
  | [], i, d, h => by cases h
  | e :: ds, i, d, h => by
    have h' : cond (Nat.beq i t) (some e) (look t (slots (i + 1) ds)) = some d := h
    cases hb : Nat.beq i t with
    | true => rw [hb] at h'; cases h'; have := Nat.eq_of_beq_eq_true hb; subst this; simp
    | false =>
      rw [hb] at h'
      obtain ⟨h1, h2⟩ := look_slots (show look t (slots (i + 1) ds) = some d from h')
      refine ⟨by omega, ?_⟩
      rw [show t - i = (t - (i + 1)) + 1 by omega]
      simpa using h2
theorem DC.of {f sz : Nat} {fn : Func} {c : Code} {ds : List D} {r : D} {rs : List ResultVar} (hf : P.funcs[f]? = some fn) (hsz : fn.ntmps = sz) (hrs : fn.results = rs.toArray) (hb : fn.body = some c) (hn : (fn.name == "runtime.NumGoroutine") = false) (hs : Nat.ble ds.length sz = true)
    (h : C P c ⟨0, sz, slots 0 ds, []⟩ (kEnd P rs r)) : DC P f ds r := by
  subst hsz
  obtain rfl : rs = fn.results.toList := by rw [hrs]
  refine ⟨⟨fn, hf, hn, by rw [hb]; rfl⟩, fun w I vs hI hl hv => ?_⟩
  have hs := Nat.le_of_ble_eq_true hs
  refine calls_of_wp hf hb (h.h w I (fun _ => none) I _ w _ ?_ ?_)
  · refine ⟨Later.refl w, hI, fun b h => .inl h, fun b h => h, rfl, by simp; omega, fun t d ht => ?_, (fun b m h => by cases h), (fun b m b' m' h => by cases h)⟩
    obtain ⟨_, h2⟩ := look_slots ht
    have hlt := (List.getElem?_eq_some_iff.1 h2).1
    rw [Nat.sub_zero] at h2 hlt
    have e : (vs.toArray ++ Array.replicate (fn.ntmps - vs.toArray.size) undef).getD t undef = vs[t]'(by omega) := by
      simp [Array.getElem?_append, show t < vs.length by omega]
    rw [e]
    exact .im (hv t d _ h2 (List.getElem?_eq_getElem (by omega)))
  · intro e S' ρ' I' a' w' hk g
    have key : ∀ S1 ds', Wk S' S1 → ResV P S1 fn.results.toList ds' → Sub (tupD ds') r → a'.defers = [] ∧ ∃ v, (results fn a'.tmps).run P w' = .ok v w' ∧ ∃ v', Ending.returned v = .returned v' ∧ RC (fun b => I b ∨ (w.heap.size ≤ b ∧ b < w'.heap.size)) w' r v' ∧ Later w w' := by
      intro S1 ds' h1 h2 h3
      obtain ⟨ρ2, I2, g2⟩ := h1 _ _ _ _ _ _ g
      obtain ⟨v, hr, hv⟩ := results_run g2 h2
      exact ⟨g2.defers, v, hr, v, rfl, (h3 _ _ _ _ _ hv).move (fun b hb => (g2.base b hb).elim .inl fun h => .inr ⟨h, g2.lt b hb⟩) (fun _ _ => rfl), g2.later⟩
    replace hk := hk.h
    cases e with
    | normal => obtain ⟨S1, ds', h1, h2, h3⟩ := hk; exact key S1 ds' h1 h2 h3
    | ret => obtain ⟨S1, ds', h1, h2, h3⟩ := hk; exact key S1 ds' h1 h2 h3
    | _ => exact hk.elim
end
end Go.Proofs.Ytifapodobhkdcaa
