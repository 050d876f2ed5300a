/- The abstract machine: the rule for a region that draws its order, with operations that write (no program in sight). -/
import Derived.Test.YtifapodobhkdcaaAbsO
namespace Go.Proofs.Ytifapodobhkdcaa
open Go.RowKit
set_option linter.unusedVariables false
set_option linter.unusedSimpArgs false
section
variable {P : Program} {l : List Oper} {nb0 sz i : Nat} {ow base : List (Nat × D)} {mem0 : List (Nat × Option M)} {Z A B : Acc} {o : Oper}
variable {w0 : World} {I0 : Nat → Prop} {listed : Array Bool} {C : List Lk} {gs : Nat → Nat} {ρ ρ' : Rho} {I I' : Nat → Prop} {a a' : Act} {w w' : World}
theorem adoptT_mem {nb : Nat} {e : Nat × D} : ∀ {al : List (Nat × Nat × M)}, e ∈ adoptT nb al → ∃ y ∈ al, e.1 = y.2.1
  | x :: l, h => by
    rcases List.mem_cons.1 h with rfl | h
    · exact ⟨x, List.mem_cons_self, rfl⟩
    · obtain ⟨y, hy, hye⟩ := adoptT_mem h; exact ⟨y, List.mem_cons_of_mem _ hy, hye⟩
theorem step_chain (hoil : l[i]? = some o) {tf : List (Nat × D)} {nb' : Nat} {mem' : List (Nat × Option M)} {tc : List Nat} (S : Sta P l sz ow base nb0 mem0 Z) (inv : InvX l w0 I0 nb0 sz ow base mem0 Z listed C gs ρ I a w) (hi : i ∈ Region.ready .any l.toArray listed) (hC : C = A.ch)
    (htf : ∀ x ∈ tf, o.dst = some x.1) (hal : ∀ x ∈ A.al, x ∈ Z.al) (hA : ∀ x ∈ A.fs, x ∈ Z.fs) (hx : (i, tf ++ pickT nb0 A.al A.ch) ∈ Z.fs) (hch : ∃ E, Z.ch = E ++ ⟨i, nb', mem', tc⟩ :: A.ch)
    (g : G w0 I0 ⟨nb', sz, tf ++ (pickT nb0 A.al A.ch ++ (depX o (bsAt l ow base i) A.fs ++ (listedFs Z.fs listed ++ owFs l listed ow))), mem'⟩ ρ' I' a' w') :
    InvX l w0 I0 nb0 sz ow base mem0 Z (listed.setIfInBounds i true) (⟨i, nb', mem', tc⟩ :: A.ch) gs ρ' I' a' w' := by
  obtain ⟨E, hE⟩ := hch
  have ndfs := nodupB_nodup S.chk.nfs
  have ndch := nodupB_nodup S.chk.nch
  have hsl := S.chk.slotsN
  obtain ⟨p, hp, hpm⟩ := depX_app (o := o) (base := bsAt l ow base i) A.fs
  have hislt : i < listed.size := by
    have h1 := S.chk.inb
    simp only [Bool.and_eq_true, List.all_eq_true] at h1
    have h2 := h1.1 ⟨i, nb', mem', tc⟩ (by rw [hE]; simp)
    rw [inv.size]; simpa using h2
  have hpl : ∀ e ∈ p, ∃ x ∈ Z.fs, listed.getD x.1 false = true ∧ e ∈ x.2 := fun e he => by
    obtain ⟨x, hx', hd, he'⟩ := hpm e he
    exact ⟨x, hA x hx', ready_dep hi (by unfold dep; rw [hoil]; exact hd), he'⟩
  -- entries of slots that the region writes later
  have hlate : ∀ (s : Nat) (d : D), look s ow = some d → ∀ x ∈ Z.fs, ∀ e ∈ x.2, e.1 = s → wrs l x.1 s = true := fun s d hs x hx' e he h => by
    rcases S.chk.fsW hx' he with h1 | h1
    · rw [← h]; exact h1
    · rw [h, hs] at h1; cases h1
  have hold : ∀ z ∈ bsAt l ow base i, z ∈ base ∨ (∃ d, look z.1 ow = some d) ∧ ∀ j, wrs l j z.1 = true → listed.getD j false = false := by
    intro z hz
    rcases List.mem_append.1 hz with h | h
    · obtain ⟨h1, h2⟩ := List.mem_filter.1 h
      refine .inr ⟨look_some (d := z.2) h1, fun j hj => ?_⟩
      cases hl : listed.getD j false with
      | false => rfl
      | true => have := inv.dep (pOld_dep h2 hj) hl; rw [ready_not hi] at this; cases this
    · exact .inl h
  have howm : ∀ z ∈ owFs l listed ow, (∃ d, look z.1 ow = some d) ∧ ∀ j, wrs l j z.1 = true → listed.getD j false = false := fun z hz => by
    obtain ⟨h1, h2⟩ := List.mem_filter.1 hz
    exact ⟨look_some (d := z.2) h1, unl_iff.1 h2⟩
  have htop : ∀ e ∈ tf ++ pickT nb0 A.al A.ch, RA ρ' nb' I' w' e.2 (a'.tmps.getD e.1 undef) := by
    intro e he
    obtain ⟨d', hd'⟩ := look_some (t := e.1) (d := e.2) he
    have := (flat_same hsl _ hx _ hx e he (e.1, d') (look_mem hd') rfl).2
    have h2 := g.tmp e.1 d' (by rw [← List.append_assoc]; exact look_here hd')
    rw [this]
    exact h2
  have hbig : ∀ x ∈ Z.fs, listed.getD x.1 false = true → ∀ e ∈ x.2, RA ρ' nb' I' w' e.2 (a'.tmps.getD e.1 undef) := by
    intro x hx' hxl e he
    have hin : e ∈ tf ++ (pickT nb0 A.al A.ch ++ (depX o (bsAt l ow base i) A.fs ++ (listedFs Z.fs listed ++ owFs l listed ow))) :=
      List.mem_append_right _ (List.mem_append_right _ (List.mem_append_right _ (List.mem_append_left _ (flat_mem (List.mem_filter.2 ⟨hx', hxl⟩) he))))
    obtain ⟨d', hd'⟩ := look_some (t := e.1) (d := e.2) hin
    have hz := look_mem hd'
    have hfl : (∃ y ∈ Z.fs, (e.1, d') ∈ y.2) ∨ (e.1, d') ∈ base ∨ (∃ d, look e.1 ow = some d) ∧ ∀ j, wrs l j e.1 = true → listed.getD j false = false := by
      rcases List.mem_append.1 hz with h | h
      · exact .inl ⟨_, hx, List.mem_append_left _ h⟩
      rcases List.mem_append.1 h with h | h
      · exact .inl ⟨_, hx, List.mem_append_right _ h⟩
      rcases List.mem_append.1 h with h | h
      · rw [hp] at h
        rcases List.mem_append.1 h with h | h
        · obtain ⟨y, hy, _, hye⟩ := hpl _ h; exact .inl ⟨y, hy, hye⟩
        · exact .inr (hold (e.1, d') h)
      rcases List.mem_append.1 h with h | h
      · rcases flat_inv h with ⟨y, hy, hye⟩ | h
        · exact .inl ⟨y, (List.mem_filter.1 hy).1, hye⟩
        · simp at h
      · exact .inr (.inr (howm (e.1, d') h))
    rcases hfl with ⟨y, hy, hye⟩ | h | ⟨⟨d, hd⟩, hu⟩
    · have := (flat_same hsl x hx' y hy e he (e.1, d') hye rfl).2
      have h2 := g.tmp e.1 d' hd'
      rw [this]
      exact h2
    · obtain ⟨d2, hd2⟩ := look_some h
      rw [S.chk.notBase hx' he] at hd2; cases hd2
    · have h1 := hu _ (hlate _ d hd x hx' e he rfl)
      rw [hxl] at h1; cases h1
  refine ⟨by simp [inv.size], inv.closed' hi, ⟨E, hE⟩, fun x hx' => ?_, ?_, fun x hx' hl e he => ?_, fun s d hs hu => ?_, fun h => (by cases h), fun h => (by cases h)⟩
  · by_cases hxi : x.q = i
    · have := nodup_map_eq ndch x hx' ⟨i, nb', mem', tc⟩ (by rw [hE]; simp) hxi
      subst this
      simp [hislt]
    · rw [getD_set_ne false (Ne.symm hxi), inv.lk x hx', hC]
      refine ⟨fun h => List.mem_cons_of_mem _ h, fun h => ?_⟩
      rcases List.mem_cons.1 h with rfl | h
      · exact absurd rfl hxi
      · exact h
  · refine g.slots' (fun s d hs => ?_) (fun b m h => h)
    have hsb : ∀ x ∈ Z.fs, ∀ e ∈ x.2, e.1 ≠ s := fun x hx' e he h => by
      have := S.chk.notBase hx' he
      rw [h, hs] at this; cases this
    refine g.tmp s d ?_
    rw [look_skip (fun e he => hsb _ hx e (List.mem_append_left _ he)), look_skip (fun e he => hsb _ hx e (List.mem_append_right _ he)), hp, List.append_assoc, look_skip (fun e he => by obtain ⟨x, hx', _, he'⟩ := hpl e he; exact hsb x hx' e he')]
    unfold bsAt
    rw [List.append_assoc, look_skip (fun e he h => by
      obtain ⟨h1, _⟩ := List.mem_filter.1 he
      obtain ⟨j, hj⟩ := S.ow' e h1
      rw [h] at hj
      have := S.bw _ (look_mem hs) j
      simp only at this
      rw [hj] at this; cases this)]
    exact look_here hs
  · by_cases hxi : x.1 = i
    · have := nodup_map_eq ndfs x hx' _ hx hxi
      subst this
      exact htop e he
    · rw [getD_set_ne false (Ne.symm hxi)] at hl
      exact hbig x hx' hl e he
  · obtain ⟨h1, h2⟩ := listed_mono hi inv.size hu
    refine g.tmp s d ?_
    rw [look_skip (fun e he h => by rw [← h, wrs_of hoil (htf e he)] at h1; cases h1)]
    rw [look_skip (fun e he h => by
      have hal' : look e.1 ow = none := by
        cases hch : A.ch with
        | nil =>
          rw [hch] at he
          obtain ⟨y, hy, hye⟩ := adoptT_mem he
          rw [hye]; exact S.chk.alOld (hal y hy)
        | cons _ _ => rw [hch] at he; simp [pickT] at he
      rw [h, hs] at hal'; cases hal')]
    rw [hp, List.append_assoc, look_skip (fun e he h => by
      obtain ⟨x, hx', hxl, he'⟩ := hpl e he
      have := h2 _ (hlate s d hs x hx' e he' h)
      rw [hxl] at this; cases this)]
    unfold bsAt
    rw [List.append_assoc]
    cases hpo : pOld l i s with
    | true => exact look_here (by rw [look_filter, hpo]; exact hs)
    | false =>
      have hnow : ∀ q, look s ((ow.filter fun e => pOld l i e.1) ++ q) = look s q := fun q => look_skip fun e he h => by
        have := (List.mem_filter.1 he).2
        rw [h, hpo] at this; cases this
      rw [hnow, look_skip (fun e he h => by
        obtain ⟨j, hj⟩ := S.ow' _ (look_mem hs)
        have := S.bw e he j
        rw [h] at this
        simp only at hj
        rw [hj] at this; cases this), look_skip (fun e he h => by
        rcases flat_inv he with ⟨x, hx', he'⟩ | h'
        · obtain ⟨h3, h4⟩ := List.mem_filter.1 hx'
          have := h2 _ (hlate s d hs x h3 e he' h)
          rw [h4] at this; cases this
        · simp at h')]
      unfold owFs
      rw [look_filter, unl_iff.2 h2]
      exact hs
/-- the order's next one -/
theorem stepX {Q : Exit → Act → World → Prop} {next : Act → World → Prop} (S : Sta P l sz ow base nb0 mem0 Z) (inv : InvX l w0 I0 nb0 sz ow base mem0 Z listed C gs ρ I a w) (hi : i ∈ Region.ready .any l.toArray listed)
    (hk : ∀ C' gs' ρ' I' a' w', InvX l w0 I0 nb0 sz ow base mem0 Z (listed.setIfInBounds i true) C' gs' ρ' I' a' w' → next a' w') : wpOp P l.toArray Q i next a w := by
  have hnot := ready_not hi
  obtain ⟨hun, oi, hoi, hedges⟩ := mem_ready.1 hi
  have hoil : l[i]? = some oi := by simpa using hoi
  obtain ⟨A, B, hop, hA, hB, hbd⟩ := S.ops i oi hoil
  have hAfs : ∀ x ∈ A.fs, x ∈ Z.fs := by
    obtain ⟨E, hE⟩ := hA.fs
    intro x hx; rw [hE]; exact List.mem_append_right _ hx
  have hdep : ∀ x ∈ A.fs, dependsB oi x.1 = true → listed.getD x.1 false = true := fun x hx hd => ready_dep hi (by unfold dep; rw [hoil]; exact hd)
  rcases hop with ⟨t, d, R, rfl, hdst, ht, hp⟩ | ⟨t, T', kz, zs, zd, rfl, hdst, ht, hgd, hopa, hz, hch⟩ | ⟨tf, nb', mem', tc, rfl, htf, htc, hT⟩
  · have hx : (i, [(t, d)]) ∈ Z.fs := by obtain ⟨E, hE⟩ := hB.fs; rw [hE]; simp
    have hn : (i, R) ∈ Z.nd := by obtain ⟨E, hE⟩ := hB.nd; rw [hE]; simp
    have gt : ∀ s e, look s (depX oi (bsAt l ow base i) A.fs) = some e → RA ρ (curNb nb0 C) I w e (a.tmps.getD s undef) := fun s e hs => by
      rcases look_dX hs with ⟨x, hx, hd, he⟩ | h
      · exact inv.facts x (hAfs x hx) (hdep x hx hd) _ he
      · exact inv.bs hi h
    have g1 : G w0 I0 ⟨curNb nb0 C, sz, depX oi (bsAt l ow base i) A.fs, memR R (curMem mem0 A.ch)⟩ ρ I a w := inv.g.slots' gt fun b m hb => by
      obtain ⟨h1, h2⟩ := getM_memR hb
      rw [← same_rows S inv hi hA hbd hn h1] at h2
      exact h2
    have g2 : G w0 I0 ⟨curNb nb0 C, sz, depX oi (bsAt l ow base i) A.fs, []⟩ ρ I a w := inv.g.slots' gt fun b m hb => by cases hb
    unfold wpOp
    simp only [hoi]
    rcases hp with hp | ⟨hg, rfl⟩
    · obtain ⟨hg, hp⟩ := hp (curNb nb0 C)
      rw [if_pos (guard_wanted g2 hg)]
      exact .inl (hp w0 I0 ρ I a w _ Q g1 fun v w' I' he hv => hk _ _ _ _ _ _ (step_pure hoil S inv hi hdst ht hx hn he hv))
    · rw [if_neg (by rw [guard_wanted g2 (hg _)]; decide)]
      exact hk _ _ _ _ _ _ (step_pure hoil S inv hi hdst ht hx hn (Ext.refl I w) undef_tup)
  · have hx : (i, t, (⟨T', kz, 1, zd⟩ : M)) ∈ Z.al := by obtain ⟨E, hE, _⟩ := hB.al; rw [hE]; simp
    obtain ⟨v, w', gs', hr, inv'⟩ := step_alloc hoil S inv hi hdst ht hopa hz hx
    unfold wpOp
    simp only [hoi]
    rw [if_pos (by unfold Region.wanted; rw [hgd])]
    refine .inl ?_
    unfold Oper.wp; rw [hr]
    exact hk _ _ _ _ _ _ inv'
  · have hx : (i, tf ++ pickT nb0 A.al A.ch) ∈ Z.fs := by obtain ⟨E, hE⟩ := hB.fs; rw [hE]; simp
    obtain ⟨E, hE, _⟩ := hB.ch
    have hal : A.al = Z.al := by
      obtain ⟨E2, h1, h2⟩ := hB.al
      rw [h2 (by simp)] at h1
      exact h1.symm
    have hC : C = A.ch := by
      obtain ⟨E1, hE1⟩ := inv.suf
      have s1 : C <:+ Z.ch := ⟨E1, hE1.symm⟩
      have s2 : A.ch <:+ Z.ch := ⟨E ++ [⟨i, nb', mem', tc⟩], by rw [hE]; simp⟩
      have hself : (⟨i, nb', mem', tc⟩ : Lk) ∈ Z.ch := by rw [hE]; simp
      rcases List.suffix_or_suffix_of_suffix s1 s2 with ⟨D, hD⟩ | ⟨D, hD⟩
      · cases hch : A.ch with
        | nil => rw [hch] at hD; exact (List.append_eq_nil_iff.1 hD).2
        | cons y r =>
          have hc := S.chk.chain
          rw [hE, hch] at hc
          have h1 := ready_dep hi (chain_at hc)
          have hy : y ∈ Z.ch := by rw [hE, hch]; simp
          have h2 := (inv.lk y hy).1 h1
          cases D with
          | nil => rw [← hch, ← hD]; rfl
          | cons z D =>
            rw [hch] at hD
            simp only [List.cons_append, List.cons.injEq] at hD
            obtain ⟨rfl, rfl⟩ := hD
            have hnd := nodupB_nodup S.chk.nch
            rw [hE, hch, List.map_append] at hnd
            have h3 := (List.nodup_append.1 hnd).2.1
            simp only [List.map_cons, List.nodup_cons] at h3
            exact absurd (List.mem_map.2 ⟨z, List.mem_append_right _ h2, rfl⟩) h3.2.1
      · cases D with
        | nil => rw [← hD]; rfl
        | cons z D =>
          have hc : E1 ++ (z :: D ++ A.ch) = E ++ ⟨i, nb', mem', tc⟩ :: A.ch := by rw [hD, ← hE1]; exact hE
          have h2 : (⟨i, nb', mem', tc⟩ : Lk) ∈ C := by
            rw [← hD]
            have e1 : (E1 ++ z :: D) ++ A.ch = (E ++ [⟨i, nb', mem', tc⟩]) ++ A.ch := by simpa using hc
            have e2 := List.append_cancel_right e1
            have e3 : (z :: D).getLast? = some ⟨i, nb', mem', tc⟩ := by
              have := congrArg List.getLast? e2
              simpa [List.getLast?_append] using this
            exact List.mem_append_left _ (List.mem_of_getLast? e3)
          have := (inv.lk _ hself).2 h2
          simp only at this
          rw [hnot] at this; cases this
    have hlal : A.ch = [] → ∀ x ∈ Z.al, listed.getD x.1 false = true := fun hch x hx' => by
      have hc := S.chk.chain
      rw [hE, hch] at hc
      exact ready_dep hi (chain_end hc x hx')
    obtain ⟨ρ1, g1⟩ := chain_state S inv hi hoil hC hAfs hal hlal
    refine wpOp_of_T hoi fun Q' hq => (hT (listedFs Z.fs listed ++ owFs l listed ow)).h w0 I0 ρ1 I a w Q' g1 fun S' ρ' I' a' w' hS g' => ?_
    subst hS
    exact hq _ _ (hk _ gs _ _ _ _ (step_chain hoil S inv hi hC htf (fun x hx => by rw [← hal]; exact hx) hAfs hx ⟨E, hE⟩ g'))
theorem runX {Q : Exit → Act → World → Prop} (S : Sta P l sz ow base nb0 mem0 Z) (hK : ∀ ρ I a w, G w0 I0 ⟨curNb nb0 Z.ch, sz, flatX Z.fs base, curMem mem0 Z.ch⟩ ρ I a w → Q .normal a w) :
    ∀ (f : Nat) (listed : Array Bool) (C : List Lk) (gs : Nat → Nat) (ρ : Rho) (I : Nat → Prop) (a : Act) (w : World), leftOf listed l.length = f → InvX l w0 I0 nb0 sz ow base mem0 Z listed C gs ρ I a w → wpAny P .any l.toArray Q f listed a w := by
  intro f
  induction f with
  | zero =>
    intro listed C gs ρ I a w hl inv
    have hlt := left_zero hl
    have hinb := S.chk.inb
    simp only [Bool.and_eq_true, List.all_eq_true] at hinb
    have hall : Region.ready .any l.toArray listed = [] := by
      cases hr : Region.ready .any l.toArray listed with
      | nil => rfl
      | cons i r =>
        have hi : i ∈ Region.ready .any l.toArray listed := by rw [hr]; simp
        have h1 := ready_not hi
        obtain ⟨_, oi, hoi, _⟩ := mem_ready.1 hi
        have h2 : i < l.length := by have := (Array.getElem?_eq_some_iff.1 hoi).1; simpa using this
        rw [hlt i h2] at h1; cases h1
    refine ⟨hall, ?_⟩
    have hCZ : C = Z.ch := by
      obtain ⟨E, hE⟩ := inv.suf
      cases E with
      | nil => rw [hE]; rfl
      | cons z E =>
        have hz : z ∈ Z.ch := by rw [hE]; simp
        have h1 := hinb.1 z hz
        have h2 := (inv.lk z hz).1 (hlt z.q (by simpa using h1))
        have hnd := nodupB_nodup S.chk.nch
        rw [hE] at hnd
        simp only [List.cons_append, List.map_cons, List.nodup_cons] at hnd
        exact absurd (List.mem_map.2 ⟨z, List.mem_append_right _ h2, rfl⟩) hnd.1
    subst hCZ
    refine hK ρ I a w (inv.g.slots' (fun s d hs => ?_) (fun b m h => h))
    rw [flat_split] at hs
    rcases look_or hs with h | ⟨_, h⟩
    · rcases flat_inv (look_mem h) with ⟨x, hx, he⟩ | h
      · have h1 := hinb.2 x hx
        exact inv.facts x hx (hlt x.1 (by simpa using h1)) _ he
      · simp at h
    · exact inv.g.tmp s d h
  | succ f ih =>
    intro listed C gs ρ I a w hl inv
    have hex : ∃ i, i < l.length ∧ listed.getD i false = false := by
      apply Classical.byContradiction
      intro hno
      have : leftOf listed l.length = 0 := by
        unfold leftOf
        rw [List.filter_eq_nil_iff.2 fun i hi => ?_]; rfl
        intro h
        exact hno ⟨i, List.mem_range.1 hi, by simpa using h⟩
      omega
    have hready : Region.ready .any l.toArray listed ≠ [] := by
      obtain ⟨i, hi, hli⟩ := hex
      induction i using Nat.strongRecOn with
      | _ i ihi =>
        by_cases hlow : ∃ j, j < i ∧ listed.getD j false = false
        · obtain ⟨j, hj, hlj⟩ := hlow
          exact ihi j hj (by omega) hlj
        · refine List.ne_nil_of_mem (a := i) (mem_ready.2 ⟨getD_in (by rw [inv.size]; exact hi) hli, l[i], by simp, fun e he hb => ?_⟩)
          have h1 : dep l i e.on = true := by
            unfold Go.Proofs.Ytifapodobhkdcaa.dep
            rw [List.getElem?_eq_getElem hi]
            simp only [dependsB]
            exact List.any_eq_true.2 ⟨e, Array.mem_toList_iff.2 he, by simp [hb]⟩
          have h3 := dep_lt S.chk.fwd h1
          cases hle : listed.getD e.on false with
          | true => rfl
          | false => exact absurd ⟨e.on, h3, hle⟩ hlow
    refine ⟨fun h => absurd h hready, fun i hi => ?_⟩
    have hnot := ready_not hi
    have hil : i < l.length := by
      obtain ⟨_, oi, hoi, _⟩ := mem_ready.1 hi
      have := (Array.getElem?_eq_some_iff.1 hoi).1
      simpa using this
    have hls := left_set hil (by rw [inv.size]; exact hil) hnot
    exact stepX S inv hi fun C' gs' ρ' I' a' w' inv' => ih _ C' gs' ρ' I' a' w' (by omega) inv'
end
/-- the slots that a region does not write, and those that it does -/
def wr (l : List Oper) (t : Nat) : Bool := l.any fun o => match o.dst with
  | some s => Nat.beq s t
  | none => false
theorem wr_iff {l : List Oper} {t : Nat} : wr l t = true ↔ ∃ j, wrs l j t = true := by
  unfold wr wrs
  rw [List.any_eq_true]
  constructor
  · rintro ⟨o, ho, h⟩
    obtain ⟨j, hj⟩ := List.getElem?_of_mem ho
    exact ⟨j, by rw [hj]; exact h⟩
  · rintro ⟨j, h⟩
    cases ho : l[j]? with
    | none => rw [ho] at h; cases h
    | some o => rw [ho] at h; exact ⟨o, List.mem_of_getElem? ho, h⟩
inductive Clean (l : List Oper) : List (Nat × D) → List (Nat × D) → List (Nat × D) → Prop
  | nil : Clean l [] [] []
  | keep {t : Nat} {d : D} {tmp ow base : List (Nat × D)} (h : wr l t = false) (k : Clean l tmp ow base) : Clean l ((t, d) :: tmp) ow ((t, d) :: base)
  | drop {t : Nat} {d : D} {tmp ow base : List (Nat × D)} (h : wr l t = true) (k : Clean l tmp ow base) : Clean l ((t, d) :: tmp) ((t, d) :: ow) base
theorem Clean.wr {l : List Oper} {tmp ow base : List (Nat × D)} (h : Clean l tmp ow base) : (∀ e ∈ base, Go.Proofs.Ytifapodobhkdcaa.wr l e.1 = false) ∧ ∀ e ∈ ow, Go.Proofs.Ytifapodobhkdcaa.wr l e.1 = true := by
  induction h with
  | nil => exact ⟨fun e he => by simp at he, fun e he => by simp at he⟩
  | keep h k ih =>
    refine ⟨fun e he => ?_, ih.2⟩
    rcases List.mem_cons.1 he with rfl | he
    · exact h
    · exact ih.1 e he
  | drop h k ih =>
    refine ⟨ih.1, fun e he => ?_⟩
    rcases List.mem_cons.1 he with rfl | he
    · exact h
    · exact ih.2 e he
theorem Clean.look {l : List Oper} {tmp ow base : List (Nat × D)} (h : Clean l tmp ow base) {t : Nat} {d : D} : (look t base = some d → look t tmp = some d) ∧ (look t ow = some d → look t tmp = some d) := by
  induction h with
  | nil => exact ⟨id, id⟩
  | keep h k ih =>
    rename_i s e tmp ow base
    refine ⟨fun hl => ?_, fun hl => ?_⟩
    · have hl' : cond (Nat.beq s t) (some e) (Go.Proofs.Ytifapodobhkdcaa.look t base) = some d := hl
      show cond (Nat.beq s t) (some e) (Go.Proofs.Ytifapodobhkdcaa.look t tmp) = some d
      cases hb : Nat.beq s t with
      | true => rw [hb] at hl'; exact hl'
      | false => rw [hb] at hl'; exact ih.1 hl'
    · show cond (Nat.beq s t) (some e) (Go.Proofs.Ytifapodobhkdcaa.look t tmp) = some d
      cases hb : Nat.beq s t with
      | true =>
        have := Nat.eq_of_beq_eq_true hb
        subst this
        have h2 := k.wr.2 _ (look_mem hl)
        simp only at h2
        rw [h] at h2; cases h2
      | false => exact ih.2 hl
  | drop h k ih =>
    rename_i s e tmp ow base
    refine ⟨fun hl => ?_, fun hl => ?_⟩
    · show cond (Nat.beq s t) (some e) (Go.Proofs.Ytifapodobhkdcaa.look t tmp) = some d
      cases hb : Nat.beq s t with
      | true =>
        have := Nat.eq_of_beq_eq_true hb
        subst this
        have h2 := k.wr.1 _ (look_mem hl)
        simp only at h2
        rw [h] at h2; cases h2
      | false => exact ih.1 hl
    · have hl' : cond (Nat.beq s t) (some e) (Go.Proofs.Ytifapodobhkdcaa.look t ow) = some d := hl
      show cond (Nat.beq s t) (some e) (Go.Proofs.Ytifapodobhkdcaa.look t tmp) = some d
      cases hb : Nat.beq s t with
      | true => rw [hb] at hl'; exact hl'
      | false => rw [hb] at hl'; exact ih.2 hl'
theorem C_drawX {P : Program} {l : List Oper} {nb sz : Nat} {tmp ow base : List (Nat × D)} {mem : List (Nat × Option M)} {id : Nat} {Kc : Exit → St → Prop} (hm : P.follows .mixedOrders = true) (hc : Clean l tmp ow base)
    (h : Walk P l.toArray sz (bsAt l ow base) nb mem l 0 ⟨[], [], [], []⟩ fun Z => Chk l ow base Z ∧ Kc .normal ⟨curNb nb Z.ch, sz, flatX Z.fs base, curMem mem Z.ch⟩) : C P (.region id l.toArray true) ⟨nb, sz, tmp, mem⟩ Kc := ⟨fun w0 I0 ρ I a w Q g q => by
  obtain ⟨Z, ⟨hchk, hK⟩, _, hch, hops, _⟩ := Walk0.all h.h (fun x hx => by simp at hx) trivial
  have S : Sta P l sz ow base nb mem Z := ⟨hchk, (fun e he j => by
      cases hw : wrs l j e.1 with
      | false => rfl
      | true => have := hc.wr.1 e he; rw [wr_iff.2 ⟨j, hw⟩] at this; cases this), fun e he => wr_iff.1 (hc.wr.2 e he), hch, fun k o hk => by
    have := hops k o hk
    rw [Nat.zero_add] at this
    exact this⟩
  have ge := g.ext (Ext.same (Later.drew (Later.refl w)) : Ext I w I w.drew)
  have inv0 : InvX l w0 I0 nb sz ow base mem Z (Array.replicate l.toArray.size false) [] (fun _ => 0) ρ I a w.drew := by
    refine ⟨by simp, fun j oj _ hl => ?_, ⟨Z.ch, by simp⟩, fun x hx => ?_, ge.slots' (fun s d hs => ge.tmp s d (hc.look.1 hs)) (fun b m h => h), fun x _ hl => ?_, fun s d hs _ => ge.tmp s d (hc.look.2 hs), fun _ x _ hl => ?_, fun _ x _ y _ hl => ?_⟩
    · rw [getD_replicate_false] at hl; cases hl
    · rw [getD_replicate_false]; simp
    · rw [getD_replicate_false] at hl; cases hl
    · rw [getD_replicate_false] at hl; cases hl
    · rw [getD_replicate_false] at hl; cases hl
  have hleft : leftOf (Array.replicate l.toArray.size false) l.length = l.toArray.size := by
    unfold leftOf
    rw [List.filter_eq_self.2 fun i hi => by rw [getD_replicate_false]; rfl, List.length_range]; simp
  exact wp_region_any hm (runX S (fun ρ I a w g => q _ _ ρ I a w hK g) _ _ _ _ ρ I a _ hleft inv0)⟩
end Go.Proofs.Ytifapodobhkdcaa
