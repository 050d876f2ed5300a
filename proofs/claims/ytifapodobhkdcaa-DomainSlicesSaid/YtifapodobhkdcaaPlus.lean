/- The abstract machine: functions that return a row that is the caller's from then on; an append onto a part of a row (no program in sight). -/
import Derived.Test.YtifapodobhkdcaaRun
namespace Go.Proofs.Ytifapodobhkdcaa
open Go.RowKit
set_option linter.unusedVariables false
set_option linter.unusedSimpArgs false
section
variable {P : Program} {ops : Array Oper} {S : St} {K : St → Prop} {o : Oper} {rest : List Oper} {x y : Operand} {T' : TypeId} {w0 : World} {I0 : Nat → Prop} {ρ : Rho} {I : Nat → Prop} {a : Act} {w w' : World}
variable {nb sz : Nat} {tmp : List (Nat × D)} {mem : List (Nat × Option M)} {t : Nat} {op : Op} {ty : TypeId} {pos : String} {af : Array Edge} {gd : Option (Nat × Bool)}
def AllRC (I : Nat → Prop) (w : World) (xs : List D) (us : List Value) : Prop := xs.length = us.length ∧ (∀ u ∈ us, u.oneCell' = true) ∧ ∀ (j : Nat) (d : D) (u : Value), xs[j]? = some d → us[j]? = some u → RC I w d u
theorem AllRC.ra {xs : List D} {us : List Value} (h : AllRC I w xs us) : AllRA ρ nb I w xs us := ⟨h.1, h.2.1, fun j d u h1 h2 => .im (h.2.2 j d u h1 h2)⟩
theorem owns_base {base base' : Nat} {e : TypeId} {size n : Nat} {v : Value} {us : List Value} (h : w.ownsRow base e size v n us) (hb : base' ≤ base) : w.ownsRow base' e size v n us := by
  refine ⟨h.1, ?_⟩
  rcases h.2 with hn | ⟨g, cap, cur, hv, hg, rest⟩
  · exact .inl hn
  · exact .inr ⟨g, cap, cur, hv, Nat.le_trans hb hg, rest⟩
/-- a function that returns a row of its own -/
structure DF (P : Program) (f : Nat) (ds : List D) (e : TypeId) (size n : Nat) (xs : List D) : Prop where
  fn : ∃ fn, P.funcs[f]? = some fn ∧ (fn.name == "runtime.NumGoroutine") = false ∧ fn.body.isNone = false
  calls : ∀ (w : World) (I : Nat → Prop) (vs : List Value), (∀ b, I b → b < w.heap.size) → ds.length = vs.length → (∀ (j : Nat) (d : D) (v : Value), ds[j]? = some d → vs[j]? = some v → RC I w d v) →
    Calls P f vs.toArray w fun e' w' => ∃ pl us I', e' = .returned (sv pl n) ∧ Ext I w I' w' ∧ w'.ownsRow w.heap.size e size (sv pl n) n us ∧ AllRC I' w' xs us ∧ ∀ g c, pl = some (g, c) → ¬ I' g
def kEndF0 (P : Program) (t : Nat) (e : TypeId) (size n : Nat) (xs : List D) : Exit → St → Prop
  | .normal, S | .ret, S => ∃ S' b, Wk S S' ∧ look t S'.tmp = some (.own b n) ∧ getM b S'.mem = some ⟨e, size, n, xs⟩ ∧ D.idsL (fun _ => false) xs = true
  | _, _ => False
structure kEndF (P : Program) (t : Nat) (e : TypeId) (size n : Nat) (xs : List D) (ex : Exit) (S : St) : Prop where
  h : kEndF0 P t e size n xs ex S
theorem kEndF_r {e : TypeId} {size n b : Nat} {xs : List D} {S S' : St} (h : Wk S S') (h1 : look t S'.tmp = some (.own b n)) (h2 : getM b S'.mem = some ⟨e, size, n, xs⟩) (h3 : D.idsL (fun _ => false) xs = true) : kEndF P t e size n xs .ret S := ⟨⟨S', b, h, h1, h2, h3⟩⟩
theorem kEndF_n {e : TypeId} {size n b : Nat} {xs : List D} {S S' : St} (h : Wk S S') (h1 : look t S'.tmp = some (.own b n)) (h2 : getM b S'.mem = some ⟨e, size, n, xs⟩) (h3 : D.idsL (fun _ => false) xs = true) : kEndF P t e size n xs .normal S := ⟨⟨S', b, h, h1, h2, h3⟩⟩
theorem own_eq {b n : Nat} {v : Value} (h : RA ρ nb I w (.own b n) v) : v = sv (ρ b) n ∧ (ρ b = none → n = 0) := by
  cases h with
  | im h => cases h
  | own hb h0 => exact ⟨rfl, h0⟩
theorem DF.of {f : Nat} {fn : Func} {c : Code} {ds : List D} {t : Nat} {e : TypeId} {size n : Nat} {xs : List D} (hf : P.funcs[f]? = some fn) (hsz : fn.ntmps = sz) (hrs : fn.results = #[.tmp t]) (hb : fn.body = some c) (hn : (fn.name == "runtime.NumGoroutine") = false) (hs : Nat.ble ds.length sz = true)
    (h : C P c ⟨0, sz, slots 0 ds, []⟩ (kEndF P t e size n xs)) : DF P f ds e size n xs := by
  subst hsz
  refine ⟨⟨fn, hf, hn, by rw [hb]; rfl⟩, fun w I vs hI hl hv => ?_⟩
  have hs := Nat.le_of_ble_eq_true hs
  refine calls_of_wp hf hb (h.h w I (fun _ => none) I _ w _ ?_ ?_)
  · refine ⟨Later.refl w, hI, fun b h => .inl h, fun b h => h, rfl, by simp; omega, fun t d ht => ?_, (fun b m h => by cases h), (fun b m b' m' h => by cases h)⟩
    obtain ⟨_, h2⟩ := look_slots ht
    have hlt := (List.getElem?_eq_some_iff.1 h2).1
    rw [Nat.sub_zero] at h2 hlt
    have e : (vs.toArray ++ Array.replicate (fn.ntmps - vs.toArray.size) undef).getD t undef = vs[t]'(by omega) := by
      simp [Array.getElem?_append, show t < vs.length by omega]
    rw [e]
    exact .im (hv t d _ h2 (List.getElem?_eq_getElem (by omega)))
  · intro e' S' ρ' I' a' w' hk g
    have key : ∀ S1 b, Wk S' S1 → look t S1.tmp = some (.own b n) → getM b S1.mem = some ⟨e, size, n, xs⟩ → D.idsL (fun _ => false) xs = true → a'.defers = [] ∧ ∃ v, (results fn a'.tmps).run P w' = .ok v w' ∧ ∃ pl us I', Ending.returned v = .returned (sv pl n) ∧ Ext I w I' w' ∧ w'.ownsRow w.heap.size e size (sv pl n) n us ∧ AllRC I' w' xs us ∧ ∀ g c, pl = some (g, c) → ¬ I' g := by
      intro S1 b h1 h2 h3 h4
      obtain ⟨ρ2, I2, g2⟩ := h1 _ _ _ _ _ _ g
      have hr : ResV P S1 fn.results.toList [.own b n] := by rw [hrs]; exact .tmp h2 .nil
      obtain ⟨v, hr, hv⟩ := results_run g2 hr
      obtain ⟨rfl, h0⟩ := own_eq (show RA ρ2 S1.nb I2 w' (.own b n) v from hv)
      obtain ⟨_, ⟨us, ho, hx⟩, hnot⟩ := (g2.mem b _ h3).parts
      exact ⟨g2.defers, _, hr, ρ2 b, us, I2, rfl, ⟨g2.old, fun b hb => (g2.base b hb).elim .inl fun h => .inr ⟨h, g2.lt b hb⟩, g2.later⟩, ho, ⟨hx.1, hx.2.1, fun j d u a b => (hx.2.2 j d u a b).closed (idsL_mem h4 j d a)⟩, hnot⟩
    replace hk := hk.h
    cases e' with
    | normal => obtain ⟨S1, b, h1, h2, h3, h4⟩ := hk; exact key S1 b h1 h2 h3 h4
    | ret => obtain ⟨S1, b, h1, h2, h3, h4⟩ := hk; exact key S1 b h1 h2 h3 h4
    | _ => exact hk.elim
/-- the row as one that is no more written to -/
theorem DF.dc {f : Nat} {ds : List D} {e : TypeId} {size n : Nat} {xs : List D} (h : DF P f ds e size n xs) : DC P f ds (.row n xs) := by
  refine ⟨h.fn, fun w I vs hI hl hv => (h.calls w I vs hI hl hv).mono ?_⟩
  rintro e' w' ⟨pl, us, I', rfl, hE, ho, hx, hnot⟩
  refine ⟨_, rfl, ?_, hE.later⟩
  have mv : ∀ d v, RC I' w' d v → RC (fun b => I b ∨ (w.heap.size ≤ b ∧ b < w'.heap.size)) w' d v := fun d v h => h.move (fun b hb => hE.new b hb) (fun _ _ => rfl)
  cases pl with
  | none =>
    have hn0 : n = 0 := by
      rcases ho.2 with ⟨_, h0⟩ | ⟨g', cap', cur, h', _⟩
      · exact h0
      · simp [sv] at h'
    subst hn0
    have hu : us = [] := List.eq_nil_of_length_eq_zero (by have := ho.1; simpa using this)
    subst hu
    have hxs : xs = [] := List.eq_nil_of_length_eq_zero hx.1
    subst hxs
    exact (RC.val (.slice none 0 0) rfl).nil_row
  | some gc =>
    obtain ⟨gb, cap⟩ := gc
    have hlt := ho.lt gb rfl
    rcases ho.2 with ⟨h', _⟩ | ⟨g', cap', cur, h', _, _, hnc, hcm, _, _⟩
    · simp [sv] at h'
    · simp only [sv, Value.slice.injEq, Option.some.injEq, Addr.mk.injEq, and_true, true_and] at h'
      obtain ⟨rfl, rfl⟩ := h'
      exact .row hnc hcm (fun h => by cases h) (us := us) hx.1 (fun _ => ⟨rfl, .inr hlt⟩) (ownsRow_lies ho) hx.2.1 fun j d u a b => mv _ _ (hx.2.2 j d u a b)
theorem call_args {f : Nat} {c : Operand} {args : Array Operand} {es ds cs : List D} (g : G w0 I0 S ρ I a w) (hc : S.ev c = some (.fn f es cs)) (hd : S.evs args.toList = some ds) (hcl : D.idsL (fun _ => false) (es ++ ds ++ cs) = true) :
    ∃ us vs : List Value, a.eval c = .func (.func f) us.toArray vs.toArray ∧ (es ++ ds ++ cs).length = (us ++ args.toList.map a.eval ++ vs).length ∧ ∀ (j : Nat) (d : D) (v : Value), (es ++ ds ++ cs)[j]? = some d → (us ++ args.toList.map a.eval ++ vs)[j]? = some v → RC I w d v := by
  obtain ⟨us, vs, h1, h2, h3, h4, h5⟩ : ∃ us vs : List Value, a.eval c = .func (.func f) us.toArray vs.toArray ∧ es.length = us.length ∧ cs.length = vs.length ∧ (∀ (j : Nat) (d : D) (u : Value), es[j]? = some d → us[j]? = some u → RA ρ S.nb I w d u) ∧ (∀ (j : Nat) (d : D) (u : Value), cs[j]? = some d → vs[j]? = some u → RA ρ S.nb I w d u) := by
    have hh := g.ev hc
    generalize a.eval c = v at hh
    cases hh with
    | im hh => cases hh with | fn hl hk hr hq => exact ⟨_, _, rfl, hl, hk, fun j d u h1 h2 => .im (hr j d u h1 h2), fun j d u h1 h2 => .im (hq j d u h1 h2)⟩
    | fn hl hk hr hq => exact ⟨_, _, rfl, hl, hk, hr, hq⟩
  obtain ⟨h6, h7⟩ := g.evs hd
  refine ⟨us, vs, h1, by simp only [List.length_append]; omega, fun j d v hj hv => ?_⟩
  refine RA.closed (ρ := ρ) (nb := S.nb) ?_ (idsL_mem hcl j d hj)
  by_cases j1 : j < es.length
  · rw [List.append_assoc, List.getElem?_append_left j1] at hj
    rw [List.append_assoc, List.getElem?_append_left (by omega)] at hv
    exact h4 j d v hj hv
  · rw [List.append_assoc, List.getElem?_append_right (by omega)] at hj
    rw [List.append_assoc, List.getElem?_append_right (by omega)] at hv
    by_cases j2 : j - es.length < ds.length
    · rw [List.getElem?_append_left j2] at hj
      rw [List.getElem?_append_left (by omega)] at hv
      exact h7 _ d v hj (by rw [h2]; exact hv)
    · rw [List.getElem?_append_right (by omega)] at hj
      rw [List.getElem?_append_right (by omega)] at hv
      exact h5 _ d v hj (by rw [h2, h6]; exact hv)
theorem go_cF {f : Nat} {c : Operand} {args : Array Operand} {ats : Array TypeId} {es ds cs xs : List D} {e : TypeId} {size n : Nat} (hc : St.ev ⟨nb, sz, tmp, mem⟩ c = some (.fn f es cs)) (hd : St.evs ⟨nb, sz, tmp, mem⟩ args.toList = some ds) (h : DF P f (es ++ ds ++ cs) e size n xs)
    (k : T P ops rest ⟨nb + 1, sz, (t, .own nb n) :: tmp, (nb, some ⟨e, size, n, xs⟩) :: mem⟩ K)
    (hcl : D.idsL (fun _ => false) (es ++ ds ++ cs) = true := by first | rfl | assumption) (hg : St.guard ⟨nb, sz, tmp, mem⟩ ops ⟨some t, .call { callee := .value c, args := args, argTypes := ats }, ty, pos, af, gd⟩ = some true := by rfl) (ht : Nat.blt t sz = true := by rfl) : T P ops (⟨some t, .call { callee := .value c, args := args, argTypes := ats }, ty, pos, af, gd⟩ :: rest) ⟨nb, sz, tmp, mem⟩ K :=
  T_of_wp hg fun w0 I0 ρ I a w Q next g hk q => by
    obtain ⟨us, vs, h1, h2, h3⟩ := call_args g hc hd hcl
    unfold Oper.wp
    rw [exec_call (o := ⟨some t, .call { callee := .value c, args := args, argTypes := ats }, ty, pos, af, gd⟩) h.fn rfl h1]
    refine (h.calls w I _ g.lt h2 h3).mono ?_
    rintro e' w' ⟨pl, us', I', rfl, hE, ho, hx, hnot⟩
    have g1 := g.ext hE
    have hle := Below.size g.later
    have g2 := g1.renew ⟨e, size, n, xs⟩ mem pl none (us := us') (grown_refl w' none) (fun k hk => by cases hk) (fun b m h => ⟨h, fun k c _ hh => by cases hh⟩)
      (fun b m k c c' h hk hk' => by
        subst hk'
        have p1 := ((g.mem b m h).lt hk).2
        have p2 := (ho.lt k rfl).1
        omega)
      (fun k c hk => hnot k c hk) (owns_base ho hle) hx.ra
    have hnew : RA (upd ρ nb pl) (nb + 1) I' w' (.own nb n) (sv pl n) := by
      have h := RA.own (ρ := upd ρ nb pl) (nb := nb + 1) (I := I') (w := w') (b := nb) (n := n) (Nat.lt_succ_self _) (fun h => by
        rw [upd_same] at h
        subst h
        rcases ho.2 with ⟨_, h0⟩ | ⟨g', cap', cur, h', _⟩
        · exact h0
        · simp [sv] at h')
      rw [upd_same] at h
      exact h
    exact hk _ _ (k.h w0 I0 _ I' _ _ Q (g2.put (by simpa using ht) hnew) q)
/-- a function that returns a struct of one field, a row of its own -/
structure DFA (P : Program) (f : Nat) (ds : List D) (e : TypeId) (size n : Nat) (xs : List D) : Prop where
  fn : ∃ fn, P.funcs[f]? = some fn ∧ (fn.name == "runtime.NumGoroutine") = false ∧ fn.body.isNone = false
  calls : ∀ (w : World) (I : Nat → Prop) (vs : List Value), (∀ b, I b → b < w.heap.size) → ds.length = vs.length → (∀ (j : Nat) (d : D) (v : Value), ds[j]? = some d → vs[j]? = some v → RC I w d v) →
    Calls P f vs.toArray w fun e' w' => ∃ pl us I', e' = .returned (.agg #[sv pl n]) ∧ Ext I w I' w' ∧ w'.ownsRow w.heap.size e size (sv pl n) n us ∧ AllRC I' w' xs us ∧ ∀ g c, pl = some (g, c) → ¬ I' g
def kEndA0 (P : Program) (rs : List ResultVar) (e : TypeId) (size n : Nat) (xs : List D) : Exit → St → Prop
  | .normal, S | .ret, S => ∃ S' b, Wk S S' ∧ ResV P S' rs [.agg [.own b n]] ∧ getM b S'.mem = some ⟨e, size, n, xs⟩ ∧ D.idsL (fun _ => false) xs = true
  | _, _ => False
structure kEndA (P : Program) (rs : List ResultVar) (e : TypeId) (size n : Nat) (xs : List D) (ex : Exit) (S : St) : Prop where
  h : kEndA0 P rs e size n xs ex S
theorem kEndA_g {rs : List ResultVar} {e : TypeId} {size n b : Nat} {xs : List D} {S : St} {ex : Exit} (he : ex = .ret ∨ ex = .normal) (h1 : ResV P S rs [.agg [.own b n]]) (h2 : getM b S.mem = some ⟨e, size, n, xs⟩) (h3 : D.idsL (fun _ => false) xs = true) : kEndA P rs e size n xs ex S := by
  rcases he with rfl | rfl <;> exact ⟨⟨S, b, Wk.refl _, h1, h2, h3⟩⟩
theorem DFA.of {f : Nat} {fn : Func} {c : Code} {ds : List D} {rs : List ResultVar} {e : TypeId} {size n : Nat} {xs : List D} (hf : P.funcs[f]? = some fn) (hsz : fn.ntmps = sz) (hrs : fn.results = rs.toArray) (hb : fn.body = some c) (hn : (fn.name == "runtime.NumGoroutine") = false) (hs : Nat.ble ds.length sz = true)
    (h : C P c ⟨0, sz, slots 0 ds, []⟩ (kEndA P rs e size n xs)) : DFA P f ds e size n xs := by
  subst hsz
  obtain rfl : rs = fn.results.toList := by rw [hrs]
  refine ⟨⟨fn, hf, hn, by rw [hb]; rfl⟩, fun w I vs hI hl hv => ?_⟩
  have hs := Nat.le_of_ble_eq_true hs
  refine calls_of_wp hf hb (h.h w I (fun _ => none) I _ w _ ?_ ?_)
  · refine ⟨Later.refl w, hI, fun b h => .inl h, fun b h => h, rfl, by simp; omega, fun t d ht => ?_, (fun b m h => by cases h), (fun b m b' m' h => by cases h)⟩
    obtain ⟨_, h2⟩ := look_slots ht
    have hlt := (List.getElem?_eq_some_iff.1 h2).1
    rw [Nat.sub_zero] at h2 hlt
    have e : (vs.toArray ++ Array.replicate (fn.ntmps - vs.toArray.size) undef).getD t undef = vs[t]'(by omega) := by
      simp [Array.getElem?_append, show t < vs.length by omega]
    rw [e]
    exact .im (hv t d _ h2 (List.getElem?_eq_getElem (by omega)))
  · intro e' S' ρ' I' a' w' hk g
    have key : ∀ S1 b, Wk S' S1 → ResV P S1 fn.results.toList [.agg [.own b n]] → getM b S1.mem = some ⟨e, size, n, xs⟩ → D.idsL (fun _ => false) xs = true → a'.defers = [] ∧ ∃ v, (results fn a'.tmps).run P w' = .ok v w' ∧ ∃ pl us I', Ending.returned v = .returned (.agg #[sv pl n]) ∧ Ext I w I' w' ∧ w'.ownsRow w.heap.size e size (sv pl n) n us ∧ AllRC I' w' xs us ∧ ∀ g c, pl = some (g, c) → ¬ I' g := by
      intro S1 b h1 hr h3 h4
      obtain ⟨ρ2, I2, g2⟩ := h1 _ _ _ _ _ _ g
      obtain ⟨v, hr, hv⟩ := results_run g2 hr
      obtain ⟨us1, rfl, q1, q2, q3⟩ := (show RA ρ2 S1.nb I2 w' (.agg [.own b n]) v from hv).cells
      obtain ⟨u, rfl⟩ : ∃ u, us1 = [u] := by
        match us1, q1 with
        | [u], _ => exact ⟨u, rfl⟩
      obtain ⟨rfl, h0⟩ := own_eq (q3 0 _ _ rfl rfl)
      obtain ⟨_, ⟨us, ho, hx⟩, hnot⟩ := (g2.mem b _ h3).parts
      exact ⟨g2.defers, _, hr, ρ2 b, us, I2, rfl, ⟨g2.old, fun b hb => (g2.base b hb).elim .inl fun h => .inr ⟨h, g2.lt b hb⟩, g2.later⟩, ho, ⟨hx.1, hx.2.1, fun j d u a b => (hx.2.2 j d u a b).closed (idsL_mem h4 j d a)⟩, hnot⟩
    replace hk := hk.h
    cases e' with
    | normal => obtain ⟨S1, b, h1, h2, h3, h4⟩ := hk; exact key S1 b h1 h2 h3 h4
    | ret => obtain ⟨S1, b, h1, h2, h3, h4⟩ := hk; exact key S1 b h1 h2 h3 h4
    | _ => exact hk.elim
theorem DFA.dc {f : Nat} {ds : List D} {e : TypeId} {size n : Nat} {xs : List D} (h : DFA P f ds e size n xs) : DC P f ds (.agg [.row n xs]) := by
  refine ⟨h.fn, fun w I vs hI hl hv => (h.calls w I vs hI hl hv).mono ?_⟩
  rintro e' w' ⟨pl, us, I', rfl, hE, ho, hx, hnot⟩
  refine ⟨_, rfl, ?_, hE.later⟩
  have mv : ∀ d v, RC I' w' d v → RC (fun b => I b ∨ (w.heap.size ≤ b ∧ b < w'.heap.size)) w' d v := fun d v h => h.move (fun b hb => hE.new b hb) (fun _ _ => rfl)
  have one : ∀ r : RC (fun b => I b ∨ (w.heap.size ≤ b ∧ b < w'.heap.size)) w' (.row n xs) (sv pl n), RC (fun b => I b ∨ (w.heap.size ≤ b ∧ b < w'.heap.size)) w' (.agg [.row n xs]) (.agg #[sv pl n]) := fun r =>
    .agg (us := [sv pl n]) rfl (fun u hu => by simp at hu; subst hu; cases pl <;> rfl) fun j d u h1 h2 => by
      cases j with
      | zero => simp at h1 h2; subst h1; subst h2; exact r
      | succ j => simp at h1
  refine one ?_
  cases pl with
  | none =>
    have hn0 : n = 0 := by
      rcases ho.2 with ⟨_, h0⟩ | ⟨g', cap', cur, h', _⟩
      · exact h0
      · simp [sv] at h'
    subst hn0
    have hu : us = [] := List.eq_nil_of_length_eq_zero (by have := ho.1; simpa using this)
    subst hu
    have hxs : xs = [] := List.eq_nil_of_length_eq_zero hx.1
    subst hxs
    exact (RC.val (.slice none 0 0) rfl).nil_row
  | some gc =>
    obtain ⟨gb, cap⟩ := gc
    have hlt := ho.lt gb rfl
    rcases ho.2 with ⟨h', _⟩ | ⟨g', cap', cur, h', _, _, hnc, hcm, _, _⟩
    · simp [sv] at h'
    · simp only [sv, Value.slice.injEq, Option.some.injEq, Addr.mk.injEq, and_true, true_and] at h'
      obtain ⟨rfl, rfl⟩ := h'
      exact .row hnc hcm (fun h => by cases h) (us := us) hx.1 (fun _ => ⟨rfl, .inr hlt⟩) (ownsRow_lies ho) hx.2.1 fun j d u a b => mv _ _ (hx.2.2 j d u a b)
theorem go_cA {f : Nat} {c : Operand} {args : Array Operand} {ats : Array TypeId} {es ds cs xs : List D} {e : TypeId} {size n : Nat} (hc : St.ev ⟨nb, sz, tmp, mem⟩ c = some (.fn f es cs)) (hd : St.evs ⟨nb, sz, tmp, mem⟩ args.toList = some ds) (h : DFA P f (es ++ ds ++ cs) e size n xs)
    (k : T P ops rest ⟨nb + 1, sz, (t, .agg [.own nb n]) :: tmp, (nb, some ⟨e, size, n, xs⟩) :: mem⟩ K)
    (hcl : D.idsL (fun _ => false) (es ++ ds ++ cs) = true := by first | rfl | assumption) (hg : St.guard ⟨nb, sz, tmp, mem⟩ ops ⟨some t, .call { callee := .value c, args := args, argTypes := ats }, ty, pos, af, gd⟩ = some true := by rfl) (ht : Nat.blt t sz = true := by rfl) : T P ops (⟨some t, .call { callee := .value c, args := args, argTypes := ats }, ty, pos, af, gd⟩ :: rest) ⟨nb, sz, tmp, mem⟩ K :=
  T_of_wp hg fun w0 I0 ρ I a w Q next g hk q => by
    obtain ⟨us, vs, h1, h2, h3⟩ := call_args g hc hd hcl
    unfold Oper.wp
    rw [exec_call (o := ⟨some t, .call { callee := .value c, args := args, argTypes := ats }, ty, pos, af, gd⟩) h.fn rfl h1]
    refine (h.calls w I _ g.lt h2 h3).mono ?_
    rintro e' w' ⟨pl, us', I', rfl, hE, ho, hx, hnot⟩
    have g1 := g.ext hE
    have hle := Below.size g.later
    have g2 := g1.renew ⟨e, size, n, xs⟩ mem pl none (us := us') (grown_refl w' none) (fun k hk => by cases hk) (fun b m h => ⟨h, fun k c _ hh => by cases hh⟩)
      (fun b m k c c' h hk hk' => by
        subst hk'
        have p1 := ((g.mem b m h).lt hk).2
        have p2 := (ho.lt k rfl).1
        omega)
      (fun k c hk => hnot k c hk) (owns_base ho hle) hx.ra
    have hnew : RA (upd ρ nb pl) (nb + 1) I' w' (.own nb n) (sv pl n) := by
      have h := RA.own (ρ := upd ρ nb pl) (nb := nb + 1) (I := I') (w := w') (b := nb) (n := n) (Nat.lt_succ_self _) (fun h => by
        rw [upd_same] at h
        subst h
        rcases ho.2 with ⟨_, h0⟩ | ⟨g', cap', cur, h', _⟩
        · exact h0
        · simp [sv] at h')
      rw [upd_same] at h
      exact h
    have hagg : RA (upd ρ nb pl) (nb + 1) I' w' (.agg [.own nb n]) (.agg #[sv pl n]) := .agg (us := [sv pl n]) rfl (fun u hu => by simp at hu; subst hu; cases pl <;> rfl) fun j d u h1 h2 => by
      cases j with
      | zero => simp at h1 h2; subst h1; subst h2; exact hnew
      | succ j => simp at h1
    exact hk _ _ (k.h w0 I0 _ I' _ _ Q (g2.put (by simpa using ht) hagg) q)
/-- a function that turns the cells of a row of the caller's own -/
structure DR (P : Program) (f : Nat) (e : TypeId) (size n : Nat) (xs xs' : List D) : Prop where
  fn : ∃ fn, P.funcs[f]? = some fn ∧ (fn.name == "runtime.NumGoroutine") = false ∧ fn.body.isNone = false
  vals : ∃ vs vs' : List Value, xs = vs.map D.val ∧ xs' = vs'.map D.val ∧ (∀ v ∈ vs', v.oneCell' = true) ∧ vs.length = vs'.length ∧ ∀ (base : Nat) (w : World) (pl : Option (Nat × Nat)), w.ownsRow base e size (sv pl n) n vs →
    Calls P f #[sv pl n] w fun e' w' => e' = .returned (.tuple #[]) ∧ w'.ownsRow base e size (sv pl n) n vs' ∧ w.grownBy w' (sv pl n).ownBlock
theorem putAt_all {α : Type} {xs ys : List α} (h : xs.length = ys.length) : putAt xs 0 ys = ys := by
  have key : ∀ (ys xs pre : List α), xs.length = ys.length → putAt (pre ++ xs) pre.length ys = pre ++ ys := by
    intro ys
    induction ys with
    | nil => intro xs pre h; have : xs = [] := List.eq_nil_of_length_eq_zero h; subst this; rfl
    | cons y ys ih =>
      intro xs pre h
      cases xs with
      | nil => cases h
      | cons x xs =>
        rw [putAt]
        have e : (pre ++ x :: xs).set pre.length y = (pre ++ [y]) ++ xs := by
          rw [List.set_append_right _ _ (Nat.le_refl _), Nat.sub_self]; simp
        have := ih xs (pre ++ [y]) (by simpa using h)
        rw [e]
        simpa using this
  exact key ys xs [] h
theorem vals_eq {vs us : List Value} (h : AllRA ρ nb I w (vs.map D.val) us) : us = vs := by
  refine List.ext_getElem (by have := h.1; simpa using this.symm) fun j a b => ?_
  exact (h.2.2 j (.val vs[j]) us[j] (by rw [List.getElem?_map, List.getElem?_eq_getElem b]; rfl) (List.getElem?_eq_getElem a)).val_eq
theorem go_rev {f b n size : Nat} {c : Operand} {args : Array Operand} {ats : Array TypeId} {xs xs' : List D} {e : TypeId} (h : DR P f e size n xs xs')
    (k : T P ops rest ⟨nb, sz, (t, .tup []) :: tmp, (b, some ⟨e, size, n, xs'⟩) :: mem⟩ K) (hc : St.ev ⟨nb, sz, tmp, mem⟩ c = some (.fn f [] []) := by rfl) (hd : St.evs ⟨nb, sz, tmp, mem⟩ args.toList = some [.own b n] := by rfl) (hm : getM b mem = some ⟨e, size, n, xs⟩ := by rfl)
    (hg : St.guard ⟨nb, sz, tmp, mem⟩ ops ⟨some t, .call { callee := .value c, args := args, argTypes := ats }, ty, pos, af, gd⟩ = some true := by rfl) (ht : Nat.blt t sz = true := by rfl) : T P ops (⟨some t, .call { callee := .value c, args := args, argTypes := ats }, ty, pos, af, gd⟩ :: rest) ⟨nb, sz, tmp, mem⟩ K :=
  T_of_wp hg fun w0 I0 ρ I a w Q next g hk q => by
    obtain ⟨vs, vs', rfl, rfl, h1c, hlen, hcalls⟩ := h.vals
    obtain ⟨hb, ⟨us, ho, hx⟩, hnot⟩ := (g.mem b _ hm).parts
    obtain rfl := vals_eq hx
    have hf : a.eval c = .func (.func f) #[] #[] := by
      have hh := g.ev hc
      generalize a.eval c = v at hh
      have nil0 : ∀ us : List Value, ([] : List D).length = us.length → us = [] := fun us h => List.eq_nil_of_length_eq_zero h.symm
      cases hh with
      | im hh => cases hh with | fn hl hk hr hq => rw [nil0 _ hl, nil0 _ hk]
      | fn hl hk hr hq => rw [nil0 _ hl, nil0 _ hk]
    obtain ⟨h6, h7⟩ := g.evs hd
    obtain ⟨u, hu⟩ : ∃ u, args.toList.map a.eval = [u] := by
      match he : args.toList.map a.eval, h6 with
      | [u], _ => exact ⟨u, rfl⟩
    obtain ⟨rfl, h0⟩ := own_eq (h7 0 _ u rfl (by rw [hu]; rfl))
    unfold Oper.wp
    rw [exec_call (o := ⟨some t, .call { callee := .value c, args := args, argTypes := ats }, ty, pos, af, gd⟩) (es := []) (cs := []) h.fn rfl hf, hu]
    refine (hcalls w0.heap.size w (ρ b) ho).mono ?_
    rintro e' w' ⟨rfl, ho', hgr⟩
    have hall : AllRA ρ nb I w (vs'.map D.val) vs' := ⟨by simp, h1c, fun j d u a b => by
      rw [List.getElem?_map] at a
      rw [b] at a
      cases a
      exact .im (.val _ (h1c u (List.mem_of_getElem? b)))⟩
    have e1 : putAt (us.map D.val) 0 (vs'.map D.val) = vs'.map D.val := putAt_all (by simp [hlen])
    have e2 : putAt us 0 vs' = vs' := putAt_all hlen
    have g2 : G w0 I0 ⟨nb, sz, tmp, (b, some ⟨e, size, n, vs'.map D.val⟩) :: mem⟩ ρ I a w' := by
      cases hρ : ρ b with
      | some gc =>
        obtain ⟨gb, cap⟩ := gc
        have h := g.stored (us' := []) hm hρ (ys := vs'.map D.val) (off := 0) (w' := w') (vs := vs') (us := us) (by rw [hρ] at hgr; exact hgr) hx hall (by rw [hρ] at ho'; rw [e2]; exact ho')
        simp only [e1] at h
        exact h
      | none =>
        rw [hρ] at ho ho' hgr
        have hn0 := h0 hρ
        subst hn0
        have hv0 : us = [] := List.eq_nil_of_length_eq_zero (by have := ho.1; simpa using this)
        have hv0' : vs' = [] := List.eq_nil_of_length_eq_zero (by have := ho'.1; simpa using this)
        subst hv0; subst hv0'
        have hgr' : w.grownBy w' none := hgr
        have hl : Later w w' := ⟨hgr'.os, hgr'.tape, hgr'.output, hgr'.size, fun k hk => hgr'.block k hk (by simp)⟩
        have g1 := g.ext (Ext.same (I := I) hl)
        have := g1.recell (c := b) (m := ⟨e, size, 0, []⟩) (xs' := []) hm (fun us h => h)
        exact this
    exact hk _ _ (k.h w0 I0 ρ I _ _ Q (g2.put (d := .tup []) (by simpa using ht) undef_tup) q)
/-- more operations that write: premises that the context names -/
theorem gx {S' : St} (k : T P ops rest S' K) (h : MS P ops o S S' := by
    first
    | (apply R_psh; exact ⟨fun _ _ k => T_push rfl rfl rfl rfl rfl rfl rfl (by assumption) (by omega) (by omega) k⟩)
    | (apply R_stoA; exact ⟨fun _ _ k => T_storeAgg rfl rfl rfl rfl TySz.size rfl (by omega) (by assumption) k⟩)
    | (apply R_stoC; exact ⟨fun _ _ k => T_storeOne rfl rfl rfl rfl TySz.size rfl (by omega) (by assumption) k⟩)) : T P ops (o :: rest) S K := h.h rest K k
section
variable {nb0 i : Nat} {bs : Nat → List (Nat × D)} {mem0 : List (Nat × Option M)} {l : List Oper} {KA : Acc → Prop}
variable {fs : Fs} {al : List (Nat × Nat × M)} {ch : List Lk} {nd : List (Nat × List Nat)}
/-- a call that makes a row of its own, in a region that draws its order -/
theorem vcF {j : Nat} {f : Nat} {c : Operand} {args : Array Operand} {ats : Array TypeId} {es ds cs xs : List D} {e : TypeId} {size n : Nat} (h : DF P f (es ++ ds ++ cs) e size n xs)
    (k : Walk P ops sz bs nb0 mem0 l j ⟨(i, (t, .own (pickN nb0 al ch) n) :: pickT nb0 al ch) :: fs, al, ⟨i, pickN nb0 al ch + 1, (pickN nb0 al ch, some ⟨e, size, n, xs⟩) :: pickM nb0 mem0 al ch, (((pickN nb0 al ch, some (⟨e, size, n, xs⟩ : M)) :: pickM nb0 mem0 al ch).take (((pickN nb0 al ch, some (⟨e, size, n, xs⟩ : M)) :: pickM nb0 mem0 al ch).length - (curMem mem0 ch).length)).map (·.1)⟩ :: ch, nd⟩ KA)
    (hc : ∀ extra, St.ev ⟨pickN nb0 al ch, sz, pickT nb0 al ch ++ (depX ⟨some t, .call { callee := .value c, args := args, argTypes := ats }, ty, pos, af, gd⟩ (bs i) fs ++ extra), pickM nb0 mem0 al ch⟩ c = some (.fn f es cs) := by intro extra; rfl)
    (hd : ∀ extra, St.evs ⟨pickN nb0 al ch, sz, pickT nb0 al ch ++ (depX ⟨some t, .call { callee := .value c, args := args, argTypes := ats }, ty, pos, af, gd⟩ (bs i) fs ++ extra), pickM nb0 mem0 al ch⟩ args.toList = some ds := by intro extra; rfl)
    (hcl : D.idsL (fun _ => false) (es ++ ds ++ cs) = true := by first | rfl | assumption) (hg : ∀ extra, St.guard ⟨pickN nb0 al ch, sz, pickT nb0 al ch ++ (depX ⟨some t, .call { callee := .value c, args := args, argTypes := ats }, ty, pos, af, gd⟩ (bs i) fs ++ extra), pickM nb0 mem0 al ch⟩ ops ⟨some t, .call { callee := .value c, args := args, argTypes := ats }, ty, pos, af, gd⟩ = some true := by intro extra; rfl) (ht : Nat.blt t sz = true := by rfl)
    (hj : i + 1 = j := by simp only [Nat.reduceAdd]; rfl) (hm : ((pickN nb0 al ch, some (⟨e, size, n, xs⟩ : M)) :: pickM nb0 mem0 al ch).drop (((pickN nb0 al ch, some (⟨e, size, n, xs⟩ : M)) :: pickM nb0 mem0 al ch).length - (curMem mem0 ch).length) = curMem mem0 ch := by rfl) :
    Walk P ops sz bs nb0 mem0 (⟨some t, .call { callee := .value c, args := args, argTypes := ats }, ty, pos, af, gd⟩ :: l) i ⟨fs, al, ch, nd⟩ KA :=
  W_t j (fun extra => ⟨fun _ _ k => go_cF (hc extra) (hd extra) h k hcl (hg extra) ht⟩) k hj hm
end
end
end Go.Proofs.Ytifapodobhkdcaa
