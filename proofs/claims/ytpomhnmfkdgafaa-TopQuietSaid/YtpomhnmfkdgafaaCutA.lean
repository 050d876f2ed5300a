/- The abstract machine: append onto a part of an own row that has no room (no program in sight). -/
import Derived.Test.YtpomhnmfkdgafaaRun
namespace Go.Proofs.Ytpomhnmfkdgafaa
open Go.RowKit
set_option linter.unusedVariables false
set_option linter.unusedSimpArgs false
section
variable {P : Program} {ops : Array Oper} {S : St} {K : St → Prop} {o : Oper} {rest : List Oper} {x y : Operand} {T' : TypeId} {w0 : World} {I0 : Bs} {ρ : Rho} {I : Nat → Prop} {a : Act} {w w' : World}
variable {nb sz : Nat} {tmp : List (Nat × D)} {mem : List (Nat × Option M)} {t : Nat} {op : Op} {ty : TypeId} {pos : String} {af : Array Edge} {gd : Option (Nat × Bool)}
def AllRC (I : Nat → Prop) (w : World) (xs : List D) (us : List Value) : Prop := xs.length = us.length ∧ (∀ u ∈ us, u.oneCell' = true) ∧ ∀ (j : Nat) (d : D) (u : Value), xs[j]? = some d → us[j]? = some u → RC I w d u
theorem AllRC.ra {xs : List D} {us : List Value} (h : AllRC I w xs us) : AllRA ρ nb I w xs us := ⟨h.1, h.2.1, fun j d u h1 h2 => .im (h.2.2 j d u h1 h2)⟩
theorem owns_base {base base' : Nat} {e : TypeId} {size n : Nat} {v : Value} {us : List Value} (h : w.ownsRow base e size v n us) (hb : base' ≤ base) : w.ownsRow base' e size v n us := by
  refine ⟨h.1, ?_⟩
  rcases h.2 with hn | ⟨g, cap, cur, hv, hg, rest⟩
  · exact .inl hn
  · exact .inr ⟨g, cap, cur, hv, Nat.le_trans hb hg, rest⟩
/-- a function that returns a row of its own -/
structure DF (P : Program) (f : Nat) (ds : List D) (e : TypeId) (size n : Nat) (xs : List D) : Prop where
  fn : ∃ fn, P.funcs[f]? = some fn ∧ (fn.name == "runtime.NumGoroutine") = false ∧ fn.body.isNone = false
  calls : ∀ (w : World) (I : Nat → Prop) (vs : List Value), (∀ b, I b → b < w.heap.size) → ds.length = vs.length → (∀ (j : Nat) (d : D) (v : Value), ds[j]? = some d → vs[j]? = some v → RC I w d v) →
    Calls P f vs.toArray w fun e' w' => ∃ pl us I', e' = .returned (sv pl n) ∧ Ext I w I' w' ∧ w'.ownsRow w.heap.size e size (sv pl n) n us ∧ AllRC I' w' xs us ∧ ∀ g c, pl = some (g, c) → ¬ I' g
def kEndF0 (P : Program) (t : Nat) (e : TypeId) (size n : Nat) (xs : List D) : Exit → St → Prop
  | .normal, S | .ret, S => ∃ S' b, Wk S S' ∧ look t S'.tmp = some (.own b n) ∧ getM b S'.mem = some ⟨e, size, n, xs⟩ ∧ D.idsL (fun _ => false) xs = true
  | _, _ => False
structure kEndF (P : Program) (t : Nat) (e : TypeId) (size n : Nat) (xs : List D) (ex : Exit) (S : St) : Prop where
  h : kEndF0 P t e size n xs ex S
theorem kEndF_r {e : TypeId} {size n b : Nat} {xs : List D} {S S' : St} (h : Wk S S') (h1 : look t S'.tmp = some (.own b n)) (h2 : getM b S'.mem = some ⟨e, size, n, xs⟩) (h3 : D.idsL (fun _ => false) xs = true) : kEndF P t e size n xs .ret S := ⟨⟨S', b, h, h1, h2, h3⟩⟩
theorem kEndF_n {e : TypeId} {size n b : Nat} {xs : List D} {S S' : St} (h : Wk S S') (h1 : look t S'.tmp = some (.own b n)) (h2 : getM b S'.mem = some ⟨e, size, n, xs⟩) (h3 : D.idsL (fun _ => false) xs = true) : kEndF P t e size n xs .normal S := ⟨⟨S', b, h, h1, h2, h3⟩⟩
theorem own_eq {b n : Nat} {v : Value} (h : RA ρ nb I w (.own b n) v) : v = sv (ρ b) n ∧ (ρ b = none → n = 0) := by
  cases h with
  | im h => cases h
  | own hb h0 => exact ⟨rfl, h0⟩
theorem DF.of {f : Nat} {fn : Func} {c : Code} {ds : List D} {t : Nat} {e : TypeId} {size n : Nat} {xs : List D} (hf : P.funcs[f]? = some fn) (hsz : fn.ntmps = sz) (hrs : fn.results = #[.tmp t]) (hb : fn.body = some c) (hn : (fn.name == "runtime.NumGoroutine") = false) (hs : Nat.ble ds.length sz = true)
    (h : C P c ⟨0, sz, slots 0 ds, []⟩ (kEndF P t e size n xs)) : DF P f ds e size n xs := by
  subst hsz
  refine ⟨⟨fn, hf, hn, by rw [hb]; rfl⟩, fun w I vs hI hl hv => ?_⟩
  have hs := Nat.le_of_ble_eq_true hs
  refine calls_of_wp hf hb (h.h w ⟨I, fun b => w.heap[b]?⟩ (fun _ => none) I _ w _ ?_ ?_)
  · refine ⟨Later.refl w, hI, fun b h => .inl h, fun b h => ⟨h, rfl⟩, rfl, by simp; omega, fun t d ht => ?_, (fun b m h => by cases h), (fun b m b' m' h => by cases h)⟩
    obtain ⟨_, h2⟩ := look_slots ht
    have hlt := (List.getElem?_eq_some_iff.1 h2).1
    rw [Nat.sub_zero] at h2 hlt
    have e : (vs.toArray ++ Array.replicate (fn.ntmps - vs.toArray.size) undef).getD t undef = vs[t]'(by omega) := by
      simp [Array.getElem?_append, show t < vs.length by omega]
    rw [e]
    exact .im (hv t d _ h2 (List.getElem?_eq_getElem (by omega)))
  · intro e' S' ρ' I' a' w' hk g
    have key : ∀ S1 b, Wk S' S1 → look t S1.tmp = some (.own b n) → getM b S1.mem = some ⟨e, size, n, xs⟩ → D.idsL (fun _ => false) xs = true → a'.defers = [] ∧ ∃ v, (results fn a'.tmps).run P w' = .ok v w' ∧ ∃ pl us I', Ending.returned v = .returned (sv pl n) ∧ Ext I w I' w' ∧ w'.ownsRow w.heap.size e size (sv pl n) n us ∧ AllRC I' w' xs us ∧ ∀ g c, pl = some (g, c) → ¬ I' g := by
      intro S1 b h1 h2 h3 h4
      obtain ⟨ρ2, I2, g2⟩ := h1 _ _ _ _ _ _ g
      have hr : ResV P S1 fn.results.toList [.own b n] := by rw [hrs]; exact .tmp h2 .nil
      obtain ⟨v, hr, hv⟩ := results_run g2 hr
      obtain ⟨rfl, h0⟩ := own_eq (show RA ρ2 S1.nb I2 w' (.own b n) v from hv)
      obtain ⟨_, ⟨us, ho, hx⟩, hnot⟩ := (g2.mem b _ h3).parts
      exact ⟨g2.defers, _, hr, ρ2 b, us, I2, rfl, ⟨fun b hb => (g2.old b hb).1, fun b hb => (g2.base b hb).elim .inl fun h => .inr ⟨h, g2.lt b hb⟩, g2.later⟩, ho, ⟨hx.1, hx.2.1, fun j d u a b => (hx.2.2 j d u a b).closed (idsL_mem h4 j d a)⟩, hnot⟩
    replace hk := hk.h
    cases e' with
    | normal => obtain ⟨S1, b, h1, h2, h3, h4⟩ := hk; exact key S1 b h1 h2 h3 h4
    | ret => obtain ⟨S1, b, h1, h2, h3, h4⟩ := hk; exact key S1 b h1 h2 h3 h4
    | _ => exact hk.elim
/-- the row as one that is no more written to -/
theorem DF.dc {f : Nat} {ds : List D} {e : TypeId} {size n : Nat} {xs : List D} (h : DF P f ds e size n xs) : DC P f ds (.row n xs) := by
  refine ⟨h.fn, fun w I vs hI hl hv => (h.calls w I vs hI hl hv).mono ?_⟩
  rintro e' w' ⟨pl, us, I', rfl, hE, ho, hx, hnot⟩
  refine ⟨_, rfl, ?_, hE.later⟩
  have mv : ∀ d v, RC I' w' d v → RC (fun b => I b ∨ (w.heap.size ≤ b ∧ b < w'.heap.size)) w' d v := fun d v h => h.move (fun b hb => hE.new b hb) (fun _ _ => rfl)
  cases pl with
  | none =>
    have hn0 : n = 0 := by
      rcases ho.2 with ⟨_, h0⟩ | ⟨g', cap', cur, h', _⟩
      · exact h0
      · simp [sv] at h'
    subst hn0
    have hu : us = [] := List.eq_nil_of_length_eq_zero (by have := ho.1; simpa using this)
    subst hu
    have hxs : xs = [] := List.eq_nil_of_length_eq_zero hx.1
    subst hxs
    exact (RC.val (.slice none 0 0) rfl).nil_row
  | some gc =>
    obtain ⟨gb, cap⟩ := gc
    have hlt := ho.lt gb rfl
    rcases ho.2 with ⟨h', _⟩ | ⟨g', cap', cur, h', _, _, hnc, hcm, _, _⟩
    · simp [sv] at h'
    · simp only [sv, Value.slice.injEq, Option.some.injEq, Addr.mk.injEq, and_true, true_and] at h'
      obtain ⟨rfl, rfl⟩ := h'
      exact .row hnc hcm (fun h => by cases h) (us := us) hx.1 (fun _ => ⟨rfl, .inr hlt⟩) (ownsRow_lies ho) hx.2.1 fun j d u a b => mv _ _ (hx.2.2 j d u a b)
theorem call_args {f : Nat} {c : Operand} {args : Array Operand} {es ds cs : List D} (g : G w0 I0 S ρ I a w) (hc : S.ev c = some (.fn f es cs)) (hd : S.evs args.toList = some ds) (hcl : D.idsL (fun _ => false) (es ++ ds ++ cs) = true) :
    ∃ us vs : List Value, a.eval c = .func (.func f) us.toArray vs.toArray ∧ (es ++ ds ++ cs).length = (us ++ args.toList.map a.eval ++ vs).length ∧ ∀ (j : Nat) (d : D) (v : Value), (es ++ ds ++ cs)[j]? = some d → (us ++ args.toList.map a.eval ++ vs)[j]? = some v → RC I w d v := by
  obtain ⟨us, vs, h1, h2, h3, h4, h5⟩ : ∃ us vs : List Value, a.eval c = .func (.func f) us.toArray vs.toArray ∧ es.length = us.length ∧ cs.length = vs.length ∧ (∀ (j : Nat) (d : D) (u : Value), es[j]? = some d → us[j]? = some u → RA ρ S.nb I w d u) ∧ (∀ (j : Nat) (d : D) (u : Value), cs[j]? = some d → vs[j]? = some u → RA ρ S.nb I w d u) := by
    have hh := g.ev hc
    generalize a.eval c = v at hh
    cases hh with
    | im hh => cases hh with | fn hl hk hr hq => exact ⟨_, _, rfl, hl, hk, fun j d u h1 h2 => .im (hr j d u h1 h2), fun j d u h1 h2 => .im (hq j d u h1 h2)⟩
    | fn hl hk hr hq => exact ⟨_, _, rfl, hl, hk, hr, hq⟩
  obtain ⟨h6, h7⟩ := g.evs hd
  refine ⟨us, vs, h1, by simp only [List.length_append]; omega, fun j d v hj hv => ?_⟩
  refine RA.closed (ρ := ρ) (nb := S.nb) ?_ (idsL_mem hcl j d hj)
  by_cases j1 : j < es.length
  · rw [List.append_assoc, List.getElem?_append_left j1] at hj
    rw [List.append_assoc, List.getElem?_append_left (by omega)] at hv
    exact h4 j d v hj hv
  · rw [List.append_assoc, List.getElem?_append_right (by omega)] at hj
    rw [List.append_assoc, List.getElem?_append_right (by omega)] at hv
    by_cases j2 : j - es.length < ds.length
    · rw [List.getElem?_append_left j2] at hj
      rw [List.getElem?_append_left (by omega)] at hv
      exact h7 _ d v hj (by rw [h2]; exact hv)
    · rw [List.getElem?_append_right (by omega)] at hj
      rw [List.getElem?_append_right (by omega)] at hv
      exact h5 _ d v hj (by rw [h2, h6]; exact hv)
theorem go_cF {f : Nat} {c : Operand} {args : Array Operand} {ats : Array TypeId} {es ds cs xs : List D} {e : TypeId} {size n : Nat} (hc : St.ev ⟨nb, sz, tmp, mem⟩ c = some (.fn f es cs)) (hd : St.evs ⟨nb, sz, tmp, mem⟩ args.toList = some ds) (h : DF P f (es ++ ds ++ cs) e size n xs)
    (k : T P ops rest ⟨nb + 1, sz, (t, .own nb n) :: tmp, (nb, some ⟨e, size, n, xs⟩) :: mem⟩ K)
    (hcl : D.idsL (fun _ => false) (es ++ ds ++ cs) = true := by first | rfl | assumption) (hg : St.guard ⟨nb, sz, tmp, mem⟩ ops ⟨some t, .call { callee := .value c, args := args, argTypes := ats }, ty, pos, af, gd⟩ = some true := by rfl) (ht : Nat.blt t sz = true := by rfl) : T P ops (⟨some t, .call { callee := .value c, args := args, argTypes := ats }, ty, pos, af, gd⟩ :: rest) ⟨nb, sz, tmp, mem⟩ K :=
  T_of_wp hg fun w0 I0 ρ I a w Q next g hk q => by
    obtain ⟨us, vs, h1, h2, h3⟩ := call_args g hc hd hcl
    unfold Oper.wp
    rw [exec_call (o := ⟨some t, .call { callee := .value c, args := args, argTypes := ats }, ty, pos, af, gd⟩) h.fn rfl h1]
    refine (h.calls w I _ g.lt h2 h3).mono ?_
    rintro e' w' ⟨pl, us', I', rfl, hE, ho, hx, hnot⟩
    have g1 := g.ext hE
    have hle := Below.size g.later
    have g2 := g1.renew ⟨e, size, n, xs⟩ mem pl none (us := us') (grown_refl w' none) (fun k hk => by cases hk) (fun b m h => ⟨h, fun k c _ hh => by cases hh⟩)
      (fun b m k c c' h hk hk' => by
        subst hk'
        have p1 := ((g.mem b m h).lt hk).2
        have p2 := (ho.lt k rfl).1
        omega)
      (fun k c hk => hnot k c hk) (owns_base ho hle) hx.ra
    have hnew : RA (upd ρ nb pl) (nb + 1) I' w' (.own nb n) (sv pl n) := by
      have h := RA.own (ρ := upd ρ nb pl) (nb := nb + 1) (I := I') (w := w') (b := nb) (n := n) (Nat.lt_succ_self _) (fun h => by
        rw [upd_same] at h
        subst h
        rcases ho.2 with ⟨_, h0⟩ | ⟨g', cap', cur, h', _⟩
        · exact h0
        · simp [sv] at h')
      rw [upd_same] at h
      exact h
    exact hk _ _ (k.h w0 I0 _ I' _ _ Q (g2.put (by simpa using ht) hnew) q)
/-- a function that returns a struct of one field, a row of its own -/
structure DFA (P : Program) (f : Nat) (ds : List D) (e : TypeId) (size n : Nat) (xs : List D) : Prop where
  fn : ∃ fn, P.funcs[f]? = some fn ∧ (fn.name == "runtime.NumGoroutine") = false ∧ fn.body.isNone = false
  calls : ∀ (w : World) (I : Nat → Prop) (vs : List Value), (∀ b, I b → b < w.heap.size) → ds.length = vs.length → (∀ (j : Nat) (d : D) (v : Value), ds[j]? = some d → vs[j]? = some v → RC I w d v) →
    Calls P f vs.toArray w fun e' w' => ∃ pl us I', e' = .returned (.agg #[sv pl n]) ∧ Ext I w I' w' ∧ w'.ownsRow w.heap.size e size (sv pl n) n us ∧ AllRC I' w' xs us ∧ ∀ g c, pl = some (g, c) → ¬ I' g
def kEndA0 (P : Program) (rs : List ResultVar) (e : TypeId) (size n : Nat) (xs : List D) : Exit → St → Prop
  | .normal, S | .ret, S => ∃ S' b, Wk S S' ∧ ResV P S' rs [.agg [.own b n]] ∧ getM b S'.mem = some ⟨e, size, n, xs⟩ ∧ D.idsL (fun _ => false) xs = true
  | _, _ => False
structure kEndA (P : Program) (rs : List ResultVar) (e : TypeId) (size n : Nat) (xs : List D) (ex : Exit) (S : St) : Prop where
  h : kEndA0 P rs e size n xs ex S
theorem kEndA_g {rs : List ResultVar} {e : TypeId} {size n b : Nat} {xs : List D} {S : St} {ex : Exit} (he : ex = .ret ∨ ex = .normal) (h1 : ResV P S rs [.agg [.own b n]]) (h2 : getM b S.mem = some ⟨e, size, n, xs⟩) (h3 : D.idsL (fun _ => false) xs = true) : kEndA P rs e size n xs ex S := by
  rcases he with rfl | rfl <;> exact ⟨⟨S, b, Wk.refl _, h1, h2, h3⟩⟩
theorem DFA.of {f : Nat} {fn : Func} {c : Code} {ds : List D} {rs : List ResultVar} {e : TypeId} {size n : Nat} {xs : List D} (hf : P.funcs[f]? = some fn) (hsz : fn.ntmps = sz) (hrs : fn.results = rs.toArray) (hb : fn.body = some c) (hn : (fn.name == "runtime.NumGoroutine") = false) (hs : Nat.ble ds.length sz = true)
    (h : C P c ⟨0, sz, slots 0 ds, []⟩ (kEndA P rs e size n xs)) : DFA P f ds e size n xs := by
  subst hsz
  obtain rfl : rs = fn.results.toList := by rw [hrs]
  refine ⟨⟨fn, hf, hn, by rw [hb]; rfl⟩, fun w I vs hI hl hv => ?_⟩
  have hs := Nat.le_of_ble_eq_true hs
  refine calls_of_wp hf hb (h.h w ⟨I, fun b => w.heap[b]?⟩ (fun _ => none) I _ w _ ?_ ?_)
  · refine ⟨Later.refl w, hI, fun b h => .inl h, fun b h => ⟨h, rfl⟩, rfl, by simp; omega, fun t d ht => ?_, (fun b m h => by cases h), (fun b m b' m' h => by cases h)⟩
    obtain ⟨_, h2⟩ := look_slots ht
    have hlt := (List.getElem?_eq_some_iff.1 h2).1
    rw [Nat.sub_zero] at h2 hlt
    have e : (vs.toArray ++ Array.replicate (fn.ntmps - vs.toArray.size) undef).getD t undef = vs[t]'(by omega) := by
      simp [Array.getElem?_append, show t < vs.length by omega]
    rw [e]
    exact .im (hv t d _ h2 (List.getElem?_eq_getElem (by omega)))
  · intro e' S' ρ' I' a' w' hk g
    have key : ∀ S1 b, Wk S' S1 → ResV P S1 fn.results.toList [.agg [.own b n]] → getM b S1.mem = some ⟨e, size, n, xs⟩ → D.idsL (fun _ => false) xs = true → a'.defers = [] ∧ ∃ v, (results fn a'.tmps).run P w' = .ok v w' ∧ ∃ pl us I', Ending.returned v = .returned (.agg #[sv pl n]) ∧ Ext I w I' w' ∧ w'.ownsRow w.heap.size e size (sv pl n) n us ∧ AllRC I' w' xs us ∧ ∀ g c, pl = some (g, c) → ¬ I' g := by
      intro S1 b h1 hr h3 h4
      obtain ⟨ρ2, I2, g2⟩ := h1 _ _ _ _ _ _ g
      obtain ⟨v, hr, hv⟩ := results_run g2 hr
      obtain ⟨us1, rfl, q1, q2, q3⟩ := (show RA ρ2 S1.nb I2 w' (.agg [.own b n]) v from hv).cells
      obtain ⟨u, rfl⟩ : ∃ u, us1 = [u] := by
        match us1, q1 with
        | [u], _ => exact ⟨u, rfl⟩
      obtain ⟨rfl, h0⟩ := own_eq (q3 0 _ _ rfl rfl)
      obtain ⟨_, ⟨us, ho, hx⟩, hnot⟩ := (g2.mem b _ h3).parts
      exact ⟨g2.defers, _, hr, ρ2 b, us, I2, rfl, ⟨fun b hb => (g2.old b hb).1, fun b hb => (g2.base b hb).elim .inl fun h => .inr ⟨h, g2.lt b hb⟩, g2.later⟩, ho, ⟨hx.1, hx.2.1, fun j d u a b => (hx.2.2 j d u a b).closed (idsL_mem h4 j d a)⟩, hnot⟩
    replace hk := hk.h
    cases e' with
    | normal => obtain ⟨S1, b, h1, h2, h3, h4⟩ := hk; exact key S1 b h1 h2 h3 h4
    | ret => obtain ⟨S1, b, h1, h2, h3, h4⟩ := hk; exact key S1 b h1 h2 h3 h4
    | _ => exact hk.elim
theorem DFA.dc {f : Nat} {ds : List D} {e : TypeId} {size n : Nat} {xs : List D} (h : DFA P f ds e size n xs) : DC P f ds (.agg [.row n xs]) := by
  refine ⟨h.fn, fun w I vs hI hl hv => (h.calls w I vs hI hl hv).mono ?_⟩
  rintro e' w' ⟨pl, us, I', rfl, hE, ho, hx, hnot⟩
  refine ⟨_, rfl, ?_, hE.later⟩
  have mv : ∀ d v, RC I' w' d v → RC (fun b => I b ∨ (w.heap.size ≤ b ∧ b < w'.heap.size)) w' d v := fun d v h => h.move (fun b hb => hE.new b hb) (fun _ _ => rfl)
  have one : ∀ r : RC (fun b => I b ∨ (w.heap.size ≤ b ∧ b < w'.heap.size)) w' (.row n xs) (sv pl n), RC (fun b => I b ∨ (w.heap.size ≤ b ∧ b < w'.heap.size)) w' (.agg [.row n xs]) (.agg #[sv pl n]) := fun r =>
    .agg (us := [sv pl n]) rfl (fun u hu => by simp at hu; subst hu; cases pl <;> rfl) fun j d u h1 h2 => by
      cases j with
      | zero => simp at h1 h2; subst h1; subst h2; exact r
      | succ j => simp at h1
  refine one ?_
  cases pl with
  | none =>
    have hn0 : n = 0 := by
      rcases ho.2 with ⟨_, h0⟩ | ⟨g', cap', cur, h', _⟩
      · exact h0
      · simp [sv] at h'
    subst hn0
    have hu : us = [] := List.eq_nil_of_length_eq_zero (by have := ho.1; simpa using this)
    subst hu
    have hxs : xs = [] := List.eq_nil_of_length_eq_zero hx.1
    subst hxs
    exact (RC.val (.slice none 0 0) rfl).nil_row
  | some gc =>
    obtain ⟨gb, cap⟩ := gc
    have hlt := ho.lt gb rfl
    rcases ho.2 with ⟨h', _⟩ | ⟨g', cap', cur, h', _, _, hnc, hcm, _, _⟩
    · simp [sv] at h'
    · simp only [sv, Value.slice.injEq, Option.some.injEq, Addr.mk.injEq, and_true, true_and] at h'
      obtain ⟨rfl, rfl⟩ := h'
      exact .row hnc hcm (fun h => by cases h) (us := us) hx.1 (fun _ => ⟨rfl, .inr hlt⟩) (ownsRow_lies ho) hx.2.1 fun j d u a b => mv _ _ (hx.2.2 j d u a b)
theorem go_cA {f : Nat} {c : Operand} {args : Array Operand} {ats : Array TypeId} {es ds cs xs : List D} {e : TypeId} {size n : Nat} (hc : St.ev ⟨nb, sz, tmp, mem⟩ c = some (.fn f es cs)) (hd : St.evs ⟨nb, sz, tmp, mem⟩ args.toList = some ds) (h : DFA P f (es ++ ds ++ cs) e size n xs)
    (k : T P ops rest ⟨nb + 1, sz, (t, .agg [.own nb n]) :: tmp, (nb, some ⟨e, size, n, xs⟩) :: mem⟩ K)
    (hcl : D.idsL (fun _ => false) (es ++ ds ++ cs) = true := by first | rfl | assumption) (hg : St.guard ⟨nb, sz, tmp, mem⟩ ops ⟨some t, .call { callee := .value c, args := args, argTypes := ats }, ty, pos, af, gd⟩ = some true := by rfl) (ht : Nat.blt t sz = true := by rfl) : T P ops (⟨some t, .call { callee := .value c, args := args, argTypes := ats }, ty, pos, af, gd⟩ :: rest) ⟨nb, sz, tmp, mem⟩ K :=
  T_of_wp hg fun w0 I0 ρ I a w Q next g hk q => by
    obtain ⟨us, vs, h1, h2, h3⟩ := call_args g hc hd hcl
    unfold Oper.wp
    rw [exec_call (o := ⟨some t, .call { callee := .value c, args := args, argTypes := ats }, ty, pos, af, gd⟩) h.fn rfl h1]
    refine (h.calls w I _ g.lt h2 h3).mono ?_
    rintro e' w' ⟨pl, us', I', rfl, hE, ho, hx, hnot⟩
    have g1 := g.ext hE
    have hle := Below.size g.later
    have g2 := g1.renew ⟨e, size, n, xs⟩ mem pl none (us := us') (grown_refl w' none) (fun k hk => by cases hk) (fun b m h => ⟨h, fun k c _ hh => by cases hh⟩)
      (fun b m k c c' h hk hk' => by
        subst hk'
        have p1 := ((g.mem b m h).lt hk).2
        have p2 := (ho.lt k rfl).1
        omega)
      (fun k c hk => hnot k c hk) (owns_base ho hle) hx.ra
    have hnew : RA (upd ρ nb pl) (nb + 1) I' w' (.own nb n) (sv pl n) := by
      have h := RA.own (ρ := upd ρ nb pl) (nb := nb + 1) (I := I') (w := w') (b := nb) (n := n) (Nat.lt_succ_self _) (fun h => by
        rw [upd_same] at h
        subst h
        rcases ho.2 with ⟨_, h0⟩ | ⟨g', cap', cur, h', _⟩
        · exact h0
        · simp [sv] at h')
      rw [upd_same] at h
      exact h
    have hagg : RA (upd ρ nb pl) (nb + 1) I' w' (.agg [.own nb n]) (.agg #[sv pl n]) := .agg (us := [sv pl n]) rfl (fun u hu => by simp at hu; subst hu; cases pl <;> rfl) fun j d u h1 h2 => by
      cases j with
      | zero => simp at h1 h2; subst h1; subst h2; exact hnew
      | succ j => simp at h1
    exact hk _ _ (k.h w0 I0 _ I' _ _ Q (g2.put (by simpa using ht) hagg) q)
/-- a function that turns the cells of a row of the caller's own -/
structure DR (P : Program) (f : Nat) (e : TypeId) (size n : Nat) (xs xs' : List D) : Prop where
  fn : ∃ fn, P.funcs[f]? = some fn ∧ (fn.name == "runtime.NumGoroutine") = false ∧ fn.body.isNone = false
  vals : ∃ vs vs' : List Value, xs = vs.map D.val ∧ xs' = vs'.map D.val ∧ (∀ v ∈ vs', v.oneCell' = true) ∧ vs.length = vs'.length ∧ ∀ (base : Nat) (w : World) (pl : Option (Nat × Nat)), w.ownsRow base e size (sv pl n) n vs →
    Calls P f #[sv pl n] w fun e' w' => e' = .returned (.tuple #[]) ∧ w'.ownsRow base e size (sv pl n) n vs' ∧ w.grownBy w' (sv pl n).ownBlock
theorem putAt_all {α : Type} {xs ys : List α} (h : xs.length = ys.length) : putAt xs 0 ys = ys := by
  have key : ∀ (ys xs pre : List α), xs.length = ys.length → putAt (pre ++ xs) pre.length ys = pre ++ ys := by
    intro ys
    induction ys with
    | nil => intro xs pre h; have : xs = [] := List.eq_nil_of_length_eq_zero h; subst this; rfl
    | cons y ys ih =>
      intro xs pre h
      cases xs with
      | nil => cases h
      | cons x xs =>
        rw [putAt]
        have e : (pre ++ x :: xs).set pre.length y = (pre ++ [y]) ++ xs := by
          rw [List.set_append_right _ _ (Nat.le_refl _), Nat.sub_self]; simp
        have := ih xs (pre ++ [y]) (by simpa using h)
        rw [e]
        simpa using this
  exact key ys xs [] h
theorem vals_eq {vs us : List Value} (h : AllRA ρ nb I w (vs.map D.val) us) : us = vs := by
  refine List.ext_getElem (by have := h.1; simpa using this.symm) fun j a b => ?_
  exact (h.2.2 j (.val vs[j]) us[j] (by rw [List.getElem?_map, List.getElem?_eq_getElem b]; rfl) (List.getElem?_eq_getElem a)).val_eq
theorem go_rev {f b n size : Nat} {c : Operand} {args : Array Operand} {ats : Array TypeId} {xs xs' : List D} {e : TypeId} (h : DR P f e size n xs xs')
    (k : T P ops rest ⟨nb, sz, (t, .tup []) :: tmp, (b, some ⟨e, size, n, xs'⟩) :: mem⟩ K) (hc : St.ev ⟨nb, sz, tmp, mem⟩ c = some (.fn f [] []) := by rfl) (hd : St.evs ⟨nb, sz, tmp, mem⟩ args.toList = some [.own b n] := by rfl) (hm : getM b mem = some ⟨e, size, n, xs⟩ := by rfl)
    (hg : St.guard ⟨nb, sz, tmp, mem⟩ ops ⟨some t, .call { callee := .value c, args := args, argTypes := ats }, ty, pos, af, gd⟩ = some true := by rfl) (ht : Nat.blt t sz = true := by rfl) : T P ops (⟨some t, .call { callee := .value c, args := args, argTypes := ats }, ty, pos, af, gd⟩ :: rest) ⟨nb, sz, tmp, mem⟩ K :=
  T_of_wp hg fun w0 I0 ρ I a w Q next g hk q => by
    obtain ⟨vs, vs', rfl, rfl, h1c, hlen, hcalls⟩ := h.vals
    obtain ⟨hb, ⟨us, ho, hx⟩, hnot⟩ := (g.mem b _ hm).parts
    obtain rfl := vals_eq hx
    have hf : a.eval c = .func (.func f) #[] #[] := by
      have hh := g.ev hc
      generalize a.eval c = v at hh
      have nil0 : ∀ us : List Value, ([] : List D).length = us.length → us = [] := fun us h => List.eq_nil_of_length_eq_zero h.symm
      cases hh with
      | im hh => cases hh with | fn hl hk hr hq => rw [nil0 _ hl, nil0 _ hk]
      | fn hl hk hr hq => rw [nil0 _ hl, nil0 _ hk]
    obtain ⟨h6, h7⟩ := g.evs hd
    obtain ⟨u, hu⟩ : ∃ u, args.toList.map a.eval = [u] := by
      match he : args.toList.map a.eval, h6 with
      | [u], _ => exact ⟨u, rfl⟩
    obtain ⟨rfl, h0⟩ := own_eq (h7 0 _ u rfl (by rw [hu]; rfl))
    unfold Oper.wp
    rw [exec_call (o := ⟨some t, .call { callee := .value c, args := args, argTypes := ats }, ty, pos, af, gd⟩) (es := []) (cs := []) h.fn rfl hf, hu]
    refine (hcalls w0.heap.size w (ρ b) ho).mono ?_
    rintro e' w' ⟨rfl, ho', hgr⟩
    have hall : AllRA ρ nb I w (vs'.map D.val) vs' := ⟨by simp, h1c, fun j d u a b => by
      rw [List.getElem?_map] at a
      rw [b] at a
      cases a
      exact .im (.val _ (h1c u (List.mem_of_getElem? b)))⟩
    have e1 : putAt (us.map D.val) 0 (vs'.map D.val) = vs'.map D.val := putAt_all (by simp [hlen])
    have e2 : putAt us 0 vs' = vs' := putAt_all hlen
    have g2 : G w0 I0 ⟨nb, sz, tmp, (b, some ⟨e, size, n, vs'.map D.val⟩) :: mem⟩ ρ I a w' := by
      cases hρ : ρ b with
      | some gc =>
        obtain ⟨gb, cap⟩ := gc
        have h := g.stored (us' := []) hm hρ (ys := vs'.map D.val) (off := 0) (w' := w') (vs := vs') (us := us) (by rw [hρ] at hgr; exact hgr) hx hall (by rw [hρ] at ho'; rw [e2]; exact ho')
        simp only [e1] at h
        exact h
      | none =>
        rw [hρ] at ho ho' hgr
        have hn0 := h0 hρ
        subst hn0
        have hv0 : us = [] := List.eq_nil_of_length_eq_zero (by have := ho.1; simpa using this)
        have hv0' : vs' = [] := List.eq_nil_of_length_eq_zero (by have := ho'.1; simpa using this)
        subst hv0; subst hv0'
        have hgr' : w.grownBy w' none := hgr
        have hl : Later w w' := ⟨hgr'.os, hgr'.tape, hgr'.output, hgr'.size, fun k hk => hgr'.block k hk (by simp)⟩
        have g1 := g.ext (Ext.same (I := I) hl)
        have := g1.recell (c := b) (m := ⟨e, size, 0, []⟩) (xs' := []) hm (fun us h => h)
        exact this
    exact hk _ _ (k.h w0 I0 ρ I _ _ Q (g2.put (d := .tup []) (by simpa using ht) undef_tup) q)
/-- more operations that write: premises that the context names -/
theorem gx {S' : St} (k : T P ops rest S' K) (h : MS P ops o S S' := by
    first
    | (apply R_psh; exact ⟨fun _ _ k => T_push rfl rfl rfl rfl rfl rfl rfl (by assumption) (by omega) (by omega) k⟩)
    | (apply R_stoA; exact ⟨fun _ _ k => T_storeAgg rfl rfl rfl rfl TySz.size rfl (by omega) (by assumption) k⟩)
    | (apply R_stoC; exact ⟨fun _ _ k => T_storeOne rfl rfl rfl rfl TySz.size rfl (by omega) (by assumption) k⟩)) : T P ops (o :: rest) S K := h.h rest K k
section
variable {nb0 i : Nat} {bs : Nat → List (Nat × D)} {mem0 : List (Nat × Option M)} {l : List Oper} {KA : Acc → Prop}
variable {fs : Fs} {al : List (Nat × Nat × Al)} {ch : List Lk} {nd : List (Nat × List Nat)}
/-- a call that makes a row of its own, in a region that draws its order -/
theorem vcF {j : Nat} {f : Nat} {c : Operand} {args : Array Operand} {ats : Array TypeId} {es ds cs xs : List D} {e : TypeId} {size n : Nat} (h : DF P f (es ++ ds ++ cs) e size n xs)
    (k : Walk P ops sz bs nb0 mem0 l j ⟨(i, (t, .own (pickN nb0 al ch) n) :: pickT nb0 al ch) :: fs, al, ⟨i, pickN nb0 al ch + 1, (pickN nb0 al ch, some ⟨e, size, n, xs⟩) :: pickM nb0 mem0 al ch, (((pickN nb0 al ch, some (⟨e, size, n, xs⟩ : M)) :: pickM nb0 mem0 al ch).take (((pickN nb0 al ch, some (⟨e, size, n, xs⟩ : M)) :: pickM nb0 mem0 al ch).length - (curMem mem0 ch).length)).map (·.1)⟩ :: ch, nd⟩ KA)
    (hc : ∀ extra, St.ev ⟨pickN nb0 al ch, sz, pickT nb0 al ch ++ (depX ⟨some t, .call { callee := .value c, args := args, argTypes := ats }, ty, pos, af, gd⟩ (bs i) fs ++ extra), pickM nb0 mem0 al ch⟩ c = some (.fn f es cs) := by intro extra; rfl)
    (hd : ∀ extra, St.evs ⟨pickN nb0 al ch, sz, pickT nb0 al ch ++ (depX ⟨some t, .call { callee := .value c, args := args, argTypes := ats }, ty, pos, af, gd⟩ (bs i) fs ++ extra), pickM nb0 mem0 al ch⟩ args.toList = some ds := by intro extra; rfl)
    (hcl : D.idsL (fun _ => false) (es ++ ds ++ cs) = true := by first | rfl | assumption) (hg : ∀ extra, St.guard ⟨pickN nb0 al ch, sz, pickT nb0 al ch ++ (depX ⟨some t, .call { callee := .value c, args := args, argTypes := ats }, ty, pos, af, gd⟩ (bs i) fs ++ extra), pickM nb0 mem0 al ch⟩ ops ⟨some t, .call { callee := .value c, args := args, argTypes := ats }, ty, pos, af, gd⟩ = some true := by intro extra; rfl) (ht : Nat.blt t sz = true := by rfl)
    (hj : i + 1 = j := by simp only [Nat.reduceAdd]; rfl) (hm : ((pickN nb0 al ch, some (⟨e, size, n, xs⟩ : M)) :: pickM nb0 mem0 al ch).drop (((pickN nb0 al ch, some (⟨e, size, n, xs⟩ : M)) :: pickM nb0 mem0 al ch).length - (curMem mem0 ch).length) = curMem mem0 ch := by rfl) :
    Walk P ops sz bs nb0 mem0 (⟨some t, .call { callee := .value c, args := args, argTypes := ats }, ty, pos, af, gd⟩ :: l) i ⟨fs, al, ch, nd⟩ KA :=
  W_t j (fun extra => ⟨fun _ _ k => go_cF (hc extra) (hd extra) h k hcl (hg extra) ht⟩) k hj hm
end
theorem wkt_im {σ : Nat → Nat} {nb' t : Nat} {d : D} {l : List (Nat × D)} (h : look t tmp = some d) (hd : d.ids (fun _ => false) = true) (k : WkT σ nb' tmp l) : WkT σ nb' tmp ((t, d) :: l) := WkT.cons h (Ren.im hd) k
theorem Wk.gx (σ : Nat → Nat) {nb' : Nat} {tmp' : List (Nat × D)} {mem' : List (Nat × Option M)} (h1 : WkT σ nb' tmp tmp' := by
    repeat (first | exact WkT.nil | refine WkT.cons rfl (Ren.im rfl) ?_ | refine WkT.cons rfl (Ren.own rfl rfl rfl) ?_ | refine WkT.cons rfl (Ren.ptr rfl rfl rfl) ?_ | (refine wkt_im rfl ?_ ?_; · assumption) | refine WkT.cons rfl (Ren.int (by omega)) ?_ | refine WkT.cons rfl (Ren.own rfl rfl (by omega)) ?_ | refine WkT.cons rfl (Ren.eq (by assumption) rfl) ?_))
    (h2 : WkM σ nb' mem mem' := by
    repeat (first | exact WkM.nil | refine WkM.cons rfl rfl rfl (RenL.im rfl rfl) ?_ | refine WkM.cons rfl rfl rfl (RenL.cons (Ren.own rfl rfl rfl) RenL.nil) ?_ | refine WkM.cons rfl rfl rfl (RenL.cons (Ren.own rfl rfl (by omega)) RenL.nil) ?_ | refine WkM.cons rfl rfl rfl (RenL.im rfl (by repeat (first | rfl | exact idsL_map (fun _ => rfl) _ | exact idsL_flat (fun _ => rfl) _ | exact idsL_rep rfl _ | refine idsL_append ?_ ?_))) ?_ | refine WkM.cons rfl rfl (by omega) (RenL.im (by assumption) (by repeat (first | rfl | exact idsL_map (fun _ => rfl) _ | exact idsL_flat (fun _ => rfl) _ | exact idsL_rep rfl _ | refine idsL_append ?_ ?_))) ?_ | refine WkM.cons rfl rfl (by omega) (RenL.im rfl (by repeat (first | rfl | exact idsL_map (fun _ => rfl) _ | exact idsL_flat (fun _ => rfl) _ | exact idsL_rep rfl _ | refine idsL_append ?_ ?_))) ?_))
    (h3 : nodupB (mem'.map fun e => σ e.1) = true := by rfl) : Wk ⟨nb, sz, tmp, mem⟩ ⟨nb', sz, tmp', mem'⟩ := Wk.mk σ h1 h2 h3
end
end Go.Proofs.Ytpomhnmfkdgafaa
namespace Go.Proofs.Ytpomhnmfkdgafaa
open Go.RowKit
set_option linter.unusedVariables false
set_option linter.unusedSimpArgs false
section
variable {P : Program} {ops : Array Oper} {rest : List Oper} {x y z : Operand} {T' : TypeId} {w0 : World} {I0 : Bs} {ρ : Rho} {I : Nat → Prop} {a : Act} {w w' : World} {K : St → Prop}
variable {nb sz : Nat} {tmp : List (Nat × D)} {mem : List (Nat × Option M)}
theorem app_view {base : Nat} {e : TypeId} {size bytes : Nat} (hT : TySlice P T' e size bytes) {v : Value} {n : Nat} {xs : List Value} (hown : w.ownsRow base e size v n xs) {ty : TypeId} {v1 : Value} (hv1 : (v = .slice none 0 0 ∧ v1 = .slice none 0 0) ∨ ∃ g cap, v = .slice (some ⟨g, 0, none⟩) n cap ∧ v1 = .slice (some ⟨g, 0, none⟩) n n)
    {ao : Option Addr} {b off m c : Nat} {news : List Value} (hl : news.length = m * size) (hm : 0 < m) (ha : 0 < news.length → ao = some ⟨b, off, none⟩) (hc : m ≤ c) (hnews : LiesAt w b off news) (h1 : ∀ u ∈ news, u.oneCell' = true)
    (h63 : n + m ≤ maxLen) (hbytes : (n + m) * bytes ≤ 140737488355328) (hbase : base ≤ w.heap.size) :
    ∃ pl w', (Builtin.append_ #[T', T'] ty #[v1, .slice ao m c]).run P w = .ok (sv pl (n + m)) w' ∧ w'.ownsRow base e size (sv pl (n + m)) (n + m) (xs ++ news) ∧ w.grownBy w' none ∧ ∀ g c, pl = some (g, c) → g = w.heap.size := by
  obtain ⟨i, z, hi, hz, hsz, hby, hzs⟩ := hT.info
  have hpos := hT.pos
  have hnl : 0 < news.length := by rw [hl]; exact Nat.mul_pos hm hpos
  have hao := ha hnl
  subst hao
  have hcc : ∀ j u, news[j]? = some u → w.cell? ((⟨b, off, none⟩ : Addr).add j) = some u := fun j u hj => by rw [Addr.add_mid]; exact hnews j u hj
  have hlen : (xs ++ news).length = (n + m) * size := by rw [List.length_append, hown.1, hl, Nat.add_mul]
  have h63i : ((n + m : Nat) : Int) ≤ 9223372036854775807 := by simp only [maxLen] at h63; omega
  have grown : ∀ (old : Nat), old < n + m →
      (w.drew.alloc (.cells (xs.toArray ++ news.toArray ++ Builtin.zeroCells z.cells (grownCap w (n + m) old e - (n + m))) e)).ownsRow base e size
        (.slice (some ⟨w.heap.size, 0, none⟩) (n + m) (grownCap w (n + m) old e)) (n + m) (xs ++ news) ∧
      w.grownBy (w.drew.alloc (.cells (xs.toArray ++ news.toArray ++ Builtin.zeroCells z.cells (grownCap w (n + m) old e - (n + m))) e)) none := by
    intro old ho
    have hge := grownCap_ge w (n + m) old e
    have hcm : grownCap w (n + m) old e ≤ maxLen := grownCap_le_maxLen w (n + m) old e h63
    refine ⟨⟨hlen, .inr ⟨w.heap.size, _, _, rfl, hbase, heap_alloc_new w.drew _, hge, hcm, ?_, ?_⟩⟩, ⟨rfl, rfl, rfl, by simp, fun k hk _ => heap_alloc_old w.drew _ hk⟩⟩
    · simp only [Array.size_append, List.size_toArray, size_zeroCells, hzs, hown.1, hl, ← Nat.add_mul]
      congr 1
      omega
    · simp only [Array.toList_append, List.append_assoc]
      rw [← List.append_assoc, ← hlen]
      exact List.take_left
  rcases hv1 with ⟨rfl, rfl⟩ | ⟨g, cap, rfl, rfl⟩
  · have hn0 : n = 0 := by
      rcases hown.2 with ⟨_, h⟩ | ⟨g', cap', cur, h', _⟩
      · exact h
      · cases h'
    subst hn0
    have hx : xs = [] := List.eq_nil_of_length_eq_zero (by simpa using hown.1)
    subst hx
    have hr := run_append_nil (P := P) w T' ty e i z hT.ty hi hz ⟨b, off, none⟩ m c news (by rw [hl, hsz]) hcc (by omega) (by omega) (by have hb := hbytes; rw [hby]; simp only [Nat.zero_add] at hb; omega)
    have hgr := grown 0 (by omega)
    simp only [Nat.zero_add, List.nil_append, Array.empty_append] at hgr ⊢
    exact ⟨some (w.heap.size, _), _, hr, hgr.1, hgr.2, fun g c h => by cases h; rfl⟩
  · have holds : ∀ j u, xs[j]? = some u → w.cell? ((⟨g, 0, none⟩ : Addr).add j) = some u := hown.cells (g := g) rfl
    have e1 := run_append_grow (P := P) w T' ty e i z hT.ty hi hz ⟨g, 0, none⟩ n n xs (by rw [hown.1, hsz]) holds ⟨b, off, none⟩ m c news (by rw [hl, hsz]) hcc (by omega) h63i (growslice_fits (by omega) (by rw [hby]; exact hbytes))
    have hgr := grown n (by omega)
    exact ⟨some (w.heap.size, _), _, e1, hgr.1, hgr.2, fun g c h => by cases h; rfl⟩
theorem look_mid {t1 : Nat} {d d' : D} {l2 : List (Nat × D)} : ∀ {l1 : List (Nat × D)} {t : Nat} {e : D}, look t (l1 ++ (t1, d') :: l2) = some e → e = d' ∨ look t (l1 ++ (t1, d) :: l2) = some e
  | [], t, e, h => by
    have h' : cond (Nat.beq t1 t) (some d') (look t l2) = some e := h
    show e = d' ∨ cond (Nat.beq t1 t) (some d) (look t l2) = some e
    cases hb : Nat.beq t1 t with
    | true => rw [hb] at h'; cases h'; exact .inl rfl
    | false => rw [hb] at h'; exact .inr h'
  | (s, q) :: l1, t, e, h => by
    have h' : cond (Nat.beq s t) (some q) (look t (l1 ++ (t1, d') :: l2)) = some e := h
    show e = d' ∨ cond (Nat.beq s t) (some q) (look t (l1 ++ (t1, d) :: l2)) = some e
    cases hb : Nat.beq s t with
    | true => rw [hb] at h'; exact .inr h'
    | false => rw [hb] at h'; exact look_mid h'
theorem G.junk {t1 : Nat} {d : D} {l1 l2 : List (Nat × D)} (g : G w0 I0 ⟨nb, sz, l1 ++ (t1, d) :: l2, mem⟩ ρ I a w) : G w0 I0 ⟨nb, sz, l1 ++ (t1, .junk) :: l2, mem⟩ ρ I a w :=
  ⟨g.later, g.lt, g.base, g.old, g.defers, g.sz, fun t e h => by
    rcases look_mid (d := d) h with rfl | h
    · exact .im (.junk _)
    · exact g.tmp t e h, g.mem, g.inj⟩
theorem T_cutApp {b n k' size bytes t1 t2 t3 t4 : Nat} {e : TypeId} {xs ys : List D} {d2 : D} {op2 op3 : Op} {ty1 ty2 ty3 ty4 : TypeId} {s1 s2 s3 s4 : String} {f1 f2 f3 f4 : Array Edge} {q1 q2 q3 q4 : Option (Nat × Bool)} [hT : TySlice P T' e size bytes]
    (k : T P ops rest ⟨nb + 1, sz, (t4, .own nb (n + k')) :: (t3, .row k' ys) :: (t2, d2) :: (t1, .junk) :: tmp, (nb, some ⟨e, size, n + k', xs ++ ys⟩) :: mem⟩ K)
    (p2 : ∀ v, PStep P ⟨some t2, op2, ty2, s2, f2, q2⟩ ⟨nb, sz, (t1, .val v) :: tmp, mem⟩ d2) (p3 : ∀ v, PStep P ⟨some t3, op3, ty3, s3, f3, q3⟩ ⟨nb, sz, (t2, d2) :: (t1, .val v) :: tmp, mem⟩ (.row k' ys))
    (hx : St.ev ⟨nb, sz, tmp, mem⟩ x = some (.own b n) := by rfl) (hm : getM b mem = some ⟨e, size, n, xs⟩ := by rfl) (hy : St.ev ⟨nb, sz, tmp, mem⟩ y = some (.val (.int .i64 n)) := by rfl) (hz : St.ev ⟨nb, sz, tmp, mem⟩ z = some (.val (.int .i64 n)) := by rfl)
    (hk' : Nat.blt 0 k' = true := by rfl) (hys : ys.length = k' * size := by rfl) (hbts : (n + k') * bytes ≤ 140737488355328 := by omega) (hml : n + k' ≤ 9223372036854775807 := by omega)
    (g1 : St.guard ⟨nb, sz, tmp, mem⟩ ops ⟨some t1, .slice T' x none (some y) (some z), ty1, s1, f1, q1⟩ = some true := by rfl) (g2 : ∀ v, St.guard ⟨nb, sz, (t1, .val v) :: tmp, mem⟩ ops ⟨some t2, op2, ty2, s2, f2, q2⟩ = some true := by intro v; rfl)
    (g3 : ∀ v, St.guard ⟨nb, sz, (t2, d2) :: (t1, .val v) :: tmp, mem⟩ ops ⟨some t3, op3, ty3, s3, f3, q3⟩ = some true := by intro v; rfl)
    (g4 : ∀ v, St.guard ⟨nb, sz, (t3, .row k' ys) :: (t2, d2) :: (t1, .val v) :: tmp, mem⟩ ops ⟨some t4, .call { callee := .builtin .append, args := #[.tmp t1, .tmp t3], argTypes := #[T', T'] }, ty4, s4, f4, q4⟩ = some true := by intro v; rfl)
    (l1 : Nat.blt t1 sz = true := by rfl) (l2 : Nat.blt t2 sz = true := by rfl) (l3 : Nat.blt t3 sz = true := by rfl) (l4 : Nat.blt t4 sz = true := by rfl) (n21 : Nat.beq t2 t1 = false := by rfl) (n31 : Nat.beq t3 t1 = false := by rfl) :
    T P ops (⟨some t1, .slice T' x none (some y) (some z), ty1, s1, f1, q1⟩ :: ⟨some t2, op2, ty2, s2, f2, q2⟩ :: ⟨some t3, op3, ty3, s3, f3, q3⟩ :: ⟨some t4, .call { callee := .builtin .append, args := #[.tmp t1, .tmp t3], argTypes := #[T', T'] }, ty4, s4, f4, q4⟩ :: rest) ⟨nb, sz, tmp, mem⟩ K :=
  T_of_wp g1 fun w0 I0 ρ I a w Q next g hk q => by
    obtain ⟨_, ⟨us0, ho0, hx0⟩, hn0⟩ := (g.mem b _ hm).parts
    have hxe : a.eval x = sv (ρ b) n ∧ (ρ b = none → n = 0) := own_eq (g.ev hx)
    obtain ⟨hxe, hnz⟩ := hxe
    have hye := (g.ev hy).val_eq
    have hze := (g.ev hz).val_eq
    obtain ⟨v1, hv1⟩ : ∃ v1 : Value, (sv (ρ b) n = .slice none 0 0 ∧ v1 = .slice none 0 0) ∨ ∃ gg cap, sv (ρ b) n = .slice (some ⟨gg, 0, none⟩) n cap ∧ v1 = .slice (some ⟨gg, 0, none⟩) n n := by
      cases hρ : ρ b with
      | none => have := hnz hρ; subst this; exact ⟨_, .inl ⟨rfl, rfl⟩⟩
      | some gc => obtain ⟨gg, cap⟩ := gc; exact ⟨_, .inr ⟨gg, cap, rfl, rfl⟩⟩
    have hone : v1.oneCell' = true := by rcases hv1 with ⟨_, rfl⟩ | ⟨_, _, _, rfl⟩ <;> rfl
    have hrun : (execOp a.eval ⟨some t1, .slice T' x none (some y) (some z), ty1, s1, f1, q1⟩).run P w = .ok (.value v1) w := by
      have hs : (Instr.slice T' (sv (ρ b) n) none (some (.int .i64 (n : Int))) (some (.int .i64 (n : Int)))).run P w = .ok v1 w := by
        rcases hv1 with ⟨e1, rfl⟩ | ⟨gg, cap, e1, rfl⟩
        · have hn00 : n = 0 := by
            cases hρ : ρ b with
            | none => exact hnz hρ
            | some gc => obtain ⟨gg, cap⟩ := gc; rw [hρ] at e1; cases e1
          subst hn00
          rw [e1, run_slice_hm w T' none 0 0 (elem_ty hT).1 .i64 .i64 _ _ (by omega) (by omega) (by omega), (elem_ty hT).2]
          simp [sliced, Result.andThen_ok]
        · have hcap : n ≤ cap := by
            rw [e1] at ho0
            rcases ho0.2 with ⟨h', _⟩ | ⟨g', cap', cur, h', _, _, hnc, _⟩
            · cases h'
            · simp only [Value.slice.injEq, Option.some.injEq, Addr.mk.injEq, and_true, true_and] at h'
              obtain ⟨_, rfl⟩ := h'
              exact hnc
          rw [e1, run_slice_hm w T' _ n cap (elem_ty hT).1 .i64 .i64 _ _ (by omega) (by omega) (by omega), (elem_ty hT).2]
          simp [sliced, Result.andThen_ok, Addr.add]
      simp [execOp, hxe, hye, hze, run_sliceAt_slice (h := (elem_ty hT).1), hs]
    unfold Oper.wp
    rw [hrun]
    refine hk _ _ ?_
    have gA := g.put (t := t1) (d := .val v1) (v := v1) (by simpa using l1) (.im (.val _ hone))
    refine wpList_want (guard_wanted gA (g2 v1)) fun nx2 hk2 => p2 v1 w0 I0 ρ I _ w nx2 Q gA fun v2 w2 I2 e2 r2 => hk2 _ _ ?_
    have gB := (gA.ext e2).put (t := t2) (show _ < sz by simpa using l2) r2
    refine wpList_want (guard_wanted gB (g3 v1)) fun nx3 hk3 => p3 v1 w0 I0 ρ I2 _ w2 nx3 Q gB fun v3 w3 I3 e3 r3 => hk3 _ _ ?_
    have gC := (gB.ext e3).put (t := t3) (show _ < sz by simpa using l3) r3
    refine wpList_want (guard_wanted gC (g4 v1)) fun nx4 hk4 => ?_
    generalize (((a.put (some t1) v1).put (some t2) v2).put (some t3) v3) = aC at *
    have h1e : aC.eval (.tmp t1) = v1 := (gC.ev (x := .tmp t1) (d := .val v1) (by
      show cond (Nat.beq t3 t1) _ (cond (Nat.beq t2 t1) _ (cond (Nat.beq t1 t1) _ _)) = _
      rw [n31, n21, Nat.beq_refl]; rfl)).val_eq
    obtain ⟨ao, cap, b', off, vs, hv, hc1, hc2, hc3, hc4, hc5, hc6⟩ := gC.sliced (n := k') (xs := ys) (gC.ev (x := .tmp t3) (d := .row k' ys) (by show cond (Nat.beq t3 t3) _ _ = _; rw [Nat.beq_refl]; rfl)) rfl
    obtain ⟨hb, ⟨us, ho, hxx⟩, hnot⟩ := (gC.mem b _ hm).parts
    have hkp : 0 < k' := by simpa using hk'
    obtain ⟨pl, w', hr, ho', hgr, hpl⟩ := app_view (ty := ty4) hT ho hv1 (by rw [← hc6.1]; exact hys) hkp (fun h => (hc4 h).1) hc1 hc5 hc6.2.1 (by unfold maxLen; omega) hbts (Below.size gC.later)
    have hrr : (execOp aC.eval ⟨some t4, .call { callee := .builtin .append, args := #[.tmp t1, .tmp t3], argTypes := #[T', T'] }, ty4, s4, f4, q4⟩).run P w3 = .ok (.value (sv pl (n + k'))) w' := by
      simp [execOp, resolve, invoke, builtin, h1e, hv, hr]
    unfold Oper.wp
    rw [hrr]
    have gJ := G.junk (l1 := [(t3, .row k' ys), (t2, d2)]) gC
    have g2' := gJ.renew ⟨e, size, n + k', xs ++ ys⟩ mem pl none hgr (fun k hk => by cases hk) (fun b m h => ⟨h, fun k c _ hh => by cases hh⟩)
      (fun b1 m1 k c c' h hk hk2 => by
        have p1 := ((gC.mem b1 m1 h).lt hk).2
        have p2 := hpl k c' hk2
        omega)
      (fun k c hk hI => by
        have p2 := hpl k c hk
        have := gC.lt k hI
        omega) ho' (hxx.append hc6)
    have hnew : RA (upd ρ nb pl) (nb + 1) I3 w' (.own nb (n + k')) (sv pl (n + k')) := by
      have h := RA.own (ρ := upd ρ nb pl) (nb := nb + 1) (I := I3) (w := w') (b := nb) (n := n + k') (Nat.lt_succ_self _) (fun h => by
        rw [upd_same] at h
        subst h
        rcases ho'.2 with ⟨_, h0⟩ | ⟨g', cap', cur, h', _⟩
        · exact h0
        · simp [sv] at h')
      rw [upd_same] at h
      exact h
    exact hk4 _ _ (k.h w0 I0 _ I3 _ _ Q (g2'.put (show _ < sz by simpa using l4) hnew) q)
end
end Go.Proofs.Ytpomhnmfkdgafaa
