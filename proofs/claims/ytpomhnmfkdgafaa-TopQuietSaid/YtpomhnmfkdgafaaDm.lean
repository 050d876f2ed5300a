/- Functions that change rows of their caller's own, and the rule of a call of such a function. -/
import Derived.Test.YtpomhnmfkdgafaaLit
import Derived.Test.YtpomhnmfkdgafaaSeq
namespace Go.Proofs.Ytpomhnmfkdgafaa
open Go.RowKit
set_option linter.unusedVariables false
set_option linter.unusedSimpArgs false
set_option maxRecDepth 100000
/-- what is known of rows, without slots -/
structure GM (w0 : World) (I0 : Bs) (nb : Nat) (mem : List (Nat × Option M)) (ρ : Rho) (I : Nat → Prop) (w : World) : Prop where
  later : Later w0 w
  lt : ∀ b, I b → b < w.heap.size
  base : ∀ b, I b → I0.i b ∨ w0.heap.size ≤ b
  old : ∀ b, I0.i b → I b ∧ w.heap[b]? = I0.h b
  rows : ∀ b m, getM b mem = some m → MemOk w0 ρ nb I w b m
  inj : ∀ b m b' m', getM b mem = some m → getM b' mem = some m' → ∀ g c c', ρ b = some (g, c) → ρ b' = some (g, c') → b = b'
theorem G.gm {w0 : World} {I0 : Bs} {S : St} {ρ : Rho} {I : Nat → Prop} {a : Act} {w : World} (g : G w0 I0 S ρ I a w) : GM w0 I0 S.nb S.mem ρ I w := ⟨g.later, g.lt, g.base, g.old, g.mem, g.inj⟩
/-- a function that changes rows of its caller's own; where pn is given, row 0 lies there at the end -/
structure DM (P : Program) (f : Nat) (pn : Option (Nat × Nat)) (nb : Nat) (mem : List (Nat × Option M)) (ds : List D) (nb' : Nat) (mem' : List (Nat × Option M)) (r : D) : Prop where
  fn : ∃ fn, P.funcs[f]? = some fn ∧ (fn.name == "runtime.NumGoroutine") = false ∧ fn.body.isNone = false
  calls : ∀ (w0 : World) (I0 : Bs) (ρ : Rho) (I : Nat → Prop) (w : World) (vs : List Value), GM w0 I0 nb mem ρ I w → ds.length = vs.length → (∀ (j : Nat) (d : D) (v : Value), ds[j]? = some d → vs[j]? = some v → RA ρ nb I w d v) →
    Calls P f vs.toArray w fun e w' => ∃ v ρ' I', e = .returned v ∧ GM w0 I0 nb' mem' ρ' I' w' ∧ (∀ q, pn = some q → ρ' 0 = some q) ∧ RA ρ' nb' I' w' r v
def kEndM0 (P : Program) (rs : List ResultVar) (pn : Option (Nat × Nat)) (nb' : Nat) (mem' : List (Nat × Option M)) (r : D) : Exit → St → Prop
  | .normal, S | .ret, S => ∃ S' ds, Wk S S' ∧ ResV P S' rs ds ∧ tupD ds = r ∧ S'.nb = nb' ∧ S'.mem = mem' ∧ ∀ q, pn = some q → look 0 S'.tmp = some (.pin q.1 q.2 0 0)
  | _, _ => False
structure kEndM (P : Program) (rs : List ResultVar) (pn : Option (Nat × Nat)) (nb' : Nat) (mem' : List (Nat × Option M)) (r : D) (e : Exit) (S : St) : Prop where
  h : kEndM0 P rs pn nb' mem' r e S
theorem kEndM_g {P : Program} {rs : List ResultVar} {pn : Option (Nat × Nat)} {nb' : Nat} {mem' : List (Nat × Option M)} {r : D} {e : Exit} {S S' : St} {ds : List D} (hw : Wk S S') (he : e = .ret ∨ e = .normal) (h1 : ResV P S' rs ds) (h2 : tupD ds = r) (h3 : S'.nb = nb') (h4 : S'.mem = mem') (h5 : ∀ q, pn = some q → look 0 S'.tmp = some (.pin q.1 q.2 0 0)) : kEndM P rs pn nb' mem' r e S := by
  rcases he with rfl | rfl
  · exact ⟨⟨S', ds, hw, h1, h2, h3, h4, h5⟩⟩
  · exact ⟨⟨S', ds, hw, h1, h2, h3, h4, h5⟩⟩
theorem pin_eq {ρ : Rho} {nb : Nat} {I : Nat → Prop} {w : World} {B c b off : Nat} {v : Value} (h : RA ρ nb I w (.pin B c b off) v) : ρ b = some (B, c) := by
  cases h with
  | im h => cases h
  | pin hb h => exact h
theorem DM.of {P : Program} {f sz nb nb' : Nat} {fn : Func} {c : Code} {ds : List D} {r : D} {rs : List ResultVar} {pn : Option (Nat × Nat)} {mem mem' : List (Nat × Option M)} (hf : P.funcs[f]? = some fn) (hsz : fn.ntmps = sz) (hrs : fn.results = rs.toArray) (hb : fn.body = some c) (hn : (fn.name == "runtime.NumGoroutine") = false) (hs : Nat.ble ds.length sz = true)
    (h : C P c ⟨nb, sz, slots 0 ds, mem⟩ (kEndM P rs pn nb' mem' r)) : DM P f pn nb mem ds nb' mem' r := by
  subst hsz
  obtain rfl : rs = fn.results.toList := by rw [hrs]
  refine ⟨⟨fn, hf, hn, by rw [hb]; rfl⟩, fun w0 I0 ρ I w vs gm hl hv => ?_⟩
  have hs := Nat.le_of_ble_eq_true hs
  refine calls_of_wp hf hb (h.h w0 I0 ρ I _ w _ ?_ ?_)
  · refine ⟨gm.later, gm.lt, gm.base, gm.old, rfl, by simp; omega, fun t d ht => ?_, gm.rows, gm.inj⟩
    obtain ⟨_, h2⟩ := look_slots ht
    have hlt := (List.getElem?_eq_some_iff.1 h2).1
    rw [Nat.sub_zero] at h2 hlt
    have e : (vs.toArray ++ Array.replicate (fn.ntmps - vs.toArray.size) undef).getD t undef = vs[t]'(by omega) := by
      simp [Array.getElem?_append, show t < vs.length by omega]
    rw [e]
    exact hv t d _ h2 (List.getElem?_eq_getElem (by omega))
  · intro e S' ρ' I' a' w' hk g
    have key : ∀ S1 ds', Wk S' S1 → ResV P S1 fn.results.toList ds' → tupD ds' = r → S1.nb = nb' → S1.mem = mem' → (∀ q, pn = some q → look 0 S1.tmp = some (.pin q.1 q.2 0 0)) →
        a'.defers = [] ∧ ∃ v, (results fn a'.tmps).run P w' = .ok v w' ∧ ∃ v' ρ' I', Ending.returned v = .returned v' ∧ GM w0 I0 nb' mem' ρ' I' w' ∧ (∀ q, pn = some q → ρ' 0 = some q) ∧ RA ρ' nb' I' w' r v' := by
      intro S1 ds' h1 h2 h3 h4 h5 h6
      obtain ⟨ρ2, I2, g2⟩ := h1 _ _ _ _ _ _ g
      obtain ⟨v, hr, hv⟩ := results_run g2 h2
      subst h3 h4 h5
      exact ⟨g2.defers, v, hr, v, ρ2, I2, rfl, g2.gm, fun q hq => pin_eq (g2.tmp 0 _ (h6 q hq)), hv⟩
    replace hk := hk.h
    cases e with
    | normal => obtain ⟨S1, ds', h1, h2, h3, h4, h5, h6⟩ := hk; exact key S1 ds' h1 h2 h3 h4 h5 h6
    | ret => obtain ⟨S1, ds', h1, h2, h3, h4, h5, h6⟩ := hk; exact key S1 ds' h1 h2 h3 h4 h5 h6
    | _ => exact hk.elim
/-! ### data that needs no memory but for numbers -/
mutual
def D.plain : D → Bool
  | .junk | .val _ | .ptr _ _ | .own _ _ | .pin _ _ _ _ => true
  | .agg xs | .tup xs => D.plainL xs
  | .row _ _ | .obj _ | .lit _ _ | .sized _ | .fn _ _ _ => false
def D.plainL : List D → Bool
  | [] => true
  | d :: l => D.plain d && D.plainL l
end
theorem plainL_mem : ∀ {l : List D}, D.plainL l = true → ∀ (j : Nat) (d : D), l[j]? = some d → d.plain = true
  | [], _, j, d, h => by simp at h
  | x :: l, h, j, d, hj => by
    simp only [D.plainL, Bool.and_eq_true] at h
    cases j with
    | zero => simp at hj; subst hj; exact h.1
    | succ j => exact plainL_mem h.2 j d (by simpa using hj)
theorem plainL_map {α : Type} {f : α → D} (h : ∀ x, (f x).plain = true) : ∀ l : List α, D.plainL (l.map f) = true
  | [] => rfl
  | x :: l => by
    show (D.plain (f x) && D.plainL (l.map f)) = true
    rw [h x, plainL_map h l]; rfl
theorem RC.plain {I I2 : Nat → Prop} {w w2 : World} {d : D} {v : Value} (h : RC I w d v) (hp : d.plain = true) : RC I2 w2 d v := by
  induction h with
  | junk v => exact .junk v
  | val v h => exact .val v h
  | agg hl ho hr ih => exact .agg hl ho fun j d u h1 h2 => ih j d u h1 h2 (plainL_mem hp j d h1)
  | tup hl hr ih => exact .tup hl fun j d u h1 h2 => ih j d u h1 h2 (plainL_mem hp j d h1)
  | _ => cases hp
theorem RA.plain {ρ : Rho} {nb : Nat} {I I2 : Nat → Prop} {w w2 : World} {d : D} {v : Value} (h : RA ρ nb I w d v) (hp : d.plain = true) : RA ρ nb I2 w2 d v := by
  induction h with
  | im h => exact .im (h.plain hp)
  | ptr hb h => exact .ptr hb h
  | own hb h => exact .own hb h
  | pin hb h => exact .pin hb h
  | agg hl ho hr ih => exact .agg hl ho fun j d u h1 h2 => ih j d u h1 h2 (plainL_mem hp j d h1)
  | tup hl hr ih => exact .tup hl fun j d u h1 h2 => ih j d u h1 h2 (plainL_mem hp j d h1)
  | fn _ _ _ _ => cases hp
/-- rows whose numbers meet p, and their cells' -/
def okRows (p : Nat → Bool) : List (Nat × Option M) → Prop
  | [] => True
  | (x, some m) :: l => (p x = true ∧ D.idsL p m.xs = true ∧ D.plainL m.xs = true) ∧ okRows p l
  | (x, none) :: l => okRows p l
theorem okRows.get {p : Nat → Bool} : ∀ {l : List (Nat × Option M)} {b : Nat} {m : M}, okRows p l → getM b l = some m → p b = true ∧ D.idsL p m.xs = true ∧ D.plainL m.xs = true
  | [], b, m, _, h => by cases h
  | (x, some m1) :: l, b, m, ho, h => by
    have h' : cond (Nat.beq x b) (some m1) (getM b l) = some m := h
    cases hb : Nat.beq x b with
    | true => rw [hb] at h'; cases h'; have := Nat.eq_of_beq_eq_true hb; subst this; exact ho.1
    | false => rw [hb] at h'; exact okRows.get ho.2 h'
  | (x, none) :: l, b, m, ho, h => by
    have h' : cond (Nat.beq x b) none (getM b l) = some m := h
    cases hb : Nat.beq x b with
    | true => rw [hb] at h'; cases h'
    | false => rw [hb] at h'; exact okRows.get (l := l) ho h'
theorem getM_app : ∀ {l1 l2 : List (Nat × Option M)} {b : Nat} {m : M}, getM b (l1 ++ l2) = some m → getM b l1 = some m ∨ (b ∉ l1.map (·.1) ∧ getM b l2 = some m)
  | [], l2, b, m, h => .inr ⟨by simp, h⟩
  | (x, m1) :: l, l2, b, m, h => by
    have h' : cond (Nat.beq x b) m1 (getM b (l ++ l2)) = some m := h
    cases hb : Nat.beq x b with
    | true =>
      rw [hb] at h'
      exact .inl (by show cond (Nat.beq x b) m1 (getM b l) = some m; rw [hb]; exact h')
    | false =>
      rw [hb] at h'
      rcases getM_app h' with h | ⟨h1, h2⟩
      · exact .inl (by show cond (Nat.beq x b) m1 (getM b l) = some m; rw [hb]; exact h)
      · refine .inr ⟨fun hm => ?_, h2⟩
        rcases List.mem_cons.1 hm with e | hm
        · subst e; simp at hb
        · exact h1 hm
theorem kill_none : ∀ (ks : List Nat) (b : Nat) (m : M), getM b (ks.map fun x => ((x, none) : Nat × Option M)) ≠ some m
  | [], b, m, h => by cases h
  | x :: l, b, m, h => by
    have h' : cond (Nat.beq x b) none (getM b (l.map fun x => (x, none))) = some m := h
    cases hb : Nat.beq x b with
    | true => rw [hb] at h'; cases h'
    | false => rw [hb] at h'; exact kill_none l b m h'
theorem getM_kill {ks : List Nat} {mem : List (Nat × Option M)} {b : Nat} {m : M} (h : getM b ((ks.map fun x => (x, none)) ++ mem) = some m) : b ∉ ks ∧ getM b mem = some m := by
  rcases getM_app h with h | ⟨h1, h2⟩
  · exact absurd h (kill_none ks b m)
  · refine ⟨fun hm => h1 ?_, h2⟩
    rw [List.map_map]
    exact List.mem_map.2 ⟨b, hm, rfl⟩
theorem owns_move {w w' : World} {base : Nat} {e : TypeId} {size n : Nat} {pl : Option (Nat × Nat)} {us : List Value} (h : w.ownsRow base e size (sv pl n) n us) (hb : ∀ g c, pl = some (g, c) → w'.heap[g]? = w.heap[g]?) : w'.ownsRow base e size (sv pl n) n us := by
  refine ⟨h.1, ?_⟩
  rcases h.2 with hn | ⟨g, cap, cur, hv, hbs, hg, rest⟩
  · exact .inl hn
  · refine .inr ⟨g, cap, cur, hv, hbs, ?_, rest⟩
    cases pl with
    | none => simp [sv] at hv
    | some q =>
      obtain ⟨g', c'⟩ := q
      simp only [sv, Value.slice.injEq, Option.some.injEq, Addr.mk.injEq, and_true, true_and] at hv
      rw [← hv.1] at hg ⊢
      rw [hb g' c' rfl]
      exact hg
section
variable {P : Program} {ops : Array Oper} {rest : List Oper} {nb sz : Nat} {tmp : List (Nat × D)} {mem : List (Nat × Option M)} {K : St → Prop} {t : Nat} {ty : TypeId} {pos : String} {af : Array Edge} {gd : Option (Nat × Bool)}
/-- which numbers the rows may have that come back -/
def bkP (nb b0 : Nat) (pn : Option (Nat × Nat)) (x : Nat) : Bool := (Nat.beq x b0 && pn.isSome) || Nat.ble nb x
def bkS (nb x : Nat) : Nat := cond (Nat.blt x nb) 0 (x - nb)
theorem T_dm {f : Nat} {c : Operand} {args : Array Operand} {ats : Array TypeId} {ds dsC : List D} {pn : Option (Nat × Nat)} {nbC nbC' : Nat} {memC memC' pre mem2 : List (Nat × Option M)} {r r' : D} (τ : Nat → Nat) (h : DM P f pn nbC memC dsC nbC' memC' r)
    (hc : St.ev ⟨nb, sz, tmp, mem⟩ c = some (.fn f [] [])) (hd : St.evs ⟨nb, sz, tmp, mem⟩ args.toList = some ds) (ha : RenL τ nbC dsC ds) (hm : WkM τ nbC mem memC) (hn : nodupB (memC.map fun e => τ e.1) = true)
    (hpin : ∀ q, pn = some q → dsC[0]? = some (.pin q.1 q.2 0 0)) (hpre : WkM (bkS nb) (nb + nbC') memC' pre) (hnd : nodupB (pre.map fun e => bkS nb e.1) = true) (hrow : okRows (bkP nb (τ 0) pn) pre)
    (hr : Ren (bkS nb) (nb + nbC') r' r) (hr1 : r'.ids (bkP nb (τ 0) pn) = true) (hr2 : r'.plain = true) (hm2 : pre ++ ((memC.map fun e => τ e.1).map fun x => (x, none)) ++ mem = mem2)
    (hg : St.guard ⟨nb, sz, tmp, mem⟩ ops ⟨some t, .call { callee := .value c, args := args, argTypes := ats }, ty, pos, af, gd⟩ = some true) (ht : Nat.blt t sz = true)
    (k : T P ops rest ⟨nb + nbC', sz, (t, r') :: tmp, mem2⟩ K) : T P ops (⟨some t, .call { callee := .value c, args := args, argTypes := ats }, ty, pos, af, gd⟩ :: rest) ⟨nb, sz, tmp, mem⟩ K :=
  T_of_wp hg fun w0 I0 ρ I a w Q next g hk q => by
    subst hm2
    obtain ⟨ks, hks⟩ : ∃ ks, memC.map (fun e => τ e.1) = ks := ⟨_, rfl⟩
    rw [hks] at hn k
    -- the rows that are not given away
    obtain ⟨Fr, hFr⟩ : ∃ Fr : Nat → Prop, ∀ b, Fr b ↔ ∃ x m c, getM x mem = some m ∧ x ∉ ks ∧ ρ x = some (b, c) := ⟨_, fun _ => Iff.rfl⟩
    have hIF : ∀ b, I b → ¬ Fr b := fun b hb hf => by
      obtain ⟨x, m, c, h1, h2, h3⟩ := (hFr b).1 hf
      exact (g.mem x m h1).not b c h3 hb
    have hev : a.eval c = .func (.func f) ([] : List Value).toArray ([] : List Value).toArray := by
      have hh := g.ev hc
      generalize a.eval c = v at hh
      cases hh with
      | im hh => cases hh with | fn hl hk hr hq =>
        rename_i us vs
        have e1 : us = [] := List.eq_nil_of_length_eq_zero hl.symm
        have e2 : vs = [] := List.eq_nil_of_length_eq_zero hk.symm
        subst e1 e2; rfl
      | fn hl hk hr hq =>
        rename_i us vs
        have e1 : us = [] := List.eq_nil_of_length_eq_zero hl.symm
        have e2 : vs = [] := List.eq_nil_of_length_eq_zero hk.symm
        subst e1 e2; rfl
    obtain ⟨h6, h7⟩ := g.evs hd
    unfold Oper.wp
    rw [exec_call (o := ⟨some t, .call { callee := .value c, args := args, argTypes := ats }, ty, pos, af, gd⟩) h.fn rfl hev]
    have gmC : GM w0 ⟨fun b => I b ∨ Fr b, fun b => w.heap[b]?⟩ nbC memC (fun b => ρ (τ b)) (fun b => I b ∨ Fr b) w := by
      refine ⟨g.later, fun b hb => ?_, fun b hb => .inl hb, fun b hb => ⟨hb, rfl⟩, fun b m' hb => ?_, fun b m b' m1 hb hb' k c c' hk hk' => ?_⟩
      · rcases hb with hb | hb
        · exact g.lt b hb
        · obtain ⟨x, m, c, h1, h2, h3⟩ := (hFr b).1 hb
          exact ((g.mem x m h1).lt h3).2
      · obtain ⟨hlt, hbm, m, hm', e1, e2, e3, r⟩ := hm.get hb
        obtain ⟨_, ⟨us, ho, hx⟩, hnt⟩ := (g.mem (τ b) m hm').parts
        refine MemOk.mk' (us := us) hlt (by rw [e1, e2, e3]; exact ho) ⟨by rw [r.1, hx.1], hx.2.1, fun j d' u hd hu => ?_⟩ fun gb cap hk hI => ?_
        · obtain ⟨d, hd'⟩ : ∃ d, m.xs[j]? = some d := ⟨_, List.getElem?_eq_getElem (by rw [← r.1]; exact (List.getElem?_eq_some_iff.1 hd).1)⟩
          exact (r.2 j d' d hd hd' _ _ _ _ _ (hx.2.2 j d u hd' hu)).move (Nat.le_refl _) (fun _ h => .inl h) (fun _ _ => rfl)
        · rcases hI with hI | hI
          · exact hnt gb cap hk hI
          · obtain ⟨x, mx, c, h1, h2, h3⟩ := (hFr gb).1 hI
            have := g.inj x mx (τ b) m h1 hm' gb c cap h3 hk
            subst this
            refine h2 ?_
            rw [← hks]
            obtain ⟨e, he, rfl⟩ := List.mem_map.1 hbm
            exact List.mem_map.2 ⟨e, he, rfl⟩
      · obtain ⟨_, hb1, n1, hn1, _⟩ := hm.get hb
        obtain ⟨_, hb2, n2, hn2, _⟩ := hm.get hb'
        rw [← hks] at hn
        exact nodupB_inj (σ := τ) (f := Prod.fst) (g := Prod.fst) hn b hb1 b' hb2 (g.inj (τ b) n1 (τ b') n2 hn1 hn2 k c c' hk hk')
    have hargs : ∀ (j : Nat) (d : D) (v : Value), dsC[j]? = some d → (([] : List Value) ++ args.toList.map a.eval ++ [])[j]? = some v → RA (fun b => ρ (τ b)) nbC (fun b => I b ∨ Fr b) w d v := fun j d' v h1 h2 => by
      simp only [List.nil_append, List.append_nil] at h2
      obtain ⟨d, hd'⟩ : ∃ d, ds[j]? = some d := ⟨_, List.getElem?_eq_getElem (by rw [← ha.1]; exact (List.getElem?_eq_some_iff.1 h1).1)⟩
      exact (ha.2 j d' d h1 hd' _ _ _ _ _ (h7 j d v hd' h2)).move (Nat.le_refl _) (fun _ h => .inl h) (fun _ _ => rfl)
    have hpin0 : ∀ q, pn = some q → ρ (τ 0) = some q := fun q hq => by
      have h1 := hpin q hq
      have hlen : 0 < (args.toList.map a.eval).length := by
        rw [← h6, ← ha.1]; exact (List.getElem?_eq_some_iff.1 h1).1
      have h2 := hargs 0 _ _ h1 (by simp only [List.nil_append, List.append_nil]; exact List.getElem?_eq_getElem hlen)
      exact pin_eq (ρ := fun b => ρ (τ b)) (b := 0) h2
    refine (h.calls w0 _ _ _ w _ gmC (by simp only [List.nil_append, List.append_nil]; rw [ha.1, h6]) hargs).mono ?_
    rintro e w' ⟨v, ρ', I', rfl, gm', hp', hv⟩
    obtain ⟨ρ2, hρ2⟩ : ∃ ρ2 : Rho, ∀ x, ρ2 x = cond (Nat.blt x nb) (ρ x) (ρ' (x - nb)) := ⟨_, fun _ => rfl⟩
    have blt_t : ∀ x, x < nb → Nat.blt x nb = true := fun x h => by show Nat.ble (x + 1) nb = true; exact Nat.ble_eq_true_of_le h
    have blt_f : ∀ x, nb ≤ x → Nat.blt x nb = false := fun x h => by
      cases hb : Nat.blt x nb with
      | true => have h1 : Nat.ble (x + 1) nb = true := hb; have := Nat.le_of_ble_eq_true h1; omega
      | false => rfl
    have hlow : ∀ x, x < nb → ρ2 x = ρ x := fun x hx => by rw [hρ2, blt_t x hx]; rfl
    have hσ : ∀ x, bkP nb (τ 0) pn x = true → ρ2 x = ρ' (bkS nb x) := fun x hx => by
      rw [hρ2]
      unfold bkS
      by_cases hlt : x < nb
      · rw [blt_t x hlt]
        unfold bkP at hx
        rw [Bool.or_eq_true, Bool.and_eq_true] at hx
        rcases hx with ⟨hx, hs⟩ | hx
        · have := Nat.eq_of_beq_eq_true hx
          subst this
          obtain ⟨q', hq'⟩ := Option.isSome_iff_exists.1 hs
          show ρ (τ 0) = ρ' 0
          rw [hp' q' hq', hpin0 q' hq']
        · have := Nat.le_of_ble_eq_true hx; omega
      · rw [blt_f x (by omega)]; rfl
    have hw : ∀ b, I b ∨ Fr b → w'.heap[b]? = w.heap[b]? := fun b hb => (gm'.old b hb).2
    have hII : ∀ b, I b → I' b ∧ ¬ Fr b := fun b hb => ⟨(gm'.old b (.inl hb)).1, hIF b hb⟩
    have back : ∀ {d' d : D} {u : Value}, Ren (bkS nb) (nb + nbC') d' d → d'.ids (bkP nb (τ 0) pn) = true → d'.plain = true → RA ρ' nbC' I' w' d u → RA ρ2 (nb + nbC') (fun b => I' b ∧ ¬ Fr b) w' d' u := fun {d' d u} h1 h2 h3 h4 =>
      ((h1 _ _ _ _ _ h4).rho (bkP nb (τ 0) pn) h2 fun b hb hp => ⟨hb, hσ b hp⟩).plain h3
    have hcase : ∀ b m, getM b (pre ++ (ks.map fun x => (x, none)) ++ mem) = some m → (∃ m0, b < nb + nbC' ∧ b ∈ pre.map Prod.fst ∧ bkP nb (τ 0) pn b = true ∧ getM (bkS nb b) memC' = some m0 ∧ m.ty = m0.ty ∧ m.size = m0.size ∧ m.n = m0.n ∧ RenL (bkS nb) (nb + nbC') m.xs m0.xs ∧ D.idsL (bkP nb (τ 0) pn) m.xs = true ∧ D.plainL m.xs = true) ∨ (b ∉ ks ∧ getM b mem = some m) := fun b m hb => by
      rw [List.append_assoc] at hb
      rcases getM_app hb with hb | ⟨_, hb⟩
      · obtain ⟨h1, h2, m0, h3, h4, h5, h6, h7⟩ := hpre.get hb
        obtain ⟨o1, o2, o3⟩ := hrow.get hb
        exact .inl ⟨m0, h1, h2, o1, h3, h4, h5, h6, h7, o2, o3⟩
      · exact .inr (getM_kill hb)
    have g2 : G w0 I0 ⟨nb + nbC', sz, tmp, pre ++ (ks.map fun x => (x, none)) ++ mem⟩ ρ2 (fun b => I' b ∧ ¬ Fr b) a w' := by
      refine ⟨gm'.later, fun b hb => gm'.lt b hb.1, fun b hb => ?_, fun b hb => ⟨hII b (g.old b hb).1, by rw [hw b (.inl (g.old b hb).1)]; exact (g.old b hb).2⟩, g.defers, g.sz, fun s d hs => ?_, fun b m hb => ?_, fun b m b' m1 hb hb' k c c' hk hk' => ?_⟩
      · rcases gm'.base b hb.1 with (h | h) | h
        · exact g.base b h
        · exact absurd h hb.2
        · exact .inr h
      · exact ((g.tmp s d hs).grow (Nat.le_add_right _ _) hlow).move (Nat.le_refl _) hII fun b hb => hw b (.inl hb)
      · rcases hcase b m hb with ⟨m0, h1, _, hp, h3, e1, e2, e3, r, o2, o3⟩ | ⟨h1, h2⟩
        · obtain ⟨_, ⟨us, ho, hx⟩, hnt⟩ := (gm'.rows _ m0 h3).parts
          refine MemOk.mk' (us := us) h1 (by rw [e1, e2, e3, hσ b hp]; exact ho) ⟨by rw [r.1, hx.1], hx.2.1, fun j d' u hd hu => ?_⟩ fun gb cap hk hI => ?_
          · obtain ⟨d, hd'⟩ : ∃ d, m0.xs[j]? = some d := ⟨_, List.getElem?_eq_getElem (by rw [← r.1]; exact (List.getElem?_eq_some_iff.1 hd).1)⟩
            exact back (r.2 j d' d hd hd') (idsL_mem o2 j d' hd) (plainL_mem o3 j d' hd) (hx.2.2 j d u hd' hu)
          · rw [hσ b hp] at hk
            exact hnt gb cap hk hI.1
        · obtain ⟨h3, ⟨us, ho, hx⟩, hnt⟩ := (g.mem b m h2).parts
          have hfr : ∀ gb c, ρ b = some (gb, c) → Fr gb := fun gb c hk => (hFr gb).2 ⟨b, m, c, h2, h1, hk⟩
          refine MemOk.mk' (us := us) (Nat.lt_of_lt_of_le h3 (Nat.le_add_right _ _)) (by rw [hlow b h3]; exact owns_move ho fun gb c hk => hw gb (.inr (hfr gb c hk))) ((hx.grow (Nat.le_add_right _ _) hlow).move (Nat.le_refl _) hII fun b hb => hw b (.inl hb)) fun gb cap hk hI => ?_
          rw [hlow b h3] at hk
          exact hI.2 (hfr gb cap hk)
      · have mix : ∀ (x : Nat) (mx : M) (y : Nat) (my : M), (∃ m0, x < nb + nbC' ∧ x ∈ pre.map Prod.fst ∧ bkP nb (τ 0) pn x = true ∧ getM (bkS nb x) memC' = some m0 ∧ mx.ty = m0.ty ∧ mx.size = m0.size ∧ mx.n = m0.n ∧ RenL (bkS nb) (nb + nbC') mx.xs m0.xs ∧ D.idsL (bkP nb (τ 0) pn) mx.xs = true ∧ D.plainL mx.xs = true) → (y ∉ ks ∧ getM y mem = some my) → ∀ k c c', ρ2 x = some (k, c) → ρ2 y = some (k, c') → False := fun x mx y my hx hy k c c' hk hk' => by
          obtain ⟨m0, _, _, hp, h3, _⟩ := hx
          have hlt := (g.mem y my hy.2).parts.1
          rw [hσ x hp] at hk
          rw [hlow y hlt] at hk'
          exact (gm'.rows _ m0 h3).not k c hk (gm'.old k (.inr ((hFr k).2 ⟨y, my, c', hy.2, hy.1, hk'⟩))).1
        rcases hcase b m hb with hb | hb <;> rcases hcase b' m1 hb' with hb' | hb'
        · obtain ⟨m0, _, i1, hp, h3, _⟩ := hb
          obtain ⟨m2, _, i2, hp2, h4, _⟩ := hb'
          rw [hσ b hp] at hk
          rw [hσ b' hp2] at hk'
          exact nodupB_inj (σ := bkS nb) (f := Prod.fst) (g := Prod.fst) hnd b i1 b' i2 (gm'.inj _ m0 _ m2 h3 h4 k c c' hk hk')
        · exact (mix b m b' m1 hb hb' k c c' hk hk').elim
        · exact (mix b' m1 b m hb' hb k c' c hk' hk).elim
        · have l1 := (g.mem b m hb.2).parts.1
          have l2 := (g.mem b' m1 hb'.2).parts.1
          rw [hlow b l1] at hk
          rw [hlow b' l2] at hk'
          exact g.inj b m b' m1 hb.2 hb'.2 k c c' hk hk'
    exact hk _ _ (k.h w0 I0 _ _ _ _ Q (g2.put (by simpa using ht) (back hr hr1 hr2 hv)) q)
end
end Go.Proofs.Ytpomhnmfkdgafaa
