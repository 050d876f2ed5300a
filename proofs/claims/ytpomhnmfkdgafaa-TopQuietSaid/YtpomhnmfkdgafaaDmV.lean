/- Calls that only look at rows of the caller's own; pointers that are known; comparisons with nil. -/
import Derived.Test.YtpomhnmfkdgafaaDm
import Derived.Laws.Pointers
namespace Go.Proofs.Ytpomhnmfkdgafaa
open Go.RowKit
set_option linter.unusedVariables false
set_option linter.unusedSimpArgs false
set_option maxRecDepth 100000
class TyPtr (P : Program) (t : TypeId) : Prop where
  ty : P.underlying t = some (.pointer (P.pointee t))
def isPtr : D → Bool
  | .ptr _ _ | .pin _ _ _ _ | .obj _ => true
  | _ => false
theorem RA.addr {ρ : Rho} {nb : Nat} {I : Nat → Prop} {w : World} {d : D} {v : Value} (h : RA ρ nb I w d v) (hd : isPtr d = true) : ∃ ad, v = .pointer (some ad) := by
  cases h with
  | im h => cases h with
    | obj => exact ⟨_, rfl⟩
    | _ => cases hd
  | ptr => exact ⟨_, rfl⟩
  | pin => exact ⟨_, rfl⟩
  | _ => cases hd
section
variable {P : Program} {o : Oper} {S : St} {x y : Operand} {t yt : TypeId}
theorem P_eqPN {d : D} [hT : TyPtr P t] (ho : o.op = .binOp .eql t x y yt) (hx : S.ev x = some d) (hd : isPtr d = true) (hy : S.ev y = some (.val (.pointer none))) : PStep P o S (.val (.bool false)) :=
  PStep.value rfl fun w0 I0 ρ I ac w g => by
    obtain ⟨ad, h1⟩ := (g.ev hx).addr hd
    have h2 := (g.ev hy).val_eq
    simp [execOp, ho, h1, h2, eqGuard_at_pointer, run_eql_pointer_nil w t _ hT.ty]
theorem P_eqNN [hT : TyPtr P t] (ho : o.op = .binOp .eql t x y yt) (hx : S.ev x = some (.val (.pointer none))) (hy : S.ev y = some (.val (.pointer none))) : PStep P o S (.val (.bool true)) :=
  PStep.value rfl fun w0 I0 ρ I ac w g => by
    have h1 := (g.ev hx).val_eq
    have h2 := (g.ev hy).val_eq
    simp [execOp, ho, h1, h2, eqGuard_at_pointer, run_eql_pointer_nil w t _ hT.ty]
theorem P_nilPin {B c b off : Nat} (ho : o.op = .nilCheck x) (hx : S.ev x = some (.pin B c b off)) : PStep P o S (.ptr b off) :=
  PStep.pure fun w0 I0 ρ I ac w g => by
    have h := g.ev hx
    generalize hv : ac.eval x = v at h
    cases h with
    | im h => cases h
    | pin hb h => exact ⟨_, by simp [execOp, ho, hv], .ptr hb h⟩
/-- a slice of which only the length is known -/
theorem P_lenSz {n size bytes : Nat} {e : TypeId} {c : Int} [hT : TySlice P t e size bytes] (ho : o.op = .call { callee := .builtin .len, args := #[x], argTypes := #[t] }) (hx : S.ev x = some (.sized n)) (hn : (n : Int) = c) : PStep P o S (.val (.int .i64 c)) :=
  PStep.value rfl fun w0 I0 ρ I ac w g => by
    have h := g.ev hx
    generalize hv : ac.eval x = v at h
    cases h with
    | im h => cases h with
      | sized ao n cap hm => simp [execOp, ho, hv, resolve, invoke, builtin, Builtin.len_, run_underlying hT.ty, goInt, ← hn]
end
/-! ### rows of the call's own as data that is not written to -/
def Own (mem : List (Nat × Option M)) (ρ : Rho) (b : Nat) : Prop := ∃ x m c, getM x mem = some m ∧ ρ x = some (b, c)
def Vw (mem : List (Nat × Option M)) (d e : D) : Prop := ∀ w0 I0 nb ρ I w v, GM w0 I0 nb mem ρ I w → RA ρ nb I w d v → RC (fun b => I b ∨ Own mem ρ b) w e v
def VwL (mem : List (Nat × Option M)) (xs es : List D) : Prop := xs.length = es.length ∧ ∀ (j : Nat) (d e : D), xs[j]? = some d → es[j]? = some e → Vw mem d e
section
variable {mem : List (Nat × Option M)}
theorem Vw.im {d : D} (h : d.ids (fun _ => false) = true) : Vw mem d d := fun w0 I0 nb ρ I w v gm hv => (hv.closed h).move (fun _ h => .inl h) (fun _ _ => rfl)
theorem Vw.own {b n size : Nat} {ty : TypeId} {xs : List D} (hm : getM b mem = some ⟨ty, size, n, xs⟩) (hc : D.idsL (fun _ => false) xs = true) : Vw mem (.own b n) (.row n xs) := fun w0 I0 nb ρ I w v gm hv => by
  obtain ⟨rfl, h0⟩ := own_eq hv
  obtain ⟨_, ⟨us, ho, hx⟩, _⟩ := (gm.rows b _ hm).parts
  have hcl : ∀ (j : Nat) (d : D) (u : Value), xs[j]? = some d → us[j]? = some u → RC (fun b => I b ∨ Own mem ρ b) w d u := fun j d u h1 h2 => ((hx.2.2 j d u h1 h2).closed (idsL_mem hc j d h1)).move (fun _ h => .inl h) (fun _ _ => rfl)
  cases hp : ρ b with
  | none =>
    have hn0 := h0 hp
    subst hn0
    rw [hp] at ho
    have hu : us = [] := List.eq_nil_of_length_eq_zero (by have := ho.1; simpa using this)
    subst hu
    have hxs : xs = [] := List.eq_nil_of_length_eq_zero hx.1
    subst hxs
    exact (RC.val (.slice none 0 0) rfl).nil_row
  | some gc =>
    obtain ⟨gb, cap⟩ := gc
    rw [hp] at ho
    rcases ho.2 with ⟨h', _⟩ | ⟨g', cap', cur, h', _, _, hnc, hcm, _, _⟩
    · simp [sv] at h'
    · simp only [sv, Value.slice.injEq, Option.some.injEq, Addr.mk.injEq, and_true, true_and] at h'
      obtain ⟨rfl, rfl⟩ := h'
      exact .row hnc hcm (fun h => by cases h) (us := us) hx.1 (fun _ => ⟨rfl, .inr ⟨b, _, _, hm, hp⟩⟩) (ownsRow_lies ho) hx.2.1 hcl
theorem Vw.at {b off g c size n : Nat} {ty : TypeId} {xs es : List D} (hm : getM b mem = some ⟨ty, size, n, xs⟩) (hv : VwL mem xs es) {w0 : World} {I0 : Bs} {nb : Nat} {ρ : Rho} {I : Nat → Prop} {w : World} (gm : GM w0 I0 nb mem ρ I w) (hp : ρ b = some (g, c)) : RC (fun b => I b ∨ Own mem ρ b) w (.obj (es.drop off)) (.pointer (some ⟨g, off, none⟩)) := by
  obtain ⟨_, ⟨us, ho, hx⟩, _⟩ := (gm.rows b _ hm).parts
  rw [hp] at ho
  have hl := ownsRow_lies ho
  refine .obj (.inr ⟨b, _, _, hm, hp⟩) (us := us.drop off) (by simp only [List.length_drop]; rw [← hv.1, hx.1]) (fun j u hu => ?_) (fun u hu => hx.2.1 u (List.mem_of_mem_drop hu)) fun j d u h1 h2 => ?_
  · have := hl (off + j) u (by simpa using hu)
    rw [Nat.zero_add] at this
    exact this
  · rw [List.getElem?_drop] at h1 h2
    obtain ⟨e, he⟩ : ∃ e, xs[off + j]? = some e := ⟨_, List.getElem?_eq_getElem (by rw [hv.1]; exact (List.getElem?_eq_some_iff.1 h1).1)⟩
    exact hv.2 _ e d he h1 _ _ _ _ _ _ _ gm (hx.2.2 _ e u he h2)
theorem Vw.ptr {b off size n : Nat} {ty : TypeId} {xs es : List D} (hm : getM b mem = some ⟨ty, size, n, xs⟩) (hv : VwL mem xs es) : Vw mem (.ptr b off) (.obj (es.drop off)) := fun w0 I0 nb ρ I w v gm h => by
  cases h with
  | im h => cases h
  | ptr hb hp => exact Vw.at hm hv gm hp
theorem Vw.pin {B c b size n : Nat} {ty : TypeId} {xs es : List D} (hm : getM b mem = some ⟨ty, size, n, xs⟩) (hv : VwL mem xs es) : Vw mem (.pin B c b 0) (.obj es) := fun w0 I0 nb ρ I w v gm h => by
  cases h with
  | im h => cases h
  | pin hb hp => exact Vw.at (off := 0) hm hv gm hp
theorem VwL.nil : VwL mem [] [] := ⟨rfl, fun j d e h => by simp at h⟩
theorem VwL.cons {d e : D} {xs es : List D} (h : Vw mem d e) (k : VwL mem xs es) : VwL mem (d :: xs) (e :: es) := ⟨by simp [k.1], fun j d' e' h1 h2 => by
  cases j with
  | zero => simp at h1 h2; subst h1; subst h2; exact h
  | succ j => exact k.2 j d' e' (by simpa using h1) (by simpa using h2)⟩
end
/-- a result of which no memory is kept -/
def Thin (r r' : D) : Prop := ∀ I w v, RC I w r v → ∀ (ρ : Rho) nb I2 w2, RA ρ nb I2 w2 r' v
theorem Thin.im {r : D} (hp : r.plain = true) : Thin r r := fun I w v h ρ nb I2 w2 => .im (h.plain hp)
theorem Thin.row {n : Nat} {xs : List D} : Thin (.row n xs) (.sized n) := fun I w v h ρ nb I2 w2 => by
  cases h with
  | row hc hm hn hl ha hs ho hr => exact .im (.sized _ _ _ (Nat.le_trans hc hm))
section
variable {P : Program} {S : St} {o : Oper}
theorem P_callV {f : Nat} {c : Operand} {args : Array Operand} {ats : Array TypeId} {ds es : List D} {r r' : D} (h : DC P f es r) (hc : S.ev c = some (.fn f [] [])) (hd : S.evs args.toList = some ds) (ho : o.op = .call { callee := .value c, args := args, argTypes := ats })
    (hv : VwL S.mem ds es) (hr : Thin r r') : PStep P o S r' := fun w0 I0 ρ I ac w next Q g q => by
  have hev : ac.eval c = .func (.func f) ([] : List Value).toArray ([] : List Value).toArray := by
    have hh := g.ev hc
    generalize ac.eval c = v at hh
    cases hh with
    | im hh => cases hh with | fn hl hk hr hq =>
      rename_i us vs
      have e1 : us = [] := List.eq_nil_of_length_eq_zero hl.symm
      have e2 : vs = [] := List.eq_nil_of_length_eq_zero hk.symm
      subst e1 e2; rfl
    | fn hl hk hr hq =>
      rename_i us vs
      have e1 : us = [] := List.eq_nil_of_length_eq_zero hl.symm
      have e2 : vs = [] := List.eq_nil_of_length_eq_zero hk.symm
      subst e1 e2; rfl
  obtain ⟨h6, h7⟩ := g.evs hd
  unfold Oper.wp
  rw [exec_call h.fn ho hev]
  refine (h.calls w (fun b => I b ∨ Own S.mem ρ b) _ (fun b hb => ?_) (by simp only [List.nil_append, List.append_nil]; rw [← hv.1, h6]) fun j e v hj hv' => ?_).mono ?_
  · rcases hb with hb | ⟨x, m, c', h1, h2⟩
    · exact g.lt b hb
    · exact ((g.mem x m h1).lt h2).2
  · simp only [List.nil_append, List.append_nil] at hv'
    obtain ⟨d, hd'⟩ : ∃ d, ds[j]? = some d := ⟨_, List.getElem?_eq_getElem (by rw [hv.1]; exact (List.getElem?_eq_some_iff.1 hj).1)⟩
    exact hv.2 j d e hd' hj _ _ _ _ _ _ _ g.gm (h7 j d v hd' hv')
  · rintro e w' ⟨v, rfl, hres, hl⟩
    exact q v w' I (Ext.same hl) (hr _ _ _ hres _ _ _ _)
end
/-- a pointer's block gets a name -/
theorem C_pin {P : Program} {c : Code} {nb sz t b off : Nat} {tmp : List (Nat × D)} {mem : List (Nat × Option M)} {K : Exit → St → Prop} (h : look t tmp = some (.ptr b off)) (k : ∀ B q, C P c ⟨nb, sz, (t, .pin B q b off) :: tmp, mem⟩ K) : C P c ⟨nb, sz, tmp, mem⟩ K := ⟨fun w0 I0 ρ I a w Q g q => by
  have hv := g.tmp t _ h
  have : ∃ B c', RA ρ nb I w (.pin B c' b off) (a.tmps.getD t undef) := by
    generalize a.tmps.getD t undef = v at hv
    cases hv with
    | im h => cases h
    | ptr hb hp => exact ⟨_, _, .pin hb hp⟩
  obtain ⟨B, c', hv'⟩ := this
  exact (k B c').h w0 I0 ρ I a w Q (g.know hv') q⟩
theorem Ren.pin {σ : Nat → Nat} {nb' B c b b' off : Nat} (hb : Nat.blt b' nb' = true) (h : Nat.beq (σ b') b = true) : Ren σ nb' (.pin B c b' off) (.pin B c b off) := fun ρ nb I w v hv => by
  have h := Nat.eq_of_beq_eq_true h
  subst h
  have hlt : b' < nb' := by simpa using hb
  generalize hx : D.pin B c (σ b') off = x at hv
  cases hv with
  | im h => subst hx; cases h
  | pin hb' h0 => cases hx; exact RA.pin (ρ := fun b => ρ (σ b)) (b := b') hlt h0
  | _ => cases hx
end Go.Proofs.Ytpomhnmfkdgafaa
