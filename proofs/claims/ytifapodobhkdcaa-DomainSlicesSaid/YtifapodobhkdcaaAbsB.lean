/- The abstract machine's rules for operations that only read, compute, call, or make memory (no program in sight). -/
import Derived.Test.YtifapodobhkdcaaAbsA
import Derived.Laws.Unary
namespace Go.Proofs.Ytifapodobhkdcaa
open Go.RowKit
set_option linter.unusedVariables false
set_option linter.unusedSimpArgs false
section
variable {P : Program} {ops : Array Oper} {S : St} {K : St → Prop} {o : Oper} {rest : List Oper}
/-- an operation that leaves what is known, makes at most new memory, and yields d -/
def PStep (P : Program) (o : Oper) (S : St) (d : D) : Prop := ∀ w0 I0 ρ I a w (next : Act → World → Prop) (Q : Exit → Act → World → Prop), G w0 I0 S ρ I a w →
  (∀ v w' I', Ext I w I' w' → RA ρ S.nb I' w' d v → next (a.put o.dst v) w') → o.wp P a w next Q
theorem PStep.run {d : D} (h : ∀ w0 I0 ρ I a w, G w0 I0 S ρ I a w → ∃ v w' I', (execOp a.eval o).run P w = .ok (.value v) w' ∧ Ext I w I' w' ∧ RA ρ S.nb I' w' d v) : PStep P o S d := fun w0 I0 ρ I a w next Q g q => by
  obtain ⟨v, w', I', hr, he, hd⟩ := h w0 I0 ρ I a w g
  unfold Oper.wp; rw [hr]; exact q v w' I' he hd
theorem PStep.pure {d : D} (h : ∀ w0 I0 ρ I a w, G w0 I0 S ρ I a w → ∃ v, (execOp a.eval o).run P w = .ok (.value v) w ∧ RA ρ S.nb I w d v) : PStep P o S d :=
  PStep.run fun w0 I0 ρ I a w g => by obtain ⟨v, h1, h2⟩ := h w0 I0 ρ I a w g; exact ⟨v, w, I, h1, Ext.refl I w, h2⟩
theorem PStep.value {v : Value} (hv : v.oneCell' = true) (h : ∀ w0 I0 ρ I a w, G w0 I0 S ρ I a w → (execOp a.eval o).run P w = .ok (.value v) w) : PStep P o S (.val v) :=
  PStep.pure fun w0 I0 ρ I a w g => ⟨v, h w0 I0 ρ I a w g, .im (.val v hv)⟩
/-! ### lists of operations -/
def St.guard (S : St) (ops : Array Oper) (o : Oper) : Option Bool :=
  match o.guard with
  | none => some true
  | some (j, want) => match ((ops[j]?).bind (·.dst)).bind fun t => look t S.tmp with
    | some (.val (.bool b)) => some (b == want)
    | some (.tup []) => some false
    | _ => none
theorem guard_wanted {w0 : World} {I0 : Nat → Prop} {ρ : Rho} {I : Nat → Prop} {a : Act} {w : World} (g : G w0 I0 S ρ I a w) {b : Bool} (h : S.guard ops o = some b) : Region.wanted o (yielded ops a.tmps) = b := by
  unfold St.guard at h
  unfold Region.wanted
  cases hg : o.guard with
  | none => rw [hg] at h; simpa using h
  | some jw =>
    obtain ⟨j, want⟩ := jw
    rw [hg] at h
    simp only at h ⊢
    cases ht : (ops[j]?).bind (·.dst) with
    | none => rw [ht] at h; simp at h
    | some t =>
      rw [ht] at h
      simp only [Option.bind_some] at h
      cases hl : look t S.tmp with
      | none => rw [hl] at h; simp at h
      | some d =>
        rw [hl] at h
        cases d with
        | val v =>
          cases v with
          | bool c =>
            have hv := (g.tmp _ _ hl).val_eq
            have hy : yielded ops a.tmps j = some c := by
              unfold yielded
              rw [ht]
              simp only [Option.bind_some]
              by_cases hs : t < a.tmps.size
              · have : a.tmps[t]? = some (.bool c) := by
                  rw [Array.getElem?_eq_getElem hs]
                  simpa [hs] using hv
                rw [this]
              · have hn : a.tmps[t]? = none := Array.getElem?_eq_none (Nat.le_of_not_lt hs)
                simp [hn, undef] at hv
            rw [hy]
            simp only [Option.some.injEq] at h
            rw [← h]
            cases c <;> cases want <;> rfl
          | _ => simp at h
        | tup l =>
          cases l with
          | cons _ _ => simp at h
          | nil =>
            have hv : a.tmps.getD t undef = .tuple #[] := by
              have hr := g.tmp _ _ hl
              generalize a.tmps.getD t undef = v at hr
              cases hr with
              | im hr =>
                cases hr with
                | tup hl hr => rename_i us; have : us = [] := List.eq_nil_of_length_eq_zero hl.symm; subst this; rfl
              | tup hl hr => rename_i us; have : us = [] := List.eq_nil_of_length_eq_zero hl.symm; subst this; rfl
            have hy : yielded ops a.tmps j = none := by
              unfold yielded
              rw [ht]
              simp only [Option.bind_some]
              by_cases hs : t < a.tmps.size
              · have : a.tmps[t]? = some (.tuple #[]) := by
                  rw [Array.getElem?_eq_getElem hs]
                  simpa [hs] using hv
                rw [this]
              · rw [Array.getElem?_eq_none (Nat.le_of_not_lt hs)]
            rw [hy]
            simp only [Option.some.injEq] at h
            rw [← h]
            rfl
        | _ => simp at h
theorem undef_tup {ρ : Rho} {nb : Nat} {I : Nat → Prop} {w : World} : RA ρ nb I w (.tup []) undef := .im (.tup (us := []) rfl fun j d u hj => by simp at hj)
theorem T_nil (h : K S) : T P ops [] S K := ⟨fun w0 I0 ρ I a w Q g q => q S ρ I a w h g⟩
theorem T_of_wp (hg : S.guard ops o = some true) (h : ∀ w0 I0 ρ I a w Q (next : Act → World → Prop), G w0 I0 S ρ I a w → (∀ a' w', wpList P ops Q rest a' w' → next a' w') → (∀ S' ρ' I' a' w', K S' → G w0 I0 S' ρ' I' a' w' → Q Exit.normal a' w') → o.wp P a w next Q) : T P ops (o :: rest) S K := ⟨fun w0 I0 ρ I a w Q g q => by
  refine wpList_want (guard_wanted g hg) fun k hk => h w0 I0 ρ I a w Q k g hk q⟩
theorem T_step' {d : D} {S' : St} (hg : S.guard ops o = some true) (h : PStep P o S d) (hS : ∀ w0 I0 ρ I a w v, G w0 I0 S ρ I a w → RA ρ S.nb I w d v → G w0 I0 S' ρ I (a.put o.dst v) w) (k : T P ops rest S' K) : T P ops (o :: rest) S K :=
  T_of_wp hg fun w0 I0 ρ I a w Q next g hk q => h w0 I0 ρ I a w next Q g fun v w' I' e r => hk _ _ (k.h w0 I0 ρ I' _ w' Q (hS _ _ _ _ _ _ _ (g.ext e) r) q)
theorem T_pass' {S' : St} (hg : S.guard ops o = some false) (hS : ∀ w0 I0 ρ I a w v, G w0 I0 S ρ I a w → v = undef → G w0 I0 S' ρ I (a.put o.dst v) w) (k : T P ops rest S' K) : T P ops (o :: rest) S K := ⟨fun w0 I0 ρ I a w Q g q => by
  have hw := guard_wanted g hg
  unfold wpList
  rw [if_neg (by rw [hw]; decide)]
  exact k.h w0 I0 ρ I _ w Q (hS _ _ _ _ _ _ _ g rfl) q⟩
section
variable {nb sz : Nat} {tmp : List (Nat × D)} {mem : List (Nat × Option M)} {t : Nat} {op : Op} {ty : TypeId} {pos : String} {af : Array Edge} {gd : Option (Nat × Bool)}
theorem T_step {d : D} (h : PStep P ⟨some t, op, ty, pos, af, gd⟩ ⟨nb, sz, tmp, mem⟩ d) (hg : St.guard ⟨nb, sz, tmp, mem⟩ ops ⟨some t, op, ty, pos, af, gd⟩ = some true) (ht : Nat.blt t sz = true) (k : T P ops rest ⟨nb, sz, (t, d) :: tmp, mem⟩ K) : T P ops (⟨some t, op, ty, pos, af, gd⟩ :: rest) ⟨nb, sz, tmp, mem⟩ K :=
  T_step' hg h (fun _ _ _ _ _ _ _ g r => g.put (by simpa using ht) r) k
theorem T_pass (hg : St.guard ⟨nb, sz, tmp, mem⟩ ops ⟨some t, op, ty, pos, af, gd⟩ = some false) (ht : Nat.blt t sz = true) (k : T P ops rest ⟨nb, sz, (t, .tup []) :: tmp, mem⟩ K) : T P ops (⟨some t, op, ty, pos, af, gd⟩ :: rest) ⟨nb, sz, tmp, mem⟩ K :=
  T_pass' hg (fun _ _ _ _ _ _ v g r => by subst r; exact g.put (by simpa using ht) undef_tup) k
end
theorem T_guard {b : Bool} (hg : S.guard ops o = some b) (h1 : b = true → T P ops (o :: rest) S K) (h2 : b = false → T P ops (o :: rest) S K) : T P ops (o :: rest) S K := by
  cases b
  · exact h2 rfl
  · exact h1 rfl
theorem C_region {id : Nat} {l : List Oper} {Kc : Exit → St → Prop} (h : T P l.toArray l S (Kc .normal)) : C P (.region id l.toArray false) S Kc := ⟨fun w0 I0 ρ I a w Q g q =>
  wp_region_lit (h.h w0 I0 ρ I a w Q g fun S' ρ' I' a' w' hk g' => q _ S' ρ' I' a' w' hk g')⟩
/-! ### numbers -/
variable {x y : Operand} {t yt : TypeId} {k : IntKind} {a b c : Int}
theorem P_move {d : D} (ho : o.op = .move x) (hx : S.ev x = some d) : PStep P o S d := PStep.pure fun w0 I0 ρ I a w g => ⟨a.eval x, by simp [execOp, ho], g.ev hx⟩
theorem P_assign {d : D} (ho : o.op = .assign x) (hx : S.ev x = some d) : PStep P o S d := PStep.pure fun w0 I0 ρ I a w g => ⟨a.eval x, by simp [execOp, ho], g.ev hx⟩
theorem P_add (ho : o.op = .binOp .add t x y yt) (hx : S.ev x = some (.val (.int k a))) (hy : S.ev y = some (.val (.int k b))) (hc : k.wrap (a + b) = c) : PStep P o S (.val (.int k c)) :=
  PStep.value rfl fun w0 I0 ρ I ac w g => by have h1 := (g.ev hx).val_eq; have h2 := (g.ev hy).val_eq; simp [execOp, ho, h1, h2, eqGuard_at_int, eqGuard_at_string, eqGuard_at_bool, binOp_add, binOp_sub, binOp_mul, binOp_quo, binOp_rem, binOp_eql, binOp_neq, binOp_lss, binOp_leq, binOp_gtr, binOp_geq, Op.intArith, Op.intDiv, hc]
theorem P_sub (ho : o.op = .binOp .sub t x y yt) (hx : S.ev x = some (.val (.int k a))) (hy : S.ev y = some (.val (.int k b))) (hc : k.wrap (a - b) = c) : PStep P o S (.val (.int k c)) :=
  PStep.value rfl fun w0 I0 ρ I ac w g => by have h1 := (g.ev hx).val_eq; have h2 := (g.ev hy).val_eq; simp [execOp, ho, h1, h2, eqGuard_at_int, eqGuard_at_string, eqGuard_at_bool, binOp_add, binOp_sub, binOp_mul, binOp_quo, binOp_rem, binOp_eql, binOp_neq, binOp_lss, binOp_leq, binOp_gtr, binOp_geq, Op.intArith, Op.intDiv, hc]
theorem P_mul (ho : o.op = .binOp .mul t x y yt) (hx : S.ev x = some (.val (.int k a))) (hy : S.ev y = some (.val (.int k b))) (hc : k.wrap (a * b) = c) : PStep P o S (.val (.int k c)) :=
  PStep.value rfl fun w0 I0 ρ I ac w g => by have h1 := (g.ev hx).val_eq; have h2 := (g.ev hy).val_eq; simp [execOp, ho, h1, h2, eqGuard_at_int, eqGuard_at_string, eqGuard_at_bool, binOp_add, binOp_sub, binOp_mul, binOp_quo, binOp_rem, binOp_eql, binOp_neq, binOp_lss, binOp_leq, binOp_gtr, binOp_geq, Op.intArith, Op.intDiv, hc]
theorem P_quo (ho : o.op = .binOp .quo t x y yt) (hx : S.ev x = some (.val (.int k a))) (hy : S.ev y = some (.val (.int k b))) (hb : b ≠ 0) (hc : k.wrap (a.tdiv b) = c) : PStep P o S (.val (.int k c)) :=
  PStep.value rfl fun w0 I0 ρ I ac w g => by have h1 := (g.ev hx).val_eq; have h2 := (g.ev hy).val_eq; simp [execOp, ho, h1, h2, eqGuard_at_int, eqGuard_at_string, eqGuard_at_bool, binOp_add, binOp_sub, binOp_mul, binOp_quo, binOp_rem, binOp_eql, binOp_neq, binOp_lss, binOp_leq, binOp_gtr, binOp_geq, Op.intArith, Op.intDiv, hc, hb]
theorem P_rem (ho : o.op = .binOp .rem t x y yt) (hx : S.ev x = some (.val (.int k a))) (hy : S.ev y = some (.val (.int k b))) (hb : b ≠ 0) (hc : a.tmod b = c) : PStep P o S (.val (.int k c)) :=
  PStep.value rfl fun w0 I0 ρ I ac w g => by have h1 := (g.ev hx).val_eq; have h2 := (g.ev hy).val_eq; simp [execOp, ho, h1, h2, eqGuard_at_int, eqGuard_at_string, eqGuard_at_bool, binOp_add, binOp_sub, binOp_mul, binOp_quo, binOp_rem, binOp_eql, binOp_neq, binOp_lss, binOp_leq, binOp_gtr, binOp_geq, Op.intArith, Op.intDiv, hc, hb]
theorem P_eql (ho : o.op = .binOp .eql t x y yt) (hx : S.ev x = some (.val (.int k a))) (hy : S.ev y = some (.val (.int k b))) : PStep P o S (.val (.bool (decide (a = b)))) :=
  PStep.value rfl fun w0 I0 ρ I ac w g => by
    have h1 := (g.ev hx).val_eq; have h2 := (g.ev hy).val_eq
    have e : (a == b) = decide (a = b) := rfl
    simp [execOp, ho, h1, h2, eqGuard_at_int, eqGuard_at_string, eqGuard_at_bool, binOp_add, binOp_sub, binOp_mul, binOp_quo, binOp_rem, binOp_eql, binOp_neq, binOp_lss, binOp_leq, binOp_gtr, binOp_geq, Op.intArith, Op.intDiv, e]
theorem P_neq (ho : o.op = .binOp .neq t x y yt) (hx : S.ev x = some (.val (.int k a))) (hy : S.ev y = some (.val (.int k b))) : PStep P o S (.val (.bool (decide (a ≠ b)))) :=
  PStep.value rfl fun w0 I0 ρ I ac w g => by
    have h1 := (g.ev hx).val_eq; have h2 := (g.ev hy).val_eq
    have e : (a != b) = !decide (a = b) := rfl
    simp [execOp, ho, h1, h2, eqGuard_at_int, eqGuard_at_string, eqGuard_at_bool, binOp_add, binOp_sub, binOp_mul, binOp_quo, binOp_rem, binOp_eql, binOp_neq, binOp_lss, binOp_leq, binOp_gtr, binOp_geq, Op.intArith, Op.intDiv, e]
theorem P_lss (ho : o.op = .binOp .lss t x y yt) (hx : S.ev x = some (.val (.int k a))) (hy : S.ev y = some (.val (.int k b))) : PStep P o S (.val (.bool (decide (a < b)))) :=
  PStep.value rfl fun w0 I0 ρ I ac w g => by have h1 := (g.ev hx).val_eq; have h2 := (g.ev hy).val_eq; simp [execOp, ho, h1, h2, eqGuard_at_int, eqGuard_at_string, eqGuard_at_bool, binOp_add, binOp_sub, binOp_mul, binOp_quo, binOp_rem, binOp_eql, binOp_neq, binOp_lss, binOp_leq, binOp_gtr, binOp_geq, Op.intArith, Op.intDiv]
theorem P_leq (ho : o.op = .binOp .leq t x y yt) (hx : S.ev x = some (.val (.int k a))) (hy : S.ev y = some (.val (.int k b))) : PStep P o S (.val (.bool (decide (a ≤ b)))) :=
  PStep.value rfl fun w0 I0 ρ I ac w g => by have h1 := (g.ev hx).val_eq; have h2 := (g.ev hy).val_eq; simp [execOp, ho, h1, h2, eqGuard_at_int, eqGuard_at_string, eqGuard_at_bool, binOp_add, binOp_sub, binOp_mul, binOp_quo, binOp_rem, binOp_eql, binOp_neq, binOp_lss, binOp_leq, binOp_gtr, binOp_geq, Op.intArith, Op.intDiv]
theorem P_gtr (ho : o.op = .binOp .gtr t x y yt) (hx : S.ev x = some (.val (.int k a))) (hy : S.ev y = some (.val (.int k b))) : PStep P o S (.val (.bool (decide (b < a)))) :=
  PStep.value rfl fun w0 I0 ρ I ac w g => by have h1 := (g.ev hx).val_eq; have h2 := (g.ev hy).val_eq; simp [execOp, ho, h1, h2, eqGuard_at_int, eqGuard_at_string, eqGuard_at_bool, binOp_add, binOp_sub, binOp_mul, binOp_quo, binOp_rem, binOp_eql, binOp_neq, binOp_lss, binOp_leq, binOp_gtr, binOp_geq, Op.intArith, Op.intDiv]
theorem P_geq (ho : o.op = .binOp .geq t x y yt) (hx : S.ev x = some (.val (.int k a))) (hy : S.ev y = some (.val (.int k b))) : PStep P o S (.val (.bool (decide (b ≤ a)))) :=
  PStep.value rfl fun w0 I0 ρ I ac w g => by have h1 := (g.ev hx).val_eq; have h2 := (g.ev hy).val_eq; simp [execOp, ho, h1, h2, eqGuard_at_int, eqGuard_at_string, eqGuard_at_bool, binOp_add, binOp_sub, binOp_mul, binOp_quo, binOp_rem, binOp_eql, binOp_neq, binOp_lss, binOp_leq, binOp_gtr, binOp_geq, Op.intArith, Op.intDiv]
theorem P_not {c : Bool} (ho : o.op = .unOp .not t x) (hx : S.ev x = some (.val (.bool c))) : PStep P o S (.val (.bool (!c))) :=
  PStep.value rfl fun w0 I0 ρ I ac w g => by have h1 := (g.ev hx).val_eq; simp [execOp, ho, h1, Op.unary]
theorem P_neg (ho : o.op = .unOp .neg t x) (hx : S.ev x = some (.val (.int k a))) (hc : k.wrap (0 - a) = c) : PStep P o S (.val (.int k c)) :=
  PStep.value rfl fun w0 I0 ρ I ac w g => by have h1 := (g.ev hx).val_eq; rw [← hc]; simp [execOp, ho, h1, Op.unary, Op.intArith]
theorem P_eqs {r s : ByteArray} (ho : o.op = .binOp .eql t x y yt) (hx : S.ev x = some (.val (.string r))) (hy : S.ev y = some (.val (.string s))) : PStep P o S (.val (.bool (decide (r.toList = s.toList)))) :=
  PStep.value rfl fun w0 I0 ρ I ac w g => by
    have h1 := (g.ev hx).val_eq; have h2 := (g.ev hy).val_eq
    have e : (r.toList == s.toList) = decide (r.toList = s.toList) := by rw [Bool.eq_iff_iff]; simp
    simp [execOp, ho, h1, h2, eqGuard_at_int, eqGuard_at_string, eqGuard_at_bool, binOp_add, binOp_sub, binOp_mul, binOp_quo, binOp_rem, binOp_eql, binOp_neq, binOp_lss, binOp_leq, binOp_gtr, binOp_geq, Op.intArith, Op.intDiv, binOp, Op.stringOp, e]
theorem P_pick {c : Bool} {z : Operand} {d e : D} (ho : o.op = .pick z x y) (hz : S.ev z = some (.val (.bool c))) (hx : c = true → S.ev x = some d) (hy : c = false → S.ev y = some e) : PStep P o S (if c then d else e) :=
  PStep.pure fun w0 I0 ρ I ac w g => by
    have h1 := (g.ev hz).val_eq
    cases c
    · exact ⟨ac.eval y, by simp [execOp, ho, h1, asBool], g.ev (hy rfl)⟩
    · exact ⟨ac.eval x, by simp [execOp, ho, h1, asBool], g.ev (hx rfl)⟩
theorem P_convert {src dst : TypeId} {j : IntKind} (ho : o.op = .convert src dst x) (hs : (P.underlying src).isSome = true) (hd : P.underlying dst = some (.int k)) (hx : S.ev x = some (.val (.int j a))) (hc : k.wrap a = c) : PStep P o S (.val (.int k c)) :=
  PStep.value rfl fun w0 I0 ρ I ac w g => by
    have h1 := (g.ev hx).val_eq
    obtain ⟨d, hd'⟩ := Option.isSome_iff_exists.mp hs
    simp [execOp, ho, h1, convert, run_underlying hd', run_underlying hd, Conv.intToInt, hc]
theorem P_min {ts : Array TypeId} (ho : o.op = .call { callee := .builtin .min, args := #[x, y], argTypes := ts }) (hx : S.ev x = some (.val (.int k a))) (hy : S.ev y = some (.val (.int k b))) (hc : (if b < a then b else a) = c) : PStep P o S (.val (.int k c)) :=
  PStep.value rfl fun w0 I0 ρ I ac w g => by
    have h1 := (g.ev hx).val_eq; have h2 := (g.ev hy).val_eq
    subst hc
    simp [execOp, ho, h1, h2, resolve, invoke, builtin, Builtin.min_, Builtin.min2]
theorem P_max {ts : Array TypeId} (ho : o.op = .call { callee := .builtin .max, args := #[x, y], argTypes := ts }) (hx : S.ev x = some (.val (.int k a))) (hy : S.ev y = some (.val (.int k b))) (hc : (if a < b then b else a) = c) : PStep P o S (.val (.int k c)) :=
  PStep.value rfl fun w0 I0 ρ I ac w g => by
    have h1 := (g.ev hx).val_eq; have h2 := (g.ev hy).val_eq
    subst hc
    simp [execOp, ho, h1, h2, resolve, invoke, builtin, Builtin.max_, Builtin.max2]
/-! ### tuples, functions -/
theorem RA.parts {ρ : Rho} {nb : Nat} {I : Nat → Prop} {w : World} {xs : List D} {v : Value} (h : RA ρ nb I w (.tup xs) v) : ∃ us : List Value, v = .tuple us.toArray ∧ xs.length = us.length ∧ ∀ (j : Nat) (d : D) (u : Value), xs[j]? = some d → us[j]? = some u → RA ρ nb I w d u := by
  cases h with
  | im h => cases h with | tup hl hr => exact ⟨_, rfl, hl, fun j d u h1 h2 => .im (hr j d u h1 h2)⟩
  | tup hl hr => exact ⟨_, rfl, hl, hr⟩
theorem RA.cells {ρ : Rho} {nb : Nat} {I : Nat → Prop} {w : World} {xs : List D} {v : Value} (h : RA ρ nb I w (.agg xs) v) : ∃ us : List Value, v = .agg us.toArray ∧ xs.length = us.length ∧ (∀ u ∈ us, u.oneCell' = true) ∧ ∀ (j : Nat) (d : D) (u : Value), xs[j]? = some d → us[j]? = some u → RA ρ nb I w d u := by
  cases h with
  | im h => cases h with | agg hl ho hr => exact ⟨_, rfl, hl, ho, fun j d u h1 h2 => .im (hr j d u h1 h2)⟩
  | agg hl ho hr => exact ⟨_, rfl, hl, ho, hr⟩
theorem P_extract {xs : List D} {i : Nat} {d : D} (ho : o.op = .extract x i) (hx : S.ev x = some (.tup xs)) (hi : xs[i]? = some d) : PStep P o S d :=
  PStep.pure fun w0 I0 ρ I ac w g => by
    obtain ⟨us, h1, h2, h3⟩ := (g.ev hx).parts
    have hlt : i < us.length := by have := (List.getElem?_eq_some_iff.1 hi).1; omega
    exact ⟨us[i], by simp [execOp, ho, h1, Instr.extract, hlt], h3 i d _ hi (List.getElem?_eq_getElem hlt)⟩
def St.evs (S : St) : List Operand → Option (List D)
  | [] => some []
  | x :: l => match S.ev x, S.evs l with
    | some d, some ds => some (d :: ds)
    | _, _ => none
theorem G.evs {w0 : World} {I0 : Nat → Prop} {ρ : Rho} {I : Nat → Prop} {a : Act} {w : World} (g : G w0 I0 S ρ I a w) : ∀ {l : List Operand} {ds : List D}, S.evs l = some ds → ds.length = (l.map a.eval).length ∧ ∀ (j : Nat) (d : D) (u : Value), ds[j]? = some d → (l.map a.eval)[j]? = some u → RA ρ S.nb I w d u
  | [], ds, h => by cases h; exact ⟨rfl, fun j d u hj => by simp at hj⟩
  | x :: l, ds, h => by
    unfold St.evs at h
    cases hx : S.ev x with
    | none => rw [hx] at h; cases h
    | some d =>
      cases hl : S.evs l with
      | none => rw [hx, hl] at h; cases h
      | some es =>
        rw [hx, hl] at h
        cases h
        obtain ⟨h1, h2⟩ := g.evs hl
        refine ⟨by simp [h1], fun j d' u h3 h4 => ?_⟩
        cases j with
        | zero => simp at h3 h4; subst h3; subst h4; exact g.ev hx
        | succ j => exact h2 j d' u (by simpa using h3) (by simpa using h4)
theorem P_makeFunc {f : Nat} {fs cs : Array Operand} {ds es : List D} (ho : o.op = .makeFunc (.func f) fs cs) (hf : S.evs fs.toList = some ds) (hc : S.evs cs.toList = some es) : PStep P o S (.fn f ds es) :=
  PStep.pure fun w0 I0 ρ I ac w g => by
    obtain ⟨h1, h2⟩ := g.evs hf
    obtain ⟨h3, h4⟩ := g.evs hc
    refine ⟨.func (.func f) (fs.toList.map ac.eval).toArray (cs.toList.map ac.eval).toArray, ?_, .fn h1 h3 h2 h4⟩
    cases fs; cases cs
    simp [execOp, ho, Instr.makeFunc]
theorem P_nilPtr {b off : Nat} (ho : o.op = .nilCheck x) (hx : S.ev x = some (.ptr b off)) : PStep P o S (.ptr b off) :=
  PStep.pure fun w0 I0 ρ I ac w g => by
    have h := g.ev hx
    have hp : ∃ ad, ac.eval x = .pointer (some ad) := by
      generalize ac.eval x = v at h; cases h with
      | im h => cases h
      | ptr => exact ⟨_, rfl⟩
    obtain ⟨ad, hp⟩ := hp
    exact ⟨.pointer (some ad), by simp [execOp, ho, hp], by rw [hp] at h; exact h⟩
theorem P_nilObj {xs : List D} (ho : o.op = .nilCheck x) (hx : S.ev x = some (.obj xs)) : PStep P o S (.obj xs) :=
  PStep.pure fun w0 I0 ρ I ac w g => by
    have h := g.ev hx
    have hp : ∃ ad, ac.eval x = .pointer (some ad) := by
      generalize ac.eval x = v at h; cases h with | im h => cases h; exact ⟨_, rfl⟩
    obtain ⟨ad, hp⟩ := hp
    exact ⟨.pointer (some ad), by simp [execOp, ho, hp], by rw [hp] at h; exact h⟩
end
end Go.Proofs.Ytifapodobhkdcaa
