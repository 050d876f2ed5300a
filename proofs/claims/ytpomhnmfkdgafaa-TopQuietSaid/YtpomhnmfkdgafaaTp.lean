/- A call of a ring's method by a pointer that the caller's own row holds. -/
import Derived.Test.YtpomhnmfkdgafaaUni
namespace Go.Proofs.Ytpomhnmfkdgafaa
open Go.RowKit
set_option linter.unusedVariables false
set_option maxHeartbeats 16000000
set_option linter.unusedSimpArgs false
set_option maxRecDepth 100000
section
variable {P : Program} {ops : Array Oper} {rest : List Oper} {nb sz : Nat} {tmp : List (Nat × D)} {mem : List (Nat × Option M)} {K : St → Prop} {t : Nat} {ty : TypeId} {pos : String} {af : Array Edge} {gd : Option (Nat × Bool)}
theorem pin_ptr {ρ : Rho} {nb : Nat} {I : Nat → Prop} {w : World} {B c b off : Nat} {v : Value} (h : RA ρ nb I w (.pin B c b off) v) : RA ρ nb I w (.ptr b off) v := by
  cases h with
  | im h => cases h
  | pin hb h => exact .ptr hb h
theorem T_dmp {f s i : Nat} {c : Operand} {args : Array Operand} {ats : Array TypeId} {ds dsC : List D} {nbC nbC' : Nat} {memC memC' pre mem2 : List (Nat × Option M)} {r r' : D} (τ : Nat → Nat) (h : ∀ B q, DM P f (some (B, q)) nbC memC (.pin B q 0 0 :: dsC) nbC' memC' r) (hs : look s tmp = some (.ptr i 0))
    (hc : ∀ B q, St.ev ⟨nb, sz, (s, .pin B q i 0) :: tmp, mem⟩ c = some (.fn f [] [])) (hd : ∀ B q, St.evs ⟨nb, sz, (s, .pin B q i 0) :: tmp, mem⟩ args.toList = some (.pin B q i 0 :: ds)) (ha : RenL τ nbC dsC ds) (hi : Nat.beq (τ 0) i = true) (h0 : Nat.blt 0 nbC = true) (hm : WkM τ nbC mem memC) (hn : nodupB (memC.map fun e => τ e.1) = true)
    (hpre : WkM (bkS nb) (nb + nbC') memC' pre) (hnd : nodupB (pre.map fun e => bkS nb e.1) = true) (hrow : okRows (bkP nb (τ 0) (some (0, 0))) pre)
    (hr : Ren (bkS nb) (nb + nbC') r' r) (hr1 : r'.ids (bkP nb (τ 0) (some (0, 0))) = true) (hr2 : r'.plain = true) (hm2 : pre ++ ((memC.map fun e => τ e.1).map fun x => (x, none)) ++ mem = mem2)
    (hg : ∀ B q, St.guard ⟨nb, sz, (s, .pin B q i 0) :: tmp, mem⟩ ops ⟨some t, .call { callee := .value c, args := args, argTypes := ats }, ty, pos, af, gd⟩ = some true) (ht : Nat.blt t sz = true)
    (k : T P ops rest ⟨nb + nbC', sz, (t, r') :: tmp, mem2⟩ K) : T P ops (⟨some t, .call { callee := .value c, args := args, argTypes := ats }, ty, pos, af, gd⟩ :: rest) ⟨nb, sz, tmp, mem⟩ K :=
  ⟨fun w0 I0 ρ I a w Q g q => by
    have hv := g.tmp s _ hs
    have : ∃ B c', RA ρ nb I w (.pin B c' i 0) (a.tmps.getD s undef) := by
      generalize a.tmps.getD s undef = v at hv
      cases hv with
      | im h => cases h
      | ptr hb hp => exact ⟨_, _, .pin hb hp⟩
    obtain ⟨B, c', hv'⟩ := this
    have hw : Wk ⟨nb + nbC', sz, (t, r') :: (s, .pin B c' i 0) :: tmp, mem2⟩ ⟨nb + nbC', sz, (t, r') :: tmp, mem2⟩ := fun w0 I0 ρ I a w g => ⟨ρ, I, g.later, g.lt, g.base, g.old, g.defers, g.sz, fun u d hu => by
      have hu' : cond (Nat.beq t u) (some r') (look u tmp) = some d := hu
      have g1 := g.tmp u
      cases hb : Nat.beq t u with
      | true =>
        rw [hb] at hu'
        exact g1 d (by show cond (Nat.beq t u) _ _ = _; rw [hb]; exact hu')
      | false =>
        rw [hb] at hu'
        cases hb2 : Nat.beq s u with
        | false => exact g1 d (by show cond (Nat.beq t u) _ (cond (Nat.beq s u) _ _) = _; rw [hb, hb2]; exact hu')
        | true =>
          have := Nat.eq_of_beq_eq_true hb2
          subst this
          have e : look s tmp = some d := hu'
          rw [hs] at e
          cases e
          exact pin_ptr (g1 (.pin B c' i 0) (by show cond (Nat.beq t s) _ (cond (Nat.beq s s) _ _) = _; rw [hb, Nat.beq_refl]; rfl)), g.mem, g.inj⟩
    exact (T_dm τ (h B c') (hc B c') (hd B c') (.cons (Ren.pin h0 hi) ha) hm hn (fun q hq => by cases hq; rfl) hpre hnd hrow hr hr1 hr2 hm2 (hg B c') ht (T_wk hw k)).h w0 I0 ρ I a w Q (g.know hv') q⟩
theorem Ren.same {σ : Nat → Nat} {nb' : Nat} {d : D} (p : Nat → Bool) (h : d.ids p = true) (hp : ∀ b, p b = true → b < nb' ∧ σ b = b) : Ren σ nb' d d := fun ρ nb I w v hv =>
  (hv.rho (ρ' := fun b => ρ (σ b)) p h fun b _ hb => ⟨(hp b hb).1, by show ρ (σ b) = ρ b; rw [(hp b hb).2]⟩)
/-! ### the rings' rows, wherever they lie -/
def ringAt (i j k : Nat) (r : Rng) : List (Nat × Option M) := [(i, some ⟨52, 8, 1, [.own j r.n, .own k r.fly.length, iD r.at_, iD r.sum, bD r.dark, bD r.fresh, bD r.told, iD r.passes]⟩), (j, some ⟨54, 3, r.n, spotsD r.n r.act r.blk r.cnt⟩), (k, some ⟨49, 2, r.fly.length, flyD r.fly⟩)]
def ringSAt (i j k l m : Nat) (r : Rng) : List (Nat × Option M) := [(i, some ⟨58, 11, 1, [iD r.n, .own j r.n, .own k r.n, .own l r.n, .own m r.fly.length, iD r.at_, iD r.sum, bD r.dark, bD r.fresh, bD r.told, iD r.passes]⟩), (j, some ⟨4, 1, r.n, boolsD r.n r.act⟩), (k, some ⟨4, 1, r.n, boolsD r.n r.blk⟩), (l, some ⟨3, 1, r.n, cntsD r.n r.cnt⟩), (m, some ⟨49, 2, r.fly.length, flyD r.fly⟩)]
theorem spots_plain (n : Nat) (a b : Nat → Bool) (c : Nat → Int) : D.plainL (spotsD n a b c) = true := by
  unfold spotsD
  induction List.range n with
  | nil => rfl
  | cons x l ih => show D.plainL (spotD a b c x ++ l.flatMap (spotD a b c)) = true; simp only [spotD, List.cons_append, List.nil_append, D.plainL, D.plain, Bool.and_true, Bool.true_and]; exact ih
theorem ones_plain {n : Nat} {f : Nat → D} (h : ∀ j, (f j).plain = true) : D.plainL (onesD n f) = true := by
  unfold onesD
  induction List.range n with
  | nil => rfl
  | cons x l ih => show (D.plain (f x) && D.plainL _) = true; rw [h x]; exact ih
theorem bools_plain (n : Nat) (a : Nat → Bool) : D.plainL (boolsD n a) = true := ones_plain fun _ => rfl
theorem cnts_plain (n : Nat) (c : Nat → Int) : D.plainL (cntsD n c) = true := ones_plain fun _ => rfl
theorem bk_lt {nb x : Nat} (h : Nat.blt x nb = true) : bkS nb x = 0 := by unfold bkS; rw [h]; rfl
theorem bk_add (nb y : Nat) : bkS nb (nb + y) = y := by
  have hb : Nat.blt (nb + y) nb = false := by
    cases h : Nat.blt (nb + y) nb with
    | false => rfl
    | true => have := Nat.le_of_ble_eq_true h; omega
  unfold bkS; rw [hb]
  show nb + y - nb = y
  omega
theorem bkP_0 (nb i : Nat) (q : Nat × Nat) : bkP nb i (some q) i = true := by unfold bkP; simp
theorem bkP_add (nb i y : Nat) (q : Option (Nat × Nat)) : bkP nb i q (nb + y) = true := by unfold bkP; simp
theorem blt_add {nb y z : Nat} (h : Nat.blt y z = true) : Nat.blt (nb + y) (nb + z) = true := by
  have := Nat.le_of_ble_eq_true h
  exact Nat.ble_eq_true_of_le (show nb + y + 1 ≤ nb + z by omega)
theorem beq_bk (nb y : Nat) : Nat.beq (bkS nb (nb + y)) y = true := by rw [bk_add]; exact Nat.beq_refl y
theorem T_R {f s i j k : Nat} {c : Operand} {args : Array Operand} {ats : Array TypeId} {ds : List D} {a a' : Rng} {r : D} (h : ∀ B q, DM P f (some (B, q)) 3 (ringM a) (.pin B q 0 0 :: ds) 3 (ringM a') r) (hs : look s tmp = some (.ptr i 0))
    (hc : ∀ B q, St.ev ⟨nb, sz, (s, .pin B q i 0) :: tmp, mem⟩ c = some (.fn f [] [])) (hd : ∀ B q, St.evs ⟨nb, sz, (s, .pin B q i 0) :: tmp, mem⟩ args.toList = some (.pin B q i 0 :: ds)) (hds : D.idsL (fun _ => false) ds = true)
    (m0 : getM i mem = some ⟨52, 8, 1, [.own j a.n, .own k a.fly.length, iD a.at_, iD a.sum, bD a.dark, bD a.fresh, bD a.told, iD a.passes]⟩) (m1 : getM j mem = some ⟨54, 3, a.n, spotsD a.n a.act a.blk a.cnt⟩) (m2 : getM k mem = some ⟨49, 2, a.fly.length, flyD a.fly⟩)
    (hn : nodupB [i, j, k] = true) (hi : Nat.blt i nb = true) (hr1 : ∀ p, r.ids p = true) (hr2 : r.plain = true)
    (hg : ∀ B q, St.guard ⟨nb, sz, (s, .pin B q i 0) :: tmp, mem⟩ ops ⟨some t, .call { callee := .value c, args := args, argTypes := ats }, ty, pos, af, gd⟩ = some true) (ht : Nat.blt t sz = true)
    (kk : T P ops rest ⟨nb + 3, sz, (t, r) :: tmp, ringAt i (nb + 1) (nb + 2) a' ++ [(i, none), (j, none), (k, none)] ++ mem⟩ K) : T P ops (⟨some t, .call { callee := .value c, args := args, argTypes := ats }, ty, pos, af, gd⟩ :: rest) ⟨nb, sz, tmp, mem⟩ K := by
  have hi3 : Nat.blt i (nb + 3) = true := by
    have := Nat.le_of_ble_eq_true hi
    exact Nat.ble_eq_true_of_le (show i + 1 ≤ nb + 3 by omega)
  refine T_dmp (fun y => cond (Nat.beq y 0) i (cond (Nat.beq y 1) j k)) h hs hc hd (RenL.im rfl hds) (Nat.beq_refl i) rfl ?_ hn (pre := ringAt i (nb + 1) (nb + 2) a') ?_ ?_ ?_ (Ren.im (hr1 _)) (hr1 _) hr2 rfl hg ht kk
  · unfold ringM
    exact .cons rfl m0 rfl (.cons (Ren.own rfl (Nat.beq_refl j) rfl) (.cons (Ren.own rfl (Nat.beq_refl k) rfl) (.cons (Ren.im rfl) (.cons (Ren.im rfl) (.cons (Ren.im rfl) (.cons (Ren.im rfl) (.cons (Ren.im rfl) (.cons (Ren.im rfl) .nil)))))))) (.cons rfl m1 rfl (RenL.im rfl (spots_ids _ _ _ _ _)) (.cons rfl m2 rfl (RenL.im rfl (fly_ids _ _)) .nil))
  · unfold ringAt
    refine .cons hi3 (by rw [bk_lt hi]; rfl) rfl ?_ (.cons (blt_add rfl) (by rw [bk_add]; rfl) rfl (RenL.im rfl (spots_ids _ _ _ _ _)) (.cons (blt_add rfl) (by rw [bk_add]; rfl) rfl (RenL.im rfl (fly_ids _ _)) .nil))
    exact .cons (Ren.own (blt_add rfl) (beq_bk nb 1) rfl) (.cons (Ren.own (blt_add rfl) (beq_bk nb 2) rfl) (.cons (Ren.im rfl) (.cons (Ren.im rfl) (.cons (Ren.im rfl) (.cons (Ren.im rfl) (.cons (Ren.im rfl) (.cons (Ren.im rfl) .nil)))))))
  · show nodupB [bkS nb i, bkS nb (nb + 1), bkS nb (nb + 2)] = true
    rw [bk_lt hi, bk_add, bk_add]; rfl
  · refine ⟨⟨bkP_0 _ _ _, ?_, rfl⟩, ⟨bkP_add _ _ _ _, spots_ids _ _ _ _ _, spots_plain _ _ _ _⟩, ⟨bkP_add _ _ _ _, fly_ids _ _, fly_plain _⟩, trivial⟩
    simp only [D.idsL, D.ids, bkP_add, Bool.and_true, Bool.true_and]
theorem T_S {f s i j k l m : Nat} {c : Operand} {args : Array Operand} {ats : Array TypeId} {ds : List D} {a a' : Rng} {r : D} (h : ∀ B q, DM P f (some (B, q)) 5 (ringSM a) (.pin B q 0 0 :: ds) 5 (ringSM a') r) (hs : look s tmp = some (.ptr i 0))
    (hc : ∀ B q, St.ev ⟨nb, sz, (s, .pin B q i 0) :: tmp, mem⟩ c = some (.fn f [] [])) (hd : ∀ B q, St.evs ⟨nb, sz, (s, .pin B q i 0) :: tmp, mem⟩ args.toList = some (.pin B q i 0 :: ds)) (hds : D.idsL (fun _ => false) ds = true)
    (m0 : getM i mem = some ⟨58, 11, 1, [iD a.n, .own j a.n, .own k a.n, .own l a.n, .own m a.fly.length, iD a.at_, iD a.sum, bD a.dark, bD a.fresh, bD a.told, iD a.passes]⟩) (m1 : getM j mem = some ⟨4, 1, a.n, boolsD a.n a.act⟩) (m2 : getM k mem = some ⟨4, 1, a.n, boolsD a.n a.blk⟩) (m3 : getM l mem = some ⟨3, 1, a.n, cntsD a.n a.cnt⟩) (m4 : getM m mem = some ⟨49, 2, a.fly.length, flyD a.fly⟩)
    (hn : nodupB [i, j, k, l, m] = true) (hi : Nat.blt i nb = true) (hr1 : ∀ p, r.ids p = true) (hr2 : r.plain = true)
    (hg : ∀ B q, St.guard ⟨nb, sz, (s, .pin B q i 0) :: tmp, mem⟩ ops ⟨some t, .call { callee := .value c, args := args, argTypes := ats }, ty, pos, af, gd⟩ = some true) (ht : Nat.blt t sz = true)
    (kk : T P ops rest ⟨nb + 5, sz, (t, r) :: tmp, ringSAt i (nb + 1) (nb + 2) (nb + 3) (nb + 4) a' ++ [(i, none), (j, none), (k, none), (l, none), (m, none)] ++ mem⟩ K) : T P ops (⟨some t, .call { callee := .value c, args := args, argTypes := ats }, ty, pos, af, gd⟩ :: rest) ⟨nb, sz, tmp, mem⟩ K := by
  have hi3 : Nat.blt i (nb + 5) = true := by
    have := Nat.le_of_ble_eq_true hi
    exact Nat.ble_eq_true_of_le (show i + 1 ≤ nb + 5 by omega)
  refine T_dmp (fun y => cond (Nat.beq y 0) i (cond (Nat.beq y 1) j (cond (Nat.beq y 2) k (cond (Nat.beq y 3) l m)))) h hs hc hd (RenL.im rfl hds) (Nat.beq_refl i) rfl ?_ hn (pre := ringSAt i (nb + 1) (nb + 2) (nb + 3) (nb + 4) a') ?_ ?_ ?_ (Ren.im (hr1 _)) (hr1 _) hr2 rfl hg ht kk
  · unfold ringSM
    exact .cons rfl m0 rfl (.cons (Ren.im rfl) (.cons (Ren.own rfl (Nat.beq_refl j) rfl) (.cons (Ren.own rfl (Nat.beq_refl k) rfl) (.cons (Ren.own rfl (Nat.beq_refl l) rfl) (.cons (Ren.own rfl (Nat.beq_refl m) rfl) (.cons (Ren.im rfl) (.cons (Ren.im rfl) (.cons (Ren.im rfl) (.cons (Ren.im rfl) (.cons (Ren.im rfl) (.cons (Ren.im rfl) .nil))))))))))) (.cons rfl m1 rfl (RenL.im rfl (bools_ids _ _ _)) (.cons rfl m2 rfl (RenL.im rfl (bools_ids _ _ _)) (.cons rfl m3 rfl (RenL.im rfl (cnts_ids _ _ _)) (.cons rfl m4 rfl (RenL.im rfl (fly_ids _ _)) .nil))))
  · unfold ringSAt
    refine .cons hi3 (by rw [bk_lt hi]; rfl) rfl ?_ (.cons (blt_add rfl) (by rw [bk_add]; rfl) rfl (RenL.im rfl (bools_ids _ _ _)) (.cons (blt_add rfl) (by rw [bk_add]; rfl) rfl (RenL.im rfl (bools_ids _ _ _)) (.cons (blt_add rfl) (by rw [bk_add]; rfl) rfl (RenL.im rfl (cnts_ids _ _ _)) (.cons (blt_add rfl) (by rw [bk_add]; rfl) rfl (RenL.im rfl (fly_ids _ _)) .nil))))
    exact .cons (Ren.im rfl) (.cons (Ren.own (blt_add rfl) (beq_bk nb 1) rfl) (.cons (Ren.own (blt_add rfl) (beq_bk nb 2) rfl) (.cons (Ren.own (blt_add rfl) (beq_bk nb 3) rfl) (.cons (Ren.own (blt_add rfl) (beq_bk nb 4) rfl) (.cons (Ren.im rfl) (.cons (Ren.im rfl) (.cons (Ren.im rfl) (.cons (Ren.im rfl) (.cons (Ren.im rfl) (.cons (Ren.im rfl) .nil))))))))))
  · show nodupB [bkS nb i, bkS nb (nb + 1), bkS nb (nb + 2), bkS nb (nb + 3), bkS nb (nb + 4)] = true
    rw [bk_lt hi, bk_add, bk_add, bk_add, bk_add]; rfl
  · refine ⟨⟨bkP_0 _ _ _, ?_, rfl⟩, ⟨bkP_add _ _ _ _, bools_ids _ _ _, bools_plain _ _⟩, ⟨bkP_add _ _ _ _, bools_ids _ _ _, bools_plain _ _⟩, ⟨bkP_add _ _ _ _, cnts_ids _ _ _, cnts_plain _ _⟩, ⟨bkP_add _ _ _ _, fly_ids _ _, fly_plain _⟩, trivial⟩
    simp only [D.idsL, D.ids, bkP_add, Bool.and_true, Bool.true_and]
end
end Go.Proofs.Ytpomhnmfkdgafaa
