/- Begin and First. -/
import Derived.Test.YtpomhnmfkdgafaaDo
import Derived.Test.YtpomhnmfkdgafaaQs
namespace Go.Proofs.Ytpomhnmfkdgafaa
open Go.RowKit
set_option linter.unusedVariables false
set_option maxHeartbeats 16000000
set_option linter.unusedSimpArgs false
set_option maxRecDepth 100000
theorem Ren.tup {σ : Nat → Nat} {nb' : Nat} {xs xs' : List D} (k : RenL σ nb' xs' xs) : Ren σ nb' (.tup xs') (.tup xs) := fun ρ nb I w v hv => by
  generalize hx : D.tup xs = x at hv
  cases hv with
  | im h =>
    subst hx
    cases h with
    | tup hl hr =>
      refine .tup (by rw [k.1, hl]) fun j d' u h1 h2 => ?_
      have hj : j < xs.length := by rw [← k.1]; exact (List.getElem?_eq_some_iff.1 h1).1
      exact k.2 j d' _ h1 (List.getElem?_eq_getElem hj) _ nb _ _ _ (RA.im (nb := nb) (hr j _ u (List.getElem?_eq_getElem hj) h2))
  | tup hl hr =>
    cases hx
    refine .tup (by rw [k.1, hl]) fun j d' u h1 h2 => ?_
    have hj : j < xs.length := by rw [← k.1]; exact (List.getElem?_eq_some_iff.1 h1).1
    exact k.2 j d' _ h1 (List.getElem?_eq_getElem hj) _ _ _ _ _ (hr j _ u (List.getElem?_eq_getElem hj) h2)
  | _ => cases hx
section
variable {P : Program} {ops : Array Oper} {rest : List Oper} {nb sz : Nat} {tmp : List (Nat × D)} {mem : List (Nat × Option M)} {K : St → Prop} {t : Nat} {ty : TypeId} {pos : String} {af : Array Edge} {gd : Option (Nat × Bool)}
theorem beq_bk0 (nb : Nat) : Nat.beq (bkS nb nb) 0 = true := beq_bk nb 0
theorem go_newR {f : Nat} {c : Operand} {args : Array Operand} {ats : Array TypeId} {ds : List D} {a : Rng} {e : Int} (h : DM P f none 0 [] ds 3 (ringM a) (.tup [.ptr 0 0, iD e])) (k : T P ops rest ⟨nb + 3, sz, (t, .tup [.ptr nb 0, iD e]) :: tmp, ringAt nb (nb + 1) (nb + 2) a ++ [] ++ mem⟩ K)
    (hc : St.ev ⟨nb, sz, tmp, mem⟩ c = some (.fn f [] []) := by rfl) (hd : St.evs ⟨nb, sz, tmp, mem⟩ args.toList = some ds := by rfl) (hds : D.idsL (fun _ => false) ds = true := by rfl) (hg : St.guard ⟨nb, sz, tmp, mem⟩ ops ⟨some t, .call { callee := .value c, args := args, argTypes := ats }, ty, pos, af, gd⟩ = some true := by rfl) (ht : Nat.blt t sz = true := by rfl) :
    T P ops (⟨some t, .call { callee := .value c, args := args, argTypes := ats }, ty, pos, af, gd⟩ :: rest) ⟨nb, sz, tmp, mem⟩ K := by
  refine T_dm (fun y => y) h hc hd (RenL.im rfl hds) .nil rfl (fun q hq => by cases hq) (pre := ringAt nb (nb + 1) (nb + 2) a) ?_ ?_ ?_ (Ren.tup (.cons (Ren.ptr (blt_add (y := 0) rfl) (beq_bk0 nb) rfl) (.cons (Ren.im rfl) .nil))) ?_ rfl rfl hg ht k
  · unfold ringAt
    refine .cons (blt_add (y := 0) rfl) (by rw [show bkS nb nb = 0 from bk_add nb 0]; rfl) rfl ?_ (.cons (blt_add rfl) (by rw [bk_add]; rfl) rfl (RenL.im rfl (spots_ids _ _ _ _ _)) (.cons (blt_add rfl) (by rw [bk_add]; rfl) rfl (RenL.im rfl (fly_ids _ _)) .nil))
    exact .cons (Ren.own (blt_add rfl) (beq_bk nb 1) rfl) (.cons (Ren.own (blt_add rfl) (beq_bk nb 2) rfl) (.cons (Ren.im rfl) (.cons (Ren.im rfl) (.cons (Ren.im rfl) (.cons (Ren.im rfl) (.cons (Ren.im rfl) (.cons (Ren.im rfl) .nil)))))))
  · show nodupB [bkS nb (nb + 0), bkS nb (nb + 1), bkS nb (nb + 2)] = true
    rw [bk_add, bk_add, bk_add]; rfl
  · refine ⟨⟨bkP_add _ _ 0 _, ?_, rfl⟩, ⟨bkP_add _ _ _ _, spots_ids _ _ _ _ _, spots_plain _ _ _ _⟩, ⟨bkP_add _ _ _ _, fly_ids _ _, fly_plain _⟩, trivial⟩
    simp only [D.idsL, D.ids, bkP_add, Bool.and_true, Bool.true_and]
  · simp only [D.ids, D.idsL, Bool.and_true, Bool.true_and]
    exact bkP_add nb _ 0 _
theorem go_newS {f : Nat} {c : Operand} {args : Array Operand} {ats : Array TypeId} {ds : List D} {a : Rng} {e : Int} (h : DM P f none 0 [] ds 5 (ringSM a) (.tup [.ptr 0 0, iD e])) (k : T P ops rest ⟨nb + 5, sz, (t, .tup [.ptr nb 0, iD e]) :: tmp, ringSAt nb (nb + 1) (nb + 2) (nb + 3) (nb + 4) a ++ [] ++ mem⟩ K)
    (hc : St.ev ⟨nb, sz, tmp, mem⟩ c = some (.fn f [] []) := by rfl) (hd : St.evs ⟨nb, sz, tmp, mem⟩ args.toList = some ds := by rfl) (hds : D.idsL (fun _ => false) ds = true := by rfl) (hg : St.guard ⟨nb, sz, tmp, mem⟩ ops ⟨some t, .call { callee := .value c, args := args, argTypes := ats }, ty, pos, af, gd⟩ = some true := by rfl) (ht : Nat.blt t sz = true := by rfl) :
    T P ops (⟨some t, .call { callee := .value c, args := args, argTypes := ats }, ty, pos, af, gd⟩ :: rest) ⟨nb, sz, tmp, mem⟩ K := by
  refine T_dm (fun y => y) h hc hd (RenL.im rfl hds) .nil rfl (fun q hq => by cases hq) (pre := ringSAt nb (nb + 1) (nb + 2) (nb + 3) (nb + 4) a) ?_ ?_ ?_ (Ren.tup (.cons (Ren.ptr (blt_add (y := 0) rfl) (beq_bk0 nb) rfl) (.cons (Ren.im rfl) .nil))) ?_ rfl rfl hg ht k
  · unfold ringSAt
    refine .cons (blt_add (y := 0) rfl) (by rw [show bkS nb nb = 0 from bk_add nb 0]; rfl) rfl ?_ (.cons (blt_add rfl) (by rw [bk_add]; rfl) rfl (RenL.im rfl (bools_ids _ _ _)) (.cons (blt_add rfl) (by rw [bk_add]; rfl) rfl (RenL.im rfl (bools_ids _ _ _)) (.cons (blt_add rfl) (by rw [bk_add]; rfl) rfl (RenL.im rfl (cnts_ids _ _ _)) (.cons (blt_add rfl) (by rw [bk_add]; rfl) rfl (RenL.im rfl (fly_ids _ _)) .nil))))
    exact .cons (Ren.im rfl) (.cons (Ren.own (blt_add rfl) (beq_bk nb 1) rfl) (.cons (Ren.own (blt_add rfl) (beq_bk nb 2) rfl) (.cons (Ren.own (blt_add rfl) (beq_bk nb 3) rfl) (.cons (Ren.own (blt_add rfl) (beq_bk nb 4) rfl) (.cons (Ren.im rfl) (.cons (Ren.im rfl) (.cons (Ren.im rfl) (.cons (Ren.im rfl) (.cons (Ren.im rfl) (.cons (Ren.im rfl) .nil))))))))))
  · show nodupB [bkS nb (nb + 0), bkS nb (nb + 1), bkS nb (nb + 2), bkS nb (nb + 3), bkS nb (nb + 4)] = true
    rw [bk_add, bk_add, bk_add, bk_add, bk_add]; rfl
  · refine ⟨⟨bkP_add _ _ 0 _, ?_, rfl⟩, ⟨bkP_add _ _ _ _, bools_ids _ _ _, bools_plain _ _⟩, ⟨bkP_add _ _ _ _, bools_ids _ _ _, bools_plain _ _⟩, ⟨bkP_add _ _ _ _, cnts_ids _ _ _, cnts_plain _ _⟩, ⟨bkP_add _ _ _ _, fly_ids _ _, fly_plain _⟩, trivial⟩
    simp only [D.idsL, D.ids, bkP_add, Bool.and_true, Bool.true_and]
  · simp only [D.ids, D.idsL, Bool.and_true, Bool.true_and]
    exact bkP_add nb _ 0 _
/-- a call that makes nothing -/
theorem go_newN {f : Nat} {c : Operand} {args : Array Operand} {ats : Array TypeId} {ds : List D} {r : D} (h : DM P f none 0 [] ds 0 [] r) (k : T P ops rest ⟨nb + 0, sz, (t, r) :: tmp, [] ++ [] ++ mem⟩ K)
    (hc : St.ev ⟨nb, sz, tmp, mem⟩ c = some (.fn f [] []) := by rfl) (hd : St.evs ⟨nb, sz, tmp, mem⟩ args.toList = some ds := by rfl) (hds : D.idsL (fun _ => false) ds = true := by rfl) (hr : ∀ p, r.ids p = true := by intro _; rfl) (hr2 : r.plain = true := by rfl) (hg : St.guard ⟨nb, sz, tmp, mem⟩ ops ⟨some t, .call { callee := .value c, args := args, argTypes := ats }, ty, pos, af, gd⟩ = some true := by rfl) (ht : Nat.blt t sz = true := by rfl) :
    T P ops (⟨some t, .call { callee := .value c, args := args, argTypes := ats }, ty, pos, af, gd⟩ :: rest) ⟨nb, sz, tmp, mem⟩ K :=
  T_dm (fun y => y) h hc hd (RenL.im rfl hds) .nil rfl (fun q hq => by cases hq) (pre := []) .nil rfl trivial (Ren.im (hr _)) (hr _) hr2 rfl hg ht k
end
theorem begin_bad (n : Int) (h : n < 1 ∨ 8 < n) : DM Try.prog 4 none 0 [] [iD n] 0 [] (.tup [.val (.pointer none), bD true]) := by
  have H1 := new_bad n h
  have H2 := newS_bad n h
  refine DM.of Try.func4 Try.ntmps4 Try.results4 rfl (by decide +kernel) rfl ?_
  repeat (first | refine Z1 ?_ | refine Z2 ?_ | (refine Z3 ?_; (repeat (first | (apply gS; first | refine go_newN H1 ?_ | refine go_newN H2 ?_ | refine go_eqN ?_ | refine go_no ?_ | refine go_f ?_ | refine gx ?_ | refine gm ?_ | refine gp ?_))); refine T_nil ?_) | (apply ZK; first | refine Z4 ?_ | refine Z5 ?_) | refine Z6 ?_ | refine Z7 ?_ | refine ZF ?_)
  exact kEndM_g (S' := ⟨0, 34, [(2, .val (.pointer none)), (3, bD true)], []⟩) (Wk.mk (fun b => b) (.cons rfl (Ren.im rfl) (.cons rfl (Ren.im rfl) .nil)) .nil rfl) (by first | exact .inl rfl | exact .inr rfl) (.tmp rfl (.tmp rfl .nil)) rfl rfl rfl (fun q hq => by cases hq)
theorem begin_ok (n : Nat) (h0 : 0 < n) (h8 : n ≤ 8) : DM Try.prog 4 none 0 [] [iD n] 9 (pairM (ring0 n) (ring0 n)) (.tup [.ptr 0 0, bD true]) := by
  have H1 := new_ok n h0 h8
  have H2 := newS_ok n h0 h8
  refine DM.of Try.func4 Try.ntmps4 Try.results4 rfl (by decide +kernel) rfl ?_
  repeat (first | refine Z1 ?_ | refine Z2 ?_ | (refine Z3 ?_; (repeat (first | (apply gS; first | refine go_newR H1 ?_ | refine go_newS H2 ?_ | refine go_eqP ?_ | refine go_no ?_ | refine go_f ?_ | refine gx ?_ | refine gm ?_ | refine gp ?_))); refine T_nil ?_) | (apply ZK; first | refine Z4 ?_ | refine Z5 ?_) | refine Z6 ?_ | refine Z7 ?_ | refine ZF ?_)
  refine kEndM_g (S' := ⟨9, 34, [(2, .ptr 0 0), (3, bD true)], pairM (ring0 n) (ring0 n)⟩) (Wk.mk (fun b => cond (Nat.beq b 0) 8 (b - 1)) (.cons rfl (Ren.ptr rfl rfl rfl) (.cons rfl (Ren.im rfl) .nil)) ?_ rfl) (by first | exact .inl rfl | exact .inr rfl) (.tmp rfl (.tmp rfl .nil)) rfl rfl rfl (fun q hq => by cases hq)
  unfold pairM ringAt ringSAt
  simp only [List.cons_append, List.nil_append]
  refine .cons rfl rfl rfl (.cons (Ren.ptr rfl rfl rfl) (.cons (Ren.ptr rfl rfl rfl) .nil)) ?_
  refine .cons rfl rfl rfl ?_ (.cons rfl rfl rfl (RenL.im rfl (spots_ids _ _ _ _ _)) (.cons rfl rfl rfl (RenL.im rfl (fly_ids _ _)) ?_))
  · exact .cons (Ren.own rfl rfl rfl) (.cons (Ren.own rfl rfl rfl) (.cons (Ren.im rfl) (.cons (Ren.im rfl) (.cons (Ren.im rfl) (.cons (Ren.im rfl) (.cons (Ren.im rfl) (.cons (Ren.im rfl) .nil)))))))
  · refine .cons rfl rfl rfl ?_ (.cons rfl rfl rfl (RenL.im rfl (bools_ids _ _ _)) (.cons rfl rfl rfl (RenL.im rfl (bools_ids _ _ _)) (.cons rfl rfl rfl (RenL.im rfl (cnts_ids _ _ _)) (.cons rfl rfl rfl (RenL.im rfl (fly_ids _ _)) .nil))))
    exact .cons (Ren.im rfl) (.cons (Ren.own rfl rfl rfl) (.cons (Ren.own rfl rfl rfl) (.cons (Ren.own rfl rfl rfl) (.cons (Ren.own rfl rfl rfl) (.cons (Ren.im rfl) (.cons (Ren.im rfl) (.cons (Ren.im rfl) (.cons (Ren.im rfl) (.cons (Ren.im rfl) (.cons (Ren.im rfl) .nil))))))))))
end Go.Proofs.Ytpomhnmfkdgafaa
