/- The reference's New. -/
import Derived.Test.YtpomhnmfkdgafaaRgN
namespace Go.Proofs.Ytpomhnmfkdgafaa
open Go.RowKit
set_option linter.unusedVariables false
set_option maxHeartbeats 16000000
set_option linter.unusedSimpArgs false
set_option maxRecDepth 100000
section
variable {P : Program} {ops : Array Oper} {o : Oper} {x y : Operand} {T' : TypeId}
variable {sz : Nat} {t : Nat} {op : Op} {ty : TypeId} {pos : String} {af : Array Edge} {gd : Option (Nat × Bool)}
variable {nb0 i : Nat} {bs : Nat → List (Nat × D)} {mem0 : List (Nat × Option M)} {l : List Oper} {KA : Acc → Prop}
variable {fs : Fs} {al : List (Nat × Nat × Al)} {ch : List Lk} {nd : List (Nat × List Nat)}
theorem vbld11 {j : Nat} {zs : List Value} {zd : List D} {place : Nat → Option (Nat × Nat)} {parts : Array (Nat × Operand)} {ds : List (Nat × D)} {e1 e2 e3 e4 e5 e6 e7 e8 e9 e10 e11 : D} [hz : TyBuild P T' zs zd place] (k : Walk P ops sz bs nb0 mem0 l j ⟨(i, [(t, .agg [e1, e2, e3, e4, e5, e6, e7, e8, e9, e10, e11])]) :: fs, al, ch, (i, []) :: nd⟩ KA)
    (hp : ∀ nb, St.evParts ⟨nb, sz, depX ⟨some t, .build T' parts, ty, pos, af, gd⟩ (bs i) fs, memR [] (curMem mem0 ch)⟩ parts.toList = some ds := by intro nb; rfl) (hf : fillD place ds zd = some [e1, e2, e3, e4, e5, e6, e7, e8, e9, e10, e11] := by rfl) (hj : i + 1 = j := by simp only [Nat.reduceAdd]; rfl)
    (hg : ∀ nb, St.guard ⟨nb, sz, depX ⟨some t, .build T' parts, ty, pos, af, gd⟩ (bs i) fs, []⟩ ops ⟨some t, .build T' parts, ty, pos, af, gd⟩ = some true := by intro nb; rfl) (ht : Nat.blt t sz = true := by rfl) : Walk P ops sz bs nb0 mem0 (⟨some t, .build T' parts, ty, pos, af, gd⟩ :: l) i ⟨fs, al, ch, nd⟩ KA := by subst hj; exact W_step [] (fun nb => P_build rfl (hp nb) hf) hg ht k
end
theorem rep_bools (n : Nat) : List.replicate n (D.val (.bool false)) = boolsD n fun _ => false := by
  unfold boolsD onesD
  apply List.ext_getElem?
  intro q
  by_cases hq : q < n
  · have h := ones_get (n := n) (p := q) (fun _ => bD false) hq
    rw [Int.toNat_natCast, Nat.mul_one] at h
    unfold onesD at h
    rw [h, List.getElem?_replicate, if_pos hq]
  · rw [List.getElem?_eq_none (by simp; omega), List.getElem?_eq_none (by rw [blk_len (f := fun _ : Nat => [bD false]) (m := 1) (fun _ => rfl)]; simp; omega)]
theorem rep_cnts (n : Nat) : List.replicate n (D.val (.int .i64 0)) = cntsD n fun _ => 0 := by
  unfold cntsD onesD
  apply List.ext_getElem?
  intro q
  by_cases hq : q < n
  · have h := ones_get (n := n) (p := q) (fun _ => iD 0) hq
    rw [Int.toNat_natCast, Nat.mul_one] at h
    unfold onesD at h
    rw [h, List.getElem?_replicate, if_pos hq]
  · rw [List.getElem?_eq_none (by simp; omega), List.getElem?_eq_none (by rw [blk_len (f := fun _ : Nat => [iD 0]) (m := 1) (fun _ => rfl)]; simp; omega)]
theorem newS_bad (n : Int) (h : n < 1 ∨ 8 < n) : DM Try.prog 15 none 0 [] [iD n] 0 [] (.tup [.val (.pointer none), iD 2]) := by
  by_cases h1 : n < 1
  all_goals
    refine DM.of Try.func15 Try.ntmps15 Try.results15 rfl (by decide +kernel) rfl ?_
    repeat (first | refine Z1 ?_ | refine Z2 ?_ | (refine Z3 ?_; (repeat (first | (apply gS; first | refine go_no ?_ | refine go_f ?_ | refine gx ?_ | refine gm ?_ | refine gp ?_) | (apply gZ; first | refine go_f ?_ | refine gx ?_ | refine gm ?_))); refine T_nil ?_) | (apply ZR; (try dsimp only [List.map_cons, List.map_nil]); refine C_dr mixed ?_; (repeat (first | (apply vS; first | refine vn ?_ | refine va ?_ | refine vp ?_ | refine vr ?_ | refine vt ?_) | (apply vZ; first | refine vs ?_ | refine vw ?_))); refine W_e ?_) | (apply ZK; first | refine Z4 ?_ | refine Z5 ?_) | refine Z6 ?_ | refine Z7 ?_ | refine ZF ?_)
    exact kEndM_g (S' := ⟨0, 26, [(2, .val (.pointer none)), (3, iD 2)], []⟩) (Wk.mk (fun b => b) (.cons rfl (Ren.im rfl) (.cons rfl (Ren.im rfl) .nil)) .nil rfl) (by first | exact .inl rfl | exact .inr rfl) (.tmp rfl (.tmp rfl .nil)) rfl rfl rfl (fun q hq => by cases hq)
end Go.Proofs.Ytpomhnmfkdgafaa
