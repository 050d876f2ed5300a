/- Lists of pairs that are the same. -/
import Derived.Test.YtpomhnmfkdgafaaClone
import Derived.Test.YtpomhnmfkdgafaaS4
namespace Go.Proofs.Ytpomhnmfkdgafaa
open Go.RowKit
set_option linter.unusedVariables false
set_option maxHeartbeats 16000000
set_option linter.unusedSimpArgs false
set_option maxRecDepth 100000
instance : TyEqI Try.prog 49 2 := TyEqI.arr2 (by kernel_rfl) Try.underlying49 Try.underlying3 (by kernel_rfl) (by kernel_rfl)
section
variable {P : Program} {ops : Array Oper} {x y : Operand} {T' : TypeId}
variable {sz : Nat} {t : Nat} {ty : TypeId} {pos : String} {af : Array Edge} {gd : Option (Nat × Bool)}
variable {nb0 i : Nat} {bs : Nat → List (Nat × D)} {mem0 : List (Nat × Option M)} {l : List Oper} {KA : Acc → Prop}
variable {fs : Fs} {al : List (Nat × Nat × Al)} {ch : List Lk} {nd : List (Nat × List Nat)}
theorem vixE {j n size bytes k : Nat} {xs zs : List D} {e : TypeId} {ki : IntKind} [hT : TySlice P T' e size bytes] (he : ElemAt size xs k zs) (kk : Walk P ops sz bs nb0 mem0 l j ⟨(i, [(t, .obj zs)]) :: fs, al, ch, (i, []) :: nd⟩ KA)
    (hx : ∀ nb, St.ev ⟨nb, sz, depX ⟨some t, .indexAddr T' x y, ty, pos, af, gd⟩ (bs i) fs, memR [] (curMem mem0 ch)⟩ x = some (.row n xs) := by intro nb; rfl) (hy : ∀ nb, St.ev ⟨nb, sz, depX ⟨some t, .indexAddr T' x y, ty, pos, af, gd⟩ (bs i) fs, memR [] (curMem mem0 ch)⟩ y = some (.val (.int ki (k : Int))) := by intro nb; rfl) (hi : k < n := by omega) (hj : i + 1 = j := by simp only [Nat.reduceAdd]; rfl)
    (hg : ∀ nb, St.guard ⟨nb, sz, depX ⟨some t, .indexAddr T' x y, ty, pos, af, gd⟩ (bs i) fs, []⟩ ops ⟨some t, .indexAddr T' x y, ty, pos, af, gd⟩ = some true := by intro nb; rfl) (ht : Nat.blt t sz = true := by rfl) : Walk P ops sz bs nb0 mem0 (⟨some t, .indexAddr T' x y, ty, pos, af, gd⟩ :: l) i ⟨fs, al, ch, nd⟩ KA := by
  subst hj
  exact W_step [] (fun nb => P_indexRow rfl (hx nb) (hy nb) (Int.natCast_nonneg k) (by omega) (by rw [Int.toNat_natCast]; exact he)) hg ht kk
end
theorem fly_el {l : List (Int × Int)} {k : Nat} (h : k < l.length) : ElemAt 2 (flyD l) k [iD l[k].1, iD l[k].2] := ⟨rfl, fun j hj => by
  unfold flyD
  rw [blk_get (f := fun x : Int × Int => [iD x.1, iD x.2]) (m := 2) (fun _ => rfl) l k j hj, List.getElem?_eq_getElem h]; rfl⟩
theorem samePairs_d (l : List (Int × Int)) (hl : l.length ≤ 1000000) : DC Try.prog 34 [.row l.length (flyD l), .row l.length (flyD l)] (bD true) := by
  have hf := fly_len l
  refine DC.of Try.func34 Try.ntmps34 Try.results34 rfl (by decide +kernel) rfl ?_
  repeat (first | refine Z1 ?_ | refine Z2 ?_ | (refine Z3 ?_; (repeat (first | (apply gS; first | refine go_f ?_ | refine gx ?_ | refine gm ?_ | refine gp ?_))); refine T_nil ?_) | (apply ZR; (try dsimp only [List.map_cons, List.map_nil]); refine C_dr mixed ?_; (repeat (first | (apply vS; first | refine va ?_ | refine vp ?_ | refine vr ?_ | refine vt ?_))); refine W_e ?_) | (apply ZK; first | refine Z4 ?_ | refine Z5 ?_) | refine Z6 ?_ | refine Z7 ?_ | refine Z8 ?_ | refine Z9 ?_ | refine ZA ?_ | refine ZB ?_ | refine ZC ?_ | refine ZD ?_ | refine ZE ?_ | refine ZF ?_ | refine ZG ?_ | refine ZH ?_)
  refine C_count l.length (fun _ => True) (fun k => ⟨0, 26, [(5, iD k), (0, .row l.length (flyD l)), (1, .row l.length (flyD l))], []⟩) ?_ trivial ?_
  · exact Wk.gx (fun b => b)
  · intro k hk _
    by_cases hlt : k < l.length
    · have g0 := fly_el hlt
      repeat (first | refine Z1 ?_ | refine Z2 ?_ | (refine Z3 ?_; (repeat (first | (apply gS; first | refine go_f ?_ | refine gx ?_ | refine gm ?_ | refine gp ?_))); refine T_nil ?_) | (apply ZR; (try dsimp only [List.map_cons, List.map_nil]); refine C_dr mixed ?_; (repeat (first | (apply vS; first | refine vixE g0 ?_ | refine va ?_ | refine vp ?_ | refine vr ?_ | refine vt ?_))); refine W_e ?_) | (apply ZK; first | refine Z4 ?_ | refine Z5 ?_) | refine Z6 ?_ | refine Z7 ?_ | refine Z8 ?_ | refine Z9 ?_ | refine ZA ?_ | refine ZB ?_ | refine ZC ?_ | refine ZD ?_ | refine ZE ?_ | refine ZF ?_ | refine ZG ?_ | refine ZH ?_)
      refine kLoop_n ⟨hlt, trivial, ?_⟩
      exact Wk.gx (fun b => b)
    · obtain rfl : k = l.length := by omega
      repeat (first | refine Z1 ?_ | refine Z2 ?_ | (refine Z3 ?_; (repeat (first | (apply gS; first | refine go_f ?_ | refine gx ?_ | refine gm ?_ | refine gp ?_))); refine T_nil ?_) | (apply ZR; (try dsimp only [List.map_cons, List.map_nil]); refine C_dr mixed ?_; (repeat (first | (apply vS; first | refine va ?_ | refine vp ?_ | refine vr ?_ | refine vt ?_))); refine W_e ?_) | (apply ZK; first | refine Z4 ?_ | refine Z5 ?_) | refine Z6 ?_ | refine Z7 ?_ | refine Z8 ?_ | refine Z9 ?_ | refine ZA ?_ | refine ZB ?_ | refine ZC ?_ | refine ZD ?_ | refine ZE ?_ | refine ZF ?_ | refine ZG ?_ | refine ZH ?_)
      repeat (first | refine kEnd_m ?_ | refine kEnd_f ?_)
      refine kEnd_g ?_ (by first | exact .inl rfl | exact .inr rfl)
      exact Sub.eq rfl rfl
end Go.Proofs.Ytpomhnmfkdgafaa
