/- The active places of the rings, and the counts. -/
import Derived.Test.YtpomhnmfkdgafaaVw
namespace Go.Proofs.Ytpomhnmfkdgafaa
open Go.RowKit
set_option linter.unusedVariables false
set_option maxHeartbeats 16000000
set_option linter.unusedSimpArgs false
set_option maxRecDepth 100000
section
variable {P : Program} {ops : Array Oper} {rest : List Oper} {x y : Operand} {T' : TypeId} {nb sz : Nat} {tmp : List (Nat × D)} {mem : List (Nat × Option M)} {K : St → Prop} {t : Nat} {ty : TypeId} {pos : String} {af : Array Edge} {gd : Option (Nat × Bool)}
/-- an element whose cells are known -/
theorem go_ixE {n size bytes k : Nat} {xs zs : List D} {e : TypeId} {ki : IntKind} [hT : TySlice P T' e size bytes] (he : ElemAt size xs k zs) (kk : T P ops rest ⟨nb, sz, (t, .obj zs) :: tmp, mem⟩ K) (hx : St.ev ⟨nb, sz, tmp, mem⟩ x = some (.row n xs) := by rfl) (hy : St.ev ⟨nb, sz, tmp, mem⟩ y = some (.val (.int ki (k : Int))) := by rfl) (hi : k < n := by omega)
    (hg : St.guard ⟨nb, sz, tmp, mem⟩ ops ⟨some t, .indexAddr T' x y, ty, pos, af, gd⟩ = some true := by rfl) (ht : Nat.blt t sz = true := by rfl) : T P ops (⟨some t, .indexAddr T' x y, ty, pos, af, gd⟩ :: rest) ⟨nb, sz, tmp, mem⟩ K :=
  T_step (P_indexRow rfl hx hy (Int.natCast_nonneg k) (by omega) (by rw [Int.toNat_natCast]; exact he)) hg ht kk
end
theorem bools_el {n p : Nat} (a : Nat → Bool) (hp : p < n) : ElemAt 1 (boolsD n a) p [bD (a p)] := ⟨rfl, fun j hj => by
  obtain rfl : j = 0 := by omega
  have h := bools_get a hp
  rw [Int.toNat_natCast] at h
  rw [Nat.add_zero, h]; rfl⟩
def actL (a : Nat → Bool) (k : Nat) : List Int := ((List.range k).filter fun j => a j).map fun j : Nat => (j : Int)
theorem actL_y {a : Nat → Bool} {k : Nat} (h : a k = true) : actL a (k + 1) = actL a k ++ [(k : Int)] := by
  unfold actL
  rw [List.range_succ, List.filter_append, List.map_append]
  simp [h]
theorem actL_n {a : Nat → Bool} {k : Nat} (h : a k = false) : actL a (k + 1) = actL a k := by
  unfold actL
  rw [List.range_succ, List.filter_append, List.map_append]
  simp [h]
theorem actL_le (a : Nat → Bool) (k : Nat) : (actL a k).length ≤ k := by
  unfold actL
  rw [List.length_map]
  exact Nat.le_trans (List.length_filter_le _ _) (by simp)
theorem activeS_d (r : Rng) (h8 : r.n ≤ 1000) : DC Try.prog 31 [ringSO r] (.row (actL r.act r.n).length ((actL r.act r.n).map iD)) := by
  have hl := bools_len r.n r.act
  refine DC.of Try.func31 Try.ntmps31 Try.results31 rfl (by decide +kernel) rfl ?_
  repeat (first | refine Z1 ?_ | refine Z2 ?_ | (refine Z3 ?_; (repeat (first | (apply gS; first | refine go_f ?_ | refine gx ?_ | refine gm ?_ | refine gp ?_))); refine T_nil ?_) | (apply ZK; first | refine Z4 ?_ | refine Z5 ?_) | refine Z6 ?_ | refine Z7 ?_ | refine Z8 ?_ | refine Z9 ?_ | refine ZA ?_ | refine ZB ?_ | refine ZC ?_ | refine ZD ?_ | refine ZE ?_ | refine ZF ?_ | refine ZG ?_ | refine ZH ?_)
  refine C_count r.n (fun _ => True) (fun k => ⟨1, 25, [(4, iD k), (3, .own 0 (actL r.act k).length), (0, ringSO r)], [(0, some ⟨3, 1, (actL r.act k).length, (actL r.act k).map iD⟩)]⟩) ?_ trivial ?_
  · refine Wk.trans (Wk.adoptT 3 3 1 rfl) ?_
    exact Wk.gx (fun b => b)
  · intro k hk _
    by_cases hlt : k < r.n
    · have g0 := bools_el r.act hlt
      have hle := actL_le r.act k
      cases ha : r.act k with
      | true =>
        rw [ha] at g0
        have e1 := actL_y ha
        have e2 : (actL r.act (k + 1)).length = (actL r.act k).length + 1 := by rw [e1]; simp
        have e3 : (actL r.act (k + 1)).map iD = (actL r.act k).map iD ++ [iD k] := by rw [e1]; simp
        repeat (first | refine Z1 ?_ | refine Z2 ?_ | (refine Z3 ?_; (repeat (first | (apply gS; first | refine go_ixE g0 ?_ | refine go_f ?_ | refine gx ?_ | refine gm ?_ | refine gp ?_))); refine T_nil ?_) | (apply ZK; first | refine Z4 ?_ | refine Z5 ?_) | refine Z6 ?_ | refine Z7 ?_ | refine Z8 ?_ | refine Z9 ?_ | refine ZA ?_ | refine ZB ?_ | refine ZC ?_ | refine ZD ?_ | refine ZE ?_ | refine ZF ?_ | refine ZG ?_ | refine ZH ?_)
        refine kLoop_n ⟨hlt, trivial, ?_⟩
        exact Wk.gx (fun b => cond (Nat.beq b 0) 1 (b))
      | false =>
        rw [ha] at g0
        have e1 := actL_n ha
        repeat (first | refine Z1 ?_ | refine Z2 ?_ | (refine Z3 ?_; (repeat (first | (apply gS; first | refine go_ixE g0 ?_ | refine go_f ?_ | refine gx ?_ | refine gm ?_ | refine gp ?_))); refine T_nil ?_) | (apply ZK; first | refine Z4 ?_ | refine Z5 ?_) | refine Z6 ?_ | refine Z7 ?_ | refine Z8 ?_ | refine Z9 ?_ | refine ZA ?_ | refine ZB ?_ | refine ZC ?_ | refine ZD ?_ | refine ZE ?_ | refine ZF ?_ | refine ZG ?_ | refine ZH ?_)
        refine kLoop_n ⟨hlt, trivial, ?_⟩
        rw [e1]
        exact Wk.gx (fun b => b)
    · obtain rfl : k = r.n := by omega
      repeat (first | refine Z1 ?_ | refine Z2 ?_ | (refine Z3 ?_; (repeat (first | (apply gS; first | refine go_f ?_ | refine gx ?_ | refine gm ?_ | refine gp ?_))); refine T_nil ?_) | (apply ZK; first | refine Z4 ?_ | refine Z5 ?_) | refine Z6 ?_ | refine Z7 ?_ | refine Z8 ?_ | refine Z9 ?_ | refine ZA ?_ | refine ZB ?_ | refine ZC ?_ | refine ZD ?_ | refine ZE ?_ | refine ZF ?_ | refine ZG ?_ | refine ZH ?_)
      repeat (first | refine kEnd_m ?_ | refine kEnd_f ?_)
      refine kEnd_g ?_ (by first | exact .inl rfl | exact .inr rfl)
      exact Sub.eq rfl rfl
theorem spots_el {n p : Nat} (a b : Nat → Bool) (c : Nat → Int) (hp : p < n) : ElemAt 3 (spotsD n a b c) p [bD (a p), bD (b p), iD (c p)] := ⟨rfl, fun j hj => by
  have h := spots_get a b c hp hj
  rw [Int.toNat_natCast] at h
  rw [h]; rfl⟩
theorem active_d (r : Rng) (h : 0 < r.n) (h8 : r.n ≤ 1000) : DC Try.prog 8 [ringO r] (.row (actL r.act r.n).length ((actL r.act r.n).map iD)) := by
  have N := none_d r h
  have hl := spots_len r.n r.act r.blk r.cnt
  refine DC.of Try.func8 Try.ntmps8 Try.results8 rfl (by decide +kernel) rfl ?_
  repeat (first | refine Z1 ?_ | refine Z2 ?_ | (refine Z3 ?_; (repeat (first | (apply gS; first | refine go_f ?_ | refine gx ?_ | refine gm ?_ | refine gp ?_ | refine go_c rfl rfl (N) ?_ | refine go_cF rfl rfl (N) ?_ | refine go_cA rfl rfl (N) ?_) | (apply gZ; first | refine go_f ?_ | refine gx ?_ | refine gm ?_))); refine T_nil ?_) | (apply ZK; first | refine Z4 ?_ | refine Z5 ?_) | refine Z6 ?_ | refine Z7 ?_ | refine Z8 ?_ | refine Z9 ?_ | refine ZA ?_ | refine ZB ?_ | refine ZC ?_ | refine ZD ?_ | refine ZE ?_ | refine ZF ?_ | refine ZG ?_ | refine ZH ?_)
  refine C_count r.n (fun _ => True) (fun k => ⟨1, 26, [(13, iD k), (12, iD r.n), (11, .row r.n (spotsD r.n r.act r.blk r.cnt)), (3, .own 0 (actL r.act k).length)], [(0, some ⟨3, 1, (actL r.act k).length, (actL r.act k).map iD⟩)]⟩) ?_ trivial ?_
  · refine Wk.trans (Wk.adoptT 3 3 1 rfl) ?_
    exact Wk.gx (fun b => b)
  · intro k hk _
    clear N
    by_cases hlt : k < r.n
    · have g0 := spots_el r.act r.blk r.cnt hlt
      have hle := actL_le r.act k
      cases ha : r.act k with
      | true =>
        rw [ha] at g0
        have e1 := actL_y ha
        have e2 : (actL r.act (k + 1)).length = (actL r.act k).length + 1 := by rw [e1]; simp
        have e3 : (actL r.act (k + 1)).map iD = (actL r.act k).map iD ++ [iD k] := by rw [e1]; simp
        repeat (first | refine Z1 ?_ | refine Z2 ?_ | (refine Z3 ?_; (repeat (first | (apply gS; first | refine go_ixE g0 ?_ | refine go_f ?_ | refine gx ?_ | refine gm ?_ | refine gp ?_) | (apply gZ; first | refine go_f ?_ | refine gx ?_ | refine gm ?_))); refine T_nil ?_) | (apply ZK; first | refine Z4 ?_ | refine Z5 ?_) | refine Z6 ?_ | refine Z7 ?_ | refine Z8 ?_ | refine Z9 ?_ | refine ZA ?_ | refine ZB ?_ | refine ZC ?_ | refine ZD ?_ | refine ZE ?_ | refine ZF ?_ | refine ZG ?_ | refine ZH ?_)
        refine kLoop_n ⟨hlt, trivial, ?_⟩
        exact Wk.gx (fun b => cond (Nat.beq b 0) 2 (b))
      | false =>
        rw [ha] at g0
        have e1 := actL_n ha
        repeat (first | refine Z1 ?_ | refine Z2 ?_ | (refine Z3 ?_; (repeat (first | (apply gS; first | refine go_ixE g0 ?_ | refine go_f ?_ | refine gx ?_ | refine gm ?_ | refine gp ?_) | (apply gZ; first | refine go_f ?_ | refine gx ?_ | refine gm ?_))); refine T_nil ?_) | (apply ZK; first | refine Z4 ?_ | refine Z5 ?_) | refine Z6 ?_ | refine Z7 ?_ | refine Z8 ?_ | refine Z9 ?_ | refine ZA ?_ | refine ZB ?_ | refine ZC ?_ | refine ZD ?_ | refine ZE ?_ | refine ZF ?_ | refine ZG ?_ | refine ZH ?_)
        refine kLoop_n ⟨hlt, trivial, ?_⟩
        rw [e1]
        exact Wk.gx (fun b => b)
    · obtain rfl : k = r.n := by omega
      repeat (first | refine Z1 ?_ | refine Z2 ?_ | (refine Z3 ?_; (repeat (first | (apply gS; first | refine go_f ?_ | refine gx ?_ | refine gm ?_ | refine gp ?_) | (apply gZ; first | refine go_f ?_ | refine gx ?_ | refine gm ?_))); refine T_nil ?_) | (apply ZK; first | refine Z4 ?_ | refine Z5 ?_) | refine Z6 ?_ | refine Z7 ?_ | refine Z8 ?_ | refine Z9 ?_ | refine ZA ?_ | refine ZB ?_ | refine ZC ?_ | refine ZD ?_ | refine ZE ?_ | refine ZF ?_ | refine ZG ?_ | refine ZH ?_)
      repeat (first | refine kEnd_m ?_ | refine kEnd_f ?_)
      refine kEnd_g ?_ (by first | exact .inl rfl | exact .inr rfl)
      exact Sub.eq rfl rfl
theorem cnts_take {n k : Nat} (c : Nat → Int) (h : k < n) : (cntsD (k + 1) c) = cntsD k c ++ [iD (c k)] := by
  unfold cntsD onesD
  rw [List.range_succ, List.flatMap_append]; rfl
theorem counts_d (r : Rng) (h : 0 < r.n) (h8 : r.n ≤ 1000) : DC Try.prog 32 [ringO r] (.row r.n (cntsD r.n r.cnt)) := by
  have N := none_d r h
  have hl := spots_len r.n r.act r.blk r.cnt
  refine DC.of Try.func32 Try.ntmps32 Try.results32 rfl (by decide +kernel) rfl ?_
  repeat (first | refine Z1 ?_ | refine Z2 ?_ | (refine Z3 ?_; (repeat (first | (apply gS; first | refine go_f ?_ | refine gx ?_ | refine gm ?_ | refine gp ?_ | refine go_c rfl rfl (N) ?_ | refine go_cF rfl rfl (N) ?_ | refine go_cA rfl rfl (N) ?_) | (apply gZ; first | refine go_f ?_ | refine gx ?_ | refine gm ?_))); refine T_nil ?_) | (apply ZK; first | refine Z4 ?_ | refine Z5 ?_) | refine Z6 ?_ | refine Z7 ?_ | refine Z8 ?_ | refine Z9 ?_ | refine ZA ?_ | refine ZB ?_ | refine ZC ?_ | refine ZD ?_ | refine ZE ?_ | refine ZF ?_ | refine ZG ?_ | refine ZH ?_)
  refine C_count r.n (fun _ => True) (fun k => ⟨1, 24, [(13, iD k), (12, iD r.n), (11, .row r.n (spotsD r.n r.act r.blk r.cnt)), (3, .own 0 k)], [(0, some ⟨3, 1, k, cntsD k r.cnt⟩)]⟩) ?_ trivial ?_
  · refine Wk.trans (Wk.adoptT 3 3 1 rfl) ?_
    exact Wk.gx (fun b => b)
  · intro k hk _
    clear N
    by_cases hlt : k < r.n
    · have g0 := spots_el r.act r.blk r.cnt hlt
      have e3 := cnts_take r.cnt hlt
      repeat (first | refine Z1 ?_ | refine Z2 ?_ | (refine Z3 ?_; (repeat (first | (apply gS; first | refine go_ixE g0 ?_ | refine go_f ?_ | refine gx ?_ | refine gm ?_ | refine gp ?_) | (apply gZ; first | refine go_f ?_ | refine gx ?_ | refine gm ?_))); refine T_nil ?_) | (apply ZK; first | refine Z4 ?_ | refine Z5 ?_) | refine Z6 ?_ | refine Z7 ?_ | refine Z8 ?_ | refine Z9 ?_ | refine ZA ?_ | refine ZB ?_ | refine ZC ?_ | refine ZD ?_ | refine ZE ?_ | refine ZF ?_ | refine ZG ?_ | refine ZH ?_)
      refine kLoop_n ⟨hlt, trivial, ?_⟩
      exact Wk.gx (fun b => cond (Nat.beq b 0) 2 (b))
    · obtain rfl : k = r.n := by omega
      repeat (first | refine Z1 ?_ | refine Z2 ?_ | (refine Z3 ?_; (repeat (first | (apply gS; first | refine go_f ?_ | refine gx ?_ | refine gm ?_ | refine gp ?_) | (apply gZ; first | refine go_f ?_ | refine gx ?_ | refine gm ?_))); refine T_nil ?_) | (apply ZK; first | refine Z4 ?_ | refine Z5 ?_) | refine Z6 ?_ | refine Z7 ?_ | refine Z8 ?_ | refine Z9 ?_ | refine ZA ?_ | refine ZB ?_ | refine ZC ?_ | refine ZD ?_ | refine ZE ?_ | refine ZF ?_ | refine ZG ?_ | refine ZH ?_)
      repeat (first | refine kEnd_m ?_ | refine kEnd_f ?_)
      refine kEnd_g ?_ (by first | exact .inl rfl | exact .inr rfl)
      exact Sub.eq rfl rfl
end Go.Proofs.Ytpomhnmfkdgafaa
