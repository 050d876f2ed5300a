/- The reference's ring: Receive. -/
import Derived.Test.YtpomhnmfkdgafaaRcv
namespace Go.Proofs.Ytpomhnmfkdgafaa
open Go.RowKit
set_option linter.unusedVariables false
set_option maxHeartbeats 16000000
set_option linter.unusedSimpArgs false
set_option maxRecDepth 100000
section
variable {P : Program} {ops : Array Oper} {o : Oper} {x y : Operand} {T' : TypeId}
variable {sz : Nat} {t : Nat} {op : Op} {ty : TypeId} {pos : String} {af : Array Edge} {gd : Option (Nat × Bool)}
variable {nb0 i : Nat} {bs : Nat → List (Nat × D)} {mem0 : List (Nat × Option M)} {l : List Oper} {KA : Acc → Prop}
variable {fs : Fs} {al : List (Nat × Nat × Al)} {ch : List Lk} {nd : List (Nat × List Nat)}
/-- an append of a row of pairs -/
theorem vpsh {j : Nat} {d : D} {nb' : Nat} {mem' : List (Nat × Option M)} (k : Walk P ops sz bs nb0 mem0 l j ⟨(i, (t, d) :: pickT nb0 al ch) :: fs, al, ⟨i, nb', mem', (mem'.take (mem'.length - (curMem mem0 ch).length)).map (·.1)⟩ :: ch, nd⟩ KA)
    (h : ∀ extra, MS P ops ⟨some t, op, ty, pos, af, gd⟩ ⟨pickN nb0 al ch, sz, pickT nb0 al ch ++ (depX ⟨some t, op, ty, pos, af, gd⟩ (bs i) fs ++ extra), pickM nb0 mem0 al ch⟩ ⟨nb', sz, (t, d) :: (pickT nb0 al ch ++ (depX ⟨some t, op, ty, pos, af, gd⟩ (bs i) fs ++ extra)), mem'⟩ := by
      intro extra
      exact ⟨fun _ _ k => T_push rfl rfl rfl rfl rfl rfl rfl (blk_len (m := 2) (fun _ => rfl) _) (by omega) (by omega) k⟩)
    (hj : i + 1 = j := by simp only [Nat.reduceAdd]; rfl) (hm : mem'.drop (mem'.length - (curMem mem0 ch).length) = curMem mem0 ch := by rfl) : Walk P ops sz bs nb0 mem0 (⟨some t, op, ty, pos, af, gd⟩ :: l) i ⟨fs, al, ch, nd⟩ KA := W_t j h k hj hm
end
theorem recvS_arg (B c : Nat) (r : Rng) (hr : Few r) (k : Int) (hk : k < 0 ∨ (r.fly.length : Int) ≤ k) : DM Try.prog 20 (some (B, c)) 5 (ringSM r) [.pin B c 0 0, iD k] 5 (ringSM r) (iD 2) := by
  have hf := hr.2.2.2.2.2.2.1
  by_cases h0 : k < 0
  all_goals
    refine DM.of Try.func20 Try.ntmps20 Try.results20 rfl (by decide +kernel) rfl ?_
    repeat (first | refine Z1 ?_ | refine Z2 ?_ | (refine Z3 ?_; (repeat (first | (apply gS; first | refine go_pin ?_ | refine go_no ?_ | refine go_f ?_ | refine gx ?_ | refine gm ?_ | refine gp ?_) | (apply gZ; first | refine go_st11 ?_ | refine go_f ?_ | refine gx ?_ | refine gm ?_))); refine T_nil ?_) | (apply ZR; (try dsimp only [List.map_cons, List.map_nil]); refine C_dr mixed ?_; (repeat (first | (apply vS; first | refine vl 26 ?_ | refine vn ?_ | refine va ?_ | refine vp ?_ | refine vr ?_ | refine vt ?_) | (apply vZ; first | refine vs ?_ | refine vw ?_))); refine W_e ?_) | (apply ZK; first | refine Z4 ?_ | refine Z5 ?_) | refine Z6 ?_ | refine Z7 ?_ | refine ZF ?_)
    exact endS1 (Wk.ringSE rfl rfl rfl rfl rfl rfl rfl (fun σ => .cons rfl (Ren.im rfl) .nil) rfl rfl rfl rfl rfl rfl rfl rfl rfl rfl rfl rfl rfl rfl rfl) rfl (by first | exact .inl rfl | exact .inr rfl)
theorem recvS_ok (B c : Nat) (r : Rng) (hr : Few r) (k t : Nat) (hk : k < r.fly.length) (ht : t < r.n) (he : r.fly[k].2 = (t : Int)) : DM Try.prog 20 (some (B, c)) 5 (ringSM r) [.pin B c 0 0, iD k] 5 (ringSM (recvR r k t)) (iD 0) := by
  obtain ⟨h1, h2, h3, h4, h5, h6, h7, h8, h9⟩ := hr
  have hb := h4 t
  have hfl := fly_len r.fly
  have e0 : (flyD r.fly)[((k : Int)).toNat * 2 + (1 : Int).toNat * 1]? = some (iD t) := by
    have h := (fly_el hk).2 1 (by omega)
    rw [Int.toNat_natCast, show (1 : Int).toNat * 1 = 1 by rfl, h, he]; rfl
  have e1 : (r.fly.drop 0).take (((k : Int)).toNat - 0) = r.fly.take k := by simp
  have e2 : (r.fly.drop (((k : Int) + 1)).toNat).take (r.fly.length - (((k : Int) + 1)).toNat) = r.fly.drop (k + 1) := by
    rw [show ((k : Int) + 1).toNat = k + 1 by omega, List.take_of_length_le (by simp)]
  have l1 : (r.fly.take k).length = k := by simp; omega
  have l2 : (r.fly.drop (k + 1)).length = r.fly.length - (k + 1) := by simp
  have s0 := bools_set r.act true ht
  have s1 := bools_set r.blk true ht
  have s2 := cnts_set r.cnt (r.cnt t - 1) ht
  have hl0 := bools_len r.n r.act
  have hl1 := bools_len r.n r.blk
  have hl2 := cnts_len r.n r.cnt
  have g2 := cnts_get r.cnt ht
  refine DM.of Try.func20 Try.ntmps20 Try.results20 rfl (by decide +kernel) rfl ?_
  refine C_wk (S' := ⟨5, 65, [(0, .pin B c 0 0), (1, iD k)], (0, some ⟨58, 11, 1, [iD r.n, .own 1 r.n, .own 2 r.n, .own 3 r.n, .row r.fly.length (flyD r.fly), iD r.at_, iD r.sum, bD r.dark, bD r.fresh, bD r.told, iD r.passes]⟩) :: (4, none) :: ringSM r⟩) (Wk.freezeM (m := ⟨49, 2, r.fly.length, flyD r.fly⟩) (mc := ⟨58, 11, 1, [iD r.n, .own 1 r.n, .own 2 r.n, .own 3 r.n, .own 4 r.fly.length, iD r.at_, iD r.sum, bD r.dark, bD r.fresh, bD r.told, iD r.passes]⟩) 0 4 4 rfl (fly_ids _ _) rfl rfl rfl) ?_
  repeat (first | refine Z1 ?_ | refine Z2 ?_ | (refine Z3 ?_; (repeat (first | (apply gS; first | refine go_pin ?_ | refine go_no ?_ | refine go_f ?_ | refine gx ?_ | refine gm ?_ | refine gp ?_) | (apply gZ; first | refine go_st11 ?_ | refine go_f ?_ | refine gx ?_ | refine gm ?_))); refine T_nil ?_) | (apply ZR; (try dsimp only [List.map_cons, List.map_nil]); refine C_dr mixed ?_; (repeat (first | (apply vS; first | refine vpin ?_ | refine vl 26 ?_ | refine vn ?_ | refine va ?_ | refine vp ?_ | refine vr ?_ | refine vt ?_) | (apply vZ; first | refine v11 ?_ | refine vs ?_ | refine vw ?_))); refine W_e ?_) | (apply ZK; first | refine Z4 ?_ | refine Z5 ?_) | refine Z6 ?_ | refine Z7 ?_ | refine ZF ?_)
  rw [he]
  repeat (first | refine Z1 ?_ | refine Z2 ?_ | (refine Z3 ?_; (repeat (first | (apply gS; first | refine go_pin ?_ | refine go_no ?_ | refine go_f ?_ | refine gx ?_ | refine gm ?_ | refine gp ?_) | (apply gZ; first | refine go_st11 ?_ | refine go_f ?_ | refine gx ?_ | refine gm ?_))); refine T_nil ?_) | (apply ZR; (try dsimp only [List.map_cons, List.map_nil]); refine C_dr mixed ?_; (repeat (first | (apply vS; first | refine vpin ?_ | refine vpsh ?_ | refine vl 26 ?_ | refine vn ?_ | refine va ?_ | refine vp ?_ | refine vr ?_ | refine vt ?_) | (apply vZ; first | refine v11 ?_ | refine vs ?_ | refine vw ?_))); refine W_e ?_) | (apply ZK; first | refine Z4 ?_ | refine Z5 ?_) | refine Z6 ?_ | refine Z7 ?_ | refine ZF ?_)
  exact endS1 (r := recvR r k t) (Wk.ringSE rfl rfl rfl rfl rfl rfl rfl (fun σ => .cons rfl (Ren.im rfl) .nil) rfl rfl rfl rfl (by show 0 + (r.fly.take k).length + (r.fly.drop (k + 1)).length = (r.fly.eraseIdx k).length; rw [List.length_eraseIdx, if_pos hk]; omega) rfl rfl rfl rfl rfl rfl (by first | rfl | exact s0) (by first | rfl | exact s1) (by first | rfl | exact s2) (by show _ = flyD (r.fly.eraseIdx k); rw [List.eraseIdx_eq_take_drop_succ, fly_app]; rfl)) rfl (by first | exact .inl rfl | exact .inr rfl)
end Go.Proofs.Ytpomhnmfkdgafaa
