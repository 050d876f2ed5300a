/- The program's ring: Pass. -/
import Derived.Test.YtpomhnmfkdgafaaRg2
namespace Go.Proofs.Ytpomhnmfkdgafaa
open Go.RowKit
set_option linter.unusedVariables false
set_option maxHeartbeats 16000000
set_option linter.unusedSimpArgs false
set_option maxRecDepth 100000
theorem iD_eq {a b : Int} (h : a = b) : iD a = iD b := by rw [h]
theorem bD_eq {a b : Bool} (h : a = b) : bD a = bD b := by rw [h]
theorem C_mem {P : Program} {c : Code} {nb sz : Nat} {tmp : List (Nat × D)} {mem mem' : List (Nat × Option M)} {K : Exit → St → Prop} (h : mem = mem') (k : C P c ⟨nb, sz, tmp, mem'⟩ K) : C P c ⟨nb, sz, tmp, mem⟩ K := h ▸ k
theorem pass_told (B c : Nat) (r : Rng) (hr : Few r) (ht : r.told = true) : DM Try.prog 11 (some (B, c)) 3 (ringM r) [.pin B c 0 0] 3 (ringM r) (.tup [bD true, iD 0]) := by
  have N := none_d r hr.1
  obtain ⟨h1, h2, h3, h4, h5, h6, h7, h8, h9⟩ := hr
  unfold ringO at N
  rw [ht] at N
  refine DM.of Try.func11 Try.ntmps11 Try.results11 rfl (by decide +kernel) rfl ?_
  refine C_mem (mem' := [(0, some ⟨52, 8, 1, [.own 1 r.n, .own 2 r.fly.length, iD r.at_, iD r.sum, bD r.dark, bD r.fresh, bD true, iD r.passes]⟩), (1, some ⟨54, 3, r.n, spotsD r.n r.act r.blk r.cnt⟩), (2, some ⟨49, 2, r.fly.length, flyD r.fly⟩)]) (by unfold ringM; rw [ht]) ?_
  repeat (first | refine Z1 ?_ | refine Z2 ?_ | (refine Z3 ?_; (repeat (first | (apply gS; first | refine go_pin ?_ | refine go_v N ?_ | refine go_no ?_ | refine go_f ?_ | refine gx ?_ | refine gm ?_ | refine gp ?_) | (apply gZ; first | refine go_st8 ?_ | refine go_f ?_ | refine gx ?_ | refine gm ?_))); refine T_nil ?_) | (apply ZR; (try dsimp only [List.map_cons, List.map_nil]); refine C_dr mixed ?_; (repeat (first | (apply vS; first | refine vpin ?_ | refine vn ?_ | refine va ?_ | refine vp ?_ | refine vr ?_ | refine vt ?_) | (apply vZ; first | refine v8 ?_ | refine vs ?_ | refine vw ?_))); refine W_e ?_) | (apply ZK; first | refine Z4 ?_ | refine Z5 ?_) | refine Z6 ?_ | refine Z7 ?_ | refine Z8 ?_ | refine Z9 ?_ | refine ZA ?_ | refine ZB ?_ | refine ZC ?_ | refine ZF ?_)
  exact end2 (Wk.ringE rfl rfl rfl rfl rfl (fun σ => .cons rfl (Ren.im rfl) (.cons rfl (Ren.im rfl) .nil)) rfl rfl rfl rfl rfl rfl (bD_eq ht.symm) rfl rfl rfl) rfl rfl rfl (by first | exact .inl rfl | exact .inr rfl)
theorem pass_wait (B c : Nat) (r : Rng) (hr : Few r) (ht : r.told = false) (ha : r.act r.at_ = true) : DM Try.prog 11 (some (B, c)) 3 (ringM r) [.pin B c 0 0] 3 (ringM r) (.tup [bD false, iD 171]) := by
  have N := none_d r hr.1
  obtain ⟨h1, h2, h3, h4, h5, h6, h7, h8, h9⟩ := hr
  have g0 := spots_get r.act r.blk r.cnt h3 (r := 0) (by omega)
  have g1 := spots_get r.act r.blk r.cnt h3 (r := 1) (by omega)
  have g2 := spots_get r.act r.blk r.cnt h3 (r := 2) (by omega)
  have s1 := spots_blk r.act r.blk r.cnt false h3
  have hl := spots_len r.n r.act r.blk r.cnt
  have hb := h4 r.at_
  rw [show (spotD r.act r.blk r.cnt r.at_)[0]? = some (bD (r.act r.at_)) from rfl, ha] at g0
  rw [show (spotD r.act r.blk r.cnt r.at_)[1]? = some (bD (r.blk r.at_)) from rfl] at g1
  rw [show (spotD r.act r.blk r.cnt r.at_)[2]? = some (iD (r.cnt r.at_)) from rfl] at g2
  unfold ringO at N
  rw [ht] at N
  refine DM.of Try.func11 Try.ntmps11 Try.results11 rfl (by decide +kernel) rfl ?_
  refine C_mem (mem' := [(0, some ⟨52, 8, 1, [.own 1 r.n, .own 2 r.fly.length, iD r.at_, iD r.sum, bD r.dark, bD r.fresh, bD false, iD r.passes]⟩), (1, some ⟨54, 3, r.n, spotsD r.n r.act r.blk r.cnt⟩), (2, some ⟨49, 2, r.fly.length, flyD r.fly⟩)]) (by unfold ringM; rw [ht]) ?_
  repeat (first | refine Z1 ?_ | refine Z2 ?_ | (refine Z3 ?_; (repeat (first | (apply gS; first | refine go_pin ?_ | refine go_v N ?_ | refine go_no ?_ | refine go_f ?_ | refine gx ?_ | refine gm ?_ | refine gp ?_) | (apply gZ; first | refine go_st8 ?_ | refine go_f ?_ | refine gx ?_ | refine gm ?_))); refine T_nil ?_) | (apply ZR; (try dsimp only [List.map_cons, List.map_nil]); refine C_dr mixed ?_; (repeat (first | (apply vS; first | refine vpin ?_ | refine vn ?_ | refine va ?_ | refine vp ?_ | refine vr ?_ | refine vt ?_) | (apply vZ; first | refine v8 ?_ | refine vs ?_ | refine vw ?_))); refine W_e ?_) | (apply ZK; first | refine Z4 ?_ | refine Z5 ?_) | refine Z6 ?_ | refine Z7 ?_ | refine Z8 ?_ | refine Z9 ?_ | refine ZA ?_ | refine ZB ?_ | refine ZC ?_ | refine ZF ?_)
  exact end2 (Wk.ringE rfl rfl rfl rfl rfl (fun σ => .cons rfl (Ren.im rfl) (.cons rfl (Ren.im rfl) .nil)) rfl rfl rfl rfl rfl rfl (bD_eq ht.symm) rfl rfl rfl) rfl rfl rfl (by first | exact .inl rfl | exact .inr rfl)
theorem pass_on (B c : Nat) (r : Rng) (hr : Few r) (k : Nat) (hk : r.at_ = k + 1) (ht : r.told = false) (ha : r.act r.at_ = false) : DM Try.prog 11 (some (B, c)) 3 (ringM r) [.pin B c 0 0] 3 (ringM { r with at_ := k, sum := r.sum + r.cnt r.at_, dark := r.dark || r.blk r.at_, blk := upF r.blk r.at_ false, passes := r.passes + 1 }) (.tup [bD false, iD 0]) := by
  have N := none_d r hr.1
  obtain ⟨h1, h2, h3, h4, h5, h6, h7, h8, h9⟩ := hr
  have g0 := spots_get r.act r.blk r.cnt h3 (r := 0) (by omega)
  have g1 := spots_get r.act r.blk r.cnt h3 (r := 1) (by omega)
  have g2 := spots_get r.act r.blk r.cnt h3 (r := 2) (by omega)
  have s1 := spots_blk r.act r.blk r.cnt false h3
  have hl := spots_len r.n r.act r.blk r.cnt
  have hb := h4 r.at_
  rw [show (spotD r.act r.blk r.cnt r.at_)[0]? = some (bD (r.act r.at_)) from rfl, ha] at g0
  rw [show (spotD r.act r.blk r.cnt r.at_)[1]? = some (bD (r.blk r.at_)) from rfl] at g1
  rw [show (spotD r.act r.blk r.cnt r.at_)[2]? = some (iD (r.cnt r.at_)) from rfl] at g2
  cases hd : r.dark with
  | true =>
    unfold ringO at N
    rw [ht, hd] at N
    refine DM.of Try.func11 Try.ntmps11 Try.results11 rfl (by decide +kernel) rfl ?_
    refine C_mem (mem' := [(0, some ⟨52, 8, 1, [.own 1 r.n, .own 2 r.fly.length, iD r.at_, iD r.sum, bD true, bD r.fresh, bD false, iD r.passes]⟩), (1, some ⟨54, 3, r.n, spotsD r.n r.act r.blk r.cnt⟩), (2, some ⟨49, 2, r.fly.length, flyD r.fly⟩)]) (by unfold ringM; rw [ht, hd]) ?_
    repeat (first | refine Z1 ?_ | refine Z2 ?_ | (refine Z3 ?_; (repeat (first | (apply gS; first | refine go_pin ?_ | refine go_v N ?_ | refine go_no ?_ | refine go_f ?_ | refine gx ?_ | refine gm ?_ | refine gp ?_) | (apply gZ; first | refine go_st8 ?_ | refine go_f ?_ | refine gx ?_ | refine gm ?_))); refine T_nil ?_) | (apply ZR; (try dsimp only [List.map_cons, List.map_nil]); refine C_dr mixed ?_; (repeat (first | (apply vS; first | refine vpin ?_ | refine vn ?_ | refine va ?_ | refine vp ?_ | refine vr ?_ | refine vt ?_) | (apply vZ; first | refine v8 ?_ | refine vs ?_ | refine vw ?_))); refine W_e ?_) | (apply ZK; first | refine Z4 ?_ | refine Z5 ?_) | refine Z6 ?_ | refine Z7 ?_ | refine Z8 ?_ | refine Z9 ?_ | refine ZA ?_ | refine ZB ?_ | refine ZC ?_ | refine ZF ?_)
    exact end2 (Wk.ringE rfl rfl rfl rfl rfl (fun σ => .cons rfl (Ren.im rfl) (.cons rfl (Ren.im rfl) .nil)) rfl rfl (iD_eq (by dsimp only; omega)) rfl rfl rfl (bD_eq ht.symm) (iD_eq (by dsimp only; omega)) rfl rfl) rfl rfl rfl (by first | exact .inl rfl | exact .inr rfl)
  | false =>
    unfold ringO at N
    rw [ht, hd] at N
    refine DM.of Try.func11 Try.ntmps11 Try.results11 rfl (by decide +kernel) rfl ?_
    refine C_mem (mem' := [(0, some ⟨52, 8, 1, [.own 1 r.n, .own 2 r.fly.length, iD r.at_, iD r.sum, bD false, bD r.fresh, bD false, iD r.passes]⟩), (1, some ⟨54, 3, r.n, spotsD r.n r.act r.blk r.cnt⟩), (2, some ⟨49, 2, r.fly.length, flyD r.fly⟩)]) (by unfold ringM; rw [ht, hd]) ?_
    repeat (first | refine Z1 ?_ | refine Z2 ?_ | (refine Z3 ?_; (repeat (first | (apply gS; first | refine go_pin ?_ | refine go_v N ?_ | refine go_no ?_ | refine go_f ?_ | refine gx ?_ | refine gm ?_ | refine gp ?_) | (apply gZ; first | refine go_st8 ?_ | refine go_f ?_ | refine gx ?_ | refine gm ?_))); refine T_nil ?_) | (apply ZR; (try dsimp only [List.map_cons, List.map_nil]); refine C_dr mixed ?_; (repeat (first | (apply vS; first | refine vpin ?_ | refine vn ?_ | refine va ?_ | refine vp ?_ | refine vr ?_ | refine vt ?_) | (apply vZ; first | refine v8 ?_ | refine vs ?_ | refine vw ?_))); refine W_e ?_) | (apply ZK; first | refine Z4 ?_ | refine Z5 ?_) | refine Z6 ?_ | refine Z7 ?_ | refine Z8 ?_ | refine Z9 ?_ | refine ZA ?_ | refine ZB ?_ | refine ZC ?_ | refine ZF ?_)
    exact end2 (Wk.ringE rfl rfl rfl rfl rfl (fun σ => .cons rfl (Ren.im rfl) (.cons rfl (Ren.im rfl) .nil)) rfl rfl (iD_eq (by dsimp only; omega)) rfl rfl rfl (bD_eq ht.symm) (iD_eq (by dsimp only; omega)) rfl rfl) rfl rfl rfl (by first | exact .inl rfl | exact .inr rfl)
theorem pass_end (B c : Nat) (r : Rng) (hr : Few r) (hk : r.at_ = 0) (ht : r.told = false) (ha : r.act r.at_ = false) (hf : r.fresh = false) (hd : r.dark = false) (hb0 : r.blk r.at_ = false) (hs : r.sum + r.cnt r.at_ = 0) : DM Try.prog 11 (some (B, c)) 3 (ringM r) [.pin B c 0 0] 3 (ringM { r with told := true, passes := r.passes + 1 }) (.tup [bD true, iD 0]) := by
  have N := none_d r hr.1
  obtain ⟨h1, h2, h3, h4, h5, h6, h7, h8, h9⟩ := hr
  have g0 := spots_get r.act r.blk r.cnt h3 (r := 0) (by omega)
  have g1 := spots_get r.act r.blk r.cnt h3 (r := 1) (by omega)
  have g2 := spots_get r.act r.blk r.cnt h3 (r := 2) (by omega)
  have s1 := spots_blk r.act r.blk r.cnt false h3
  have hl := spots_len r.n r.act r.blk r.cnt
  have hb := h4 r.at_
  rw [show (spotD r.act r.blk r.cnt r.at_)[0]? = some (bD (r.act r.at_)) from rfl, ha] at g0
  rw [show (spotD r.act r.blk r.cnt r.at_)[1]? = some (bD (r.blk r.at_)) from rfl] at g1
  rw [show (spotD r.act r.blk r.cnt r.at_)[2]? = some (iD (r.cnt r.at_)) from rfl] at g2
  rw [hb0] at g1
  unfold ringO at N
  rw [ht, hd, hf] at N
  refine DM.of Try.func11 Try.ntmps11 Try.results11 rfl (by decide +kernel) rfl ?_
  refine C_mem (mem' := [(0, some ⟨52, 8, 1, [.own 1 r.n, .own 2 r.fly.length, iD r.at_, iD r.sum, bD false, bD false, bD false, iD r.passes]⟩), (1, some ⟨54, 3, r.n, spotsD r.n r.act r.blk r.cnt⟩), (2, some ⟨49, 2, r.fly.length, flyD r.fly⟩)]) (by unfold ringM; rw [ht, hd, hf]) ?_
  repeat (first | refine Z1 ?_ | refine Z2 ?_ | (refine Z3 ?_; (repeat (first | (apply gS; first | refine go_pin ?_ | refine go_v N ?_ | refine go_no ?_ | refine go_f ?_ | refine gx ?_ | refine gm ?_ | refine gp ?_) | (apply gZ; first | refine go_st8 ?_ | refine go_f ?_ | refine gx ?_ | refine gm ?_))); refine T_nil ?_) | (apply ZR; (try dsimp only [List.map_cons, List.map_nil]); refine C_dr mixed ?_; (repeat (first | (apply vS; first | refine vpin ?_ | refine vn ?_ | refine va ?_ | refine vp ?_ | refine vr ?_ | refine vt ?_) | (apply vZ; first | refine v8 ?_ | refine vs ?_ | refine vw ?_))); refine W_e ?_) | (apply ZK; first | refine Z4 ?_ | refine Z5 ?_) | refine Z6 ?_ | refine Z7 ?_ | refine Z8 ?_ | refine Z9 ?_ | refine ZA ?_ | refine ZB ?_ | refine ZC ?_ | refine ZF ?_)
  exact end2 (Wk.ringE rfl rfl rfl rfl rfl (fun σ => .cons rfl (Ren.im rfl) (.cons rfl (Ren.im rfl) .nil)) rfl rfl rfl rfl (bD_eq hd.symm) (bD_eq hf.symm) rfl (iD_eq (by dsimp only; omega)) rfl rfl) rfl rfl rfl (by first | exact .inl rfl | exact .inr rfl)
theorem pass_new (B c : Nat) (r : Rng) (hr : Few r) (hk : r.at_ = 0) (ht : r.told = false) (ha : r.act r.at_ = false) (hno : ¬ (r.fresh = false ∧ r.dark = false ∧ r.blk r.at_ = false ∧ r.sum + r.cnt r.at_ = 0)) : DM Try.prog 11 (some (B, c)) 3 (ringM r) [.pin B c 0 0] 3 (ringM { r with at_ := r.n - 1, sum := 0, dark := false, fresh := false, blk := upF r.blk r.at_ false, passes := r.passes + 1 }) (.tup [bD false, iD 0]) := by
  have N := none_d r hr.1
  obtain ⟨h1, h2, h3, h4, h5, h6, h7, h8, h9⟩ := hr
  have g0 := spots_get r.act r.blk r.cnt h3 (r := 0) (by omega)
  have g1 := spots_get r.act r.blk r.cnt h3 (r := 1) (by omega)
  have g2 := spots_get r.act r.blk r.cnt h3 (r := 2) (by omega)
  have s1 := spots_blk r.act r.blk r.cnt false h3
  have hl := spots_len r.n r.act r.blk r.cnt
  have hb := h4 r.at_
  rw [show (spotD r.act r.blk r.cnt r.at_)[0]? = some (bD (r.act r.at_)) from rfl, ha] at g0
  rw [show (spotD r.act r.blk r.cnt r.at_)[1]? = some (bD (r.blk r.at_)) from rfl] at g1
  rw [show (spotD r.act r.blk r.cnt r.at_)[2]? = some (iD (r.cnt r.at_)) from rfl] at g2
  cases hf : r.fresh with
  | true =>
    unfold ringO at N
    rw [ht, hf] at N
    refine DM.of Try.func11 Try.ntmps11 Try.results11 rfl (by decide +kernel) rfl ?_
    refine C_mem (mem' := [(0, some ⟨52, 8, 1, [.own 1 r.n, .own 2 r.fly.length, iD r.at_, iD r.sum, bD r.dark, bD true, bD false, iD r.passes]⟩), (1, some ⟨54, 3, r.n, spotsD r.n r.act r.blk r.cnt⟩), (2, some ⟨49, 2, r.fly.length, flyD r.fly⟩)]) (by unfold ringM; rw [ht, hf]) ?_
    repeat (first | refine Z1 ?_ | refine Z2 ?_ | (refine Z3 ?_; (repeat (first | (apply gS; first | refine go_pin ?_ | refine go_v N ?_ | refine go_no ?_ | refine go_f ?_ | refine gx ?_ | refine gm ?_ | refine gp ?_) | (apply gZ; first | refine go_st8 ?_ | refine go_f ?_ | refine gx ?_ | refine gm ?_))); refine T_nil ?_) | (apply ZR; (try dsimp only [List.map_cons, List.map_nil]); refine C_dr mixed ?_; (repeat (first | (apply vS; first | refine vpin ?_ | refine vn ?_ | refine va ?_ | refine vp ?_ | refine vr ?_ | refine vt ?_) | (apply vZ; first | refine v8 ?_ | refine vs ?_ | refine vw ?_))); refine W_e ?_) | (apply ZK; first | refine Z4 ?_ | refine Z5 ?_) | refine Z6 ?_ | refine Z7 ?_ | refine Z8 ?_ | refine Z9 ?_ | refine ZA ?_ | refine ZB ?_ | refine ZC ?_ | refine ZF ?_)
    exact end2 (Wk.ringE rfl rfl rfl rfl rfl (fun σ => .cons rfl (Ren.im rfl) (.cons rfl (Ren.im rfl) .nil)) rfl rfl (iD_eq (by dsimp only; omega)) rfl rfl rfl (bD_eq ht.symm) (iD_eq (by dsimp only; omega)) rfl rfl) rfl rfl rfl (by first | exact .inl rfl | exact .inr rfl)
  | false =>
    cases hd : r.dark with
    | true =>
      unfold ringO at N
      rw [ht, hf, hd] at N
      refine DM.of Try.func11 Try.ntmps11 Try.results11 rfl (by decide +kernel) rfl ?_
      refine C_mem (mem' := [(0, some ⟨52, 8, 1, [.own 1 r.n, .own 2 r.fly.length, iD r.at_, iD r.sum, bD true, bD false, bD false, iD r.passes]⟩), (1, some ⟨54, 3, r.n, spotsD r.n r.act r.blk r.cnt⟩), (2, some ⟨49, 2, r.fly.length, flyD r.fly⟩)]) (by unfold ringM; rw [ht, hf, hd]) ?_
      repeat (first | refine Z1 ?_ | refine Z2 ?_ | (refine Z3 ?_; (repeat (first | (apply gS; first | refine go_pin ?_ | refine go_v N ?_ | refine go_no ?_ | refine go_f ?_ | refine gx ?_ | refine gm ?_ | refine gp ?_) | (apply gZ; first | refine go_st8 ?_ | refine go_f ?_ | refine gx ?_ | refine gm ?_))); refine T_nil ?_) | (apply ZR; (try dsimp only [List.map_cons, List.map_nil]); refine C_dr mixed ?_; (repeat (first | (apply vS; first | refine vpin ?_ | refine vn ?_ | refine va ?_ | refine vp ?_ | refine vr ?_ | refine vt ?_) | (apply vZ; first | refine v8 ?_ | refine vs ?_ | refine vw ?_))); refine W_e ?_) | (apply ZK; first | refine Z4 ?_ | refine Z5 ?_) | refine Z6 ?_ | refine Z7 ?_ | refine Z8 ?_ | refine Z9 ?_ | refine ZA ?_ | refine ZB ?_ | refine ZC ?_ | refine ZF ?_)
      exact end2 (Wk.ringE rfl rfl rfl rfl rfl (fun σ => .cons rfl (Ren.im rfl) (.cons rfl (Ren.im rfl) .nil)) rfl rfl (iD_eq (by dsimp only; omega)) rfl rfl rfl (bD_eq ht.symm) (iD_eq (by dsimp only; omega)) rfl rfl) rfl rfl rfl (by first | exact .inl rfl | exact .inr rfl)
    | false =>
      cases hb0 : r.blk r.at_ with
      | true =>
        rw [hb0] at g1
        unfold ringO at N
        rw [ht, hf, hd] at N
        refine DM.of Try.func11 Try.ntmps11 Try.results11 rfl (by decide +kernel) rfl ?_
        refine C_mem (mem' := [(0, some ⟨52, 8, 1, [.own 1 r.n, .own 2 r.fly.length, iD r.at_, iD r.sum, bD false, bD false, bD false, iD r.passes]⟩), (1, some ⟨54, 3, r.n, spotsD r.n r.act r.blk r.cnt⟩), (2, some ⟨49, 2, r.fly.length, flyD r.fly⟩)]) (by unfold ringM; rw [ht, hf, hd]) ?_
        repeat (first | refine Z1 ?_ | refine Z2 ?_ | (refine Z3 ?_; (repeat (first | (apply gS; first | refine go_pin ?_ | refine go_v N ?_ | refine go_no ?_ | refine go_f ?_ | refine gx ?_ | refine gm ?_ | refine gp ?_) | (apply gZ; first | refine go_st8 ?_ | refine go_f ?_ | refine gx ?_ | refine gm ?_))); refine T_nil ?_) | (apply ZR; (try dsimp only [List.map_cons, List.map_nil]); refine C_dr mixed ?_; (repeat (first | (apply vS; first | refine vpin ?_ | refine vn ?_ | refine va ?_ | refine vp ?_ | refine vr ?_ | refine vt ?_) | (apply vZ; first | refine v8 ?_ | refine vs ?_ | refine vw ?_))); refine W_e ?_) | (apply ZK; first | refine Z4 ?_ | refine Z5 ?_) | refine Z6 ?_ | refine Z7 ?_ | refine Z8 ?_ | refine Z9 ?_ | refine ZA ?_ | refine ZB ?_ | refine ZC ?_ | refine ZF ?_)
        exact end2 (Wk.ringE rfl rfl rfl rfl rfl (fun σ => .cons rfl (Ren.im rfl) (.cons rfl (Ren.im rfl) .nil)) rfl rfl (iD_eq (by dsimp only; omega)) rfl rfl rfl (bD_eq ht.symm) (iD_eq (by dsimp only; omega)) rfl rfl) rfl rfl rfl (by first | exact .inl rfl | exact .inr rfl)
      | false =>
        rw [hb0] at g1
        have hs : ¬ r.sum + r.cnt r.at_ = 0 := fun h => hno ⟨hf, hd, hb0, h⟩
        unfold ringO at N
        rw [ht, hf, hd] at N
        refine DM.of Try.func11 Try.ntmps11 Try.results11 rfl (by decide +kernel) rfl ?_
        refine C_mem (mem' := [(0, some ⟨52, 8, 1, [.own 1 r.n, .own 2 r.fly.length, iD r.at_, iD r.sum, bD false, bD false, bD false, iD r.passes]⟩), (1, some ⟨54, 3, r.n, spotsD r.n r.act r.blk r.cnt⟩), (2, some ⟨49, 2, r.fly.length, flyD r.fly⟩)]) (by unfold ringM; rw [ht, hf, hd]) ?_
        repeat (first | refine Z1 ?_ | refine Z2 ?_ | (refine Z3 ?_; (repeat (first | (apply gS; first | refine go_pin ?_ | refine go_v N ?_ | refine go_no ?_ | refine go_f ?_ | refine gx ?_ | refine gm ?_ | refine gp ?_) | (apply gZ; first | refine go_st8 ?_ | refine go_f ?_ | refine gx ?_ | refine gm ?_))); refine T_nil ?_) | (apply ZR; (try dsimp only [List.map_cons, List.map_nil]); refine C_dr mixed ?_; (repeat (first | (apply vS; first | refine vpin ?_ | refine vn ?_ | refine va ?_ | refine vp ?_ | refine vr ?_ | refine vt ?_) | (apply vZ; first | refine v8 ?_ | refine vs ?_ | refine vw ?_))); refine W_e ?_) | (apply ZK; first | refine Z4 ?_ | refine Z5 ?_) | refine Z6 ?_ | refine Z7 ?_ | refine Z8 ?_ | refine Z9 ?_ | refine ZA ?_ | refine ZB ?_ | refine ZC ?_ | refine ZF ?_)
        exact end2 (Wk.ringE rfl rfl rfl rfl rfl (fun σ => .cons rfl (Ren.im rfl) (.cons rfl (Ren.im rfl) .nil)) rfl rfl (iD_eq (by dsimp only; omega)) rfl rfl rfl (bD_eq ht.symm) (iD_eq (by dsimp only; omega)) rfl rfl) rfl rfl rfl (by first | exact .inl rfl | exact .inr rfl)
end Go.Proofs.Ytpomhnmfkdgafaa
