/- The reference's ring: Pass. -/
import Derived.Test.YtpomhnmfkdgafaaSg2
namespace Go.Proofs.Ytpomhnmfkdgafaa
open Go.RowKit
set_option linter.unusedVariables false
set_option maxHeartbeats 16000000
set_option linter.unusedSimpArgs false
set_option maxRecDepth 100000
theorem passS_told (B c : Nat) (r : Rng) (hr : Few r) (ht : r.told = true) : DM Try.prog 12 (some (B, c)) 5 (ringSM r) [.pin B c 0 0] 5 (ringSM r) (.tup [bD true, iD 0]) := by
  obtain ⟨h1, h2, h3, h4, h5, h6, h7, h8, h9⟩ := hr
  refine DM.of Try.func12 Try.ntmps12 Try.results12 rfl (by decide +kernel) rfl ?_
  refine C_mem (mem' := [(0, some ⟨58, 11, 1, [iD r.n, .own 1 r.n, .own 2 r.n, .own 3 r.n, .own 4 r.fly.length, iD r.at_, iD r.sum, bD r.dark, bD r.fresh, bD true, iD r.passes]⟩), (1, some ⟨4, 1, r.n, boolsD r.n r.act⟩), (2, some ⟨4, 1, r.n, boolsD r.n r.blk⟩), (3, some ⟨3, 1, r.n, cntsD r.n r.cnt⟩), (4, some ⟨49, 2, r.fly.length, flyD r.fly⟩)]) (by unfold ringSM; rw [ht]) ?_
  repeat (first | refine Z1 ?_ | refine Z2 ?_ | (refine Z3 ?_; (repeat (first | (apply gS; first | refine go_pin ?_ | refine go_no ?_ | refine go_f ?_ | refine gx ?_ | refine gm ?_ | refine gp ?_) | (apply gZ; first | refine go_st11 ?_ | refine go_f ?_ | refine gx ?_ | refine gm ?_))); refine T_nil ?_) | (apply ZR; (try dsimp only [List.map_cons, List.map_nil]); refine C_dr mixed ?_; (repeat (first | (apply vS; first | refine vpin ?_ | refine vn ?_ | refine va ?_ | refine vp ?_ | refine vr ?_ | refine vt ?_) | (apply vZ; first | refine v11 ?_ | refine vs ?_ | refine vw ?_))); refine W_e ?_) | (apply ZK; first | refine Z4 ?_ | refine Z5 ?_) | refine Z6 ?_ | refine Z7 ?_ | refine Z8 ?_ | refine Z9 ?_ | refine ZA ?_ | refine ZB ?_ | refine ZC ?_ | refine ZF ?_)
  exact endS2 (Wk.ringSE rfl rfl rfl rfl rfl rfl rfl (fun σ => .cons rfl (Ren.im rfl) (.cons rfl (Ren.im rfl) .nil)) rfl rfl rfl rfl rfl rfl rfl rfl rfl (bD_eq ht.symm) rfl rfl rfl rfl rfl) rfl rfl rfl (by first | exact .inl rfl | exact .inr rfl)
theorem passS_wait (B c : Nat) (r : Rng) (hr : Few r) (ht : r.told = false) (ha : r.act r.at_ = true) : DM Try.prog 12 (some (B, c)) 5 (ringSM r) [.pin B c 0 0] 5 (ringSM r) (.tup [bD false, iD 171]) := by
  obtain ⟨h1, h2, h3, h4, h5, h6, h7, h8, h9⟩ := hr
  have g0 := bools_get r.act h3
  have g1 := bools_get r.blk h3
  have g2 := cnts_get r.cnt h3
  have s1 := bools_set r.blk false h3
  have hl := bools_len r.n r.blk
  have hb := h4 r.at_
  rw [ha] at g0
  refine DM.of Try.func12 Try.ntmps12 Try.results12 rfl (by decide +kernel) rfl ?_
  refine C_mem (mem' := [(0, some ⟨58, 11, 1, [iD r.n, .own 1 r.n, .own 2 r.n, .own 3 r.n, .own 4 r.fly.length, iD r.at_, iD r.sum, bD r.dark, bD r.fresh, bD false, iD r.passes]⟩), (1, some ⟨4, 1, r.n, boolsD r.n r.act⟩), (2, some ⟨4, 1, r.n, boolsD r.n r.blk⟩), (3, some ⟨3, 1, r.n, cntsD r.n r.cnt⟩), (4, some ⟨49, 2, r.fly.length, flyD r.fly⟩)]) (by unfold ringSM; rw [ht]) ?_
  repeat (first | refine Z1 ?_ | refine Z2 ?_ | (refine Z3 ?_; (repeat (first | (apply gS; first | refine go_pin ?_ | refine go_no ?_ | refine go_f ?_ | refine gx ?_ | refine gm ?_ | refine gp ?_) | (apply gZ; first | refine go_st11 ?_ | refine go_f ?_ | refine gx ?_ | refine gm ?_))); refine T_nil ?_) | (apply ZR; (try dsimp only [List.map_cons, List.map_nil]); refine C_dr mixed ?_; (repeat (first | (apply vS; first | refine vpin ?_ | refine vn ?_ | refine va ?_ | refine vp ?_ | refine vr ?_ | refine vt ?_) | (apply vZ; first | refine v11 ?_ | refine vs ?_ | refine vw ?_))); refine W_e ?_) | (apply ZK; first | refine Z4 ?_ | refine Z5 ?_) | refine Z6 ?_ | refine Z7 ?_ | refine Z8 ?_ | refine Z9 ?_ | refine ZA ?_ | refine ZB ?_ | refine ZC ?_ | refine ZF ?_)
  exact endS2 (Wk.ringSE rfl rfl rfl rfl rfl rfl rfl (fun σ => .cons rfl (Ren.im rfl) (.cons rfl (Ren.im rfl) .nil)) rfl rfl rfl rfl rfl rfl rfl rfl rfl (bD_eq ht.symm) rfl rfl rfl rfl rfl) rfl rfl rfl (by first | exact .inl rfl | exact .inr rfl)
theorem passS_on (B c : Nat) (r : Rng) (hr : Few r) (k : Nat) (hk : r.at_ = k + 1) (ht : r.told = false) (ha : r.act r.at_ = false) : DM Try.prog 12 (some (B, c)) 5 (ringSM r) [.pin B c 0 0] 5 (ringSM { r with at_ := k, sum := r.sum + r.cnt r.at_, dark := r.dark || r.blk r.at_, blk := upF r.blk r.at_ false, passes := r.passes + 1 }) (.tup [bD false, iD 0]) := by
  obtain ⟨h1, h2, h3, h4, h5, h6, h7, h8, h9⟩ := hr
  have g0 := bools_get r.act h3
  have g1 := bools_get r.blk h3
  have g2 := cnts_get r.cnt h3
  have s1 := bools_set r.blk false h3
  have hl := bools_len r.n r.blk
  have hb := h4 r.at_
  rw [ha] at g0
  cases hd : r.dark with
  | true =>
    refine DM.of Try.func12 Try.ntmps12 Try.results12 rfl (by decide +kernel) rfl ?_
    refine C_mem (mem' := [(0, some ⟨58, 11, 1, [iD r.n, .own 1 r.n, .own 2 r.n, .own 3 r.n, .own 4 r.fly.length, iD r.at_, iD r.sum, bD true, bD r.fresh, bD false, iD r.passes]⟩), (1, some ⟨4, 1, r.n, boolsD r.n r.act⟩), (2, some ⟨4, 1, r.n, boolsD r.n r.blk⟩), (3, some ⟨3, 1, r.n, cntsD r.n r.cnt⟩), (4, some ⟨49, 2, r.fly.length, flyD r.fly⟩)]) (by unfold ringSM; rw [ht, hd]) ?_
    repeat (first | refine Z1 ?_ | refine Z2 ?_ | (refine Z3 ?_; (repeat (first | (apply gS; first | refine go_pin ?_ | refine go_no ?_ | refine go_f ?_ | refine gx ?_ | refine gm ?_ | refine gp ?_) | (apply gZ; first | refine go_st11 ?_ | refine go_f ?_ | refine gx ?_ | refine gm ?_))); refine T_nil ?_) | (apply ZR; (try dsimp only [List.map_cons, List.map_nil]); refine C_dr mixed ?_; (repeat (first | (apply vS; first | refine vpin ?_ | refine vn ?_ | refine va ?_ | refine vp ?_ | refine vr ?_ | refine vt ?_) | (apply vZ; first | refine v11 ?_ | refine vs ?_ | refine vw ?_))); refine W_e ?_) | (apply ZK; first | refine Z4 ?_ | refine Z5 ?_) | refine Z6 ?_ | refine Z7 ?_ | refine Z8 ?_ | refine Z9 ?_ | refine ZA ?_ | refine ZB ?_ | refine ZC ?_ | refine ZF ?_)
    exact endS2 (Wk.ringSE rfl rfl rfl rfl rfl rfl rfl (fun σ => .cons rfl (Ren.im rfl) (.cons rfl (Ren.im rfl) .nil)) rfl rfl rfl rfl rfl (iD_eq (by dsimp only; omega)) rfl rfl rfl (bD_eq ht.symm) (iD_eq (by dsimp only; omega)) rfl s1 rfl rfl) rfl rfl rfl (by first | exact .inl rfl | exact .inr rfl)
  | false =>
    refine DM.of Try.func12 Try.ntmps12 Try.results12 rfl (by decide +kernel) rfl ?_
    refine C_mem (mem' := [(0, some ⟨58, 11, 1, [iD r.n, .own 1 r.n, .own 2 r.n, .own 3 r.n, .own 4 r.fly.length, iD r.at_, iD r.sum, bD false, bD r.fresh, bD false, iD r.passes]⟩), (1, some ⟨4, 1, r.n, boolsD r.n r.act⟩), (2, some ⟨4, 1, r.n, boolsD r.n r.blk⟩), (3, some ⟨3, 1, r.n, cntsD r.n r.cnt⟩), (4, some ⟨49, 2, r.fly.length, flyD r.fly⟩)]) (by unfold ringSM; rw [ht, hd]) ?_
    repeat (first | refine Z1 ?_ | refine Z2 ?_ | (refine Z3 ?_; (repeat (first | (apply gS; first | refine go_pin ?_ | refine go_no ?_ | refine go_f ?_ | refine gx ?_ | refine gm ?_ | refine gp ?_) | (apply gZ; first | refine go_st11 ?_ | refine go_f ?_ | refine gx ?_ | refine gm ?_))); refine T_nil ?_) | (apply ZR; (try dsimp only [List.map_cons, List.map_nil]); refine C_dr mixed ?_; (repeat (first | (apply vS; first | refine vpin ?_ | refine vn ?_ | refine va ?_ | refine vp ?_ | refine vr ?_ | refine vt ?_) | (apply vZ; first | refine v11 ?_ | refine vs ?_ | refine vw ?_))); refine W_e ?_) | (apply ZK; first | refine Z4 ?_ | refine Z5 ?_) | refine Z6 ?_ | refine Z7 ?_ | refine Z8 ?_ | refine Z9 ?_ | refine ZA ?_ | refine ZB ?_ | refine ZC ?_ | refine ZF ?_)
    exact endS2 (Wk.ringSE rfl rfl rfl rfl rfl rfl rfl (fun σ => .cons rfl (Ren.im rfl) (.cons rfl (Ren.im rfl) .nil)) rfl rfl rfl rfl rfl (iD_eq (by dsimp only; omega)) rfl rfl rfl (bD_eq ht.symm) (iD_eq (by dsimp only; omega)) rfl s1 rfl rfl) rfl rfl rfl (by first | exact .inl rfl | exact .inr rfl)
theorem passS_end (B c : Nat) (r : Rng) (hr : Few r) (hk : r.at_ = 0) (ht : r.told = false) (ha : r.act r.at_ = false) (hf : r.fresh = false) (hd : r.dark = false) (hb0 : r.blk 0 = false) (hs : r.sum + r.cnt 0 = 0) : DM Try.prog 12 (some (B, c)) 5 (ringSM r) [.pin B c 0 0] 5 (ringSM { r with told := true, passes := r.passes + 1 }) (.tup [bD true, iD 0]) := by
  obtain ⟨h1, h2, h3, h4, h5, h6, h7, h8, h9⟩ := hr
  have g0 := bools_get r.act h3
  have g1 := bools_get r.blk h3
  have g2 := cnts_get r.cnt h3
  have s1 := bools_set r.blk false h3
  have hl := bools_len r.n r.blk
  have hb := h4 r.at_
  rw [ha] at g0
  have k1 : (boolsD r.n r.blk)[(0 : Int).toNat * 1]? = some (bD (r.blk 0)) := bools_get (p := 0) r.blk h1
  have k2 : (cntsD r.n r.cnt)[(0 : Int).toNat * 1]? = some (iD (r.cnt 0)) := cnts_get (p := 0) r.cnt h1
  have k3 : (boolsD r.n r.blk).set ((0 : Int).toNat * 1) (bD false) = boolsD r.n (upF r.blk 0 false) := bools_set (p := 0) r.blk false h1
  have hb0' := h4 0
  rw [hb0] at k1
  refine DM.of Try.func12 Try.ntmps12 Try.results12 rfl (by decide +kernel) rfl ?_
  refine C_mem (mem' := [(0, some ⟨58, 11, 1, [iD r.n, .own 1 r.n, .own 2 r.n, .own 3 r.n, .own 4 r.fly.length, iD r.at_, iD r.sum, bD false, bD false, bD false, iD r.passes]⟩), (1, some ⟨4, 1, r.n, boolsD r.n r.act⟩), (2, some ⟨4, 1, r.n, boolsD r.n r.blk⟩), (3, some ⟨3, 1, r.n, cntsD r.n r.cnt⟩), (4, some ⟨49, 2, r.fly.length, flyD r.fly⟩)]) (by unfold ringSM; rw [ht, hd, hf]) ?_
  repeat (first | refine Z1 ?_ | refine Z2 ?_ | (refine Z3 ?_; (repeat (first | (apply gS; first | refine go_pin ?_ | refine go_no ?_ | refine go_f ?_ | refine gx ?_ | refine gm ?_ | refine gp ?_) | (apply gZ; first | refine go_st11 ?_ | refine go_f ?_ | refine gx ?_ | refine gm ?_))); refine T_nil ?_) | (apply ZR; (try dsimp only [List.map_cons, List.map_nil]); refine C_dr mixed ?_; (repeat (first | (apply vS; first | refine vpin ?_ | refine vn ?_ | refine va ?_ | refine vp ?_ | refine vr ?_ | refine vt ?_) | (apply vZ; first | refine v11 ?_ | refine vs ?_ | refine vw ?_))); refine W_e ?_) | (apply ZK; first | refine Z4 ?_ | refine Z5 ?_) | refine Z6 ?_ | refine Z7 ?_ | refine Z8 ?_ | refine Z9 ?_ | refine ZA ?_ | refine ZB ?_ | refine ZC ?_ | refine ZF ?_)
  exact endS2 (Wk.ringSE rfl rfl rfl rfl rfl rfl rfl (fun σ => .cons rfl (Ren.im rfl) (.cons rfl (Ren.im rfl) .nil)) rfl rfl rfl rfl rfl rfl rfl (bD_eq hd.symm) (bD_eq hf.symm) rfl (iD_eq (by dsimp only; omega)) rfl rfl rfl rfl) rfl rfl rfl (by first | exact .inl rfl | exact .inr rfl)
theorem passS_new (B c : Nat) (r : Rng) (hr : Few r) (hk : r.at_ = 0) (ht : r.told = false) (ha : r.act r.at_ = false) (hno : ¬ (r.fresh = false ∧ r.dark = false ∧ r.blk 0 = false ∧ r.sum + r.cnt 0 = 0)) : DM Try.prog 12 (some (B, c)) 5 (ringSM r) [.pin B c 0 0] 5 (ringSM { r with at_ := r.n - 1, sum := 0, dark := false, fresh := false, blk := upF r.blk 0 false, passes := r.passes + 1 }) (.tup [bD false, iD 0]) := by
  obtain ⟨h1, h2, h3, h4, h5, h6, h7, h8, h9⟩ := hr
  have g0 := bools_get r.act h3
  have g1 := bools_get r.blk h3
  have g2 := cnts_get r.cnt h3
  have s1 := bools_set r.blk false h3
  have hl := bools_len r.n r.blk
  have hb := h4 r.at_
  rw [ha] at g0
  have k1 : (boolsD r.n r.blk)[(0 : Int).toNat * 1]? = some (bD (r.blk 0)) := bools_get (p := 0) r.blk h1
  have k2 : (cntsD r.n r.cnt)[(0 : Int).toNat * 1]? = some (iD (r.cnt 0)) := cnts_get (p := 0) r.cnt h1
  have k3 : (boolsD r.n r.blk).set ((0 : Int).toNat * 1) (bD false) = boolsD r.n (upF r.blk 0 false) := bools_set (p := 0) r.blk false h1
  have hb0' := h4 0
  cases hf : r.fresh with
  | true =>
    refine DM.of Try.func12 Try.ntmps12 Try.results12 rfl (by decide +kernel) rfl ?_
    refine C_mem (mem' := [(0, some ⟨58, 11, 1, [iD r.n, .own 1 r.n, .own 2 r.n, .own 3 r.n, .own 4 r.fly.length, iD r.at_, iD r.sum, bD r.dark, bD true, bD false, iD r.passes]⟩), (1, some ⟨4, 1, r.n, boolsD r.n r.act⟩), (2, some ⟨4, 1, r.n, boolsD r.n r.blk⟩), (3, some ⟨3, 1, r.n, cntsD r.n r.cnt⟩), (4, some ⟨49, 2, r.fly.length, flyD r.fly⟩)]) (by unfold ringSM; rw [ht, hf]) ?_
    repeat (first | refine Z1 ?_ | refine Z2 ?_ | (refine Z3 ?_; (repeat (first | (apply gS; first | refine go_pin ?_ | refine go_no ?_ | refine go_f ?_ | refine gx ?_ | refine gm ?_ | refine gp ?_) | (apply gZ; first | refine go_st11 ?_ | refine go_f ?_ | refine gx ?_ | refine gm ?_))); refine T_nil ?_) | (apply ZR; (try dsimp only [List.map_cons, List.map_nil]); refine C_dr mixed ?_; (repeat (first | (apply vS; first | refine vpin ?_ | refine vn ?_ | refine va ?_ | refine vp ?_ | refine vr ?_ | refine vt ?_) | (apply vZ; first | refine v11 ?_ | refine vs ?_ | refine vw ?_))); refine W_e ?_) | (apply ZK; first | refine Z4 ?_ | refine Z5 ?_) | refine Z6 ?_ | refine Z7 ?_ | refine Z8 ?_ | refine Z9 ?_ | refine ZA ?_ | refine ZB ?_ | refine ZC ?_ | refine ZF ?_)
    exact endS2 (Wk.ringSE rfl rfl rfl rfl rfl rfl rfl (fun σ => .cons rfl (Ren.im rfl) (.cons rfl (Ren.im rfl) .nil)) rfl rfl rfl rfl rfl (iD_eq (by dsimp only; omega)) rfl rfl rfl (bD_eq ht.symm) (iD_eq (by dsimp only; omega)) rfl rfl rfl rfl) rfl rfl rfl (by first | exact .inl rfl | exact .inr rfl)
  | false =>
    cases hd : r.dark with
    | true =>
      refine DM.of Try.func12 Try.ntmps12 Try.results12 rfl (by decide +kernel) rfl ?_
      refine C_mem (mem' := [(0, some ⟨58, 11, 1, [iD r.n, .own 1 r.n, .own 2 r.n, .own 3 r.n, .own 4 r.fly.length, iD r.at_, iD r.sum, bD true, bD false, bD false, iD r.passes]⟩), (1, some ⟨4, 1, r.n, boolsD r.n r.act⟩), (2, some ⟨4, 1, r.n, boolsD r.n r.blk⟩), (3, some ⟨3, 1, r.n, cntsD r.n r.cnt⟩), (4, some ⟨49, 2, r.fly.length, flyD r.fly⟩)]) (by unfold ringSM; rw [ht, hf, hd]) ?_
      repeat (first | refine Z1 ?_ | refine Z2 ?_ | (refine Z3 ?_; (repeat (first | (apply gS; first | refine go_pin ?_ | refine go_no ?_ | refine go_f ?_ | refine gx ?_ | refine gm ?_ | refine gp ?_) | (apply gZ; first | refine go_st11 ?_ | refine go_f ?_ | refine gx ?_ | refine gm ?_))); refine T_nil ?_) | (apply ZR; (try dsimp only [List.map_cons, List.map_nil]); refine C_dr mixed ?_; (repeat (first | (apply vS; first | refine vpin ?_ | refine vn ?_ | refine va ?_ | refine vp ?_ | refine vr ?_ | refine vt ?_) | (apply vZ; first | refine v11 ?_ | refine vs ?_ | refine vw ?_))); refine W_e ?_) | (apply ZK; first | refine Z4 ?_ | refine Z5 ?_) | refine Z6 ?_ | refine Z7 ?_ | refine Z8 ?_ | refine Z9 ?_ | refine ZA ?_ | refine ZB ?_ | refine ZC ?_ | refine ZF ?_)
      exact endS2 (Wk.ringSE rfl rfl rfl rfl rfl rfl rfl (fun σ => .cons rfl (Ren.im rfl) (.cons rfl (Ren.im rfl) .nil)) rfl rfl rfl rfl rfl (iD_eq (by dsimp only; omega)) rfl rfl rfl (bD_eq ht.symm) (iD_eq (by dsimp only; omega)) rfl rfl rfl rfl) rfl rfl rfl (by first | exact .inl rfl | exact .inr rfl)
    | false =>
      cases hb0 : r.blk 0 with
      | true =>
        rw [hb0] at k1
        refine DM.of Try.func12 Try.ntmps12 Try.results12 rfl (by decide +kernel) rfl ?_
        refine C_mem (mem' := [(0, some ⟨58, 11, 1, [iD r.n, .own 1 r.n, .own 2 r.n, .own 3 r.n, .own 4 r.fly.length, iD r.at_, iD r.sum, bD false, bD false, bD false, iD r.passes]⟩), (1, some ⟨4, 1, r.n, boolsD r.n r.act⟩), (2, some ⟨4, 1, r.n, boolsD r.n r.blk⟩), (3, some ⟨3, 1, r.n, cntsD r.n r.cnt⟩), (4, some ⟨49, 2, r.fly.length, flyD r.fly⟩)]) (by unfold ringSM; rw [ht, hf, hd]) ?_
        repeat (first | refine Z1 ?_ | refine Z2 ?_ | (refine Z3 ?_; (repeat (first | (apply gS; first | refine go_pin ?_ | refine go_no ?_ | refine go_f ?_ | refine gx ?_ | refine gm ?_ | refine gp ?_) | (apply gZ; first | refine go_st11 ?_ | refine go_f ?_ | refine gx ?_ | refine gm ?_))); refine T_nil ?_) | (apply ZR; (try dsimp only [List.map_cons, List.map_nil]); refine C_dr mixed ?_; (repeat (first | (apply vS; first | refine vpin ?_ | refine vn ?_ | refine va ?_ | refine vp ?_ | refine vr ?_ | refine vt ?_) | (apply vZ; first | refine v11 ?_ | refine vs ?_ | refine vw ?_))); refine W_e ?_) | (apply ZK; first | refine Z4 ?_ | refine Z5 ?_) | refine Z6 ?_ | refine Z7 ?_ | refine Z8 ?_ | refine Z9 ?_ | refine ZA ?_ | refine ZB ?_ | refine ZC ?_ | refine ZF ?_)
        exact endS2 (Wk.ringSE rfl rfl rfl rfl rfl rfl rfl (fun σ => .cons rfl (Ren.im rfl) (.cons rfl (Ren.im rfl) .nil)) rfl rfl rfl rfl rfl (iD_eq (by dsimp only; omega)) rfl rfl rfl (bD_eq ht.symm) (iD_eq (by dsimp only; omega)) rfl rfl rfl rfl) rfl rfl rfl (by first | exact .inl rfl | exact .inr rfl)
      | false =>
        rw [hb0] at k1
        have hs : ¬ r.sum + r.cnt 0 = 0 := fun h => hno ⟨hf, hd, hb0, h⟩
        refine DM.of Try.func12 Try.ntmps12 Try.results12 rfl (by decide +kernel) rfl ?_
        refine C_mem (mem' := [(0, some ⟨58, 11, 1, [iD r.n, .own 1 r.n, .own 2 r.n, .own 3 r.n, .own 4 r.fly.length, iD r.at_, iD r.sum, bD false, bD false, bD false, iD r.passes]⟩), (1, some ⟨4, 1, r.n, boolsD r.n r.act⟩), (2, some ⟨4, 1, r.n, boolsD r.n r.blk⟩), (3, some ⟨3, 1, r.n, cntsD r.n r.cnt⟩), (4, some ⟨49, 2, r.fly.length, flyD r.fly⟩)]) (by unfold ringSM; rw [ht, hf, hd]) ?_
        repeat (first | refine Z1 ?_ | refine Z2 ?_ | (refine Z3 ?_; (repeat (first | (apply gS; first | refine go_pin ?_ | refine go_no ?_ | refine go_f ?_ | refine gx ?_ | refine gm ?_ | refine gp ?_) | (apply gZ; first | refine go_st11 ?_ | refine go_f ?_ | refine gx ?_ | refine gm ?_))); refine T_nil ?_) | (apply ZR; (try dsimp only [List.map_cons, List.map_nil]); refine C_dr mixed ?_; (repeat (first | (apply vS; first | refine vpin ?_ | refine vn ?_ | refine va ?_ | refine vp ?_ | refine vr ?_ | refine vt ?_) | (apply vZ; first | refine v11 ?_ | refine vs ?_ | refine vw ?_))); refine W_e ?_) | (apply ZK; first | refine Z4 ?_ | refine Z5 ?_) | refine Z6 ?_ | refine Z7 ?_ | refine Z8 ?_ | refine Z9 ?_ | refine ZA ?_ | refine ZB ?_ | refine ZC ?_ | refine ZF ?_)
        exact endS2 (Wk.ringSE rfl rfl rfl rfl rfl rfl rfl (fun σ => .cons rfl (Ren.im rfl) (.cons rfl (Ren.im rfl) .nil)) rfl rfl rfl rfl rfl (iD_eq (by dsimp only; omega)) rfl rfl rfl (bD_eq ht.symm) (iD_eq (by dsimp only; omega)) rfl rfl rfl rfl) rfl rfl rfl (by first | exact .inl rfl | exact .inr rfl)
end Go.Proofs.Ytpomhnmfkdgafaa
