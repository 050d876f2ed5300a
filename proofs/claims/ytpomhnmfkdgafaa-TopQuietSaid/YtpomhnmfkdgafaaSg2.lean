/- The reference's ring: refusals, Idle, Pass. -/
import Derived.Test.YtpomhnmfkdgafaaSg
namespace Go.Proofs.Ytpomhnmfkdgafaa
open Go.RowKit
set_option linter.unusedVariables false
set_option maxHeartbeats 16000000
set_option linter.unusedSimpArgs false
set_option maxRecDepth 100000
theorem sendS_arg (B c : Nat) (r : Rng) (hr : Few r) (p q : Int) (h : ¬ (0 ≤ p ∧ p < r.n ∧ 0 ≤ q ∧ q < r.n)) : DM Try.prog 18 (some (B, c)) 5 (ringSM r) [.pin B c 0 0, iD p, iD q] 5 (ringSM r) (iD 2) := by
  obtain ⟨h1, h2, h3, h4, h5, h6, h7, h8, h9⟩ := hr
  by_cases hp : 0 ≤ p ∧ p < r.n
  · obtain ⟨p', rfl⟩ := Int.eq_ofNat_of_zero_le hp.1
    have Y1 := is_y r (p := p') (by omega)
    have Y2 := is_n r (p := q) (by omega)
    refine DM.of Try.func18 Try.ntmps18 Try.results18 rfl (by decide +kernel) rfl ?_
    repeat (first | refine Z1 ?_ | refine Z2 ?_ | (refine Z3 ?_; (repeat (first | (apply gS; first | refine go_pin ?_ | refine go_v Y1 ?_ | refine go_v Y2 ?_ | refine go_no ?_ | refine go_f ?_ | refine gx ?_ | refine gm ?_ | refine gp ?_) | (apply gZ; first | refine go_st11 ?_ | refine go_f ?_ | refine gx ?_ | refine gm ?_))); refine T_nil ?_) | (apply ZK; first | refine Z4 ?_ | refine Z5 ?_) | refine Z6 ?_ | refine Z7 ?_ | refine Z8 ?_ | refine Z9 ?_ | refine ZA ?_ | refine ZB ?_ | refine ZC ?_ | refine ZF ?_)
    exact endS1 (Wk.ringSE rfl rfl rfl rfl rfl rfl rfl (fun σ => .cons rfl (Ren.im rfl) .nil) rfl rfl rfl rfl rfl rfl rfl rfl rfl rfl rfl rfl rfl rfl rfl) rfl (by first | exact .inl rfl | exact .inr rfl)
  · have Y1 := is_n r (p := p) (by omega)
    refine DM.of Try.func18 Try.ntmps18 Try.results18 rfl (by decide +kernel) rfl ?_
    repeat (first | refine Z1 ?_ | refine Z2 ?_ | (refine Z3 ?_; (repeat (first | (apply gS; first | refine go_pin ?_ | refine go_v Y1 ?_ | refine go_no ?_ | refine go_f ?_ | refine gx ?_ | refine gm ?_ | refine gp ?_) | (apply gZ; first | refine go_st11 ?_ | refine go_f ?_ | refine gx ?_ | refine gm ?_))); refine T_nil ?_) | (apply ZK; first | refine Z4 ?_ | refine Z5 ?_) | refine Z6 ?_ | refine Z7 ?_ | refine Z8 ?_ | refine Z9 ?_ | refine ZA ?_ | refine ZB ?_ | refine ZC ?_ | refine ZF ?_)
    exact endS1 (Wk.ringSE rfl rfl rfl rfl rfl rfl rfl (fun σ => .cons rfl (Ren.im rfl) .nil) rfl rfl rfl rfl rfl rfl rfl rfl rfl rfl rfl rfl rfl rfl rfl) rfl (by first | exact .inl rfl | exact .inr rfl)
theorem sendS_idle (B c : Nat) (r : Rng) (hr : Few r) (p q : Nat) (hp : p < r.n) (hq : q < r.n) (ha : r.act p = false) : DM Try.prog 18 (some (B, c)) 5 (ringSM r) [.pin B c 0 0, iD p, iD q] 5 (ringSM r) (iD 170) := by
  obtain ⟨h1, h2, h3, h4, h5, h6, h7, h8, h9⟩ := hr
  have Y1 := is_y r hp
  have Y2 := is_y r hq
  have g0 := bools_get r.act hp
  rw [ha] at g0
  refine DM.of Try.func18 Try.ntmps18 Try.results18 rfl (by decide +kernel) rfl ?_
  repeat (first | refine Z1 ?_ | refine Z2 ?_ | (refine Z3 ?_; (repeat (first | (apply gS; first | refine go_pin ?_ | refine go_v Y1 ?_ | refine go_v Y2 ?_ | refine go_no ?_ | refine go_f ?_ | refine gx ?_ | refine gm ?_ | refine gp ?_) | (apply gZ; first | refine go_st11 ?_ | refine go_f ?_ | refine gx ?_ | refine gm ?_))); refine T_nil ?_) | (apply ZK; first | refine Z4 ?_ | refine Z5 ?_) | refine Z6 ?_ | refine Z7 ?_ | refine Z8 ?_ | refine Z9 ?_ | refine ZA ?_ | refine ZB ?_ | refine ZC ?_ | refine ZF ?_)
  exact endS1 (Wk.ringSE rfl rfl rfl rfl rfl rfl rfl (fun σ => .cons rfl (Ren.im rfl) .nil) rfl rfl rfl rfl rfl rfl rfl rfl rfl rfl rfl rfl rfl rfl rfl) rfl (by first | exact .inl rfl | exact .inr rfl)
theorem idleS_ok (B c : Nat) (r : Rng) (hr : Few r) (p : Nat) (hp : p < r.n) (ha : r.act p = true) : DM Try.prog 21 (some (B, c)) 5 (ringSM r) [.pin B c 0 0, iD p] 5 (ringSM { r with act := upF r.act p false }) (iD 0) := by
  obtain ⟨h1, h2, h3, h4, h5, h6, h7, h8, h9⟩ := hr
  have Y1 := is_y r hp
  have g0 := bools_get r.act hp
  have s0 := bools_set r.act false hp
  have hl := bools_len r.n r.act
  rw [ha] at g0
  refine DM.of Try.func21 Try.ntmps21 Try.results21 rfl (by decide +kernel) rfl ?_
  repeat (first | refine Z1 ?_ | refine Z2 ?_ | (refine Z3 ?_; (repeat (first | (apply gS; first | refine go_pin ?_ | refine go_v Y1 ?_ | refine go_f ?_ | refine gx ?_ | refine gm ?_ | refine gp ?_) | (apply gZ; first | refine go_st11 ?_ | refine go_f ?_ | refine gx ?_ | refine gm ?_))); refine T_nil ?_) | (apply ZK; first | refine Z4 ?_ | refine Z5 ?_) | refine Z6 ?_ | refine Z7 ?_ | refine Z8 ?_ | refine Z9 ?_ | refine ZA ?_ | refine ZB ?_ | refine ZC ?_ | refine ZF ?_)
  exact endS1 (Wk.ringSE rfl rfl rfl rfl rfl rfl rfl (fun σ => .cons rfl (Ren.im rfl) .nil) rfl rfl rfl rfl rfl rfl rfl rfl rfl rfl rfl rfl rfl rfl rfl) rfl (by first | exact .inl rfl | exact .inr rfl)
theorem idleS_ring (B c : Nat) (r : Rng) (hr : Few r) (p : Nat) (hp : p < r.n) (ha : r.act p = false) : DM Try.prog 21 (some (B, c)) 5 (ringSM r) [.pin B c 0 0, iD p] 5 (ringSM r) (iD 170) := by
  obtain ⟨h1, h2, h3, h4, h5, h6, h7, h8, h9⟩ := hr
  have Y1 := is_y r hp
  have g0 := bools_get r.act hp
  rw [ha] at g0
  refine DM.of Try.func21 Try.ntmps21 Try.results21 rfl (by decide +kernel) rfl ?_
  repeat (first | refine Z1 ?_ | refine Z2 ?_ | (refine Z3 ?_; (repeat (first | (apply gS; first | refine go_pin ?_ | refine go_v Y1 ?_ | refine go_f ?_ | refine gx ?_ | refine gm ?_ | refine gp ?_) | (apply gZ; first | refine go_st11 ?_ | refine go_f ?_ | refine gx ?_ | refine gm ?_))); refine T_nil ?_) | (apply ZK; first | refine Z4 ?_ | refine Z5 ?_) | refine Z6 ?_ | refine Z7 ?_ | refine Z8 ?_ | refine Z9 ?_ | refine ZA ?_ | refine ZB ?_ | refine ZC ?_ | refine ZF ?_)
  exact endS1 (Wk.ringSE rfl rfl rfl rfl rfl rfl rfl (fun σ => .cons rfl (Ren.im rfl) .nil) rfl rfl rfl rfl rfl rfl rfl rfl rfl rfl rfl rfl rfl rfl rfl) rfl (by first | exact .inl rfl | exact .inr rfl)
theorem idleS_arg (B c : Nat) (r : Rng) (hr : Few r) (p : Int) (hp : ¬ (0 ≤ p ∧ p < r.n)) : DM Try.prog 21 (some (B, c)) 5 (ringSM r) [.pin B c 0 0, iD p] 5 (ringSM r) (iD 2) := by
  obtain ⟨h1, h2, h3, h4, h5, h6, h7, h8, h9⟩ := hr
  have Y1 := is_n r (p := p) (by omega)
  refine DM.of Try.func21 Try.ntmps21 Try.results21 rfl (by decide +kernel) rfl ?_
  repeat (first | refine Z1 ?_ | refine Z2 ?_ | (refine Z3 ?_; (repeat (first | (apply gS; first | refine go_pin ?_ | refine go_v Y1 ?_ | refine go_f ?_ | refine gx ?_ | refine gm ?_ | refine gp ?_) | (apply gZ; first | refine go_st11 ?_ | refine go_f ?_ | refine gx ?_ | refine gm ?_))); refine T_nil ?_) | (apply ZK; first | refine Z4 ?_ | refine Z5 ?_) | refine Z6 ?_ | refine Z7 ?_ | refine Z8 ?_ | refine Z9 ?_ | refine ZA ?_ | refine ZB ?_ | refine ZC ?_ | refine ZF ?_)
  exact endS1 (Wk.ringSE rfl rfl rfl rfl rfl rfl rfl (fun σ => .cons rfl (Ren.im rfl) .nil) rfl rfl rfl rfl rfl rfl rfl rfl rfl rfl rfl rfl rfl rfl rfl) rfl (by first | exact .inl rfl | exact .inr rfl)
end Go.Proofs.Ytpomhnmfkdgafaa
