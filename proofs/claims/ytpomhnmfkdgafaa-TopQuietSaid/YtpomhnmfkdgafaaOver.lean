/- Whether all is over, and the messages that fly. -/
import Derived.Test.YtpomhnmfkdgafaaAct
namespace Go.Proofs.Ytpomhnmfkdgafaa
open Go.RowKit
set_option linter.unusedVariables false
set_option maxHeartbeats 16000000
set_option linter.unusedSimpArgs false
set_option maxRecDepth 100000
def overB (r : Rng) : Bool := decide ((actL r.act r.n).length = 0 ∧ r.fly.length = 0)
theorem over_d (r : Rng) (h : 0 < r.n) (h8 : r.n ≤ 1000) : DC Try.prog 9 [ringO r] (bD (overB r)) := by
  have N := none_d r h
  have A := active_d r h h8
  by_cases h1 : (actL r.act r.n).length = 0
  · by_cases h2 : r.fly.length = 0
    · rw [show overB r = true from decide_eq_true ⟨h1, h2⟩]
      refine DC.of Try.func9 Try.ntmps9 Try.results9 rfl (by decide +kernel) rfl ?_
      repeat (first | refine Z1 ?_ | refine Z2 ?_ | (refine Z3 ?_; (repeat (first | (apply gS; first | refine go_no ?_ | refine go_f ?_ | refine gx ?_ | refine gm ?_ | refine gp ?_ | refine go_c rfl rfl (N) ?_ | refine go_cF rfl rfl (N) ?_ | refine go_cA rfl rfl (N) ?_ | refine go_c rfl rfl (A) ?_ | refine go_cF rfl rfl (A) ?_ | refine go_cA rfl rfl (A) ?_))); refine T_nil ?_) | (apply ZK; first | refine Z4 ?_ | refine Z5 ?_) | refine Z6 ?_ | refine Z7 ?_)
      repeat (first | refine kEnd_m ?_ | refine kEnd_f ?_)
      refine kEnd_g ?_ (by first | exact .inl rfl | exact .inr rfl)
      exact Sub.eq rfl rfl
    · rw [show overB r = false from decide_eq_false fun h => h2 h.2]
      refine DC.of Try.func9 Try.ntmps9 Try.results9 rfl (by decide +kernel) rfl ?_
      repeat (first | refine Z1 ?_ | refine Z2 ?_ | (refine Z3 ?_; (repeat (first | (apply gS; first | refine go_no ?_ | refine go_f ?_ | refine gx ?_ | refine gm ?_ | refine gp ?_ | refine go_c rfl rfl (N) ?_ | refine go_cF rfl rfl (N) ?_ | refine go_cA rfl rfl (N) ?_ | refine go_c rfl rfl (A) ?_ | refine go_cF rfl rfl (A) ?_ | refine go_cA rfl rfl (A) ?_))); refine T_nil ?_) | (apply ZK; first | refine Z4 ?_ | refine Z5 ?_) | refine Z6 ?_ | refine Z7 ?_)
      repeat (first | refine kEnd_m ?_ | refine kEnd_f ?_)
      refine kEnd_g ?_ (by first | exact .inl rfl | exact .inr rfl)
      exact Sub.eq rfl rfl
  · rw [show overB r = false from decide_eq_false fun h => h1 h.1]
    refine DC.of Try.func9 Try.ntmps9 Try.results9 rfl (by decide +kernel) rfl ?_
    repeat (first | refine Z1 ?_ | refine Z2 ?_ | (refine Z3 ?_; (repeat (first | (apply gS; first | refine go_no ?_ | refine go_f ?_ | refine gx ?_ | refine gm ?_ | refine gp ?_ | refine go_c rfl rfl (N) ?_ | refine go_cF rfl rfl (N) ?_ | refine go_cA rfl rfl (N) ?_ | refine go_c rfl rfl (A) ?_ | refine go_cF rfl rfl (A) ?_ | refine go_cA rfl rfl (A) ?_))); refine T_nil ?_) | (apply ZK; first | refine Z4 ?_ | refine Z5 ?_) | refine Z6 ?_ | refine Z7 ?_)
    repeat (first | refine kEnd_m ?_ | refine kEnd_f ?_)
    refine kEnd_g ?_ (by first | exact .inl rfl | exact .inr rfl)
    exact Sub.eq rfl rfl
theorem overS_d (r : Rng) (h8 : r.n ≤ 1000) : DC Try.prog 27 [ringSO r] (bD (overB r)) := by
  have A := activeS_d r h8
  by_cases h1 : (actL r.act r.n).length = 0
  · by_cases h2 : r.fly.length = 0
    · rw [show overB r = true from decide_eq_true ⟨h1, h2⟩]
      refine DC.of Try.func27 Try.ntmps27 Try.results27 rfl (by decide +kernel) rfl ?_
      repeat (first | refine Z1 ?_ | refine Z2 ?_ | (refine Z3 ?_; (repeat (first | (apply gS; first | refine go_no ?_ | refine go_f ?_ | refine gx ?_ | refine gm ?_ | refine gp ?_ | refine go_c rfl rfl (A) ?_ | refine go_cF rfl rfl (A) ?_ | refine go_cA rfl rfl (A) ?_))); refine T_nil ?_) | (apply ZK; first | refine Z4 ?_ | refine Z5 ?_) | refine Z6 ?_ | refine Z7 ?_)
      repeat (first | refine kEnd_m ?_ | refine kEnd_f ?_)
      refine kEnd_g ?_ (by first | exact .inl rfl | exact .inr rfl)
      exact Sub.eq rfl rfl
    · rw [show overB r = false from decide_eq_false fun h => h2 h.2]
      refine DC.of Try.func27 Try.ntmps27 Try.results27 rfl (by decide +kernel) rfl ?_
      repeat (first | refine Z1 ?_ | refine Z2 ?_ | (refine Z3 ?_; (repeat (first | (apply gS; first | refine go_no ?_ | refine go_f ?_ | refine gx ?_ | refine gm ?_ | refine gp ?_ | refine go_c rfl rfl (A) ?_ | refine go_cF rfl rfl (A) ?_ | refine go_cA rfl rfl (A) ?_))); refine T_nil ?_) | (apply ZK; first | refine Z4 ?_ | refine Z5 ?_) | refine Z6 ?_ | refine Z7 ?_)
      repeat (first | refine kEnd_m ?_ | refine kEnd_f ?_)
      refine kEnd_g ?_ (by first | exact .inl rfl | exact .inr rfl)
      exact Sub.eq rfl rfl
  · rw [show overB r = false from decide_eq_false fun h => h1 h.1]
    refine DC.of Try.func27 Try.ntmps27 Try.results27 rfl (by decide +kernel) rfl ?_
    repeat (first | refine Z1 ?_ | refine Z2 ?_ | (refine Z3 ?_; (repeat (first | (apply gS; first | refine go_no ?_ | refine go_f ?_ | refine gx ?_ | refine gm ?_ | refine gp ?_ | refine go_c rfl rfl (A) ?_ | refine go_cF rfl rfl (A) ?_ | refine go_cA rfl rfl (A) ?_))); refine T_nil ?_) | (apply ZK; first | refine Z4 ?_ | refine Z5 ?_) | refine Z6 ?_ | refine Z7 ?_)
    repeat (first | refine kEnd_m ?_ | refine kEnd_f ?_)
    refine kEnd_g ?_ (by first | exact .inl rfl | exact .inr rfl)
    exact Sub.eq rfl rfl
end Go.Proofs.Ytpomhnmfkdgafaa
