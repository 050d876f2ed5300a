/- Follow of the reference; Large, by the abstract machine. -/
import Derived.Test.YtifapodobhkdcaaF4
namespace Go.Proofs.Ytifapodobhkdcaa
open Go.RowKit
set_option linter.unusedVariables false
set_option maxHeartbeats 16000000
set_option linter.unusedSimpArgs false
set_option maxRecDepth 100000
theorem rCount4_ok {d : List Rg} (h : domB d = true) : DC Try.prog 64 [domD d] (.tup [iD (cnt d), iD 0]) := by
  have H := rdCount_d d
  rwa [show dCountRes d = (((cnt d : Nat) : Int), 0) from if_pos h] at H
theorem large_d (d : List Rg) : ∃ b, DC Try.prog 94 [domD d] (bD b) := by
  have C := rdCount_d d
  generalize dCountRes d = c at *
  obtain ⟨n, e⟩ := c
  dsimp only at C
  by_cases h : 600 < n
  · refine ⟨true, ?_⟩
    refine DC.of Try.func94 Try.ntmps94 Try.results94 rfl (by decide +kernel) rfl ?_
    repeat (first | refine Z1 ?_ | refine Z2 ?_ | (refine Z3 ?_; (repeat (first | (apply gS; first | refine go_f ?_ | refine gx ?_ | refine gm ?_ | refine gp ?_ | refine go_c rfl rfl (C) ?_ | refine go_cF rfl rfl (C) ?_ | refine go_cA rfl rfl (C) ?_))); refine T_nil ?_) | (apply ZK; first | refine Z4 ?_ | refine Z5 ?_) | refine Z6 ?_ | refine Z7 ?_)
    repeat (first | refine kEnd_m ?_ | refine kEnd_f ?_)
    refine kEnd_g ?_ (by first | exact .inl rfl | exact .inr rfl)
    exact Sub.eq rfl rfl
  · refine ⟨false, ?_⟩
    refine DC.of Try.func94 Try.ntmps94 Try.results94 rfl (by decide +kernel) rfl ?_
    repeat (first | refine Z1 ?_ | refine Z2 ?_ | (refine Z3 ?_; (repeat (first | (apply gS; first | refine go_f ?_ | refine gx ?_ | refine gm ?_ | refine gp ?_ | refine go_c rfl rfl (C) ?_ | refine go_cF rfl rfl (C) ?_ | refine go_cA rfl rfl (C) ?_))); refine T_nil ?_) | (apply ZK; first | refine Z4 ?_ | refine Z5 ?_) | refine Z6 ?_ | refine Z7 ?_)
    repeat (first | refine kEnd_m ?_ | refine kEnd_f ?_)
    refine kEnd_g ?_ (by first | exact .inl rfl | exact .inr rfl)
    exact Sub.eq rfl rfl
end Go.Proofs.Ytifapodobhkdcaa
