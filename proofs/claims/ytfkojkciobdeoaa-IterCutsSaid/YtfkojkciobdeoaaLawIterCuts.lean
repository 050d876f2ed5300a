/- The law IterCuts returns true for every input: Split, Dynamic and Guided of the program are those of the reference, and cover all places once, in order. -/
import Derived.Test.YtfkojkciobdeoaaI4
import Derived.Test.YtfkojkciobdeoaaI2
import Derived.Test.YtfkojkciobdeoaaCameD
namespace Go.Proofs.Ytfkojkciobdeoaa.iterCuts
open Go.RowKit Go.Proofs.Ytfkojkciobdeoaa
set_option linter.unusedVariables false
set_option maxHeartbeats 16000000
set_option linter.unusedSimpArgs false
set_option maxRecDepth 100000
theorem law_d (c n : Int) : DC Try.prog 9 [iD c, iD n] (bD true) := by
  rcases cut_two c n with ⟨h1, h2, h3, h4⟩ | h
  · obtain ⟨N, a1, a2, a3⟩ := dy_end h1 h3
    obtain ⟨M, b1, b2, b3⟩ := gd_end h1 h3
    have S := split_ok c n h1 h2 h3 h4
    have RS := rSplit_ok c n h1 h2 h3 h4
    have Y := dyn_ok c n N h1 h2 h3 h4 a1 a2 a3
    have RY := rDyn_ok c n N h1 h2 h3 h4 a1 a2 a3
    have G' := guided_ok c n M h1 h2 h3 h4 b1 b2 b3
    have RG := rGuided_ok c n M h1 h2 h3 h4 b1 b2 b3
    have P1 := pairs_d (chL (spH c n) n.toNat) (by rw [chL_len]; omega)
    have P2 := pairs_d (chL (dyH c n) N) (by rw [chL_len]; omega)
    have P3 := pairs_d (chL (gdH c n) M) (by rw [chL_len]; omega)
    have V1 := covers_ok (spH c n) n.toNat c (by omega) (spH_0 c n) (fun k _ => (spH_mono h1 h3 k).2) (spH_end h3)
    have V2 := covers_ok (dyH c n) N c (by omega) (by simp [dyH]; omega) (fun k hk => by
      rw [dyH_lt (a3 k hk), dyH_succ]
      have := a3 k hk
      split <;> omega) (by unfold dyH; split <;> omega)
    have V3 := covers_ok (gdH c n) M c (by omega) rfl (fun k hk => by have := b3 k hk; omega) b2
    clear a1 a2 a3 b1 b2 b3
    generalize chL (spH c n) n.toNat = l1 at *
    generalize chL (dyH c n) N = l2 at *
    generalize chL (gdH c n) M = l3 at *
    refine DC.of Try.func9 Try.ntmps9 Try.results9 rfl (by decide +kernel) rfl ?_
    repeat (first | refine Z1 ?_ | refine Z2 ?_ | (refine Z3 ?_; (repeat (first | (apply gS; first | refine go_no ?_ | refine go_f ?_ | refine gm ?_ | refine gp ?_ | refine go_c rfl rfl (S) ?_ | refine go_c rfl rfl (RS) ?_ | refine go_c rfl rfl (Y) ?_ | refine go_c rfl rfl (RY) ?_ | refine go_c rfl rfl (G') ?_ | refine go_c rfl rfl (RG) ?_ | refine go_c rfl rfl (P1) ?_ | refine go_c rfl rfl (P2) ?_ | refine go_c rfl rfl (P3) ?_ | refine go_c rfl rfl (V1) ?_ | refine go_c rfl rfl (V2) ?_ | refine go_c rfl rfl (V3) ?_ | refine go_c rfl rfl (awake8_d) ?_))); refine T_nil ?_) | refine Z4 ?_ | refine Z5 ?_ | refine Z6 ?_ | refine Z7 ?_)
    repeat (first | refine kEnd_m ?_ | refine kEnd_f ?_)
    refine kEnd_g ?_ (by first | exact .inl rfl | exact .inr rfl)
    exact Sub.eq rfl rfl
  · have S := split_no c n h
    have RS := rSplit_no c n h
    have Y := dyn_no c n h
    have RY := rDyn_no c n h
    have G' := guided_no c n h
    have RG := rGuided_no c n h
    have P1 := pairs_d [] (by simp)
    have V1 := covers_no c
    clear h
    refine DC.of Try.func9 Try.ntmps9 Try.results9 rfl (by decide +kernel) rfl ?_
    repeat (first | refine Z1 ?_ | refine Z2 ?_ | (refine Z3 ?_; (repeat (first | (apply gS; first | refine go_no ?_ | refine go_f ?_ | refine gm ?_ | refine gp ?_ | refine go_c rfl rfl (S) ?_ | refine go_c rfl rfl (RS) ?_ | refine go_c rfl rfl (Y) ?_ | refine go_c rfl rfl (RY) ?_ | refine go_c rfl rfl (G') ?_ | refine go_c rfl rfl (RG) ?_ | refine go_c rfl rfl (P1) ?_ | refine go_c rfl rfl (V1) ?_ | refine go_c rfl rfl (awake8_d) ?_))); refine T_nil ?_) | refine Z4 ?_ | refine Z5 ?_ | refine Z6 ?_ | refine Z7 ?_)
    repeat (first | refine kEnd_m ?_ | refine kEnd_f ?_)
    refine kEnd_g ?_ (by first | exact .inl rfl | exact .inr rfl)
    exact Sub.eq rfl rfl
theorem walk {w : World} (a b : Int) : Calls Try.prog 9 #[.int .i64 a, .int .i64 b] w fun e w' => e = .returned (.bool true) ∧ Below w.heap.size w w' :=
  DC.law (law_d a b) (.cons (RC.int _ _ a) (.cons (RC.int _ _ b) .nil))
end Go.Proofs.Ytfkojkciobdeoaa.iterCuts
