/- The law SpanMeets returns true for every input: Meet, Same and Within of the program are those of the reference. -/
import Derived.Test.YtoeabdanldiccaaS13
import Derived.Test.YtoeabdanldiccaaS6
namespace Go.Proofs.Ytoeabdanldiccaa.spanMeets
open Go.RowKit Go.Proofs.Ytoeabdanldiccaa
set_option linter.unusedVariables false
set_option linter.unusedSimpArgs false
set_option maxHeartbeats 8000000 in
theorem law_d (r s : Rg) : DC Try.prog 10 [rD r, rD s] (bD true) := by
  obtain ⟨a, e, hM, M⟩ := sMeetP_d r s
  have M2 := rMeetP_d r s hM
  have S1 := sSame_d r s
  have S2 := rSame_d r s
  have W := sWithin_d r s
  have W2 := rWithinP_d r s
  generalize withinRes r s = w at W W2
  obtain ⟨wb, we⟩ := w
  simp only at W W2
  clear hM
  cases hb : sameB r s <;> rw [hb] at S1 S2 <;> cases wb
  all_goals
    refine DC.of Try.func10 Try.ntmps10 Try.results10 rfl (by decide +kernel) rfl ?_
    repeat (first | refine C_seq ?_ | refine kSeq_n ?_ | (refine C_region (id := 0) ?_; refine go_m MS_BoxA ?_; refine go_m MS_BoxA ?_; refine go_p (P_assign rfl rfl) ?_; refine T_nil ?_) | (refine C_region (id := 1) ?_; refine go_p (P_loadAgg3 rfl rfl rfl) ?_; refine go_p (P_loadAgg3 rfl rfl rfl) ?_; (repeat refine go_f ?_); refine go_c (M) ?_; refine go_p (P_move rfl rfl) ?_; refine go_p (P_extract rfl rfl rfl) ?_; refine go_p (P_extract rfl rfl rfl) ?_; refine go_m MS_Alloc ?_; refine go_m MS_StA ?_; refine go_p (P_assign rfl rfl) ?_; refine T_nil ?_) | (refine C_region (id := 2) ?_; refine go_p (P_loadAgg3 rfl rfl rfl) ?_; refine go_p (P_loadAgg3 rfl rfl rfl) ?_; (repeat refine go_f ?_); (first | refine go_c (M) ?_ | refine go_c (M2) ?_); refine go_p (P_move rfl rfl) ?_; refine go_p (P_extract rfl rfl rfl) ?_; refine go_p (P_extract rfl rfl rfl) ?_; refine go_m MS_Alloc ?_; refine go_m MS_StA ?_; refine go_p (P_assign rfl rfl) ?_; refine T_nil ?_) | (refine C_dr (id := 3) mixed ?_; (first | refine W_p 1 (fun _ => P_loadAgg3 rfl rfl rfl) ?_ | refine W_r 1 ?_); (first | refine W_p 2 (fun _ => P_loadAgg3 rfl rfl rfl) ?_ | refine W_r 2 ?_); refine W_p 3 (fun _ => P_gNeR) ?_; refine W_p 4 (fun _ => P_move rfl rfl) ?_; (first | refine W_no 5 ?_ | refine W_p 5 (fun _ => P_move rfl rfl) ?_); (first | refine W_no 6 ?_ | refine W_p 6 (fun _ => P_move rfl rfl) ?_); (first | refine W_no 7 ?_ | refine W_p 7 (fun _ => P_gNeq) ?_); refine W_p 8 (fun _ => P_gPick) ?_; refine W_p 9 (fun _ => P_move rfl rfl) ?_; (first | refine W_no 10 ?_ | refine W_p 10 (fun _ => P_loadAgg3 rfl rfl rfl) ?_ | refine W_r 10 ?_); (first | refine W_no 11 ?_ | refine W_p 11 (fun _ => P_loadAgg3 rfl rfl rfl) ?_ | refine W_r 11 ?_); (first | refine W_no 12 ?_ | refine W_c 12 (M) ?_ | refine W_c 12 (S1) ?_); (first | refine W_no 13 ?_ | refine W_p 13 (fun _ => P_loadAgg3 rfl rfl rfl) ?_ | refine W_r 13 ?_); (first | refine W_no 14 ?_ | refine W_p 14 (fun _ => P_loadAgg3 rfl rfl rfl) ?_ | refine W_r 14 ?_); (first | refine W_no 15 ?_ | refine W_c 15 (M) ?_ | refine W_c 15 (S2) ?_); (first | refine W_no 16 ?_ | refine W_p 16 (fun _ => P_gNeB) ?_); refine W_p 17 (fun _ => P_gPick) ?_; refine W_e ?_) | (refine C_region (id := 4) ?_; refine go_p (P_assign rfl rfl) ?_; refine T_nil ?_) | (refine C_region (id := 5) ?_; refine go_p (P_loadAgg3 rfl rfl rfl) ?_; refine go_p (P_loadAgg3 rfl rfl rfl) ?_; (repeat refine go_f ?_); (first | refine go_c (M) ?_ | refine go_c (W) ?_); refine go_p (P_move rfl rfl) ?_; refine go_p (P_extract rfl rfl rfl) ?_; refine go_p (P_extract rfl rfl rfl) ?_; refine go_p (P_assign rfl rfl) ?_; refine go_p (P_assign rfl rfl) ?_; refine T_nil ?_) | (refine C_region (id := 6) ?_; refine go_p (P_loadAgg3 rfl rfl rfl) ?_; refine go_p (P_loadAgg3 rfl rfl rfl) ?_; (repeat refine go_f ?_); (first | refine go_c (M) ?_ | refine go_c (W2) ?_); refine go_p (P_move rfl rfl) ?_; refine go_p (P_extract rfl rfl rfl) ?_; refine go_p (P_extract rfl rfl rfl) ?_; refine go_p (P_assign rfl rfl) ?_; refine go_p (P_assign rfl rfl) ?_; refine T_nil ?_) | (refine C_region (id := 7) ?_; refine go_p (P_move rfl rfl) ?_; refine go_p (P_move rfl rfl) ?_; refine go_p P_gEqB ?_; refine go_p (P_move rfl rfl) ?_; (first | refine go_no ?_ | refine go_p (P_move rfl rfl) ?_); (first | refine go_no ?_ | refine go_p (P_move rfl rfl) ?_); (first | refine go_no ?_ | refine go_p P_gEql ?_); refine go_p P_gPick ?_; refine go_p (P_move rfl rfl) ?_; (first | refine go_no ?_ | refine go_c (M) ?_ | refine go_c (first_d) ?_); refine go_p P_gPick ?_; refine go_p (P_assign rfl rfl) ?_; refine T_nil ?_) | refine C_cond_t rfl ?_ | refine C_cond_f rfl ?_ | refine C_ret ?_ | refine kSeq_r ?_ | refine C_skip ?_)
    repeat (refine kEnd_f ?_)
    refine kEnd_g ?_ (by first | exact .inl rfl | exact .inr rfl)
    exact Sub.eq rfl rfl
theorem walk (lo hi st lo2 hi2 st2 : Int) (w : World) : Calls Try.prog 10 #[.agg #[.int .i64 lo, .int .i64 hi, .int .i64 st], .agg #[.int .i64 lo2, .int .i64 hi2, .int .i64 st2]] w fun e w' => e = .returned (.bool true) ∧ Below w.heap.size w w' :=
  DC.law (law_d ⟨lo, hi, st⟩ ⟨lo2, hi2, st2⟩) (.cons (RC.rg _ _ _ _ _) (.cons (RC.rg _ _ _ _ _) .nil))
end Go.Proofs.Ytoeabdanldiccaa.spanMeets
