/- The law DomainSlices returns true for every input: Slice and Transpose of the program are those of the reference. -/
import Derived.Test.YtifapodobhkdcaaDSl
import Derived.Test.YtifapodobhkdcaaCameD
namespace Go.Proofs.Ytifapodobhkdcaa.domainSlices
open Go.RowKit Go.Proofs.Ytifapodobhkdcaa
set_option linter.unusedVariables false
set_option maxHeartbeats 16000000
set_option linter.unusedSimpArgs false
set_option maxRecDepth 100000
theorem awake_d : DC Try.prog 45 [] (bD true) := by
  have I := dIth_d [⟨1, 2, 1⟩, ⟨1, 3, 1⟩] 3
  rw [show dIthRes [⟨1, 2, 1⟩, ⟨1, 3, 1⟩] 3 = ([2, 1], 0) by decide] at I
  refine DC.of Try.func45 Try.ntmps45 Try.results45 rfl (by decide +kernel) rfl ?_
  repeat (first | refine Z1 ?_ | refine Z2 ?_ | (refine Z3 ?_; (repeat (first | (apply gS; first | refine go_no ?_ | refine go_f ?_ | refine gx ?_ | refine gm ?_ | refine gp ?_ | refine go_c rfl rfl (I) ?_ | refine go_cF rfl rfl (I) ?_ | refine go_cA rfl rfl (I) ?_) | (apply gZ; first | refine go_f ?_ | refine gx ?_ | refine gm ?_))); refine T_nil ?_) | (apply ZK; first | refine Z4 ?_ | refine Z5 ?_) | refine Z6 ?_ | refine Z7 ?_)
  repeat (first | refine kEnd_m ?_ | refine kEnd_f ?_)
  refine kEnd_g ?_ (by first | exact .inl rfl | exact .inr rfl)
  exact Sub.eq rfl rfl
theorem can_len (l : List Rg) : (dCanonRes l).1.length ≤ 9223372036854775806 := by
  unfold dCanonRes
  split
  · rename_i h; have := (domB_iff.1 h).1; simp [canonRs]; omega
  · simp
set_option maxHeartbeats 8000000 in
theorem law_d (rs : List Rg) (dim at' : Int) : DC Try.prog 6 [domD rs, iD dim, iD at'] (bD true) := by
  have S := dSlice_d rs dim at'
  have RS := rSlice_d rs dim at'
  have T := dTranspose_d rs
  have RT := rTranspose_d rs
  have hs : (slRes rs dim at').1.length ≤ 9223372036854775806 := by
    unfold slRes
    split
    · split
      · exact can_len _
      · simp
    · simp
  have ht : (tspRes rs).1.length ≤ 9223372036854775806 := by
    unfold tspRes
    split
    · rename_i h; have := (domB_iff.1 h).1; simp [canonRs]; omega
    · simp
  have E1 := equal_d _ hs
  have E2 := equal_d _ ht
  clear hs ht
  generalize slRes rs dim at' = a at *
  generalize tspRes rs = c at *
  obtain ⟨a1, a2⟩ := a
  obtain ⟨c1, c2⟩ := c
  dsimp only at S RS T RT E1 E2
  refine DC.of Try.func6 Try.ntmps6 Try.results6 rfl (by decide +kernel) rfl ?_
  repeat (first | refine Z1 ?_ | refine Z2 ?_ | (refine Z3 ?_; (repeat (first | (apply gS; first | refine go_no ?_ | refine go_f ?_ | refine gx ?_ | refine gm ?_ | refine gp ?_ | refine go_c rfl rfl (S) ?_ | refine go_cF rfl rfl (S) ?_ | refine go_cA rfl rfl (S) ?_ | refine go_c rfl rfl (RS) ?_ | refine go_cF rfl rfl (RS) ?_ | refine go_cA rfl rfl (RS) ?_ | refine go_c rfl rfl (T) ?_ | refine go_cF rfl rfl (T) ?_ | refine go_cA rfl rfl (T) ?_ | refine go_c rfl rfl (RT) ?_ | refine go_cF rfl rfl (RT) ?_ | refine go_cA rfl rfl (RT) ?_ | refine go_c rfl rfl (E1) ?_ | refine go_cF rfl rfl (E1) ?_ | refine go_cA rfl rfl (E1) ?_ | refine go_c rfl rfl (E2) ?_ | refine go_cF rfl rfl (E2) ?_ | refine go_cA rfl rfl (E2) ?_ | refine go_c rfl rfl (awake_d) ?_ | refine go_cF rfl rfl (awake_d) ?_ | refine go_cA rfl rfl (awake_d) ?_) | (apply gZ; first | refine go_f ?_ | refine gx ?_ | refine gm ?_))); refine T_nil ?_) | (apply ZK; first | refine Z4 ?_ | refine Z5 ?_) | refine Z6 ?_ | refine Z7 ?_)
  repeat (first | refine kEnd_m ?_ | refine kEnd_f ?_)
  refine kEnd_g ?_ (by first | exact .inl rfl | exact .inr rfl)
  exact Sub.eq rfl rfl
theorem walk {w : World} (v : Value) (rs : List Rg) (rc : RC (fun b => b < w.heap.size) w (domD rs) v) (dim at' : Int) : Calls Try.prog 6 #[v, .int .i64 dim, .int .i64 at'] w fun e w' => e = .returned (.bool true) ∧ Below w.heap.size w w' :=
  DC.law (law_d rs dim at') (.cons rc (.cons (.int _ _ dim) (.cons (.int _ _ at') .nil)))
end Go.Proofs.Ytifapodobhkdcaa.domainSlices
