/- The law IterSerial returns true for every input: Serial and At of the program are those of the reference. -/
import Derived.Test.YtfkojkciobdeoaaI2
import Derived.Test.YtfkojkciobdeoaaCameD
namespace Go.Proofs.Ytfkojkciobdeoaa.iterSerial
open Go.RowKit Go.Proofs.Ytfkojkciobdeoaa
set_option linter.unusedVariables false
set_option maxHeartbeats 16000000
set_option linter.unusedSimpArgs false
set_option maxRecDepth 100000
theorem law_d (rs : List Rg) (a b : Int) : DC Try.prog 7 [domD rs, iD a, iD b] (bD true) := by
  have S := iSerial_d rs
  have RS := riSerial_d rs
  have A := iAt_d rs a b
  have RA' := riAt_d rs a b
  have hi : ((dIndexesRes rs).1.length ≤ 9223372036854775806 ∧ ∀ o ∈ (dIndexesRes rs).1, o.length ≤ 9223372036854775806) ∧ ((atRes rs a b).1.length ≤ 9223372036854775806 ∧ ∀ o ∈ (atRes rs a b).1, o.length ≤ 9223372036854775806) := by
    unfold dIndexesRes atRes
    split
    · rename_i h
      have h3 := domB_iff.1 h
      refine ⟨⟨by rw [idxs_len]; omega, fun o ho => by rw [idxs_each ho]; omega⟩, ?_⟩
      split
      · refine ⟨?_, fun o ho => by rw [idxs_each (List.mem_of_mem_drop (List.mem_of_mem_take ho))]; omega⟩
        simp only [List.length_take, List.length_drop]
        rw [idxs_len]; omega
      · exact ⟨by simp, fun o ho => by simp at ho⟩
    · exact ⟨⟨by simp, fun o ho => by simp at ho⟩, ⟨by simp, fun o ho => by simp at ho⟩⟩
  have L1 := lists_d _ hi.1.1 hi.1.2
  have L2 := lists_d _ hi.2.1 hi.2.2
  clear hi
  generalize dIndexesRes rs = l at *
  generalize atRes rs a b = m at *
  obtain ⟨l1, l2⟩ := l
  obtain ⟨m1, m2⟩ := m
  dsimp only at S RS A RA' L1 L2
  refine DC.of Try.func7 Try.ntmps7 Try.results7 rfl (by decide +kernel) rfl ?_
  repeat (first | refine Z1 ?_ | refine Z2 ?_ | (refine Z3 ?_; (repeat (first | (apply gS; first | refine go_no ?_ | refine go_f ?_ | refine gm ?_ | refine gp ?_ | refine go_c rfl rfl (S) ?_ | refine go_c rfl rfl (RS) ?_ | refine go_c rfl rfl (A) ?_ | refine go_c rfl rfl (RA') ?_ | refine go_c rfl rfl (L1) ?_ | refine go_c rfl rfl (L2) ?_ | refine go_c rfl rfl (awake8_d) ?_))); refine T_nil ?_) | refine Z4 ?_ | refine Z5 ?_ | refine Z6 ?_ | refine Z7 ?_)
  repeat (first | refine kEnd_m ?_ | refine kEnd_f ?_)
  refine kEnd_g ?_ (by first | exact .inl rfl | exact .inr rfl)
  exact Sub.eq rfl rfl
theorem walk {w : World} (v : Value) (rs : List Rg) (rc : RC (fun b => b < w.heap.size) w (domD rs) v) (a b : Int) : Calls Try.prog 7 #[v, .int .i64 a, .int .i64 b] w fun e w' => e = .returned (.bool true) ∧ Below w.heap.size w w' :=
  DC.law (law_d rs a b) (.cons rc (.cons (RC.int _ _ a) (.cons (RC.int _ _ b) .nil)))
end Go.Proofs.Ytfkojkciobdeoaa.iterSerial
