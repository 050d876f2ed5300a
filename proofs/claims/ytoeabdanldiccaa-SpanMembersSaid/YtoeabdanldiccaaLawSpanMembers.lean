/- The law SpanMembers returns true for every input: the members of a range are the reference's. -/
import Derived.Test.YtoeabdanldiccaaSpanH
namespace Go.Proofs.Ytoeabdanldiccaa.spanMembers
open Go.RowKit
set_option linter.unusedVariables false
theorem walk (a b c : Int) (w : World) :
    Calls Try.prog 3 #[.agg #[.int .i64 a, .int .i64 b, .int .i64 c]] w fun e w' => e = .returned (.bool true) ∧ Below w.heap.size w w' := by
  obtain ⟨r, rfl, rfl, rfl⟩ : ∃ r : Rg, a = r.lo ∧ b = r.hi ∧ c = r.st := ⟨⟨a, b, c⟩, rfl, rfl, rfl⟩
  have he : ((membersRes r).2 == (membersRes r).2) = true := by simp
  go_enter Try.func3, Try.ntmps3
  go_wp2_with fail
  refine (sMembers_calls r _).mono ?_
  rintro e w1 ⟨v1, rfl, i1, t1, _⟩
  have g := box3_facts t1
  go_wp2_with fail
  refine (rMembers_calls r _).mono ?_
  rintro e w2 ⟨v2, rfl, i2, t2, _⟩
  have T := (later_box t1).trans t2
  have j1 := i1.later t2
  clear t1 t2 i1 g
  go_wp2_with fail
  refine (SameInts_calls _ _ _ _ _ j1 i2).mono ?_
  rintro e w3 ⟨rfl, n3, rfl⟩
  have hd : decide ((membersRes r).1 = (membersRes r).1) = true := by simp
  go_wp2_with fail
  refine (First_calls _).mono ?_
  rintro e w4 ⟨rfl, t4⟩
  go_wp2
  go_ret
  exact ⟨rfl, (T.drewN _).trans t4⟩
end Go.Proofs.Ytoeabdanldiccaa.spanMembers
