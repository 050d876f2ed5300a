/- The law StreamSubs returns true for every input: the sub-stream's seed and its numbers are the reference's. -/
import Derived.Test.YtpcggfaohgemjaaStreamA
import Derived.ProofKit
import Derived.OpenShut
namespace Go.Proofs.Ytpcggfaohgemjaa.streamSubs
open Go.ChangeShapes Go.WideShapes Go.ChangeAt Go.RowKit
theorem walk0 (a0 : Int) (a1 : Int) (a2 : Int) (w : World) :
    Calls Try.prog 3 #[.int .i64 a0, .int .i64 a1, .int .i64 a2] w fun e w' => e = .returned (.bool true) ∧ w = w' := by
  by_cases h : 0 ≤ a1 ∧ a1 ≤ 1000000
  · have hs : subE a1 = 0 := if_pos h
    clear h
    go_enter Try.func3, Try.ntmps3
    go_wp2_with (first | (go_at_call 11; refine (Sub_calls _ _ _).mono ?_; rintro e w' ⟨rfl, rfl⟩) | (go_at_call 12; refine (refSub_calls _ _ _).mono ?_; rintro e w' ⟨rfl, rfl⟩) | (go_at_call 14; refine (Ith_calls _ _ _).mono ?_; rintro e w' ⟨rfl, rfl⟩) | (go_at_call 15; refine (refIth_calls _ _ _).mono ?_; rintro e w' ⟨rfl, rfl⟩) | (go_at_call 13; refine (First_calls _).mono ?_; rintro e w' ⟨rfl, rfl⟩))
    go_ret
    exact ⟨rfl, rfl⟩
  · have hs : subE a1 = 2 := if_neg h
    clear h
    go_enter Try.func3, Try.ntmps3
    go_wp2_with (first | (go_at_call 11; refine (Sub_calls _ _ _).mono ?_; rintro e w' ⟨rfl, rfl⟩) | (go_at_call 12; refine (refSub_calls _ _ _).mono ?_; rintro e w' ⟨rfl, rfl⟩) | (go_at_call 13; refine (First_calls _).mono ?_; rintro e w' ⟨rfl, rfl⟩))
    go_ret
    exact ⟨rfl, rfl⟩
theorem walk (a0 : Int) (_ : (Lit.int .i64 a0).wf = true) (a1 : Int) (_ : (Lit.int .i64 a1).wf = true) (a2 : Int) (_ : (Lit.int .i64 a2).wf = true) (w : World) :
    Calls Try.prog 3 #[.int .i64 a0, .int .i64 a1, .int .i64 a2] w fun e w' => e = .returned (.bool true) ∧ Below w.heap.size w w' :=
  (walk0 a0 a1 a2 w).mono fun _ _ ⟨h, hw⟩ => ⟨h, hw ▸ Below.refl _ _⟩
end Go.Proofs.Ytpcggfaohgemjaa.streamSubs
