/- The law StreamRows returns true for every input: Take and Leap return the reference's rows. -/
import Derived.Test.YtpcggfaohgemjaaStreamB
namespace Go.Proofs.Ytpcggfaohgemjaa.streamRows
open Go.RowKit
set_option linter.unusedVariables false
theorem walk (a b c d : Int) (w : World) :
    Calls Try.prog 4 #[.agg #[.int .i64 a, .int .i64 b, .int .i64 c, .int .i64 d]] w fun e w' => e = .returned (.bool true) ∧ Below w.heap.size w w' := by
  go_enter Try.func4, Try.ntmps4
  go_wp2_with fail
  refine (Take_calls _ _ _ _).mono ?_
  rintro e w1 ⟨v1, rfl, i1, t1⟩
  have b0 := box_later t1 0 _ rfl
  have b1 := box_later t1 1 _ rfl
  have b2 := box_later t1 2 _ rfl
  have b3 := box_later t1 3 _ rfl
  go_wp2_with fail
  refine (refTake_calls _ _ _ _).mono ?_
  rintro e w2 ⟨v2, rfl, i2, t2⟩
  have b0 := t2.cell b0
  have b1 := t2.cell b1
  have b2 := t2.cell b2
  have b3 := t2.cell b3
  go_wp2_with fail
  refine (Leap_calls _ _ _ _ _).mono ?_
  rintro e w3 ⟨v3, rfl, i3, t3⟩
  have b0 := t3.cell b0
  have b1 := t3.cell b1
  have b2 := t3.cell b2
  have b3 := t3.cell b3
  go_wp2_with fail
  refine (refLeap_calls _ _ _ _ _).mono ?_
  rintro e w4 ⟨v4, rfl, i4, t4⟩
  have b0 := t4.cell b0
  have b1 := t4.cell b1
  have b2 := t4.cell b2
  have b3 := t4.cell b3
  have j1 := ((i1.later t2).later t3).later t4
  have j2 := (i2.later t3).later t4
  have j3 := i3.later t4
  have T := (((later_box t1).trans t2).trans t3).trans t4
  clear t1 t2 t3 t4 i1 i2 i3
  go_wp2_with fail
  refine (SameInts_calls _ _ _ _ _ j1 j2).mono ?_
  rintro e w5 ⟨rfl, n5, rfl⟩
  go_wp2_with fail
  refine (SameInts_calls _ _ _ _ _ (j3.later ((Later.refl _).drewN _)) (i4.later ((Later.refl _).drewN _))).mono ?_
  rintro e w6 ⟨rfl, n6, rfl⟩
  go_wp2_with fail
  refine (First_calls _).mono ?_
  rintro e w7 ⟨rfl, rfl⟩
  go_wp2
  go_ret
  exact ⟨by simp, T.drewN _⟩
end Go.Proofs.Ytpcggfaohgemjaa.streamRows
