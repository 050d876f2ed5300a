/- The law StreamPerms returns true for every input: Perm and Choose return the reference's orders. -/
import Derived.Test.YtpcggfaohgemjaaStreamC
namespace Go.Proofs.Ytpcggfaohgemjaa.streamPerms
open Go.RowKit
set_option linter.unusedVariables false
theorem main (a n k : Int) (w : World) (h : n ≤ 1000 ∨ 4096 < n) :
    Calls Try.prog 9 #[.int .i64 a, .int .i64 n, .int .i64 k] w fun e w' => e = .returned (.bool true) ∧ Below w.heap.size w w' := by
  rcases h with h | h
  all_goals
    go_enter Try.func9, Try.ntmps9
    go_wp2_with fail
    refine (Perm_calls _ _ _).mono ?_
    rintro e w1 ⟨v1, rfl, i1, t1, _⟩
    go_wp2_with fail
    refine (refPerm_calls _ _ _).mono ?_
    rintro e w2 ⟨v2, rfl, i2, t2, _⟩
    go_wp2_with fail
    refine (Choose_calls _ _ _ _).mono ?_
    rintro e w3 ⟨v3, rfl, i3, t3, _⟩
    go_wp2_with fail
    refine (refChoose_calls _ _ _ _).mono ?_
    rintro e w4 ⟨v4, rfl, i4, t4, _⟩
    have j1 := ((i1.later t2).later t3).later t4
    have j2 := (i2.later t3).later t4
    have j3 := i3.later t4
    have T := ((t1.trans t2).trans t3).trans t4
    clear t1 t2 t3 t4 i1 i2 i3
    go_wp2_with fail
    refine (SameInts_calls _ _ _ _ _ j1 j2).mono ?_
    rintro e w5 ⟨rfl, n5, rfl⟩
    go_wp2_with fail
    refine (SameInts_calls _ _ _ _ _ (j3.later ((Later.refl _).drewN _)) (i4.later ((Later.refl _).drewN _))).mono ?_
    rintro e w6 ⟨rfl, n6, rfl⟩
    go_wp2_with fail
    refine (First_calls _).mono ?_
    rintro e w7 ⟨rfl, rfl⟩
    go_wp2
    go_ret
    exact ⟨by simp, T.drewN _⟩
theorem walk (a n k : Int) (w : World) :
    Calls Try.prog 9 #[.int .i64 a, .int .i64 n, .int .i64 k] w fun e w' => e = .returned (.bool true) ∧ Below w.heap.size w w' := by
  by_cases h : n ≤ 1000 ∨ 4096 < n
  · exact main a n k w h
  · have h1 : 1000 < n := by omega
    have h2 : n ≤ 4096 := by omega
    clear h
    go_enter Try.func9, Try.ntmps9
    go_wp2_with (go_at_call 13; refine (First_calls _).mono ?_; rintro e w7 ⟨rfl, rfl⟩)
    go_ret
    exact ⟨rfl, Below.refl _ _⟩
end Go.Proofs.Ytpcggfaohgemjaa.streamPerms
