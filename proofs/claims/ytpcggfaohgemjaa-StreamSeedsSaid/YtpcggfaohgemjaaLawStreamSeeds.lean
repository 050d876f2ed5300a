/- The law StreamSeeds returns true for every input: Unmix, that its mix is the number, and Seed are the reference's. -/
import Derived.Test.YtpcggfaohgemjaaStreamD
namespace Go.Proofs.Ytpcggfaohgemjaa.streamSeeds
open Go.RowKit
set_option linter.unusedVariables false
theorem walk (z : Int) (hz : (Lit.int .i64 z).wf = true) (v : Value) (l : List Int) (w : World) (hl : IntsIn w v l) :
    Calls Try.prog 7 #[.int .i64 z, v] w fun e w' => e = .returned (.bool true) ∧ Below w.heap.size w w' := by
  have hlen := hl.len
  have hm := mix_unmixV (okI_wf hz)
  clear hz
  obtain ⟨n, hn⟩ : ∃ n, n = l.length := ⟨_, rfl⟩
  obtain ⟨ao, cap, b, off, rfl, _, _, _, _⟩ := hl.at n hn.symm
  rw [← hn] at hlen
  have HN := Lib.hid hn
  clear hn
  by_cases h : n ≤ 1000
  · have h' : (n : Int) ≤ 1000 := by omega
    have hzz : (z == z) = true := by simp
    go_enter Try.func7, Try.ntmps7
    go_wp2_with fail
    refine (Unmix_calls _ _).mono ?_
    rintro e w' ⟨rfl, rfl⟩
    go_wp2_with fail
    refine (Seed_calls _ _ _ hl).mono ?_
    rintro e w1 ⟨rfl, n1, rfl⟩
    go_wp2_with fail
    refine (refSeed_calls _ _ _ (hl.later ((Later.refl _).drewN n1))).mono ?_
    rintro e w2 ⟨rfl, n2, rfl⟩
    go_wp2_with fail
    refine (refUnmixI_calls _ _).mono ?_
    rintro e w' ⟨rfl, rfl⟩
    go_wp2_with fail
    refine (Mix_calls _ _).mono ?_
    rintro e w' ⟨rfl, rfl⟩
    go_wp2_with (go_at_call 13; refine (First_calls _).mono ?_; rintro e w7 ⟨rfl, rfl⟩)
    go_ret
    exact ⟨rfl, (Later.refl w).drewN _⟩
  · have h' : 1000 < (n : Int) := by omega
    go_enter Try.func7, Try.ntmps7
    go_wp2_with (go_at_call 13; refine (First_calls _).mono ?_; rintro e w7 ⟨rfl, rfl⟩)
    go_ret
    exact ⟨rfl, Below.refl _ _⟩
end Go.Proofs.Ytpcggfaohgemjaa.streamSeeds
