/- The law StreamBack returns true for every input: the seed of the first numbers of a stream is its seed. -/
import Derived.Test.YtpcggfaohgemjaaStreamD
namespace Go.Proofs.Ytpcggfaohgemjaa.streamBack
open Go.RowKit
set_option linter.unusedVariables false
theorem at_leap0 (a : Int) (n j : Nat) (h : j < n) : at_ (leapTo a 0 1 n) j = num a j := by
  rw [at_eq _ _ (by rw [leapTo_len]; exact h)]; simp [leapTo]
theorem seedOf_back (a : Int) (ha : okI a) (n : Nat) (h : 0 < n) : seedOf (leapTo a 0 1 n) = a := by
  unfold seedOf
  rw [at_leap0 a n 0 h, num, BitVec.ofInt_toInt, numB, StreamMath.unmix_mix]
  have : BitVec.ofInt 64 a + (BitVec.ofInt 64 ((0 : Nat) : Int) + 1#64) * StreamMath.golden - StreamMath.golden = BitVec.ofInt 64 a := by
    rw [show (BitVec.ofInt 64 ((0 : Nat) : Int) + 1#64) = 1#64 from by decide, BitVec.one_mul, BitVec.add_sub_cancel]
  rw [this, toInt_ofInt_ok ha]
theorem begins_back (a : Int) (ha : okI a) (n : Nat) (h : 0 < n) : Begins (leapTo a 0 1 n) (seedOf (leapTo a 0 1 n)) := by
  rw [seedOf_back a ha n h]
  intro j hj
  rw [leapTo_len] at hj
  exact (at_leap0 a n j hj).symm
theorem walk (a : Int) (ha : (Lit.int .i64 a).wf = true) (m : Int) (w : World) :
    Calls Try.prog 8 #[.int .i64 a, .int .i64 m] w fun e w' => e = .returned (.bool true) ∧ Below w.heap.size w w' := by
  have ha := okI_wf ha
  by_cases h1 : 1 ≤ m
  · by_cases h2 : m ≤ 1000
    · have hok : leapOk 0 1 m := ⟨by decide, by decide, by decide, by decide, by omega, by omega⟩
      have hE : (leapE 0 1 m == 0) = true := by rw [leapE, if_pos hok]; rfl
      have hL : leapL a 0 1 m = leapTo a 0 1 m.toNat := by rw [leapL, if_pos hok]
      have hs := seed_yes (by rw [leapTo_len]; omega) (begins_back a ha m.toNat (by omega))
      rw [seedOf_back a ha _ (by omega), ← hL] at hs
      obtain ⟨hs1, hs2⟩ := hs
      have hs2' : (seedE (leapL a 0 1 m) == 0) = true := by rw [hs2]; rfl
      have haa : (a == a) = true := by simp
      clear hok hL hs2 ha
      go_enter Try.func8, Try.ntmps8
      go_wp2_with fail
      refine (Take_calls _ _ _ _).mono ?_
      rintro e w1 ⟨v1, rfl, i1, t1, _⟩
      go_wp2_with fail
      refine (Seed_calls _ _ _ i1).mono ?_
      rintro e w2 ⟨rfl, n2, rfl⟩
      go_wp2_with (go_at_call 13; refine (First_calls _).mono ?_; rintro e w7 ⟨rfl, rfl⟩)
      go_ret
      exact ⟨rfl, t1.drewN _⟩
    · go_enter Try.func8, Try.ntmps8
      go_wp2_with (go_at_call 13; refine (First_calls _).mono ?_; rintro e w7 ⟨rfl, rfl⟩)
      go_ret
      exact ⟨rfl, Below.refl _ _⟩
  · go_enter Try.func8, Try.ntmps8
    go_wp2_with (go_at_call 13; refine (First_calls _).mono ?_; rintro e w7 ⟨rfl, rfl⟩)
    go_ret
    exact ⟨rfl, Below.refl _ _⟩
end Go.Proofs.Ytpcggfaohgemjaa.streamBack
