/- Walks of the functions of package stream and of its reference that make rows of numbers. -/
import Derived.Test.YtpcggfaohgemjaaStreamA
import Derived.Test.YtpcggfaohgemjaaInts
namespace Go.Proofs.Ytpcggfaohgemjaa
open Go.RowKit


/-- a row of numbers of a stream, at a distance -/
def leapTo (seed start by_ : Int) (k : Nat) : List Int := (List.range k).map fun j : Nat => num seed (start + (j : Int) * by_)
theorem leapTo_succ (seed start by_ : Int) (k : Nat) : leapTo seed start by_ (k + 1) = leapTo seed start by_ k ++ [num seed (start + (k : Int) * by_)] := by
  simp [leapTo, List.range_succ]
theorem leapTo_len (seed start by_ : Int) (k : Nat) : (leapTo seed start by_ k).length = k := by simp [leapTo]
theorem leapTo_ok (seed start by_ : Int) (k : Nat) : ∀ x ∈ leapTo seed start by_ k, okI x := by
  intro x hx; simp only [leapTo, List.mem_map] at hx; obtain ⟨j, _, rfl⟩ := hx; exact num_wf _ _
theorem mul_bound {k n : Nat} {b : Int} (hk : k ≤ n) (hn : n ≤ 4096) (h1 : 1 ≤ b) (h2 : b ≤ 4096) : 0 ≤ (k : Int) * b ∧ (k : Int) * b ≤ 16777216 := by
  constructor
  · exact Int.mul_nonneg (by omega) (by omega)
  · have := Int.mul_le_mul (show (k : Int) ≤ 4096 by omega) h2 (by omega) (by omega); omega

def leapOk (start by_ many : Int) : Prop := 0 ≤ start ∧ start ≤ 1099511627776 ∧ 1 ≤ by_ ∧ by_ ≤ 4096 ∧ 0 ≤ many ∧ many ≤ 4096
instance (start by_ many : Int) : Decidable (leapOk start by_ many) := by unfold leapOk; infer_instance
/-- what Leap returns -/
def leapL (seed start by_ many : Int) : List Int := if leapOk start by_ many then leapTo seed start by_ many.toNat else []
def leapE (start by_ many : Int) : Int := if leapOk start by_ many then 0 else 2
theorem leap_ret {seed start by_ many : Int} (h : leapOk start by_ many) {w w' : World} {e : Ending} (hr : RetIE (leapTo seed start by_ many.toNat) 0 w e w') : RetIE (leapL seed start by_ many) (leapE start by_ many) w e w' := by
  rw [leapL, leapE, if_pos h, if_pos h]; exact hr
theorem leap_no {seed start by_ many : Int} (h : ¬ leapOk start by_ many) (w : World) : RetIE (leapL seed start by_ many) (leapE start by_ many) w (.returned (.tuple #[.slice none 0 0, .int .i64 2])) w := by
  rw [leapL, leapE, if_neg h, if_neg h]; exact ⟨_, rfl, ints_nil w, Later.refl w, fresh_nil _⟩

theorem Leap_in (seed start by_ : Int) (many : Nat) (w : World) (h1 : 0 ≤ start) (h2 : start ≤ 1099511627776) (h3 : 1 ≤ by_) (h4 : by_ ≤ 4096) (h5 : many ≤ 4096) :
    Calls Try.prog 18 #[.int .i64 seed, .int .i64 start, .int .i64 by_, .int .i64 many] w (RetIE (leapTo seed start by_ many) 0 w) := by
  have h5' : (many : Int) ≤ 4096 := by omega
  go_enter Try.func18, Try.ntmps18
  go_wp2_with (go_at_call 32; refine (within_t _ _ _ _ ?_ ?_).mono ?_; omega; omega; rintro e w' ⟨rfl, rfl⟩)
  go_loopw [10, 11, 26] (fun v _ i wr => ∃ k : Nat, k ≤ many ∧ i = .int .i64 k ∧ OwnI wr w.heap.size v (leapTo seed start by_ k) ∧ Below w.heap.size w wr) (fun _ _ i _ => many - (intOf i).toNat)
  case atStart => exact ⟨0, Nat.zero_le _, rfl, ownI_nil _ _, Below.refl _ _⟩
  case round =>
    obtain ⟨k, hk, rfl, hown, hb⟩ := hrel
    have hB := hb.size
    have ⟨hm1, hm2⟩ := mul_bound hk h5 h3 h4
    have HO := Lib.hid hown
    clear hown
    by_cases hlt : k < many
    · go_wp2_with (first
        | (go_at_call 33; refine (ith_calls _ _ _).mono ?_; rintro e w' ⟨rfl, rfl⟩)
        | (at_builtin; refine push_int rfl _ _ rfl w.heap.size _ (leapTo seed start by_ k) rfl HO.out _ (leapTo seed start by_ (k + 1)) (leapTo_succ _ _ _ _) rfl ?_ ?_ ?_; (rw [leapTo_len]; omega); omega))
      intro v' w1 hown' hb'
      have hb1 := hb' _ hb
      have HO1 := Lib.hid hown'
      clear hown' hb'
      go_wp2
      go_roundw
      case rel =>
        exact ⟨k + 1, by omega, by go_num, HO1.out, hb1⟩
      case measure => simp [intOf]; omega
    · have hkn : k = many := by omega
      subst hkn
      go_wp2
      go_ret2
      exact ⟨_, rfl, HO.out.ints (leapTo_ok _ _ _ _), hb, HO.out.fresh⟩
theorem refLeap_in (seed start by_ : Int) (many : Nat) (w : World) (h1 : 0 ≤ start) (h2 : start ≤ 1099511627776) (h3 : 1 ≤ by_) (h4 : by_ ≤ 4096) (h5 : many ≤ 4096) :
    Calls Try.prog 19 #[.int .i64 seed, .int .i64 start, .int .i64 by_, .int .i64 many] w (RetIE (leapTo seed start by_ many) 0 w) := by
  have h5' : (many : Int) ≤ 4096 := by omega
  go_enter Try.func19, Try.ntmps19
  go_wp2
  go_loopw [10, 11] (fun v i wr => ∃ k : Nat, k ≤ many ∧ i = .int .i64 k ∧ OwnI wr w.heap.size v (leapTo seed start by_ k) ∧ Below w.heap.size w wr) (fun _ i _ => many - (intOf i).toNat)
  case atStart => exact ⟨0, Nat.zero_le _, rfl, ownI_nil _ _, Below.refl _ _⟩
  case round =>
    obtain ⟨k, hk, rfl, hown, hb⟩ := hrel
    have hB := hb.size
    have ⟨hm1, hm2⟩ := mul_bound hk h5 h3 h4
    have HO := Lib.hid hown
    clear hown
    have hnum := i64_of (numB seed (start + (k : Int) * by_))
    have hnum : IntKind.i64.wrap (U (numB seed (start + (k : Int) * by_))) = num seed (start + (k : Int) * by_) := hnum
    by_cases hlt : k < many
    · go_wp2_with (first
        | (go_at_call 34; refine (number_calls _ _ _).mono ?_; rintro e w' ⟨rfl, rfl⟩)
        | (at_builtin; refine push_int rfl _ _ rfl w.heap.size _ (leapTo seed start by_ k) rfl HO.out _ (leapTo seed start by_ (k + 1)) (leapTo_succ _ _ _ _) rfl ?_ ?_ ?_; (rw [leapTo_len]; omega); omega))
      intro v' w1 hown' hb'
      have hb1 := hb' _ hb
      have HO1 := Lib.hid hown'
      clear hown' hb'
      go_wp2
      go_roundw
      case rel =>
        exact ⟨k + 1, by omega, by go_num, HO1.out, hb1⟩
      case measure => simp [intOf]; omega
    · have hkn : k = many := by omega
      subst hkn
      go_wp2
      go_ret2
      exact ⟨_, rfl, HO.out.ints (leapTo_ok _ _ _ _), hb, HO.out.fresh⟩

theorem Leap_calls (seed start by_ many : Int) (w : World) :
    Calls Try.prog 18 #[.int .i64 seed, .int .i64 start, .int .i64 by_, .int .i64 many] w (RetIE (leapL seed start by_ many) (leapE start by_ many) w) := by
  by_cases h : leapOk start by_ many
  · obtain ⟨h1, h2, h3, h4, h5, h6⟩ := h
    obtain ⟨n, rfl⟩ := Int.eq_ofNat_of_zero_le h5
    exact (Leap_in seed start by_ n w h1 h2 h3 h4 (by omega)).mono fun e w' hr => leap_ret ⟨h1, h2, h3, h4, h5, h6⟩ hr
  · have hn := leap_no (seed := seed) h w
    have Hn := Lib.hid hn
    unfold leapOk at h
    clear hn
    by_cases h1 : 0 ≤ start ∧ start ≤ 1099511627776
    · obtain ⟨h1, h2⟩ := h1
      by_cases h3 : 1 ≤ by_ ∧ by_ ≤ 4096
      · obtain ⟨h3, h4⟩ := h3
        have h5 : many < 0 ∨ 4096 < many := by omega
        clear h
        go_enter Try.func18, Try.ntmps18
        go_wp2_with fail
        refine (within_t _ _ _ _ (by omega) (by omega)).mono ?_
        rintro e w' ⟨rfl, rfl⟩
        go_wp2_with fail
        refine (within_t _ _ _ _ (by omega) (by omega)).mono ?_
        rintro e w' ⟨rfl, rfl⟩
        go_wp2_with fail
        refine (within_f _ _ _ _ (by omega)).mono ?_
        rintro e w' ⟨rfl, rfl⟩
        go_wp2
        go_ret2
        exact Hn.out
      · have h5 : by_ < 1 ∨ 4096 < by_ := by omega
        clear h h3
        go_enter Try.func18, Try.ntmps18
        go_wp2_with fail
        refine (within_t _ _ _ _ (by omega) (by omega)).mono ?_
        rintro e w' ⟨rfl, rfl⟩
        go_wp2_with fail
        refine (within_f _ _ _ _ (by omega)).mono ?_
        rintro e w' ⟨rfl, rfl⟩
        go_wp2
        go_ret2
        exact Hn.out
    · have h5 : start < 0 ∨ 1099511627776 < start := by omega
      clear h h1
      go_enter Try.func18, Try.ntmps18
      go_wp2_with fail
      refine (within_f _ _ _ _ (by omega)).mono ?_
      rintro e w' ⟨rfl, rfl⟩
      go_wp2
      go_ret2
      exact Hn.out
theorem refLeap_calls (seed start by_ many : Int) (w : World) :
    Calls Try.prog 19 #[.int .i64 seed, .int .i64 start, .int .i64 by_, .int .i64 many] w (RetIE (leapL seed start by_ many) (leapE start by_ many) w) := by
  by_cases h : leapOk start by_ many
  · obtain ⟨h1, h2, h3, h4, h5, h6⟩ := h
    obtain ⟨n, rfl⟩ := Int.eq_ofNat_of_zero_le h5
    exact (refLeap_in seed start by_ n w h1 h2 h3 h4 (by omega)).mono fun e w' hr => leap_ret ⟨h1, h2, h3, h4, h5, h6⟩ hr
  · have hn := leap_no (seed := seed) h w
    have Hn := Lib.hid hn
    have h' : start < 0 ∨ 1099511627776 < start ∨ by_ < 1 ∨ 4096 < by_ ∨ many < 0 ∨ 4096 < many := by unfold leapOk at h; omega
    clear hn h
    by_cases h1 : start < 0
    · go_enter Try.func19, Try.ntmps19
      go_wp2
      go_ret2
      exact Hn.out
    by_cases h2 : 1099511627776 < start
    · go_enter Try.func19, Try.ntmps19
      go_wp2
      go_ret2
      exact Hn.out
    by_cases h3 : by_ < 1
    · go_enter Try.func19, Try.ntmps19
      go_wp2
      go_ret2
      exact Hn.out
    by_cases h4 : 4096 < by_
    · go_enter Try.func19, Try.ntmps19
      go_wp2
      go_ret2
      exact Hn.out
    by_cases h5 : many < 0
    · go_enter Try.func19, Try.ntmps19
      go_wp2
      go_ret2
      exact Hn.out
    · have h6 : 4096 < many := by omega
      go_enter Try.func19, Try.ntmps19
      go_wp2
      go_ret2
      exact Hn.out
theorem Take_calls (seed start many : Int) (w : World) :
    Calls Try.prog 16 #[.int .i64 seed, .int .i64 start, .int .i64 many] w (RetIE (leapL seed start 1 many) (leapE start 1 many) w) := by
  go_enter Try.func16, Try.ntmps16
  go_wp2_with fail
  refine (Leap_calls _ _ _ _ _).mono ?_
  rintro e w' ⟨v, rfl, hl, hw, hf⟩
  go_wp2
  go_ret2
  exact ⟨v, rfl, hl, hw, hf⟩
theorem refTake_calls (seed start many : Int) (w : World) :
    Calls Try.prog 17 #[.int .i64 seed, .int .i64 start, .int .i64 many] w (RetIE (leapL seed start 1 many) (leapE start 1 many) w) := by
  go_enter Try.func17, Try.ntmps17
  go_wp2_with fail
  refine (refLeap_calls _ _ _ _ _).mono ?_
  rintro e w' ⟨v, rfl, hl, hw, hf⟩
  go_wp2
  go_ret2
  exact ⟨v, rfl, hl, hw, hf⟩
end Go.Proofs.Ytpcggfaohgemjaa
