/- Walks of the functions of package stream and of its reference that make rows of numbers. -/
import Derived.Test.YtpcggfaohgemjaaStreamA
import Derived.Test.YtpcggfaohgemjaaInts
namespace Go.Proofs.Ytpcggfaohgemjaa
open Go.RowKit

theorem info_int : (Try.prog.info? 3).map (fun i => (i.zero, i.size, i.bytes)) = some (some (.int .i64 0), 1, 8) := by kernel_rfl

/-- a row of numbers of a stream, at a distance -/
def leapTo (seed start by_ : Int) (k : Nat) : List Int := (List.range k).map fun j : Nat => num seed (start + (j : Int) * by_)
theorem leapTo_succ (seed start by_ : Int) (k : Nat) : leapTo seed start by_ (k + 1) = leapTo seed start by_ k ++ [num seed (start + (k : Int) * by_)] := by
  simp [leapTo, List.range_succ]
theorem leapTo_len (seed start by_ : Int) (k : Nat) : (leapTo seed start by_ k).length = k := by simp [leapTo]
theorem leapTo_ok (seed start by_ : Int) (k : Nat) : ∀ x ∈ leapTo seed start by_ k, okI x := by
  intro x hx; simp only [leapTo, List.mem_map] at hx; obtain ⟨j, _, rfl⟩ := hx; exact num_wf _ _
theorem mul_bound {k n : Nat} {b : Int} (hk : k ≤ n) (hn : n ≤ 4096) (h1 : 1 ≤ b) (h2 : b ≤ 4096) : 0 ≤ (k : Int) * b ∧ (k : Int) * b ≤ 16777216 := by
  constructor
  · exact Int.mul_nonneg (by omega) (by omega)
  · have := Int.mul_le_mul (show (k : Int) ≤ 4096 by omega) h2 (by omega) (by omega); omega

def leapOk (start by_ many : Int) : Prop := 0 ≤ start ∧ start ≤ 1099511627776 ∧ 1 ≤ by_ ∧ by_ ≤ 4096 ∧ 0 ≤ many ∧ many ≤ 4096
instance (start by_ many : Int) : Decidable (leapOk start by_ many) := by unfold leapOk; infer_instance
/-- what Leap returns -/
def leapL (seed start by_ many : Int) : List Int := if leapOk start by_ many then leapTo seed start by_ many.toNat else []
def leapE (start by_ many : Int) : Int := if leapOk start by_ many then 0 else 2
theorem leap_ret {seed start by_ many : Int} (h : leapOk start by_ many) {w w' : World} {e : Ending} (hr : RetIE (leapTo seed start by_ many.toNat) 0 w e w') : RetIE (leapL seed start by_ many) (leapE start by_ many) w e w' := by
  rw [leapL, leapE, if_pos h, if_pos h]; exact hr
theorem leap_no {seed start by_ many : Int} (h : ¬ leapOk start by_ many) (w : World) : RetIE (leapL seed start by_ many) (leapE start by_ many) w (.returned (.tuple #[.slice none 0 0, .int .i64 2])) w := by
  rw [leapL, leapE, if_neg h, if_neg h]; exact ⟨_, rfl, ints_nil w, Later.refl w⟩

theorem Leap_in (seed start by_ : Int) (many : Nat) (w : World) (h1 : 0 ≤ start) (h2 : start ≤ 1099511627776) (h3 : 1 ≤ by_) (h4 : by_ ≤ 4096) (h5 : many ≤ 4096) :
    Calls Try.prog 18 #[.int .i64 seed, .int .i64 start, .int .i64 by_, .int .i64 many] w (RetIE (leapTo seed start by_ many) 0 w) := by
  obtain ⟨i0, hi, hz0, hz1, hz2⟩ := info_parts info_int
  have h5' : (many : Int) ≤ 4096 := by omega
  go_enter Try.func18, Try.ntmps18
  go_wp2_with (go_at_call 32; refine (within_t _ _ _ _ ?_ ?_).mono ?_; omega; omega; rintro e w' ⟨rfl, rfl⟩)
  go_loopw [10, 11, 26] (fun v _ i wr => ∃ k : Nat, k ≤ many ∧ i = .int .i64 k ∧ wr.ownsRow w.heap.size 3 1 v k ((leapTo seed start by_ k).map (Value.int .i64)) ∧ Below w.heap.size w wr) (fun _ _ i _ => many - (intOf i).toNat)
  case atStart => exact ⟨0, Nat.zero_le _, rfl, World.ownsRow_nil _ _ _ _, Below.refl _ _⟩
  case round =>
    obtain ⟨k, hk, rfl, hown, hb⟩ := hrel
    have hB := hb.size
    have ⟨hm1, hm2⟩ := mul_bound hk h5 h3 h4
    have HO := Lib.hid hown
    clear hown
    by_cases hlt : k < many
    · go_wp2_with (first
        | (go_at_call 33; refine (ith_calls _ _ _).mono ?_; rintro e w' ⟨rfl, rfl⟩)
        | (at_builtin; refine wpList_append_own _ rfl _ _ 29 rfl w.heap.size 3 i0 (.int .i64 0) 1 8 Try.underlying29 hi hz0 hz1 hz2 rfl (by decide) _ _ _ rfl (HO.out.alloc _) ⟨wr.heap.size, 0, none⟩ 1 1 [.int .i64 (num seed (start + (k : Int) * by_))] rfl rfl ?c1 ?c2 ?c3 ?c4 ?c5 ?_))
      case c1 => exact cell_one_new _ _ _
      case c2 => intro u hu; simp at hu; subst hu; rfl
      case c3 => unfold maxLen; omega
      case c4 => omega
      case c5 => simp; omega
      intro v' w1 hown' hgrow _
      have hb1 := below_push hb hB HO.out hgrow
      have hs : (leapTo seed start by_ k).map (Value.int .i64) ++ [Value.int .i64 (num seed (start + (k : Int) * by_))] = (leapTo seed start by_ (k + 1)).map (Value.int .i64) := by rw [leapTo_succ]; simp
      rw [hs] at hown'
      have HO1 := Lib.hid hown'
      clear hown' hgrow hs
      go_wp2
      go_roundw
      case rel =>
        exact ⟨k + 1, by omega, by go_num, HO1.out, hb1⟩
      case measure => simp [intOf]; omega
    · have hkn : k = many := by omega
      subst hkn
      go_wp2
      go_ret2
      exact ⟨_, rfl, ints_own HO.out (leapTo_ok _ _ _ _), hb⟩
theorem refLeap_in (seed start by_ : Int) (many : Nat) (w : World) (h1 : 0 ≤ start) (h2 : start ≤ 1099511627776) (h3 : 1 ≤ by_) (h4 : by_ ≤ 4096) (h5 : many ≤ 4096) :
    Calls Try.prog 19 #[.int .i64 seed, .int .i64 start, .int .i64 by_, .int .i64 many] w (RetIE (leapTo seed start by_ many) 0 w) := by
  obtain ⟨i0, hi, hz0, hz1, hz2⟩ := info_parts info_int
  have h5' : (many : Int) ≤ 4096 := by omega
  go_enter Try.func19, Try.ntmps19
  go_wp2
  go_loopw [10, 11] (fun v i wr => ∃ k : Nat, k ≤ many ∧ i = .int .i64 k ∧ wr.ownsRow w.heap.size 3 1 v k ((leapTo seed start by_ k).map (Value.int .i64)) ∧ Below w.heap.size w wr) (fun _ i _ => many - (intOf i).toNat)
  case atStart => exact ⟨0, Nat.zero_le _, rfl, World.ownsRow_nil _ _ _ _, Below.refl _ _⟩
  case round =>
    obtain ⟨k, hk, rfl, hown, hb⟩ := hrel
    have hB := hb.size
    have ⟨hm1, hm2⟩ := mul_bound hk h5 h3 h4
    have HO := Lib.hid hown
    clear hown
    have hnum := i64_of (numB seed (start + (k : Int) * by_))
    have hnum : IntKind.i64.wrap (U (numB seed (start + (k : Int) * by_))) = num seed (start + (k : Int) * by_) := hnum
    by_cases hlt : k < many
    · go_wp2_with (first
        | (go_at_call 34; refine (number_calls _ _ _).mono ?_; rintro e w' ⟨rfl, rfl⟩)
        | (at_builtin; refine wpList_append_own _ rfl _ _ 29 rfl w.heap.size 3 i0 (.int .i64 0) 1 8 Try.underlying29 hi hz0 hz1 hz2 rfl (by decide) _ _ _ rfl (HO.out.alloc _) ⟨wr.heap.size, 0, none⟩ 1 1 [.int .i64 (num seed (start + (k : Int) * by_))] rfl rfl ?c1 ?c2 ?c3 ?c4 ?c5 ?_))
      case c1 => exact cell_one_new _ _ _
      case c2 => intro u hu; simp at hu; subst hu; rfl
      case c3 => unfold maxLen; omega
      case c4 => omega
      case c5 => simp; omega
      intro v' w1 hown' hgrow _
      have hb1 := below_push hb hB HO.out hgrow
      have hs : (leapTo seed start by_ k).map (Value.int .i64) ++ [Value.int .i64 (num seed (start + (k : Int) * by_))] = (leapTo seed start by_ (k + 1)).map (Value.int .i64) := by rw [leapTo_succ]; simp
      rw [hs] at hown'
      have HO1 := Lib.hid hown'
      clear hown' hgrow hs
      go_wp2
      go_roundw
      case rel =>
        exact ⟨k + 1, by omega, by go_num, HO1.out, hb1⟩
      case measure => simp [intOf]; omega
    · have hkn : k = many := by omega
      subst hkn
      go_wp2
      go_ret2
      exact ⟨_, rfl, ints_own HO.out (leapTo_ok _ _ _ _), hb⟩

theorem Leap_calls (seed start by_ many : Int) (w : World) :
    Calls Try.prog 18 #[.int .i64 seed, .int .i64 start, .int .i64 by_, .int .i64 many] w (RetIE (leapL seed start by_ many) (leapE start by_ many) w) := by
  by_cases h : leapOk start by_ many
  · obtain ⟨h1, h2, h3, h4, h5, h6⟩ := h
    obtain ⟨n, rfl⟩ := Int.eq_ofNat_of_zero_le h5
    exact (Leap_in seed start by_ n w h1 h2 h3 h4 (by omega)).mono fun e w' hr => leap_ret ⟨h1, h2, h3, h4, h5, h6⟩ hr
  · have hn := leap_no (seed := seed) h w
    have Hn := Lib.hid hn
    unfold leapOk at h
    clear hn
    by_cases h1 : 0 ≤ start ∧ start ≤ 1099511627776
    · obtain ⟨h1, h2⟩ := h1
      by_cases h3 : 1 ≤ by_ ∧ by_ ≤ 4096
      · obtain ⟨h3, h4⟩ := h3
        have h5 : many < 0 ∨ 4096 < many := by omega
        clear h
        go_enter Try.func18, Try.ntmps18
        go_wp2_with fail
        refine (within_t _ _ _ _ (by omega) (by omega)).mono ?_
        rintro e w' ⟨rfl, rfl⟩
        go_wp2_with fail
        refine (within_t _ _ _ _ (by omega) (by omega)).mono ?_
        rintro e w' ⟨rfl, rfl⟩
        go_wp2_with fail
        refine (within_f _ _ _ _ (by omega)).mono ?_
        rintro e w' ⟨rfl, rfl⟩
        go_wp2
        go_ret2
        exact Hn.out
      · have h5 : by_ < 1 ∨ 4096 < by_ := by omega
        clear h h3
        go_enter Try.func18, Try.ntmps18
        go_wp2_with fail
        refine (within_t _ _ _ _ (by omega) (by omega)).mono ?_
        rintro e w' ⟨rfl, rfl⟩
        go_wp2_with fail
        refine (within_f _ _ _ _ (by omega)).mono ?_
        rintro e w' ⟨rfl, rfl⟩
        go_wp2
        go_ret2
        exact Hn.out
    · have h5 : start < 0 ∨ 1099511627776 < start := by omega
      clear h h1
      go_enter Try.func18, Try.ntmps18
      go_wp2_with fail
      refine (within_f _ _ _ _ (by omega)).mono ?_
      rintro e w' ⟨rfl, rfl⟩
      go_wp2
      go_ret2
      exact Hn.out
theorem refLeap_calls (seed start by_ many : Int) (w : World) :
    Calls Try.prog 19 #[.int .i64 seed, .int .i64 start, .int .i64 by_, .int .i64 many] w (RetIE (leapL seed start by_ many) (leapE start by_ many) w) := by
  by_cases h : leapOk start by_ many
  · obtain ⟨h1, h2, h3, h4, h5, h6⟩ := h
    obtain ⟨n, rfl⟩ := Int.eq_ofNat_of_zero_le h5
    exact (refLeap_in seed start by_ n w h1 h2 h3 h4 (by omega)).mono fun e w' hr => leap_ret ⟨h1, h2, h3, h4, h5, h6⟩ hr
  · have hn := leap_no (seed := seed) h w
    have Hn := Lib.hid hn
    have h' : start < 0 ∨ 1099511627776 < start ∨ by_ < 1 ∨ 4096 < by_ ∨ many < 0 ∨ 4096 < many := by unfold leapOk at h; omega
    clear hn h
    by_cases h1 : start < 0
    · go_enter Try.func19, Try.ntmps19
      go_wp2
      go_ret2
      exact Hn.out
    by_cases h2 : 1099511627776 < start
    · go_enter Try.func19, Try.ntmps19
      go_wp2
      go_ret2
      exact Hn.out
    by_cases h3 : by_ < 1
    · go_enter Try.func19, Try.ntmps19
      go_wp2
      go_ret2
      exact Hn.out
    by_cases h4 : 4096 < by_
    · go_enter Try.func19, Try.ntmps19
      go_wp2
      go_ret2
      exact Hn.out
    by_cases h5 : many < 0
    · go_enter Try.func19, Try.ntmps19
      go_wp2
      go_ret2
      exact Hn.out
    · have h6 : 4096 < many := by omega
      go_enter Try.func19, Try.ntmps19
      go_wp2
      go_ret2
      exact Hn.out
theorem Take_calls (seed start many : Int) (w : World) :
    Calls Try.prog 16 #[.int .i64 seed, .int .i64 start, .int .i64 many] w (RetIE (leapL seed start 1 many) (leapE start 1 many) w) := by
  go_enter Try.func16, Try.ntmps16
  go_wp2_with fail
  refine (Leap_calls _ _ _ _ _).mono ?_
  rintro e w' ⟨v, rfl, hl, hw⟩
  go_wp2
  go_ret2
  exact ⟨v, rfl, hl, hw⟩
theorem refTake_calls (seed start many : Int) (w : World) :
    Calls Try.prog 17 #[.int .i64 seed, .int .i64 start, .int .i64 many] w (RetIE (leapL seed start 1 many) (leapE start 1 many) w) := by
  go_enter Try.func17, Try.ntmps17
  go_wp2_with fail
  refine (refLeap_calls _ _ _ _ _).mono ?_
  rintro e w' ⟨v, rfl, hl, hw⟩
  go_wp2
  go_ret2
  exact ⟨v, rfl, hl, hw⟩
end Go.Proofs.Ytpcggfaohgemjaa
