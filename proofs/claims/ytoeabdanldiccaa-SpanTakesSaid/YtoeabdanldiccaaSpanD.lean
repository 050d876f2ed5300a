/- The walk of the place of a number in a row. -/
import Derived.Test.YtoeabdanldiccaaSpanC
namespace Go.Proofs.Ytoeabdanldiccaa
open Go.RowKit
set_option linter.unusedVariables false
theorem sPlaceRow_calls (x : Rw) (m : Int) (w : World) (hx : x.small) (hs : x.s ≠ 0) (m1 : -1099511627776 ≤ m) (m2 : m ≤ 1099511627776) :
    Calls Try.prog 61 #[.agg #[.int .i64 (x).f, .int .i64 (x).s, .int .i64 (x).n], .int .i64 m] w fun e w' => e = .returned (.tuple #[.int .i64 (placeI x m), .bool (placeB x m)]) ∧ Later w w' := by
  obtain ⟨h1, h2, h3, h4, h5, h6⟩ := hx
  have hb := tdiv_bd (a := m - x.f) (b := x.s) (by omega) (by omega)
  have hq : IntKind.i64.wrap ((m - x.f).tdiv x.s) = (m - x.f).tdiv x.s := IntWalk.i64_in _ (by omega)
  have hs1 : ¬ (x.s = 0) := hs
  have hs2 : (x.s == 0) = false := by simp [hs]
  by_cases h0 : x.n = 0
  · have hn : ¬ isAt x m := fun h => h.1 h0
    have e1 : placeI x m = 0 := if_neg hn
    have e2 : placeB x m = false := by simp [placeB, hn]
    have hn0 : (x.n == 0) = true := by simp [h0]
    rw [e1, e2]
    clear e1 e2 h0 hn
    go_enter Try.func61, Try.ntmps61
    go_wp2
    go_ret2
    exact ⟨rfl, (by repeat (first | exact Later.refl _ | apply Later.drew | apply Later.alloc))⟩
  · have hn0 : (x.n == 0) = false := by simp [h0]
    by_cases hm : (m - x.f).tmod x.s = 0
    · have hn : isAt x m := ⟨h0, hm⟩
      have hm' : ((m - x.f).tmod x.s != 0) = false := by simp [hm]
      have e1 : placeI x m = (m - x.f).tdiv x.s := if_pos hn
      by_cases hw : 0 ≤ (m - x.f).tdiv x.s ∧ (m - x.f).tdiv x.s ≤ x.n - 1
      · have e2 : placeB x m = true := by simp only [placeB, decide_eq_true_eq]; exact ⟨hn, hw⟩
        obtain ⟨w1, w2⟩ := hw
        rw [e1, e2]
        clear e1 e2 h0 hn hm
        go_enter Try.func61, Try.ntmps61
        go_wp2_with fail
        refine (sWithin_t _ _ _ _ (by omega) (by omega)).mono ?_
        rintro e w' ⟨rfl, rfl⟩
        go_wp2
        go_ret2
        exact ⟨rfl, (by repeat (first | exact Later.refl _ | apply Later.drew | apply Later.alloc))⟩
      · have e2 : placeB x m = false := by simp only [placeB, decide_eq_false_iff_not]; exact fun h => hw h.2
        have hw' : (m - x.f).tdiv x.s < 0 ∨ x.n - 1 < (m - x.f).tdiv x.s := by omega
        rw [e1, e2]
        clear e1 e2 h0 hn hm hw
        go_enter Try.func61, Try.ntmps61
        go_wp2_with fail
        refine (sWithin_f _ _ _ _ (by omega)).mono ?_
        rintro e w' ⟨rfl, rfl⟩
        go_wp2
        go_ret2
        exact ⟨rfl, (by repeat (first | exact Later.refl _ | apply Later.drew | apply Later.alloc))⟩
    · have hn : ¬ isAt x m := fun h => hm h.2
      have hm' : ((m - x.f).tmod x.s != 0) = true := by simp [hm]
      have e1 : placeI x m = 0 := if_neg hn
      have e2 : placeB x m = false := by simp [placeB, hn]
      rw [e1, e2]
      clear e1 e2 h0 hn hm
      go_enter Try.func61, Try.ntmps61
      go_wp2
      go_ret2
      exact ⟨rfl, (by repeat (first | exact Later.refl _ | apply Later.drew | apply Later.alloc))⟩
end Go.Proofs.Ytoeabdanldiccaa
