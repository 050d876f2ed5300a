/- Walks of the small functions of package span. -/
import Derived.Test.YtoeabdanldiccaaRows
import Derived.Test.YtoeabdanldiccaaInts
import Derived.Test.YtoeabdanldiccaaSpanMath
import Derived.Deep.RegionHeld3
namespace Go.Proofs.Ytoeabdanldiccaa
open Go.RowKit
set_option linter.unusedVariables false
theorem ret_int {k : IntKind} {a b : Int} (h : a = b) : Ending.returned (.int k a) = .returned (.int k b) := by rw [h]
theorem ret_int2 {k l : IntKind} {a b c d : Int} (h : a = b) (h' : c = d) : Ending.returned (.tuple #[.int k a, .int l c]) = .returned (.tuple #[.int k b, .int l d]) := by rw [h, h']
theorem sabs_calls (n : Int) (w : World) (h : -1048576 ≤ n) (h' : n ≤ 1048576) :
    Calls Try.prog 63 #[.int .i64 n] w fun e w' => e = .returned (.int .i64 (absI n)) ∧ w = w' := by
  by_cases hn : n < 0
  · rw [absI_neg hn]
    go_enter Try.func63, Try.ntmps63
    go_wp2
    go_ret
    exact ⟨rfl, rfl⟩
  · rw [absI_pos (by omega)]
    go_enter Try.func63, Try.ntmps63
    go_wp2
    go_ret
    exact ⟨rfl, rfl⟩
theorem sWithin_t (n lo hi : Int) (w : World) (h1 : lo ≤ n) (h2 : n ≤ hi) :
    Calls Try.prog 57 #[.int .i64 n, .int .i64 lo, .int .i64 hi] w fun e w' => e = .returned (.bool true) ∧ w = w' := by
  go_enter Try.func57, Try.ntmps57
  go_wp2
  go_ret
  exact ⟨rfl, rfl⟩
theorem sWithin_f (n lo hi : Int) (w : World) (h : n < lo ∨ hi < n) :
    Calls Try.prog 57 #[.int .i64 n, .int .i64 lo, .int .i64 hi] w fun e w' => e = .returned (.bool false) ∧ w = w' := by
  by_cases h1 : n < lo
  · go_enter Try.func57, Try.ntmps57
    go_wp2
    go_ret
    exact ⟨rfl, rfl⟩
  · have h2 : hi < n := by omega
    have h3 : decide (n ≤ hi) = false := by simp; omega
    clear h
    go_enter Try.func57, Try.ntmps57
    go_wp2
    go_ret
    exact ⟨by first | rfl | (rw [← h3]; rfl), rfl⟩
theorem sNear_t (n : Int) (w : World) (h1 : -1000000 ≤ n) (h2 : n ≤ 1000000) :
    Calls Try.prog 53 #[.int .i64 n] w fun e w' => e = .returned (.bool true) ∧ w = w' := by
  go_enter Try.func53, Try.ntmps53
  go_wp2_with fail
  refine (sWithin_t _ _ _ _ (by omega) (by omega)).mono ?_
  rintro e w' ⟨rfl, rfl⟩
  go_wp2
  go_ret
  exact ⟨rfl, rfl⟩
theorem sNear_f (n : Int) (w : World) (h : n < -1000000 ∨ 1000000 < n) :
    Calls Try.prog 53 #[.int .i64 n] w fun e w' => e = .returned (.bool false) ∧ w = w' := by
  go_enter Try.func53, Try.ntmps53
  go_wp2_with fail
  refine (sWithin_f _ _ _ _ (by omega)).mono ?_
  rintro e w' ⟨rfl, rfl⟩
  go_wp2
  go_ret
  exact ⟨rfl, rfl⟩
theorem sValid_calls (r : Rg) (w : World) :
    Calls Try.prog 28 #[.agg #[.int .i64 (r).lo, .int .i64 (r).hi, .int .i64 (r).st]] w fun e w' => e = .returned (.bool (vB r)) ∧ Later w w' := by
  have done : ∀ o, Later w (w.alloc o) := fun o => (Later.refl w).alloc o
  have Done := Lib.hid done
  clear done
  by_cases h : r.ok
  · rw [vB_true h]
    obtain ⟨h1, h2, h3, h4, h5, h6, h7⟩ := h
    have h7' : (r.st != 0) = true := by simp [h7]
    clear h7
    go_enter Try.func28, Try.ntmps28
    go_wp2_with (go_at_call 57; refine (sWithin_t _ _ _ _ ?_ ?_).mono ?_; omega; omega; rintro e w' ⟨rfl, rfl⟩)
    go_ret
    exact ⟨rfl, Done.out _⟩
  · rw [vB_false h]
    by_cases h1 : -1000000 ≤ r.lo ∧ r.lo ≤ 1000000
    · obtain ⟨h1, h2⟩ := h1
      by_cases h3 : -1000000 ≤ r.hi ∧ r.hi ≤ 1000000
      · obtain ⟨h3, h4⟩ := h3
        by_cases h5 : -1000 ≤ r.st ∧ r.st ≤ 1000
        · obtain ⟨h5, h6⟩ := h5
          have h7 : r.st = 0 := by
            apply Classical.byContradiction; intro h7; exact h ⟨h1, h2, h3, h4, h5, h6, h7⟩
          have h7' : (r.st != 0) = false := by simp [h7]
          clear h h7
          go_enter Try.func28, Try.ntmps28
          go_wp2_with (go_at_call 57; refine (sWithin_t _ _ _ _ ?_ ?_).mono ?_; omega; omega; rintro e w' ⟨rfl, rfl⟩)
          go_ret
          exact ⟨rfl, Done.out _⟩
        · have h5' : r.st < -1000 ∨ 1000 < r.st := by omega
          clear h h5
          go_enter Try.func28, Try.ntmps28
          go_wp2_with fail
          refine (sWithin_t _ _ _ _ (by omega) (by omega)).mono ?_
          rintro e w' ⟨rfl, rfl⟩
          go_wp2_with fail
          refine (sWithin_t _ _ _ _ (by omega) (by omega)).mono ?_
          rintro e w' ⟨rfl, rfl⟩
          go_wp2_with fail
          refine (sWithin_f _ _ _ _ (by omega)).mono ?_
          rintro e w' ⟨rfl, rfl⟩
          go_wp2
          go_ret
          exact ⟨rfl, Done.out _⟩
      · have h5' : r.hi < -1000000 ∨ 1000000 < r.hi := by omega
        clear h h3
        go_enter Try.func28, Try.ntmps28
        go_wp2_with fail
        refine (sWithin_t _ _ _ _ (by omega) (by omega)).mono ?_
        rintro e w' ⟨rfl, rfl⟩
        go_wp2_with fail
        refine (sWithin_f _ _ _ _ (by omega)).mono ?_
        rintro e w' ⟨rfl, rfl⟩
        go_wp2
        go_ret
        exact ⟨rfl, Done.out _⟩
    · have h5' : r.lo < -1000000 ∨ 1000000 < r.lo := by omega
      clear h h1
      go_enter Try.func28, Try.ntmps28
      go_wp2_with fail
      refine (sWithin_f _ _ _ _ (by omega)).mono ?_
      rintro e w' ⟨rfl, rfl⟩
      go_wp2
      go_ret
      exact ⟨rfl, Done.out _⟩
theorem rowOf_calls (r : Rg) (w : World) (hr : r.ok) :
    Calls Try.prog 49 #[.agg #[.int .i64 (r).lo, .int .i64 (r).hi, .int .i64 (r).st]] w fun e w' => e = .returned (.agg #[.int .i64 (rowOf r).f, .int .i64 (rowOf r).s, .int .i64 (rowOf r).n]) ∧ Later w w' := by
  have hq := quo_bd hr
  obtain ⟨h1, h2, h3, h4, h5, h6, h9⟩ := hr
  have es : (rowOf r).s = r.st := rfl
  obtain ⟨ha1, ha2⟩ := absI_bd h5 h6 h9
  have ha3 : ¬ (absI r.st = 0) := by omega
  by_cases hs : 0 < r.st
  · have ef := rowOf_f0 hs
    by_cases h8 : r.lo ≤ r.hi
    · have en := rowOf_n1 h8
      obtain ⟨q1, q2⟩ := hq h8
      clear hq
      go_enter Try.func49, Try.ntmps49
      go_wp2
      go_region_held3 (fun w' => w'.cell? ⟨w.heap.size, 0, none⟩ = some (.int .i64 r.lo) ∧ w'.cell? ⟨w.heap.size, 1, none⟩ = some (.int .i64 r.hi) ∧ w'.cell? ⟨w.heap.size, 2, none⟩ = some (.int .i64 r.st)) (go_keep)
        (first | (go_at_call 63; refine (sabs_calls _ _ ?_ ?_).mono ?_; omega; omega; rintro e w' ⟨rfl, rfl⟩))
      go_wp2
      exact bodyPost_ret (v := .agg #[.int .i64 (rowOf r).f, .int .i64 (rowOf r).s, .int .i64 (rowOf r).n]) (by simp [results, Try.results49, go_sem, ef, es, en]) rfl ⟨(by first | rfl | rw [ef, es, en]), (by repeat (first | exact Later.refl _ | apply Later.drew | apply Later.alloc))⟩
    · have en := rowOf_n0 (r := r) (by omega)
      clear hq
      go_enter Try.func49, Try.ntmps49
      go_wp2
      exact bodyPost_ret (v := .agg #[.int .i64 (rowOf r).f, .int .i64 (rowOf r).s, .int .i64 (rowOf r).n]) (by simp [results, Try.results49, go_sem, ef, es, en]) rfl ⟨(by first | rfl | rw [ef, es, en]), (by repeat (first | exact Later.refl _ | apply Later.drew | apply Later.alloc))⟩
  · have hs' : r.st < 0 := by omega
    have ef := rowOf_f1 hs'
    by_cases h8 : r.lo ≤ r.hi
    · have en := rowOf_n1 h8
      obtain ⟨q1, q2⟩ := hq h8
      clear hq
      go_enter Try.func49, Try.ntmps49
      go_wp2
      go_region_held3 (fun w' => w'.cell? ⟨w.heap.size, 0, none⟩ = some (.int .i64 r.lo) ∧ w'.cell? ⟨w.heap.size, 1, none⟩ = some (.int .i64 r.hi) ∧ w'.cell? ⟨w.heap.size, 2, none⟩ = some (.int .i64 r.st)) (go_keep)
        (first | (go_at_call 63; refine (sabs_calls _ _ ?_ ?_).mono ?_; omega; omega; rintro e w' ⟨rfl, rfl⟩))
      go_wp2
      exact bodyPost_ret (v := .agg #[.int .i64 (rowOf r).f, .int .i64 (rowOf r).s, .int .i64 (rowOf r).n]) (by simp [results, Try.results49, go_sem, ef, es, en]) rfl ⟨(by first | rfl | rw [ef, es, en]), (by repeat (first | exact Later.refl _ | apply Later.drew | apply Later.alloc))⟩
    · have en := rowOf_n0 (r := r) (by omega)
      clear hq
      go_enter Try.func49, Try.ntmps49
      go_wp2
      exact bodyPost_ret (v := .agg #[.int .i64 (rowOf r).f, .int .i64 (rowOf r).s, .int .i64 (rowOf r).n]) (by simp [results, Try.results49, go_sem, ef, es, en]) rfl ⟨(by first | rfl | rw [ef, es, en]), (by repeat (first | exact Later.refl _ | apply Later.drew | apply Later.alloc))⟩

theorem sAt_calls (x : Rw) (i : Int) (w : World) (h1 : -9000000000000 ≤ i * x.s) (h2 : i * x.s ≤ 9000000000000) (h3 : -1099511627776 ≤ x.f) (h4 : x.f ≤ 1099511627776) :
    Calls Try.prog 50 #[.agg #[.int .i64 (x).f, .int .i64 (x).s, .int .i64 (x).n], .int .i64 i] w fun e w' => e = .returned (.int .i64 (atOf x i)) ∧ Later w w' := by
  go_enter Try.func50, Try.ntmps50
  go_wp2
  go_ret
  exact ⟨rfl, (Later.refl w).alloc _⟩
theorem sLast_calls (x : Rw) (w : World) (hx : x.small) :
    Calls Try.prog 69 #[.agg #[.int .i64 (x).f, .int .i64 (x).s, .int .i64 (x).n]] w fun e w' => e = .returned (.int .i64 (lastOf x)) ∧ Later w w' := by
  obtain ⟨h1, h2, h3, h4, h5, h6⟩ := hx
  have hp := prod_small (a := x.n - 1) (b := x.s) (by omega) (by omega) h3 h4
  go_enter Try.func69, Try.ntmps69
  go_wp2_with fail
  refine (sAt_calls x (x.n - 1) _ (by omega) (by omega) h1 h2).mono ?_
  rintro e w' ⟨rfl, t⟩
  go_wp2
  go_ret
  exact ⟨rfl, later_box t⟩
end Go.Proofs.Ytoeabdanldiccaa
