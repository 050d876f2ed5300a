/- Walks of the reference's small functions on ranges and rows. -/
import Derived.Test.YtoeabdanldiccaaSpanB
namespace Go.Proofs.Ytoeabdanldiccaa
open Go.RowKit
set_option linter.unusedVariables false
theorem rWithin_t (n : Int) (w : World) (h1 : -1000000 ≤ n) (h2 : n ≤ 1000000) :
    Calls Try.prog 55 #[.int .i64 n] w fun e w' => e = .returned (.bool true) ∧ w = w' := by
  go_enter Try.func55, Try.ntmps55
  go_wp2
  go_ret
  exact ⟨rfl, rfl⟩
theorem rWithin_f (n : Int) (w : World) (h : n < -1000000 ∨ 1000000 < n) :
    Calls Try.prog 55 #[.int .i64 n] w fun e w' => e = .returned (.bool false) ∧ w = w' := by
  by_cases h1 : n < -1000000
  · go_enter Try.func55, Try.ntmps55
    go_wp2
    go_ret
    exact ⟨rfl, rfl⟩
  · have h2 : 1000000 < n := by omega
    have h3 : decide (n ≤ 1000000) = false := by simp; omega
    clear h
    go_enter Try.func55, Try.ntmps55
    go_wp2
    go_ret
    exact ⟨by first | rfl | (rw [← h3]; rfl), rfl⟩
theorem rValid_calls (r : Rg) (w : World) :
    Calls Try.prog 29 #[.agg #[.int .i64 (r).lo, .int .i64 (r).hi, .int .i64 (r).st]] w fun e w' => e = .returned (.bool (vB r)) ∧ Later w w' := by
  by_cases h : r.ok
  · rw [vB_true h]
    obtain ⟨h1, h2, h3, h4, h5, h6, h7⟩ := h
    have h7' : (r.st != 0) = true := by simp [h7]
    clear h7
    go_enter Try.func29, Try.ntmps29
    go_wp2_with (go_at_call 55; refine (rWithin_t _ _ ?_ ?_).mono ?_; omega; omega; rintro e w' ⟨rfl, rfl⟩)
    go_ret
    exact ⟨rfl, (Later.refl _).alloc _⟩
  · rw [vB_false h]
    by_cases h1 : -1000000 ≤ r.lo ∧ r.lo ≤ 1000000
    · obtain ⟨h1, h2⟩ := h1
      by_cases h3 : -1000000 ≤ r.hi ∧ r.hi ≤ 1000000
      · obtain ⟨h3, h4⟩ := h3
        by_cases h7 : r.st = 0
        · have h7' : (r.st != 0) = false := by simp [h7]
          clear h h7
          go_enter Try.func29, Try.ntmps29
          go_wp2_with (go_at_call 55; refine (rWithin_t _ _ ?_ ?_).mono ?_; omega; omega; rintro e w' ⟨rfl, rfl⟩)
          go_ret
          exact ⟨rfl, (Later.refl _).alloc _⟩
        · have h7' : (r.st != 0) = true := by simp [h7]
          by_cases h5 : -1000 ≤ r.st
          · have h6 : 1000 < r.st := by
              apply Classical.byContradiction; intro h6; exact h ⟨h1, h2, h3, h4, h5, by omega, h7⟩
            have h6' : decide (r.st ≤ 1000) = false := by simp; omega
            clear h h7
            go_enter Try.func29, Try.ntmps29
            go_wp2_with (go_at_call 55; refine (rWithin_t _ _ ?_ ?_).mono ?_; omega; omega; rintro e w' ⟨rfl, rfl⟩)
            go_ret
            exact ⟨by first | rfl | (rw [← h6']; rfl), (Later.refl _).alloc _⟩
          · clear h h7
            go_enter Try.func29, Try.ntmps29
            go_wp2_with (go_at_call 55; refine (rWithin_t _ _ ?_ ?_).mono ?_; omega; omega; rintro e w' ⟨rfl, rfl⟩)
            go_ret
            exact ⟨rfl, (Later.refl _).alloc _⟩
      · have h5' : r.hi < -1000000 ∨ 1000000 < r.hi := by omega
        clear h h3
        go_enter Try.func29, Try.ntmps29
        go_wp2_with fail
        refine (rWithin_t _ _ (by omega) (by omega)).mono ?_
        rintro e w' ⟨rfl, rfl⟩
        go_wp2_with fail
        refine (rWithin_f _ _ (by omega)).mono ?_
        rintro e w' ⟨rfl, rfl⟩
        go_wp2
        go_ret
        exact ⟨rfl, (Later.refl _).alloc _⟩
    · have h5' : r.lo < -1000000 ∨ 1000000 < r.lo := by omega
      clear h h1
      go_enter Try.func29, Try.ntmps29
      go_wp2_with fail
      refine (rWithin_f _ _ (by omega)).mono ?_
      rintro e w' ⟨rfl, rfl⟩
      go_wp2
      go_ret
      exact ⟨rfl, (Later.refl _).alloc _⟩
set_option maxHeartbeats 1000000 in
theorem rOf_calls (r : Rg) (w : World) (hr : r.ok) :
    Calls Try.prog 51 #[.agg #[.int .i64 (r).lo, .int .i64 (r).hi, .int .i64 (r).st]] w fun e w' => e = .returned (.agg #[.int .i64 (refOf r).f, .int .i64 (refOf r).s, .int .i64 (refOf r).n]) ∧ Later w w' := by
  have hq := quo_bd hr
  obtain ⟨h1, h2, h3, h4, h5, h6, h9⟩ := hr
  by_cases hs : 0 < r.st
  · have ef : (refOf r).f = r.lo := rowOf_f0 hs
    have ha := absI_pos (n := r.st) (by omega)
    by_cases h8 : r.lo ≤ r.hi
    · obtain ⟨q, hq0⟩ : ∃ q, q = (r.hi - r.lo) / absI r.st := ⟨_, rfl⟩
      have hD : (r.hi - r.lo) / r.st = q := by rw [hq0, ha]
      have en : (refOf r).n = q + 1 := by rw [hq0]; exact rowOf_n1 h8
      obtain ⟨q1, q2⟩ := hq h8
      rw [← hq0] at q1 q2
      clear hq hq0 ha
      by_cases h2n : q + 1 < 2
      · have es : (refOf r).s = 1 := if_pos (by rw [show (rowOf r).n = (refOf r).n from rfl, en]; exact h2n)
        go_enter Try.func51, Try.ntmps51
        go_wp2
        exact bodyPost_ret (v := .agg #[.int .i64 (refOf r).f, .int .i64 (refOf r).s, .int .i64 (refOf r).n]) (by simp [results, Try.results51, go_sem, ef, es, en]) rfl ⟨(by first | rfl | rw [ef, es, en]), (by repeat (first | exact Later.refl _ | apply Later.drew | apply Later.alloc))⟩
      · have es : (refOf r).s = r.st := if_neg (by rw [show (rowOf r).n = (refOf r).n from rfl, en]; exact h2n)
        go_enter Try.func51, Try.ntmps51
        go_wp2
        exact bodyPost_ret (v := .agg #[.int .i64 (refOf r).f, .int .i64 (refOf r).s, .int .i64 (refOf r).n]) (by simp [results, Try.results51, go_sem, ef, es, en]) rfl ⟨(by first | rfl | rw [ef, es, en]), (by repeat (first | exact Later.refl _ | apply Later.drew | apply Later.alloc))⟩
    · have en : (refOf r).n = 0 := rowOf_n0 (r := r) (by omega)
      have es : (refOf r).s = 1 := if_pos (by rw [show (rowOf r).n = (refOf r).n from rfl, en]; decide)
      clear hq ha
      go_enter Try.func51, Try.ntmps51
      go_wp2
      exact bodyPost_ret (v := .agg #[.int .i64 (refOf r).f, .int .i64 (refOf r).s, .int .i64 (refOf r).n]) (by simp [results, Try.results51, go_sem, ef, es, en]) rfl ⟨(by first | rfl | rw [ef, es, en]), (by repeat (first | exact Later.refl _ | apply Later.drew | apply Later.alloc))⟩
  · have hs' : r.st < 0 := by omega
    have ef : (refOf r).f = r.hi := rowOf_f1 hs'
    have ha := absI_neg (n := r.st) (by omega)
    by_cases h8 : r.lo ≤ r.hi
    · obtain ⟨q, hq0⟩ : ∃ q, q = (r.hi - r.lo) / absI r.st := ⟨_, rfl⟩
      have hD : -(r.hi - r.lo).tdiv r.st = q := by rw [hq0, ha, ← Int.tdiv_neg, Int.tdiv_eq_ediv_of_nonneg (by omega)]
      have en : (refOf r).n = q + 1 := by rw [hq0]; exact rowOf_n1 h8
      obtain ⟨q1, q2⟩ := hq h8
      rw [← hq0] at q1 q2
      clear hq hq0 ha
      by_cases h2n : q + 1 < 2
      · have es : (refOf r).s = 1 := if_pos (by rw [show (rowOf r).n = (refOf r).n from rfl, en]; exact h2n)
        go_enter Try.func51, Try.ntmps51
        go_wp2
        exact bodyPost_ret (v := .agg #[.int .i64 (refOf r).f, .int .i64 (refOf r).s, .int .i64 (refOf r).n]) (by simp [results, Try.results51, go_sem, ef, es, en]) rfl ⟨(by first | rfl | rw [ef, es, en]), (by repeat (first | exact Later.refl _ | apply Later.drew | apply Later.alloc))⟩
      · have es : (refOf r).s = r.st := if_neg (by rw [show (rowOf r).n = (refOf r).n from rfl, en]; exact h2n)
        go_enter Try.func51, Try.ntmps51
        go_wp2
        exact bodyPost_ret (v := .agg #[.int .i64 (refOf r).f, .int .i64 (refOf r).s, .int .i64 (refOf r).n]) (by simp [results, Try.results51, go_sem, ef, es, en]) rfl ⟨(by first | rfl | rw [ef, es, en]), (by repeat (first | exact Later.refl _ | apply Later.drew | apply Later.alloc))⟩
    · have en : (refOf r).n = 0 := rowOf_n0 (r := r) (by omega)
      have es : (refOf r).s = 1 := if_pos (by rw [show (rowOf r).n = (refOf r).n from rfl, en]; decide)
      clear hq ha
      go_enter Try.func51, Try.ntmps51
      go_wp2
      exact bodyPost_ret (v := .agg #[.int .i64 (refOf r).f, .int .i64 (refOf r).s, .int .i64 (refOf r).n]) (by simp [results, Try.results51, go_sem, ef, es, en]) rfl ⟨(by first | rfl | rw [ef, es, en]), (by repeat (first | exact Later.refl _ | apply Later.drew | apply Later.alloc))⟩
theorem rAt_calls (x : Rw) (i : Int) (w : World) (h1 : -9000000000000 ≤ i * x.s) (h2 : i * x.s ≤ 9000000000000) (h3 : -1099511627776 ≤ x.f) (h4 : x.f ≤ 1099511627776) :
    Calls Try.prog 52 #[.agg #[.int .i64 (x).f, .int .i64 (x).s, .int .i64 (x).n], .int .i64 i] w fun e w' => e = .returned (.int .i64 (atOf x i)) ∧ Later w w' := by
  go_enter Try.func52, Try.ntmps52
  go_wp2
  go_ret
  exact ⟨rfl, (Later.refl w).alloc _⟩
theorem rAtLast_calls (x : Rw) (w : World) (hx : x.small) :
    Calls Try.prog 52 #[.agg #[.int .i64 (x).f, .int .i64 (x).s, .int .i64 (x).n], .int .i64 (x.n - 1)] w fun e w' => e = .returned (.int .i64 (lastOf x)) ∧ Later w w' := by
  obtain ⟨h1, h2, h3, h4, h5, h6⟩ := hx
  have hp := prod_small (a := x.n - 1) (b := x.s) (by omega) (by omega) h3 h4
  exact rAt_calls x (x.n - 1) w (by omega) (by omega) h1 h2
theorem rBack_calls (x : Rw) (w : World) (hx : x.small) :
    Calls Try.prog 64 #[.agg #[.int .i64 (x).f, .int .i64 (x).s, .int .i64 (x).n]] w fun e w' => e = .returned (.agg #[.int .i64 (backOf x).f, .int .i64 (backOf x).s, .int .i64 (backOf x).n]) ∧ Later w w' := by
  by_cases h0 : x.n = 0
  · rw [backOf_0 h0]
    have hn0 : (x.n == 0) = true := by simp [h0]
    clear h0
    go_enter Try.func64, Try.ntmps64
    go_wp2
    exact bodyPost_ret (v := .agg #[_, _, _]) (by simp [results, Try.results64, go_sem]) rfl ⟨rfl, (by repeat (first | exact Later.refl _ | apply Later.drew | apply Later.alloc))⟩
  · rw [backOf_1 h0]
    have hn0 : (x.n == 0) = false := by simp [h0]
    clear h0
    have hs1 := hx.2.2.1
    have hs2 := hx.2.2.2.1
    have hs3 := hx.2.2.2.2.1
    have hs4 := hx.2.2.2.2.2
    go_enter Try.func64, Try.ntmps64
    go_wp2
    obtain ⟨o1, ho1⟩ : ∃ o, o = Obj.cells #[.int .i64 x.f, .int .i64 x.s, .int .i64 x.n] 52 := ⟨_, rfl⟩
    obtain ⟨W0, hW0⟩ : ∃ W0, W0 = (w.alloc o1).alloc (.cells #[.int .i64 0, .int .i64 0, .int .i64 0] 52) := ⟨_, rfl⟩
    have HF := Lib.hid fun W (hW : Later W0 W) => pair3_facts (w := w) ho1 (by rw [hW0] at hW; exact hW)
    have L0 : Later w W0 := by rw [hW0]; exact ((Later.refl _).alloc _).alloc _
    rw [← ho1, ← hW0]
    clear hW0 ho1
    have hneg : IntKind.i64.wrap (-x.s) = -x.s := IntWalk.i64_in _ (by omega)
    have hsub : IntKind.i64.wrap (x.n - 1) = x.n - 1 := IntWalk.i64_in _ (by omega)
    refine wp_region_quiet_tail (Later W0) 11 (by kernel_rfl) (by kernel_rfl) ((Later.refl _).drew) ?_
    simp only [List.take_succ_cons, List.take_zero, List.drop_succ_cons, List.drop_zero]
    repeat (apply wpQuiet_op; rfl; (intro W hW; have g := HF.out W hW; go_simp; first | rfl | exact (rAtLast_calls x _ hx).mono fun e w'' ⟨he, ht⟩ => ⟨he, hW.trans ht⟩); go_simp)
    refine wpQuiet_nil ?_
    intro W1 hW1
    have g := HF.out W1 hW1
    have LL := L0.trans hW1
    go_wp2
    exact bodyPost_ret (v := .agg #[_, _, _]) (by simp [results, Try.results64, go_sem, g]) rfl ⟨rfl, Later.set (Later.set (Later.set LL (by simp) _) (by simp) _) (by simp) _⟩
set_option maxHeartbeats 1000000 in
theorem rMade_calls (x : Rw) (w : World) (hx : x.small) (hs : x.s ≠ 0) :
    Calls Try.prog 56 #[.agg #[.int .i64 (x).f, .int .i64 (x).s, .int .i64 (x).n]] w fun e w' => e = .returned (.tuple #[.agg #[.int .i64 (doneV x).lo, .int .i64 (doneV x).hi, .int .i64 (doneV x).st], .int .i64 (doneE x)]) ∧ Later w w' := by
  have hn0 := hx.2.2.2.2.1
  have hn1 := hx.2.2.2.2.2
  by_cases h0 : x.n = 0
  · have hc := canonOf_0 h0
    have hv : vB (canonOf x) = true := by rw [hc]; decide
    obtain ⟨d1, d2⟩ := done_yes hv
    rw [d1, d2, hc]
    have hle : x.n ≤ 0 := by omega
    clear h0 hc hv d1 d2
    go_enter Try.func56, Try.ntmps56
    go_wp2
    exact bodyPost_ret (v := .tuple #[_, _]) (by simp [results, Try.results56, go_sem]) rfl ⟨rfl, (by repeat (first | exact Later.refl _ | apply Later.drew | apply Later.alloc))⟩
  by_cases h1 : x.n = 1
  · have hc := canonOf_1 h1
    have hl : lastOf x = x.f := by unfold lastOf; rw [h1]; simp
    have h1' : (x.n == 1) = true := by simp [h1]
    have hp : 0 < x.n := by omega
    clear h0 h1
    have hd : (vB (canonOf x) = true ∧ doneV x = canonOf x ∧ doneE x = 0) ∨ (vB (canonOf x) = false ∧ doneV x = ⟨0, 0, 0⟩ ∧ doneE x = 30) := by
      cases h : vB (canonOf x)
      · exact .inr ⟨rfl, done_no h⟩
      · exact .inl ⟨rfl, done_yes h⟩
    rcases hd with ⟨hv, d1, d2⟩ | ⟨hv, d1, d2⟩
    all_goals
      rw [d1, d2]
      rw [hc] at hv
      try rw [hc]
      clear d1 d2 hc
      go_enter Try.func56, Try.ntmps56
      go_wp2_with fail
      refine (rAtLast_calls x _ hx).mono ?_
      rintro e w1 ⟨rfl, t1⟩
      have HF := Lib.hid fun W (hW : Later w1 W) => pair3_facts rfl (t1.trans hW)
      have LL : Later w w1 := Later.trans (by repeat (first | exact Later.refl _ | apply Later.drew | apply Later.drewN | apply Later.alloc)) t1
      have g := HF.out w1 (Later.refl _)
      have T := Later.refl w1
      have z := pair_size t1
      have z0 := Nat.lt_of_succ_lt z
      clear t1
      go_wp2_with fail
      refine (rValid_calls ⟨x.f, x.f, 1⟩ _).mono ?_
      rintro e w2 ⟨rfl, t2⟩
      have s2 : Later w1 w2 := Later.trans (by repeat (first | exact Later.refl _ | apply Later.drew | apply Later.drewN | apply Later.alloc)) t2
      replace LL := LL.trans s2
      replace T := T.trans s2
      replace g := HF.out w2 T
      replace z := Nat.lt_of_lt_of_le z (Below.size s2)
      replace z0 := Nat.lt_of_succ_lt z
      clear s2
      have g2 := box3_facts t2
      clear t2
      go_wp2
      exact bodyPost_ret (v := .tuple #[_, _]) (by simp [results, Try.results56, go_sem, g]) rfl ⟨rfl, Later.set (Later.set (Later.set LL (by simp) _) (by simp) _) (by simp) _⟩
  · have h2 : 2 ≤ x.n := by omega
    have h1' : (x.n == 1) = false := by simp [h1]
    have hne := last_ne h2 hs
    clear h0 h1
    have hd : (vB (canonOf x) = true ∧ doneV x = canonOf x ∧ doneE x = 0) ∨ (vB (canonOf x) = false ∧ doneV x = ⟨0, 0, 0⟩ ∧ doneE x = 30) := by
      cases h : vB (canonOf x)
      · exact .inr ⟨rfl, done_no h⟩
      · exact .inl ⟨rfl, done_yes h⟩
    by_cases hl : x.f < lastOf x
    · have hc := canonOf_up h2 (by omega)
      rcases hd with ⟨hv, d1, d2⟩ | ⟨hv, d1, d2⟩
      all_goals
        rw [d1, d2]
        rw [hc] at hv
        try rw [hc]
        clear d1 d2 hc hne
        go_enter Try.func56, Try.ntmps56
        go_wp2_with fail
        refine (rAtLast_calls x _ hx).mono ?_
        rintro e w1 ⟨rfl, t1⟩
        have HF := Lib.hid fun W (hW : Later w1 W) => pair3_facts rfl (t1.trans hW)
        have LL : Later w w1 := Later.trans (by repeat (first | exact Later.refl _ | apply Later.drew | apply Later.drewN | apply Later.alloc)) t1
        have g := HF.out w1 (Later.refl _)
        have T := Later.refl w1
        have z := pair_size t1
        have z0 := Nat.lt_of_succ_lt z
        clear t1
        go_wp2_with fail
        refine (rValid_calls ⟨x.f, lastOf x, x.s⟩ _).mono ?_
        rintro e w2 ⟨rfl, t2⟩
        have s2 : Later w1 w2 := Later.trans (by repeat (first | exact Later.refl _ | apply Later.drew | apply Later.drewN | apply Later.alloc)) t2
        replace LL := LL.trans s2
        replace T := T.trans s2
        replace g := HF.out w2 T
        replace z := Nat.lt_of_lt_of_le z (Below.size s2)
        replace z0 := Nat.lt_of_succ_lt z
        clear s2
        have g2 := box3_facts t2
        clear t2
        go_wp2
        exact bodyPost_ret (v := .tuple #[_, _]) (by simp [results, Try.results56, go_sem, g]) rfl ⟨rfl, Later.set (Later.set (Later.set LL (by simp) _) (by simp) _) (by simp) _⟩
    · have hl' : lastOf x < x.f := by omega
      have hc := canonOf_down h2 (by omega)
      rcases hd with ⟨hv, d1, d2⟩ | ⟨hv, d1, d2⟩
      all_goals
        rw [d1, d2]
        rw [hc] at hv
        try rw [hc]
        clear d1 d2 hc hne hl
        go_enter Try.func56, Try.ntmps56
        go_wp2_with fail
        refine (rAtLast_calls x _ hx).mono ?_
        rintro e w1 ⟨rfl, t1⟩
        have HF := Lib.hid fun W (hW : Later w1 W) => pair3_facts rfl (t1.trans hW)
        have LL : Later w w1 := Later.trans (by repeat (first | exact Later.refl _ | apply Later.drew | apply Later.drewN | apply Later.alloc)) t1
        have g := HF.out w1 (Later.refl _)
        have T := Later.refl w1
        have z := pair_size t1
        have z0 := Nat.lt_of_succ_lt z
        clear t1
        go_wp2_with fail
        refine (rValid_calls ⟨lastOf x, x.f, x.s⟩ _).mono ?_
        rintro e w2 ⟨rfl, t2⟩
        have s2 : Later w1 w2 := Later.trans (by repeat (first | exact Later.refl _ | apply Later.drew | apply Later.drewN | apply Later.alloc)) t2
        replace LL := LL.trans s2
        replace T := T.trans s2
        replace g := HF.out w2 T
        replace z := Nat.lt_of_lt_of_le z (Below.size s2)
        replace z0 := Nat.lt_of_succ_lt z
        clear s2
        have g2 := box3_facts t2
        clear t2
        go_wp2
        exact bodyPost_ret (v := .tuple #[_, _]) (by simp [results, Try.results56, go_sem, g]) rfl ⟨rfl, Later.set (Later.set (Later.set LL (by simp) _) (by simp) _) (by simp) _⟩
end Go.Proofs.Ytoeabdanldiccaa
