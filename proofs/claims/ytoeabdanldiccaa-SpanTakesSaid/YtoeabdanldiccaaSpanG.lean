/- Walks of the reference's functions that read a range. -/
import Derived.Test.YtoeabdanldiccaaSpanE
import Derived.Test.YtoeabdanldiccaaSpanF
import Derived.Test.YtoeabdanldiccaaSpanMath2
namespace Go.Proofs.Ytoeabdanldiccaa
open Go.RowKit
set_option linter.unusedVariables false
theorem rrow_field2 (a b c : Value) (w : World) : (Instr.field 52 (.agg #[a, b, c]) 2).run Try.prog w = .ok c w := by kernel_rfl
theorem rCanonTop_calls (r : Rg) (w : World) :
    Calls Try.prog 27 #[.agg #[.int .i64 (r).lo, .int .i64 (r).hi, .int .i64 (r).st]] w fun e w' => e = .returned (.tuple #[.agg #[.int .i64 ((canonRes r).1).lo, .int .i64 ((canonRes r).1).hi, .int .i64 ((canonRes r).1).st], .int .i64 (canonRes r).2]) ∧ Later w w' := by
  by_cases hv : vB r = true
  · have hr := vB_ok hv
    obtain ⟨hx, hs⟩ := refOf_small hr
    have e1 : canonRes r = (canonOf (rowOf r), 0) := if_pos hv
    obtain ⟨d1, d2⟩ := done_ref hr
    rw [e1]
    clear e1
    go_enter Try.func27, Try.ntmps27
    go_wp2_with fail
    refine (rValid_calls r _).mono ?_
    rintro e w1 ⟨rfl, t1⟩
    have HF := Lib.hid fun W (hW : Later w1 W) => pair3_facts rfl (t1.trans hW)
    have LL : Later w w1 := Later.trans (by repeat (first | exact Later.refl _ | apply Later.drew | apply Later.drewN | apply Later.alloc)) t1
    have g := HF.out w1 (Later.refl _)
    have T := Later.refl w1
    have z := pair_size t1
    have z0 := Nat.lt_of_succ_lt z
    clear t1
    go_wp2_with fail
    refine (rOf_calls r _ hr).mono ?_
    rintro e w2 ⟨rfl, t2⟩
    have s2 : Later w1 w2 := Later.trans (by repeat (first | exact Later.refl _ | apply Later.drew | apply Later.drewN | apply Later.alloc)) t2
    replace LL := LL.trans s2
    replace T := T.trans s2
    replace g := HF.out w2 T
    replace z := Nat.lt_of_lt_of_le z (Below.size s2)
    replace z0 := Nat.lt_of_succ_lt z
    clear t2 s2
    go_wp2_with fail
    refine (rMade_calls (refOf r) _ hx hs).mono ?_
    rintro e w3 ⟨rfl, t3⟩
    have s3 : Later w2 w3 := Later.trans (by repeat (first | exact Later.refl _ | apply Later.drew | apply Later.drewN | apply Later.alloc)) t3
    replace LL := LL.trans s3
    replace T := T.trans s3
    replace g := HF.out w3 T
    replace z := Nat.lt_of_lt_of_le z (Below.size s3)
    replace z0 := Nat.lt_of_succ_lt z
    clear t3 s3
    go_wp2
    exact bodyPost_ret (v := .tuple #[_, _]) (by simp [results, Try.results27, go_sem, g]) rfl ⟨rfl, Later.set (Later.set (Later.set LL (by simp) _) (by simp) _) (by simp) _⟩
  · have e1 : canonRes r = (⟨0, 0, 0⟩, 30) := if_neg hv
    have hv' : vB r = false := by simpa using hv
    rw [e1]
    clear e1 hv
    go_enter Try.func27, Try.ntmps27
    go_wp2_with fail
    refine (rValid_calls r _).mono ?_
    rintro e w1 ⟨rfl, t1⟩
    have HF := Lib.hid fun W (hW : Later w1 W) => pair3_facts rfl (t1.trans hW)
    have LL : Later w w1 := Later.trans (by repeat (first | exact Later.refl _ | apply Later.drew | apply Later.drewN | apply Later.alloc)) t1
    have g := HF.out w1 (Later.refl _)
    have T := Later.refl w1
    have z := pair_size t1
    have z0 := Nat.lt_of_succ_lt z
    clear t1
    go_wp2
    exact bodyPost_ret (v := .tuple #[_, _]) (by simp [results, Try.results27, go_sem, g]) rfl ⟨rfl, Later.set (Later.set (Later.set LL (by simp) _) (by simp) _) (by simp) _⟩
theorem rCount_calls (r : Rg) (w : World) :
    Calls Try.prog 30 #[.agg #[.int .i64 (r).lo, .int .i64 (r).hi, .int .i64 (r).st]] w fun e w' => e = .returned (.tuple #[.int .i64 (countRes r).1, .int .i64 (countRes r).2]) ∧ Later w w' := by
  by_cases hv : vB r = true
  · have hr := vB_ok hv
    have e1 : countRes r = ((refOf r).n, 0) := if_pos hv
    have hfl := rrow_field2
    rw [e1]
    clear e1
    go_enter Try.func30, Try.ntmps30
    go_wp2_with fail
    refine (rValid_calls r _).mono ?_
    rintro e w1 ⟨rfl, t1⟩
    have HF := Lib.hid fun W (hW : Later w1 W) => box3_facts (t1.trans hW)
    have LL : Later w w1 := Later.trans (by repeat (first | exact Later.refl _ | apply Later.drew | apply Later.drewN | apply Later.alloc)) t1
    have g := HF.out w1 (Later.refl _)
    have T := Later.refl w1
    have z := box_size t1
    clear t1
    go_wp2_with fail
    refine (rOf_calls r _ hr).mono ?_
    rintro e w2 ⟨rfl, t2⟩
    have s2 : Later w1 w2 := Later.trans (by repeat (first | exact Later.refl _ | apply Later.drew | apply Later.drewN | apply Later.alloc)) t2
    replace LL := LL.trans s2
    replace T := T.trans s2
    replace g := HF.out w2 T
    replace z := Nat.lt_of_lt_of_le z (Below.size s2)
    clear t2 s2
    go_wp2
    go_ret2
    exact ⟨rfl, Later.trans LL (by repeat (first | exact Later.refl _ | apply Later.drew | apply Later.drewN | apply Later.alloc))⟩
  · have e1 : countRes r = (0, 30) := if_neg hv
    have hv' : vB r = false := by simpa using hv
    rw [e1]
    clear e1 hv
    go_enter Try.func30, Try.ntmps30
    go_wp2_with fail
    refine (rValid_calls r _).mono ?_
    rintro e w1 ⟨rfl, t1⟩
    have HF := Lib.hid fun W (hW : Later w1 W) => box3_facts (t1.trans hW)
    have LL : Later w w1 := Later.trans (by repeat (first | exact Later.refl _ | apply Later.drew | apply Later.drewN | apply Later.alloc)) t1
    have g := HF.out w1 (Later.refl _)
    have T := Later.refl w1
    have z := box_size t1
    clear t1
    go_wp2
    go_ret2
    exact ⟨rfl, Later.trans LL (by repeat (first | exact Later.refl _ | apply Later.drew | apply Later.drewN | apply Later.alloc))⟩
theorem rIth_calls (r : Rg) (i : Int) (w : World) :
    Calls Try.prog 32 #[.agg #[.int .i64 (r).lo, .int .i64 (r).hi, .int .i64 (r).st], .int .i64 i] w fun e w' => e = .returned (.tuple #[.int .i64 (ithRes r i).1, .int .i64 (ithRes r i).2]) ∧ Later w w' := by
  by_cases hv : vB r = true
  · have hr := vB_ok hv
    obtain ⟨hx, hs⟩ := refOf_small hr
    obtain ⟨x1, x2, x3, x4, x5, x6⟩ := hx
    by_cases hi : 0 ≤ i ∧ i ≤ (refOf r).n - 1
    · have e1 : ithRes r i = (atOf (refOf r) i, 0) := by rw [ithRes, if_pos hv, if_pos (show 0 ≤ i ∧ i ≤ (rowOf r).n - 1 from hi), at_ref hr hi.1 hi.2]
      obtain ⟨i1, i2⟩ := hi
      have i3 : i < (refOf r).n := by omega
      obtain ⟨p1, p2⟩ := prod_small (a := i) (b := (refOf r).s) (by omega) (by omega) x3 x4
      rw [e1]
      clear e1
      go_enter Try.func32, Try.ntmps32
      go_wp2_with fail
      refine (rValid_calls r _).mono ?_
      rintro e w1 ⟨rfl, t1⟩
      have HF := Lib.hid fun W (hW : Later w1 W) => box3_facts (t1.trans hW)
      have LL : Later w w1 := Later.trans (by repeat (first | exact Later.refl _ | apply Later.drew | apply Later.drewN | apply Later.alloc)) t1
      have g := HF.out w1 (Later.refl _)
      have T := Later.refl w1
      have z := box_size t1
      clear t1
      go_wp2_with fail
      refine (rOf_calls r _ hr).mono ?_
      rintro e w2 ⟨rfl, t2⟩
      have s2 : Later w1 w2 := Later.trans (by repeat (first | exact Later.refl _ | apply Later.drew | apply Later.drewN | apply Later.alloc)) t2
      replace LL := LL.trans s2
      replace T := T.trans s2
      replace g := HF.out w2 T
      replace z := Nat.lt_of_lt_of_le z (Below.size s2)
      clear t2 s2
      go_wp2_with fail
      refine (rAt_calls (refOf r) i _ (by omega) (by omega) x1 x2).mono ?_
      rintro e w3 ⟨rfl, t3⟩
      have s3 : Later w2 w3 := Later.trans (by repeat (first | exact Later.refl _ | apply Later.drew | apply Later.drewN | apply Later.alloc)) t3
      replace LL := LL.trans s3
      replace T := T.trans s3
      replace g := HF.out w3 T
      replace z := Nat.lt_of_lt_of_le z (Below.size s3)
      clear t3 s3
      go_wp2
      go_ret2
      exact ⟨rfl, Later.trans LL (by repeat (first | exact Later.refl _ | apply Later.drew | apply Later.drewN | apply Later.alloc))⟩
    · have e1 : ithRes r i = (0, 2) := by rw [ithRes, if_pos hv, if_neg (show ¬ (0 ≤ i ∧ i ≤ (rowOf r).n - 1) from hi)]
      rw [e1]
      clear e1
      by_cases hi' : i < 0
      · clear hi
        go_enter Try.func32, Try.ntmps32
        go_wp2_with fail
        refine (rValid_calls r _).mono ?_
        rintro e w1 ⟨rfl, t1⟩
        have HF := Lib.hid fun W (hW : Later w1 W) => box3_facts (t1.trans hW)
        have LL : Later w w1 := Later.trans (by repeat (first | exact Later.refl _ | apply Later.drew | apply Later.drewN | apply Later.alloc)) t1
        have g := HF.out w1 (Later.refl _)
        have T := Later.refl w1
        have z := box_size t1
        clear t1
        go_wp2_with fail
        refine (rOf_calls r _ hr).mono ?_
        rintro e w2 ⟨rfl, t2⟩
        have s2 : Later w1 w2 := Later.trans (by repeat (first | exact Later.refl _ | apply Later.drew | apply Later.drewN | apply Later.alloc)) t2
        replace LL := LL.trans s2
        replace T := T.trans s2
        replace g := HF.out w2 T
        replace z := Nat.lt_of_lt_of_le z (Below.size s2)
        clear t2 s2
        go_wp2
        go_ret2
        exact ⟨rfl, Later.trans LL (by repeat (first | exact Later.refl _ | apply Later.drew | apply Later.drewN | apply Later.alloc))⟩
      · have hi2 : (refOf r).n ≤ i := by omega
        clear hi
        go_enter Try.func32, Try.ntmps32
        go_wp2_with fail
        refine (rValid_calls r _).mono ?_
        rintro e w1 ⟨rfl, t1⟩
        have HF := Lib.hid fun W (hW : Later w1 W) => box3_facts (t1.trans hW)
        have LL : Later w w1 := Later.trans (by repeat (first | exact Later.refl _ | apply Later.drew | apply Later.drewN | apply Later.alloc)) t1
        have g := HF.out w1 (Later.refl _)
        have T := Later.refl w1
        have z := box_size t1
        clear t1
        go_wp2_with fail
        refine (rOf_calls r _ hr).mono ?_
        rintro e w2 ⟨rfl, t2⟩
        have s2 : Later w1 w2 := Later.trans (by repeat (first | exact Later.refl _ | apply Later.drew | apply Later.drewN | apply Later.alloc)) t2
        replace LL := LL.trans s2
        replace T := T.trans s2
        replace g := HF.out w2 T
        replace z := Nat.lt_of_lt_of_le z (Below.size s2)
        clear t2 s2
        go_wp2
        go_ret2
        exact ⟨rfl, Later.trans LL (by repeat (first | exact Later.refl _ | apply Later.drew | apply Later.drewN | apply Later.alloc))⟩
  · have e1 : ithRes r i = (0, 30) := if_neg hv
    have hv' : vB r = false := by simpa using hv
    rw [e1]
    clear e1 hv
    go_enter Try.func32, Try.ntmps32
    go_wp2_with fail
    refine (rValid_calls r _).mono ?_
    rintro e w1 ⟨rfl, t1⟩
    have HF := Lib.hid fun W (hW : Later w1 W) => box3_facts (t1.trans hW)
    have LL : Later w w1 := Later.trans (by repeat (first | exact Later.refl _ | apply Later.drew | apply Later.drewN | apply Later.alloc)) t1
    have g := HF.out w1 (Later.refl _)
    have T := Later.refl w1
    have z := box_size t1
    clear t1
    go_wp2
    go_ret2
    exact ⟨rfl, Later.trans LL (by repeat (first | exact Later.refl _ | apply Later.drew | apply Later.drewN | apply Later.alloc))⟩
set_option maxHeartbeats 1000000 in
theorem rPlace_calls (r : Rg) (m : Int) (w : World) :
    Calls Try.prog 34 #[.agg #[.int .i64 (r).lo, .int .i64 (r).hi, .int .i64 (r).st], .int .i64 m] w fun e w' => e = .returned (.tuple #[.int .i64 (placeRes r m).1, .int .i64 (placeRes r m).2]) ∧ Later w w' := by
  by_cases hv : vB r = true
  · have hr := vB_ok hv
    obtain ⟨hx, hs⟩ := refOf_small hr
    obtain ⟨x1, x2, x3, x4, x5, x6⟩ := hx
    have hs1 : ¬ ((refOf r).s = 0) := hs
    have hs2 : ((refOf r).s == 0) = false := by simp [hs]
    by_cases hm : -1000000 ≤ m ∧ m ≤ 1000000
    · obtain ⟨m1, m2⟩ := hm
      have hb := tdiv_bd (a := m - (refOf r).f) (b := (refOf r).s) (by omega) (by omega)
      have hq : IntKind.i64.wrap ((m - (refOf r).f).tdiv (refOf r).s) = (m - (refOf r).f).tdiv (refOf r).s := IntWalk.i64_in _ (by omega)
      have hp := place_ref hr m
      have e1 : placeRes r m = if placeB (rowOf r) m = true then (placeI (rowOf r) m, 0) else (0, 5) := by rw [placeRes, if_pos hv, if_pos ⟨m1, m2⟩]
      rw [e1]
      clear e1
      by_cases ht : (m - (refOf r).f).tmod (refOf r).s = 0
      · have ht' : ((m - (refOf r).f).tmod (refOf r).s != 0) = false := by simp [ht]
        by_cases hd : 0 ≤ (m - (refOf r).f).tdiv (refOf r).s ∧ (m - (refOf r).f).tdiv (refOf r).s < (refOf r).n
        · have hB := hp.1.1 ⟨ht, hd⟩
          rw [if_pos hB, ← hp.2 hB]
          obtain ⟨d1, d2⟩ := hd
          clear hp hB ht
          go_enter Try.func34, Try.ntmps34
          go_wp2_with fail
          refine (rValid_calls r _).mono ?_
          rintro e w1 ⟨rfl, t1⟩
          have HF := Lib.hid fun W (hW : Later w1 W) => box3_facts (t1.trans hW)
          have LL : Later w w1 := Later.trans (by repeat (first | exact Later.refl _ | apply Later.drew | apply Later.drewN | apply Later.alloc)) t1
          have g := HF.out w1 (Later.refl _)
          have T := Later.refl w1
          have z := box_size t1
          clear t1
          go_wp2_with fail
          refine (rOf_calls r _ hr).mono ?_
          rintro e w2 ⟨rfl, t2⟩
          have s2 : Later w1 w2 := Later.trans (by repeat (first | exact Later.refl _ | apply Later.drew | apply Later.drewN | apply Later.alloc)) t2
          replace LL := LL.trans s2
          replace T := T.trans s2
          replace g := HF.out w2 T
          replace z := Nat.lt_of_lt_of_le z (Below.size s2)
          clear t2 s2
          go_wp2_with fail
          refine (rWithin_t _ _ m1 m2).mono ?_
          rintro e w' ⟨rfl, rfl⟩
          go_wp2
          go_ret2
          exact ⟨rfl, Later.trans LL (by repeat (first | exact Later.refl _ | apply Later.drew | apply Later.drewN | apply Later.alloc))⟩
        · have hB : ¬ placeB (rowOf r) m = true := fun h => hd (hp.1.2 h).2
          rw [if_neg hB]
          clear hp hB ht
          by_cases d1 : (m - (refOf r).f).tdiv (refOf r).s < 0
          · clear hd
            go_enter Try.func34, Try.ntmps34
            go_wp2_with fail
            refine (rValid_calls r _).mono ?_
            rintro e w1 ⟨rfl, t1⟩
            have HF := Lib.hid fun W (hW : Later w1 W) => box3_facts (t1.trans hW)
            have LL : Later w w1 := Later.trans (by repeat (first | exact Later.refl _ | apply Later.drew | apply Later.drewN | apply Later.alloc)) t1
            have g := HF.out w1 (Later.refl _)
            have T := Later.refl w1
            have z := box_size t1
            clear t1
            go_wp2_with fail
            refine (rOf_calls r _ hr).mono ?_
            rintro e w2 ⟨rfl, t2⟩
            have s2 : Later w1 w2 := Later.trans (by repeat (first | exact Later.refl _ | apply Later.drew | apply Later.drewN | apply Later.alloc)) t2
            replace LL := LL.trans s2
            replace T := T.trans s2
            replace g := HF.out w2 T
            replace z := Nat.lt_of_lt_of_le z (Below.size s2)
            clear t2 s2
            go_wp2_with fail
            refine (rWithin_t _ _ m1 m2).mono ?_
            rintro e w' ⟨rfl, rfl⟩
            go_wp2
            go_ret2
            exact ⟨rfl, Later.trans LL (by repeat (first | exact Later.refl _ | apply Later.drew | apply Later.drewN | apply Later.alloc))⟩
          · have d2 : (refOf r).n ≤ (m - (refOf r).f).tdiv (refOf r).s := by omega
            clear hd
            go_enter Try.func34, Try.ntmps34
            go_wp2_with fail
            refine (rValid_calls r _).mono ?_
            rintro e w1 ⟨rfl, t1⟩
            have HF := Lib.hid fun W (hW : Later w1 W) => box3_facts (t1.trans hW)
            have LL : Later w w1 := Later.trans (by repeat (first | exact Later.refl _ | apply Later.drew | apply Later.drewN | apply Later.alloc)) t1
            have g := HF.out w1 (Later.refl _)
            have T := Later.refl w1
            have z := box_size t1
            clear t1
            go_wp2_with fail
            refine (rOf_calls r _ hr).mono ?_
            rintro e w2 ⟨rfl, t2⟩
            have s2 : Later w1 w2 := Later.trans (by repeat (first | exact Later.refl _ | apply Later.drew | apply Later.drewN | apply Later.alloc)) t2
            replace LL := LL.trans s2
            replace T := T.trans s2
            replace g := HF.out w2 T
            replace z := Nat.lt_of_lt_of_le z (Below.size s2)
            clear t2 s2
            go_wp2_with fail
            refine (rWithin_t _ _ m1 m2).mono ?_
            rintro e w' ⟨rfl, rfl⟩
            go_wp2
            go_ret2
            exact ⟨rfl, Later.trans LL (by repeat (first | exact Later.refl _ | apply Later.drew | apply Later.drewN | apply Later.alloc))⟩
      · have ht' : ((m - (refOf r).f).tmod (refOf r).s != 0) = true := by simp [ht]
        have hB : ¬ placeB (rowOf r) m = true := fun h => ht (hp.1.2 h).1
        rw [if_neg hB]
        clear hp hB ht
        go_enter Try.func34, Try.ntmps34
        go_wp2_with fail
        refine (rValid_calls r _).mono ?_
        rintro e w1 ⟨rfl, t1⟩
        have HF := Lib.hid fun W (hW : Later w1 W) => box3_facts (t1.trans hW)
        have LL : Later w w1 := Later.trans (by repeat (first | exact Later.refl _ | apply Later.drew | apply Later.drewN | apply Later.alloc)) t1
        have g := HF.out w1 (Later.refl _)
        have T := Later.refl w1
        have z := box_size t1
        clear t1
        go_wp2_with fail
        refine (rOf_calls r _ hr).mono ?_
        rintro e w2 ⟨rfl, t2⟩
        have s2 : Later w1 w2 := Later.trans (by repeat (first | exact Later.refl _ | apply Later.drew | apply Later.drewN | apply Later.alloc)) t2
        replace LL := LL.trans s2
        replace T := T.trans s2
        replace g := HF.out w2 T
        replace z := Nat.lt_of_lt_of_le z (Below.size s2)
        clear t2 s2
        go_wp2_with fail
        refine (rWithin_t _ _ m1 m2).mono ?_
        rintro e w' ⟨rfl, rfl⟩
        go_wp2
        go_ret2
        exact ⟨rfl, Later.trans LL (by repeat (first | exact Later.refl _ | apply Later.drew | apply Later.drewN | apply Later.alloc))⟩
    · have e1 : placeRes r m = (0, 5) := by rw [placeRes, if_pos hv, if_neg hm]
      have hm' : m < -1000000 ∨ 1000000 < m := by omega
      rw [e1]
      clear e1 hm
      go_enter Try.func34, Try.ntmps34
      go_wp2_with fail
      refine (rValid_calls r _).mono ?_
      rintro e w1 ⟨rfl, t1⟩
      have HF := Lib.hid fun W (hW : Later w1 W) => box3_facts (t1.trans hW)
      have LL : Later w w1 := Later.trans (by repeat (first | exact Later.refl _ | apply Later.drew | apply Later.drewN | apply Later.alloc)) t1
      have g := HF.out w1 (Later.refl _)
      have T := Later.refl w1
      have z := box_size t1
      clear t1
      go_wp2_with fail
      refine (rOf_calls r _ hr).mono ?_
      rintro e w2 ⟨rfl, t2⟩
      have s2 : Later w1 w2 := Later.trans (by repeat (first | exact Later.refl _ | apply Later.drew | apply Later.drewN | apply Later.alloc)) t2
      replace LL := LL.trans s2
      replace T := T.trans s2
      replace g := HF.out w2 T
      replace z := Nat.lt_of_lt_of_le z (Below.size s2)
      clear t2 s2
      go_wp2_with fail
      refine (rWithin_f _ _ hm').mono ?_
      rintro e w' ⟨rfl, rfl⟩
      go_wp2
      go_ret2
      exact ⟨rfl, Later.trans LL (by repeat (first | exact Later.refl _ | apply Later.drew | apply Later.drewN | apply Later.alloc))⟩
  · have e1 : placeRes r m = (0, 30) := if_neg hv
    have hv' : vB r = false := by simpa using hv
    rw [e1]
    clear e1 hv
    go_enter Try.func34, Try.ntmps34
    go_wp2_with fail
    refine (rValid_calls r _).mono ?_
    rintro e w1 ⟨rfl, t1⟩
    have HF := Lib.hid fun W (hW : Later w1 W) => box3_facts (t1.trans hW)
    have LL : Later w w1 := Later.trans (by repeat (first | exact Later.refl _ | apply Later.drew | apply Later.drewN | apply Later.alloc)) t1
    have g := HF.out w1 (Later.refl _)
    have T := Later.refl w1
    have z := box_size t1
    clear t1
    go_wp2
    go_ret2
    exact ⟨rfl, Later.trans LL (by repeat (first | exact Later.refl _ | apply Later.drew | apply Later.drewN | apply Later.alloc))⟩
theorem rHas_calls (r : Rg) (m : Int) (w : World) :
    Calls Try.prog 36 #[.agg #[.int .i64 (r).lo, .int .i64 (r).hi, .int .i64 (r).st], .int .i64 m] w fun e w' => e = .returned (.tuple #[.bool (hasRes r m).1, .int .i64 (hasRes r m).2]) ∧ Later w w' := by
  by_cases hv : vB r = true
  · have hh : hasRes r m = (decide ((placeRes r m).2 = 0), 0) := if_pos hv
    rw [hh]
    clear hh
    by_cases hp : (placeRes r m).2 = 0
    · have hp' : ((placeRes r m).2 == 0) = true := by simp [hp]
      rw [show decide ((placeRes r m).2 = 0) = true from by simp [hp]]
      clear hp
      go_enter Try.func36, Try.ntmps36
      go_wp2_with fail
      refine (rValid_calls r _).mono ?_
      rintro e w1 ⟨rfl, t1⟩
      have HF := Lib.hid fun W (hW : Later w1 W) => box3_facts (t1.trans hW)
      have LL : Later w w1 := Later.trans (by repeat (first | exact Later.refl _ | apply Later.drew | apply Later.drewN | apply Later.alloc)) t1
      have g := HF.out w1 (Later.refl _)
      have T := Later.refl w1
      have z := box_size t1
      clear t1
      go_wp2_with fail
      refine (rPlace_calls r m _).mono ?_
      rintro e w2 ⟨rfl, t2⟩
      have s2 : Later w1 w2 := Later.trans (by repeat (first | exact Later.refl _ | apply Later.drew | apply Later.drewN | apply Later.alloc)) t2
      replace LL := LL.trans s2
      replace T := T.trans s2
      replace g := HF.out w2 T
      replace z := Nat.lt_of_lt_of_le z (Below.size s2)
      clear t2 s2
      go_wp2
      go_ret2
      exact ⟨rfl, Later.trans LL (by repeat (first | exact Later.refl _ | apply Later.drew | apply Later.drewN | apply Later.alloc))⟩
    · have hp' : ((placeRes r m).2 == 0) = false := by simp [hp]
      rw [show decide ((placeRes r m).2 = 0) = false from by simp [hp]]
      clear hp
      go_enter Try.func36, Try.ntmps36
      go_wp2_with fail
      refine (rValid_calls r _).mono ?_
      rintro e w1 ⟨rfl, t1⟩
      have HF := Lib.hid fun W (hW : Later w1 W) => box3_facts (t1.trans hW)
      have LL : Later w w1 := Later.trans (by repeat (first | exact Later.refl _ | apply Later.drew | apply Later.drewN | apply Later.alloc)) t1
      have g := HF.out w1 (Later.refl _)
      have T := Later.refl w1
      have z := box_size t1
      clear t1
      go_wp2_with fail
      refine (rPlace_calls r m _).mono ?_
      rintro e w2 ⟨rfl, t2⟩
      have s2 : Later w1 w2 := Later.trans (by repeat (first | exact Later.refl _ | apply Later.drew | apply Later.drewN | apply Later.alloc)) t2
      replace LL := LL.trans s2
      replace T := T.trans s2
      replace g := HF.out w2 T
      replace z := Nat.lt_of_lt_of_le z (Below.size s2)
      clear t2 s2
      go_wp2
      go_ret2
      exact ⟨rfl, Later.trans LL (by repeat (first | exact Later.refl _ | apply Later.drew | apply Later.drewN | apply Later.alloc))⟩
  · have e1 : hasRes r m = (false, 30) := if_neg hv
    have hv' : vB r = false := by simpa using hv
    rw [e1]
    clear e1 hv
    go_enter Try.func36, Try.ntmps36
    go_wp2_with fail
    refine (rValid_calls r _).mono ?_
    rintro e w1 ⟨rfl, t1⟩
    have HF := Lib.hid fun W (hW : Later w1 W) => box3_facts (t1.trans hW)
    have LL : Later w w1 := Later.trans (by repeat (first | exact Later.refl _ | apply Later.drew | apply Later.drewN | apply Later.alloc)) t1
    have g := HF.out w1 (Later.refl _)
    have T := Later.refl w1
    have z := box_size t1
    clear t1
    go_wp2
    go_ret2
    exact ⟨rfl, Later.trans LL (by repeat (first | exact Later.refl _ | apply Later.drew | apply Later.drewN | apply Later.alloc))⟩
end Go.Proofs.Ytoeabdanldiccaa
