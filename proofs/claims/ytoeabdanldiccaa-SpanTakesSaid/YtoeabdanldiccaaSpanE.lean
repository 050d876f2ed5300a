/- Walks of the functions of package span that read a range. -/
import Derived.Test.YtoeabdanldiccaaSpanD
namespace Go.Proofs.Ytoeabdanldiccaa
open Go.RowKit
set_option linter.unusedVariables false
theorem row_field2 (a b c : Value) (w : World) : (Instr.field 48 (.agg #[a, b, c]) 2).run Try.prog w = .ok c w := by kernel_rfl
theorem vB_ok {r : Rg} (h : vB r = true) : r.ok := by simpa [vB] using h
theorem sCanonTop_calls (r : Rg) (w : World) :
    Calls Try.prog 25 #[.agg #[.int .i64 (r).lo, .int .i64 (r).hi, .int .i64 (r).st]] w fun e w' => e = .returned (.tuple #[.agg #[.int .i64 ((canonRes r).1).lo, .int .i64 ((canonRes r).1).hi, .int .i64 ((canonRes r).1).st], .int .i64 (canonRes r).2]) ∧ Later w w' := by
  by_cases hv : vB r = true
  · have hr := vB_ok hv
    obtain ⟨hx, hs⟩ := rowOf_small hr
    have e1 : canonRes r = (canonOf (rowOf r), 0) := if_pos hv
    rw [e1]
    clear e1
    go_enter Try.func25, Try.ntmps25
    go_wp2_with fail
    refine (sValid_calls r _).mono ?_
    rintro e w1 ⟨rfl, t1⟩
    have HF := Lib.hid fun W (hW : Later w1 W) => pair3_facts rfl (t1.trans hW)
    have LL : Later w w1 := Later.trans (by repeat (first | exact Later.refl _ | apply Later.drew | apply Later.drewN | apply Later.alloc)) t1
    have g := HF.out w1 (Later.refl _)
    have T := Later.refl w1
    have z := pair_size t1
    have z0 := Nat.lt_of_succ_lt z
    clear t1
    go_wp2_with fail
    refine (rowOf_calls r _ hr).mono ?_
    rintro e w2 ⟨rfl, t2⟩
    have s2 : Later w1 w2 := Later.trans (by repeat (first | exact Later.refl _ | apply Later.drew | apply Later.drewN | apply Later.alloc)) t2
    replace LL := LL.trans s2
    replace T := T.trans s2
    replace g := HF.out w2 T
    replace z := Nat.lt_of_lt_of_le z (Below.size s2)
    replace z0 := Nat.lt_of_succ_lt z
    clear t2 s2
    go_wp2_with fail
    refine (sCanon_calls (rowOf r) _ hx hs).mono ?_
    rintro e w3 ⟨rfl, t3⟩
    have s3 : Later w2 w3 := Later.trans (by repeat (first | exact Later.refl _ | apply Later.drew | apply Later.drewN | apply Later.alloc)) t3
    replace LL := LL.trans s3
    replace T := T.trans s3
    replace g := HF.out w3 T
    replace z := Nat.lt_of_lt_of_le z (Below.size s3)
    replace z0 := Nat.lt_of_succ_lt z
    clear t3 s3
    go_wp2
    exact bodyPost_ret (v := .tuple #[_, _]) (by simp [results, Try.results25, go_sem, g]) rfl ⟨rfl, Later.set (Later.set (Later.set LL (by simp) _) (by simp) _) (by simp) _⟩
  · have e1 : canonRes r = (⟨0, 0, 0⟩, 30) := if_neg hv
    have hv' : vB r = false := by simpa using hv
    rw [e1]
    clear e1 hv
    go_enter Try.func25, Try.ntmps25
    go_wp2_with fail
    refine (sValid_calls r _).mono ?_
    rintro e w1 ⟨rfl, t1⟩
    have HF := Lib.hid fun W (hW : Later w1 W) => pair3_facts rfl (t1.trans hW)
    have LL : Later w w1 := Later.trans (by repeat (first | exact Later.refl _ | apply Later.drew | apply Later.drewN | apply Later.alloc)) t1
    have g := HF.out w1 (Later.refl _)
    have T := Later.refl w1
    have z := pair_size t1
    have z0 := Nat.lt_of_succ_lt z
    clear t1
    go_wp2
    exact bodyPost_ret (v := .tuple #[_, _]) (by simp [results, Try.results25, go_sem, g]) rfl ⟨rfl, Later.set (Later.set (Later.set LL (by simp) _) (by simp) _) (by simp) _⟩
theorem sCount_calls (r : Rg) (w : World) :
    Calls Try.prog 26 #[.agg #[.int .i64 (r).lo, .int .i64 (r).hi, .int .i64 (r).st]] w fun e w' => e = .returned (.tuple #[.int .i64 (countRes r).1, .int .i64 (countRes r).2]) ∧ Later w w' := by
  by_cases hv : vB r = true
  · have hr := vB_ok hv
    have e1 : countRes r = ((rowOf r).n, 0) := if_pos hv
    have hfl := row_field2
    rw [e1]
    clear e1
    go_enter Try.func26, Try.ntmps26
    go_wp2_with fail
    refine (sValid_calls r _).mono ?_
    rintro e w1 ⟨rfl, t1⟩
    have HF := Lib.hid fun W (hW : Later w1 W) => box3_facts (t1.trans hW)
    have LL : Later w w1 := Later.trans (by repeat (first | exact Later.refl _ | apply Later.drew | apply Later.drewN | apply Later.alloc)) t1
    have g := HF.out w1 (Later.refl _)
    have T := Later.refl w1
    have z := box_size t1
    clear t1
    go_wp2_with fail
    refine (rowOf_calls r _ hr).mono ?_
    rintro e w2 ⟨rfl, t2⟩
    have s2 : Later w1 w2 := Later.trans (by repeat (first | exact Later.refl _ | apply Later.drew | apply Later.drewN | apply Later.alloc)) t2
    replace LL := LL.trans s2
    replace T := T.trans s2
    replace g := HF.out w2 T
    replace z := Nat.lt_of_lt_of_le z (Below.size s2)
    clear t2 s2
    go_wp2
    go_ret2
    exact ⟨rfl, Later.trans LL (by repeat (first | exact Later.refl _ | apply Later.drew | apply Later.drewN | apply Later.alloc))⟩
  · have e1 : countRes r = (0, 30) := if_neg hv
    have hv' : vB r = false := by simpa using hv
    rw [e1]
    clear e1 hv
    go_enter Try.func26, Try.ntmps26
    go_wp2_with fail
    refine (sValid_calls r _).mono ?_
    rintro e w1 ⟨rfl, t1⟩
    have HF := Lib.hid fun W (hW : Later w1 W) => box3_facts (t1.trans hW)
    have LL : Later w w1 := Later.trans (by repeat (first | exact Later.refl _ | apply Later.drew | apply Later.drewN | apply Later.alloc)) t1
    have g := HF.out w1 (Later.refl _)
    have T := Later.refl w1
    have z := box_size t1
    clear t1
    go_wp2
    go_ret2
    exact ⟨rfl, Later.trans LL (by repeat (first | exact Later.refl _ | apply Later.drew | apply Later.drewN | apply Later.alloc))⟩
theorem sIth_calls (r : Rg) (i : Int) (w : World) :
    Calls Try.prog 31 #[.agg #[.int .i64 (r).lo, .int .i64 (r).hi, .int .i64 (r).st], .int .i64 i] w fun e w' => e = .returned (.tuple #[.int .i64 (ithRes r i).1, .int .i64 (ithRes r i).2]) ∧ Later w w' := by
  by_cases hv : vB r = true
  · have hr := vB_ok hv
    obtain ⟨hx, hs⟩ := rowOf_small hr
    obtain ⟨x1, x2, x3, x4, x5, x6⟩ := hx
    by_cases hi : 0 ≤ i ∧ i ≤ (rowOf r).n - 1
    · have e1 : ithRes r i = (atOf (rowOf r) i, 0) := by rw [ithRes, if_pos hv, if_pos hi]
      obtain ⟨i1, i2⟩ := hi
      obtain ⟨p1, p2⟩ := prod_small (a := i) (b := (rowOf r).s) (by omega) (by omega) x3 x4
      rw [e1]
      clear e1
      go_enter Try.func31, Try.ntmps31
      go_wp2_with fail
      refine (sValid_calls r _).mono ?_
      rintro e w1 ⟨rfl, t1⟩
      have HF := Lib.hid fun W (hW : Later w1 W) => box3_facts (t1.trans hW)
      have LL : Later w w1 := Later.trans (by repeat (first | exact Later.refl _ | apply Later.drew | apply Later.drewN | apply Later.alloc)) t1
      have g := HF.out w1 (Later.refl _)
      have T := Later.refl w1
      have z := box_size t1
      clear t1
      go_wp2_with fail
      refine (rowOf_calls r _ hr).mono ?_
      rintro e w2 ⟨rfl, t2⟩
      have s2 : Later w1 w2 := Later.trans (by repeat (first | exact Later.refl _ | apply Later.drew | apply Later.drewN | apply Later.alloc)) t2
      replace LL := LL.trans s2
      replace T := T.trans s2
      replace g := HF.out w2 T
      replace z := Nat.lt_of_lt_of_le z (Below.size s2)
      clear t2 s2
      go_wp2_with fail
      refine (sWithin_t _ _ _ _ (by omega) (by omega)).mono ?_
      rintro e w' ⟨rfl, rfl⟩
      go_wp2_with fail
      refine (sAt_calls (rowOf r) i _ (by omega) (by omega) x1 x2).mono ?_
      rintro e w3 ⟨rfl, t3⟩
      have s3 : Later w2 w3 := Later.trans (by repeat (first | exact Later.refl _ | apply Later.drew | apply Later.drewN | apply Later.alloc)) t3
      replace LL := LL.trans s3
      replace T := T.trans s3
      replace g := HF.out w3 T
      replace z := Nat.lt_of_lt_of_le z (Below.size s3)
      clear t3 s3
      go_wp2
      go_ret2
      exact ⟨rfl, Later.trans LL (by repeat (first | exact Later.refl _ | apply Later.drew | apply Later.drewN | apply Later.alloc))⟩
    · have e1 : ithRes r i = (0, 2) := by rw [ithRes, if_pos hv, if_neg hi]
      have hi' : i < 0 ∨ (rowOf r).n - 1 < i := by omega
      rw [e1]
      clear e1 hi
      go_enter Try.func31, Try.ntmps31
      go_wp2_with fail
      refine (sValid_calls r _).mono ?_
      rintro e w1 ⟨rfl, t1⟩
      have HF := Lib.hid fun W (hW : Later w1 W) => box3_facts (t1.trans hW)
      have LL : Later w w1 := Later.trans (by repeat (first | exact Later.refl _ | apply Later.drew | apply Later.drewN | apply Later.alloc)) t1
      have g := HF.out w1 (Later.refl _)
      have T := Later.refl w1
      have z := box_size t1
      clear t1
      go_wp2_with fail
      refine (rowOf_calls r _ hr).mono ?_
      rintro e w2 ⟨rfl, t2⟩
      have s2 : Later w1 w2 := Later.trans (by repeat (first | exact Later.refl _ | apply Later.drew | apply Later.drewN | apply Later.alloc)) t2
      replace LL := LL.trans s2
      replace T := T.trans s2
      replace g := HF.out w2 T
      replace z := Nat.lt_of_lt_of_le z (Below.size s2)
      clear t2 s2
      go_wp2_with fail
      refine (sWithin_f _ _ _ _ (by omega)).mono ?_
      rintro e w' ⟨rfl, rfl⟩
      go_wp2
      go_ret2
      exact ⟨rfl, Later.trans LL (by repeat (first | exact Later.refl _ | apply Later.drew | apply Later.drewN | apply Later.alloc))⟩
  · have e1 : ithRes r i = (0, 30) := if_neg hv
    have hv' : vB r = false := by simpa using hv
    rw [e1]
    clear e1 hv
    go_enter Try.func31, Try.ntmps31
    go_wp2_with fail
    refine (sValid_calls r _).mono ?_
    rintro e w1 ⟨rfl, t1⟩
    have HF := Lib.hid fun W (hW : Later w1 W) => box3_facts (t1.trans hW)
    have LL : Later w w1 := Later.trans (by repeat (first | exact Later.refl _ | apply Later.drew | apply Later.drewN | apply Later.alloc)) t1
    have g := HF.out w1 (Later.refl _)
    have T := Later.refl w1
    have z := box_size t1
    clear t1
    go_wp2
    go_ret2
    exact ⟨rfl, Later.trans LL (by repeat (first | exact Later.refl _ | apply Later.drew | apply Later.drewN | apply Later.alloc))⟩
theorem sPlace_calls (r : Rg) (m : Int) (w : World) :
    Calls Try.prog 33 #[.agg #[.int .i64 (r).lo, .int .i64 (r).hi, .int .i64 (r).st], .int .i64 m] w fun e w' => e = .returned (.tuple #[.int .i64 (placeRes r m).1, .int .i64 (placeRes r m).2]) ∧ Later w w' := by
  by_cases hv : vB r = true
  · have hr := vB_ok hv
    obtain ⟨hx, hs⟩ := rowOf_small hr
    by_cases hm : -1000000 ≤ m ∧ m ≤ 1000000
    · obtain ⟨m1, m2⟩ := hm
      cases hb : placeB (rowOf r) m
      · have e1 : placeRes r m = (0, 5) := by rw [placeRes, if_pos hv, if_pos ⟨m1, m2⟩, hb]; rfl
        rw [e1]
        clear e1
        go_enter Try.func33, Try.ntmps33
        go_wp2_with fail
        refine (sValid_calls r _).mono ?_
        rintro e w1 ⟨rfl, t1⟩
        have HF := Lib.hid fun W (hW : Later w1 W) => box3_facts (t1.trans hW)
        have LL : Later w w1 := Later.trans (by repeat (first | exact Later.refl _ | apply Later.drew | apply Later.drewN | apply Later.alloc)) t1
        have g := HF.out w1 (Later.refl _)
        have T := Later.refl w1
        have z := box_size t1
        clear t1
        go_wp2_with fail
        refine (sNear_t _ _ m1 m2).mono ?_
        rintro e w' ⟨rfl, rfl⟩
        go_wp2_with fail
        refine (rowOf_calls r _ hr).mono ?_
        rintro e w2 ⟨rfl, t2⟩
        have s2 : Later w1 w2 := Later.trans (by repeat (first | exact Later.refl _ | apply Later.drew | apply Later.drewN | apply Later.alloc)) t2
        replace LL := LL.trans s2
        replace T := T.trans s2
        replace g := HF.out w2 T
        replace z := Nat.lt_of_lt_of_le z (Below.size s2)
        clear t2 s2
        go_wp2_with fail
        refine (sPlaceRow_calls (rowOf r) m _ hx hs (by omega) (by omega)).mono ?_
        rintro e w3 ⟨rfl, t3⟩
        have s3 : Later w2 w3 := Later.trans (by repeat (first | exact Later.refl _ | apply Later.drew | apply Later.drewN | apply Later.alloc)) t3
        replace LL := LL.trans s3
        replace T := T.trans s3
        replace g := HF.out w3 T
        replace z := Nat.lt_of_lt_of_le z (Below.size s3)
        clear t3 s3
        go_wp2
        go_ret2
        exact ⟨rfl, Later.trans LL (by repeat (first | exact Later.refl _ | apply Later.drew | apply Later.drewN | apply Later.alloc))⟩
      · have e1 : placeRes r m = (placeI (rowOf r) m, 0) := by rw [placeRes, if_pos hv, if_pos ⟨m1, m2⟩, hb]; rfl
        rw [e1]
        clear e1
        go_enter Try.func33, Try.ntmps33
        go_wp2_with fail
        refine (sValid_calls r _).mono ?_
        rintro e w1 ⟨rfl, t1⟩
        have HF := Lib.hid fun W (hW : Later w1 W) => box3_facts (t1.trans hW)
        have LL : Later w w1 := Later.trans (by repeat (first | exact Later.refl _ | apply Later.drew | apply Later.drewN | apply Later.alloc)) t1
        have g := HF.out w1 (Later.refl _)
        have T := Later.refl w1
        have z := box_size t1
        clear t1
        go_wp2_with fail
        refine (sNear_t _ _ m1 m2).mono ?_
        rintro e w' ⟨rfl, rfl⟩
        go_wp2_with fail
        refine (rowOf_calls r _ hr).mono ?_
        rintro e w2 ⟨rfl, t2⟩
        have s2 : Later w1 w2 := Later.trans (by repeat (first | exact Later.refl _ | apply Later.drew | apply Later.drewN | apply Later.alloc)) t2
        replace LL := LL.trans s2
        replace T := T.trans s2
        replace g := HF.out w2 T
        replace z := Nat.lt_of_lt_of_le z (Below.size s2)
        clear t2 s2
        go_wp2_with fail
        refine (sPlaceRow_calls (rowOf r) m _ hx hs (by omega) (by omega)).mono ?_
        rintro e w3 ⟨rfl, t3⟩
        have s3 : Later w2 w3 := Later.trans (by repeat (first | exact Later.refl _ | apply Later.drew | apply Later.drewN | apply Later.alloc)) t3
        replace LL := LL.trans s3
        replace T := T.trans s3
        replace g := HF.out w3 T
        replace z := Nat.lt_of_lt_of_le z (Below.size s3)
        clear t3 s3
        go_wp2
        go_ret2
        exact ⟨rfl, Later.trans LL (by repeat (first | exact Later.refl _ | apply Later.drew | apply Later.drewN | apply Later.alloc))⟩
    · have e1 : placeRes r m = (0, 5) := by rw [placeRes, if_pos hv, if_neg hm]
      have hm' : m < -1000000 ∨ 1000000 < m := by omega
      rw [e1]
      clear e1 hm
      go_enter Try.func33, Try.ntmps33
      go_wp2_with fail
      refine (sValid_calls r _).mono ?_
      rintro e w1 ⟨rfl, t1⟩
      have HF := Lib.hid fun W (hW : Later w1 W) => box3_facts (t1.trans hW)
      have LL : Later w w1 := Later.trans (by repeat (first | exact Later.refl _ | apply Later.drew | apply Later.drewN | apply Later.alloc)) t1
      have g := HF.out w1 (Later.refl _)
      have T := Later.refl w1
      have z := box_size t1
      clear t1
      go_wp2_with fail
      refine (sNear_f _ _ hm').mono ?_
      rintro e w' ⟨rfl, rfl⟩
      go_wp2
      go_ret2
      exact ⟨rfl, Later.trans LL (by repeat (first | exact Later.refl _ | apply Later.drew | apply Later.drewN | apply Later.alloc))⟩
  · have e1 : placeRes r m = (0, 30) := if_neg hv
    have hv' : vB r = false := by simpa using hv
    rw [e1]
    clear e1 hv
    go_enter Try.func33, Try.ntmps33
    go_wp2_with fail
    refine (sValid_calls r _).mono ?_
    rintro e w1 ⟨rfl, t1⟩
    have HF := Lib.hid fun W (hW : Later w1 W) => box3_facts (t1.trans hW)
    have LL : Later w w1 := Later.trans (by repeat (first | exact Later.refl _ | apply Later.drew | apply Later.drewN | apply Later.alloc)) t1
    have g := HF.out w1 (Later.refl _)
    have T := Later.refl w1
    have z := box_size t1
    clear t1
    go_wp2
    go_ret2
    exact ⟨rfl, Later.trans LL (by repeat (first | exact Later.refl _ | apply Later.drew | apply Later.drewN | apply Later.alloc))⟩
theorem sHas_calls (r : Rg) (m : Int) (w : World) :
    Calls Try.prog 35 #[.agg #[.int .i64 (r).lo, .int .i64 (r).hi, .int .i64 (r).st], .int .i64 m] w fun e w' => e = .returned (.tuple #[.bool (hasRes r m).1, .int .i64 (hasRes r m).2]) ∧ Later w w' := by
  rcases placeRes_cases r m with ⟨hE, hH⟩ | ⟨hE, hH⟩ | ⟨hE, hH⟩
  all_goals
    rw [hH]
    clear hH
    go_enter Try.func35, Try.ntmps35
    go_wp2_with fail
    refine (sPlace_calls r m _).mono ?_
    rintro e w1 ⟨rfl, t1⟩
    have HF := Lib.hid fun W (hW : Later w1 W) => box3_facts (t1.trans hW)
    have LL : Later w w1 := Later.trans (by repeat (first | exact Later.refl _ | apply Later.drew | apply Later.drewN | apply Later.alloc)) t1
    have g := HF.out w1 (Later.refl _)
    have T := Later.refl w1
    have z := box_size t1
    clear t1
    go_wp2
    go_ret2
    exact ⟨rfl, Later.trans LL (by repeat (first | exact Later.refl _ | apply Later.drew | apply Later.drewN | apply Later.alloc))⟩
end Go.Proofs.Ytoeabdanldiccaa
