/- Walks of Take, Drop and Reverse, and of the reference's. -/
import Derived.Test.YtoeabdanldiccaaSpanG
import Derived.Test.YtoeabdanldiccaaSpanMath3
namespace Go.Proofs.Ytoeabdanldiccaa
open Go.RowKit
set_option linter.unusedVariables false
theorem rCut_calls (x : Rw) (k : Int) (w : World) (h5 : 0 ≤ x.n) (h6 : x.n ≤ 4194304) (hk : okI k) :
    Calls Try.prog 65 #[.agg #[.int .i64 (x).f, .int .i64 (x).s, .int .i64 (x).n], .int .i64 k] w fun e w' => e = .returned (.tuple #[.int .i64 (cutN x k), .bool (decide (k < 0))]) ∧ Later w w' := by
  obtain ⟨k1, k2⟩ := hk
  by_cases hp : 0 ≤ k
  · have e3 : decide (k < 0) = false := by simp; omega
    by_cases hm : k ≤ x.n
    · have e2 : cutN x k = k := by rw [cutN, if_pos hp, if_pos hm]
      rw [e2, e3]
      clear e2 e3
      go_enter Try.func65, Try.ntmps65
      go_wp2
      go_ret2
      exact ⟨rfl, (by repeat (first | exact Later.refl _ | apply Later.drew | apply Later.drewN | apply Later.alloc))⟩
    · have e2 : cutN x k = x.n := by rw [cutN, if_pos hp, if_neg hm]
      rw [e2, e3]
      clear e2 e3
      go_enter Try.func65, Try.ntmps65
      go_wp2
      go_ret2
      exact ⟨rfl, (by repeat (first | exact Later.refl _ | apply Later.drew | apply Later.drewN | apply Later.alloc))⟩
  · have e3 : decide (k < 0) = true := by simp; omega
    by_cases hm : k < -x.n
    · have e2 : cutN x k = x.n := by rw [cutN, if_neg hp, if_pos hm]
      rw [e2, e3]
      clear e2 e3
      go_enter Try.func65, Try.ntmps65
      go_wp2
      go_ret2
      exact ⟨rfl, (by repeat (first | exact Later.refl _ | apply Later.drew | apply Later.drewN | apply Later.alloc))⟩
    · have e2 : cutN x k = -k := by rw [cutN, if_neg hp, if_neg hm]
      rw [e2, e3]
      clear e2 e3
      go_enter Try.func65, Try.ntmps65
      go_wp2
      go_ret2
      exact ⟨rfl, (by repeat (first | exact Later.refl _ | apply Later.drew | apply Later.drewN | apply Later.alloc))⟩
set_option maxHeartbeats 1000000 in
theorem sReverse_calls (r : Rg) (w : World) :
    Calls Try.prog 41 #[.agg #[.int .i64 (r).lo, .int .i64 (r).hi, .int .i64 (r).st]] w fun e w' => e = .returned (.tuple #[.agg #[.int .i64 ((revRes r).1).lo, .int .i64 ((revRes r).1).hi, .int .i64 ((revRes r).1).st], .int .i64 (revRes r).2]) ∧ Later w w' := by
  by_cases hv : vB r = true
  · have hr := vB_ok hv
    have e1 : revRes r = (doneV (backOf (rowOf r)), doneE (backOf (rowOf r))) := by rw [revRes, if_pos hv]
    obtain ⟨hx, hs⟩ := rowOf_small hr
    obtain ⟨hb, hbs⟩ := back_tame (row_tame hr)
    rw [e1]
    clear e1
    go_enter Try.func41, Try.ntmps41
    go_wp2_with fail
    refine (sValid_calls r _).mono ?_
    rintro e w1 ⟨rfl, t1⟩
    have HF := Lib.hid fun W (hW : Later w1 W) => pair3_facts rfl (t1.trans hW)
    have LL : Later w w1 := Later.trans (by repeat (first | exact Later.refl _ | apply Later.drew | apply Later.drewN | apply Later.alloc)) t1
    have g := HF.out w1 (Later.refl _)
    have T := Later.refl w1
    have z := pair_size t1
    have z0 := Nat.lt_of_succ_lt z
    clear t1
    go_wp2_with fail
    refine (rowOf_calls r _ hr).mono ?_
    rintro e w2 ⟨rfl, t2⟩
    have s2 : Later w1 w2 := Later.trans (by repeat (first | exact Later.refl _ | apply Later.drew | apply Later.drewN | apply Later.alloc)) t2
    replace LL := LL.trans s2
    replace T := T.trans s2
    replace g := HF.out w2 T
    replace z := Nat.lt_of_lt_of_le z (Below.size s2)
    replace z0 := Nat.lt_of_succ_lt z
    clear t2 s2
    go_wp2_with fail
    refine (sBack_calls (rowOf r) _ hx).mono ?_
    rintro e w3 ⟨rfl, t3⟩
    have s3 : Later w2 w3 := Later.trans (by repeat (first | exact Later.refl _ | apply Later.drew | apply Later.drewN | apply Later.alloc)) t3
    replace LL := LL.trans s3
    replace T := T.trans s3
    replace g := HF.out w3 T
    replace z := Nat.lt_of_lt_of_le z (Below.size s3)
    replace z0 := Nat.lt_of_succ_lt z
    clear t3 s3
    go_wp2_with fail
    refine (sDone_calls (backOf (rowOf r)) _ hb hbs).mono ?_
    rintro e w4 ⟨rfl, t4⟩
    have s4 : Later w3 w4 := Later.trans (by repeat (first | exact Later.refl _ | apply Later.drew | apply Later.drewN | apply Later.alloc)) t4
    replace LL := LL.trans s4
    replace T := T.trans s4
    replace g := HF.out w4 T
    replace z := Nat.lt_of_lt_of_le z (Below.size s4)
    replace z0 := Nat.lt_of_succ_lt z
    clear t4 s4
    go_wp2
    exact bodyPost_ret (v := .tuple #[_, _]) (by simp [results, Try.results41, go_sem, g]) rfl ⟨rfl, Later.set (Later.set (Later.set LL (by simp) _) (by simp) _) (by simp) _⟩
  · have e1 : revRes r = (⟨0, 0, 0⟩, 30) := if_neg hv
    have hv' : vB r = false := by simpa using hv
    rw [e1]
    clear e1 hv
    go_enter Try.func41, Try.ntmps41
    go_wp2_with fail
    refine (sValid_calls r _).mono ?_
    rintro e w1 ⟨rfl, t1⟩
    have HF := Lib.hid fun W (hW : Later w1 W) => pair3_facts rfl (t1.trans hW)
    have LL : Later w w1 := Later.trans (by repeat (first | exact Later.refl _ | apply Later.drew | apply Later.drewN | apply Later.alloc)) t1
    have g := HF.out w1 (Later.refl _)
    have T := Later.refl w1
    have z := pair_size t1
    have z0 := Nat.lt_of_succ_lt z
    clear t1
    go_wp2
    exact bodyPost_ret (v := .tuple #[_, _]) (by simp [results, Try.results41, go_sem, g]) rfl ⟨rfl, Later.set (Later.set (Later.set LL (by simp) _) (by simp) _) (by simp) _⟩
set_option maxHeartbeats 1000000 in
theorem rReverse_calls (r : Rg) (w : World) :
    Calls Try.prog 42 #[.agg #[.int .i64 (r).lo, .int .i64 (r).hi, .int .i64 (r).st]] w fun e w' => e = .returned (.tuple #[.agg #[.int .i64 ((revRes r).1).lo, .int .i64 ((revRes r).1).hi, .int .i64 ((revRes r).1).st], .int .i64 (revRes r).2]) ∧ Later w w' := by
  by_cases hv : vB r = true
  · have hr := vB_ok hv
    have e1 : revRes r = (doneV (backOf (refOf r)), doneE (backOf (refOf r))) := by rw [revRes, if_pos hv]; obtain ⟨d1, d2⟩ := rev_ref hr; rw [d1, d2]
    obtain ⟨hx, hs⟩ := refOf_small hr
    obtain ⟨hb, hbs⟩ := back_tame (ref_tame hr)
    rw [e1]
    clear e1
    go_enter Try.func42, Try.ntmps42
    go_wp2_with fail
    refine (rValid_calls r _).mono ?_
    rintro e w1 ⟨rfl, t1⟩
    have HF := Lib.hid fun W (hW : Later w1 W) => pair3_facts rfl (t1.trans hW)
    have LL : Later w w1 := Later.trans (by repeat (first | exact Later.refl _ | apply Later.drew | apply Later.drewN | apply Later.alloc)) t1
    have g := HF.out w1 (Later.refl _)
    have T := Later.refl w1
    have z := pair_size t1
    have z0 := Nat.lt_of_succ_lt z
    clear t1
    go_wp2_with fail
    refine (rOf_calls r _ hr).mono ?_
    rintro e w2 ⟨rfl, t2⟩
    have s2 : Later w1 w2 := Later.trans (by repeat (first | exact Later.refl _ | apply Later.drew | apply Later.drewN | apply Later.alloc)) t2
    replace LL := LL.trans s2
    replace T := T.trans s2
    replace g := HF.out w2 T
    replace z := Nat.lt_of_lt_of_le z (Below.size s2)
    replace z0 := Nat.lt_of_succ_lt z
    clear t2 s2
    go_wp2_with fail
    refine (rBack_calls (refOf r) _ hx).mono ?_
    rintro e w3 ⟨rfl, t3⟩
    have s3 : Later w2 w3 := Later.trans (by repeat (first | exact Later.refl _ | apply Later.drew | apply Later.drewN | apply Later.alloc)) t3
    replace LL := LL.trans s3
    replace T := T.trans s3
    replace g := HF.out w3 T
    replace z := Nat.lt_of_lt_of_le z (Below.size s3)
    replace z0 := Nat.lt_of_succ_lt z
    clear t3 s3
    go_wp2_with fail
    refine (rMade_calls (backOf (refOf r)) _ hb hbs).mono ?_
    rintro e w4 ⟨rfl, t4⟩
    have s4 : Later w3 w4 := Later.trans (by repeat (first | exact Later.refl _ | apply Later.drew | apply Later.drewN | apply Later.alloc)) t4
    replace LL := LL.trans s4
    replace T := T.trans s4
    replace g := HF.out w4 T
    replace z := Nat.lt_of_lt_of_le z (Below.size s4)
    replace z0 := Nat.lt_of_succ_lt z
    clear t4 s4
    go_wp2
    exact bodyPost_ret (v := .tuple #[_, _]) (by simp [results, Try.results42, go_sem, g]) rfl ⟨rfl, Later.set (Later.set (Later.set LL (by simp) _) (by simp) _) (by simp) _⟩
  · have e1 : revRes r = (⟨0, 0, 0⟩, 30) := if_neg hv
    have hv' : vB r = false := by simpa using hv
    rw [e1]
    clear e1 hv
    go_enter Try.func42, Try.ntmps42
    go_wp2_with fail
    refine (rValid_calls r _).mono ?_
    rintro e w1 ⟨rfl, t1⟩
    have HF := Lib.hid fun W (hW : Later w1 W) => pair3_facts rfl (t1.trans hW)
    have LL : Later w w1 := Later.trans (by repeat (first | exact Later.refl _ | apply Later.drew | apply Later.drewN | apply Later.alloc)) t1
    have g := HF.out w1 (Later.refl _)
    have T := Later.refl w1
    have z := pair_size t1
    have z0 := Nat.lt_of_succ_lt z
    clear t1
    go_wp2
    exact bodyPost_ret (v := .tuple #[_, _]) (by simp [results, Try.results42, go_sem, g]) rfl ⟨rfl, Later.set (Later.set (Later.set LL (by simp) _) (by simp) _) (by simp) _⟩
set_option maxHeartbeats 1000000 in
theorem sTake_calls (r : Rg) (k : Int) (w : World) (hk : okI k) :
    Calls Try.prog 23 #[.agg #[.int .i64 (r).lo, .int .i64 (r).hi, .int .i64 (r).st], .int .i64 k] w fun e w' => e = .returned (.tuple #[.agg #[.int .i64 ((takeRes r k).1).lo, .int .i64 ((takeRes r k).1).hi, .int .i64 ((takeRes r k).1).st], .int .i64 (takeRes r k).2]) ∧ Later w w' := by
  by_cases hv : vB r = true
  · have hr := vB_ok hv
    have e1 : takeRes r k = (doneV (takeRow (rowOf r) k), doneE (takeRow (rowOf r) k)) := by rw [takeRes, if_pos hv]
    have hx' := (rowOf_small hr).1
    obtain ⟨ht, hts⟩ := take_tame (row_tame hr) k
    obtain ⟨hx, hs⟩ := rowOf_small hr
    obtain ⟨n1, n2⟩ := rowOf_n_bd hr
    obtain ⟨c1, c2, c3, c4, c5⟩ := cut_bd (x := rowOf r) n1 k
    obtain ⟨y1, y2, y3, y4, y5, y6⟩ := hx
    have st := (row_tame hr).2.2
    obtain ⟨p1, p2⟩ := prod_row (i := cutF (rowOf r) k) (s := (rowOf r).s) c1 (by omega) st.1 st.2.1
    clear st
    rw [e1]
    clear e1
    go_enter Try.func23, Try.ntmps23
    go_wp2_with fail
    refine (sValid_calls r _).mono ?_
    rintro e w1 ⟨rfl, t1⟩
    have HF := Lib.hid fun W (hW : Later w1 W) => pair3_facts rfl (t1.trans hW)
    have LL : Later w w1 := Later.trans (by repeat (first | exact Later.refl _ | apply Later.drew | apply Later.drewN | apply Later.alloc)) t1
    have g := HF.out w1 (Later.refl _)
    have T := Later.refl w1
    have z := pair_size t1
    have z0 := Nat.lt_of_succ_lt z
    clear t1
    go_wp2_with fail
    refine (rowOf_calls r _ hr).mono ?_
    rintro e w2 ⟨rfl, t2⟩
    have s2 : Later w1 w2 := Later.trans (by repeat (first | exact Later.refl _ | apply Later.drew | apply Later.drewN | apply Later.alloc)) t2
    replace LL := LL.trans s2
    replace T := T.trans s2
    replace g := HF.out w2 T
    replace z := Nat.lt_of_lt_of_le z (Below.size s2)
    replace z0 := Nat.lt_of_succ_lt z
    clear t2 s2
    go_wp2_with fail
    refine (sCut_calls (rowOf r) k _ hx' hk).mono ?_
    rintro e w3 ⟨rfl, t3⟩
    have s3 : Later w2 w3 := Later.trans (by repeat (first | exact Later.refl _ | apply Later.drew | apply Later.drewN | apply Later.alloc)) t3
    replace LL := LL.trans s3
    replace T := T.trans s3
    replace g := HF.out w3 T
    replace z := Nat.lt_of_lt_of_le z (Below.size s3)
    replace z0 := Nat.lt_of_succ_lt z
    clear s3
    have gx := box3_facts t3
    have zx := box_size t3
    clear t3
    go_wp2_with fail
    refine (sPart_calls (rowOf r) (cutF (rowOf r) k) (cutN (rowOf r) k) _ (by omega) (by omega) y1 y2).mono ?_
    rintro e w4 ⟨rfl, t4⟩
    have s4 : Later w3 w4 := Later.trans (by repeat (first | exact Later.refl _ | apply Later.drew | apply Later.drewN | apply Later.alloc)) t4
    replace LL := LL.trans s4
    replace T := T.trans s4
    replace g := HF.out w4 T
    replace z := Nat.lt_of_lt_of_le z (Below.size s4)
    replace z0 := Nat.lt_of_succ_lt z
    clear t4 s4
    go_wp2_with fail
    refine (sDone_calls (takeRow (rowOf r) k) _ ht hts).mono ?_
    rintro e w5 ⟨rfl, t5⟩
    have s5 : Later w4 w5 := Later.trans (by repeat (first | exact Later.refl _ | apply Later.drew | apply Later.drewN | apply Later.alloc)) t5
    replace LL := LL.trans s5
    replace T := T.trans s5
    replace g := HF.out w5 T
    replace z := Nat.lt_of_lt_of_le z (Below.size s5)
    replace z0 := Nat.lt_of_succ_lt z
    clear t5 s5
    go_wp2
    exact bodyPost_ret (v := .tuple #[_, _]) (by simp [results, Try.results23, go_sem, g]) rfl ⟨rfl, Later.set (Later.set (Later.set LL (by simp) _) (by simp) _) (by simp) _⟩
  · have e1 : takeRes r k = (⟨0, 0, 0⟩, 30) := if_neg hv
    have hv' : vB r = false := by simpa using hv
    rw [e1]
    clear e1 hv
    go_enter Try.func23, Try.ntmps23
    go_wp2_with fail
    refine (sValid_calls r _).mono ?_
    rintro e w1 ⟨rfl, t1⟩
    have HF := Lib.hid fun W (hW : Later w1 W) => pair3_facts rfl (t1.trans hW)
    have LL : Later w w1 := Later.trans (by repeat (first | exact Later.refl _ | apply Later.drew | apply Later.drewN | apply Later.alloc)) t1
    have g := HF.out w1 (Later.refl _)
    have T := Later.refl w1
    have z := pair_size t1
    have z0 := Nat.lt_of_succ_lt z
    clear t1
    go_wp2
    exact bodyPost_ret (v := .tuple #[_, _]) (by simp [results, Try.results23, go_sem, g]) rfl ⟨rfl, Later.set (Later.set (Later.set LL (by simp) _) (by simp) _) (by simp) _⟩
end Go.Proofs.Ytoeabdanldiccaa
