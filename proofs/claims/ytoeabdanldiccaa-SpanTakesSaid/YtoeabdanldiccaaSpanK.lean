/- Walks of Drop, and of the reference's Take and Drop. -/
import Derived.Test.YtoeabdanldiccaaSpanJ
namespace Go.Proofs.Ytoeabdanldiccaa
open Go.RowKit
set_option linter.unusedVariables false
set_option maxHeartbeats 1000000 in
theorem sDrop_calls (r : Rg) (k : Int) (w : World) (hk : okI k) :
    Calls Try.prog 24 #[.agg #[.int .i64 (r).lo, .int .i64 (r).hi, .int .i64 (r).st], .int .i64 k] w fun e w' => e = .returned (.tuple #[.agg #[.int .i64 ((dropRes r k).1).lo, .int .i64 ((dropRes r k).1).hi, .int .i64 ((dropRes r k).1).st], .int .i64 (dropRes r k).2]) ∧ Later w w' := by
  by_cases hv : vB r = true
  · have hr := vB_ok hv
    have hx' := (rowOf_small hr).1
    obtain ⟨hx, hs⟩ := rowOf_small hr
    obtain ⟨n1, n2⟩ := rowOf_n_bd hr
    obtain ⟨c1, c2, c3, c4, c5⟩ := cut_bd (x := rowOf r) n1 k
    obtain ⟨y1, y2, y3, y4, y5, y6⟩ := hx
    have st := (row_tame hr).2.2
    by_cases hk0 : k < 0
    · have e1 : dropRes r k = (doneV (partOf (rowOf r) 0 (cutF (rowOf r) k)), doneE (partOf (rowOf r) 0 (cutF (rowOf r) k))) := by rw [dropRes, if_pos hv, dropRow, if_pos hk0]
      obtain ⟨ht, hts⟩ := part_tame (row_tame hr) (i := 0) (m := cutF (rowOf r) k) (by omega) c1 (by omega)
      have p0 : 0 * (rowOf r).s = 0 := Int.zero_mul _
      have p1 : -9000000000000 ≤ 0 * (rowOf r).s := by omega
      have p2 : 0 * (rowOf r).s ≤ 9000000000000 := by omega
      clear st p0 c4 c5
      rw [e1]
      clear e1
      by_cases hp : 0 < cutF (rowOf r) k
      · skip
        go_enter Try.func24, Try.ntmps24
        go_wp2_with fail
        refine (sValid_calls r _).mono ?_
        rintro e w1 ⟨rfl, t1⟩
        have HF := Lib.hid fun W (hW : Later w1 W) => pair3_facts rfl (t1.trans hW)
        have LL : Later w w1 := Later.trans (by repeat (first | exact Later.refl _ | apply Later.drew | apply Later.drewN | apply Later.alloc)) t1
        have g := HF.out w1 (Later.refl _)
        have T := Later.refl w1
        have z := pair_size t1
        have z0 := Nat.lt_of_succ_lt z
        clear t1
        go_wp2_with fail
        refine (rowOf_calls r _ hr).mono ?_
        rintro e w2 ⟨rfl, t2⟩
        have s2 : Later w1 w2 := Later.trans (by repeat (first | exact Later.refl _ | apply Later.drew | apply Later.drewN | apply Later.alloc)) t2
        replace LL := LL.trans s2
        replace T := T.trans s2
        replace g := HF.out w2 T
        replace z := Nat.lt_of_lt_of_le z (Below.size s2)
        replace z0 := Nat.lt_of_succ_lt z
        clear t2 s2
        go_wp2_with fail
        refine (sCut_calls (rowOf r) k _ hx' hk).mono ?_
        rintro e w3 ⟨rfl, t3⟩
        have s3 : Later w2 w3 := Later.trans (by repeat (first | exact Later.refl _ | apply Later.drew | apply Later.drewN | apply Later.alloc)) t3
        replace LL := LL.trans s3
        replace T := T.trans s3
        replace g := HF.out w3 T
        replace z := Nat.lt_of_lt_of_le z (Below.size s3)
        replace z0 := Nat.lt_of_succ_lt z
        clear s3
        have gx := box3_facts t3
        have zx := box_size t3
        clear t3
        go_wp2_with fail
        refine (sPart_calls (rowOf r) 0 (cutF (rowOf r) k) _ p1 p2 y1 y2).mono ?_
        rintro e w4 ⟨rfl, t4⟩
        have s4 : Later w3 w4 := Later.trans (by repeat (first | exact Later.refl _ | apply Later.drew | apply Later.drewN | apply Later.alloc)) t4
        replace LL := LL.trans s4
        replace T := T.trans s4
        replace g := HF.out w4 T
        replace z := Nat.lt_of_lt_of_le z (Below.size s4)
        replace z0 := Nat.lt_of_succ_lt z
        clear t4 s4
        go_wp2_with fail
        refine (sDone_calls (partOf (rowOf r) 0 (cutF (rowOf r) k)) _ ht hts).mono ?_
        rintro e w5 ⟨rfl, t5⟩
        have s5 : Later w4 w5 := Later.trans (by repeat (first | exact Later.refl _ | apply Later.drew | apply Later.drewN | apply Later.alloc)) t5
        replace LL := LL.trans s5
        replace T := T.trans s5
        replace g := HF.out w5 T
        replace z := Nat.lt_of_lt_of_le z (Below.size s5)
        replace z0 := Nat.lt_of_succ_lt z
        clear t5 s5
        go_wp2
        exact bodyPost_ret (v := .tuple #[_, _]) (by simp [results, Try.results24, go_sem, g]) rfl ⟨rfl, Later.set (Later.set (Later.set LL (by simp) _) (by simp) _) (by simp) _⟩
      · skip
        go_enter Try.func24, Try.ntmps24
        go_wp2_with fail
        refine (sValid_calls r _).mono ?_
        rintro e w1 ⟨rfl, t1⟩
        have HF := Lib.hid fun W (hW : Later w1 W) => pair3_facts rfl (t1.trans hW)
        have LL : Later w w1 := Later.trans (by repeat (first | exact Later.refl _ | apply Later.drew | apply Later.drewN | apply Later.alloc)) t1
        have g := HF.out w1 (Later.refl _)
        have T := Later.refl w1
        have z := pair_size t1
        have z0 := Nat.lt_of_succ_lt z
        clear t1
        go_wp2_with fail
        refine (rowOf_calls r _ hr).mono ?_
        rintro e w2 ⟨rfl, t2⟩
        have s2 : Later w1 w2 := Later.trans (by repeat (first | exact Later.refl _ | apply Later.drew | apply Later.drewN | apply Later.alloc)) t2
        replace LL := LL.trans s2
        replace T := T.trans s2
        replace g := HF.out w2 T
        replace z := Nat.lt_of_lt_of_le z (Below.size s2)
        replace z0 := Nat.lt_of_succ_lt z
        clear t2 s2
        go_wp2_with fail
        refine (sCut_calls (rowOf r) k _ hx' hk).mono ?_
        rintro e w3 ⟨rfl, t3⟩
        have s3 : Later w2 w3 := Later.trans (by repeat (first | exact Later.refl _ | apply Later.drew | apply Later.drewN | apply Later.alloc)) t3
        replace LL := LL.trans s3
        replace T := T.trans s3
        replace g := HF.out w3 T
        replace z := Nat.lt_of_lt_of_le z (Below.size s3)
        replace z0 := Nat.lt_of_succ_lt z
        clear s3
        have gx := box3_facts t3
        have zx := box_size t3
        clear t3
        go_wp2_with fail
        refine (sPart_calls (rowOf r) 0 (cutF (rowOf r) k) _ p1 p2 y1 y2).mono ?_
        rintro e w4 ⟨rfl, t4⟩
        have s4 : Later w3 w4 := Later.trans (by repeat (first | exact Later.refl _ | apply Later.drew | apply Later.drewN | apply Later.alloc)) t4
        replace LL := LL.trans s4
        replace T := T.trans s4
        replace g := HF.out w4 T
        replace z := Nat.lt_of_lt_of_le z (Below.size s4)
        replace z0 := Nat.lt_of_succ_lt z
        clear t4 s4
        go_wp2_with fail
        refine (sDone_calls (partOf (rowOf r) 0 (cutF (rowOf r) k)) _ ht hts).mono ?_
        rintro e w5 ⟨rfl, t5⟩
        have s5 : Later w4 w5 := Later.trans (by repeat (first | exact Later.refl _ | apply Later.drew | apply Later.drewN | apply Later.alloc)) t5
        replace LL := LL.trans s5
        replace T := T.trans s5
        replace g := HF.out w5 T
        replace z := Nat.lt_of_lt_of_le z (Below.size s5)
        replace z0 := Nat.lt_of_succ_lt z
        clear t5 s5
        go_wp2
        exact bodyPost_ret (v := .tuple #[_, _]) (by simp [results, Try.results24, go_sem, g]) rfl ⟨rfl, Later.set (Later.set (Later.set LL (by simp) _) (by simp) _) (by simp) _⟩
    · have e1 : dropRes r k = (doneV (partOf (rowOf r) (cutN (rowOf r) k) ((rowOf r).n - cutN (rowOf r) k)), doneE (partOf (rowOf r) (cutN (rowOf r) k) ((rowOf r).n - cutN (rowOf r) k))) := by rw [dropRes, if_pos hv, dropRow, if_neg hk0]
      obtain ⟨ht, hts⟩ := part_tame (row_tame hr) (i := cutN (rowOf r) k) (m := (rowOf r).n - cutN (rowOf r) k) c2 (by omega) (by omega)
      obtain ⟨p1, p2⟩ := prod_row (i := cutN (rowOf r) k) (s := (rowOf r).s) c2 (by omega) st.1 st.2.1
      have hp : ¬ 0 < cutF (rowOf r) k := by have := c5 (by omega); omega
      clear st c4 c5
      rw [e1]
      clear e1
      go_enter Try.func24, Try.ntmps24
      go_wp2_with fail
      refine (sValid_calls r _).mono ?_
      rintro e w1 ⟨rfl, t1⟩
      have HF := Lib.hid fun W (hW : Later w1 W) => pair3_facts rfl (t1.trans hW)
      have LL : Later w w1 := Later.trans (by repeat (first | exact Later.refl _ | apply Later.drew | apply Later.drewN | apply Later.alloc)) t1
      have g := HF.out w1 (Later.refl _)
      have T := Later.refl w1
      have z := pair_size t1
      have z0 := Nat.lt_of_succ_lt z
      clear t1
      go_wp2_with fail
      refine (rowOf_calls r _ hr).mono ?_
      rintro e w2 ⟨rfl, t2⟩
      have s2 : Later w1 w2 := Later.trans (by repeat (first | exact Later.refl _ | apply Later.drew | apply Later.drewN | apply Later.alloc)) t2
      replace LL := LL.trans s2
      replace T := T.trans s2
      replace g := HF.out w2 T
      replace z := Nat.lt_of_lt_of_le z (Below.size s2)
      replace z0 := Nat.lt_of_succ_lt z
      clear t2 s2
      go_wp2_with fail
      refine (sCut_calls (rowOf r) k _ hx' hk).mono ?_
      rintro e w3 ⟨rfl, t3⟩
      have s3 : Later w2 w3 := Later.trans (by repeat (first | exact Later.refl _ | apply Later.drew | apply Later.drewN | apply Later.alloc)) t3
      replace LL := LL.trans s3
      replace T := T.trans s3
      replace g := HF.out w3 T
      replace z := Nat.lt_of_lt_of_le z (Below.size s3)
      replace z0 := Nat.lt_of_succ_lt z
      clear s3
      have gx := box3_facts t3
      have zx := box_size t3
      clear t3
      go_wp2_with fail
      refine (sPart_calls (rowOf r) (cutN (rowOf r) k) ((rowOf r).n - cutN (rowOf r) k) _ (by omega) (by omega) y1 y2).mono ?_
      rintro e w4 ⟨rfl, t4⟩
      have s4 : Later w3 w4 := Later.trans (by repeat (first | exact Later.refl _ | apply Later.drew | apply Later.drewN | apply Later.alloc)) t4
      replace LL := LL.trans s4
      replace T := T.trans s4
      replace g := HF.out w4 T
      replace z := Nat.lt_of_lt_of_le z (Below.size s4)
      replace z0 := Nat.lt_of_succ_lt z
      clear t4 s4
      go_wp2_with fail
      refine (sDone_calls (partOf (rowOf r) (cutN (rowOf r) k) ((rowOf r).n - cutN (rowOf r) k)) _ ht hts).mono ?_
      rintro e w5 ⟨rfl, t5⟩
      have s5 : Later w4 w5 := Later.trans (by repeat (first | exact Later.refl _ | apply Later.drew | apply Later.drewN | apply Later.alloc)) t5
      replace LL := LL.trans s5
      replace T := T.trans s5
      replace g := HF.out w5 T
      replace z := Nat.lt_of_lt_of_le z (Below.size s5)
      replace z0 := Nat.lt_of_succ_lt z
      clear t5 s5
      go_wp2
      exact bodyPost_ret (v := .tuple #[_, _]) (by simp [results, Try.results24, go_sem, g]) rfl ⟨rfl, Later.set (Later.set (Later.set LL (by simp) _) (by simp) _) (by simp) _⟩
  · have e1 : dropRes r k = (⟨0, 0, 0⟩, 30) := if_neg hv
    have hv' : vB r = false := by simpa using hv
    rw [e1]
    clear e1 hv
    go_enter Try.func24, Try.ntmps24
    go_wp2_with fail
    refine (sValid_calls r _).mono ?_
    rintro e w1 ⟨rfl, t1⟩
    have HF := Lib.hid fun W (hW : Later w1 W) => pair3_facts rfl (t1.trans hW)
    have LL : Later w w1 := Later.trans (by repeat (first | exact Later.refl _ | apply Later.drew | apply Later.drewN | apply Later.alloc)) t1
    have g := HF.out w1 (Later.refl _)
    have T := Later.refl w1
    have z := pair_size t1
    have z0 := Nat.lt_of_succ_lt z
    clear t1
    go_wp2
    exact bodyPost_ret (v := .tuple #[_, _]) (by simp [results, Try.results24, go_sem, g]) rfl ⟨rfl, Later.set (Later.set (Later.set LL (by simp) _) (by simp) _) (by simp) _⟩
set_option maxHeartbeats 1000000 in
theorem rTake_calls (r : Rg) (k : Int) (w : World) (hk : okI k) :
    Calls Try.prog 39 #[.agg #[.int .i64 (r).lo, .int .i64 (r).hi, .int .i64 (r).st], .int .i64 k] w fun e w' => e = .returned (.tuple #[.agg #[.int .i64 ((takeRes r k).1).lo, .int .i64 ((takeRes r k).1).hi, .int .i64 ((takeRes r k).1).st], .int .i64 (takeRes r k).2]) ∧ Later w w' := by
  by_cases hv : vB r = true
  · have hr := vB_ok hv
    have st := (ref_tame hr).2.2
    obtain ⟨hx, hs⟩ := refOf_small hr
    obtain ⟨n1, n2⟩ := rowOf_n_bd hr
    obtain ⟨c1, c2, c3, c4, c5⟩ := cut_bd (x := refOf r) n1 k
    obtain ⟨y1, y2, y3, y4, y5, y6⟩ := hx
    have f1 : 0 ≤ (refOf r).n := n1
    have f2 : (refOf r).n ≤ 2000001 := n2
    have f3 : (refOf r).n ≤ 4194304 := by omega
    obtain ⟨d1, d2⟩ := take_ref hr k
    have e0 : takeRes r k = (doneV (takeRow (refOf r) k), doneE (takeRow (refOf r) k)) := by rw [takeRes, if_pos hv, d1, d2]
    clear d1 d2
    by_cases hk0 : k < 0
    · have hd : decide (k < 0) = true := by simp [hk0]
      have c4' := c4 hk0
      have e1 : takeRow (refOf r) k = partOf (refOf r) ((refOf r).n - cutN (refOf r) k) (cutN (refOf r) k) := by rw [takeRow, c4']
      obtain ⟨ht, hts⟩ := take_tame (ref_tame hr) k
      obtain ⟨p1, p2⟩ := prod_row (i := (refOf r).n - cutN (refOf r) k) (s := (refOf r).s) (by omega) (by omega) st.1 st.2.1
      rw [e1] at ht hts
      rw [e0, e1]
      clear e1 e0 c4' c4 c5
      go_enter Try.func39, Try.ntmps39
      go_wp2_with fail
      refine (rValid_calls r _).mono ?_
      rintro e w1 ⟨rfl, t1⟩
      have HF := Lib.hid fun W (hW : Later w1 W) => pair3_facts rfl (t1.trans hW)
      have LL : Later w w1 := Later.trans (by repeat (first | exact Later.refl _ | apply Later.drew | apply Later.drewN | apply Later.alloc)) t1
      have g := HF.out w1 (Later.refl _)
      have T := Later.refl w1
      have z := pair_size t1
      have z0 := Nat.lt_of_succ_lt z
      clear t1
      go_wp2_with fail
      refine (rOf_calls r _ hr).mono ?_
      rintro e w2 ⟨rfl, t2⟩
      have s2 : Later w1 w2 := Later.trans (by repeat (first | exact Later.refl _ | apply Later.drew | apply Later.drewN | apply Later.alloc)) t2
      replace LL := LL.trans s2
      replace T := T.trans s2
      replace g := HF.out w2 T
      replace z := Nat.lt_of_lt_of_le z (Below.size s2)
      replace z0 := Nat.lt_of_succ_lt z
      clear t2 s2
      go_wp2_with fail
      refine (rCut_calls (refOf r) k _ f1 f3 hk).mono ?_
      rintro e w3 ⟨rfl, t3⟩
      have s3 : Later w2 w3 := Later.trans (by repeat (first | exact Later.refl _ | apply Later.drew | apply Later.drewN | apply Later.alloc)) t3
      replace LL := LL.trans s3
      replace T := T.trans s3
      replace g := HF.out w3 T
      replace z := Nat.lt_of_lt_of_le z (Below.size s3)
      replace z0 := Nat.lt_of_succ_lt z
      clear s3
      have gx := box3_facts t3
      have zx := box_size t3
      clear t3
      go_wp2_with fail
      have hsub : IntKind.i64.wrap ((refOf r).n - cutN (refOf r) k) = (refOf r).n - cutN (refOf r) k := IntWalk.i64_in _ (by omega)
      have HF0 := Lib.hid fun W (hW : Later w3 W) => And.intro (HF.out W (T.trans hW)) (And.intro (hW.cell gx.1) (And.intro (hW.cell gx.2.1) (hW.cell gx.2.2)))
      clear HF
      have HF := HF0
      clear HF0 g gx
      refine wp_region_quiet_tail (Later w3) 13 (by kernel_rfl) (by kernel_rfl) ((Later.refl _).drew) ?_
      simp only [List.take_succ_cons, List.take_zero, List.drop_succ_cons, List.drop_zero]
      repeat (apply wpQuiet_op; rfl; (intro W hW; have g := HF.out W hW; go_simp; first | rfl | exact (rAt_calls (refOf r) ((refOf r).n - cutN (refOf r) k) _ (by omega) (by omega) y1 y2).mono fun e w'' ⟨he, ht⟩ => ⟨he, hW.trans ht⟩ | exact (rMade_calls (partOf (refOf r) ((refOf r).n - cutN (refOf r) k) (cutN (refOf r) k)) _ ht hts).mono fun e w'' ⟨he, ht⟩ => ⟨he, hW.trans ht⟩); go_simp)
      refine wpQuiet_nil ?_
      intro W1 hW1
      have g := HF.out W1 hW1
      replace LL := LL.trans hW1
      go_wp2
      exact bodyPost_ret (v := .tuple #[_, _]) (by simp [results, Try.results39, go_sem, g]) rfl ⟨rfl, Later.set (Later.set (Later.set LL (by simp) _) (by simp) _) (by simp) _⟩
    · have hd : decide (k < 0) = false := by simp; omega
      have c4' := c5 (by omega)
      have e1 : takeRow (refOf r) k = ⟨(refOf r).f, (refOf r).s, cutN (refOf r) k⟩ := by rw [takeRow, c4', part_0]
      obtain ⟨ht, hts⟩ := take_tame (ref_tame hr) k
      rw [e1] at ht hts
      rw [e0, e1]
      clear e1 e0 c4' c4 c5
      go_enter Try.func39, Try.ntmps39
      go_wp2_with fail
      refine (rValid_calls r _).mono ?_
      rintro e w1 ⟨rfl, t1⟩
      have HF := Lib.hid fun W (hW : Later w1 W) => pair3_facts rfl (t1.trans hW)
      have LL : Later w w1 := Later.trans (by repeat (first | exact Later.refl _ | apply Later.drew | apply Later.drewN | apply Later.alloc)) t1
      have g := HF.out w1 (Later.refl _)
      have T := Later.refl w1
      have z := pair_size t1
      have z0 := Nat.lt_of_succ_lt z
      clear t1
      go_wp2_with fail
      refine (rOf_calls r _ hr).mono ?_
      rintro e w2 ⟨rfl, t2⟩
      have s2 : Later w1 w2 := Later.trans (by repeat (first | exact Later.refl _ | apply Later.drew | apply Later.drewN | apply Later.alloc)) t2
      replace LL := LL.trans s2
      replace T := T.trans s2
      replace g := HF.out w2 T
      replace z := Nat.lt_of_lt_of_le z (Below.size s2)
      replace z0 := Nat.lt_of_succ_lt z
      clear t2 s2
      go_wp2_with fail
      refine (rCut_calls (refOf r) k _ f1 f3 hk).mono ?_
      rintro e w3 ⟨rfl, t3⟩
      have s3 : Later w2 w3 := Later.trans (by repeat (first | exact Later.refl _ | apply Later.drew | apply Later.drewN | apply Later.alloc)) t3
      replace LL := LL.trans s3
      replace T := T.trans s3
      replace g := HF.out w3 T
      replace z := Nat.lt_of_lt_of_le z (Below.size s3)
      replace z0 := Nat.lt_of_succ_lt z
      clear s3
      have gx := box3_facts t3
      have zx := box_size t3
      clear t3
      go_wp2_with fail
      refine (rMade_calls ⟨(refOf r).f, (refOf r).s, cutN (refOf r) k⟩ _ ht hts).mono ?_
      rintro e w4 ⟨rfl, t4⟩
      have s4 : Later w3 w4 := Later.trans (by repeat (first | exact Later.refl _ | apply Later.drew | apply Later.drewN | apply Later.alloc)) t4
      replace LL := LL.trans s4
      replace T := T.trans s4
      replace g := HF.out w4 T
      replace z := Nat.lt_of_lt_of_le z (Below.size s4)
      replace z0 := Nat.lt_of_succ_lt z
      clear t4 s4
      go_wp2
      exact bodyPost_ret (v := .tuple #[_, _]) (by simp [results, Try.results39, go_sem, g]) rfl ⟨rfl, Later.set (Later.set (Later.set LL (by simp) _) (by simp) _) (by simp) _⟩
  · have e1 : takeRes r k = (⟨0, 0, 0⟩, 30) := if_neg hv
    have hv' : vB r = false := by simpa using hv
    rw [e1]
    clear e1 hv
    go_enter Try.func39, Try.ntmps39
    go_wp2_with fail
    refine (rValid_calls r _).mono ?_
    rintro e w1 ⟨rfl, t1⟩
    have HF := Lib.hid fun W (hW : Later w1 W) => pair3_facts rfl (t1.trans hW)
    have LL : Later w w1 := Later.trans (by repeat (first | exact Later.refl _ | apply Later.drew | apply Later.drewN | apply Later.alloc)) t1
    have g := HF.out w1 (Later.refl _)
    have T := Later.refl w1
    have z := pair_size t1
    have z0 := Nat.lt_of_succ_lt z
    clear t1
    go_wp2
    exact bodyPost_ret (v := .tuple #[_, _]) (by simp [results, Try.results39, go_sem, g]) rfl ⟨rfl, Later.set (Later.set (Later.set LL (by simp) _) (by simp) _) (by simp) _⟩
set_option maxHeartbeats 1000000 in
theorem rDrop_calls (r : Rg) (k : Int) (w : World) (hk : okI k) :
    Calls Try.prog 40 #[.agg #[.int .i64 (r).lo, .int .i64 (r).hi, .int .i64 (r).st], .int .i64 k] w fun e w' => e = .returned (.tuple #[.agg #[.int .i64 ((dropRes r k).1).lo, .int .i64 ((dropRes r k).1).hi, .int .i64 ((dropRes r k).1).st], .int .i64 (dropRes r k).2]) ∧ Later w w' := by
  by_cases hv : vB r = true
  · have hr := vB_ok hv
    have st := (ref_tame hr).2.2
    obtain ⟨hx, hs⟩ := refOf_small hr
    obtain ⟨n1, n2⟩ := rowOf_n_bd hr
    obtain ⟨c1, c2, c3, c4, c5⟩ := cut_bd (x := refOf r) n1 k
    obtain ⟨y1, y2, y3, y4, y5, y6⟩ := hx
    have f1 : 0 ≤ (refOf r).n := n1
    have f2 : (refOf r).n ≤ 2000001 := n2
    have f3 : (refOf r).n ≤ 4194304 := by omega
    obtain ⟨d1, d2⟩ := drop_ref hr k
    have e0 : dropRes r k = (doneV (dropRow (refOf r) k), doneE (dropRow (refOf r) k)) := by rw [dropRes, if_pos hv, d1, d2]
    clear d1 d2
    by_cases hk0 : k < 0
    · have hd : decide (k < 0) = true := by simp [hk0]
      have c4' := c4 hk0
      have e1 : dropRow (refOf r) k = ⟨(refOf r).f, (refOf r).s, (refOf r).n - cutN (refOf r) k⟩ := by rw [dropRow, if_pos hk0, part_0, c4']
      obtain ⟨ht, hts⟩ := drop_tame (ref_tame hr) k
      rw [e1] at ht hts
      rw [e0, e1]
      clear e1 e0 c4' c4 c5
      go_enter Try.func40, Try.ntmps40
      go_wp2_with fail
      refine (rValid_calls r _).mono ?_
      rintro e w1 ⟨rfl, t1⟩
      have HF := Lib.hid fun W (hW : Later w1 W) => pair3_facts rfl (t1.trans hW)
      have LL : Later w w1 := Later.trans (by repeat (first | exact Later.refl _ | apply Later.drew | apply Later.drewN | apply Later.alloc)) t1
      have g := HF.out w1 (Later.refl _)
      have T := Later.refl w1
      have z := pair_size t1
      have z0 := Nat.lt_of_succ_lt z
      clear t1
      go_wp2_with fail
      refine (rOf_calls r _ hr).mono ?_
      rintro e w2 ⟨rfl, t2⟩
      have s2 : Later w1 w2 := Later.trans (by repeat (first | exact Later.refl _ | apply Later.drew | apply Later.drewN | apply Later.alloc)) t2
      replace LL := LL.trans s2
      replace T := T.trans s2
      replace g := HF.out w2 T
      replace z := Nat.lt_of_lt_of_le z (Below.size s2)
      replace z0 := Nat.lt_of_succ_lt z
      clear t2 s2
      go_wp2_with fail
      refine (rCut_calls (refOf r) k _ f1 f3 hk).mono ?_
      rintro e w3 ⟨rfl, t3⟩
      have s3 : Later w2 w3 := Later.trans (by repeat (first | exact Later.refl _ | apply Later.drew | apply Later.drewN | apply Later.alloc)) t3
      replace LL := LL.trans s3
      replace T := T.trans s3
      replace g := HF.out w3 T
      replace z := Nat.lt_of_lt_of_le z (Below.size s3)
      replace z0 := Nat.lt_of_succ_lt z
      clear s3
      have gx := box3_facts t3
      have zx := box_size t3
      clear t3
      go_wp2_with fail
      refine (rMade_calls ⟨(refOf r).f, (refOf r).s, (refOf r).n - cutN (refOf r) k⟩ _ ht hts).mono ?_
      rintro e w4 ⟨rfl, t4⟩
      have s4 : Later w3 w4 := Later.trans (by repeat (first | exact Later.refl _ | apply Later.drew | apply Later.drewN | apply Later.alloc)) t4
      replace LL := LL.trans s4
      replace T := T.trans s4
      replace g := HF.out w4 T
      replace z := Nat.lt_of_lt_of_le z (Below.size s4)
      replace z0 := Nat.lt_of_succ_lt z
      clear t4 s4
      go_wp2
      exact bodyPost_ret (v := .tuple #[_, _]) (by simp [results, Try.results40, go_sem, g]) rfl ⟨rfl, Later.set (Later.set (Later.set LL (by simp) _) (by simp) _) (by simp) _⟩
    · have hd : decide (k < 0) = false := by simp; omega
      have c4' := c5 (by omega)
      have e1 : dropRow (refOf r) k = partOf (refOf r) (cutN (refOf r) k) ((refOf r).n - cutN (refOf r) k) := by rw [dropRow, if_neg hk0]
      obtain ⟨ht, hts⟩ := drop_tame (ref_tame hr) k
      obtain ⟨p1, p2⟩ := prod_row (i := cutN (refOf r) k) (s := (refOf r).s) (by omega) (by omega) st.1 st.2.1
      rw [e1] at ht hts
      rw [e0, e1]
      clear e1 e0 c4' c4 c5
      go_enter Try.func40, Try.ntmps40
      go_wp2_with fail
      refine (rValid_calls r _).mono ?_
      rintro e w1 ⟨rfl, t1⟩
      have HF := Lib.hid fun W (hW : Later w1 W) => pair3_facts rfl (t1.trans hW)
      have LL : Later w w1 := Later.trans (by repeat (first | exact Later.refl _ | apply Later.drew | apply Later.drewN | apply Later.alloc)) t1
      have g := HF.out w1 (Later.refl _)
      have T := Later.refl w1
      have z := pair_size t1
      have z0 := Nat.lt_of_succ_lt z
      clear t1
      go_wp2_with fail
      refine (rOf_calls r _ hr).mono ?_
      rintro e w2 ⟨rfl, t2⟩
      have s2 : Later w1 w2 := Later.trans (by repeat (first | exact Later.refl _ | apply Later.drew | apply Later.drewN | apply Later.alloc)) t2
      replace LL := LL.trans s2
      replace T := T.trans s2
      replace g := HF.out w2 T
      replace z := Nat.lt_of_lt_of_le z (Below.size s2)
      replace z0 := Nat.lt_of_succ_lt z
      clear t2 s2
      go_wp2_with fail
      refine (rCut_calls (refOf r) k _ f1 f3 hk).mono ?_
      rintro e w3 ⟨rfl, t3⟩
      have s3 : Later w2 w3 := Later.trans (by repeat (first | exact Later.refl _ | apply Later.drew | apply Later.drewN | apply Later.alloc)) t3
      replace LL := LL.trans s3
      replace T := T.trans s3
      replace g := HF.out w3 T
      replace z := Nat.lt_of_lt_of_le z (Below.size s3)
      replace z0 := Nat.lt_of_succ_lt z
      clear s3
      have gx := box3_facts t3
      have zx := box_size t3
      clear t3
      go_wp2_with fail
      have hsub : IntKind.i64.wrap ((refOf r).n - cutN (refOf r) k) = (refOf r).n - cutN (refOf r) k := IntWalk.i64_in _ (by omega)
      have HF0 := Lib.hid fun W (hW : Later w3 W) => And.intro (HF.out W (T.trans hW)) (And.intro (hW.cell gx.1) (And.intro (hW.cell gx.2.1) (hW.cell gx.2.2)))
      clear HF
      have HF := HF0
      clear HF0 g gx
      refine wp_region_quiet_tail (Later w3) 13 (by kernel_rfl) (by kernel_rfl) ((Later.refl _).drew) ?_
      simp only [List.take_succ_cons, List.take_zero, List.drop_succ_cons, List.drop_zero]
      repeat (apply wpQuiet_op; rfl; (intro W hW; have g := HF.out W hW; go_simp; first | rfl | exact (rAt_calls (refOf r) (cutN (refOf r) k) _ (by omega) (by omega) y1 y2).mono fun e w'' ⟨he, ht⟩ => ⟨he, hW.trans ht⟩ | exact (rMade_calls (partOf (refOf r) (cutN (refOf r) k) ((refOf r).n - cutN (refOf r) k)) _ ht hts).mono fun e w'' ⟨he, ht⟩ => ⟨he, hW.trans ht⟩); go_simp)
      refine wpQuiet_nil ?_
      intro W1 hW1
      have g := HF.out W1 hW1
      replace LL := LL.trans hW1
      go_wp2
      exact bodyPost_ret (v := .tuple #[_, _]) (by simp [results, Try.results40, go_sem, g]) rfl ⟨rfl, Later.set (Later.set (Later.set LL (by simp) _) (by simp) _) (by simp) _⟩
  · have e1 : dropRes r k = (⟨0, 0, 0⟩, 30) := if_neg hv
    have hv' : vB r = false := by simpa using hv
    rw [e1]
    clear e1 hv
    go_enter Try.func40, Try.ntmps40
    go_wp2_with fail
    refine (rValid_calls r _).mono ?_
    rintro e w1 ⟨rfl, t1⟩
    have HF := Lib.hid fun W (hW : Later w1 W) => pair3_facts rfl (t1.trans hW)
    have LL : Later w w1 := Later.trans (by repeat (first | exact Later.refl _ | apply Later.drew | apply Later.drewN | apply Later.alloc)) t1
    have g := HF.out w1 (Later.refl _)
    have T := Later.refl w1
    have z := pair_size t1
    have z0 := Nat.lt_of_succ_lt z
    clear t1
    go_wp2
    exact bodyPost_ret (v := .tuple #[_, _]) (by simp [results, Try.results40, go_sem, g]) rfl ⟨rfl, Later.set (Later.set (Later.set LL (by simp) _) (by simp) _) (by simp) _⟩
end Go.Proofs.Ytoeabdanldiccaa
