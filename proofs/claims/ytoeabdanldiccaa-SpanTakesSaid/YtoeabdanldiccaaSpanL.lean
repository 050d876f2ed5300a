/- Walks of By, and of the reference's. -/
import Derived.Test.YtoeabdanldiccaaSpanK
namespace Go.Proofs.Ytoeabdanldiccaa
open Go.RowKit
set_option linter.unusedVariables false
set_option linter.unusedSimpArgs false
set_option maxHeartbeats 1000000 in
theorem sBy_calls (r : Rg) (k : Int) (w : World) :
    Calls Try.prog 37 #[.agg #[.int .i64 (r).lo, .int .i64 (r).hi, .int .i64 (r).st], .int .i64 k] w fun e w' => e = .returned (.tuple #[.agg #[.int .i64 ((byRes r k).1).lo, .int .i64 ((byRes r k).1).hi, .int .i64 ((byRes r k).1).st], .int .i64 (byRes r k).2]) ∧ Later w w' := by
  by_cases hv : vB r = true
  · have hr := vB_ok hv
    by_cases h0 : k = 0
    · have e1 : byRes r k = (⟨0, 0, 0⟩, 2) := by rw [byRes, if_pos hv, if_neg (by omega)]
      rw [e1]
      clear e1
      subst h0
      go_enter Try.func37, Try.ntmps37
      go_wp2_with fail
      refine (sValid_calls r _).mono ?_
      rintro e w1 ⟨rfl, t1⟩
      have HF := Lib.hid fun W (hW : Later w1 W) => pair3_facts rfl (t1.trans hW)
      have LL : Later w w1 := Later.trans (by repeat (first | exact Later.refl _ | apply Later.drew | apply Later.drewN | apply Later.alloc)) t1
      have g := HF.out w1 (Later.refl _)
      have T := Later.refl w1
      have z := pair_size t1
      have z0 := Nat.lt_of_succ_lt z
      clear t1
      go_wp2
      exact bodyPost_ret (v := .tuple #[_, _]) (by simp [results, Try.results37, go_sem, g]) rfl ⟨rfl, Later.set (Later.set (Later.set LL (by simp) _) (by simp) _) (by simp) _⟩
    have h0' : (k == 0) = false := by simp [h0]
    by_cases hk : -1000 ≤ k ∧ k ≤ 1000
    case neg =>
      have e1 : byRes r k = (⟨0, 0, 0⟩, 2) := by rw [byRes, if_pos hv, if_neg (by omega)]
      have hk' : k < -1000 ∨ 1000 < k := by omega
      rw [e1]
      clear e1 hk h0
      go_enter Try.func37, Try.ntmps37
      go_wp2_with fail
      refine (sValid_calls r _).mono ?_
      rintro e w1 ⟨rfl, t1⟩
      have HF := Lib.hid fun W (hW : Later w1 W) => pair3_facts rfl (t1.trans hW)
      have LL : Later w w1 := Later.trans (by repeat (first | exact Later.refl _ | apply Later.drew | apply Later.drewN | apply Later.alloc)) t1
      have g := HF.out w1 (Later.refl _)
      have T := Later.refl w1
      have z := pair_size t1
      have z0 := Nat.lt_of_succ_lt z
      clear t1
      go_wp2_with fail
      refine (sWithin_f _ _ _ _ hk').mono ?_
      rintro e w' ⟨rfl, rfl⟩
      go_wp2
      exact bodyPost_ret (v := .tuple #[_, _]) (by simp [results, Try.results37, go_sem, g]) rfl ⟨rfl, Later.set (Later.set (Later.set LL (by simp) _) (by simp) _) (by simp) _⟩
    obtain ⟨k1, k2⟩ := hk
    obtain ⟨a1, a2⟩ := absI_bd k1 k2 h0
    have hxs := tame_small (row_tame hr)
    obtain ⟨ht, hts⟩ := by_tame (row_tame hr) h0 k1 k2
    have e1 : byRes r k = (doneV (byRow (rowOf r) k), doneE (byRow (rowOf r) k)) := by rw [byRes, if_pos hv, if_pos ⟨h0, k1, k2⟩]
    have df := dir_facts (row_tame hr) k
    have tn := (row_tame hr).2.2.2.2.2
    by_cases hn : k < 0
    · skip
      have ed : dirOf (rowOf r) k = (backOf (rowOf r)) := if_pos hn
      have ea : absI k = (absI k) := rfl
      rw [byRow, ed, ea] at ht hts
      rw [ed] at df
      obtain ⟨b1, b2, b3, b4, b5, b6⟩ := df
      rw [ea] at a1 a2
      have pr := prod_step b3 b4 a1 a2
      have nb : 0 ≤ (backOf (rowOf r)).n ∧ (backOf (rowOf r)).n ≤ 2000001 := by rw [b6]; exact ⟨tn.1, tn.2.1⟩
      rw [e1, byRow, ed, ea]
      clear e1 ed ea b6 tn
      have hm : IntKind.i64.wrap ((backOf (rowOf r)).s * (absI k)) = (backOf (rowOf r)).s * (absI k) := IntWalk.i64_in _ (by omega)
      have ha : IntKind.i64.wrap ((backOf (rowOf r)).n + (absI k)) = (backOf (rowOf r)).n + (absI k) := IntWalk.i64_in _ (by omega)
      have hb : IntKind.i64.wrap ((backOf (rowOf r)).n + (absI k) - 1) = (backOf (rowOf r)).n + (absI k) - 1 := IntWalk.i64_in _ (by omega)
      have hqb := tdiv_bd (a := (backOf (rowOf r)).n + (absI k) - 1) (b := (absI k)) (by omega) (by omega)
      have hq : IntKind.i64.wrap (((backOf (rowOf r)).n + (absI k) - 1).tdiv (absI k)) = ((backOf (rowOf r)).n + (absI k) - 1).tdiv (absI k) := IntWalk.i64_in _ (by omega)
      have hz : ((absI k) == 0) = false := by simp only [beq_eq_false_iff_ne]; omega
      have hz' : (absI k) ≠ 0 := by omega
      clear hqb pr
      go_enter Try.func37, Try.ntmps37
      go_wp2_with fail
      refine (sValid_calls r _).mono ?_
      rintro e w1 ⟨rfl, t1⟩
      have HF := Lib.hid fun W (hW : Later w1 W) => pair3_facts rfl (t1.trans hW)
      have LL : Later w w1 := Later.trans (by repeat (first | exact Later.refl _ | apply Later.drew | apply Later.drewN | apply Later.alloc)) t1
      have g := HF.out w1 (Later.refl _)
      have T := Later.refl w1
      have z := pair_size t1
      have z0 := Nat.lt_of_succ_lt z
      clear t1
      go_wp2_with fail
      refine (sWithin_t _ _ _ _ k1 k2).mono ?_
      rintro e w' ⟨rfl, rfl⟩
      go_wp2_with fail
      refine (rowOf_calls r _ hr).mono ?_
      rintro e w2 ⟨rfl, t2⟩
      have s2 : Later w1 w2 := Later.trans (by repeat (first | exact Later.refl _ | apply Later.drew | apply Later.drewN | apply Later.alloc)) t2
      replace LL := LL.trans s2
      replace T := T.trans s2
      replace g := HF.out w2 T
      replace z := Nat.lt_of_lt_of_le z (Below.size s2)
      replace z0 := Nat.lt_of_succ_lt z
      clear t2 s2
      have q2 := Below.size T
      have q3 := z0
      go_wp2_with fail
      refine (sBack_calls (rowOf r) _ hxs).mono ?_
      rintro e w3 ⟨rfl, t3⟩
      have s3 : Later w2 w3 := Later.trans (by repeat (first | exact Later.refl _ | apply Later.drew | apply Later.drewN | apply Later.alloc)) t3
      replace LL := LL.trans s3
      replace T := T.trans s3
      replace g := HF.out w3 T
      replace z := Nat.lt_of_lt_of_le z (Below.size s3)
      replace z0 := Nat.lt_of_succ_lt z
      clear s3
      have gx := own3_facts t3
      clear t3
      go_wp2_with fail
      generalize hW0 : World.setCell (World.setCell (World.setCell w3 _ _) _ _) _ _ = W0
      have T0 : Later w1 W0 := by rw [← hW0]; exact Later.set (Later.set (Later.set T q2 _) q2 _) q2 _
      have L0 : Later w W0 := by rw [← hW0]; exact Later.set (Later.set (Later.set LL (by simp only; omega) _) (by simp only; omega) _) (by simp only; omega) _
      have xg : W0.cell? ⟨w2.heap.size, 0, none⟩ = some (.int .i64 (backOf (rowOf r)).f) ∧ W0.cell? ⟨w2.heap.size, 1, none⟩ = some (.int .i64 (backOf (rowOf r)).s) ∧ W0.cell? ⟨w2.heap.size, 2, none⟩ = some (.int .i64 (backOf (rowOf r)).n) := by rw [← hW0]; simp [gx, go_sem]
      clear hW0 gx
      have HF0 := Lib.hid fun W (hW : Later W0 W) => And.intro (HF.out W (T0.trans hW)) (And.intro (hW.cell xg.1) (And.intro (hW.cell xg.2.1) (hW.cell xg.2.2)))
      clear HF
      have HF := HF0
      clear HF0 g xg T0 T LL
      refine wp_region_quiet_tail (Later W0) 20 (by kernel_rfl) (by kernel_rfl) ((Later.refl _).drew) ?_
      simp only [List.take_succ_cons, List.take_zero, List.drop_succ_cons, List.drop_zero]
      repeat (apply wpQuiet_op; rfl; (intro W hW; have g := HF.out W hW; go_simp; first | rfl | exact (sDone_calls ⟨(backOf (rowOf r)).f, (backOf (rowOf r)).s * (absI k), ((backOf (rowOf r)).n + (absI k) - 1).tdiv (absI k)⟩ _ ht hts).mono fun e w'' ⟨he, ht⟩ => ⟨he, hW.trans ht⟩ | exact (sabs_calls k _ (by omega) (by omega)).mono fun e w'' ⟨he, hw⟩ => ⟨he, hw ▸ hW⟩); go_simp)
      refine wpQuiet_nil ?_
      intro W1 hW1
      have g := HF.out W1 hW1
      have LL := L0.trans hW1
      go_wp2
      exact bodyPost_ret (v := .tuple #[_, _]) (by simp [results, Try.results37, go_sem, g]) rfl ⟨rfl, Later.set (Later.set (Later.set LL (by simp) _) (by simp) _) (by simp) _⟩
    · skip
      have ed : dirOf (rowOf r) k = (rowOf r) := if_neg hn
      have ea : absI k = (absI k) := rfl
      rw [byRow, ed, ea] at ht hts
      rw [ed] at df
      obtain ⟨b1, b2, b3, b4, b5, b6⟩ := df
      rw [ea] at a1 a2
      have pr := prod_step b3 b4 a1 a2
      have nb : 0 ≤ (rowOf r).n ∧ (rowOf r).n ≤ 2000001 := by rw [b6]; exact ⟨tn.1, tn.2.1⟩
      rw [e1, byRow, ed, ea]
      clear e1 ed ea b6 tn
      have hm : IntKind.i64.wrap ((rowOf r).s * (absI k)) = (rowOf r).s * (absI k) := IntWalk.i64_in _ (by omega)
      have ha : IntKind.i64.wrap ((rowOf r).n + (absI k)) = (rowOf r).n + (absI k) := IntWalk.i64_in _ (by omega)
      have hb : IntKind.i64.wrap ((rowOf r).n + (absI k) - 1) = (rowOf r).n + (absI k) - 1 := IntWalk.i64_in _ (by omega)
      have hqb := tdiv_bd (a := (rowOf r).n + (absI k) - 1) (b := (absI k)) (by omega) (by omega)
      have hq : IntKind.i64.wrap (((rowOf r).n + (absI k) - 1).tdiv (absI k)) = ((rowOf r).n + (absI k) - 1).tdiv (absI k) := IntWalk.i64_in _ (by omega)
      have hz : ((absI k) == 0) = false := by simp only [beq_eq_false_iff_ne]; omega
      have hz' : (absI k) ≠ 0 := by omega
      clear hqb pr
      go_enter Try.func37, Try.ntmps37
      go_wp2_with fail
      refine (sValid_calls r _).mono ?_
      rintro e w1 ⟨rfl, t1⟩
      have HF := Lib.hid fun W (hW : Later w1 W) => pair3_facts rfl (t1.trans hW)
      have LL : Later w w1 := Later.trans (by repeat (first | exact Later.refl _ | apply Later.drew | apply Later.drewN | apply Later.alloc)) t1
      have g := HF.out w1 (Later.refl _)
      have T := Later.refl w1
      have z := pair_size t1
      have z0 := Nat.lt_of_succ_lt z
      clear t1
      go_wp2_with fail
      refine (sWithin_t _ _ _ _ k1 k2).mono ?_
      rintro e w' ⟨rfl, rfl⟩
      go_wp2_with fail
      refine (rowOf_calls r _ hr).mono ?_
      rintro e w2 ⟨rfl, t2⟩
      have s2 : Later w1 w2 := Later.trans (by repeat (first | exact Later.refl _ | apply Later.drew | apply Later.drewN | apply Later.alloc)) t2
      replace LL := LL.trans s2
      replace T := T.trans s2
      replace g := HF.out w2 T
      replace z := Nat.lt_of_lt_of_le z (Below.size s2)
      replace z0 := Nat.lt_of_succ_lt z
      clear t2 s2
      have q2 := Below.size T
      have q3 := z0
      go_wp2_with fail
      obtain ⟨W0, hW0⟩ : ∃ W0, W0 = w2.alloc (.cells #[.int .i64 (rowOf r).f, .int .i64 (rowOf r).s, .int .i64 (rowOf r).n] 48) := ⟨_, rfl⟩
      have T0 : Later w1 W0 := hW0 ▸ T.alloc _
      have L0 : Later w W0 := hW0 ▸ LL.alloc _
      have xg : W0.cell? ⟨w2.heap.size, 0, none⟩ = some (.int .i64 (rowOf r).f) ∧ W0.cell? ⟨w2.heap.size, 1, none⟩ = some (.int .i64 (rowOf r).s) ∧ W0.cell? ⟨w2.heap.size, 2, none⟩ = some (.int .i64 (rowOf r).n) := by rw [hW0]; exact box3_facts (Later.refl _)
      rw [← hW0]
      clear hW0
      have HF0 := Lib.hid fun W (hW : Later W0 W) => And.intro (HF.out W (T0.trans hW)) (And.intro (hW.cell xg.1) (And.intro (hW.cell xg.2.1) (hW.cell xg.2.2)))
      clear HF
      have HF := HF0
      clear HF0 g xg T0 T LL
      refine wp_region_quiet_tail (Later W0) 20 (by kernel_rfl) (by kernel_rfl) ((Later.refl _).drew) ?_
      simp only [List.take_succ_cons, List.take_zero, List.drop_succ_cons, List.drop_zero]
      repeat (apply wpQuiet_op; rfl; (intro W hW; have g := HF.out W hW; go_simp; first | rfl | exact (sDone_calls ⟨(rowOf r).f, (rowOf r).s * (absI k), ((rowOf r).n + (absI k) - 1).tdiv (absI k)⟩ _ ht hts).mono fun e w'' ⟨he, ht⟩ => ⟨he, hW.trans ht⟩ | exact (sabs_calls k _ (by omega) (by omega)).mono fun e w'' ⟨he, hw⟩ => ⟨he, hw ▸ hW⟩); go_simp)
      refine wpQuiet_nil ?_
      intro W1 hW1
      have g := HF.out W1 hW1
      have LL := L0.trans hW1
      go_wp2
      exact bodyPost_ret (v := .tuple #[_, _]) (by simp [results, Try.results37, go_sem, g]) rfl ⟨rfl, Later.set (Later.set (Later.set LL (by simp) _) (by simp) _) (by simp) _⟩
  · have e1 : byRes r k = (⟨0, 0, 0⟩, 30) := if_neg hv
    have hv' : vB r = false := by simpa using hv
    rw [e1]
    clear e1 hv
    go_enter Try.func37, Try.ntmps37
    go_wp2_with fail
    refine (sValid_calls r _).mono ?_
    rintro e w1 ⟨rfl, t1⟩
    have HF := Lib.hid fun W (hW : Later w1 W) => pair3_facts rfl (t1.trans hW)
    have LL : Later w w1 := Later.trans (by repeat (first | exact Later.refl _ | apply Later.drew | apply Later.drewN | apply Later.alloc)) t1
    have g := HF.out w1 (Later.refl _)
    have T := Later.refl w1
    have z := pair_size t1
    have z0 := Nat.lt_of_succ_lt z
    clear t1
    go_wp2
    exact bodyPost_ret (v := .tuple #[_, _]) (by simp [results, Try.results37, go_sem, g]) rfl ⟨rfl, Later.set (Later.set (Later.set LL (by simp) _) (by simp) _) (by simp) _⟩
set_option maxHeartbeats 1000000 in
theorem rBy_calls (r : Rg) (k : Int) (w : World) :
    Calls Try.prog 38 #[.agg #[.int .i64 (r).lo, .int .i64 (r).hi, .int .i64 (r).st], .int .i64 k] w fun e w' => e = .returned (.tuple #[.agg #[.int .i64 ((byRes r k).1).lo, .int .i64 ((byRes r k).1).hi, .int .i64 ((byRes r k).1).st], .int .i64 (byRes r k).2]) ∧ Later w w' := by
  by_cases hv : vB r = true
  · have hr := vB_ok hv
    by_cases h0 : k = 0
    · have e1 : byRes r k = (⟨0, 0, 0⟩, 2) := by rw [byRes, if_pos hv, if_neg (by omega)]
      rw [e1]
      clear e1
      subst h0
      go_enter Try.func38, Try.ntmps38
      go_wp2_with fail
      refine (rValid_calls r _).mono ?_
      rintro e w1 ⟨rfl, t1⟩
      have HF := Lib.hid fun W (hW : Later w1 W) => pair3_facts rfl (t1.trans hW)
      have LL : Later w w1 := Later.trans (by repeat (first | exact Later.refl _ | apply Later.drew | apply Later.drewN | apply Later.alloc)) t1
      have g := HF.out w1 (Later.refl _)
      have T := Later.refl w1
      have z := pair_size t1
      have z0 := Nat.lt_of_succ_lt z
      clear t1
      go_wp2
      exact bodyPost_ret (v := .tuple #[_, _]) (by simp [results, Try.results38, go_sem, g]) rfl ⟨rfl, Later.set (Later.set (Later.set LL (by simp) _) (by simp) _) (by simp) _⟩
    have h0' : (k == 0) = false := by simp [h0]
    by_cases hk : -1000 ≤ k ∧ k ≤ 1000
    case neg =>
      have e1 : byRes r k = (⟨0, 0, 0⟩, 2) := by rw [byRes, if_pos hv, if_neg (by omega)]
      have hk' : k < -1000 ∨ 1000 < k := by omega
      rw [e1]
      clear e1 hk h0
      rcases hk' with hk' | hk'
      · skip
        go_enter Try.func38, Try.ntmps38
        go_wp2_with fail
        refine (rValid_calls r _).mono ?_
        rintro e w1 ⟨rfl, t1⟩
        have HF := Lib.hid fun W (hW : Later w1 W) => pair3_facts rfl (t1.trans hW)
        have LL : Later w w1 := Later.trans (by repeat (first | exact Later.refl _ | apply Later.drew | apply Later.drewN | apply Later.alloc)) t1
        have g := HF.out w1 (Later.refl _)
        have T := Later.refl w1
        have z := pair_size t1
        have z0 := Nat.lt_of_succ_lt z
        clear t1
        go_wp2
        exact bodyPost_ret (v := .tuple #[_, _]) (by simp [results, Try.results38, go_sem, g]) rfl ⟨rfl, Later.set (Later.set (Later.set LL (by simp) _) (by simp) _) (by simp) _⟩
      · skip
        go_enter Try.func38, Try.ntmps38
        go_wp2_with fail
        refine (rValid_calls r _).mono ?_
        rintro e w1 ⟨rfl, t1⟩
        have HF := Lib.hid fun W (hW : Later w1 W) => pair3_facts rfl (t1.trans hW)
        have LL : Later w w1 := Later.trans (by repeat (first | exact Later.refl _ | apply Later.drew | apply Later.drewN | apply Later.alloc)) t1
        have g := HF.out w1 (Later.refl _)
        have T := Later.refl w1
        have z := pair_size t1
        have z0 := Nat.lt_of_succ_lt z
        clear t1
        go_wp2
        exact bodyPost_ret (v := .tuple #[_, _]) (by simp [results, Try.results38, go_sem, g]) rfl ⟨rfl, Later.set (Later.set (Later.set LL (by simp) _) (by simp) _) (by simp) _⟩
    obtain ⟨k1, k2⟩ := hk
    obtain ⟨a1, a2⟩ := absI_bd k1 k2 h0
    have hxs := tame_small (ref_tame hr)
    obtain ⟨ht, hts⟩ := by_tame (ref_tame hr) h0 k1 k2
    have e1 : byRes r k = (doneV (byRow (refOf r) k), doneE (byRow (refOf r) k)) := by rw [byRes, if_pos hv, if_pos ⟨h0, k1, k2⟩]; obtain ⟨d1, d2⟩ := by_ref hr h0 k1 k2; rw [d1, d2]
    have df := dir_facts (ref_tame hr) k
    have tn := (ref_tame hr).2.2.2.2.2
    by_cases hn : k < 0
    · obtain ⟨m, hm0⟩ : ∃ m, -k = m := ⟨_, rfl⟩
      skip
      have ed : dirOf (refOf r) k = (backOf (refOf r)) := if_pos hn
      have ea : absI k = m := (absI_neg hn).trans hm0
      rw [byRow, ed, ea] at ht hts
      rw [ed] at df
      obtain ⟨b1, b2, b3, b4, b5, b6⟩ := df
      rw [ea] at a1 a2
      have pr := prod_step b3 b4 a1 a2
      have nb : 0 ≤ (backOf (refOf r)).n ∧ (backOf (refOf r)).n ≤ 2000001 := by rw [b6]; exact ⟨tn.1, tn.2.1⟩
      rw [e1, byRow, ed, ea]
      clear e1 ed ea b6 tn
      have hm : IntKind.i64.wrap ((backOf (refOf r)).s * m) = (backOf (refOf r)).s * m := IntWalk.i64_in _ (by omega)
      have ha : IntKind.i64.wrap ((backOf (refOf r)).n + m) = (backOf (refOf r)).n + m := IntWalk.i64_in _ (by omega)
      have hb : IntKind.i64.wrap ((backOf (refOf r)).n + m - 1) = (backOf (refOf r)).n + m - 1 := IntWalk.i64_in _ (by omega)
      have hqb := tdiv_bd (a := (backOf (refOf r)).n + m - 1) (b := m) (by omega) (by omega)
      have hq : IntKind.i64.wrap (((backOf (refOf r)).n + m - 1).tdiv m) = ((backOf (refOf r)).n + m - 1).tdiv m := IntWalk.i64_in _ (by omega)
      have hz : (m == 0) = false := by simp only [beq_eq_false_iff_ne]; omega
      have hz' : m ≠ 0 := by omega
      clear hqb pr
      go_enter Try.func38, Try.ntmps38
      go_wp2_with fail
      refine (rValid_calls r _).mono ?_
      rintro e w1 ⟨rfl, t1⟩
      have HF := Lib.hid fun W (hW : Later w1 W) => pair3_facts rfl (t1.trans hW)
      have LL : Later w w1 := Later.trans (by repeat (first | exact Later.refl _ | apply Later.drew | apply Later.drewN | apply Later.alloc)) t1
      have g := HF.out w1 (Later.refl _)
      have T := Later.refl w1
      have z := pair_size t1
      have z0 := Nat.lt_of_succ_lt z
      clear t1
      go_wp2_with fail
      refine (rOf_calls r _ hr).mono ?_
      rintro e w2 ⟨rfl, t2⟩
      have s2 : Later w1 w2 := Later.trans (by repeat (first | exact Later.refl _ | apply Later.drew | apply Later.drewN | apply Later.alloc)) t2
      replace LL := LL.trans s2
      replace T := T.trans s2
      replace g := HF.out w2 T
      replace z := Nat.lt_of_lt_of_le z (Below.size s2)
      replace z0 := Nat.lt_of_succ_lt z
      clear t2 s2
      have q2 := Below.size T
      have q3 := z0
      go_wp2_with fail
      refine (rBack_calls (refOf r) _ hxs).mono ?_
      rintro e w3 ⟨rfl, t3⟩
      have s3 : Later w2 w3 := Later.trans (by repeat (first | exact Later.refl _ | apply Later.drew | apply Later.drewN | apply Later.alloc)) t3
      replace LL := LL.trans s3
      replace T := T.trans s3
      replace g := HF.out w3 T
      replace z := Nat.lt_of_lt_of_le z (Below.size s3)
      replace z0 := Nat.lt_of_succ_lt z
      clear s3
      have gx := own3_facts t3
      clear t3
      go_wp2_with fail
      generalize hW0 : World.setCell (World.setCell (World.setCell w3 _ _) _ _) _ _ = W0
      have T0 : Later w1 W0 := by rw [← hW0]; exact Later.set (Later.set (Later.set T q2 _) q2 _) q2 _
      have L0 : Later w W0 := by rw [← hW0]; exact Later.set (Later.set (Later.set LL (by simp only; omega) _) (by simp only; omega) _) (by simp only; omega) _
      have xg : W0.cell? ⟨w2.heap.size, 0, none⟩ = some (.int .i64 (backOf (refOf r)).f) ∧ W0.cell? ⟨w2.heap.size, 1, none⟩ = some (.int .i64 (backOf (refOf r)).s) ∧ W0.cell? ⟨w2.heap.size, 2, none⟩ = some (.int .i64 (backOf (refOf r)).n) := by rw [← hW0]; simp [gx, go_sem]
      clear hW0 gx
      have HF0 := Lib.hid fun W (hW : Later W0 W) => And.intro (HF.out W (T0.trans hW)) (And.intro (hW.cell xg.1) (And.intro (hW.cell xg.2.1) (hW.cell xg.2.2)))
      clear HF
      have HF := HF0
      clear HF0 g xg T0 T LL
      refine wp_region_quiet_tail (Later W0) 17 (by kernel_rfl) (by kernel_rfl) ((Later.refl _).drew) ?_
      simp only [List.take_succ_cons, List.take_zero, List.drop_succ_cons, List.drop_zero]
      repeat (apply wpQuiet_op; rfl; (intro W hW; have g := HF.out W hW; go_simp; first | rfl | exact (rMade_calls ⟨(backOf (refOf r)).f, (backOf (refOf r)).s * m, ((backOf (refOf r)).n + m - 1).tdiv m⟩ _ ht hts).mono fun e w'' ⟨he, ht⟩ => ⟨he, hW.trans ht⟩); go_simp)
      refine wpQuiet_nil ?_
      intro W1 hW1
      have g := HF.out W1 hW1
      have LL := L0.trans hW1
      go_wp2
      exact bodyPost_ret (v := .tuple #[_, _]) (by simp [results, Try.results38, go_sem, g]) rfl ⟨rfl, Later.set (Later.set (Later.set LL (by simp) _) (by simp) _) (by simp) _⟩
    · skip
      have ed : dirOf (refOf r) k = (refOf r) := if_neg hn
      have ea : absI k = k := absI_pos (by omega)
      rw [byRow, ed, ea] at ht hts
      rw [ed] at df
      obtain ⟨b1, b2, b3, b4, b5, b6⟩ := df
      rw [ea] at a1 a2
      have pr := prod_step b3 b4 a1 a2
      have nb : 0 ≤ (refOf r).n ∧ (refOf r).n ≤ 2000001 := by rw [b6]; exact ⟨tn.1, tn.2.1⟩
      rw [e1, byRow, ed, ea]
      clear e1 ed ea b6 tn
      have hm : IntKind.i64.wrap ((refOf r).s * k) = (refOf r).s * k := IntWalk.i64_in _ (by omega)
      have ha : IntKind.i64.wrap ((refOf r).n + k) = (refOf r).n + k := IntWalk.i64_in _ (by omega)
      have hb : IntKind.i64.wrap ((refOf r).n + k - 1) = (refOf r).n + k - 1 := IntWalk.i64_in _ (by omega)
      have hqb := tdiv_bd (a := (refOf r).n + k - 1) (b := k) (by omega) (by omega)
      have hq : IntKind.i64.wrap (((refOf r).n + k - 1).tdiv k) = ((refOf r).n + k - 1).tdiv k := IntWalk.i64_in _ (by omega)
      have hz : (k == 0) = false := by simp only [beq_eq_false_iff_ne]; omega
      have hz' : k ≠ 0 := by omega
      clear hqb pr
      go_enter Try.func38, Try.ntmps38
      go_wp2_with fail
      refine (rValid_calls r _).mono ?_
      rintro e w1 ⟨rfl, t1⟩
      have HF := Lib.hid fun W (hW : Later w1 W) => pair3_facts rfl (t1.trans hW)
      have LL : Later w w1 := Later.trans (by repeat (first | exact Later.refl _ | apply Later.drew | apply Later.drewN | apply Later.alloc)) t1
      have g := HF.out w1 (Later.refl _)
      have T := Later.refl w1
      have z := pair_size t1
      have z0 := Nat.lt_of_succ_lt z
      clear t1
      go_wp2_with fail
      refine (rOf_calls r _ hr).mono ?_
      rintro e w2 ⟨rfl, t2⟩
      have s2 : Later w1 w2 := Later.trans (by repeat (first | exact Later.refl _ | apply Later.drew | apply Later.drewN | apply Later.alloc)) t2
      replace LL := LL.trans s2
      replace T := T.trans s2
      replace g := HF.out w2 T
      replace z := Nat.lt_of_lt_of_le z (Below.size s2)
      replace z0 := Nat.lt_of_succ_lt z
      clear t2 s2
      have q2 := Below.size T
      have q3 := z0
      go_wp2_with fail
      obtain ⟨W0, hW0⟩ : ∃ W0, W0 = w2.alloc (.cells #[.int .i64 (refOf r).f, .int .i64 (refOf r).s, .int .i64 (refOf r).n] 52) := ⟨_, rfl⟩
      have T0 : Later w1 W0 := hW0 ▸ T.alloc _
      have L0 : Later w W0 := hW0 ▸ LL.alloc _
      have xg : W0.cell? ⟨w2.heap.size, 0, none⟩ = some (.int .i64 (refOf r).f) ∧ W0.cell? ⟨w2.heap.size, 1, none⟩ = some (.int .i64 (refOf r).s) ∧ W0.cell? ⟨w2.heap.size, 2, none⟩ = some (.int .i64 (refOf r).n) := by rw [hW0]; exact box3_facts (Later.refl _)
      rw [← hW0]
      clear hW0
      have HF0 := Lib.hid fun W (hW : Later W0 W) => And.intro (HF.out W (T0.trans hW)) (And.intro (hW.cell xg.1) (And.intro (hW.cell xg.2.1) (hW.cell xg.2.2)))
      clear HF
      have HF := HF0
      clear HF0 g xg T0 T LL
      refine wp_region_quiet_tail (Later W0) 17 (by kernel_rfl) (by kernel_rfl) ((Later.refl _).drew) ?_
      simp only [List.take_succ_cons, List.take_zero, List.drop_succ_cons, List.drop_zero]
      repeat (apply wpQuiet_op; rfl; (intro W hW; have g := HF.out W hW; go_simp; first | rfl | exact (rMade_calls ⟨(refOf r).f, (refOf r).s * k, ((refOf r).n + k - 1).tdiv k⟩ _ ht hts).mono fun e w'' ⟨he, ht⟩ => ⟨he, hW.trans ht⟩); go_simp)
      refine wpQuiet_nil ?_
      intro W1 hW1
      have g := HF.out W1 hW1
      have LL := L0.trans hW1
      go_wp2
      exact bodyPost_ret (v := .tuple #[_, _]) (by simp [results, Try.results38, go_sem, g]) rfl ⟨rfl, Later.set (Later.set (Later.set LL (by simp) _) (by simp) _) (by simp) _⟩
  · have e1 : byRes r k = (⟨0, 0, 0⟩, 30) := if_neg hv
    have hv' : vB r = false := by simpa using hv
    rw [e1]
    clear e1 hv
    go_enter Try.func38, Try.ntmps38
    go_wp2_with fail
    refine (rValid_calls r _).mono ?_
    rintro e w1 ⟨rfl, t1⟩
    have HF := Lib.hid fun W (hW : Later w1 W) => pair3_facts rfl (t1.trans hW)
    have LL : Later w w1 := Later.trans (by repeat (first | exact Later.refl _ | apply Later.drew | apply Later.drewN | apply Later.alloc)) t1
    have g := HF.out w1 (Later.refl _)
    have T := Later.refl w1
    have z := pair_size t1
    have z0 := Nat.lt_of_succ_lt z
    clear t1
    go_wp2
    exact bodyPost_ret (v := .tuple #[_, _]) (by simp [results, Try.results38, go_sem, g]) rfl ⟨rfl, Later.set (Later.set (Later.set LL (by simp) _) (by simp) _) (by simp) _⟩
end Go.Proofs.Ytoeabdanldiccaa
