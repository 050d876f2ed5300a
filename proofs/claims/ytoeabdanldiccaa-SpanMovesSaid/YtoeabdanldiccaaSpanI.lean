/- Walks of Shift and Expand, and of the reference's. -/
import Derived.Test.YtoeabdanldiccaaSpanH
namespace Go.Proofs.Ytoeabdanldiccaa
open Go.RowKit
set_option linter.unusedVariables false
theorem rMade_le (x : Rw) (w : World) (h : x.n ≤ 0) :
    Calls Try.prog 56 #[.agg #[.int .i64 (x).f, .int .i64 (x).s, .int .i64 (x).n]] w fun e w' => e = .returned (.tuple #[.agg #[.int .i64 1, .int .i64 0, .int .i64 1], .int .i64 0]) ∧ Later w w' := by
  go_enter Try.func56, Try.ntmps56
  go_wp2
  exact bodyPost_ret (v := .tuple #[_, _]) (by simp [results, Try.results56, go_sem]) rfl ⟨rfl, (by repeat (first | exact Later.refl _ | apply Later.drew | apply Later.drewN | apply Later.alloc))⟩
set_option maxHeartbeats 1000000 in
theorem sShift_calls (r : Rg) (k : Int) (w : World) :
    Calls Try.prog 19 #[.agg #[.int .i64 (r).lo, .int .i64 (r).hi, .int .i64 (r).st], .int .i64 k] w fun e w' => e = .returned (.tuple #[.agg #[.int .i64 ((shiftRes r k).1).lo, .int .i64 ((shiftRes r k).1).hi, .int .i64 ((shiftRes r k).1).st], .int .i64 (shiftRes r k).2]) ∧ Later w w' := by
  by_cases hv : vB r = true
  · have hr := vB_ok hv
    have hf := rowOf_f_bd hr
    obtain ⟨f1, f2⟩ : -1000000 ≤ (rowOf r).f ∧ (rowOf r).f ≤ 1000000 := hf
    by_cases hk : -1000000 ≤ k ∧ k ≤ 1000000
    · have e1 : shiftRes r k = (doneV ⟨(rowOf r).f + k, (rowOf r).s, (rowOf r).n⟩, doneE ⟨(rowOf r).f + k, (rowOf r).s, (rowOf r).n⟩) := by
        rw [shiftRes, if_pos hv, if_pos hk]
      obtain ⟨k1, k2⟩ := hk
      obtain ⟨⟨x1, x2, x3, x4, x5, x6⟩, hs⟩ := rowOf_small hr
      have hx : (⟨(rowOf r).f + k, (rowOf r).s, (rowOf r).n⟩ : Rw).small := ⟨by simp only; omega, by simp only; omega, x3, x4, x5, x6⟩
      rw [e1]
      clear e1
      go_enter Try.func19, Try.ntmps19
      go_wp2_with fail
      refine (sValid_calls r _).mono ?_
      rintro e w1 ⟨rfl, t1⟩
      have HF := Lib.hid fun W (hW : Later w1 W) => pair3_facts rfl (t1.trans hW)
      have LL : Later w w1 := Later.trans (by repeat (first | exact Later.refl _ | apply Later.drew | apply Later.drewN | apply Later.alloc)) t1
      have g := HF.out w1 (Later.refl _)
      have T := Later.refl w1
      have z := pair_size t1
      have z0 := Nat.lt_of_succ_lt z
      clear t1
      go_wp2_with fail
      refine (sWithin_t _ _ _ _ k1 k2).mono ?_
      rintro e w' ⟨rfl, rfl⟩
      go_wp2_with fail
      refine (rowOf_calls r _ hr).mono ?_
      rintro e w2 ⟨rfl, t2⟩
      have s2 : Later w1 w2 := Later.trans (by repeat (first | exact Later.refl _ | apply Later.drew | apply Later.drewN | apply Later.alloc)) t2
      replace LL := LL.trans s2
      replace T := T.trans s2
      replace g := HF.out w2 T
      replace z := Nat.lt_of_lt_of_le z (Below.size s2)
      replace z0 := Nat.lt_of_succ_lt z
      clear t2 s2
      go_wp2_with fail
      refine (sDone_calls ⟨(rowOf r).f + k, (rowOf r).s, (rowOf r).n⟩ _ hx hs).mono ?_
      rintro e w3 ⟨rfl, t3⟩
      have s3 : Later w2 w3 := Later.trans (by repeat (first | exact Later.refl _ | apply Later.drew | apply Later.drewN | apply Later.alloc)) t3
      replace LL := LL.trans s3
      replace T := T.trans s3
      replace g := HF.out w3 T
      replace z := Nat.lt_of_lt_of_le z (Below.size s3)
      replace z0 := Nat.lt_of_succ_lt z
      clear t3 s3
      go_wp2
      exact bodyPost_ret (v := .tuple #[_, _]) (by simp [results, Try.results19, go_sem, g]) rfl ⟨rfl, Later.set (Later.set (Later.set LL (by simp) _) (by simp) _) (by simp) _⟩
    · have e1 : shiftRes r k = (⟨0, 0, 0⟩, 2) := by rw [shiftRes, if_pos hv, if_neg hk]
      have hk' : k < -1000000 ∨ 1000000 < k := by omega
      rw [e1]
      clear e1 hk
      go_enter Try.func19, Try.ntmps19
      go_wp2_with fail
      refine (sValid_calls r _).mono ?_
      rintro e w1 ⟨rfl, t1⟩
      have HF := Lib.hid fun W (hW : Later w1 W) => pair3_facts rfl (t1.trans hW)
      have LL : Later w w1 := Later.trans (by repeat (first | exact Later.refl _ | apply Later.drew | apply Later.drewN | apply Later.alloc)) t1
      have g := HF.out w1 (Later.refl _)
      have T := Later.refl w1
      have z := pair_size t1
      have z0 := Nat.lt_of_succ_lt z
      clear t1
      go_wp2_with fail
      refine (sWithin_f _ _ _ _ hk').mono ?_
      rintro e w' ⟨rfl, rfl⟩
      go_wp2
      exact bodyPost_ret (v := .tuple #[_, _]) (by simp [results, Try.results19, go_sem, g]) rfl ⟨rfl, Later.set (Later.set (Later.set LL (by simp) _) (by simp) _) (by simp) _⟩
  · have e1 : shiftRes r k = (⟨0, 0, 0⟩, 30) := if_neg hv
    have hv' : vB r = false := by simpa using hv
    rw [e1]
    clear e1 hv
    go_enter Try.func19, Try.ntmps19
    go_wp2_with fail
    refine (sValid_calls r _).mono ?_
    rintro e w1 ⟨rfl, t1⟩
    have HF := Lib.hid fun W (hW : Later w1 W) => pair3_facts rfl (t1.trans hW)
    have LL : Later w w1 := Later.trans (by repeat (first | exact Later.refl _ | apply Later.drew | apply Later.drewN | apply Later.alloc)) t1
    have g := HF.out w1 (Later.refl _)
    have T := Later.refl w1
    have z := pair_size t1
    have z0 := Nat.lt_of_succ_lt z
    clear t1
    go_wp2
    exact bodyPost_ret (v := .tuple #[_, _]) (by simp [results, Try.results19, go_sem, g]) rfl ⟨rfl, Later.set (Later.set (Later.set LL (by simp) _) (by simp) _) (by simp) _⟩
set_option maxHeartbeats 1000000 in
theorem rShift_calls (r : Rg) (k : Int) (w : World) :
    Calls Try.prog 20 #[.agg #[.int .i64 (r).lo, .int .i64 (r).hi, .int .i64 (r).st], .int .i64 k] w fun e w' => e = .returned (.tuple #[.agg #[.int .i64 ((shiftRes r k).1).lo, .int .i64 ((shiftRes r k).1).hi, .int .i64 ((shiftRes r k).1).st], .int .i64 (shiftRes r k).2]) ∧ Later w w' := by
  by_cases hv : vB r = true
  · have hr := vB_ok hv
    have hf := rowOf_f_bd hr
    obtain ⟨f1, f2⟩ : -1000000 ≤ (refOf r).f ∧ (refOf r).f ≤ 1000000 := hf
    by_cases hk : -1000000 ≤ k ∧ k ≤ 1000000
    · have e1 : shiftRes r k = (doneV ⟨(refOf r).f + k, (refOf r).s, (refOf r).n⟩, doneE ⟨(refOf r).f + k, (refOf r).s, (refOf r).n⟩) := by
        rw [shiftRes, if_pos hv, if_pos hk]; obtain ⟨d1, d2⟩ := shift_ref hr k; rw [d1, d2]
      obtain ⟨k1, k2⟩ := hk
      obtain ⟨⟨x1, x2, x3, x4, x5, x6⟩, hs⟩ := refOf_small hr
      have hx : (⟨(refOf r).f + k, (refOf r).s, (refOf r).n⟩ : Rw).small := ⟨by simp only; omega, by simp only; omega, x3, x4, x5, x6⟩
      rw [e1]
      clear e1
      go_enter Try.func20, Try.ntmps20
      go_wp2_with fail
      refine (rValid_calls r _).mono ?_
      rintro e w1 ⟨rfl, t1⟩
      have HF := Lib.hid fun W (hW : Later w1 W) => pair3_facts rfl (t1.trans hW)
      have LL : Later w w1 := Later.trans (by repeat (first | exact Later.refl _ | apply Later.drew | apply Later.drewN | apply Later.alloc)) t1
      have g := HF.out w1 (Later.refl _)
      have T := Later.refl w1
      have z := pair_size t1
      have z0 := Nat.lt_of_succ_lt z
      clear t1
      go_wp2_with fail
      refine (rWithin_t _ _ k1 k2).mono ?_
      rintro e w' ⟨rfl, rfl⟩
      go_wp2_with fail
      refine (rOf_calls r _ hr).mono ?_
      rintro e w2 ⟨rfl, t2⟩
      have s2 : Later w1 w2 := Later.trans (by repeat (first | exact Later.refl _ | apply Later.drew | apply Later.drewN | apply Later.alloc)) t2
      replace LL := LL.trans s2
      replace T := T.trans s2
      replace g := HF.out w2 T
      replace z := Nat.lt_of_lt_of_le z (Below.size s2)
      replace z0 := Nat.lt_of_succ_lt z
      clear t2 s2
      go_wp2_with fail
      refine (rMade_calls ⟨(refOf r).f + k, (refOf r).s, (refOf r).n⟩ _ hx hs).mono ?_
      rintro e w3 ⟨rfl, t3⟩
      have s3 : Later w2 w3 := Later.trans (by repeat (first | exact Later.refl _ | apply Later.drew | apply Later.drewN | apply Later.alloc)) t3
      replace LL := LL.trans s3
      replace T := T.trans s3
      replace g := HF.out w3 T
      replace z := Nat.lt_of_lt_of_le z (Below.size s3)
      replace z0 := Nat.lt_of_succ_lt z
      clear t3 s3
      go_wp2
      exact bodyPost_ret (v := .tuple #[_, _]) (by simp [results, Try.results20, go_sem, g]) rfl ⟨rfl, Later.set (Later.set (Later.set LL (by simp) _) (by simp) _) (by simp) _⟩
    · have e1 : shiftRes r k = (⟨0, 0, 0⟩, 2) := by rw [shiftRes, if_pos hv, if_neg hk]
      have hk' : k < -1000000 ∨ 1000000 < k := by omega
      rw [e1]
      clear e1 hk
      go_enter Try.func20, Try.ntmps20
      go_wp2_with fail
      refine (rValid_calls r _).mono ?_
      rintro e w1 ⟨rfl, t1⟩
      have HF := Lib.hid fun W (hW : Later w1 W) => pair3_facts rfl (t1.trans hW)
      have LL : Later w w1 := Later.trans (by repeat (first | exact Later.refl _ | apply Later.drew | apply Later.drewN | apply Later.alloc)) t1
      have g := HF.out w1 (Later.refl _)
      have T := Later.refl w1
      have z := pair_size t1
      have z0 := Nat.lt_of_succ_lt z
      clear t1
      go_wp2_with fail
      refine (rWithin_f _ _ hk').mono ?_
      rintro e w' ⟨rfl, rfl⟩
      go_wp2
      exact bodyPost_ret (v := .tuple #[_, _]) (by simp [results, Try.results20, go_sem, g]) rfl ⟨rfl, Later.set (Later.set (Later.set LL (by simp) _) (by simp) _) (by simp) _⟩
  · have e1 : shiftRes r k = (⟨0, 0, 0⟩, 30) := if_neg hv
    have hv' : vB r = false := by simpa using hv
    rw [e1]
    clear e1 hv
    go_enter Try.func20, Try.ntmps20
    go_wp2_with fail
    refine (rValid_calls r _).mono ?_
    rintro e w1 ⟨rfl, t1⟩
    have HF := Lib.hid fun W (hW : Later w1 W) => pair3_facts rfl (t1.trans hW)
    have LL : Later w w1 := Later.trans (by repeat (first | exact Later.refl _ | apply Later.drew | apply Later.drewN | apply Later.alloc)) t1
    have g := HF.out w1 (Later.refl _)
    have T := Later.refl w1
    have z := pair_size t1
    have z0 := Nat.lt_of_succ_lt z
    clear t1
    go_wp2
    exact bodyPost_ret (v := .tuple #[_, _]) (by simp [results, Try.results20, go_sem, g]) rfl ⟨rfl, Later.set (Later.set (Later.set LL (by simp) _) (by simp) _) (by simp) _⟩
set_option maxHeartbeats 1000000 in
theorem sExpand_calls (r : Rg) (k : Int) (w : World) :
    Calls Try.prog 21 #[.agg #[.int .i64 (r).lo, .int .i64 (r).hi, .int .i64 (r).st], .int .i64 k] w fun e w' => e = .returned (.tuple #[.agg #[.int .i64 ((expandRes r k).1).lo, .int .i64 ((expandRes r k).1).hi, .int .i64 ((expandRes r k).1).st], .int .i64 (expandRes r k).2]) ∧ Later w w' := by
  by_cases hv : vB r = true
  · have hr := vB_ok hv
    by_cases hk : -4096 ≤ k ∧ k ≤ 4096
    · have e1 : expandRes r k = if (rowOf r).n = 0 ∨ (rowOf r).n + 2 * k ≤ 0 then (⟨1, 0, 1⟩, 0) else (doneV (expandRow r k), doneE (expandRow r k)) := by rw [expandRes, if_pos hv, if_pos hk]
      obtain ⟨k1, k2⟩ := hk
      obtain ⟨n1, n2⟩ := rowOf_n_bd hr
      have hc := canon_ok hr
      have hcv := vB_true hc
      obtain ⟨hx, hs⟩ := rowOf_small hr
      by_cases h0 : (rowOf r).n = 0
      · rw [e1, if_pos (.inl h0)]
        have hn0 : ((rowOf (canonOf (rowOf r))).n == 0) = true := by rw [canonOf_0 h0]; decide
        obtain ⟨d1, d2⟩ := done_none 0 1
        have hx' : (⟨0, 1, 0⟩ : Rw).small := by unfold Rw.small; decide
        clear e1 h0
        go_enter Try.func21, Try.ntmps21
        go_wp2_with fail
        refine (sValid_calls r _).mono ?_
        rintro e w1 ⟨rfl, t1⟩
        have HF := Lib.hid fun W (hW : Later w1 W) => pair3_facts rfl (t1.trans hW)
        have LL : Later w w1 := Later.trans (by repeat (first | exact Later.refl _ | apply Later.drew | apply Later.drewN | apply Later.alloc)) t1
        have g := HF.out w1 (Later.refl _)
        have T := Later.refl w1
        have z := pair_size t1
        have z0 := Nat.lt_of_succ_lt z
        clear t1
        go_wp2_with fail
        refine (sWithin_t _ _ _ _ k1 k2).mono ?_
        rintro e w' ⟨rfl, rfl⟩
        go_wp2_with fail
        refine (rowOf_calls r _ hr).mono ?_
        rintro e w2 ⟨rfl, t2⟩
        have s2 : Later w1 w2 := Later.trans (by repeat (first | exact Later.refl _ | apply Later.drew | apply Later.drewN | apply Later.alloc)) t2
        replace LL := LL.trans s2
        replace T := T.trans s2
        replace g := HF.out w2 T
        replace z := Nat.lt_of_lt_of_le z (Below.size s2)
        replace z0 := Nat.lt_of_succ_lt z
        clear t2 s2
        go_wp2_with fail
        refine (sCanon_calls (rowOf r) _ hx hs).mono ?_
        rintro e w3 ⟨rfl, t3⟩
        have s3 : Later w2 w3 := Later.trans (by repeat (first | exact Later.refl _ | apply Later.drew | apply Later.drewN | apply Later.alloc)) t3
        replace LL := LL.trans s3
        replace T := T.trans s3
        replace g := HF.out w3 T
        replace z := Nat.lt_of_lt_of_le z (Below.size s3)
        replace z0 := Nat.lt_of_succ_lt z
        clear t3 s3
        go_wp2_with fail
        refine (rowOf_calls (canonOf (rowOf r)) _ hc).mono ?_
        rintro e w4 ⟨rfl, t4⟩
        have s4 : Later w3 w4 := Later.trans (by repeat (first | exact Later.refl _ | apply Later.drew | apply Later.drewN | apply Later.alloc)) t4
        replace LL := LL.trans s4
        replace T := T.trans s4
        replace g := HF.out w4 T
        replace z := Nat.lt_of_lt_of_le z (Below.size s4)
        replace z0 := Nat.lt_of_succ_lt z
        clear t4 s4
        go_wp2_with fail
        refine (sDone_calls ⟨0, 1, 0⟩ _ hx' (by decide)).mono ?_
        rintro e w5 ⟨rfl, t5⟩
        have s5 : Later w4 w5 := Later.trans (by repeat (first | exact Later.refl _ | apply Later.drew | apply Later.drewN | apply Later.alloc)) t5
        replace LL := LL.trans s5
        replace T := T.trans s5
        replace g := HF.out w5 T
        replace z := Nat.lt_of_lt_of_le z (Below.size s5)
        replace z0 := Nat.lt_of_succ_lt z
        clear t5 s5
        go_wp2
        exact bodyPost_ret (v := .tuple #[_, _]) (by simp [results, Try.results21, go_sem, g]) rfl ⟨rfl, Later.set (Later.set (Later.set LL (by simp) _) (by simp) _) (by simp) _⟩
      · have hrc := row_canon hr (by omega)
        have h0' : ((refOf r).n == 0) = false := by simp only [beq_eq_false_iff_ne]; exact h0
        have n1' : 0 ≤ (refOf r).n := n1
        have n2' : (refOf r).n ≤ 2000001 := n2
        by_cases hle : (rowOf r).n + 2 * k ≤ 0
        · rw [e1, if_pos (.inr hle)]
          have hle' : (refOf r).n + 2 * k ≤ 0 := hle
          obtain ⟨d1, d2⟩ := done_none 0 1
          have hx' : (⟨0, 1, 0⟩ : Rw).small := by unfold Rw.small; decide
          clear e1
          go_enter Try.func21, Try.ntmps21
          go_wp2_with fail
          refine (sValid_calls r _).mono ?_
          rintro e w1 ⟨rfl, t1⟩
          have HF := Lib.hid fun W (hW : Later w1 W) => pair3_facts rfl (t1.trans hW)
          have LL : Later w w1 := Later.trans (by repeat (first | exact Later.refl _ | apply Later.drew | apply Later.drewN | apply Later.alloc)) t1
          have g := HF.out w1 (Later.refl _)
          have T := Later.refl w1
          have z := pair_size t1
          have z0 := Nat.lt_of_succ_lt z
          clear t1
          go_wp2_with fail
          refine (sWithin_t _ _ _ _ k1 k2).mono ?_
          rintro e w' ⟨rfl, rfl⟩
          go_wp2_with fail
          refine (rowOf_calls r _ hr).mono ?_
          rintro e w2 ⟨rfl, t2⟩
          have s2 : Later w1 w2 := Later.trans (by repeat (first | exact Later.refl _ | apply Later.drew | apply Later.drewN | apply Later.alloc)) t2
          replace LL := LL.trans s2
          replace T := T.trans s2
          replace g := HF.out w2 T
          replace z := Nat.lt_of_lt_of_le z (Below.size s2)
          replace z0 := Nat.lt_of_succ_lt z
          clear t2 s2
          go_wp2_with fail
          refine (sCanon_calls (rowOf r) _ hx hs).mono ?_
          rintro e w3 ⟨rfl, t3⟩
          have s3 : Later w2 w3 := Later.trans (by repeat (first | exact Later.refl _ | apply Later.drew | apply Later.drewN | apply Later.alloc)) t3
          replace LL := LL.trans s3
          replace T := T.trans s3
          replace g := HF.out w3 T
          replace z := Nat.lt_of_lt_of_le z (Below.size s3)
          replace z0 := Nat.lt_of_succ_lt z
          clear t3 s3
          go_wp2_with fail
          refine (rowOf_calls (canonOf (rowOf r)) _ hc).mono ?_
          rintro e w4 ⟨rfl, t4⟩
          have s4 : Later w3 w4 := Later.trans (by repeat (first | exact Later.refl _ | apply Later.drew | apply Later.drewN | apply Later.alloc)) t4
          replace LL := LL.trans s4
          replace T := T.trans s4
          replace g := HF.out w4 T
          replace z := Nat.lt_of_lt_of_le z (Below.size s4)
          replace z0 := Nat.lt_of_succ_lt z
          clear t4 s4
          go_wp2_with fail
          refine (sDone_calls ⟨0, 1, 0⟩ _ hx' (by decide)).mono ?_
          rintro e w5 ⟨rfl, t5⟩
          have s5 : Later w4 w5 := Later.trans (by repeat (first | exact Later.refl _ | apply Later.drew | apply Later.drewN | apply Later.alloc)) t5
          replace LL := LL.trans s5
          replace T := T.trans s5
          replace g := HF.out w5 T
          replace z := Nat.lt_of_lt_of_le z (Below.size s5)
          replace z0 := Nat.lt_of_succ_lt z
          clear t5 s5
          go_wp2
          exact bodyPost_ret (v := .tuple #[_, _]) (by simp [results, Try.results21, go_sem, g]) rfl ⟨rfl, Later.set (Later.set (Later.set LL (by simp) _) (by simp) _) (by simp) _⟩
        · rw [e1, if_neg (by omega)]
          have hgt : 0 < (refOf r).n + 2 * k := by have : (refOf r).n = (rowOf r).n := rfl; omega
          obtain ⟨hx', hs'⟩ := expand_small hr k1 k2 (by omega)
          obtain ⟨s1, s2, s3⟩ := refOf_s_bd hr
          obtain ⟨⟨y1, y2, _, _, _, _⟩, _⟩ := refOf_small hr
          have p3 := prod_bd' (a := -k) (b := (refOf r).s) (by omega) (by omega) s1 s2
          have ea : atOf (refOf r) (-k) = (refOf r).f - k * (refOf r).s := by unfold atOf; rw [Int.neg_mul]; omega
          clear e1
          go_enter Try.func21, Try.ntmps21
          go_wp2_with fail
          refine (sValid_calls r _).mono ?_
          rintro e w1 ⟨rfl, t1⟩
          have HF := Lib.hid fun W (hW : Later w1 W) => pair3_facts rfl (t1.trans hW)
          have LL : Later w w1 := Later.trans (by repeat (first | exact Later.refl _ | apply Later.drew | apply Later.drewN | apply Later.alloc)) t1
          have g := HF.out w1 (Later.refl _)
          have T := Later.refl w1
          have z := pair_size t1
          have z0 := Nat.lt_of_succ_lt z
          clear t1
          go_wp2_with fail
          refine (sWithin_t _ _ _ _ k1 k2).mono ?_
          rintro e w' ⟨rfl, rfl⟩
          go_wp2_with fail
          refine (rowOf_calls r _ hr).mono ?_
          rintro e w2 ⟨rfl, t2⟩
          have s2 : Later w1 w2 := Later.trans (by repeat (first | exact Later.refl _ | apply Later.drew | apply Later.drewN | apply Later.alloc)) t2
          replace LL := LL.trans s2
          replace T := T.trans s2
          replace g := HF.out w2 T
          replace z := Nat.lt_of_lt_of_le z (Below.size s2)
          replace z0 := Nat.lt_of_succ_lt z
          clear t2 s2
          go_wp2_with fail
          refine (sCanon_calls (rowOf r) _ hx hs).mono ?_
          rintro e w3 ⟨rfl, t3⟩
          have s3 : Later w2 w3 := Later.trans (by repeat (first | exact Later.refl _ | apply Later.drew | apply Later.drewN | apply Later.alloc)) t3
          replace LL := LL.trans s3
          replace T := T.trans s3
          replace g := HF.out w3 T
          replace z := Nat.lt_of_lt_of_le z (Below.size s3)
          replace z0 := Nat.lt_of_succ_lt z
          clear t3 s3
          go_wp2_with fail
          refine (rowOf_calls (canonOf (rowOf r)) _ hc).mono ?_
          rintro e w4 ⟨rfl, t4⟩
          have s4 : Later w3 w4 := Later.trans (by repeat (first | exact Later.refl _ | apply Later.drew | apply Later.drewN | apply Later.alloc)) t4
          replace LL := LL.trans s4
          replace T := T.trans s4
          replace g := HF.out w4 T
          replace z := Nat.lt_of_lt_of_le z (Below.size s4)
          replace z0 := Nat.lt_of_succ_lt z
          clear t4 s4
          go_wp2_with fail
          have hAt := fun w => sAt_calls (refOf r) (-k) w (by omega) (by omega) y1 y2
          simp only [ea] at hAt
          clear ea
          have hneg : IntKind.i64.wrap (-k) = -k := IntWalk.i64_in _ (by omega)
          have hdbl : IntKind.i64.wrap (2 * k) = 2 * k := IntWalk.i64_in _ (by omega)
          have hsum : IntKind.i64.wrap ((refOf r).n + 2 * k) = (refOf r).n + 2 * k := IntWalk.i64_in _ (by omega)
          obtain ⟨W0, hW0⟩ : ∃ W0, W0 = w4.alloc (.cells #[.int .i64 (refOf r).f, .int .i64 (refOf r).s, .int .i64 (refOf r).n] 48) := ⟨_, rfl⟩
          have S0 : Later w4 W0 := hW0 ▸ (Later.refl w4).alloc _
          have HF0 := Lib.hid fun W (hW : Later W0 W) => And.intro (HF.out W (T.trans (S0.trans hW))) (box3_facts (w := w4) (hW0 ▸ hW))
          clear HF
          have HF := HF0
          clear HF0 g
          have z2 : w4.heap.size < W0.heap.size := by rw [hW0, World.size_alloc]; omega
          rw [← hW0]
          clear hW0
          refine wp_region_quiet_tail (Later W0) 15 (by kernel_rfl) (by kernel_rfl) ((Later.refl _).drew) ?_
          simp only [List.take_succ_cons, List.take_zero, List.drop_succ_cons, List.drop_zero]
          repeat (apply wpQuiet_op; rfl; (intro W hW; have g := HF.out W hW; go_simp; first | rfl | exact (hAt _).mono fun e w'' ⟨he, ht⟩ => ⟨he, hW.trans ht⟩ | exact (sDone_calls (expandRow r k) _ hx' hs').mono fun e w'' ⟨he, ht⟩ => ⟨he, hW.trans ht⟩); go_simp)
          refine wpQuiet_nil ?_
          intro W1 hW1
          have g := HF.out W1 hW1
          replace LL := LL.trans (S0.trans hW1)
          go_wp2
          exact bodyPost_ret (v := .tuple #[_, _]) (by simp [results, Try.results21, go_sem, g]) rfl ⟨rfl, Later.set (Later.set (Later.set LL (by simp) _) (by simp) _) (by simp) _⟩
    · have e1 : expandRes r k = (⟨0, 0, 0⟩, 2) := by rw [expandRes, if_pos hv, if_neg hk]
      have hk' : k < -4096 ∨ 4096 < k := by omega
      rw [e1]
      clear e1 hk
      go_enter Try.func21, Try.ntmps21
      go_wp2_with fail
      refine (sValid_calls r _).mono ?_
      rintro e w1 ⟨rfl, t1⟩
      have HF := Lib.hid fun W (hW : Later w1 W) => pair3_facts rfl (t1.trans hW)
      have LL : Later w w1 := Later.trans (by repeat (first | exact Later.refl _ | apply Later.drew | apply Later.drewN | apply Later.alloc)) t1
      have g := HF.out w1 (Later.refl _)
      have T := Later.refl w1
      have z := pair_size t1
      have z0 := Nat.lt_of_succ_lt z
      clear t1
      go_wp2_with fail
      refine (sWithin_f _ _ _ _ hk').mono ?_
      rintro e w' ⟨rfl, rfl⟩
      go_wp2
      exact bodyPost_ret (v := .tuple #[_, _]) (by simp [results, Try.results21, go_sem, g]) rfl ⟨rfl, Later.set (Later.set (Later.set LL (by simp) _) (by simp) _) (by simp) _⟩
  · have e1 : expandRes r k = (⟨0, 0, 0⟩, 30) := if_neg hv
    have hv' : vB r = false := by simpa using hv
    rw [e1]
    clear e1 hv
    go_enter Try.func21, Try.ntmps21
    go_wp2_with fail
    refine (sValid_calls r _).mono ?_
    rintro e w1 ⟨rfl, t1⟩
    have HF := Lib.hid fun W (hW : Later w1 W) => pair3_facts rfl (t1.trans hW)
    have LL : Later w w1 := Later.trans (by repeat (first | exact Later.refl _ | apply Later.drew | apply Later.drewN | apply Later.alloc)) t1
    have g := HF.out w1 (Later.refl _)
    have T := Later.refl w1
    have z := pair_size t1
    have z0 := Nat.lt_of_succ_lt z
    clear t1
    go_wp2
    exact bodyPost_ret (v := .tuple #[_, _]) (by simp [results, Try.results21, go_sem, g]) rfl ⟨rfl, Later.set (Later.set (Later.set LL (by simp) _) (by simp) _) (by simp) _⟩
set_option maxHeartbeats 1000000 in
theorem rExpand_calls (r : Rg) (k : Int) (w : World) :
    Calls Try.prog 22 #[.agg #[.int .i64 (r).lo, .int .i64 (r).hi, .int .i64 (r).st], .int .i64 k] w fun e w' => e = .returned (.tuple #[.agg #[.int .i64 ((expandRes r k).1).lo, .int .i64 ((expandRes r k).1).hi, .int .i64 ((expandRes r k).1).st], .int .i64 (expandRes r k).2]) ∧ Later w w' := by
  by_cases hv : vB r = true
  · have hr := vB_ok hv
    by_cases hk : -4096 ≤ k ∧ k ≤ 4096
    · have e1 : expandRes r k = if (rowOf r).n = 0 ∨ (rowOf r).n + 2 * k ≤ 0 then (⟨1, 0, 1⟩, 0) else (doneV (expandRow r k), doneE (expandRow r k)) := by rw [expandRes, if_pos hv, if_pos hk]
      obtain ⟨k1, k2⟩ := hk
      obtain ⟨n1, n2⟩ := rowOf_n_bd hr
      obtain ⟨s1, s2, s3⟩ := refOf_s_bd hr
      obtain ⟨⟨y1, y2, _, _, _, _⟩, _⟩ := refOf_small hr
      have p3 := prod_bd' (a := k) (b := (refOf r).s) k1 k2 s1 s2
      have n1' : 0 ≤ (refOf r).n := n1
      have n2' : (refOf r).n ≤ 2000001 := n2
      by_cases h0 : (refOf r).n = 0
      · rw [e1, if_pos (.inl h0)]
        have hn0 : ((refOf r).n == 0) = true := by simp [h0]
        have hle : (refOf r).n ≤ 0 := by omega
        clear e1 h0
        go_enter Try.func22, Try.ntmps22
        go_wp2_with fail
        refine (rValid_calls r _).mono ?_
        rintro e w1 ⟨rfl, t1⟩
        have HF := Lib.hid fun W (hW : Later w1 W) => pair3_facts rfl (t1.trans hW)
        have LL : Later w w1 := Later.trans (by repeat (first | exact Later.refl _ | apply Later.drew | apply Later.drewN | apply Later.alloc)) t1
        have g := HF.out w1 (Later.refl _)
        have T := Later.refl w1
        have z := pair_size t1
        have z0 := Nat.lt_of_succ_lt z
        clear t1
        go_wp2_with fail
        refine (rOf_calls r _ hr).mono ?_
        rintro e w2 ⟨rfl, t2⟩
        have s2 : Later w1 w2 := Later.trans (by repeat (first | exact Later.refl _ | apply Later.drew | apply Later.drewN | apply Later.alloc)) t2
        replace LL := LL.trans s2
        replace T := T.trans s2
        replace g := HF.out w2 T
        replace z := Nat.lt_of_lt_of_le z (Below.size s2)
        replace z0 := Nat.lt_of_succ_lt z
        clear t2 s2
        go_wp2_with fail
        refine (rMade_le (refOf r) _ hle).mono ?_
        rintro e w3 ⟨rfl, t3⟩
        have s3 : Later w2 w3 := Later.trans (by repeat (first | exact Later.refl _ | apply Later.drew | apply Later.drewN | apply Later.alloc)) t3
        replace LL := LL.trans s3
        replace T := T.trans s3
        replace g := HF.out w3 T
        replace z := Nat.lt_of_lt_of_le z (Below.size s3)
        replace z0 := Nat.lt_of_succ_lt z
        clear t3 s3
        go_wp2
        exact bodyPost_ret (v := .tuple #[_, _]) (by simp [results, Try.results22, go_sem, g]) rfl ⟨rfl, Later.set (Later.set (Later.set LL (by simp) _) (by simp) _) (by simp) _⟩
      · have h0' : ((refOf r).n == 0) = false := by simp [h0]
        by_cases hle : (rowOf r).n + 2 * k ≤ 0
        · rw [e1, if_pos (.inr hle)]
          have hle' : (expandRow r k).n ≤ 0 := hle
          clear e1 h0
          go_enter Try.func22, Try.ntmps22
          go_wp2_with fail
          refine (rValid_calls r _).mono ?_
          rintro e w1 ⟨rfl, t1⟩
          have HF := Lib.hid fun W (hW : Later w1 W) => pair3_facts rfl (t1.trans hW)
          have LL : Later w w1 := Later.trans (by repeat (first | exact Later.refl _ | apply Later.drew | apply Later.drewN | apply Later.alloc)) t1
          have g := HF.out w1 (Later.refl _)
          have T := Later.refl w1
          have z := pair_size t1
          have z0 := Nat.lt_of_succ_lt z
          clear t1
          go_wp2_with fail
          refine (rOf_calls r _ hr).mono ?_
          rintro e w2 ⟨rfl, t2⟩
          have s2 : Later w1 w2 := Later.trans (by repeat (first | exact Later.refl _ | apply Later.drew | apply Later.drewN | apply Later.alloc)) t2
          replace LL := LL.trans s2
          replace T := T.trans s2
          replace g := HF.out w2 T
          replace z := Nat.lt_of_lt_of_le z (Below.size s2)
          replace z0 := Nat.lt_of_succ_lt z
          clear t2 s2
          go_wp2_with fail
          refine (rMade_le (expandRow r k) _ hle').mono ?_
          rintro e w3 ⟨rfl, t3⟩
          have s3 : Later w2 w3 := Later.trans (by repeat (first | exact Later.refl _ | apply Later.drew | apply Later.drewN | apply Later.alloc)) t3
          replace LL := LL.trans s3
          replace T := T.trans s3
          replace g := HF.out w3 T
          replace z := Nat.lt_of_lt_of_le z (Below.size s3)
          replace z0 := Nat.lt_of_succ_lt z
          clear t3 s3
          go_wp2
          exact bodyPost_ret (v := .tuple #[_, _]) (by simp [results, Try.results22, go_sem, g]) rfl ⟨rfl, Later.set (Later.set (Later.set LL (by simp) _) (by simp) _) (by simp) _⟩
        · have h00 : (rowOf r).n ≠ 0 := h0
          rw [e1, if_neg (by omega)]
          obtain ⟨hx', hs'⟩ := expand_small hr k1 k2 (by omega)
          clear e1 h0
          go_enter Try.func22, Try.ntmps22
          go_wp2_with fail
          refine (rValid_calls r _).mono ?_
          rintro e w1 ⟨rfl, t1⟩
          have HF := Lib.hid fun W (hW : Later w1 W) => pair3_facts rfl (t1.trans hW)
          have LL : Later w w1 := Later.trans (by repeat (first | exact Later.refl _ | apply Later.drew | apply Later.drewN | apply Later.alloc)) t1
          have g := HF.out w1 (Later.refl _)
          have T := Later.refl w1
          have z := pair_size t1
          have z0 := Nat.lt_of_succ_lt z
          clear t1
          go_wp2_with fail
          refine (rOf_calls r _ hr).mono ?_
          rintro e w2 ⟨rfl, t2⟩
          have s2 : Later w1 w2 := Later.trans (by repeat (first | exact Later.refl _ | apply Later.drew | apply Later.drewN | apply Later.alloc)) t2
          replace LL := LL.trans s2
          replace T := T.trans s2
          replace g := HF.out w2 T
          replace z := Nat.lt_of_lt_of_le z (Below.size s2)
          replace z0 := Nat.lt_of_succ_lt z
          clear t2 s2
          go_wp2_with fail
          refine (rMade_calls (expandRow r k) _ hx' hs').mono ?_
          rintro e w3 ⟨rfl, t3⟩
          have s3 : Later w2 w3 := Later.trans (by repeat (first | exact Later.refl _ | apply Later.drew | apply Later.drewN | apply Later.alloc)) t3
          replace LL := LL.trans s3
          replace T := T.trans s3
          replace g := HF.out w3 T
          replace z := Nat.lt_of_lt_of_le z (Below.size s3)
          replace z0 := Nat.lt_of_succ_lt z
          clear t3 s3
          go_wp2
          exact bodyPost_ret (v := .tuple #[_, _]) (by simp [results, Try.results22, go_sem, g]) rfl ⟨rfl, Later.set (Later.set (Later.set LL (by simp) _) (by simp) _) (by simp) _⟩
    · have e1 : expandRes r k = (⟨0, 0, 0⟩, 2) := by rw [expandRes, if_pos hv, if_neg hk]
      rw [e1]
      clear e1
      by_cases hk1 : k < -4096
      · clear hk
        go_enter Try.func22, Try.ntmps22
        go_wp2_with fail
        refine (rValid_calls r _).mono ?_
        rintro e w1 ⟨rfl, t1⟩
        have HF := Lib.hid fun W (hW : Later w1 W) => pair3_facts rfl (t1.trans hW)
        have LL : Later w w1 := Later.trans (by repeat (first | exact Later.refl _ | apply Later.drew | apply Later.drewN | apply Later.alloc)) t1
        have g := HF.out w1 (Later.refl _)
        have T := Later.refl w1
        have z := pair_size t1
        have z0 := Nat.lt_of_succ_lt z
        clear t1
        go_wp2
        exact bodyPost_ret (v := .tuple #[_, _]) (by simp [results, Try.results22, go_sem, g]) rfl ⟨rfl, Later.set (Later.set (Later.set LL (by simp) _) (by simp) _) (by simp) _⟩
      · have hk2 : 4096 < k := by omega
        clear hk
        go_enter Try.func22, Try.ntmps22
        go_wp2_with fail
        refine (rValid_calls r _).mono ?_
        rintro e w1 ⟨rfl, t1⟩
        have HF := Lib.hid fun W (hW : Later w1 W) => pair3_facts rfl (t1.trans hW)
        have LL : Later w w1 := Later.trans (by repeat (first | exact Later.refl _ | apply Later.drew | apply Later.drewN | apply Later.alloc)) t1
        have g := HF.out w1 (Later.refl _)
        have T := Later.refl w1
        have z := pair_size t1
        have z0 := Nat.lt_of_succ_lt z
        clear t1
        go_wp2
        exact bodyPost_ret (v := .tuple #[_, _]) (by simp [results, Try.results22, go_sem, g]) rfl ⟨rfl, Later.set (Later.set (Later.set LL (by simp) _) (by simp) _) (by simp) _⟩
  · have e1 : expandRes r k = (⟨0, 0, 0⟩, 30) := if_neg hv
    have hv' : vB r = false := by simpa using hv
    rw [e1]
    clear e1 hv
    go_enter Try.func22, Try.ntmps22
    go_wp2_with fail
    refine (rValid_calls r _).mono ?_
    rintro e w1 ⟨rfl, t1⟩
    have HF := Lib.hid fun W (hW : Later w1 W) => pair3_facts rfl (t1.trans hW)
    have LL : Later w w1 := Later.trans (by repeat (first | exact Later.refl _ | apply Later.drew | apply Later.drewN | apply Later.alloc)) t1
    have g := HF.out w1 (Later.refl _)
    have T := Later.refl w1
    have z := pair_size t1
    have z0 := Nat.lt_of_succ_lt z
    clear t1
    go_wp2
    exact bodyPost_ret (v := .tuple #[_, _]) (by simp [results, Try.results22, go_sem, g]) rfl ⟨rfl, Later.set (Later.set (Later.set LL (by simp) _) (by simp) _) (by simp) _⟩
end Go.Proofs.Ytoeabdanldiccaa
