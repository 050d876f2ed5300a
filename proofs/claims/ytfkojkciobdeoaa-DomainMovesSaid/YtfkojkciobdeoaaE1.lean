/- The reference's Shift, Expand and Take of ranges; inner and outer of package domain, by the abstract machine. -/
import Derived.Test.YtfkojkciobdeoaaD4
import Derived.Test.YtfkojkciobdeoaaS5
namespace Go.Proofs.Ytfkojkciobdeoaa
open Go.RowKit
set_option linter.unusedVariables false
set_option maxHeartbeats 16000000
set_option linter.unusedSimpArgs false
set_option maxRecDepth 100000
theorem rShift_d (r : Rg) (k : Int) : DC Try.prog 128 [rD r, iD k] (.tup [rD (shiftRes r k).1, iD (shiftRes r k).2]) := by
  cases hv : vB r with
  | false =>
    rw [show shiftRes r k = (⟨0, 0, 0⟩, 30) from if_neg (by rw [hv]; decide)]
    refine DC.of Try.func128 Try.ntmps128 Try.results128 rfl (by decide +kernel) rfl ?_
    repeat (first | refine Z1 ?_ | refine Z2 ?_ | (refine Z3 ?_; (repeat (first | (apply gS; first | refine go_f ?_ | refine gm ?_ | refine gp ?_ | refine go_c rfl rfl (rValid_b _ _ _ hv) ?_) | (apply gZ; first | refine go_f ?_ | refine gm ?_))); refine T_nil ?_) | (apply ZK; first | refine Z4 ?_ | refine Z5 ?_) | refine Z6 ?_ | refine Z7 ?_ | refine Z8 ?_ | refine Z9 ?_ | refine ZA ?_ | refine ZB ?_ | refine ZC ?_ | refine ZF ?_)
    repeat (first | refine kEnd_m ?_ | refine kEnd_f ?_)
    refine kEnd_g ?_ (by first | exact .inl rfl | exact .inr rfl)
    exact Sub.eq rfl rfl
  | true =>
    have hr := vB_okS hv
    obtain ⟨hx, hs⟩ := refOf_small hr
    obtain ⟨f1, f2⟩ := rowOf_f_bd hr
    have ef : (refOf r).f = (rowOf r).f := rfl
    by_cases hk : -1000000 ≤ k ∧ k ≤ 1000000
    · have hx' : Rw.small ⟨(refOf r).f + k, (refOf r).s, (refOf r).n⟩ := by
        obtain ⟨a, b, c, d, e, f⟩ := hx
        exact ⟨by simp only; omega, by simp only; omega, c, d, e, f⟩
      have M := rMade_d ⟨(refOf r).f + k, (refOf r).s, (refOf r).n⟩ hx' hs
      obtain ⟨e1, e2⟩ := shift_ref hr k
      rw [e1, e2] at M
      rw [show shiftRes r k = (doneV ⟨(rowOf r).f + k, (rowOf r).s, (rowOf r).n⟩, doneE ⟨(rowOf r).f + k, (rowOf r).s, (rowOf r).n⟩) from (if_pos hv).trans (if_pos hk)]
      refine DC.of Try.func128 Try.ntmps128 Try.results128 rfl (by decide +kernel) rfl ?_
      repeat (first | refine Z1 ?_ | refine Z2 ?_ | (refine Z3 ?_; (repeat (first | (apply gS; first | refine go_f ?_ | refine gm ?_ | refine gp ?_ | refine go_c rfl rfl (rValid_b _ _ _ hv) ?_ | refine go_c rfl rfl (rOf_r r hr) ?_ | refine go_c rfl rfl (rWithin_t _ (by omega) (by omega)) ?_ | refine go_c rfl rfl (M) ?_) | (apply gZ; first | refine go_f ?_ | refine gm ?_))); refine T_nil ?_) | (apply ZK; first | refine Z4 ?_ | refine Z5 ?_) | refine Z6 ?_ | refine Z7 ?_ | refine Z8 ?_ | refine Z9 ?_ | refine ZA ?_ | refine ZB ?_ | refine ZC ?_ | refine ZF ?_)
      repeat (first | refine kEnd_m ?_ | refine kEnd_f ?_)
      refine kEnd_g ?_ (by first | exact .inl rfl | exact .inr rfl)
      exact Sub.eq rfl rfl
    · rw [show shiftRes r k = (⟨0, 0, 0⟩, 2) from (if_pos hv).trans (if_neg hk)]
      refine DC.of Try.func128 Try.ntmps128 Try.results128 rfl (by decide +kernel) rfl ?_
      repeat (first | refine Z1 ?_ | refine Z2 ?_ | (refine Z3 ?_; (repeat (first | (apply gS; first | refine go_f ?_ | refine gm ?_ | refine gp ?_ | refine go_c rfl rfl (rValid_b _ _ _ hv) ?_ | refine go_c rfl rfl (rWithin_f _ (by omega)) ?_) | (apply gZ; first | refine go_f ?_ | refine gm ?_))); refine T_nil ?_) | (apply ZK; first | refine Z4 ?_ | refine Z5 ?_) | refine Z6 ?_ | refine Z7 ?_ | refine Z8 ?_ | refine Z9 ?_ | refine ZA ?_ | refine ZB ?_ | refine ZC ?_ | refine ZF ?_)
      repeat (first | refine kEnd_m ?_ | refine kEnd_f ?_)
      refine kEnd_g ?_ (by first | exact .inl rfl | exact .inr rfl)
      exact Sub.eq rfl rfl
theorem rExpand_d (r : Rg) (k : Int) : DC Try.prog 129 [rD r, iD k] (.tup [rD (expandRes r k).1, iD (expandRes r k).2]) := by
  cases hv : vB r with
  | false =>
    rw [show expandRes r k = (⟨0, 0, 0⟩, 30) from if_neg (by rw [hv]; decide)]
    refine DC.of Try.func129 Try.ntmps129 Try.results129 rfl (by decide +kernel) rfl ?_
    repeat (first | refine Z1 ?_ | refine Z2 ?_ | (refine Z3 ?_; (repeat (first | (apply gS; first | refine go_no ?_ | refine go_f ?_ | refine gm ?_ | refine gp ?_ | refine go_c rfl rfl (rValid_b _ _ _ hv) ?_) | (apply gZ; first | refine go_f ?_ | refine gm ?_))); refine T_nil ?_) | (apply ZK; first | refine Z4 ?_ | refine Z5 ?_) | refine Z6 ?_ | refine Z7 ?_ | refine Z8 ?_ | refine Z9 ?_ | refine ZA ?_ | refine ZB ?_ | refine ZC ?_ | refine ZF ?_)
    repeat (first | refine kEnd_m ?_ | refine kEnd_f ?_)
    refine kEnd_g ?_ (by first | exact .inl rfl | exact .inr rfl)
    exact Sub.eq rfl rfl
  | true =>
    have hr := vB_okS hv
    obtain ⟨n1, n2⟩ := rowOf_n_bd hr
    obtain ⟨f1, f2⟩ := rowOf_f_bd hr
    obtain ⟨s1, s2, s3⟩ := refOf_s_bd hr
    have en : (refOf r).n = (rowOf r).n := rfl
    have ef : (refOf r).f = (rowOf r).f := rfl
    by_cases hk : -4096 ≤ k ∧ k ≤ 4096
    · obtain ⟨k1, k2⟩ := hk
      have p := prod_bd' (a := k) (b := (refOf r).s) k1 k2 s1 s2
      by_cases h0 : (rowOf r).n = 0
      · have M := rMade_le (refOf r) (by omega)
        rw [show expandRes r k = (⟨1, 0, 1⟩, 0) from (if_pos hv).trans ((if_pos ⟨k1, k2⟩).trans (if_pos (.inl h0)))]
        refine DC.of Try.func129 Try.ntmps129 Try.results129 rfl (by decide +kernel) rfl ?_
        repeat (first | refine Z1 ?_ | refine Z2 ?_ | (refine Z3 ?_; (repeat (first | (apply gS; first | refine go_no ?_ | refine go_f ?_ | refine gm ?_ | refine gp ?_ | refine go_c rfl rfl (rValid_b _ _ _ hv) ?_ | refine go_c rfl rfl (rOf_r r hr) ?_ | refine go_c rfl rfl (M) ?_) | (apply gZ; first | refine go_f ?_ | refine gm ?_))); refine T_nil ?_) | (apply ZK; first | refine Z4 ?_ | refine Z5 ?_) | refine Z6 ?_ | refine Z7 ?_ | refine Z8 ?_ | refine Z9 ?_ | refine ZA ?_ | refine ZB ?_ | refine ZC ?_ | refine ZF ?_)
        repeat (first | refine kEnd_m ?_ | refine kEnd_f ?_)
        refine kEnd_g ?_ (by first | exact .inl rfl | exact .inr rfl)
        exact Sub.eq rfl rfl
      · by_cases hle : (rowOf r).n + 2 * k ≤ 0
        · have M := rMade_le ⟨(refOf r).f - k * (refOf r).s, (refOf r).s, (refOf r).n + 2 * k⟩ (by simp only; omega)
          rw [show expandRes r k = (⟨1, 0, 1⟩, 0) from (if_pos hv).trans ((if_pos ⟨k1, k2⟩).trans (if_pos (.inr hle)))]
          refine DC.of Try.func129 Try.ntmps129 Try.results129 rfl (by decide +kernel) rfl ?_
          repeat (first | refine Z1 ?_ | refine Z2 ?_ | (refine Z3 ?_; (repeat (first | (apply gS; first | refine go_no ?_ | refine go_f ?_ | refine gm ?_ | refine gp ?_ | refine go_c rfl rfl (rValid_b _ _ _ hv) ?_ | refine go_c rfl rfl (rOf_r r hr) ?_ | refine go_c rfl rfl (M) ?_) | (apply gZ; first | refine go_f ?_ | refine gm ?_))); refine T_nil ?_) | (apply ZK; first | refine Z4 ?_ | refine Z5 ?_) | refine Z6 ?_ | refine Z7 ?_ | refine Z8 ?_ | refine Z9 ?_ | refine ZA ?_ | refine ZB ?_ | refine ZC ?_ | refine ZF ?_)
          repeat (first | refine kEnd_m ?_ | refine kEnd_f ?_)
          refine kEnd_g ?_ (by first | exact .inl rfl | exact .inr rfl)
          exact Sub.eq rfl rfl
        · obtain ⟨hx', hs'⟩ := expand_small hr k1 k2 (by omega)
          have M := rMade_d (expandRow r k) hx' hs'
          rw [show expandRes r k = (doneV (expandRow r k), doneE (expandRow r k)) from (if_pos hv).trans ((if_pos ⟨k1, k2⟩).trans (if_neg (by omega)))]
          refine DC.of Try.func129 Try.ntmps129 Try.results129 rfl (by decide +kernel) rfl ?_
          repeat (first | refine Z1 ?_ | refine Z2 ?_ | (refine Z3 ?_; (repeat (first | (apply gS; first | refine go_no ?_ | refine go_f ?_ | refine gm ?_ | refine gp ?_ | refine go_c rfl rfl (rValid_b _ _ _ hv) ?_ | refine go_c rfl rfl (rOf_r r hr) ?_ | refine go_c rfl rfl (M) ?_) | (apply gZ; first | refine go_f ?_ | refine gm ?_))); refine T_nil ?_) | (apply ZK; first | refine Z4 ?_ | refine Z5 ?_) | refine Z6 ?_ | refine Z7 ?_ | refine Z8 ?_ | refine Z9 ?_ | refine ZA ?_ | refine ZB ?_ | refine ZC ?_ | refine ZF ?_)
          repeat (first | refine kEnd_m ?_ | refine kEnd_f ?_)
          refine kEnd_g ?_ (by first | exact .inl rfl | exact .inr rfl)
          exact Sub.eq rfl rfl
    · rw [show expandRes r k = (⟨0, 0, 0⟩, 2) from (if_pos hv).trans (if_neg hk)]
      by_cases hk1 : k < -4096
      · clear hk
        refine DC.of Try.func129 Try.ntmps129 Try.results129 rfl (by decide +kernel) rfl ?_
        repeat (first | refine Z1 ?_ | refine Z2 ?_ | (refine Z3 ?_; (repeat (first | (apply gS; first | refine go_no ?_ | refine go_f ?_ | refine gm ?_ | refine gp ?_ | refine go_c rfl rfl (rValid_b _ _ _ hv) ?_) | (apply gZ; first | refine go_f ?_ | refine gm ?_))); refine T_nil ?_) | (apply ZK; first | refine Z4 ?_ | refine Z5 ?_) | refine Z6 ?_ | refine Z7 ?_ | refine Z8 ?_ | refine Z9 ?_ | refine ZA ?_ | refine ZB ?_ | refine ZC ?_ | refine ZF ?_)
        repeat (first | refine kEnd_m ?_ | refine kEnd_f ?_)
        refine kEnd_g ?_ (by first | exact .inl rfl | exact .inr rfl)
        exact Sub.eq rfl rfl
      · have hk2 : 4096 < k := by omega
        clear hk
        refine DC.of Try.func129 Try.ntmps129 Try.results129 rfl (by decide +kernel) rfl ?_
        repeat (first | refine Z1 ?_ | refine Z2 ?_ | (refine Z3 ?_; (repeat (first | (apply gS; first | refine go_no ?_ | refine go_f ?_ | refine gm ?_ | refine gp ?_ | refine go_c rfl rfl (rValid_b _ _ _ hv) ?_) | (apply gZ; first | refine go_f ?_ | refine gm ?_))); refine T_nil ?_) | (apply ZK; first | refine Z4 ?_ | refine Z5 ?_) | refine Z6 ?_ | refine Z7 ?_ | refine Z8 ?_ | refine Z9 ?_ | refine ZA ?_ | refine ZB ?_ | refine ZC ?_ | refine ZF ?_)
        repeat (first | refine kEnd_m ?_ | refine kEnd_f ?_)
        refine kEnd_g ?_ (by first | exact .inl rfl | exact .inr rfl)
        exact Sub.eq rfl rfl
theorem rCount_row (x : Rw) (k : Int) (n1 : 0 ≤ x.n) (n2 : x.n ≤ 4194304) (k1 : -9223372036854775808 ≤ k) (k2 : k ≤ 9223372036854775807) : DC Try.prog 139 [wD x, iD k] (.tup [iD (cutN x k), bD (decide (k < 0))]) := by
  by_cases h0 : 0 ≤ k
  · rw [decide_eq_false (by omega)]
    unfold cutN
    rw [if_pos h0]
    by_cases h1 : k ≤ x.n
    all_goals
      simp only [h1, if_true, if_false]
      refine DC.of Try.func139 Try.ntmps139 Try.results139 rfl (by decide +kernel) rfl ?_
      repeat (first | refine Z1 ?_ | refine Z2 ?_ | (refine Z3 ?_; (repeat (first | (apply gS; first | refine go_f ?_ | refine gm ?_ | refine gp ?_))); refine T_nil ?_) | (apply ZK; first | refine Z4 ?_ | refine Z5 ?_) | refine Z6 ?_ | refine Z7 ?_ | refine ZF ?_)
      repeat (first | refine kEnd_m ?_ | refine kEnd_f ?_)
      refine kEnd_g ?_ (by first | exact .inl rfl | exact .inr rfl)
      exact Sub.eq rfl rfl
  · rw [decide_eq_true (by omega)]
    unfold cutN
    rw [if_neg h0]
    by_cases h1 : k < -x.n
    all_goals
      simp only [h1, if_true, if_false]
      refine DC.of Try.func139 Try.ntmps139 Try.results139 rfl (by decide +kernel) rfl ?_
      repeat (first | refine Z1 ?_ | refine Z2 ?_ | (refine Z3 ?_; (repeat (first | (apply gS; first | refine go_f ?_ | refine gm ?_ | refine gp ?_))); refine T_nil ?_) | (apply ZK; first | refine Z4 ?_ | refine Z5 ?_) | refine Z6 ?_ | refine Z7 ?_ | refine ZF ?_)
      repeat (first | refine kEnd_m ?_ | refine kEnd_f ?_)
      refine kEnd_g ?_ (by first | exact .inl rfl | exact .inr rfl)
      exact Sub.eq rfl rfl
theorem rTake_d (r : Rg) (k : Int) (k1 : -9223372036854775808 ≤ k) (k2 : k ≤ 9223372036854775807) : DC Try.prog 130 [rD r, iD k] (.tup [rD (takeRes r k).1, iD (takeRes r k).2]) := by
  cases hv : vB r with
  | false =>
    rw [show takeRes r k = (⟨0, 0, 0⟩, 30) from if_neg (by rw [hv]; decide)]
    refine DC.of Try.func130 Try.ntmps130 Try.results130 rfl (by decide +kernel) rfl ?_
    repeat (first | refine Z1 ?_ | refine Z2 ?_ | (refine Z3 ?_; (repeat (first | (apply gS; first | refine go_f ?_ | refine gm ?_ | refine gp ?_ | refine go_c rfl rfl (rValid_b _ _ _ hv) ?_) | (apply gZ; first | refine go_f ?_ | refine gm ?_))); refine T_nil ?_) | (apply ZR; refine C_dr mixed ?_; (repeat (first | (apply vS; first | refine va ?_ | refine vp ?_ | refine vr ?_ | refine vt ?_ | refine vc (rValid_b _ _ _ hv) ?_) | (apply vZ; refine vs ?_))); refine W_e ?_) | (apply ZK; first | refine Z4 ?_ | refine Z5 ?_) | refine Z6 ?_ | refine Z7 ?_ | refine ZF ?_)
    repeat (first | refine kEnd_m ?_ | refine kEnd_f ?_)
    refine kEnd_g ?_ (by first | exact .inl rfl | exact .inr rfl)
    exact Sub.eq rfl rfl
  | true =>
    have hr := vB_okS hv
    obtain ⟨n1, n2⟩ := rowOf_n_bd hr
    obtain ⟨f1, f2⟩ := rowOf_f_bd hr
    have en : (refOf r).n = (rowOf r).n := rfl
    have ef : (refOf r).f = (rowOf r).f := rfl
    obtain ⟨c1, c2, c3, c4, c5⟩ := cut_bd (x := refOf r) (by omega) k
    obtain ⟨hx, hs⟩ := take_tame (ref_tame hr) k
    have M := rMade_d (takeRow (refOf r) k) hx hs
    obtain ⟨e1, e2⟩ := take_ref hr k
    rw [e1, e2] at M
    have N := rCount_row (refOf r) k (by omega) (by omega) k1 k2
    rw [show takeRes r k = (doneV (takeRow (rowOf r) k), doneE (takeRow (rowOf r) k)) from if_pos hv]
    by_cases h0 : k < 0
    · rw [decide_eq_true h0] at N
      have h4 := c4 h0
      have P := prod_row (i := (refOf r).n - cutN (refOf r) k) (s := (refOf r).s) (by omega) (by omega) (refOf_s_bd hr).1 (refOf_s_bd hr).2.1
      have A := rAt_d (refOf r) ((refOf r).n - cutN (refOf r) k) (by omega) (by omega) (by omega) (by omega)
      rw [show takeRow (refOf r) k = ⟨atOf (refOf r) ((refOf r).n - cutN (refOf r) k), (refOf r).s, cutN (refOf r) k⟩ by unfold takeRow partOf; rw [h4]] at M
      refine DC.of Try.func130 Try.ntmps130 Try.results130 rfl (by decide +kernel) rfl ?_
      repeat (first | refine Z1 ?_ | refine Z2 ?_ | (refine Z3 ?_; (repeat (first | (apply gS; first | refine go_f ?_ | refine gm ?_ | refine gp ?_ | refine go_c rfl rfl (rValid_b _ _ _ hv) ?_ | refine go_c rfl rfl (rOf_r r hr) ?_ | refine go_c rfl rfl (N) ?_ | refine go_c rfl rfl (A) ?_ | refine go_c rfl rfl (M) ?_) | (apply gZ; first | refine go_f ?_ | refine gm ?_))); refine T_nil ?_) | (apply ZR; refine C_dr mixed ?_; (repeat (first | (apply vS; first | refine va ?_ | refine vp ?_ | refine vr ?_ | refine vt ?_ | refine vc (rValid_b _ _ _ hv) ?_ | refine vc (rOf_r r hr) ?_ | refine vc (N) ?_ | refine vc (A) ?_ | refine vc (M) ?_) | (apply vZ; refine vs ?_))); refine W_e ?_) | (apply ZK; first | refine Z4 ?_ | refine Z5 ?_) | refine Z6 ?_ | refine Z7 ?_ | refine ZF ?_)
      repeat (first | refine kEnd_m ?_ | refine kEnd_f ?_)
      refine kEnd_g ?_ (by first | exact .inl rfl | exact .inr rfl)
      exact Sub.eq rfl rfl
    · rw [decide_eq_false h0] at N
      rw [show takeRow (refOf r) k = ⟨(refOf r).f, (refOf r).s, cutN (refOf r) k⟩ by unfold takeRow; rw [c5 (by omega), part_0]] at M
      refine DC.of Try.func130 Try.ntmps130 Try.results130 rfl (by decide +kernel) rfl ?_
      repeat (first | refine Z1 ?_ | refine Z2 ?_ | (refine Z3 ?_; (repeat (first | (apply gS; first | refine go_f ?_ | refine gm ?_ | refine gp ?_ | refine go_c rfl rfl (rValid_b _ _ _ hv) ?_ | refine go_c rfl rfl (rOf_r r hr) ?_ | refine go_c rfl rfl (N) ?_ | refine go_c rfl rfl (M) ?_) | (apply gZ; first | refine go_f ?_ | refine gm ?_))); refine T_nil ?_) | (apply ZR; refine C_dr mixed ?_; (repeat (first | (apply vS; first | refine va ?_ | refine vp ?_ | refine vr ?_ | refine vt ?_ | refine vc (rValid_b _ _ _ hv) ?_ | refine vc (rOf_r r hr) ?_ | refine vc (N) ?_ | refine vc (M) ?_) | (apply vZ; refine vs ?_))); refine W_e ?_) | (apply ZK; first | refine Z4 ?_ | refine Z5 ?_) | refine Z6 ?_ | refine Z7 ?_ | refine ZF ?_)
      repeat (first | refine kEnd_m ?_ | refine kEnd_f ?_)
      refine kEnd_g ?_ (by first | exact .inl rfl | exact .inr rfl)
      exact Sub.eq rfl rfl
/-! ### inner and outer -/
def innerRes (r : Rg) (n : Int) : Rg × Int := if n = 0 then (r, 0) else if n < 0 then takeRes r (if n < -4096 then 4096 else -n) else takeRes r (if n < 4096 then -n else -4096)
theorem inner_d (r : Rg) (n : Int) (n1 : -9223372036854775808 ≤ n) (n2 : n ≤ 9223372036854775807) : DC Try.prog 101 [rD r, iD n] (.tup [rD (innerRes r n).1, iD (innerRes r n).2]) := by
  unfold innerRes
  by_cases h0 : n = 0
  · rw [if_pos h0]
    refine DC.of Try.func101 Try.ntmps101 Try.results101 rfl (by decide +kernel) rfl ?_
    repeat (first | refine Z1 ?_ | refine Z2 ?_ | (refine Z3 ?_; (repeat (first | (apply gS; first | refine go_f ?_ | refine gm ?_ | refine gp ?_) | (apply gZ; first | refine go_f ?_ | refine gm ?_))); refine T_nil ?_) | (apply ZK; first | refine Z4 ?_ | refine Z5 ?_) | refine Z6 ?_ | refine Z7 ?_ | refine ZF ?_)
    repeat (first | refine kEnd_m ?_ | refine kEnd_f ?_)
    refine kEnd_g ?_ (by first | exact .inl rfl | exact .inr rfl)
    exact Sub.eq rfl rfl
  rw [if_neg h0]
  by_cases h1 : n < 0
  · rw [if_pos h1]
    by_cases h2 : n < -4096
    · rw [if_pos h2]
      have T := sTake_d r 4096 (by omega) (by omega)
      refine DC.of Try.func101 Try.ntmps101 Try.results101 rfl (by decide +kernel) rfl ?_
      repeat (first | refine Z1 ?_ | refine Z2 ?_ | (refine Z3 ?_; (repeat (first | (apply gS; first | refine go_f ?_ | refine gm ?_ | refine gp ?_ | refine go_c rfl rfl (T) ?_) | (apply gZ; first | refine go_f ?_ | refine gm ?_))); refine T_nil ?_) | (apply ZK; first | refine Z4 ?_ | refine Z5 ?_) | refine Z6 ?_ | refine Z7 ?_ | refine ZF ?_)
      repeat (first | refine kEnd_m ?_ | refine kEnd_f ?_)
      refine kEnd_g ?_ (by first | exact .inl rfl | exact .inr rfl)
      exact Sub.eq rfl rfl
    · rw [if_neg h2]
      have T := sTake_d r (n * -1) (by omega) (by omega)
      rw [show -n = n * -1 by omega]
      refine DC.of Try.func101 Try.ntmps101 Try.results101 rfl (by decide +kernel) rfl ?_
      repeat (first | refine Z1 ?_ | refine Z2 ?_ | (refine Z3 ?_; (repeat (first | (apply gS; first | refine go_f ?_ | refine gm ?_ | refine gp ?_ | refine go_c rfl rfl (T) ?_) | (apply gZ; first | refine go_f ?_ | refine gm ?_))); refine T_nil ?_) | (apply ZK; first | refine Z4 ?_ | refine Z5 ?_) | refine Z6 ?_ | refine Z7 ?_ | refine ZF ?_)
      repeat (first | refine kEnd_m ?_ | refine kEnd_f ?_)
      refine kEnd_g ?_ (by first | exact .inl rfl | exact .inr rfl)
      exact Sub.eq rfl rfl
  · rw [if_neg h1]
    by_cases h2 : n < 4096
    · rw [if_pos h2]
      have T := sTake_d r (-n) (by omega) (by omega)
      refine DC.of Try.func101 Try.ntmps101 Try.results101 rfl (by decide +kernel) rfl ?_
      repeat (first | refine Z1 ?_ | refine Z2 ?_ | (refine Z3 ?_; (repeat (first | (apply gS; first | refine go_f ?_ | refine gm ?_ | refine gp ?_ | refine go_c rfl rfl (T) ?_) | (apply gZ; first | refine go_f ?_ | refine gm ?_))); refine T_nil ?_) | (apply ZK; first | refine Z4 ?_ | refine Z5 ?_) | refine Z6 ?_ | refine Z7 ?_ | refine ZF ?_)
      repeat (first | refine kEnd_m ?_ | refine kEnd_f ?_)
      refine kEnd_g ?_ (by first | exact .inl rfl | exact .inr rfl)
      exact Sub.eq rfl rfl
    · rw [if_neg h2]
      have T := sTake_d r (-4096) (by omega) (by omega)
      refine DC.of Try.func101 Try.ntmps101 Try.results101 rfl (by decide +kernel) rfl ?_
      repeat (first | refine Z1 ?_ | refine Z2 ?_ | (refine Z3 ?_; (repeat (first | (apply gS; first | refine go_f ?_ | refine gm ?_ | refine gp ?_ | refine go_c rfl rfl (T) ?_) | (apply gZ; first | refine go_f ?_ | refine gm ?_))); refine T_nil ?_) | (apply ZK; first | refine Z4 ?_ | refine Z5 ?_) | refine Z6 ?_ | refine Z7 ?_ | refine ZF ?_)
      repeat (first | refine kEnd_m ?_ | refine kEnd_f ?_)
      refine kEnd_g ?_ (by first | exact .inl rfl | exact .inr rfl)
      exact Sub.eq rfl rfl
def firstR (r : Rg) : Int := atOf (rowOf r) 0
def lastR (r : Rg) : Int := atOf (rowOf r) ((rowOf r).n - 1)
def outerRg (r : Rg) (n : Int) : Rg :=
  if n < 0 then (if r.st < 0 then ⟨firstR r - r.st, firstR r + n * r.st, r.st⟩ else ⟨firstR r + n * r.st, firstR r - r.st, r.st⟩)
  else (if r.st < 0 then ⟨lastR r + n * r.st, lastR r + r.st, r.st⟩ else ⟨lastR r + r.st, lastR r + n * r.st, r.st⟩)
def outerRes (r : Rg) (n : Int) : Rg × Int := if n = 0 ∨ (rowOf r).n = 0 then (r, 0) else if n < -2000000 ∨ 2000000 < n then (⟨0, 0, 0⟩, 30) else canonRes (outerRg r n)
theorem outer_d (r : Rg) (n : Int) (hv : vB r = true) : DC Try.prog 102 [rD r, iD n] (.tup [rD (outerRes r n).1, iD (outerRes r n).2]) := by
  have hr := vB_okS hv
  obtain ⟨m1, m2⟩ := rowOf_n_bd hr
  have C := sCount_d r
  rw [show countRes r = ((rowOf r).n, 0) from if_pos hv] at C
  unfold outerRes
  by_cases h0 : n = 0
  · rw [if_pos (.inl h0)]
    refine DC.of Try.func102 Try.ntmps102 Try.results102 rfl (by decide +kernel) rfl ?_
    repeat (first | refine Z1 ?_ | refine Z2 ?_ | (refine Z3 ?_; (repeat (first | (apply gS; first | refine go_no ?_ | refine go_f ?_ | refine gm ?_ | refine gp ?_ | refine go_c rfl rfl (C) ?_) | (apply gZ; first | refine go_f ?_ | refine gm ?_))); refine T_nil ?_) | (apply ZR; refine C_dr mixed ?_; (repeat (first | (apply vS; first | refine vn ?_ | refine va ?_ | refine vp ?_ | refine vr ?_ | refine vt ?_ | refine vc (C) ?_) | (apply vZ; refine vs ?_))); refine W_e ?_) | (apply ZK; first | refine Z4 ?_ | refine Z5 ?_) | refine Z6 ?_ | refine Z7 ?_ | refine ZF ?_)
    repeat (first | refine kEnd_m ?_ | refine kEnd_f ?_)
    refine kEnd_g ?_ (by first | exact .inl rfl | exact .inr rfl)
    exact Sub.eq rfl rfl
  by_cases hn : (rowOf r).n = 0
  · rw [if_pos (.inr hn)]
    refine DC.of Try.func102 Try.ntmps102 Try.results102 rfl (by decide +kernel) rfl ?_
    repeat (first | refine Z1 ?_ | refine Z2 ?_ | (refine Z3 ?_; (repeat (first | (apply gS; first | refine go_no ?_ | refine go_f ?_ | refine gm ?_ | refine gp ?_ | refine go_c rfl rfl (C) ?_) | (apply gZ; first | refine go_f ?_ | refine gm ?_))); refine T_nil ?_) | (apply ZR; refine C_dr mixed ?_; (repeat (first | (apply vS; first | refine vn ?_ | refine va ?_ | refine vp ?_ | refine vr ?_ | refine vt ?_ | refine vc (C) ?_) | (apply vZ; refine vs ?_))); refine W_e ?_) | (apply ZK; first | refine Z4 ?_ | refine Z5 ?_) | refine Z6 ?_ | refine Z7 ?_ | refine ZF ?_)
    repeat (first | refine kEnd_m ?_ | refine kEnd_f ?_)
    refine kEnd_g ?_ (by first | exact .inl rfl | exact .inr rfl)
    exact Sub.eq rfl rfl
  rw [if_neg (by omega)]
  by_cases hb1 : n < -2000000
  · rw [if_pos (.inl hb1)]
    refine DC.of Try.func102 Try.ntmps102 Try.results102 rfl (by decide +kernel) rfl ?_
    repeat (first | refine Z1 ?_ | refine Z2 ?_ | (refine Z3 ?_; (repeat (first | (apply gS; first | refine go_no ?_ | refine go_f ?_ | refine gm ?_ | refine gp ?_ | refine go_c rfl rfl (C) ?_) | (apply gZ; first | refine go_f ?_ | refine gm ?_))); refine T_nil ?_) | (apply ZR; refine C_dr mixed ?_; (repeat (first | (apply vS; first | refine vn ?_ | refine va ?_ | refine vp ?_ | refine vr ?_ | refine vt ?_ | refine vc (C) ?_) | (apply vZ; refine vs ?_))); refine W_e ?_) | (apply ZK; first | refine Z4 ?_ | refine Z5 ?_) | refine Z6 ?_ | refine Z7 ?_ | refine ZF ?_)
    repeat (first | refine kEnd_m ?_ | refine kEnd_f ?_)
    refine kEnd_g ?_ (by first | exact .inl rfl | exact .inr rfl)
    exact Sub.eq rfl rfl
  by_cases hb2 : 2000000 < n
  · rw [if_pos (.inr hb2)]
    refine DC.of Try.func102 Try.ntmps102 Try.results102 rfl (by decide +kernel) rfl ?_
    repeat (first | refine Z1 ?_ | refine Z2 ?_ | (refine Z3 ?_; (repeat (first | (apply gS; first | refine go_no ?_ | refine go_f ?_ | refine gm ?_ | refine gp ?_ | refine go_c rfl rfl (C) ?_) | (apply gZ; first | refine go_f ?_ | refine gm ?_))); refine T_nil ?_) | (apply ZR; refine C_dr mixed ?_; (repeat (first | (apply vS; first | refine vn ?_ | refine va ?_ | refine vp ?_ | refine vr ?_ | refine vt ?_ | refine vc (C) ?_) | (apply vZ; refine vs ?_))); refine W_e ?_) | (apply ZK; first | refine Z4 ?_ | refine Z5 ?_) | refine Z6 ?_ | refine Z7 ?_ | refine ZF ?_)
    repeat (first | refine kEnd_m ?_ | refine kEnd_f ?_)
    refine kEnd_g ?_ (by first | exact .inl rfl | exact .inr rfl)
    exact Sub.eq rfl rfl
  rw [if_neg (by omega)]
  have F := sIth_d r 0
  rw [show ithRes r 0 = (firstR r, 0) from (if_pos hv).trans (if_pos ⟨by omega, by omega⟩)] at F
  have L := sIth_d r ((rowOf r).n - 1)
  rw [show ithRes r ((rowOf r).n - 1) = (lastR r, 0) from (if_pos hv).trans (if_pos ⟨by omega, by omega⟩)] at L
  have b1 : -1000000 ≤ firstR r ∧ firstR r ≤ 1000000 := at_near hr (by omega) (by omega)
  have b2 : -1000000 ≤ lastR r ∧ lastR r ≤ 1000000 := at_near hr (by omega) (by omega)
  have p := prod_small (a := n) (b := r.st) (by omega) (by omega) (by have := hr.2.2.2.2.1; omega) (by have := hr.2.2.2.2.2.1; omega)
  have s1 := hr.2.2.2.2.1
  have s2 := hr.2.2.2.2.2.1
  have K := sCanonP_d (outerRg r n)
  generalize hres : canonRes (outerRg r n) = res at *
  clear hres
  unfold outerRg at K
  dsimp only at C F L
  generalize firstR r = f at *
  generalize lastR r = l at *
  by_cases c1 : n < 0 <;> by_cases c2 : r.st < 0
  all_goals
    simp only [c1, c2, if_true, if_false] at K
    refine DC.of Try.func102 Try.ntmps102 Try.results102 rfl (by decide +kernel) rfl ?_
    repeat (first | refine Z1 ?_ | refine Z2 ?_ | (refine Z3 ?_; (repeat (first | (apply gS; first | refine go_no ?_ | refine go_f ?_ | refine gm ?_ | refine gp ?_ | refine go_c rfl rfl (C) ?_ | refine go_c rfl rfl (F) ?_ | refine go_c rfl rfl (L) ?_ | refine go_c rfl rfl (K) ?_) | (apply gZ; first | refine go_f ?_ | refine gm ?_))); refine T_nil ?_) | (apply ZR; refine C_dr mixed ?_; (repeat (first | (apply vS; first | refine vn ?_ | refine va ?_ | refine vp ?_ | refine vr ?_ | refine vt ?_ | refine vc (C) ?_ | refine vc (F) ?_ | refine vc (L) ?_ | refine vc (K) ?_) | (apply vZ; refine vs ?_))); refine W_e ?_) | (apply ZK; first | refine Z4 ?_ | refine Z5 ?_) | refine Z6 ?_ | refine Z7 ?_ | refine ZF ?_)
    repeat (first | refine kEnd_m ?_ | refine kEnd_f ?_)
    refine kEnd_g ?_ (by first | exact .inl rfl | exact .inr rfl)
    exact Sub.eq rfl rfl
end Go.Proofs.Ytfkojkciobdeoaa
