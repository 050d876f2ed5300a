/- Contracts of Take, Drop, Reverse, Shift, Expand of package span, and of the reference's Take, Shift, Expand, by the abstract machine. -/
import Derived.Test.YtfkojkciobdeoaaS4
import Derived.Test.YtfkojkciobdeoaaSpanMath4
namespace Go.Proofs.Ytfkojkciobdeoaa
open Go.RowKit
set_option linter.unusedVariables false
set_option maxHeartbeats 16000000
set_option linter.unusedSimpArgs false
set_option maxRecDepth 100000
theorem part_d (x : Rw) (i n : Int) (h1 : -9000000000000 ≤ i * x.s) (h2 : i * x.s ≤ 9000000000000) (h3 : -1099511627776 ≤ x.f) (h4 : x.f ≤ 1099511627776) : DC Try.prog 137 [wD x, iD i, iD n] (wD (partOf x i n)) := by
  refine DC.of Try.func137 Try.ntmps137 Try.results137 rfl (by decide +kernel) rfl ?_
  repeat (first | refine Z1 ?_ | refine Z2 ?_ | (refine Z3 ?_; (repeat (first | (apply gS; first | refine go_f ?_ | refine gm ?_ | refine gp ?_ | refine go_c rfl rfl (sAt_d x i h1 h2 h3 h4) ?_) | (apply gZ; first | refine go_f ?_ | refine gm ?_))); refine T_nil ?_) | (apply ZR; refine C_dr mixed ?_; (repeat (first | (apply vS; first | refine va ?_ | refine vp ?_ | refine vr ?_ | refine vt ?_ | refine vc (sAt_d x i h1 h2 h3 h4) ?_) | (apply vZ; refine vs ?_))); refine W_e ?_) | (apply ZK; first | refine Z4 ?_ | refine Z5 ?_) | refine Z6 ?_ | refine Z7 ?_)
  repeat (first | refine kEnd_m ?_ | refine kEnd_f ?_)
  refine kEnd_g ?_ (by first | exact .inl rfl | exact .inr rfl)
  exact Sub.eq rfl rfl
theorem cut_cases (x : Rw) (k : Int) : (0 ≤ k ∧ k ≤ x.n ∧ cutF x k = 0 ∧ cutN x k = k) ∨ (0 ≤ k ∧ x.n < k ∧ cutF x k = 0 ∧ cutN x k = x.n) ∨ (k < 0 ∧ k < -x.n ∧ cutF x k = 0 ∧ cutN x k = x.n) ∨ (k < 0 ∧ -x.n ≤ k ∧ cutF x k = x.n + k ∧ cutN x k = -k) := by
  unfold cutF cutN
  by_cases h0 : 0 ≤ k
  · rw [if_pos h0, if_pos h0]
    by_cases h1 : k ≤ x.n
    · rw [if_pos h1]; exact .inl ⟨h0, h1, rfl, rfl⟩
    · rw [if_neg h1]; exact .inr (.inl ⟨h0, by omega, rfl, rfl⟩)
  · rw [if_neg h0, if_neg h0]
    by_cases h1 : k < -x.n
    · rw [if_pos h1, if_pos h1]; exact .inr (.inr (.inl ⟨by omega, h1, rfl, rfl⟩))
    · rw [if_neg h1, if_neg h1]; exact .inr (.inr (.inr ⟨by omega, by omega, rfl, rfl⟩))
theorem cut_d (x : Rw) (k : Int) (n1 : 0 ≤ x.n) (n2 : x.n ≤ 4194304) (k1 : -9223372036854775808 ≤ k) (k2 : k ≤ 9223372036854775807) : DC Try.prog 140 [wD x, iD k] (.tup [iD (cutF x k), iD (cutN x k)]) := by
  rcases cut_cases x k with ⟨a, b, e1, e2⟩ | ⟨a, b, e1, e2⟩ | ⟨a, b, e1, e2⟩ | ⟨a, b, e1, e2⟩
  all_goals
    rw [e1, e2]
    refine DC.of Try.func140 Try.ntmps140 Try.results140 rfl (by decide +kernel) rfl ?_
    repeat (first | refine Z1 ?_ | refine Z2 ?_ | (refine Z3 ?_; (repeat (first | (apply gS; first | refine go_f ?_ | refine gm ?_ | refine gp ?_))); refine T_nil ?_) | (apply ZR; refine C_dr mixed ?_; (repeat (first | (apply vS; first | refine va ?_ | refine vp ?_ | refine vr ?_ | refine vt ?_))); refine W_e ?_) | (apply ZK; first | refine Z4 ?_ | refine Z5 ?_) | refine Z6 ?_ | refine Z7 ?_ | refine ZF ?_)
    repeat (first | refine kEnd_m ?_ | refine kEnd_f ?_)
    refine kEnd_g ?_ (by first | exact .inl rfl | exact .inr rfl)
    first | exact Sub.eq rfl rfl | exact Sub.eq (by simp [tupD]; omega) rfl | exact Sub.eq (by simp [tupD]) rfl
theorem sTake_d (r : Rg) (k : Int) (k1 : -9223372036854775808 ≤ k) (k2 : k ≤ 9223372036854775807) : DC Try.prog 133 [rD r, iD k] (.tup [rD (takeRes r k).1, iD (takeRes r k).2]) := by
  cases hv : vB r with
  | false =>
    rw [show takeRes r k = (⟨0, 0, 0⟩, 30) from if_neg (by rw [hv]; decide)]
    refine DC.of Try.func133 Try.ntmps133 Try.results133 rfl (by decide +kernel) rfl ?_
    repeat (first | refine Z1 ?_ | refine Z2 ?_ | (refine Z3 ?_; (repeat (first | (apply gS; first | refine go_f ?_ | refine gm ?_ | refine gp ?_ | refine go_c rfl rfl (sValid_b _ _ _ hv) ?_) | (apply gZ; first | refine go_f ?_ | refine gm ?_))); refine T_nil ?_) | (apply ZK; first | refine Z4 ?_ | refine Z5 ?_) | refine Z6 ?_ | refine Z7 ?_ | refine ZF ?_)
    repeat (first | refine kEnd_m ?_ | refine kEnd_f ?_)
    refine kEnd_g ?_ (by first | exact .inl rfl | exact .inr rfl)
    exact Sub.eq rfl rfl
  | true =>
    have hr := vB_okS hv
    obtain ⟨n1, n2⟩ := rowOf_n_bd hr
    obtain ⟨f1, f2⟩ := rowOf_f_bd hr
    obtain ⟨c1, c2, c3, c4, c5⟩ := cut_bd n1 k
    obtain ⟨p1, p2⟩ := at_bd hr c1 (by omega)
    obtain ⟨hx, hs⟩ := take_tame (row_tame hr) k
    rw [show takeRes r k = (doneV (takeRow (rowOf r) k), doneE (takeRow (rowOf r) k)) from if_pos hv]
    refine DC.of Try.func133 Try.ntmps133 Try.results133 rfl (by decide +kernel) rfl ?_
    repeat (first | refine Z1 ?_ | refine Z2 ?_ | (refine Z3 ?_; (repeat (first | (apply gS; first | refine go_f ?_ | refine gm ?_ | refine gp ?_ | refine go_c rfl rfl (sValid_b _ _ _ hv) ?_ | refine go_c rfl rfl (rowOf_r r hr) ?_ | refine go_c rfl rfl (cut_d (rowOf r) k n1 (by omega) k1 k2) ?_ | refine go_c rfl rfl (part_d (rowOf r) _ _ p1 p2 (by omega) (by omega)) ?_ | refine go_c rfl rfl (sDone_d (takeRow (rowOf r) k) hx hs) ?_) | (apply gZ; first | refine go_f ?_ | refine gm ?_))); refine T_nil ?_) | (apply ZK; first | refine Z4 ?_ | refine Z5 ?_) | refine Z6 ?_ | refine Z7 ?_ | refine ZF ?_)
    repeat (first | refine kEnd_m ?_ | refine kEnd_f ?_)
    refine kEnd_g ?_ (by first | exact .inl rfl | exact .inr rfl)
    exact Sub.eq rfl rfl
theorem sShift_d (r : Rg) (k : Int) : DC Try.prog 81 [rD r, iD k] (.tup [rD (shiftRes r k).1, iD (shiftRes r k).2]) := by
  cases hv : vB r with
  | false =>
    rw [show shiftRes r k = (⟨0, 0, 0⟩, 30) from if_neg (by rw [hv]; decide)]
    refine DC.of Try.func81 Try.ntmps81 Try.results81 rfl (by decide +kernel) rfl ?_
    repeat (first | refine Z1 ?_ | refine Z2 ?_ | (refine Z3 ?_; (repeat (first | (apply gS; first | refine go_f ?_ | refine gm ?_ | refine gp ?_ | refine go_c rfl rfl (sValid_b _ _ _ hv) ?_) | (apply gZ; first | refine go_f ?_ | refine gm ?_))); refine T_nil ?_) | (apply ZK; first | refine Z4 ?_ | refine Z5 ?_) | refine Z6 ?_ | refine Z7 ?_ | refine ZF ?_)
    repeat (first | refine kEnd_m ?_ | refine kEnd_f ?_)
    refine kEnd_g ?_ (by first | exact .inl rfl | exact .inr rfl)
    exact Sub.eq rfl rfl
  | true =>
    have hr := vB_okS hv
    obtain ⟨f1, f2⟩ := rowOf_f_bd hr
    obtain ⟨hx, hs⟩ := rowOf_small hr
    by_cases hk : -1000000 ≤ k ∧ k ≤ 1000000
    · have hx' : Rw.small ⟨(rowOf r).f + k, (rowOf r).s, (rowOf r).n⟩ := by
        obtain ⟨a, b, c, d, e, f⟩ := hx
        exact ⟨by simp only; omega, by simp only; omega, c, d, e, f⟩
      rw [show shiftRes r k = (doneV ⟨(rowOf r).f + k, (rowOf r).s, (rowOf r).n⟩, doneE ⟨(rowOf r).f + k, (rowOf r).s, (rowOf r).n⟩) from (if_pos hv).trans (if_pos hk)]
      refine DC.of Try.func81 Try.ntmps81 Try.results81 rfl (by decide +kernel) rfl ?_
      repeat (first | refine Z1 ?_ | refine Z2 ?_ | (refine Z3 ?_; (repeat (first | (apply gS; first | refine go_f ?_ | refine gm ?_ | refine gp ?_ | refine go_c rfl rfl (sValid_b _ _ _ hv) ?_ | refine go_c rfl rfl (rowOf_r r hr) ?_ | refine go_c rfl rfl (within_t _ _ _ (by omega) (by omega)) ?_ | refine go_c rfl rfl (sDone_d ⟨(rowOf r).f + k, (rowOf r).s, (rowOf r).n⟩ hx' hs) ?_) | (apply gZ; first | refine go_f ?_ | refine gm ?_))); refine T_nil ?_) | (apply ZK; first | refine Z4 ?_ | refine Z5 ?_) | refine Z6 ?_ | refine Z7 ?_ | refine ZF ?_)
      repeat (first | refine kEnd_m ?_ | refine kEnd_f ?_)
      refine kEnd_g ?_ (by first | exact .inl rfl | exact .inr rfl)
      exact Sub.eq rfl rfl
    · rw [show shiftRes r k = (⟨0, 0, 0⟩, 2) from (if_pos hv).trans (if_neg hk)]
      refine DC.of Try.func81 Try.ntmps81 Try.results81 rfl (by decide +kernel) rfl ?_
      repeat (first | refine Z1 ?_ | refine Z2 ?_ | (refine Z3 ?_; (repeat (first | (apply gS; first | refine go_f ?_ | refine gm ?_ | refine gp ?_ | refine go_c rfl rfl (sValid_b _ _ _ hv) ?_ | refine go_c rfl rfl (within_f _ _ _ (by omega)) ?_) | (apply gZ; first | refine go_f ?_ | refine gm ?_))); refine T_nil ?_) | (apply ZK; first | refine Z4 ?_ | refine Z5 ?_) | refine Z6 ?_ | refine Z7 ?_ | refine ZF ?_)
      repeat (first | refine kEnd_m ?_ | refine kEnd_f ?_)
      refine kEnd_g ?_ (by first | exact .inl rfl | exact .inr rfl)
      exact Sub.eq rfl rfl
theorem sExpand_d (r : Rg) (k : Int) : DC Try.prog 100 [rD r, iD k] (.tup [rD (expandRes r k).1, iD (expandRes r k).2]) := by
  cases hv : vB r with
  | false =>
    rw [show expandRes r k = (⟨0, 0, 0⟩, 30) from if_neg (by rw [hv]; decide)]
    refine DC.of Try.func100 Try.ntmps100 Try.results100 rfl (by decide +kernel) rfl ?_
    repeat (first | refine Z1 ?_ | refine Z2 ?_ | (refine Z3 ?_; (repeat (first | (apply gS; first | refine go_no ?_ | refine go_f ?_ | refine gm ?_ | refine gp ?_ | refine go_c rfl rfl (sValid_b _ _ _ hv) ?_) | (apply gZ; first | refine go_f ?_ | refine gm ?_))); refine T_nil ?_) | (apply ZR; refine C_dr mixed ?_; (repeat (first | (apply vS; first | refine vn ?_ | refine va ?_ | refine vp ?_ | refine vr ?_ | refine vt ?_ | refine vc (sValid_b _ _ _ hv) ?_) | (apply vZ; refine vs ?_))); refine W_e ?_) | (apply ZK; first | refine Z4 ?_ | refine Z5 ?_) | refine Z6 ?_ | refine Z7 ?_ | refine ZF ?_)
    repeat (first | refine kEnd_m ?_ | refine kEnd_f ?_)
    refine kEnd_g ?_ (by first | exact .inl rfl | exact .inr rfl)
    exact Sub.eq rfl rfl
  | true =>
    have hr := vB_okS hv
    have hc := canon_ok hr
    obtain ⟨n1, n2⟩ := rowOf_n_bd hr
    obtain ⟨hx, hs⟩ := rowOf_small hr
    by_cases hk : -4096 ≤ k ∧ k ≤ 4096
    · obtain ⟨k1, k2⟩ := hk
      have C := sCanon_d (rowOf r) hx hs
      have R := rowOf_r (canonOf (rowOf r)) hc
      have N := done_none 0 1
      have D0 := sDone_d ⟨0, 1, 0⟩ (by unfold Rw.small; decide) (by decide)
      rw [N.1, N.2] at D0
      by_cases h0 : (rowOf r).n = 0
      · have hn : (rowOf (canonOf (rowOf r))).n = 0 := by rw [canonOf_0 h0]; decide
        rw [show expandRes r k = (⟨1, 0, 1⟩, 0) from (if_pos hv).trans ((if_pos ⟨k1, k2⟩).trans (if_pos (.inl h0)))]
        refine DC.of Try.func100 Try.ntmps100 Try.results100 rfl (by decide +kernel) rfl ?_
        repeat (first | refine Z1 ?_ | refine Z2 ?_ | (refine Z3 ?_; (repeat (first | (apply gS; first | refine go_no ?_ | refine go_f ?_ | refine gm ?_ | refine gp ?_ | refine go_c rfl rfl (sValid_b _ _ _ hv) ?_ | refine go_c rfl rfl (rowOf_r r hr) ?_ | refine go_c rfl rfl (within_t _ _ _ (by omega) (by omega)) ?_ | refine go_c rfl rfl (C) ?_ | refine go_c rfl rfl (R) ?_ | refine go_c rfl rfl (D0) ?_) | (apply gZ; first | refine go_f ?_ | refine gm ?_))); refine T_nil ?_) | (apply ZR; refine C_dr mixed ?_; (repeat (first | (apply vS; first | refine vn ?_ | refine va ?_ | refine vp ?_ | refine vr ?_ | refine vt ?_ | refine vc (sValid_b _ _ _ hv) ?_ | refine vc (rowOf_r r hr) ?_ | refine vc (within_t _ _ _ (by omega) (by omega)) ?_ | refine vc (C) ?_ | refine vc (R) ?_ | refine vc (D0) ?_) | (apply vZ; refine vs ?_))); refine W_e ?_) | (apply ZK; first | refine Z4 ?_ | refine Z5 ?_) | refine Z6 ?_ | refine Z7 ?_ | refine ZF ?_)
        repeat (first | refine kEnd_m ?_ | refine kEnd_f ?_)
        refine kEnd_g ?_ (by first | exact .inl rfl | exact .inr rfl)
        exact Sub.eq rfl rfl
      · rw [row_canon hr (by omega)] at R
        have en : (refOf r).n = (rowOf r).n := rfl
        by_cases hle : (rowOf r).n + 2 * k ≤ 0
        · rw [show expandRes r k = (⟨1, 0, 1⟩, 0) from (if_pos hv).trans ((if_pos ⟨k1, k2⟩).trans (if_pos (.inr hle)))]
          refine DC.of Try.func100 Try.ntmps100 Try.results100 rfl (by decide +kernel) rfl ?_
          repeat (first | refine Z1 ?_ | refine Z2 ?_ | (refine Z3 ?_; (repeat (first | (apply gS; first | refine go_no ?_ | refine go_f ?_ | refine gm ?_ | refine gp ?_ | refine go_c rfl rfl (sValid_b _ _ _ hv) ?_ | refine go_c rfl rfl (rowOf_r r hr) ?_ | refine go_c rfl rfl (within_t _ _ _ (by omega) (by omega)) ?_ | refine go_c rfl rfl (C) ?_ | refine go_c rfl rfl (R) ?_ | refine go_c rfl rfl (D0) ?_) | (apply gZ; first | refine go_f ?_ | refine gm ?_))); refine T_nil ?_) | (apply ZR; refine C_dr mixed ?_; (repeat (first | (apply vS; first | refine vn ?_ | refine va ?_ | refine vp ?_ | refine vr ?_ | refine vt ?_ | refine vc (sValid_b _ _ _ hv) ?_ | refine vc (rowOf_r r hr) ?_ | refine vc (within_t _ _ _ (by omega) (by omega)) ?_ | refine vc (C) ?_ | refine vc (R) ?_ | refine vc (D0) ?_) | (apply vZ; refine vs ?_))); refine W_e ?_) | (apply ZK; first | refine Z4 ?_ | refine Z5 ?_) | refine Z6 ?_ | refine Z7 ?_ | refine ZF ?_)
          repeat (first | refine kEnd_m ?_ | refine kEnd_f ?_)
          refine kEnd_g ?_ (by first | exact .inl rfl | exact .inr rfl)
          exact Sub.eq rfl rfl
        · obtain ⟨s1, s2, s3⟩ := refOf_s_bd hr
          obtain ⟨f1, f2⟩ := rowOf_f_bd hr
          have ef : (refOf r).f = (rowOf r).f := rfl
          have p := prod_bd' (a := -k) (b := (refOf r).s) (by omega) (by omega) s1 s2
          have A := sAt_d (refOf r) (-k) (by omega) (by omega) (by omega) (by omega)
          rw [show atOf (refOf r) (-k) = (refOf r).f - k * (refOf r).s by unfold atOf; rw [Int.neg_mul]; omega] at A
          obtain ⟨hx', hs'⟩ := expand_small hr k1 k2 (by omega)
          rw [show expandRes r k = (doneV (expandRow r k), doneE (expandRow r k)) from (if_pos hv).trans ((if_pos ⟨k1, k2⟩).trans (if_neg (by omega)))]
          refine DC.of Try.func100 Try.ntmps100 Try.results100 rfl (by decide +kernel) rfl ?_
          repeat (first | refine Z1 ?_ | refine Z2 ?_ | (refine Z3 ?_; (repeat (first | (apply gS; first | refine go_no ?_ | refine go_f ?_ | refine gm ?_ | refine gp ?_ | refine go_c rfl rfl (sValid_b _ _ _ hv) ?_ | refine go_c rfl rfl (rowOf_r r hr) ?_ | refine go_c rfl rfl (within_t _ _ _ (by omega) (by omega)) ?_ | refine go_c rfl rfl (C) ?_ | refine go_c rfl rfl (R) ?_ | refine go_c rfl rfl (A) ?_ | refine go_c rfl rfl (sDone_d (expandRow r k) hx' hs') ?_) | (apply gZ; first | refine go_f ?_ | refine gm ?_))); refine T_nil ?_) | (apply ZR; refine C_dr mixed ?_; (repeat (first | (apply vS; first | refine vn ?_ | refine va ?_ | refine vp ?_ | refine vr ?_ | refine vt ?_ | refine vc (sValid_b _ _ _ hv) ?_ | refine vc (rowOf_r r hr) ?_ | refine vc (within_t _ _ _ (by omega) (by omega)) ?_ | refine vc (C) ?_ | refine vc (R) ?_ | refine vc (A) ?_ | refine vc (sDone_d (expandRow r k) hx' hs') ?_) | (apply vZ; refine vs ?_))); refine W_e ?_) | (apply ZK; first | refine Z4 ?_ | refine Z5 ?_) | refine Z6 ?_ | refine Z7 ?_ | refine ZF ?_)
          repeat (first | refine kEnd_m ?_ | refine kEnd_f ?_)
          refine kEnd_g ?_ (by first | exact .inl rfl | exact .inr rfl)
          exact Sub.eq rfl rfl
    · rw [show expandRes r k = (⟨0, 0, 0⟩, 2) from (if_pos hv).trans (if_neg hk)]
      refine DC.of Try.func100 Try.ntmps100 Try.results100 rfl (by decide +kernel) rfl ?_
      repeat (first | refine Z1 ?_ | refine Z2 ?_ | (refine Z3 ?_; (repeat (first | (apply gS; first | refine go_no ?_ | refine go_f ?_ | refine gm ?_ | refine gp ?_ | refine go_c rfl rfl (sValid_b _ _ _ hv) ?_ | refine go_c rfl rfl (within_f _ _ _ (by omega)) ?_) | (apply gZ; first | refine go_f ?_ | refine gm ?_))); refine T_nil ?_) | (apply ZR; refine C_dr mixed ?_; (repeat (first | (apply vS; first | refine vn ?_ | refine va ?_ | refine vp ?_ | refine vr ?_ | refine vt ?_ | refine vc (sValid_b _ _ _ hv) ?_ | refine vc (within_f _ _ _ (by omega)) ?_) | (apply vZ; refine vs ?_))); refine W_e ?_) | (apply ZK; first | refine Z4 ?_ | refine Z5 ?_) | refine Z6 ?_ | refine Z7 ?_ | refine ZF ?_)
      repeat (first | refine kEnd_m ?_ | refine kEnd_f ?_)
      refine kEnd_g ?_ (by first | exact .inl rfl | exact .inr rfl)
      exact Sub.eq rfl rfl
end Go.Proofs.Ytfkojkciobdeoaa
