/- Contracts of Take, Drop, Reverse, Shift, Expand of package span, and of the reference's Take, Shift, Expand, by the abstract machine. -/
import Derived.Test.YtifapodobhkdcaaS4
import Derived.Test.YtifapodobhkdcaaSpanMath4
namespace Go.Proofs.Ytifapodobhkdcaa
open Go.RowKit
set_option linter.unusedVariables false
set_option maxHeartbeats 16000000
set_option linter.unusedSimpArgs false
set_option maxRecDepth 100000
theorem part_d (x : Rw) (i n : Int) (h1 : -9000000000000 ≤ i * x.s) (h2 : i * x.s ≤ 9000000000000) (h3 : -1099511627776 ≤ x.f) (h4 : x.f ≤ 1099511627776) : DC Try.prog 185 [wD x, iD i, iD n] (wD (partOf x i n)) := by
  refine DC.of Try.func185 Try.ntmps185 Try.results185 rfl (by decide +kernel) rfl ?_
  repeat (first | refine Z1 ?_ | refine Z2 ?_ | (refine Z3 ?_; (repeat (first | (apply gS; first | refine go_f ?_ | refine gm ?_ | refine gp ?_ | refine go_c rfl rfl (sAt_d x i h1 h2 h3 h4) ?_) | (apply gZ; first | refine go_f ?_ | refine gm ?_))); refine T_nil ?_) | (apply ZR; refine C_dr mixed ?_; (repeat (first | (apply vS; first | refine va ?_ | refine vp ?_ | refine vr ?_ | refine vt ?_ | refine vc (sAt_d x i h1 h2 h3 h4) ?_) | (apply vZ; first | refine vs ?_))); refine W_e ?_) | (apply ZK; first | refine Z4 ?_ | refine Z5 ?_) | refine Z6 ?_ | refine Z7 ?_)
  repeat (first | refine kEnd_m ?_ | refine kEnd_f ?_)
  refine kEnd_g ?_ (by first | exact .inl rfl | exact .inr rfl)
  exact Sub.eq rfl rfl
theorem cut_cases (x : Rw) (k : Int) : (0 ≤ k ∧ k ≤ x.n ∧ cutF x k = 0 ∧ cutN x k = k) ∨ (0 ≤ k ∧ x.n < k ∧ cutF x k = 0 ∧ cutN x k = x.n) ∨ (k < 0 ∧ k < -x.n ∧ cutF x k = 0 ∧ cutN x k = x.n) ∨ (k < 0 ∧ -x.n ≤ k ∧ cutF x k = x.n + k ∧ cutN x k = -k) := by
  unfold cutF cutN
  by_cases h0 : 0 ≤ k
  · rw [if_pos h0, if_pos h0]
    by_cases h1 : k ≤ x.n
    · rw [if_pos h1]; exact .inl ⟨h0, h1, rfl, rfl⟩
    · rw [if_neg h1]; exact .inr (.inl ⟨h0, by omega, rfl, rfl⟩)
  · rw [if_neg h0, if_neg h0]
    by_cases h1 : k < -x.n
    · rw [if_pos h1, if_pos h1]; exact .inr (.inr (.inl ⟨by omega, h1, rfl, rfl⟩))
    · rw [if_neg h1, if_neg h1]; exact .inr (.inr (.inr ⟨by omega, by omega, rfl, rfl⟩))
theorem cut_d (x : Rw) (k : Int) (n1 : 0 ≤ x.n) (n2 : x.n ≤ 4194304) (k1 : -9223372036854775808 ≤ k) (k2 : k ≤ 9223372036854775807) : DC Try.prog 188 [wD x, iD k] (.tup [iD (cutF x k), iD (cutN x k)]) := by
  rcases cut_cases x k with ⟨a, b, e1, e2⟩ | ⟨a, b, e1, e2⟩ | ⟨a, b, e1, e2⟩ | ⟨a, b, e1, e2⟩
  all_goals
    rw [e1, e2]
    refine DC.of Try.func188 Try.ntmps188 Try.results188 rfl (by decide +kernel) rfl ?_
    repeat (first | refine Z1 ?_ | refine Z2 ?_ | (refine Z3 ?_; (repeat (first | (apply gS; first | refine go_f ?_ | refine gm ?_ | refine gp ?_))); refine T_nil ?_) | (apply ZR; refine C_dr mixed ?_; (repeat (first | (apply vS; first | refine va ?_ | refine vp ?_ | refine vr ?_ | refine vt ?_))); refine W_e ?_) | (apply ZK; first | refine Z4 ?_ | refine Z5 ?_) | refine Z6 ?_ | refine Z7 ?_ | refine ZF ?_)
    repeat (first | refine kEnd_m ?_ | refine kEnd_f ?_)
    refine kEnd_g ?_ (by first | exact .inl rfl | exact .inr rfl)
    first | exact Sub.eq rfl rfl | exact Sub.eq (by simp [tupD]; omega) rfl | exact Sub.eq (by simp [tupD]) rfl
theorem sTake_d (r : Rg) (k : Int) (k1 : -9223372036854775808 ≤ k) (k2 : k ≤ 9223372036854775807) : DC Try.prog 170 [rD r, iD k] (.tup [rD (takeRes r k).1, iD (takeRes r k).2]) := by
  cases hv : vB r with
  | false =>
    rw [show takeRes r k = (⟨0, 0, 0⟩, 30) from if_neg (by rw [hv]; decide)]
    refine DC.of Try.func170 Try.ntmps170 Try.results170 rfl (by decide +kernel) rfl ?_
    repeat (first | refine Z1 ?_ | refine Z2 ?_ | (refine Z3 ?_; (repeat (first | (apply gS; first | refine go_f ?_ | refine gm ?_ | refine gp ?_ | refine go_c rfl rfl (sValid_b _ _ _ hv) ?_) | (apply gZ; first | refine go_f ?_ | refine gm ?_))); refine T_nil ?_) | (apply ZK; first | refine Z4 ?_ | refine Z5 ?_) | refine Z6 ?_ | refine Z7 ?_ | refine ZF ?_)
    repeat (first | refine kEnd_m ?_ | refine kEnd_f ?_)
    refine kEnd_g ?_ (by first | exact .inl rfl | exact .inr rfl)
    exact Sub.eq rfl rfl
  | true =>
    have hr := vB_okS hv
    obtain ⟨n1, n2⟩ := rowOf_n_bd hr
    obtain ⟨f1, f2⟩ := rowOf_f_bd hr
    obtain ⟨c1, c2, c3, c4, c5⟩ := cut_bd n1 k
    obtain ⟨p1, p2⟩ := at_bd hr c1 (by omega)
    obtain ⟨hx, hs⟩ := take_tame (row_tame hr) k
    rw [show takeRes r k = (doneV (takeRow (rowOf r) k), doneE (takeRow (rowOf r) k)) from if_pos hv]
    refine DC.of Try.func170 Try.ntmps170 Try.results170 rfl (by decide +kernel) rfl ?_
    repeat (first | refine Z1 ?_ | refine Z2 ?_ | (refine Z3 ?_; (repeat (first | (apply gS; first | refine go_f ?_ | refine gm ?_ | refine gp ?_ | refine go_c rfl rfl (sValid_b _ _ _ hv) ?_ | refine go_c rfl rfl (rowOf_r r hr) ?_ | refine go_c rfl rfl (cut_d (rowOf r) k n1 (by omega) k1 k2) ?_ | refine go_c rfl rfl (part_d (rowOf r) _ _ p1 p2 (by omega) (by omega)) ?_ | refine go_c rfl rfl (sDone_d (takeRow (rowOf r) k) hx hs) ?_) | (apply gZ; first | refine go_f ?_ | refine gm ?_))); refine T_nil ?_) | (apply ZK; first | refine Z4 ?_ | refine Z5 ?_) | refine Z6 ?_ | refine Z7 ?_ | refine ZF ?_)
    repeat (first | refine kEnd_m ?_ | refine kEnd_f ?_)
    refine kEnd_g ?_ (by first | exact .inl rfl | exact .inr rfl)
    exact Sub.eq rfl rfl
theorem sShift_d (r : Rg) (k : Int) : DC Try.prog 105 [rD r, iD k] (.tup [rD (shiftRes r k).1, iD (shiftRes r k).2]) := by
  cases hv : vB r with
  | false =>
    rw [show shiftRes r k = (⟨0, 0, 0⟩, 30) from if_neg (by rw [hv]; decide)]
    refine DC.of Try.func105 Try.ntmps105 Try.results105 rfl (by decide +kernel) rfl ?_
    repeat (first | refine Z1 ?_ | refine Z2 ?_ | (refine Z3 ?_; (repeat (first | (apply gS; first | refine go_f ?_ | refine gm ?_ | refine gp ?_ | refine go_c rfl rfl (sValid_b _ _ _ hv) ?_) | (apply gZ; first | refine go_f ?_ | refine gm ?_))); refine T_nil ?_) | (apply ZK; first | refine Z4 ?_ | refine Z5 ?_) | refine Z6 ?_ | refine Z7 ?_ | refine ZF ?_)
    repeat (first | refine kEnd_m ?_ | refine kEnd_f ?_)
    refine kEnd_g ?_ (by first | exact .inl rfl | exact .inr rfl)
    exact Sub.eq rfl rfl
  | true =>
    have hr := vB_okS hv
    obtain ⟨f1, f2⟩ := rowOf_f_bd hr
    obtain ⟨hx, hs⟩ := rowOf_small hr
    by_cases hk : -1000000 ≤ k ∧ k ≤ 1000000
    · have hx' : Rw.small ⟨(rowOf r).f + k, (rowOf r).s, (rowOf r).n⟩ := by
        obtain ⟨a, b, c, d, e, f⟩ := hx
        exact ⟨by simp only; omega, by simp only; omega, c, d, e, f⟩
      rw [show shiftRes r k = (doneV ⟨(rowOf r).f + k, (rowOf r).s, (rowOf r).n⟩, doneE ⟨(rowOf r).f + k, (rowOf r).s, (rowOf r).n⟩) from (if_pos hv).trans (if_pos hk)]
      refine DC.of Try.func105 Try.ntmps105 Try.results105 rfl (by decide +kernel) rfl ?_
      repeat (first | refine Z1 ?_ | refine Z2 ?_ | (refine Z3 ?_; (repeat (first | (apply gS; first | refine go_f ?_ | refine gm ?_ | refine gp ?_ | refine go_c rfl rfl (sValid_b _ _ _ hv) ?_ | refine go_c rfl rfl (rowOf_r r hr) ?_ | refine go_c rfl rfl (within_t _ _ _ (by omega) (by omega)) ?_ | refine go_c rfl rfl (sDone_d ⟨(rowOf r).f + k, (rowOf r).s, (rowOf r).n⟩ hx' hs) ?_) | (apply gZ; first | refine go_f ?_ | refine gm ?_))); refine T_nil ?_) | (apply ZK; first | refine Z4 ?_ | refine Z5 ?_) | refine Z6 ?_ | refine Z7 ?_ | refine ZF ?_)
      repeat (first | refine kEnd_m ?_ | refine kEnd_f ?_)
      refine kEnd_g ?_ (by first | exact .inl rfl | exact .inr rfl)
      exact Sub.eq rfl rfl
    · rw [show shiftRes r k = (⟨0, 0, 0⟩, 2) from (if_pos hv).trans (if_neg hk)]
      refine DC.of Try.func105 Try.ntmps105 Try.results105 rfl (by decide +kernel) rfl ?_
      repeat (first | refine Z1 ?_ | refine Z2 ?_ | (refine Z3 ?_; (repeat (first | (apply gS; first | refine go_f ?_ | refine gm ?_ | refine gp ?_ | refine go_c rfl rfl (sValid_b _ _ _ hv) ?_ | refine go_c rfl rfl (within_f _ _ _ (by omega)) ?_) | (apply gZ; first | refine go_f ?_ | refine gm ?_))); refine T_nil ?_) | (apply ZK; first | refine Z4 ?_ | refine Z5 ?_) | refine Z6 ?_ | refine Z7 ?_ | refine ZF ?_)
      repeat (first | refine kEnd_m ?_ | refine kEnd_f ?_)
      refine kEnd_g ?_ (by first | exact .inl rfl | exact .inr rfl)
      exact Sub.eq rfl rfl
end Go.Proofs.Ytifapodobhkdcaa
