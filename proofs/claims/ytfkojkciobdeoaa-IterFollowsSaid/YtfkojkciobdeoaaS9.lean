/- Meet of package span, by the abstract machine. -/
import Derived.Test.YtfkojkciobdeoaaS6
import Derived.Test.YtfkojkciobdeoaaSpanMath7
import Derived.Test.YtfkojkciobdeoaaGo
namespace Go.Proofs.Ytfkojkciobdeoaa
open Go.RowKit
set_option linter.unusedVariables false
set_option maxHeartbeats 16000000
set_option linter.unusedSimpArgs false
set_option maxRecDepth 100000
set_option maxHeartbeats 4000000 in
theorem gcd_d (a b : Nat) (ha : a ≤ 1000) (hb : b ≤ 1000) : DC Try.prog 117 [iD a, iD b] (iD (Nat.gcd a b)) := by
  refine DC.of Try.func117 Try.ntmps117 Try.results117 rfl (by decide +kernel) rfl ?_
  repeat (first | refine Z1 ?_ | refine Z2 ?_ | (refine Z3 ?_; (repeat (first | (apply gS; first | refine go_f ?_ | refine gm ?_ | refine gp ?_))); refine T_nil ?_) | (apply ZR; refine C_dr mixed ?_; (repeat (first | (apply vS; first | refine va ?_ | refine vp ?_ | refine vr ?_ | refine vt ?_))); refine W_e ?_) | (apply ZK; first | refine Z4 ?_ | refine Z5 ?_) | refine Z6 ?_ | refine Z7 ?_ | refine Z8 ?_ | refine Z9 ?_ | refine ZA ?_ | refine ZB ?_ | refine ZC ?_ | refine ZD ?_ | refine ZE ?_ | refine ZF ?_ | refine ZG ?_ | refine ZH ?_)
  refine C_loop (σ := {q : Nat × Nat // Nat.gcd q.1 q.2 = Nat.gcd a b ∧ q.1 ≤ 1000 ∧ q.2 ≤ 1000}) (fun q => ⟨0, 12, [(0, iD q.1.1), (1, iD q.1.2), (4, iD 0)], []⟩) (fun q => q.1.2) ⟨(a, b), rfl, ha, hb⟩ ?_ ?_
  · exact Wk.go (fun b => b)
  · rintro ⟨⟨x, y⟩, h1, h2, h3⟩
    simp only at h1 h2 h3
    change C _ _ ⟨0, 12, [(0, iD x), (1, iD y), (4, iD 0)], []⟩ _
    by_cases hy : 0 < y
    · have e := Int.ofNat_tmod x y
      have hlt := Nat.mod_lt x hy
      repeat (first | refine Z1 ?_ | refine Z2 ?_ | (refine Z3 ?_; (repeat (first | (apply gS; first | refine go_f ?_ | refine gm ?_ | refine gp ?_))); refine T_nil ?_) | (apply ZR; refine C_dr mixed ?_; (repeat (first | (apply vS; first | refine va ?_ | refine vp ?_ | refine vr ?_ | refine vt ?_))); refine W_e ?_) | (apply ZK; first | refine Z4 ?_ | refine Z5 ?_) | refine Z6 ?_ | refine Z7 ?_ | refine Z8 ?_ | refine Z9 ?_ | refine ZA ?_ | refine ZB ?_ | refine ZC ?_ | refine ZD ?_ | refine ZE ?_ | refine ZF ?_ | refine ZG ?_ | refine ZH ?_)
      refine kLoop_n ⟨⟨(y, x % y), by simp only; rw [← h1, Nat.gcd_comm y, ← Nat.gcd_rec, Nat.gcd_comm], h3, by simp only; omega⟩, hlt, ?_⟩
      exact Wk.go (fun b => b)
    · repeat (first | refine Z1 ?_ | refine Z2 ?_ | (refine Z3 ?_; (repeat (first | (apply gS; first | refine go_f ?_ | refine gm ?_ | refine gp ?_))); refine T_nil ?_) | (apply ZR; refine C_dr mixed ?_; (repeat (first | (apply vS; first | refine va ?_ | refine vp ?_ | refine vr ?_ | refine vt ?_))); refine W_e ?_) | (apply ZK; first | refine Z4 ?_ | refine Z5 ?_) | refine Z6 ?_ | refine Z7 ?_ | refine Z8 ?_ | refine Z9 ?_ | refine ZA ?_ | refine ZB ?_ | refine ZC ?_ | refine ZD ?_ | refine ZE ?_ | refine ZF ?_ | refine ZG ?_ | refine ZH ?_)
      repeat (first | refine kEnd_m ?_ | refine kEnd_f ?_)
      refine kEnd_g ?_ (by first | exact .inl rfl | exact .inr rfl)
      have h0 : y = 0 := by omega
      subst h0
      rw [Nat.gcd_zero_right] at h1
      exact Sub.eq (by simp [tupD, h1]) rfl
theorem ceilK_le {x step b : Int} (hs : 1 ≤ step) (h0 : 0 ≤ b) (h : x ≤ b) : ceilK x step ≤ b := by
  rw [ceilK_iff (by omega) h0]
  have := Int.mul_le_mul_of_nonneg_left hs h0
  rw [Int.mul_one] at this
  omega
theorem max_ceil (x step : Int) : (if 0 < (x + step - 1).tdiv step then (x + step - 1).tdiv step else 0) = ceilK x step := by unfold ceilK; split <;> split <;> omega
theorem min_low (y : Rw) : (if lastOf y < y.f then lastOf y else y.f) = lowOf y := by unfold lowOf; split <;> split <;> omega
theorem max_high (y : Rw) : (if y.f < lastOf y then lastOf y else y.f) = highOf y := by unfold highOf; split <;> split <;> omega
set_option maxHeartbeats 8000000 in
theorem meet_d (x y : Rw) (k p : Int) (x1 : -1000000 ≤ x.f) (x2 : x.f ≤ 1000000) (x3 : -1000 ≤ x.s) (x4 : x.s ≤ 1000) (x5 : x.s ≠ 0) (x6 : x.n ≤ 2000001) (k1 : 0 ≤ k) (k2 : k < x.n) (p1 : 1 ≤ p) (p2 : p ≤ 1000)
    (hf : -1000000 ≤ atOf x k ∧ atOf x k ≤ 1000000) (hl : -1000000 ≤ lastOf (outRow x k p) ∧ lastOf (outRow x k p) ≤ 1000000) (hy : y.small) (y1 : -1000000 ≤ y.f ∧ y.f ≤ 1000000) (y2 : -1000000 ≤ lastOf y ∧ lastOf y ≤ 1000000) :
    DC Try.prog 118 [wD x, wD y, iD k, iD p] (wD (meetRow x y k p)) := by
  have hS := prod_step x3 x4 p1 p2
  have hS0 : x.s * p ≠ 0 := Int.mul_ne_zero x5 (by omega)
  obtain ⟨o1, o2, o3⟩ := out_n p1 k2
  have o4 : (outRow x k p).n ≤ 2000001 := by rw [o1]; exact ceilK_le (by omega) (by omega) (by omega)
  have hsm : (outRow x k p).small := ⟨by show -1099511627776 ≤ atOf x k; omega, by show atOf x k ≤ 1099511627776; omega, by show -1048576 ≤ x.s * p; omega, by show x.s * p ≤ 1048576; omega, by omega, by omega⟩
  have hks := prod_row k1 (show k ≤ 2000001 by omega) x3 x4
  have A := sAt_d x k (by omega) (by omega) (by omega) (by omega)
  have L := sLast_d y hy
  have LO := sLast_d (outRow x k p) hsm
  have B := abs_d (x.s * p) (by omega) (by omega)
  have m1 := min_low y
  have m2 := max_high y
  have w1 : -1000000 ≤ lowOf y ∧ lowOf y ≤ 1000000 := by unfold lowOf; split <;> omega
  have w2 : -1000000 ≤ highOf y ∧ highOf y ≤ 1000000 := by unfold highOf; split <;> omega
  have hst : 1 ≤ absI (x.s * p) ∧ absI (x.s * p) ≤ 1000000 := by rcases absI_cases (x.s * p) with ⟨h, e⟩ | ⟨h, e⟩ <;> omega
  have hfr : frontOf x y k p ≤ 2000000 := by
    unfold frontOf
    show (if x.s * p < 0 then atOf x k - highOf y else lowOf y - atOf x k) ≤ _
    split <;> omega
  have hbh : behindOf x y k p ≤ 2000000 := by
    unfold behindOf
    show (if x.s * p < 0 then lowOf y - lastOf (outRow x k p) else lastOf (outRow x k p) - highOf y) ≤ _
    split <;> omega
  have s1 : 0 ≤ skipOf x y k p := ceilK_nn _ _
  have s2 : skipOf x y k p ≤ 2000000 := ceilK_le hst.1 (by omega) hfr
  have l1 : 0 ≤ leaveOf x y k p := ceilK_nn _ _
  have l2 : leaveOf x y k p ≤ 2000000 := ceilK_le hst.1 (by omega) hbh
  have e1 : skipOf x y k p = ceilK (frontOf x y k p) (absI (x.s * p)) := rfl
  have e2 : leaveOf x y k p = ceilK (behindOf x y k p) (absI (x.s * p)) := rfl
  have on : (outRow x k p).n = (x.n - k + p - 1).tdiv p := rfl
  rw [on] at o2 o4
  have f1 : frontOf x y k p = if x.s * p < 0 then atOf x k - highOf y else lowOf y - atOf x k := rfl
  have f2 : behindOf x y k p = if x.s * p < 0 then lowOf y - lastOf (outRow x k p) else lastOf (outRow x k p) - highOf y := rfl
  have key : ∀ fr bh : Int, frontOf x y k p = fr → behindOf x y k p = bh → (if 0 < (fr + absI (x.s * p) - 1).tdiv (absI (x.s * p)) then (fr + absI (x.s * p) - 1).tdiv (absI (x.s * p)) else 0) = skipOf x y k p ∧ (if 0 < (bh + absI (x.s * p) - 1).tdiv (absI (x.s * p)) then (bh + absI (x.s * p) - 1).tdiv (absI (x.s * p)) else 0) = leaveOf x y k p := fun fr bh h1 h2 => ⟨by rw [max_ceil, e1, h1], by rw [max_ceil, e2, h2]⟩
  clear e1 e2
  have hb := Int.mul_le_mul_of_nonneg_left hS.2 s1
  have hb2 := Int.mul_le_mul_of_nonneg_left hS.1 s1
  have PT := part_d (outRow x k p) (skipOf x y k p) ((outRow x k p).n - skipOf x y k p - leaveOf x y k p) (by show _ ≤ skipOf x y k p * (x.s * p); omega) (by show skipOf x y k p * (x.s * p) ≤ _; omega) (by show -1099511627776 ≤ atOf x k; omega) (by show atOf x k ≤ 1099511627776; omega)
  clear hb hb2
  have done : ∀ s l : Int, skipOf x y k p = s → leaveOf x y k p = l → (meetRow x y k p = if (x.n - k + p - 1).tdiv p ≤ s + l then ⟨0, 1, 0⟩ else partOf (outRow x k p) s ((x.n - k + p - 1).tdiv p - s - l)) := fun s l h1 h2 => by rw [← h1, ← h2]; rfl
  have dn := done _ _ rfl rfl
  by_cases hneg : x.s * p < 0
  · rw [if_pos hneg] at f1 f2
    obtain ⟨c1, c2⟩ := key _ _ f1 f2
    rw [f1] at hfr
    rw [f2] at hbh
    by_cases hc : (x.n - k + p - 1).tdiv p ≤ skipOf x y k p + leaveOf x y k p
    · rw [dn, if_pos hc]
      refine DC.of Try.func118 Try.ntmps118 Try.results118 rfl (by decide +kernel) rfl ?_
      repeat (first | refine Z1 ?_ | refine Z2 ?_ | (refine Z3 ?_; (repeat (first | (apply gS; first | refine go_f ?_ | refine gm ?_ | refine gp ?_ | refine go_c rfl rfl (A) ?_ | refine go_c rfl rfl (L) ?_ | refine go_c rfl rfl (LO) ?_ | refine go_c rfl rfl (B) ?_ | refine go_c rfl rfl (PT) ?_) | (apply gZ; first | refine go_f ?_ | refine gm ?_))); refine T_nil ?_) | (apply ZR; refine C_dr mixed ?_; (repeat (first | (apply vS; first | refine va ?_ | refine vp ?_ | refine vr ?_ | refine vt ?_ | refine vc (A) ?_ | refine vc (L) ?_ | refine vc (LO) ?_ | refine vc (B) ?_ | refine vc (PT) ?_) | (apply vZ; refine vs ?_))); refine W_e ?_) | (apply ZK; first | refine Z4 ?_ | refine Z5 ?_) | refine Z6 ?_ | refine Z7 ?_ | refine ZF ?_)
      repeat (first | refine kEnd_m ?_ | refine kEnd_f ?_)
      refine kEnd_g ?_ (by first | exact .inl rfl | exact .inr rfl)
      exact Sub.eq rfl rfl
    · rw [dn, if_neg hc]
      refine DC.of Try.func118 Try.ntmps118 Try.results118 rfl (by decide +kernel) rfl ?_
      repeat (first | refine Z1 ?_ | refine Z2 ?_ | (refine Z3 ?_; (repeat (first | (apply gS; first | refine go_f ?_ | refine gm ?_ | refine gp ?_ | refine go_c rfl rfl (A) ?_ | refine go_c rfl rfl (L) ?_ | refine go_c rfl rfl (LO) ?_ | refine go_c rfl rfl (B) ?_ | refine go_c rfl rfl (PT) ?_) | (apply gZ; first | refine go_f ?_ | refine gm ?_))); refine T_nil ?_) | (apply ZR; refine C_dr mixed ?_; (repeat (first | (apply vS; first | refine va ?_ | refine vp ?_ | refine vr ?_ | refine vt ?_ | refine vc (A) ?_ | refine vc (L) ?_ | refine vc (LO) ?_ | refine vc (B) ?_ | refine vc (PT) ?_) | (apply vZ; refine vs ?_))); refine W_e ?_) | (apply ZK; first | refine Z4 ?_ | refine Z5 ?_) | refine Z6 ?_ | refine Z7 ?_ | refine ZF ?_)
      repeat (first | refine kEnd_m ?_ | refine kEnd_f ?_)
      refine kEnd_g ?_ (by first | exact .inl rfl | exact .inr rfl)
      exact Sub.eq rfl rfl
  · rw [if_neg hneg] at f1 f2
    obtain ⟨c1, c2⟩ := key _ _ f1 f2
    rw [f1] at hfr
    rw [f2] at hbh
    by_cases hc : (x.n - k + p - 1).tdiv p ≤ skipOf x y k p + leaveOf x y k p
    · rw [dn, if_pos hc]
      refine DC.of Try.func118 Try.ntmps118 Try.results118 rfl (by decide +kernel) rfl ?_
      repeat (first | refine Z1 ?_ | refine Z2 ?_ | (refine Z3 ?_; (repeat (first | (apply gS; first | refine go_f ?_ | refine gm ?_ | refine gp ?_ | refine go_c rfl rfl (A) ?_ | refine go_c rfl rfl (L) ?_ | refine go_c rfl rfl (LO) ?_ | refine go_c rfl rfl (B) ?_ | refine go_c rfl rfl (PT) ?_) | (apply gZ; first | refine go_f ?_ | refine gm ?_))); refine T_nil ?_) | (apply ZR; refine C_dr mixed ?_; (repeat (first | (apply vS; first | refine va ?_ | refine vp ?_ | refine vr ?_ | refine vt ?_ | refine vc (A) ?_ | refine vc (L) ?_ | refine vc (LO) ?_ | refine vc (B) ?_ | refine vc (PT) ?_) | (apply vZ; refine vs ?_))); refine W_e ?_) | (apply ZK; first | refine Z4 ?_ | refine Z5 ?_) | refine Z6 ?_ | refine Z7 ?_ | refine ZF ?_)
      repeat (first | refine kEnd_m ?_ | refine kEnd_f ?_)
      refine kEnd_g ?_ (by first | exact .inl rfl | exact .inr rfl)
      exact Sub.eq rfl rfl
    · rw [dn, if_neg hc]
      refine DC.of Try.func118 Try.ntmps118 Try.results118 rfl (by decide +kernel) rfl ?_
      repeat (first | refine Z1 ?_ | refine Z2 ?_ | (refine Z3 ?_; (repeat (first | (apply gS; first | refine go_f ?_ | refine gm ?_ | refine gp ?_ | refine go_c rfl rfl (A) ?_ | refine go_c rfl rfl (L) ?_ | refine go_c rfl rfl (LO) ?_ | refine go_c rfl rfl (B) ?_ | refine go_c rfl rfl (PT) ?_) | (apply gZ; first | refine go_f ?_ | refine gm ?_))); refine T_nil ?_) | (apply ZR; refine C_dr mixed ?_; (repeat (first | (apply vS; first | refine va ?_ | refine vp ?_ | refine vr ?_ | refine vt ?_ | refine vc (A) ?_ | refine vc (L) ?_ | refine vc (LO) ?_ | refine vc (B) ?_ | refine vc (PT) ?_) | (apply vZ; refine vs ?_))); refine W_e ?_) | (apply ZK; first | refine Z4 ?_ | refine Z5 ?_) | refine Z6 ?_ | refine Z7 ?_ | refine ZF ?_)

      repeat (first | refine kEnd_m ?_ | refine kEnd_f ?_)
      refine kEnd_g ?_ (by first | exact .inl rfl | exact .inr rfl)
      exact Sub.eq rfl rfl
end Go.Proofs.Ytfkojkciobdeoaa
