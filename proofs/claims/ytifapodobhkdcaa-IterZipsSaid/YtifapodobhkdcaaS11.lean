/- Within and Same of package span and of the reference, by the abstract machine. -/
import Derived.Test.YtifapodobhkdcaaS8
import Derived.Test.YtifapodobhkdcaaDsMath
import Derived.Test.YtifapodobhkdcaaRun
import Derived.Test.YtifapodobhkdcaaS4
namespace Go.Proofs.Ytifapodobhkdcaa
open Go.RowKit
set_option linter.unusedVariables false
set_option maxHeartbeats 16000000
set_option linter.unusedSimpArgs false
set_option maxRecDepth 100000
set_option maxHeartbeats 4000000 in
theorem gcd_d (a b : Nat) (ha : a ≤ 1000) (hb : b ≤ 1000) : DC Try.prog 163 [iD a, iD b] (iD (Nat.gcd a b)) := by
  refine DC.of Try.func163 Try.ntmps163 Try.results163 rfl (by decide +kernel) rfl ?_
  repeat (first | refine Z1 ?_ | refine Z2 ?_ | (refine Z3 ?_; (repeat (first | (apply gS; first | refine go_f ?_ | refine gm ?_ | refine gp ?_))); refine T_nil ?_) | (apply ZR; refine C_dr mixed ?_; (repeat (first | (apply vS; first | refine va ?_ | refine vp ?_ | refine vr ?_ | refine vt ?_))); refine W_e ?_) | (apply ZK; first | refine Z4 ?_ | refine Z5 ?_) | refine Z6 ?_ | refine Z7 ?_ | refine Z8 ?_ | refine Z9 ?_ | refine ZA ?_ | refine ZB ?_ | refine ZC ?_ | refine ZD ?_ | refine ZE ?_ | refine ZF ?_ | refine ZG ?_ | refine ZH ?_)
  refine C_loop (σ := {q : Nat × Nat // Nat.gcd q.1 q.2 = Nat.gcd a b ∧ q.1 ≤ 1000 ∧ q.2 ≤ 1000}) (fun q => ⟨0, 12, [(0, iD q.1.1), (1, iD q.1.2), (4, iD 0)], []⟩) (fun q => q.1.2) ⟨(a, b), rfl, ha, hb⟩ ?_ ?_
  · exact Wk.go (fun b => b)
  · rintro ⟨⟨x, y⟩, h1, h2, h3⟩
    simp only at h1 h2 h3
    change C _ _ ⟨0, 12, [(0, iD x), (1, iD y), (4, iD 0)], []⟩ _
    by_cases hy : 0 < y
    · have e := Int.ofNat_tmod x y
      have hlt := Nat.mod_lt x hy
      repeat (first | refine Z1 ?_ | refine Z2 ?_ | (refine Z3 ?_; (repeat (first | (apply gS; first | refine go_f ?_ | refine gm ?_ | refine gp ?_))); refine T_nil ?_) | (apply ZR; refine C_dr mixed ?_; (repeat (first | (apply vS; first | refine va ?_ | refine vp ?_ | refine vr ?_ | refine vt ?_))); refine W_e ?_) | (apply ZK; first | refine Z4 ?_ | refine Z5 ?_) | refine Z6 ?_ | refine Z7 ?_ | refine Z8 ?_ | refine Z9 ?_ | refine ZA ?_ | refine ZB ?_ | refine ZC ?_ | refine ZD ?_ | refine ZE ?_ | refine ZF ?_ | refine ZG ?_ | refine ZH ?_)
      refine kLoop_n ⟨⟨(y, x % y), by simp only; rw [← h1, Nat.gcd_comm y, ← Nat.gcd_rec, Nat.gcd_comm], h3, by simp only; omega⟩, hlt, ?_⟩
      exact Wk.go (fun b => b)
    · repeat (first | refine Z1 ?_ | refine Z2 ?_ | (refine Z3 ?_; (repeat (first | (apply gS; first | refine go_f ?_ | refine gm ?_ | refine gp ?_))); refine T_nil ?_) | (apply ZR; refine C_dr mixed ?_; (repeat (first | (apply vS; first | refine va ?_ | refine vp ?_ | refine vr ?_ | refine vt ?_))); refine W_e ?_) | (apply ZK; first | refine Z4 ?_ | refine Z5 ?_) | refine Z6 ?_ | refine Z7 ?_ | refine Z8 ?_ | refine Z9 ?_ | refine ZA ?_ | refine ZB ?_ | refine ZC ?_ | refine ZD ?_ | refine ZE ?_ | refine ZF ?_ | refine ZG ?_ | refine ZH ?_)
      repeat (first | refine kEnd_m ?_ | refine kEnd_f ?_)
      refine kEnd_g ?_ (by first | exact .inl rfl | exact .inr rfl)
      have h0 : y = 0 := by omega
      subst h0
      rw [Nat.gcd_zero_right] at h1
      exact Sub.eq (by simp [tupD, h1]) rfl
theorem ceilK_le {x step b : Int} (hs : 1 ≤ step) (h0 : 0 ≤ b) (h : x ≤ b) : ceilK x step ≤ b := by
  rw [ceilK_iff (by omega) h0]
  have := Int.mul_le_mul_of_nonneg_left hs h0
  rw [Int.mul_one] at this
  omega
theorem max_ceil (x step : Int) : (if 0 < (x + step - 1).tdiv step then (x + step - 1).tdiv step else 0) = ceilK x step := by unfold ceilK; split <;> split <;> omega
theorem min_low (y : Rw) : (if lastOf y < y.f then lastOf y else y.f) = lowOf y := by unfold lowOf; split <;> split <;> omega
theorem max_high (y : Rw) : (if y.f < lastOf y then lastOf y else y.f) = highOf y := by unfold highOf; split <;> split <;> omega
set_option maxHeartbeats 8000000 in
theorem meet_d (x y : Rw) (k p : Int) (x1 : -1000000 ≤ x.f) (x2 : x.f ≤ 1000000) (x3 : -1000 ≤ x.s) (x4 : x.s ≤ 1000) (x5 : x.s ≠ 0) (x6 : x.n ≤ 2000001) (k1 : 0 ≤ k) (k2 : k < x.n) (p1 : 1 ≤ p) (p2 : p ≤ 1000)
    (hf : -1000000 ≤ atOf x k ∧ atOf x k ≤ 1000000) (hl : -1000000 ≤ lastOf (outRow x k p) ∧ lastOf (outRow x k p) ≤ 1000000) (hy : y.small) (y1 : -1000000 ≤ y.f ∧ y.f ≤ 1000000) (y2 : -1000000 ≤ lastOf y ∧ lastOf y ≤ 1000000) :
    DC Try.prog 164 [wD x, wD y, iD k, iD p] (wD (meetRow x y k p)) := by
  have hS := prod_step x3 x4 p1 p2
  have hS0 : x.s * p ≠ 0 := Int.mul_ne_zero x5 (by omega)
  obtain ⟨o1, o2, o3⟩ := out_n p1 k2
  have o4 : (outRow x k p).n ≤ 2000001 := by rw [o1]; exact ceilK_le (by omega) (by omega) (by omega)
  have hsm : (outRow x k p).small := ⟨by show -1099511627776 ≤ atOf x k; omega, by show atOf x k ≤ 1099511627776; omega, by show -1048576 ≤ x.s * p; omega, by show x.s * p ≤ 1048576; omega, by omega, by omega⟩
  have hks := prod_row k1 (show k ≤ 2000001 by omega) x3 x4
  have A := sAt_d x k (by omega) (by omega) (by omega) (by omega)
  have L := sLast_d y hy
  have LO := sLast_d (outRow x k p) hsm
  have B := abs_d (x.s * p) (by omega) (by omega)
  have m1 := min_low y
  have m2 := max_high y
  have w1 : -1000000 ≤ lowOf y ∧ lowOf y ≤ 1000000 := by unfold lowOf; split <;> omega
  have w2 : -1000000 ≤ highOf y ∧ highOf y ≤ 1000000 := by unfold highOf; split <;> omega
  have hst : 1 ≤ absI (x.s * p) ∧ absI (x.s * p) ≤ 1000000 := by rcases absI_cases (x.s * p) with ⟨h, e⟩ | ⟨h, e⟩ <;> omega
  have hfr : frontOf x y k p ≤ 2000000 := by
    unfold frontOf
    show (if x.s * p < 0 then atOf x k - highOf y else lowOf y - atOf x k) ≤ _
    split <;> omega
  have hbh : behindOf x y k p ≤ 2000000 := by
    unfold behindOf
    show (if x.s * p < 0 then lowOf y - lastOf (outRow x k p) else lastOf (outRow x k p) - highOf y) ≤ _
    split <;> omega
  have s1 : 0 ≤ skipOf x y k p := ceilK_nn _ _
  have s2 : skipOf x y k p ≤ 2000000 := ceilK_le hst.1 (by omega) hfr
  have l1 : 0 ≤ leaveOf x y k p := ceilK_nn _ _
  have l2 : leaveOf x y k p ≤ 2000000 := ceilK_le hst.1 (by omega) hbh
  have e1 : skipOf x y k p = ceilK (frontOf x y k p) (absI (x.s * p)) := rfl
  have e2 : leaveOf x y k p = ceilK (behindOf x y k p) (absI (x.s * p)) := rfl
  have on : (outRow x k p).n = (x.n - k + p - 1).tdiv p := rfl
  rw [on] at o2 o4
  have f1 : frontOf x y k p = if x.s * p < 0 then atOf x k - highOf y else lowOf y - atOf x k := rfl
  have f2 : behindOf x y k p = if x.s * p < 0 then lowOf y - lastOf (outRow x k p) else lastOf (outRow x k p) - highOf y := rfl
  have key : ∀ fr bh : Int, frontOf x y k p = fr → behindOf x y k p = bh → (if 0 < (fr + absI (x.s * p) - 1).tdiv (absI (x.s * p)) then (fr + absI (x.s * p) - 1).tdiv (absI (x.s * p)) else 0) = skipOf x y k p ∧ (if 0 < (bh + absI (x.s * p) - 1).tdiv (absI (x.s * p)) then (bh + absI (x.s * p) - 1).tdiv (absI (x.s * p)) else 0) = leaveOf x y k p := fun fr bh h1 h2 => ⟨by rw [max_ceil, e1, h1], by rw [max_ceil, e2, h2]⟩
  clear e1 e2
  have hb := Int.mul_le_mul_of_nonneg_left hS.2 s1
  have hb2 := Int.mul_le_mul_of_nonneg_left hS.1 s1
  have PT := part_d (outRow x k p) (skipOf x y k p) ((outRow x k p).n - skipOf x y k p - leaveOf x y k p) (by show _ ≤ skipOf x y k p * (x.s * p); omega) (by show skipOf x y k p * (x.s * p) ≤ _; omega) (by show -1099511627776 ≤ atOf x k; omega) (by show atOf x k ≤ 1099511627776; omega)
  clear hb hb2
  have done : ∀ s l : Int, skipOf x y k p = s → leaveOf x y k p = l → (meetRow x y k p = if (x.n - k + p - 1).tdiv p ≤ s + l then ⟨0, 1, 0⟩ else partOf (outRow x k p) s ((x.n - k + p - 1).tdiv p - s - l)) := fun s l h1 h2 => by rw [← h1, ← h2]; rfl
  have dn := done _ _ rfl rfl
  by_cases hneg : x.s * p < 0
  · rw [if_pos hneg] at f1 f2
    obtain ⟨c1, c2⟩ := key _ _ f1 f2
    rw [f1] at hfr
    rw [f2] at hbh
    by_cases hc : (x.n - k + p - 1).tdiv p ≤ skipOf x y k p + leaveOf x y k p
    · rw [dn, if_pos hc]
      refine DC.of Try.func164 Try.ntmps164 Try.results164 rfl (by decide +kernel) rfl ?_
      repeat (first | refine Z1 ?_ | refine Z2 ?_ | (refine Z3 ?_; (repeat (first | (apply gS; first | refine go_f ?_ | refine gm ?_ | refine gp ?_ | refine go_c rfl rfl (A) ?_ | refine go_c rfl rfl (L) ?_ | refine go_c rfl rfl (LO) ?_ | refine go_c rfl rfl (B) ?_ | refine go_c rfl rfl (PT) ?_) | (apply gZ; first | refine go_f ?_ | refine gm ?_))); refine T_nil ?_) | (apply ZR; refine C_dr mixed ?_; (repeat (first | (apply vS; first | refine va ?_ | refine vp ?_ | refine vr ?_ | refine vt ?_ | refine vc (A) ?_ | refine vc (L) ?_ | refine vc (LO) ?_ | refine vc (B) ?_ | refine vc (PT) ?_) | (apply vZ; first | refine vs ?_))); refine W_e ?_) | (apply ZK; first | refine Z4 ?_ | refine Z5 ?_) | refine Z6 ?_ | refine Z7 ?_ | refine ZF ?_)
      repeat (first | refine kEnd_m ?_ | refine kEnd_f ?_)
      refine kEnd_g ?_ (by first | exact .inl rfl | exact .inr rfl)
      exact Sub.eq rfl rfl
    · rw [dn, if_neg hc]
      refine DC.of Try.func164 Try.ntmps164 Try.results164 rfl (by decide +kernel) rfl ?_
      repeat (first | refine Z1 ?_ | refine Z2 ?_ | (refine Z3 ?_; (repeat (first | (apply gS; first | refine go_f ?_ | refine gm ?_ | refine gp ?_ | refine go_c rfl rfl (A) ?_ | refine go_c rfl rfl (L) ?_ | refine go_c rfl rfl (LO) ?_ | refine go_c rfl rfl (B) ?_ | refine go_c rfl rfl (PT) ?_) | (apply gZ; first | refine go_f ?_ | refine gm ?_))); refine T_nil ?_) | (apply ZR; refine C_dr mixed ?_; (repeat (first | (apply vS; first | refine va ?_ | refine vp ?_ | refine vr ?_ | refine vt ?_ | refine vc (A) ?_ | refine vc (L) ?_ | refine vc (LO) ?_ | refine vc (B) ?_ | refine vc (PT) ?_) | (apply vZ; first | refine vs ?_))); refine W_e ?_) | (apply ZK; first | refine Z4 ?_ | refine Z5 ?_) | refine Z6 ?_ | refine Z7 ?_ | refine ZF ?_)
      repeat (first | refine kEnd_m ?_ | refine kEnd_f ?_)
      refine kEnd_g ?_ (by first | exact .inl rfl | exact .inr rfl)
      exact Sub.eq rfl rfl
  · rw [if_neg hneg] at f1 f2
    obtain ⟨c1, c2⟩ := key _ _ f1 f2
    rw [f1] at hfr
    rw [f2] at hbh
    by_cases hc : (x.n - k + p - 1).tdiv p ≤ skipOf x y k p + leaveOf x y k p
    · rw [dn, if_pos hc]
      refine DC.of Try.func164 Try.ntmps164 Try.results164 rfl (by decide +kernel) rfl ?_
      repeat (first | refine Z1 ?_ | refine Z2 ?_ | (refine Z3 ?_; (repeat (first | (apply gS; first | refine go_f ?_ | refine gm ?_ | refine gp ?_ | refine go_c rfl rfl (A) ?_ | refine go_c rfl rfl (L) ?_ | refine go_c rfl rfl (LO) ?_ | refine go_c rfl rfl (B) ?_ | refine go_c rfl rfl (PT) ?_) | (apply gZ; first | refine go_f ?_ | refine gm ?_))); refine T_nil ?_) | (apply ZR; refine C_dr mixed ?_; (repeat (first | (apply vS; first | refine va ?_ | refine vp ?_ | refine vr ?_ | refine vt ?_ | refine vc (A) ?_ | refine vc (L) ?_ | refine vc (LO) ?_ | refine vc (B) ?_ | refine vc (PT) ?_) | (apply vZ; first | refine vs ?_))); refine W_e ?_) | (apply ZK; first | refine Z4 ?_ | refine Z5 ?_) | refine Z6 ?_ | refine Z7 ?_ | refine ZF ?_)
      repeat (first | refine kEnd_m ?_ | refine kEnd_f ?_)
      refine kEnd_g ?_ (by first | exact .inl rfl | exact .inr rfl)
      exact Sub.eq rfl rfl
    · rw [dn, if_neg hc]
      refine DC.of Try.func164 Try.ntmps164 Try.results164 rfl (by decide +kernel) rfl ?_
      repeat (first | refine Z1 ?_ | refine Z2 ?_ | (refine Z3 ?_; (repeat (first | (apply gS; first | refine go_f ?_ | refine gm ?_ | refine gp ?_ | refine go_c rfl rfl (A) ?_ | refine go_c rfl rfl (L) ?_ | refine go_c rfl rfl (LO) ?_ | refine go_c rfl rfl (B) ?_ | refine go_c rfl rfl (PT) ?_) | (apply gZ; first | refine go_f ?_ | refine gm ?_))); refine T_nil ?_) | (apply ZR; refine C_dr mixed ?_; (repeat (first | (apply vS; first | refine va ?_ | refine vp ?_ | refine vr ?_ | refine vt ?_ | refine vc (A) ?_ | refine vc (L) ?_ | refine vc (LO) ?_ | refine vc (B) ?_ | refine vc (PT) ?_) | (apply vZ; first | refine vs ?_))); refine W_e ?_) | (apply ZK; first | refine Z4 ?_ | refine Z5 ?_) | refine Z6 ?_ | refine Z7 ?_ | refine ZF ?_)

      repeat (first | refine kEnd_m ?_ | refine kEnd_f ?_)
      refine kEnd_g ?_ (by first | exact .inl rfl | exact .inr rfl)
      exact Sub.eq rfl rfl
end Go.Proofs.Ytifapodobhkdcaa
namespace Go.Proofs.Ytifapodobhkdcaa
open Go.RowKit
set_option linter.unusedVariables false
set_option maxHeartbeats 16000000
set_option linter.unusedSimpArgs false
set_option maxRecDepth 100000
theorem sValid_r (r : Rg) {b : Bool} (h : vB r = b) : DC Try.prog 101 [rD r] (bD b) := sValid_b r.lo r.hi r.st h
theorem rValid_r (r : Rg) {b : Bool} (h : vB r = b) : DC Try.prog 137 [rD r] (bD b) := rValid_b r.lo r.hi r.st h
theorem absI_nat (n : Int) : absI n = (n.natAbs : Int) := by unfold absI; split <;> omega
theorem gcd_a (x y : Int) (hx : absI x ≤ 1000) (hy : absI y ≤ 1000) : DC Try.prog 163 [iD (absI x), iD (absI y)] (iD (Nat.gcd x.natAbs y.natAbs : Nat)) := by
  rw [absI_nat] at hx hy
  rw [absI_nat, absI_nat]
  exact gcd_d _ _ (by omega) (by omega)
/-- the least number with a property -/
theorem least_of {p : Nat → Prop} : ∀ {n : Nat}, p n → ∃ k, p k ∧ ∀ j, j < k → ¬ p j := by
  intro n
  induction n using Nat.strongRecOn with
  | _ n ih =>
    intro h
    by_cases hl : ∃ j, j < n ∧ p j
    · obtain ⟨j, hj, hp⟩ := hl; exact ih j hj hp
    · exact ⟨n, h, fun j hj hp => hl ⟨j, hj, hp⟩⟩
def meets (x y : Rw) (k : Nat) : Prop := y.n ≠ 0 ∧ onGrid x y k
theorem grid_tmod {x y : Rw} {k : Int} : onGrid x y k ↔ (atOf x k - y.f).tmod y.s = 0 := Int.dvd_iff_tmod_eq_zero
theorem meet_use {r s : Rg} (hrk : r.ok) (hsk : s.ok) {k : Nat} (hk : k < perOf (rowOf r).s (rowOf s).s) (hn : (k : Int) < (rowOf r).n) (h0 : (rowOf s).n ≠ 0) :
    ((meetRow (rowOf r) (rowOf s) k (perOf (rowOf r).s (rowOf s).s)).small ∧ (meetRow (rowOf r) (rowOf s) k (perOf (rowOf r).s (rowOf s).s)).s ≠ 0) ∧ DC Try.prog 164 [wD (rowOf r), wD (rowOf s), iD k, iD (perOf (rowOf r).s (rowOf s).s : Nat)] (wD (meetRow (rowOf r) (rowOf s) k (perOf (rowOf r).s (rowOf s).s))) := by
  obtain ⟨p1, p2⟩ := per_in hrk hsk
  obtain ⟨x1, x2, x3, x4, x5, x6, x7, x8⟩ := row_tame hrk
  have ty := row_tame hsk
  obtain ⟨y1, y2, y3, y4, y5, y6, y7, y8⟩ := id ty
  obtain ⟨o1, o2, o3⟩ := out_n (x := rowOf r) (k := k) (p := (perOf (rowOf r).s (rowOf s).s : Nat)) (by omega) hn
  have hout : ∀ j : Int, 0 ≤ j → j < (outRow (rowOf r) k (perOf (rowOf r).s (rowOf s).s : Nat)).n → -1000000 ≤ atOf (outRow (rowOf r) k (perOf (rowOf r).s (rowOf s).s : Nat)) j ∧ atOf (outRow (rowOf r) k (perOf (rowOf r).s (rowOf s).s : Nat)) j ≤ 1000000 := fun j h1 h2 => by
    rw [out_at]
    have := (o3 j h1).1 h2
    refine at_near hrk ?_ this
    have := Int.mul_nonneg (show (0 : Int) ≤ (perOf (rowOf r).s (rowOf s).s : Nat) by omega) h1
    omega
  have o4 : (outRow (rowOf r) k (perOf (rowOf r).s (rowOf s).s : Nat)).n ≤ 2000001 := by rw [o1]; exact ceilK_le (by omega) (by omega) (by omega)
  have hb := prod_step x3 x4 (show (1 : Int) ≤ (perOf (rowOf r).s (rowOf s).s : Nat) by omega) (show ((perOf (rowOf r).s (rowOf s).s : Nat) : Int) ≤ 1000 by omega)
  have hb0 : (rowOf r).s * (perOf (rowOf r).s (rowOf s).s : Nat) ≠ 0 := Int.mul_ne_zero x5 (by omega)
  refine ⟨?_, meet_d _ _ _ _ x1 x2 x3 x4 x5 x7 (by omega) hn (by omega) (by omega) (at_near hrk (by omega) hn) ?_ (tame_small ty) ⟨y1, y2⟩ (y8 h0)⟩
  · unfold meetRow
    split
    · exact ⟨⟨by decide, by decide, by decide, by decide, by decide, by decide⟩, by decide⟩
    · rename_i hlt
      have s1 : 0 ≤ skipOf (rowOf r) (rowOf s) k (perOf (rowOf r).s (rowOf s).s : Nat) := ceilK_nn _ _
      have l1 : 0 ≤ leaveOf (rowOf r) (rowOf s) k (perOf (rowOf r).s (rowOf s).s : Nat) := ceilK_nn _ _
      have := hout _ s1 (by omega)
      refine ⟨⟨by show -1099511627776 ≤ atOf _ _; omega, by show atOf _ _ ≤ 1099511627776; omega, by show -1048576 ≤ (rowOf r).s * (perOf (rowOf r).s (rowOf s).s : Nat); omega, by show (rowOf r).s * (perOf (rowOf r).s (rowOf s).s : Nat) ≤ 1048576; omega, by show 0 ≤ _ - _ - _; omega, by show _ - _ - _ ≤ 4194304; omega⟩, hb0⟩
  · exact hout _ (by omega) (by omega)
set_option maxHeartbeats 8000000 in
theorem sMeetP_d (r s : Rg) : ∃ a e, MeetIs r s a e ∧ DC Try.prog 107 [rD r, rD s] (.tup [rD a, iD e]) := by
  by_cases hv : vB r = true ∧ vB s = true
  case neg =>
    refine ⟨⟨0, 0, 0⟩, 30, .bad hv, ?_⟩
    cases hr : vB r with
    | false =>
      have V := sValid_r r hr
      refine DC.of Try.func107 Try.ntmps107 Try.results107 rfl (by decide +kernel) rfl ?_
      repeat (first | refine Z1 ?_ | refine Z2 ?_ | (refine Z3 ?_; (repeat (first | (apply gS; first | refine go_no ?_ | refine go_f ?_ | refine gm ?_ | refine gp ?_ | refine go_c rfl rfl (V) ?_) | (apply gZ; first | refine go_f ?_ | refine gm ?_))); refine T_nil ?_) | (apply ZR; refine C_dr mixed ?_; (repeat (first | (apply vS; first | refine vn ?_ | refine va ?_ | refine vp ?_ | refine vr ?_ | refine vt ?_ | refine vc (V) ?_) | (apply vZ; first | refine vs ?_))); refine W_e ?_) | (apply ZK; first | refine Z4 ?_ | refine Z5 ?_) | refine Z6 ?_ | refine Z7 ?_ | refine Z8 ?_ | refine Z9 ?_ | refine ZA ?_ | refine ZB ?_ | refine ZC ?_ | refine ZD ?_ | refine ZE ?_ | refine ZF ?_ | refine ZG ?_ | refine ZH ?_)
      repeat (first | refine kEnd_m ?_ | refine kEnd_f ?_)
      refine kEnd_g ?_ (by first | exact .inl rfl | exact .inr rfl)
      exact Sub.eq rfl rfl
    | true =>
      cases hs : vB s with
      | true => exact absurd ⟨hr, hs⟩ hv
      | false =>
        have V := sValid_r r hr
        have U := sValid_r s hs
        refine DC.of Try.func107 Try.ntmps107 Try.results107 rfl (by decide +kernel) rfl ?_
        repeat (first | refine Z1 ?_ | refine Z2 ?_ | (refine Z3 ?_; (repeat (first | (apply gS; first | refine go_no ?_ | refine go_f ?_ | refine gm ?_ | refine gp ?_ | refine go_c rfl rfl (V) ?_ | refine go_c rfl rfl (U) ?_) | (apply gZ; first | refine go_f ?_ | refine gm ?_))); refine T_nil ?_) | (apply ZR; refine C_dr mixed ?_; (repeat (first | (apply vS; first | refine vn ?_ | refine va ?_ | refine vp ?_ | refine vr ?_ | refine vt ?_ | refine vc (V) ?_ | refine vc (U) ?_) | (apply vZ; first | refine vs ?_))); refine W_e ?_) | (apply ZK; first | refine Z4 ?_ | refine Z5 ?_) | refine Z6 ?_ | refine Z7 ?_ | refine Z8 ?_ | refine Z9 ?_ | refine ZA ?_ | refine ZB ?_ | refine ZC ?_ | refine ZD ?_ | refine ZE ?_ | refine ZF ?_ | refine ZG ?_ | refine ZH ?_)
        repeat (first | refine kEnd_m ?_ | refine kEnd_f ?_)
        refine kEnd_g ?_ (by first | exact .inl rfl | exact .inr rfl)
        exact Sub.eq rfl rfl
  obtain ⟨hr, hs⟩ := hv
  have V := sValid_r r hr
  have U := sValid_r s hs
  have hrk := vB_okS hr
  have hsk := vB_okS hs
  have X := rowOf_r r hrk
  have Y := rowOf_r s hsk
  have tx := row_tame hrk
  have ty := row_tame hsk
  obtain ⟨x1, x2, x3, x4, x5, x6, x7, x8⟩ := id tx
  obtain ⟨y1, y2, y3, y4, y5, y6, y7, y8⟩ := id ty
  have ax := absI_bd x3 x4 x5
  have ay := absI_bd y3 y4 y5
  have AX := abs_d (rowOf r).s (by omega) (by omega)
  have AY := abs_d (rowOf s).s (by omega) (by omega)
  have GC := gcd_a (rowOf r).s (rowOf s).s ax.2 ay.2
  obtain ⟨p1, p2⟩ := per_in hrk hsk
  have hg : 0 < Nat.gcd (rowOf r).s.natAbs (rowOf s).s.natAbs := Nat.gcd_pos_of_pos_left _ (by omega)
  have E : (absI (rowOf s).s).tdiv ((Nat.gcd (rowOf r).s.natAbs (rowOf s).s.natAbs : Nat) : Int) = (perOf (rowOf r).s (rowOf s).s : Nat) := by
    rw [absI_nat, ← Int.ofNat_tdiv]; rfl
  have hin : ∀ k : Nat, (k : Int) < (rowOf r).n → -1000000 ≤ atOf (rowOf r) k ∧ atOf (rowOf r) k ≤ 1000000 := fun k hk => at_near hrk (by omega) hk
  have AT : ∀ k : Nat, (k : Int) < (rowOf r).n → DC Try.prog 103 [wD (rowOf r), iD k] (iD (atOf (rowOf r) k)) := fun k hk => sAt_d _ _ (at_bd hrk (by omega) (by omega)).1 (at_bd hrk (by omega) (by omega)).2 (by omega) (by omega)
  have hmn := @meet_none r s hr hs
  have hms := @meet_some r s hr hs
  have hmt : ∀ k : Nat, k < perOf (rowOf r).s (rowOf s).s → (k : Int) < (rowOf r).n → (rowOf s).n ≠ 0 → onGrid (rowOf r) (rowOf s) k → ((meetRow (rowOf r) (rowOf s) k (perOf (rowOf r).s (rowOf s).s)).small ∧ (meetRow (rowOf r) (rowOf s) k (perOf (rowOf r).s (rowOf s).s)).s ≠ 0) ∧ DC Try.prog 164 [wD (rowOf r), wD (rowOf s), iD k, iD (perOf (rowOf r).s (rowOf s).s : Nat)] (wD (meetRow (rowOf r) (rowOf s) k (perOf (rowOf r).s (rowOf s).s))) := by
    exact fun k hk hn h0 _ => meet_use hrk hsk hk hn h0
  generalize perOf (rowOf r).s (rowOf s).s = p at *
  generalize Nat.gcd (rowOf r).s.natAbs (rowOf s).s.natAbs = gc at *
  generalize rowOf r = x at *
  generalize rowOf s = y at *
  by_cases hex : ∃ k : Nat, k < p ∧ (k : Int) < x.n ∧ meets x y k
  · obtain ⟨k1, hk1⟩ := hex
    obtain ⟨q, ⟨hq1, hq2, hq3, hq4⟩, hmin⟩ := least_of (p := fun k1 : Nat => k1 < p ∧ (k1 : Int) < x.n ∧ meets x y k1) hk1
    refine ⟨_, _, hms hq1 hq2 hq3 hq4, ?_⟩
    obtain ⟨hsm, MT⟩ := hmt q hq1 hq2 hq3 hq4
    have DN := sDone_d _ hsm.1 hsm.2
    generalize meetRow x y q p = mr at *
    clear hms hmn hmt hk1
    obtain ⟨N, hN⟩ : ∃ N : Nat, (N : Int) = if (p : Int) ≤ x.n then (p : Int) else x.n := ⟨(if (p : Int) ≤ x.n then (p : Int) else x.n).toNat, by split <;> omega⟩
    by_cases hpn : (p : Int) ≤ x.n
    all_goals first | rw [if_pos hpn] at hN | rw [if_neg hpn] at hN
    all_goals
      refine DC.of Try.func107 Try.ntmps107 Try.results107 rfl (by decide +kernel) rfl ?_
      repeat (first | refine Z1 ?_ | refine Z2 ?_ | (refine Z3 ?_; (repeat (first | (apply gS; first | refine go_no ?_ | refine go_f ?_ | refine gm ?_ | refine gp ?_ | refine go_c rfl rfl (V) ?_ | refine go_c rfl rfl (U) ?_ | refine go_c rfl rfl (X) ?_ | refine go_c rfl rfl (Y) ?_ | refine go_c rfl rfl (AX) ?_ | refine go_c rfl rfl (AY) ?_ | refine go_c rfl rfl (GC) ?_) | (apply gZ; first | refine go_f ?_ | refine gm ?_))); refine T_nil ?_) | (apply ZR; refine C_dr mixed ?_; (repeat (first | (apply vS; first | refine vn ?_ | refine va ?_ | refine vp ?_ | refine vr ?_ | refine vt ?_ | refine vc (V) ?_ | refine vc (U) ?_ | refine vc (X) ?_ | refine vc (Y) ?_ | refine vc (AX) ?_ | refine vc (AY) ?_ | refine vc (GC) ?_) | (apply vZ; first | refine vs ?_))); refine W_e ?_) | (apply ZK; first | refine Z4 ?_ | refine Z5 ?_) | refine Z6 ?_ | refine Z7 ?_ | refine Z8 ?_ | refine Z9 ?_ | refine ZA ?_ | refine ZB ?_ | refine ZC ?_ | refine ZD ?_ | refine ZE ?_ | refine ZF ?_ | refine ZG ?_ | refine ZH ?_)
      refine C_count N (fun k => k ≤ q) (fun k => ⟨3, 69, [(38, iD k), (37, iD N), (8, iD p), (7, .ptr 1 0), (6, .ptr 0 0), (5, iD 0), (4, .ptr 2 0)], [(0, some ⟨121, 3, 1, [iD x.f, iD x.s, iD x.n]⟩), (1, some ⟨121, 3, 1, [iD y.f, iD y.s, iD y.n]⟩), (2, some ⟨39, 3, 1, [iD 0, iD 0, iD 0]⟩)]⟩) ?_ (Nat.zero_le _) ?_
      · exact Wk.go (fun b => cond (Nat.beq b 0) 3 (cond (Nat.beq b 1) 4 (b)))
      · intro k hk hq
        have hkx : (k : Int) < x.n := by omega
        have A := AT k hkx
        have hi := hin k hkx
        by_cases hlt : k = q
        · subst hlt
          have ht := grid_tmod.1 hq4
          repeat (first | refine Z1 ?_ | refine Z2 ?_ | (refine Z3 ?_; (repeat (first | (apply gS; first | refine go_no ?_ | refine go_f ?_ | refine gm ?_ | refine gp ?_ | refine go_c rfl rfl (A) ?_ | refine go_c rfl rfl (MT) ?_ | refine go_c rfl rfl (DN) ?_) | (apply gZ; first | refine go_f ?_ | refine gm ?_))); refine T_nil ?_) | (apply ZR; refine C_dr mixed ?_; (repeat (first | (apply vS; first | refine vn ?_ | refine va ?_ | refine vp ?_ | refine vr ?_ | refine vt ?_ | refine vc (A) ?_ | refine vc (MT) ?_ | refine vc (DN) ?_) | (apply vZ; first | refine vs ?_))); refine W_e ?_) | (apply ZK; first | refine Z4 ?_ | refine Z5 ?_) | refine Z6 ?_ | refine Z7 ?_ | refine Z8 ?_ | refine Z9 ?_ | refine ZA ?_ | refine ZB ?_ | refine ZC ?_ | refine ZD ?_ | refine ZE ?_ | refine ZF ?_ | refine ZG ?_ | refine ZH ?_)
          repeat (first | refine kEnd_m ?_ | refine kEnd_f ?_)
          refine kEnd_g ?_ (by first | exact .inl rfl | exact .inr rfl)
          exact Sub.eq rfl rfl
        · have ht : ¬ (atOf x k - y.f).tmod y.s = 0 := fun h => hmin k (by omega) ⟨by omega, hkx, hq3, grid_tmod.2 h⟩
          repeat (first | refine Z1 ?_ | refine Z2 ?_ | (refine Z3 ?_; (repeat (first | (apply gS; first | refine go_no ?_ | refine go_f ?_ | refine gm ?_ | refine gp ?_ | refine go_c rfl rfl (A) ?_) | (apply gZ; first | refine go_f ?_ | refine gm ?_))); refine T_nil ?_) | (apply ZR; refine C_dr mixed ?_; (repeat (first | (apply vS; first | refine vn ?_ | refine va ?_ | refine vp ?_ | refine vr ?_ | refine vt ?_ | refine vc (A) ?_) | (apply vZ; first | refine vs ?_))); refine W_e ?_) | (apply ZK; first | refine Z4 ?_ | refine Z5 ?_) | refine Z6 ?_ | refine Z7 ?_ | refine Z8 ?_ | refine Z9 ?_ | refine ZA ?_ | refine ZB ?_ | refine ZC ?_ | refine ZD ?_ | refine ZE ?_ | refine ZF ?_ | refine ZG ?_ | refine ZH ?_)
          refine kLoop_n ⟨by omega, by omega, ?_⟩
          exact Wk.go (fun b => b)
  · have hno : ∀ k : Nat, k < p → (k : Int) < x.n → y.n = 0 ∨ ¬ onGrid x y k := fun k h1 h2 => by
      by_cases h3 : y.n = 0
      · exact .inl h3
      · exact .inr fun h4 => hex ⟨k, h1, h2, h3, h4⟩
    refine ⟨_, _, hmn hno, ?_⟩
    have DN := sDone_d ⟨0, 1, 0⟩ ⟨by decide, by decide, by decide, by decide, by decide, by decide⟩ (by decide)
    rw [(done_none 0 1).1, (done_none 0 1).2] at DN
    clear hms hmn hmt
    obtain ⟨N, hN⟩ : ∃ N : Nat, (N : Int) = if (p : Int) ≤ x.n then (p : Int) else x.n := ⟨(if (p : Int) ≤ x.n then (p : Int) else x.n).toNat, by split <;> omega⟩
    by_cases hpn : (p : Int) ≤ x.n
    all_goals first | rw [if_pos hpn] at hN | rw [if_neg hpn] at hN
    all_goals
      refine DC.of Try.func107 Try.ntmps107 Try.results107 rfl (by decide +kernel) rfl ?_
      repeat (first | refine Z1 ?_ | refine Z2 ?_ | (refine Z3 ?_; (repeat (first | (apply gS; first | refine go_no ?_ | refine go_f ?_ | refine gm ?_ | refine gp ?_ | refine go_c rfl rfl (V) ?_ | refine go_c rfl rfl (U) ?_ | refine go_c rfl rfl (X) ?_ | refine go_c rfl rfl (Y) ?_ | refine go_c rfl rfl (AX) ?_ | refine go_c rfl rfl (AY) ?_ | refine go_c rfl rfl (GC) ?_) | (apply gZ; first | refine go_f ?_ | refine gm ?_))); refine T_nil ?_) | (apply ZR; refine C_dr mixed ?_; (repeat (first | (apply vS; first | refine vn ?_ | refine va ?_ | refine vp ?_ | refine vr ?_ | refine vt ?_ | refine vc (V) ?_ | refine vc (U) ?_ | refine vc (X) ?_ | refine vc (Y) ?_ | refine vc (AX) ?_ | refine vc (AY) ?_ | refine vc (GC) ?_) | (apply vZ; first | refine vs ?_))); refine W_e ?_) | (apply ZK; first | refine Z4 ?_ | refine Z5 ?_) | refine Z6 ?_ | refine Z7 ?_ | refine Z8 ?_ | refine Z9 ?_ | refine ZA ?_ | refine ZB ?_ | refine ZC ?_ | refine ZD ?_ | refine ZE ?_ | refine ZF ?_ | refine ZG ?_ | refine ZH ?_)
      refine C_count N (fun k => True) (fun k => ⟨3, 69, [(38, iD k), (37, iD N), (8, iD p), (7, .ptr 1 0), (6, .ptr 0 0), (5, iD 0), (4, .ptr 2 0)], [(0, some ⟨121, 3, 1, [iD x.f, iD x.s, iD x.n]⟩), (1, some ⟨121, 3, 1, [iD y.f, iD y.s, iD y.n]⟩), (2, some ⟨39, 3, 1, [iD 0, iD 0, iD 0]⟩)]⟩) ?_ trivial ?_
      · exact Wk.go (fun b => cond (Nat.beq b 0) 3 (cond (Nat.beq b 1) 4 (b)))
      · intro k hk _
        by_cases hlt : k < N
        · have hkx : (k : Int) < x.n := by omega
          have A := AT k hkx
          have hi := hin k hkx
          by_cases h0 : y.n = 0
          · repeat (first | refine Z1 ?_ | refine Z2 ?_ | (refine Z3 ?_; (repeat (first | (apply gS; first | refine go_no ?_ | refine go_f ?_ | refine gm ?_ | refine gp ?_ | refine go_c rfl rfl (A) ?_) | (apply gZ; first | refine go_f ?_ | refine gm ?_))); refine T_nil ?_) | (apply ZR; refine C_dr mixed ?_; (repeat (first | (apply vS; first | refine vn ?_ | refine va ?_ | refine vp ?_ | refine vr ?_ | refine vt ?_ | refine vc (A) ?_) | (apply vZ; first | refine vs ?_))); refine W_e ?_) | (apply ZK; first | refine Z4 ?_ | refine Z5 ?_) | refine Z6 ?_ | refine Z7 ?_ | refine Z8 ?_ | refine Z9 ?_ | refine ZA ?_ | refine ZB ?_ | refine ZC ?_ | refine ZD ?_ | refine ZE ?_ | refine ZF ?_ | refine ZG ?_ | refine ZH ?_)
            refine kLoop_n ⟨by omega, trivial, ?_⟩
            exact Wk.go (fun b => b)
          · have ht : ¬ (atOf x k - y.f).tmod y.s = 0 := fun h => ((hno k (by omega) hkx).elim h0 fun h5 => h5 (grid_tmod.2 h))
            repeat (first | refine Z1 ?_ | refine Z2 ?_ | (refine Z3 ?_; (repeat (first | (apply gS; first | refine go_no ?_ | refine go_f ?_ | refine gm ?_ | refine gp ?_ | refine go_c rfl rfl (A) ?_) | (apply gZ; first | refine go_f ?_ | refine gm ?_))); refine T_nil ?_) | (apply ZR; refine C_dr mixed ?_; (repeat (first | (apply vS; first | refine vn ?_ | refine va ?_ | refine vp ?_ | refine vr ?_ | refine vt ?_ | refine vc (A) ?_) | (apply vZ; first | refine vs ?_))); refine W_e ?_) | (apply ZK; first | refine Z4 ?_ | refine Z5 ?_) | refine Z6 ?_ | refine Z7 ?_ | refine Z8 ?_ | refine Z9 ?_ | refine ZA ?_ | refine ZB ?_ | refine ZC ?_ | refine ZD ?_ | refine ZE ?_ | refine ZF ?_ | refine ZG ?_ | refine ZH ?_)
            refine kLoop_n ⟨by omega, trivial, ?_⟩
            exact Wk.go (fun b => b)
        · repeat (first | refine Z1 ?_ | refine Z2 ?_ | (refine Z3 ?_; (repeat (first | (apply gS; first | refine go_no ?_ | refine go_f ?_ | refine gm ?_ | refine gp ?_ | refine go_c rfl rfl (DN) ?_) | (apply gZ; first | refine go_f ?_ | refine gm ?_))); refine T_nil ?_) | (apply ZR; refine C_dr mixed ?_; (repeat (first | (apply vS; first | refine vn ?_ | refine va ?_ | refine vp ?_ | refine vr ?_ | refine vt ?_ | refine vc (DN) ?_) | (apply vZ; first | refine vs ?_))); refine W_e ?_) | (apply ZK; first | refine Z4 ?_ | refine Z5 ?_) | refine Z6 ?_ | refine Z7 ?_ | refine Z8 ?_ | refine Z9 ?_ | refine ZA ?_ | refine ZB ?_ | refine ZC ?_ | refine ZD ?_ | refine ZE ?_ | refine ZF ?_ | refine ZG ?_ | refine ZH ?_)
          repeat (first | refine kEnd_m ?_ | refine kEnd_f ?_)
          refine kEnd_g ?_ (by first | exact .inl rfl | exact .inr rfl)
          exact Sub.eq rfl rfl
end Go.Proofs.Ytifapodobhkdcaa
namespace Go.Proofs.Ytifapodobhkdcaa
open Go.RowKit
set_option linter.unusedVariables false
set_option maxHeartbeats 16000000
set_option linter.unusedSimpArgs false
set_option maxRecDepth 100000
def sameB (r s : Rg) : Bool := vB r && vB s && decide ((canonOf (rowOf r)).lo = (canonOf (rowOf s)).lo ∧ (canonOf (rowOf r)).hi = (canonOf (rowOf s)).hi ∧ (canonOf (rowOf r)).st = (canonOf (rowOf s)).st)
theorem same_eq {r s : Rg} (hr : vB r = true) (hs : vB s = true) : sameB r s = decide ((canonOf (rowOf r)).lo = (canonOf (rowOf s)).lo ∧ (canonOf (rowOf r)).hi = (canonOf (rowOf s)).hi ∧ (canonOf (rowOf r)).st = (canonOf (rowOf s)).st) := by
  rw [sameB, hr, hs, Bool.true_and, Bool.true_and]
set_option maxHeartbeats 8000000 in
theorem sWithin_d (r s : Rg) : DC Try.prog 120 [rD r, rD s] (.tup [bD (withinRes r s).1, iD (withinRes r s).2]) := by
  have V := sValid_r r (b := vB r) rfl
  have U := sValid_r s (b := vB s) rfl
  cases hr : vB r with
  | false =>
    rw [hr] at V
    rw [within_bad (fun h => by rw [hr] at h; exact absurd h.1 (by decide))]
    refine DC.of Try.func120 Try.ntmps120 Try.results120 rfl (by decide +kernel) rfl ?_
    repeat (first | refine Z1 ?_ | refine Z2 ?_ | (refine Z3 ?_; (repeat (first | (apply gS; first | refine go_no ?_ | refine go_f ?_ | refine gm ?_ | refine gp ?_ | refine go_c rfl rfl (V) ?_ | refine go_c rfl rfl (U) ?_) | (apply gZ; first | refine go_f ?_ | refine gm ?_))); refine T_nil ?_) | (apply ZR; refine C_dr mixed ?_; (repeat (first | (apply vS; first | refine vn ?_ | refine va ?_ | refine vp ?_ | refine vr ?_ | refine vt ?_ | refine vc (V) ?_ | refine vc (U) ?_) | (apply vZ; first | refine vs ?_))); refine W_e ?_) | (apply ZK; first | refine Z4 ?_ | refine Z5 ?_) | refine Z6 ?_ | refine Z7 ?_ | refine ZF ?_)
    repeat (first | refine kEnd_m ?_ | refine kEnd_f ?_)
    refine kEnd_g ?_ (by first | exact .inl rfl | exact .inr rfl)
    exact Sub.eq rfl rfl
  | true =>
    rw [hr] at V
    cases hs : vB s with
    | false =>
      rw [hs] at U
      rw [within_bad (fun h => by rw [hs] at h; exact absurd h.2 (by decide))]
      refine DC.of Try.func120 Try.ntmps120 Try.results120 rfl (by decide +kernel) rfl ?_
      repeat (first | refine Z1 ?_ | refine Z2 ?_ | (refine Z3 ?_; (repeat (first | (apply gS; first | refine go_no ?_ | refine go_f ?_ | refine gm ?_ | refine gp ?_ | refine go_c rfl rfl (V) ?_ | refine go_c rfl rfl (U) ?_) | (apply gZ; first | refine go_f ?_ | refine gm ?_))); refine T_nil ?_) | (apply ZR; refine C_dr mixed ?_; (repeat (first | (apply vS; first | refine vn ?_ | refine va ?_ | refine vp ?_ | refine vr ?_ | refine vt ?_ | refine vc (V) ?_ | refine vc (U) ?_) | (apply vZ; first | refine vs ?_))); refine W_e ?_) | (apply ZK; first | refine Z4 ?_ | refine Z5 ?_) | refine Z6 ?_ | refine Z7 ?_ | refine ZF ?_)
      repeat (first | refine kEnd_m ?_ | refine kEnd_f ?_)
      refine kEnd_g ?_ (by first | exact .inl rfl | exact .inr rfl)
      exact Sub.eq rfl rfl
    | true =>
      rw [hs] at U
      have hrk := vB_okS hr
      have hsk := vB_okS hs
      have X := rowOf_r r hrk
      have Y := rowOf_r s hsk
      have tx := row_tame hrk
      have ty := row_tame hsk
      obtain ⟨x1, x2, x3, x4, x5, x6, x7, x8⟩ := id tx
      obtain ⟨y1, y2, y3, y4, y5, y6, y7, y8⟩ := id ty
      have L := sLast_d (rowOf r) (tame_small tx)
      by_cases h0 : (rowOf r).n = 0
      · rw [within_yes hr hs (fun i hi => absurd hi (by omega))]
        refine DC.of Try.func120 Try.ntmps120 Try.results120 rfl (by decide +kernel) rfl ?_
        repeat (first | refine Z1 ?_ | refine Z2 ?_ | (refine Z3 ?_; (repeat (first | (apply gS; first | refine go_no ?_ | refine go_f ?_ | refine gm ?_ | refine gp ?_ | refine go_c rfl rfl (V) ?_ | refine go_c rfl rfl (U) ?_ | refine go_c rfl rfl (X) ?_ | refine go_c rfl rfl (Y) ?_) | (apply gZ; first | refine go_f ?_ | refine gm ?_))); refine T_nil ?_) | (apply ZR; refine C_dr mixed ?_; (repeat (first | (apply vS; first | refine vn ?_ | refine va ?_ | refine vp ?_ | refine vr ?_ | refine vt ?_ | refine vc (V) ?_ | refine vc (U) ?_ | refine vc (X) ?_ | refine vc (Y) ?_) | (apply vZ; first | refine vs ?_))); refine W_e ?_) | (apply ZK; first | refine Z4 ?_ | refine Z5 ?_) | refine Z6 ?_ | refine Z7 ?_ | refine ZF ?_)
        repeat (first | refine kEnd_m ?_ | refine kEnd_f ?_)
        refine kEnd_g ?_ (by first | exact .inl rfl | exact .inr rfl)
        exact Sub.eq rfl rfl
      · have hl := x8 h0
        have hw := within_iff hrk hsk (show 1 ≤ (rowOf r).n by omega)
        have P1 := placeRow_d (rowOf s) (rowOf r).f (tame_small ty) y5 (by omega) (by omega)
        have P2 := placeRow_d (rowOf s) (lastOf (rowOf r)) (tame_small ty) y5 (by omega) (by omega)
        rw [memb_place hsk, memb_place hsk, Int.dvd_iff_tmod_eq_zero] at hw
        cases b1 : placeB (rowOf s) (rowOf r).f <;> cases b2 : placeB (rowOf s) (lastOf (rowOf r)) <;> rw [b1, b2] at hw <;> rw [b1] at P1 <;> rw [b2] at P2
        · rw [within_no hr hs (fun h => by have := hw.1 h; exact absurd this.1 (by decide))]
          clear hw
          refine DC.of Try.func120 Try.ntmps120 Try.results120 rfl (by decide +kernel) rfl ?_
          repeat (first | refine Z1 ?_ | refine Z2 ?_ | (refine Z3 ?_; (repeat (first | (apply gS; first | refine go_no ?_ | refine go_f ?_ | refine gm ?_ | refine gp ?_ | refine go_c rfl rfl (V) ?_ | refine go_c rfl rfl (U) ?_ | refine go_c rfl rfl (X) ?_ | refine go_c rfl rfl (Y) ?_ | refine go_c rfl rfl (P1) ?_ | refine go_c rfl rfl (P2) ?_ | refine go_c rfl rfl (L) ?_) | (apply gZ; first | refine go_f ?_ | refine gm ?_))); refine T_nil ?_) | (apply ZR; refine C_dr mixed ?_; (repeat (first | (apply vS; first | refine vn ?_ | refine va ?_ | refine vp ?_ | refine vr ?_ | refine vt ?_ | refine vc (V) ?_ | refine vc (U) ?_ | refine vc (X) ?_ | refine vc (Y) ?_ | refine vc (P1) ?_ | refine vc (P2) ?_ | refine vc (L) ?_) | (apply vZ; first | refine vs ?_))); refine W_e ?_) | (apply ZK; first | refine Z4 ?_ | refine Z5 ?_) | refine Z6 ?_ | refine Z7 ?_ | refine ZF ?_)
          repeat (first | refine kEnd_m ?_ | refine kEnd_f ?_)
          refine kEnd_g ?_ (by first | exact .inl rfl | exact .inr rfl)
          exact Sub.eq rfl rfl
        · rw [within_no hr hs (fun h => by have := hw.1 h; exact absurd this.1 (by decide))]
          clear hw
          refine DC.of Try.func120 Try.ntmps120 Try.results120 rfl (by decide +kernel) rfl ?_
          repeat (first | refine Z1 ?_ | refine Z2 ?_ | (refine Z3 ?_; (repeat (first | (apply gS; first | refine go_no ?_ | refine go_f ?_ | refine gm ?_ | refine gp ?_ | refine go_c rfl rfl (V) ?_ | refine go_c rfl rfl (U) ?_ | refine go_c rfl rfl (X) ?_ | refine go_c rfl rfl (Y) ?_ | refine go_c rfl rfl (P1) ?_ | refine go_c rfl rfl (P2) ?_ | refine go_c rfl rfl (L) ?_) | (apply gZ; first | refine go_f ?_ | refine gm ?_))); refine T_nil ?_) | (apply ZR; refine C_dr mixed ?_; (repeat (first | (apply vS; first | refine vn ?_ | refine va ?_ | refine vp ?_ | refine vr ?_ | refine vt ?_ | refine vc (V) ?_ | refine vc (U) ?_ | refine vc (X) ?_ | refine vc (Y) ?_ | refine vc (P1) ?_ | refine vc (P2) ?_ | refine vc (L) ?_) | (apply vZ; first | refine vs ?_))); refine W_e ?_) | (apply ZK; first | refine Z4 ?_ | refine Z5 ?_) | refine Z6 ?_ | refine Z7 ?_ | refine ZF ?_)
          repeat (first | refine kEnd_m ?_ | refine kEnd_f ?_)
          refine kEnd_g ?_ (by first | exact .inl rfl | exact .inr rfl)
          exact Sub.eq rfl rfl
        · rw [within_no hr hs (fun h => by have := hw.1 h; exact absurd this.2.1 (by decide))]
          clear hw
          refine DC.of Try.func120 Try.ntmps120 Try.results120 rfl (by decide +kernel) rfl ?_
          repeat (first | refine Z1 ?_ | refine Z2 ?_ | (refine Z3 ?_; (repeat (first | (apply gS; first | refine go_no ?_ | refine go_f ?_ | refine gm ?_ | refine gp ?_ | refine go_c rfl rfl (V) ?_ | refine go_c rfl rfl (U) ?_ | refine go_c rfl rfl (X) ?_ | refine go_c rfl rfl (Y) ?_ | refine go_c rfl rfl (P1) ?_ | refine go_c rfl rfl (P2) ?_ | refine go_c rfl rfl (L) ?_) | (apply gZ; first | refine go_f ?_ | refine gm ?_))); refine T_nil ?_) | (apply ZR; refine C_dr mixed ?_; (repeat (first | (apply vS; first | refine vn ?_ | refine va ?_ | refine vp ?_ | refine vr ?_ | refine vt ?_ | refine vc (V) ?_ | refine vc (U) ?_ | refine vc (X) ?_ | refine vc (Y) ?_ | refine vc (P1) ?_ | refine vc (P2) ?_ | refine vc (L) ?_) | (apply vZ; first | refine vs ?_))); refine W_e ?_) | (apply ZK; first | refine Z4 ?_ | refine Z5 ?_) | refine Z6 ?_ | refine Z7 ?_ | refine ZF ?_)
          repeat (first | refine kEnd_m ?_ | refine kEnd_f ?_)
          refine kEnd_g ?_ (by first | exact .inl rfl | exact .inr rfl)
          exact Sub.eq rfl rfl
        · by_cases h1 : (rowOf r).n = 1
          · rw [within_yes hr hs (hw.2 ⟨rfl, rfl, .inl h1⟩)]
            clear hw
            refine DC.of Try.func120 Try.ntmps120 Try.results120 rfl (by decide +kernel) rfl ?_
            repeat (first | refine Z1 ?_ | refine Z2 ?_ | (refine Z3 ?_; (repeat (first | (apply gS; first | refine go_no ?_ | refine go_f ?_ | refine gm ?_ | refine gp ?_ | refine go_c rfl rfl (V) ?_ | refine go_c rfl rfl (U) ?_ | refine go_c rfl rfl (X) ?_ | refine go_c rfl rfl (Y) ?_ | refine go_c rfl rfl (P1) ?_ | refine go_c rfl rfl (P2) ?_ | refine go_c rfl rfl (L) ?_) | (apply gZ; first | refine go_f ?_ | refine gm ?_))); refine T_nil ?_) | (apply ZR; refine C_dr mixed ?_; (repeat (first | (apply vS; first | refine vn ?_ | refine va ?_ | refine vp ?_ | refine vr ?_ | refine vt ?_ | refine vc (V) ?_ | refine vc (U) ?_ | refine vc (X) ?_ | refine vc (Y) ?_ | refine vc (P1) ?_ | refine vc (P2) ?_ | refine vc (L) ?_) | (apply vZ; first | refine vs ?_))); refine W_e ?_) | (apply ZK; first | refine Z4 ?_ | refine Z5 ?_) | refine Z6 ?_ | refine Z7 ?_ | refine ZF ?_)
            repeat (first | refine kEnd_m ?_ | refine kEnd_f ?_)
            refine kEnd_g ?_ (by first | exact .inl rfl | exact .inr rfl)
            exact Sub.eq rfl rfl
          · by_cases h2 : (rowOf r).s.tmod (rowOf s).s = 0
            · rw [within_yes hr hs (hw.2 ⟨rfl, rfl, .inr h2⟩)]
              clear hw
              refine DC.of Try.func120 Try.ntmps120 Try.results120 rfl (by decide +kernel) rfl ?_
              repeat (first | refine Z1 ?_ | refine Z2 ?_ | (refine Z3 ?_; (repeat (first | (apply gS; first | refine go_no ?_ | refine go_f ?_ | refine gm ?_ | refine gp ?_ | refine go_c rfl rfl (V) ?_ | refine go_c rfl rfl (U) ?_ | refine go_c rfl rfl (X) ?_ | refine go_c rfl rfl (Y) ?_ | refine go_c rfl rfl (P1) ?_ | refine go_c rfl rfl (P2) ?_ | refine go_c rfl rfl (L) ?_) | (apply gZ; first | refine go_f ?_ | refine gm ?_))); refine T_nil ?_) | (apply ZR; refine C_dr mixed ?_; (repeat (first | (apply vS; first | refine vn ?_ | refine va ?_ | refine vp ?_ | refine vr ?_ | refine vt ?_ | refine vc (V) ?_ | refine vc (U) ?_ | refine vc (X) ?_ | refine vc (Y) ?_ | refine vc (P1) ?_ | refine vc (P2) ?_ | refine vc (L) ?_) | (apply vZ; first | refine vs ?_))); refine W_e ?_) | (apply ZK; first | refine Z4 ?_ | refine Z5 ?_) | refine Z6 ?_ | refine Z7 ?_ | refine ZF ?_)
              repeat (first | refine kEnd_m ?_ | refine kEnd_f ?_)
              refine kEnd_g ?_ (by first | exact .inl rfl | exact .inr rfl)
              exact Sub.eq rfl rfl
            · rw [within_no hr hs (fun h => (hw.1 h).2.2.elim h1 h2)]
              clear hw
              refine DC.of Try.func120 Try.ntmps120 Try.results120 rfl (by decide +kernel) rfl ?_
              repeat (first | refine Z1 ?_ | refine Z2 ?_ | (refine Z3 ?_; (repeat (first | (apply gS; first | refine go_no ?_ | refine go_f ?_ | refine gm ?_ | refine gp ?_ | refine go_c rfl rfl (V) ?_ | refine go_c rfl rfl (U) ?_ | refine go_c rfl rfl (X) ?_ | refine go_c rfl rfl (Y) ?_ | refine go_c rfl rfl (P1) ?_ | refine go_c rfl rfl (P2) ?_ | refine go_c rfl rfl (L) ?_) | (apply gZ; first | refine go_f ?_ | refine gm ?_))); refine T_nil ?_) | (apply ZR; refine C_dr mixed ?_; (repeat (first | (apply vS; first | refine vn ?_ | refine va ?_ | refine vp ?_ | refine vr ?_ | refine vt ?_ | refine vc (V) ?_ | refine vc (U) ?_ | refine vc (X) ?_ | refine vc (Y) ?_ | refine vc (P1) ?_ | refine vc (P2) ?_ | refine vc (L) ?_) | (apply vZ; first | refine vs ?_))); refine W_e ?_) | (apply ZK; first | refine Z4 ?_ | refine Z5 ?_) | refine Z6 ?_ | refine Z7 ?_ | refine ZF ?_)
              repeat (first | refine kEnd_m ?_ | refine kEnd_f ?_)
              refine kEnd_g ?_ (by first | exact .inl rfl | exact .inr rfl)
              exact Sub.eq rfl rfl
end Go.Proofs.Ytifapodobhkdcaa
