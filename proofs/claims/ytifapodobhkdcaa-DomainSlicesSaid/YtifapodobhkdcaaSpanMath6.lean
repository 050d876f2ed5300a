/- Plain laws of ranges: what two ranges have in common. -/
import Derived.Test.YtifapodobhkdcaaSpanMath5
namespace Go.Proofs.Ytifapodobhkdcaa
set_option linter.unusedVariables false
/-- x is a member of r -/
def Memb (r : Rg) (x : Int) : Prop := ∃ i : Nat, (i : Int) < (rowOf r).n ∧ atOf (rowOf r) i = x
theorem memb_place {r : Rg} (h : r.ok) (x : Int) : Memb r x ↔ placeB (rowOf r) x = true := by
  constructor
  · rintro ⟨i, hi, rfl⟩
    exact (place_at h (by omega) hi).1
  · intro hp
    obtain ⟨h1, h2, h3⟩ := at_place hp
    exact ⟨(placeI (rowOf r) x).toNat, by omega, by rw [Int.toNat_of_nonneg h1]; exact h3⟩
theorem has_memb {r : Rg} (h : vB r = true) (x : Int) : (hasRes r x = (true, 0) ∧ Memb r x) ∨ (hasRes r x = (false, 0) ∧ ¬ Memb r x) := by
  have hr := vB_ok' h
  rw [memb_place hr]
  by_cases hx : -1000000 ≤ x ∧ x ≤ 1000000
  · by_cases hp : placeB (rowOf r) x = true
    · refine .inl ⟨?_, hp⟩
      rw [hasRes, if_pos h, placeRes, if_pos h, if_pos hx, if_pos hp]; rfl
    · refine .inr ⟨?_, hp⟩
      rw [hasRes, if_pos h, placeRes, if_pos h, if_pos hx, if_neg hp]; rfl
  · refine .inr ⟨?_, ?_⟩
    · rw [hasRes, if_pos h, placeRes, if_pos h, if_neg hx]; rfl
    · rw [← memb_place hr]
      rintro ⟨i, hi, rfl⟩
      exact hx (at_near hr (by omega) hi)
def lowOf (x : Rw) : Int := if x.f ≤ lastOf x then x.f else lastOf x
def highOf (x : Rw) : Int := if x.f ≤ lastOf x then lastOf x else x.f
/-- a member is at a whole distance of the first one and between the ends -/
theorem memb_iff {r : Rg} (h : r.ok) (x : Int) : Memb r x ↔ (rowOf r).n ≠ 0 ∧ (rowOf r).s ∣ (x - (rowOf r).f) ∧ lowOf (rowOf r) ≤ x ∧ x ≤ highOf (rowOf r) := by
  have hs := (rowOf_small h).2
  have hn := (rowOf_n_bd h).1
  unfold Memb lowOf highOf
  generalize rowOf r = y at *
  have el : lastOf y = y.f + (y.n - 1) * y.s := rfl
  constructor
  · rintro ⟨i, hi, rfl⟩
    have e : atOf y i - y.f = i * y.s := by unfold atOf; omega
    refine ⟨by omega, by rw [e]; exact Int.dvd_mul_left _ _, ?_⟩
    by_cases hp : 0 ≤ y.s
    · have e1 := mul_mono (show (0 : Int) ≤ i by omega) hp
      have e2 := mul_mono (show (i : Int) ≤ y.n - 1 by omega) hp
      rw [Int.zero_mul] at e1
      rw [if_pos (by omega), if_pos (by omega)]
      omega
    · have e1 := mul_anti (show (0 : Int) ≤ i by omega) (c := y.s) (by omega)
      have e2 := mul_anti (show (i : Int) ≤ y.n - 1 by omega) (c := y.s) (by omega)
      rw [Int.zero_mul] at e1
      by_cases h0 : y.f ≤ lastOf y
      · rw [if_pos h0, if_pos h0]; omega
      · rw [if_neg h0, if_neg h0]; omega
  · rintro ⟨h0, ⟨q, hq⟩, h1, h2⟩
    rw [Int.mul_comm] at hq
    have q0 : 0 ≤ q ∧ q ≤ y.n - 1 := by
      by_cases hp : 0 < y.s
      · have hl : y.f ≤ lastOf y := by
          have := mul_mono (show (0 : Int) ≤ y.n - 1 by omega) (c := y.s) (by omega)
          rw [Int.zero_mul] at this; omega
        rw [if_pos hl] at h1 h2
        constructor
        · apply Classical.byContradiction
          intro hc
          have := mul_mono (show q ≤ -1 by omega) (c := y.s) (by omega)
          omega
        · apply Classical.byContradiction
          intro hc
          have := mul_mono (show y.n ≤ q by omega) (c := y.s) (by omega)
          rw [Int.sub_mul] at el
          omega
      · have hl : lastOf y ≤ y.f := by
          have := mul_anti (show (0 : Int) ≤ y.n - 1 by omega) (c := y.s) (by omega)
          rw [Int.zero_mul] at this; omega
        have h1' : lastOf y ≤ x := by
          by_cases hc : y.f ≤ lastOf y
          · rw [if_pos hc] at h1; omega
          · rw [if_neg hc] at h1; exact h1
        have h2' : x ≤ y.f := by
          by_cases hc : y.f ≤ lastOf y
          · rw [if_pos hc] at h2; omega
          · rw [if_neg hc] at h2; exact h2
        constructor
        · apply Classical.byContradiction
          intro hc
          have := mul_anti (show q ≤ -1 by omega) (c := y.s) (by omega)
          omega
        · apply Classical.byContradiction
          intro hc
          have := mul_anti (show y.n ≤ q by omega) (c := y.s) (by omega)
          rw [Int.sub_mul] at el
          omega
    refine ⟨q.toNat, by omega, ?_⟩
    rw [Int.toNat_of_nonneg q0.1]
    unfold atOf; omega
/-- the period: at which distance the members of r that are at a whole distance of s stand -/
def perOf (s t : Int) : Nat := t.natAbs / Nat.gcd s.natAbs t.natAbs
theorem per_pos {s t : Int} (ht : t ≠ 0) : 1 ≤ perOf s t ∧ perOf s t ≤ t.natAbs := by
  unfold perOf
  have h1 : 0 < t.natAbs := by omega
  have h2 := Nat.gcd_dvd_right s.natAbs t.natAbs
  have h3 : 0 < Nat.gcd s.natAbs t.natAbs := Nat.gcd_pos_of_pos_right _ h1
  exact ⟨Nat.div_pos (Nat.le_of_dvd h1 h2) h3, Nat.div_le_self _ _⟩
theorem per_dvd {s t : Int} (ht : t ≠ 0) (d : Int) : t ∣ d * s ↔ (perOf s t : Int) ∣ d := by
  rw [← Int.natAbs_dvd_natAbs, ← Int.natAbs_dvd_natAbs, Int.natAbs_mul, Int.natAbs_natCast]
  unfold perOf
  generalize d.natAbs = d
  have h1 : 0 < t.natAbs := by omega
  generalize t.natAbs = b at *
  generalize s.natAbs = a
  have hg : 0 < Nat.gcd a b := Nat.gcd_pos_of_pos_right _ h1
  obtain ⟨a', ha⟩ := Nat.gcd_dvd_left a b
  obtain ⟨b', hb⟩ := Nat.gcd_dvd_right a b
  have hc := Nat.coprime_div_gcd_div_gcd hg
  have ea : a / Nat.gcd a b = a' := by
    conv => lhs; arg 1; rw [ha]
    exact Nat.mul_div_cancel_left _ hg
  have eb : b / Nat.gcd a b = b' := by
    conv => lhs; arg 1; rw [hb]
    exact Nat.mul_div_cancel_left _ hg
  rw [ea, eb] at hc
  rw [eb]
  generalize Nat.gcd a b = g at *
  subst ha hb
  constructor
  · intro h
    have h' : g * b' ∣ g * (d * a') := by rw [show g * (d * a') = d * (g * a') by rw [← Nat.mul_assoc, Nat.mul_comm g d, Nat.mul_assoc]]; exact h
    have := Nat.dvd_of_mul_dvd_mul_left hg h'
    exact hc.symm.dvd_of_dvd_mul_right this
  · rintro ⟨c, rfl⟩
    exact ⟨c * a', by rw [Nat.mul_assoc b' c, show g * b' * (c * a') = b' * (g * (c * a')) by rw [Nat.mul_comm g b', Nat.mul_assoc], ← Nat.mul_assoc g c a', Nat.mul_comm g c, Nat.mul_assoc c g a']⟩
/-- the i-th member of x is at a whole distance of y -/
def onGrid (x y : Rw) (i : Int) : Prop := y.s ∣ (atOf x i - y.f)
theorem grid_per {x y : Rw} (hy : y.s ≠ 0) {i j : Int} (hi : onGrid x y i) : onGrid x y j ↔ (perOf x.s y.s : Int) ∣ (j - i) := by
  rw [← per_dvd hy]
  unfold onGrid at *
  have e : atOf x j - y.f = (atOf x i - y.f) + (j - i) * x.s := by unfold atOf; rw [Int.sub_mul]; omega
  rw [e]
  exact (Int.dvd_add_right hi)
/-- how many steps until a distance is overcome -/
def ceilK (x step : Int) : Int := if (x + step - 1).tdiv step ≤ 0 then 0 else (x + step - 1).tdiv step
theorem ceilK_nn (x step : Int) : 0 ≤ ceilK x step := by unfold ceilK; split <;> omega
theorem ceilK_iff {x step : Int} (hs : 0 < step) {j : Int} (hj : 0 ≤ j) : ceilK x step ≤ j ↔ x ≤ j * step := by
  have hm := Int.mul_tdiv_add_tmod (x + step - 1) step
  unfold ceilK
  by_cases h0 : 0 ≤ x + step - 1
  · have h1 := Int.tmod_nonneg step h0
    have h2 := Int.tmod_lt_of_pos (x + step - 1) hs
    have hq : 0 ≤ (x + step - 1).tdiv step := Int.tdiv_nonneg h0 (by omega)
    generalize (x + step - 1).tdiv step = q at *
    rw [Int.mul_comm] at hm
    have e : (if q ≤ 0 then 0 else q) = q := by split <;> omega
    rw [e]
    constructor
    · intro h
      have := mul_mono h (c := step) (by omega)
      omega
    · intro h
      apply Classical.byContradiction
      intro hc
      have := mul_mono (show j + 1 ≤ q by omega) (c := step) (by omega)
      rw [Int.add_mul] at this
      omega
  · have hq : (x + step - 1).tdiv step ≤ 0 := by
      have := Int.tdiv_nonneg (a := -(x + step - 1)) (b := step) (by omega) (by omega)
      rw [Int.neg_tdiv] at this
      omega
    rw [if_pos hq]
    have := mul_mono hj (c := step) (by omega)
    rw [Int.zero_mul] at this
    omega
end Go.Proofs.Ytifapodobhkdcaa
