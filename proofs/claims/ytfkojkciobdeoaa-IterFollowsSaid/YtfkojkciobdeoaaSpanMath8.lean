/- Plain laws of ranges: Within, Same, the reference's Meet. -/
import Derived.Test.YtfkojkciobdeoaaSpanMath7
namespace Go.Proofs.Ytfkojkciobdeoaa
set_option linter.unusedVariables false
def withinB (r s : Rg) : Bool := decide ((rowOf r).n = 0 ∨ (placeB (rowOf s) (rowOf r).f = true ∧ placeB (rowOf s) (lastOf (rowOf r)) = true ∧ ((rowOf r).n = 1 ∨ (rowOf r).s.tmod (rowOf s).s = 0)))
def withinRes (r s : Rg) : Bool × Int := if vB r = true ∧ vB s = true then (withinB r s, 0) else (false, 30)
theorem within_bad {r s : Rg} (h : ¬ (vB r = true ∧ vB s = true)) : withinRes r s = (false, 30) := if_neg h
theorem at_mid {x : Rw} {i : Int} (h0 : 0 ≤ i) (h1 : i < x.n) : lowOf x ≤ atOf x i ∧ atOf x i ≤ highOf x := by
  unfold lowOf highOf lastOf atOf
  by_cases hs : 0 ≤ x.s
  · have a := mul_mono (show i ≤ x.n - 1 by omega) hs
    have b := Int.mul_nonneg h0 hs
    split <;> omega
  · have a := mul_anti (show i ≤ x.n - 1 by omega) (show x.s ≤ 0 by omega)
    have b := mul_anti h0 (show x.s ≤ 0 by omega)
    rw [Int.zero_mul] at b
    split <;> omega
/-- the program's test -/
theorem within_iff {r s : Rg} (hr : r.ok) (hs : s.ok) (h1 : 1 ≤ (rowOf r).n) : (∀ i : Nat, (i : Int) < (rowOf r).n → Memb s (atOf (rowOf r) i)) ↔ Memb s (rowOf r).f ∧ Memb s (lastOf (rowOf r)) ∧ ((rowOf r).n = 1 ∨ (rowOf s).s ∣ (rowOf r).s) := by
  have e0 : atOf (rowOf r) ((0 : Nat) : Int) = (rowOf r).f := by simp [atOf]
  constructor
  · intro h
    refine ⟨e0 ▸ h 0 (by omega), ?_, ?_⟩
    · have := h ((rowOf r).n - 1).toNat (by omega)
      rw [show (((rowOf r).n - 1).toNat : Int) = (rowOf r).n - 1 by omega] at this
      exact this
    · by_cases hn : (rowOf r).n = 1
      · exact .inl hn
      · refine .inr ?_
        have a := ((memb_iff hs _).1 (h 0 (by omega))).2.1
        have b := ((memb_iff hs _).1 (h 1 (by omega))).2.1
        have c := Int.dvd_sub b a
        have : atOf (rowOf r) ((1 : Nat) : Int) - (rowOf s).f - (atOf (rowOf r) ((0 : Nat) : Int) - (rowOf s).f) = (rowOf r).s := by simp only [atOf, Int.natCast_one, Int.natCast_zero, Int.one_mul, Int.zero_mul]; omega
        rwa [this] at c
  · rintro ⟨h2, h3, h4⟩ i hi
    obtain ⟨f1, f2, f3, f4⟩ := (memb_iff hs _).1 h2
    obtain ⟨l1, l2, l3, l4⟩ := (memb_iff hs _).1 h3
    obtain ⟨m1, m2⟩ := at_mid (x := rowOf r) (i := i) (by omega) hi
    have m3 : lowOf (rowOf s) ≤ lowOf (rowOf r) ∧ highOf (rowOf r) ≤ highOf (rowOf s) := by
      generalize lowOf (rowOf s) = a at *
      generalize highOf (rowOf s) = b at *
      unfold lowOf highOf
      split <;> omega
    refine (memb_iff hs _).2 ⟨f1, ?_, by omega, by omega⟩
    have : atOf (rowOf r) i - (rowOf s).f = ((rowOf r).f - (rowOf s).f) + (i : Int) * (rowOf r).s := by simp only [atOf]; omega
    rw [this]
    refine Int.dvd_add f2 ?_
    rcases h4 with h4 | h4
    · have : i = 0 := by omega
      subst this; simp
    · exact Int.dvd_trans h4 ⟨(i : Int), by rw [Int.mul_comm]⟩
theorem withinB_iff {r s : Rg} (hr : r.ok) (hs : s.ok) : withinB r s = true ↔ ∀ i : Nat, (i : Int) < (rowOf r).n → Memb s (atOf (rowOf r) i) := by
  unfold withinB
  rw [decide_eq_true_iff]
  by_cases h0 : (rowOf r).n = 0
  · exact ⟨fun _ i hi => absurd hi (by omega), fun _ => .inl h0⟩
  · have := (rowOf_n_bd hr).1
    rw [within_iff hr hs (by omega), memb_place hs, memb_place hs, Int.dvd_iff_tmod_eq_zero]
    exact ⟨fun h => h.elim (fun h => absurd h h0) id, .inr⟩
theorem within_yes {r s : Rg} (hr : vB r = true) (hs : vB s = true) (h : ∀ i : Nat, (i : Int) < (rowOf r).n → Memb s (atOf (rowOf r) i)) : withinRes r s = (true, 0) := by
  rw [withinRes, if_pos ⟨hr, hs⟩, (withinB_iff (vB_ok' hr) (vB_ok' hs)).2 h]
theorem within_no {r s : Rg} (hr : vB r = true) (hs : vB s = true) (h : ¬ ∀ i : Nat, (i : Int) < (rowOf r).n → Memb s (atOf (rowOf r) i)) : withinRes r s = (false, 0) := by
  rw [withinRes, if_pos ⟨hr, hs⟩]
  cases hb : withinB r s with
  | false => rfl
  | true => exact absurd ((withinB_iff (vB_ok' hr) (vB_ok' hs)).1 hb) h
theorem meet_first {r s : Rg} {a p k : Nat} (hp : 1 ≤ p) (hk : 1 ≤ k) (h : ∀ i : Nat, (i : Int) < (rowOf r).n → (Memb s (atOf (rowOf r) i) ↔ ∃ j : Nat, j < k ∧ i = a + p * j)) : ∀ i : Nat, (i : Int) < (rowOf r).n → i < a → ¬ Memb s (atOf (rowOf r) i) := fun i hi hlt hm => by
  obtain ⟨j, _, rfl⟩ := (h i hi).1 hm
  exact absurd (Nat.le_add_right a (p * j)) (by omega)
theorem meet_gap {r s : Rg} {a p k : Nat} (hp : 1 ≤ p) (h : ∀ i : Nat, (i : Int) < (rowOf r).n → (Memb s (atOf (rowOf r) i) ↔ ∃ j : Nat, j < k ∧ i = a + p * j)) : ∀ i : Nat, (i : Int) < (rowOf r).n → a < i → i < a + p → ¬ Memb s (atOf (rowOf r) i) := fun i hi h1 h2 hm => by
  obtain ⟨j, _, rfl⟩ := (h i hi).1 hm
  cases j with
  | zero => omega
  | succ j => rw [Nat.mul_succ] at h2; omega
theorem meet_end {r s : Rg} {a p k : Nat} (hk : 1 ≤ k) (h : ∀ i : Nat, (i : Int) < (rowOf r).n → (Memb s (atOf (rowOf r) i) ↔ ∃ j : Nat, j < k ∧ i = a + p * j)) : ∀ i : Nat, (i : Int) < (rowOf r).n → a + p * (k - 1) < i → ¬ Memb s (atOf (rowOf r) i) := fun i hi h1 hm => by
  obtain ⟨j, hj, rfl⟩ := (h i hi).1 hm
  have := Nat.mul_le_mul_left p (show j ≤ k - 1 by omega)
  omega
end Go.Proofs.Ytfkojkciobdeoaa
