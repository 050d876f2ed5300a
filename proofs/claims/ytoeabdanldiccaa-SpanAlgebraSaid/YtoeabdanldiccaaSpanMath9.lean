/- Plain laws of ranges: the algebra of Meet. -/
import Derived.Test.YtoeabdanldiccaaSpanMath8
namespace Go.Proofs.Ytoeabdanldiccaa
set_option linter.unusedVariables false
theorem row_none : (rowOf ⟨1, 0, 1⟩).n = 0 := by decide
theorem norm_n {x : Rw} : (normOf x).n = x.n := by
  unfold normOf
  split
  · simp_all
  · split
    · simp_all
    · rfl
theorem norm_at {x : Rw} {i : Int} (h0 : 0 ≤ i) (h1 : i < x.n) : atOf (normOf x) i = atOf x i := by
  unfold normOf
  split
  · omega
  · split
    · have : i = 0 := by omega
      subst this
      simp [atOf]
    · rfl
theorem prog_ext {a p k n : Nat} (hp : 1 ≤ p) (hk : 1 ≤ k) (hl : a + p * (k - 1) < n) : k ≤ n ∧ (k = n → ∀ i, i < n → ∃ j, j < k ∧ i = a + p * j) ∧ ((∀ i, i < n → ∃ j, j < k ∧ i = a + p * j) → a = 0 ∧ k = n ∧ (2 ≤ n → p = 1)) := by
  have h1 : k - 1 ≤ p * (k - 1) := Nat.le_mul_of_pos_left _ hp
  refine ⟨by omega, fun he i hi => ?_, fun h => ?_⟩
  · by_cases hk1 : k = 1
    · exact ⟨0, by omega, by omega⟩
    · have hp1 : p = 1 := by
        apply Classical.byContradiction
        intro hne
        have := Nat.mul_le_mul_right (k - 1) (show 2 ≤ p by omega)
        omega
      subst hp1
      exact ⟨i, by omega, by omega⟩
  · obtain ⟨j0, _, e0⟩ := h 0 (by omega)
    have ha : a = 0 := by omega
    subst ha
    by_cases hn : 2 ≤ n
    · obtain ⟨j1, _, e1⟩ := h 1 (by omega)
      have hp1 : p = 1 := by
        have : p ∣ 1 := ⟨j1, by omega⟩
        exact Nat.dvd_one.1 this
      subst hp1
      obtain ⟨j2, hj2, e2⟩ := h (n - 1) (by omega)
      exact ⟨rfl, by omega, fun _ => rfl⟩
    · exact ⟨rfl, by omega, fun h => absurd h hn⟩
theorem meet_memb {r s a : Rg} {e : Int} (h : MeetIs r s a e) (hr : vB r = true) (he : e = 0) : vB a = true ∧ (∀ x, Memb a x ↔ Memb r x ∧ Memb s x) ∧ ((rowOf a).n = (rowOf r).n ↔ ∀ i : Nat, (i : Int) < (rowOf r).n → Memb s (atOf (rowOf r) i)) := by
  have hb := rowOf_n_bd (vB_ok' hr)
  cases h with
  | bad h => cases he
  | none hr hs h =>
    refine ⟨by decide, fun x => ⟨fun ⟨i, hi, _⟩ => ?_, fun ⟨⟨i, hi, hx⟩, h2⟩ => ?_⟩, fun hn i hi => ?_, fun hall => ?_⟩
    · rw [row_none] at hi; omega
    · rw [← hx] at h2; exact absurd h2 (h i hi)
    · rw [row_none] at hn; omega
    · rw [row_none]
      apply Classical.byContradiction
      intro hne
      exact h 0 (by omega) (hall 0 (by omega))
  | some hr hs c p k hp hp2 hk hl h =>
    obtain ⟨hv, hd⟩ := done_ok he
    rw [hd]
    have hs0 : (rowOf r).s * (p : Int) ≠ 0 := Int.mul_ne_zero (rowOf_small (vB_ok' hr)).2 (by omega)
    have hrow := row_norm (x := ⟨atOf (rowOf r) (c : Int), (rowOf r).s * (p : Int), (k : Int)⟩) (by simp only; omega) hs0
    have hat : ∀ j : Nat, atOf ⟨atOf (rowOf r) (c : Int), (rowOf r).s * (p : Int), (k : Int)⟩ (j : Int) = atOf (rowOf r) ((c + p * j : Nat) : Int) := fun j => by
      have := out_at (rowOf r) c p j
      simp only [outRow, atOf] at this ⊢
      rw [this, Int.natCast_add, Int.natCast_mul]
    have hjn : ∀ j : Nat, j < k → ((c + p * j : Nat) : Int) < (rowOf r).n := fun j hj => by
      have := Nat.mul_le_mul_left p (show j ≤ k - 1 by omega)
      omega
    have hmem : ∀ x, Memb (canonOf ⟨atOf (rowOf r) (c : Int), (rowOf r).s * (p : Int), (k : Int)⟩) x ↔ ∃ j : Nat, j < k ∧ atOf (rowOf r) ((c + p * j : Nat) : Int) = x := fun x => by
      unfold Memb
      rw [hrow]
      constructor
      · rintro ⟨i, hi, hx⟩
        rw [norm_n] at hi
        simp only at hi
        rw [norm_at (by omega) (by simp only; omega), hat] at hx
        exact ⟨i, by omega, hx⟩
      · rintro ⟨j, hj, hx⟩
        exact ⟨j, by rw [norm_n]; simp only; omega, by rw [norm_at (by omega) (by simp only; omega), hat]; exact hx⟩
    refine ⟨hv, fun x => ?_, ?_⟩
    · rw [hmem]
      constructor
      · rintro ⟨j, hj, hx⟩
        exact ⟨⟨_, hjn j hj, hx⟩, hx ▸ (h _ (hjn j hj)).2 ⟨j, hj, rfl⟩⟩
      · rintro ⟨⟨i, hi, hx⟩, h2⟩
        rw [← hx] at h2
        obtain ⟨j, hj, rfl⟩ := (h i hi).1 h2
        exact ⟨j, hj, hx⟩
    · rw [hrow, norm_n]
      obtain ⟨n, hn⟩ : ∃ n : Nat, (n : Int) = (rowOf r).n := ⟨(rowOf r).n.toNat, by omega⟩
      rw [← hn] at h hl ⊢
      obtain ⟨_, q2, q3⟩ := prog_ext (a := c) (n := n) hp hk (by omega)
      exact ⟨fun he i hi => (h i hi).2 (q2 (by simp only at he; omega) i (by omega)), fun hall => by
        have := (q3 fun i hi => (h i (by omega)).1 (hall i (by omega))).2.1
        simp only; omega⟩
theorem meet_self {r a : Rg} {e : Int} (h : MeetIs r r a e) (hr : vB r = true) : a = canonOf (rowOf r) ∧ e = 0 := by
  have hrk := vB_ok' hr
  have hb := rowOf_n_bd hrk
  have hself : ∀ i : Nat, (i : Int) < (rowOf r).n → Memb r (atOf (rowOf r) i) := fun i hi => ⟨i, hi, rfl⟩
  cases h with
  | bad h => exact absurd ⟨hr, hr⟩ h
  | none _ _ h =>
    have h0 : (rowOf r).n = 0 := by
      apply Classical.byContradiction
      intro hne
      exact h 0 (by omega) (hself 0 (by omega))
    exact ⟨(canonOf_0 h0).symm, rfl⟩
  | some _ _ c p k hp hp2 hk hl h =>
    obtain ⟨n, hn⟩ : ∃ n : Nat, (n : Int) = (rowOf r).n := ⟨(rowOf r).n.toNat, by omega⟩
    have h' : ∀ i : Nat, i < n → ∃ j : Nat, j < k ∧ i = c + p * j := fun i hi => (h i (by omega)).1 (hself i (by omega))
    obtain ⟨_, _, q3⟩ := prog_ext (a := c) (n := n) hp hk (by omega)
    obtain ⟨rfl, rfl, hp1⟩ := q3 h'
    have e0 : atOf (rowOf r) ((0 : Nat) : Int) = (rowOf r).f := by simp [atOf]
    have hd := done_row hrk
    rw [e0]
    by_cases h2 : 2 ≤ k
    · rw [hp1 h2, hn]
      have : (⟨(rowOf r).f, (rowOf r).s * ((1 : Nat) : Int), (rowOf r).n⟩ : Rw) = rowOf r := Rw.ext' rfl (by simp) rfl
      rw [this]; exact hd
    · have hk1 : k = 1 := by omega
      subst hk1
      have hf := done_few (f := (rowOf r).f) (s := (rowOf r).s * (p : Int)) (s' := (rowOf r).s) (n := ((1 : Nat) : Int)) (.inr rfl)
      rw [hf.1, hf.2, hn]
      exact hd
end Go.Proofs.Ytoeabdanldiccaa
