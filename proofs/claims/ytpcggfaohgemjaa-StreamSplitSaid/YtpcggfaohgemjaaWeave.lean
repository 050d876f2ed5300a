/- Plain law: a row that is woven of rows at a distance. -/
import Derived.Test.YtpcggfaohgemjaaInts
namespace Go.Proofs.Ytpcggfaohgemjaa
def Weave (f : Nat → Int) (n C k j : Nat) (wl : List Int) : Prop := ∀ p, p < n → (p % C < k ∨ (p % C = k ∧ p / C < j)) → at_ wl p = f p
theorem weave_idx {n C k j : Nat} (hC : 1 ≤ C) (hk : k < n) (hj : j < (n - k + C - 1) / C) : k + j * C < n := by
  have h1 : (j + 1) * C ≤ (n - k + C - 1) / C * C := Nat.mul_le_mul_right _ hj
  have h2 := Nat.div_mul_le_self (n - k + C - 1) C
  rw [Nat.add_mul] at h1
  omega
theorem weave_zero (f : Nat → Int) (n C : Nat) (wl : List Int) : Weave f n C 0 0 wl := fun p _ h => by rcases h with h | ⟨_, h⟩ <;> exact absurd h (Nat.not_lt_zero _)
theorem weave_step {f : Nat → Int} {n C k j : Nat} {wl : List Int} (hp : k + j * C < n) (hn : wl.length = n) (h : Weave f n C k j wl) (y : Int) (hy : y = f (k + j * C)) :
    Weave f n C k (j + 1) (wl.set (k + j * C) y) := by
  intro p hpn hc
  rw [at_set _ _ _ _ (by omega)]
  split
  · rename_i e; rw [e]; exact hy
  · rename_i e
    apply h p hpn
    rcases hc with hc | ⟨h1, h2⟩
    · exact .inl hc
    · right
      refine ⟨h1, ?_⟩
      have := Nat.div_add_mod p C
      rcases Nat.lt_succ_iff_lt_or_eq.1 h2 with h3 | h3
      · exact h3
      · exfalso; apply e; rw [h1, h3, Nat.mul_comm] at this; omega
theorem weave_next {f : Nat → Int} {n C k : Nat} {wl : List Int} (hC : 1 ≤ C) (hk : k < n) (h : Weave f n C k ((n - k + C - 1) / C) wl) : Weave f n C (k + 1) 0 wl := by
  intro p hpn hc
  apply h p hpn
  rcases hc with hc | ⟨_, h2⟩
  · rcases Nat.lt_succ_iff_lt_or_eq.1 hc with h3 | h3
    · exact .inl h3
    · right
      refine ⟨h3, ?_⟩
      have := Nat.div_add_mod p C
      rw [h3, Nat.mul_comm] at this
      exact (Nat.le_div_iff_mul_le (by omega)).2 (by rw [Nat.succ_mul]; omega)
  · exact absurd h2 (Nat.not_lt_zero _)
theorem weave_all {f : Nat → Int} {n C k : Nat} {wl l : List Int} (hC : 1 ≤ C) (hk : C ≤ k ∨ n ≤ k) (hn : wl.length = n) (hl : l.length = n) (hf : ∀ p, p < n → at_ l p = f p) (h : Weave f n C k 0 wl) : wl = l := by
  refine ext_at (by omega) fun p hp => ?_
  rw [hn] at hp
  rw [hf p hp]
  refine h p hp (.inl ?_)
  rcases hk with hk | hk
  · exact Nat.lt_of_lt_of_le (Nat.mod_lt _ (by omega)) hk
  · exact Nat.lt_of_le_of_lt (Nat.mod_le _ _) (by omega)
end Go.Proofs.Ytpcggfaohgemjaa
