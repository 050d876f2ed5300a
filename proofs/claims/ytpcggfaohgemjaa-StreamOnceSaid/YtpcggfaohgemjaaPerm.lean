/- Plain law: an order of numbers, made by exchanges. -/
import Derived.Test.YtpcggfaohgemjaaInts
namespace Go.Proofs.Ytpcggfaohgemjaa
/-- 0, 1, .. n - 1 -/
def iota (n : Nat) : List Int := (List.range n).map fun j : Nat => (j : Int)
theorem iota_len (n : Nat) : (iota n).length = n := by simp [iota]
theorem iota_succ (n : Nat) : iota (n + 1) = iota n ++ [(n : Int)] := by simp [iota, List.range_succ]
theorem at_iota (n j : Nat) (h : j < n) : at_ (iota n) j = j := by rw [at_eq _ _ (by rw [iota_len]; exact h)]; simp [iota]
theorem iota_ok (n : Nat) (h : n ≤ 4096) : ∀ x ∈ iota n, okI x := by
  intro x hx; simp only [iota, List.mem_map, List.mem_range] at hx; obtain ⟨j, hj, rfl⟩ := hx; unfold okI; omega
/-- the i-th and the k-th exchanged -/
def swapped (l : List Int) (i k : Nat) : List Int := (l.set i (at_ l k)).set k (at_ l i)
theorem swapped_len (l : List Int) (i k : Nat) : (swapped l i k).length = l.length := by simp [swapped]
theorem swapped_ok {l : List Int} {i k : Nat} (hi : i < l.length) (hk : k < l.length) (h : ∀ x ∈ l, okI x) : ∀ x ∈ swapped l i k, okI x := by
  intro x hx
  rcases List.mem_or_eq_of_mem_set hx with h1 | h1
  · rcases List.mem_or_eq_of_mem_set h1 with h2 | h2
    · exact h x h2
    · rw [h2]; exact h _ (at_mem l k hk)
  · rw [h1]; exact h _ (at_mem l i hi)
theorem at_swapped {l : List Int} {i k : Nat} (hi : i < l.length) (hk : k < l.length) (j : Nat) : at_ (swapped l i k) j = at_ l (if j = k then i else if j = i then k else j) := by
  unfold swapped
  rw [at_set _ _ _ _ (by simpa using hk), at_set _ _ _ _ hi]
  split
  · rfl
  · split <;> rfl
/-- each of 0 .. n - 1 once -/
def Once (n : Nat) (l : List Int) : Prop := l.length = n ∧ (∀ j, j < n → 0 ≤ at_ l j ∧ at_ l j < n) ∧ ∀ i j, i < n → j < n → at_ l i = at_ l j → i = j
theorem once_iota (n : Nat) : Once n (iota n) := by
  refine ⟨iota_len n, fun j hj => ?_, fun i j hi hj h => ?_⟩
  · rw [at_iota n j hj]; omega
  · rw [at_iota n i hi, at_iota n j hj] at h; omega
theorem once_swapped {n : Nat} {l : List Int} (h : Once n l) {i k : Nat} (hi : i < n) (hk : k < n) : Once n (swapped l i k) := by
  obtain ⟨hn, hr, hinj⟩ := h
  have e := at_swapped (l := l) (i := i) (k := k) (by omega) (by omega)
  refine ⟨by rw [swapped_len, hn], fun j hj => ?_, fun x y hx hy hxy => ?_⟩
  · rw [e]; apply hr; split
    · exact hi
    · split
      · exact hk
      · exact hj
  · rw [e, e] at hxy
    have := hinj _ _ (by split; exact hi; split; exact hk; exact hx) (by split; exact hi; split; exact hk; exact hy) hxy
    revert this
    (repeat' split) <;> omega
end Go.Proofs.Ytpcggfaohgemjaa
