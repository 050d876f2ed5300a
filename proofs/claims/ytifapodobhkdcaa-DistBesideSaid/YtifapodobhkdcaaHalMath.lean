/- Which numbers stand near to those of a place, but are not its own: plain laws of lists. -/
import Derived.Test.YtifapodobhkdcaaDs5
namespace Go.Proofs.Ytifapodobhkdcaa
open Go.RowKit
set_option linter.unusedVariables false
set_option linter.unusedSimpArgs false
set_option maxRecDepth 100000
/-- a number near to one that passes -/
def nearF (f : Nat → Bool) (R h i : Nat) : Bool := (List.range R).any fun j => f j && decide (i ≤ j + h ∧ j ≤ i + h)
def halF (f : Nat → Bool) (R h : Nat) : List Nat := (List.range R).filter fun i => !f i && nearF f R h i
theorem nearF_iff {f : Nat → Bool} {R h i : Nat} : nearF f R h i = true ↔ ∃ j, j < R ∧ f j = true ∧ i ≤ j + h ∧ j ≤ i + h := by
  unfold nearF
  rw [List.any_eq_true]
  constructor
  · rintro ⟨j, hj, e⟩
    rw [Bool.and_eq_true] at e
    exact ⟨j, List.mem_range.1 hj, e.1, of_decide_eq_true e.2⟩
  · rintro ⟨j, hj, e1, e2⟩
    exact ⟨j, List.mem_range.2 hj, by rw [Bool.and_eq_true]; exact ⟨e1, decide_eq_true e2⟩⟩
theorem halF_mem {f : Nat → Bool} {R h i : Nat} : i ∈ halF f R h ↔ i < R ∧ f i = false ∧ ∃ j, j < R ∧ f j = true ∧ i ≤ j + h ∧ j ≤ i + h := by
  unfold halF
  rw [List.mem_filter, List.mem_range, Bool.and_eq_true, nearF_iff, Bool.not_eq_true']
theorem halF_len (f : Nat → Bool) (R h : Nat) : (halF f R h).length ≤ R := by
  unfold halF
  have := List.length_filter_le (fun i => !f i && nearF f R h i) (List.range R)
  rwa [List.length_range] at this
theorem halF_nodup (f : Nat → Bool) (R h : Nat) : (halF f R h).Nodup := List.nodup_range.filter _
/-! ### forth -/
def lastF (f : Nat → Bool) : Nat → Int
  | 0 => -1048576
  | m + 1 => if f m = true then ((m : Nat) : Int) else lastF f m
theorem lastF_bd (f : Nat → Bool) : ∀ m, -1048576 ≤ lastF f m ∧ lastF f m ≤ (m : Int)
  | 0 => ⟨Int.le_refl _, by show (-1048576 : Int) ≤ _; omega⟩
  | m + 1 => by
    have := lastF_bd f m
    unfold lastF
    split <;> omega
theorem lastF_iff {f : Nat → Bool} {h i : Nat} (hh : h ≤ 4096) : ∀ m, m ≤ i + 1 → ((i : Int) - lastF f m ≤ h ↔ ∃ j, j < m ∧ f j = true ∧ i ≤ j + h)
  | 0, _ => by
    constructor
    · intro e; simp only [lastF] at e; omega
    · rintro ⟨j, hj, _⟩; omega
  | m + 1, hm => by
    unfold lastF
    by_cases hf : f m = true
    · rw [if_pos hf]
      constructor
      · intro e; exact ⟨m, by omega, hf, by omega⟩
      · rintro ⟨j, hj, _, e⟩; omega
    · rw [if_neg hf, lastF_iff hh m (by omega)]
      constructor
      · rintro ⟨j, hj, e⟩; exact ⟨j, by omega, e⟩
      · rintro ⟨j, hj, e1, e2⟩
        have : j ≠ m := fun e => hf (e ▸ e1)
        exact ⟨j, by omega, e1, e2⟩
def frontB (f : Nat → Bool) (h i : Nat) : Bool := decide ((i : Int) - lastF f (i + 1) ≤ h)
/-! ### back -/
def firstF (f : Nat → Bool) (R : Nat) : Nat → Int
  | 0 => 1048576
  | d + 1 => if f (R - 1 - d) = true then ((R - 1 - d : Nat) : Int) else firstF f R d
theorem firstF_bd (f : Nat → Bool) (R : Nat) (hR : R ≤ 1048576) : ∀ d, 0 ≤ firstF f R d ∧ firstF f R d ≤ 1048576
  | 0 => ⟨by show (0 : Int) ≤ 1048576; omega, Int.le_refl _⟩
  | d + 1 => by
    have := firstF_bd f R hR d
    unfold firstF
    split <;> omega
theorem firstF_iff {f : Nat → Bool} {R h i : Nat} (hh : h ≤ 4096) (hi : i ≤ 4096) : ∀ d, d ≤ R → (firstF f R d - (i : Int) ≤ h ↔ ∃ j, R - d ≤ j ∧ j < R ∧ f j = true ∧ j ≤ i + h)
  | 0, _ => by
    constructor
    · intro e; simp only [firstF] at e; omega
    · rintro ⟨j, h1, h2, _⟩; omega
  | d + 1, hd => by
    unfold firstF
    by_cases hf : f (R - 1 - d) = true
    · rw [if_pos hf]
      constructor
      · intro e; exact ⟨R - 1 - d, by omega, by omega, hf, by omega⟩
      · rintro ⟨j, h1, h2, _, e⟩; omega
    · rw [if_neg hf, firstF_iff hh hi d (by omega)]
      constructor
      · rintro ⟨j, h1, e⟩; exact ⟨j, by omega, e⟩
      · rintro ⟨j, h1, h2, e1, e2⟩
        have : j ≠ R - 1 - d := fun e => hf (e ▸ e1)
        exact ⟨j, by omega, h2, e1, e2⟩
theorem near_both {f : Nat → Bool} {R h d : Nat} (hh : h ≤ 4096) (hR : R ≤ 4096) (hd : d < R) :
    nearF f R h (R - 1 - d) = (frontB f h (R - 1 - d) || decide (firstF f R d - ((R - 1 - d : Nat) : Int) ≤ h)) ∨ f (R - 1 - d) = true := by
  cases hf : f (R - 1 - d) with
  | true => exact .inr rfl
  | false =>
    refine .inl (Bool.eq_iff_iff.2 ?_)
    rw [nearF_iff, Bool.or_eq_true]
    unfold frontB
    rw [decide_eq_true_iff, decide_eq_true_iff, lastF_iff hh _ (by omega), firstF_iff hh (by omega) d (by omega)]
    constructor
    · rintro ⟨j, h1, h2, h3, h4⟩
      by_cases hj : j < R - 1 - d + 1
      · exact .inl ⟨j, hj, h2, h3⟩
      · exact .inr ⟨j, by omega, h1, h2, h4⟩
    · rintro (⟨j, h1, h2, h3⟩ | ⟨j, h1, h2, h3, h4⟩)
      · exact ⟨j, by omega, h2, h3, by omega⟩
      · exact ⟨j, h2, h3, by omega, h4⟩
def backL (f : Nat → Bool) (R h d : Nat) : List Nat := ((List.range d).map fun e => R - 1 - e).filter fun i => !f i && nearF f R h i
theorem backL_step (f : Nat → Bool) (R h d : Nat) : backL f R h (d + 1) = backL f R h d ++ if f (R - 1 - d) = false ∧ nearF f R h (R - 1 - d) = true then [R - 1 - d] else [] := by
  unfold backL
  rw [List.range_succ, List.map_append, List.filter_append]
  congr 1
  cases hf : f (R - 1 - d) <;> cases hn : nearF f R h (R - 1 - d) <;> simp [hf, hn]
theorem backL_0 (f : Nat → Bool) (R h : Nat) : backL f R h 0 = [] := rfl
theorem backL_len (f : Nat → Bool) (R h d : Nat) : (backL f R h d).length ≤ d := by
  unfold backL
  have := List.length_filter_le (fun i => !f i && nearF f R h i) ((List.range d).map fun e => R - 1 - e)
  rwa [List.length_map, List.length_range] at this
theorem rev_range (R : Nat) : (List.range R).map (fun e => R - 1 - e) = (List.range R).reverse := by
  apply List.ext_getElem
  · simp
  · intro i h1 h2
    simp at h1
    simp [List.getElem_reverse]
theorem backL_end (f : Nat → Bool) (R h : Nat) : backL f R h R = (halF f R h).reverse := by
  unfold backL halF
  rw [rev_range, List.filter_reverse]
/-! ### the marks -/
def nearC (f : Nat → Bool) (h R m : Nat) : List D := (List.range R).map fun i => bD (decide (i < m) && frontB f h i)
theorem nearC_len (f : Nat → Bool) (h R m : Nat) : (nearC f h R m).length = R := by simp [nearC]
theorem nearC_0 (f : Nat → Bool) (h R : Nat) : nearC f h R 0 = List.replicate R (bD false) := by
  unfold nearC
  rw [List.eq_replicate_iff]
  refine ⟨by simp, fun d hd => ?_⟩
  obtain ⟨i, _, rfl⟩ := List.mem_map.1 hd
  rfl
theorem nearC_step (f : Nat → Bool) (h R m : Nat) : nearC f h R (m + 1) = (nearC f h R m).set m (bD (frontB f h m)) := by
  unfold nearC
  apply List.ext_getElem
  · simp
  · intro i h1 h2
    simp only [List.length_map, List.length_range] at h1
    rw [List.getElem_set]
    simp only [List.getElem_map, List.getElem_range]
    by_cases e : m = i
    · subst e
      rw [if_pos rfl, decide_eq_true (by omega : m < m + 1), Bool.true_and]
    · rw [if_neg e]
      congr 2
      exact decide_eq_decide.2 (by omega)
theorem nearC_end (f : Nat → Bool) (h R : Nat) {i : Nat} (hi : i < R) : (nearC f h R R)[i]? = some (bD (frontB f h i)) := by
  unfold nearC
  rw [List.getElem?_map, List.getElem?_range hi]
  show some (bD (decide (i < R) && frontB f h i)) = _
  rw [decide_eq_true hi, Bool.true_and]
/-! ### the halo of a place -/
def hal (k : Kd) (n o R p h : Nat) : List Nat := halF (fun j => decide (own k n o R j = p)) R h
theorem hal_lt {k : Kd} {n o R p h : Nat} : ∀ j ∈ hal k n o R p h, j < R := fun j hj => (halF_mem.1 hj).1
theorem hal_len (k : Kd) (n o R p h : Nat) : (hal k n o R p h).length ≤ R := halF_len _ _ _
theorem hal_near (k : Kd) (n o R p h i : Nat) : nearF (fun j => decide (own k n o R j = p)) R h i = (ow k n o R p).any fun j => decide (i ≤ j + h ∧ j ≤ i + h) := by
  unfold ow nearF
  rw [List.any_filter]
/-! ### runs of numbers side by side -/
theorem runs_beside {l : List Nat} {gs : List (List Nat)} (h : Runs besideB l gs) : ∀ g ∈ gs, ∃ a m, 0 < m ∧ g = consec a m :=
  (Runs.other (fun g => ∃ a m, 0 < m ∧ g = consec a m) (fun x => ⟨x, 1, by omega, by simp [consec]⟩) (fun q x hG ht => by
    obtain ⟨a, m, hm, rfl⟩ := hG
    have e : x = a + m := by
      have := of_decide_eq_true ht
      rw [consec_last hm] at this; omega
    subst e
    exact ⟨a, m + 1, by omega, (consec_snoc a m).symm⟩) h fun q x hq hG hl => rfl).2
def hrunsOf (k : Kd) (n o R p h : Nat) : List (List Nat) := runsN besideB (hal k n o R p h).length (hal k n o R p h)
theorem hrunsOf_S (k : Kd) (n o R p h : Nat) : Runs besideB (hal k n o R p h) (hrunsOf k n o R p h) := runsN_ok _ _ _ (Nat.le_refl _)
theorem hruns_good {c0 : Rg} {ct : List Rg} (hs : SpOk c0 ct) (k : Kd) (n o p h : Nat) : ∀ g ∈ hrunsOf k n o (cN c0) p h, g ≠ [] ∧ g.length ≤ cN c0 ∧ ofGood (gM (memN c0) g) := fun g hg => by
  have hr := hrunsOf_S k n o (cN c0) p h
  obtain ⟨a, m, hm, e⟩ := runs_beside hr g hg
  obtain ⟨h1, h2⟩ := runs_mem hr g hg
  refine ⟨h1, Nat.le_trans (runs_len hr g hg) (hal_len _ _ _ _ _ _), ?_⟩
  subst e
  refine consec_good (mem_ok hs) hm ?_
  rw [memN_len]
  have := hal_lt _ (h2 (a + (m - 1)) (List.mem_map.2 ⟨m - 1, by simp; omega, rfl⟩))
  omega
def hpartsOf (k : Kd) (n o : Nat) (c0 : Rg) (ct : List Rg) (p h : Nat) : List (List Rg) := (hrunsOf k n o (cN c0) p h).map (partC ct (memN c0))
theorem hparts_X {c0 : Rg} {ct : List Rg} (hs : SpOk c0 ct) (k : Kd) (n o p h : Nat) : allX (hpartsOf k n o c0 ct p h) = plX c0 ct (hal k n o (cN c0) p h) ∧ ∀ d ∈ hpartsOf k n o c0 ct p h, domB d = true := by
  have := plX_flat hs (hruns_good hs k n o p h)
  rwa [(hrunsOf_S k n o (cN c0) p h).flat] at this
end Go.Proofs.Ytifapodobhkdcaa
