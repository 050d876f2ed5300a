/- Plain laws of ranges: parts of a row are valid, members of a canonical range. -/
import Derived.Test.YtifapodobhkdcaaSpanMath4
namespace Go.Proofs.Ytifapodobhkdcaa
set_option linter.unusedVariables false
theorem mul_mono {a b c : Int} (h : a ≤ b) (hc : 0 ≤ c) : a * c ≤ b * c := Int.mul_le_mul_of_nonneg_right h hc
theorem mul_anti {a b c : Int} (h : a ≤ b) (hc : c ≤ 0) : b * c ≤ a * c := by
  have := mul_mono h (c := -c) (by omega)
  rw [Int.mul_neg, Int.mul_neg] at this
  omega
theorem at_in {r : Rg} (h : r.ok) {i : Int} (h0 : 0 ≤ i) (h1 : i < (rowOf r).n) : r.lo ≤ atOf (rowOf r) i ∧ atOf (rowOf r) i ≤ r.hi := by
  have hle : r.lo ≤ r.hi := by rcases row_n h with ⟨a, b⟩ | ⟨a, b⟩ <;> omega
  obtain ⟨a, b, c, d⟩ := row_in h hle
  unfold lastOf at c d
  unfold atOf
  by_cases hs : 0 ≤ (rowOf r).s
  · have e1 := mul_mono h0 hs
    have e2 := mul_mono (show i ≤ (rowOf r).n - 1 by omega) hs
    rw [Int.zero_mul] at e1
    omega
  · have e1 := mul_anti h0 (c := (rowOf r).s) (by omega)
    have e2 := mul_anti (show i ≤ (rowOf r).n - 1 by omega) (c := (rowOf r).s) (by omega)
    rw [Int.zero_mul] at e1
    omega
theorem at_near {r : Rg} (h : r.ok) {i : Int} (h0 : 0 ≤ i) (h1 : i < (rowOf r).n) : -1000000 ≤ atOf (rowOf r) i ∧ atOf (rowOf r) i ≤ 1000000 := by
  have := at_in h h0 h1
  obtain ⟨a, b, c, d, _⟩ := h
  omega
theorem last_part (x : Rw) (i m : Int) : lastOf (partOf x i m) = atOf x (i + m - 1) := by
  unfold lastOf partOf atOf
  simp only
  rw [show i + m - 1 = i + (m - 1) by omega, Int.add_mul]; omega
theorem part_v {r : Rg} (h : r.ok) {i m : Int} (h0 : 0 ≤ i) (h1 : 0 ≤ m) (h2 : i + m ≤ (rowOf r).n) : vB (canonOf (partOf (rowOf r) i m)) = true := by
  have en : (partOf (rowOf r) i m).n = m := rfl
  have ef : (partOf (rowOf r) i m).f = atOf (rowOf r) i := rfl
  have es : (partOf (rowOf r) i m).s = r.st := rfl
  by_cases m0 : m = 0
  · rw [canonOf_0 (by omega)]; decide
  have b1 := at_near h h0 (by omega)
  by_cases m1 : m = 1
  · rw [canonOf_1 (by omega), ef]
    exact vB_true (by unfold Rg.ok; simp only; omega)
  have b2 := at_near h (i := i + m - 1) (by omega) (by omega)
  have el := last_part (rowOf r) i m
  obtain ⟨_, _, _, _, s1, s2, s3⟩ := h
  by_cases hl : (partOf (rowOf r) i m).f ≤ lastOf (partOf (rowOf r) i m)
  · rw [canonOf_up (by omega) hl]
    exact vB_true (by unfold Rg.ok; simp only; omega)
  · rw [canonOf_down (by omega) hl]
    exact vB_true (by unfold Rg.ok; simp only; omega)
/-- the first k members of a row -/
def rowL (x : Rw) (k : Nat) : List Int := (List.range k).map fun j : Nat => atOf x (j : Int)
theorem rowL_len (x : Rw) (k : Nat) : (rowL x k).length = k := by simp [rowL]
theorem rowL_get {x : Rw} {k j : Nat} (h : j < (rowL x k).length) : (rowL x k)[j] = atOf x (j : Int) := by simp [rowL]
theorem rowL_norm {x : Rw} (h : 0 ≤ x.n) : rowL (normOf x) x.n.toNat = rowL x x.n.toNat := by
  unfold rowL
  apply List.map_congr_left
  intro j hj
  have hj' : j < x.n.toNat := by simpa using hj
  unfold normOf
  by_cases h0 : x.n = 0
  · omega
  by_cases h1 : x.n = 1
  · rw [if_neg h0, if_pos h1]
    have : j = 0 := by omega
    subst this
    simp [atOf]
  · rw [if_neg h0, if_neg h1]
theorem rowL_split (x : Rw) (i m : Nat) : rowL x (i + m) = rowL x i ++ rowL (partOf x i m) m := by
  unfold rowL
  rw [List.range_add, List.map_append, List.map_map]
  congr 1
  apply List.map_congr_left
  intro j hj
  simp only [Function.comp, atOf, partOf]
  rw [show ((i + j : Nat) : Int) = (i : Int) + j by omega, Int.add_mul]; omega
theorem part_whole (x : Rw) : partOf x 0 x.n = x := by rw [part_0]
theorem place_at {r : Rg} (h : r.ok) {i : Int} (h0 : 0 ≤ i) (h1 : i < (rowOf r).n) : placeB (rowOf r) (atOf (rowOf r) i) = true ∧ placeI (rowOf r) (atOf (rowOf r) i) = i := by
  have hs : (rowOf r).s ≠ 0 := (rowOf_small h).2
  have e : atOf (rowOf r) i - (rowOf r).f = i * (rowOf r).s := by unfold atOf; omega
  have e1 : (i * (rowOf r).s).tmod (rowOf r).s = 0 := Int.mul_tmod_left _ _
  have e2 : (i * (rowOf r).s).tdiv (rowOf r).s = i := Int.mul_tdiv_cancel _ hs
  have ha : isAt (rowOf r) (atOf (rowOf r) i) := ⟨by omega, by rw [e]; exact e1⟩
  refine ⟨?_, ?_⟩
  · unfold placeB
    rw [decide_eq_true_eq, e, e2]
    exact ⟨ha, h0, by omega⟩
  · unfold placeI
    rw [if_pos ha, e, e2]
theorem at_place {x : Rw} {m : Int} (h : placeB x m = true) : 0 ≤ placeI x m ∧ placeI x m ≤ x.n - 1 ∧ atOf x (placeI x m) = m := by
  unfold placeB at h
  rw [decide_eq_true_eq] at h
  obtain ⟨ha, h1, h2⟩ := h
  unfold placeI
  rw [if_pos ha]
  refine ⟨h1, h2, ?_⟩
  have := Int.mul_tdiv_add_tmod (m - x.f) x.s
  rw [ha.2, Int.mul_comm] at this
  unfold atOf
  omega
theorem rev_rev {r : Rg} (h : vB r = true) : (revRes r).2 = 0 ∧ revRes (revRes r).1 = (canonOf (rowOf r), 0) := by
  have hr := vB_ok' h
  have hn := (rowOf_n_bd hr).1
  have hs := (rowOf_small hr).2
  have hb := back_tame (row_tame hr)
  have hx : vB (canonOf (backOf (rowOf r))) = true := by
    by_cases h0 : (rowOf r).n = 0
    · rw [backOf_0 h0, canonOf_0 h0]; decide
    rw [backOf_1 h0]
    have b0 := rowOf_f_bd hr
    have b1 := last_bd hr h0
    obtain ⟨_, _, _, _, s1, s2, s3⟩ := hr
    have es : (rowOf r).s = r.st := rfl
    by_cases h1 : (rowOf r).n = 1
    · rw [canonOf_1 (x := ⟨lastOf (rowOf r), -(rowOf r).s, (rowOf r).n⟩) h1]
      exact vB_true (by unfold Rg.ok; simp only; omega)
    have el : lastOf ⟨lastOf (rowOf r), -(rowOf r).s, (rowOf r).n⟩ = (rowOf r).f := by
      unfold lastOf; simp only; rw [Int.mul_neg]; omega
    by_cases hl : lastOf (rowOf r) ≤ (rowOf r).f
    · rw [canonOf_up (x := ⟨lastOf (rowOf r), -(rowOf r).s, (rowOf r).n⟩) (by simp only; omega) (by rw [el]; exact hl), el]
      exact vB_true (by unfold Rg.ok; simp only; omega)
    · rw [canonOf_down (x := ⟨lastOf (rowOf r), -(rowOf r).s, (rowOf r).n⟩) (by simp only; omega) (by rw [el]; exact hl), el]
      exact vB_true (by unfold Rg.ok; simp only; omega)
  obtain ⟨d1, d2⟩ := done_yes hx
  have e1 : revRes r = (canonOf (backOf (rowOf r)), 0) := by rw [revRes, if_pos h, d1, d2]
  rw [e1]
  refine ⟨rfl, ?_⟩
  simp only
  have hrow := row_norm (x := backOf (rowOf r)) (by rw [backOf_n]; exact hn) hb.2
  rw [revRes, if_pos hx, hrow]
  obtain ⟨c1, c2⟩ := done_row hr
  by_cases h0 : (rowOf r).n = 0
  · have en : normOf (backOf (rowOf r)) = ⟨1, 1, 0⟩ := if_pos (by rw [backOf_n]; exact h0)
    rw [en, backOf_0 (x := ⟨1, 1, 0⟩) rfl]
    obtain ⟨a, b⟩ := done_none 1 1
    rw [a, b, canonOf_0 h0]
  by_cases h1 : (rowOf r).n = 1
  · have en : normOf (backOf (rowOf r)) = ⟨lastOf (rowOf r), 1, 1⟩ := by
      rw [normOf, if_neg (by rw [backOf_n]; exact h0), if_pos (by rw [backOf_n]; exact h1), backOf_1 h0]
    rw [en, backOf_1 (x := ⟨lastOf (rowOf r), 1, 1⟩) (by simp), lastOf_1 h1]
    have e2 : lastOf ⟨(rowOf r).f, 1, 1⟩ = (rowOf r).f := lastOf_1 rfl
    rw [e2]
    obtain ⟨a, b⟩ := done_few (f := (rowOf r).f) (s := -1) (s' := (rowOf r).s) (n := 1) (.inr rfl)
    have ex : (⟨(rowOf r).f, (rowOf r).s, 1⟩ : Rw) = rowOf r := Rw.ext' rfl rfl h1.symm
    show (doneV ⟨(rowOf r).f, -1, 1⟩, doneE ⟨(rowOf r).f, -1, 1⟩) = _
    rw [a, b, ex, c1, c2]
  · have en : normOf (backOf (rowOf r)) = backOf (rowOf r) := by
      rw [normOf, if_neg (by rw [backOf_n]; exact h0), if_neg (by rw [backOf_n]; exact h1)]
    have ex : backOf (backOf (rowOf r)) = rowOf r := by
      rw [backOf_1 h0, backOf_1 (x := ⟨lastOf (rowOf r), -(rowOf r).s, (rowOf r).n⟩) h0]
      refine Rw.ext' ?_ ?_ rfl
      · unfold lastOf; simp only; rw [Int.mul_neg]; omega
      · simp only; omega
    rw [en, ex, c1, c2]
theorem take_all {r : Rg} (h : vB r = true) : takeRes r (rowOf r).n = (canonOf (rowOf r), 0) := by
  have hr := vB_ok' h
  have hn := (rowOf_n_bd hr).1
  obtain ⟨c1, c2⟩ := done_row hr
  have e : takeRow (rowOf r) (rowOf r).n = rowOf r := by
    unfold takeRow
    have e1 : cutF (rowOf r) (rowOf r).n = 0 := if_pos hn
    have e2 : cutN (rowOf r) (rowOf r).n = (rowOf r).n := by unfold cutN; rw [if_pos hn, if_pos (Int.le_refl _)]
    rw [e1, e2, part_whole]
  rw [takeRes, if_pos h, e, c1, c2]
/-- Take and Drop -/
theorem take_drop {r : Rg} (h : vB r = true) (k : Int) (hn : (rowOf r).n ≤ 4096) : ∃ (a b : Rg) (i m : Nat), takeRes r k = (a, 0) ∧ dropRes r k = (b, 0) ∧ vB a = true ∧ vB b = true ∧ (rowOf r).n.toNat = i + m ∧
    ((0 ≤ k ∧ (rowOf a).n = i ∧ (rowOf b).n = m ∧ rowL (rowOf r) (i + m) = rowL (rowOf a) i ++ rowL (rowOf b) m) ∨ (k < 0 ∧ (rowOf a).n = m ∧ (rowOf b).n = i ∧ rowL (rowOf r) (i + m) = rowL (rowOf b) i ++ rowL (rowOf a) m)) := by
  have hr := vB_ok' h
  have hn0 := (rowOf_n_bd hr).1
  have hs := (rowOf_small hr).2
  obtain ⟨c1, c2, c3, c4, c5⟩ := cut_bd hn0 k
  have row : ∀ i m : Nat, ((i + m : Nat) : Int) ≤ (rowOf r).n → vB (canonOf (partOf (rowOf r) i m)) = true ∧ (rowOf (canonOf (partOf (rowOf r) i m))).n = m ∧ rowL (rowOf (canonOf (partOf (rowOf r) i m))) m = rowL (partOf (rowOf r) i m) m := by
    intro i m him
    have hv := part_v hr (i := i) (m := m) (by omega) (by omega) (by omega)
    have hrow := row_norm (x := partOf (rowOf r) i m) (by show (0 : Int) ≤ m; omega) hs
    refine ⟨hv, ?_, ?_⟩
    · rw [hrow]
      unfold normOf
      split
      · rename_i h0; exact h0.symm
      · split
        · rename_i h1; exact h1.symm
        · rfl
    · rw [hrow]
      have := rowL_norm (x := partOf (rowOf r) i m) (by show (0 : Int) ≤ m; omega)
      rwa [show (partOf (rowOf r) i m).n.toNat = m from Int.toNat_natCast m] at this
  obtain ⟨f, hf⟩ := Int.eq_ofNat_of_zero_le c1
  obtain ⟨m, hm⟩ := Int.eq_ofNat_of_zero_le c2
  by_cases hk : 0 ≤ k
  · have hf0 := c5 hk
    obtain ⟨b, hb⟩ := Int.eq_ofNat_of_zero_le (show 0 ≤ (rowOf r).n - cutN (rowOf r) k by omega)
    have et : takeRow (rowOf r) k = partOf (rowOf r) ((0 : Nat) : Int) (m : Int) := by unfold takeRow; rw [hf0, hm]; rfl
    have ed : dropRow (rowOf r) k = partOf (rowOf r) (m : Int) (b : Int) := by unfold dropRow; rw [if_neg (by omega), hb, hm]
    obtain ⟨r1, r2, r3⟩ := row 0 m (by omega)
    obtain ⟨q1, q2, q3⟩ := row m b (by omega)
    refine ⟨_, _, m, b, ?_, ?_, r1, q1, by omega, .inl ⟨hk, r2, q2, ?_⟩⟩
    · rw [takeRes, if_pos h, et]; obtain ⟨d1, d2⟩ := done_yes r1; rw [d1, d2]
    · rw [dropRes, if_pos h, ed]; obtain ⟨d1, d2⟩ := done_yes q1; rw [d1, d2]
    · rw [r3, q3, rowL_split]
      congr 1
      have := rowL_split (rowOf r) 0 m
      rw [Nat.zero_add] at this
      rw [this]; simp [rowL]
  · have hf0 := c4 (by omega)
    have et : takeRow (rowOf r) k = partOf (rowOf r) (f : Int) (m : Int) := by unfold takeRow; rw [hf, hm]
    have ed : dropRow (rowOf r) k = partOf (rowOf r) ((0 : Nat) : Int) (f : Int) := by unfold dropRow; rw [if_pos (by omega), hf]; rfl
    obtain ⟨r1, r2, r3⟩ := row f m (by omega)
    obtain ⟨q1, q2, q3⟩ := row 0 f (by omega)
    refine ⟨_, _, f, m, ?_, ?_, r1, q1, by omega, .inr ⟨by omega, r2, q2, ?_⟩⟩
    · rw [takeRes, if_pos h, et]; obtain ⟨d1, d2⟩ := done_yes r1; rw [d1, d2]
    · rw [dropRes, if_pos h, ed]; obtain ⟨d1, d2⟩ := done_yes q1; rw [d1, d2]
    · rw [r3, q3, rowL_split]
      congr 1
      have := rowL_split (rowOf r) 0 f
      rw [Nat.zero_add] at this
      rw [this]; simp [rowL]
end Go.Proofs.Ytifapodobhkdcaa
