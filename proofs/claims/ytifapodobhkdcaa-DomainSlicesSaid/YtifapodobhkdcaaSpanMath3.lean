/- Plain laws of ranges: By, Take, Drop, Reverse on the program's rows and on the reference's. -/
import Derived.Test.YtifapodobhkdcaaSpanMath2
namespace Go.Proofs.Ytifapodobhkdcaa
set_option linter.unusedVariables false
def revRes (r : Rg) : Rg × Int := if vB r = true then (doneV (backOf (rowOf r)), doneE (backOf (rowOf r))) else (⟨0, 0, 0⟩, 30)
def takeRow (x : Rw) (k : Int) : Rw := partOf x (cutF x k) (cutN x k)
def takeRes (r : Rg) (k : Int) : Rg × Int := if vB r = true then (doneV (takeRow (rowOf r) k), doneE (takeRow (rowOf r) k)) else (⟨0, 0, 0⟩, 30)
def dropRow (x : Rw) (k : Int) : Rw := if k < 0 then partOf x 0 (cutF x k) else partOf x (cutN x k) (x.n - cutN x k)
def dropRes (r : Rg) (k : Int) : Rg × Int := if vB r = true then (doneV (dropRow (rowOf r) k), doneE (dropRow (rowOf r) k)) else (⟨0, 0, 0⟩, 30)
def dirOf (x : Rw) (k : Int) : Rw := if k < 0 then backOf x else x
def byRow (x : Rw) (k : Int) : Rw := ⟨(dirOf x k).f, (dirOf x k).s * absI k, ((dirOf x k).n + absI k - 1).tdiv (absI k)⟩
def byRes (r : Rg) (k : Int) : Rg × Int := if vB r = true then (if k ≠ 0 ∧ -1000 ≤ k ∧ k ≤ 1000 then (doneV (byRow (rowOf r) k), doneE (byRow (rowOf r) k)) else (⟨0, 0, 0⟩, 2)) else (⟨0, 0, 0⟩, 30)
/-- rows of less than two members: the same answers where the first member is the same -/
theorem done_fewer {f f' s s' n : Int} (h : n = 0 ∨ n = 1 ∧ f = f') : doneV ⟨f, s, n⟩ = doneV ⟨f', s', n⟩ ∧ doneE ⟨f, s, n⟩ = doneE ⟨f', s', n⟩ := by
  rcases h with h | ⟨h, rfl⟩
  · subst h
    obtain ⟨a, b⟩ := done_none f s
    obtain ⟨c, d⟩ := done_none f' s'
    rw [a, b, c, d]; exact ⟨rfl, rfl⟩
  · exact done_few (.inr h)
theorem backOf_n (x : Rw) : (backOf x).n = x.n := by unfold backOf; split <;> rfl
theorem lastOf_1 {x : Rw} (h : x.n = 1) : lastOf x = x.f := by unfold lastOf; rw [h]; simp
theorem rev_ref {r : Rg} (h : r.ok) : doneV (backOf (refOf r)) = doneV (backOf (rowOf r)) ∧ doneE (backOf (refOf r)) = doneE (backOf (rowOf r)) := by
  rcases row_few h with e | h0 | h1
  · rw [e]; exact ⟨rfl, rfl⟩
  · rw [backOf_0 h0, backOf_0 (show (refOf r).n = 0 from h0)]
    exact done_few (n := (rowOf r).n) (.inl h0)
  · have e1 := lastOf_1 h1
    have e2 := lastOf_1 (show (refOf r).n = 1 from h1)
    rw [backOf_1 (by omega : (rowOf r).n ≠ 0), backOf_1 (show (refOf r).n ≠ 0 by rw [show (refOf r).n = 1 from h1]; decide), e1, e2]
    exact done_few (n := (rowOf r).n) (.inr h1)
theorem last_bd {r : Rg} (h : r.ok) (h0 : (rowOf r).n ≠ 0) : -1000000 ≤ lastOf (rowOf r) ∧ lastOf (rowOf r) ≤ 1000000 := by
  rcases row_n h with ⟨hn, _⟩ | ⟨hn, hle⟩
  · exact absurd hn h0
  · obtain ⟨a, b, c, d⟩ := row_in h hle
    obtain ⟨h1, h2, h3, h4, h5, h6, h7⟩ := h
    omega
theorem lastRef_bd {r : Rg} (h : r.ok) (h0 : (rowOf r).n ≠ 0) : -1000000 ≤ lastOf (refOf r) ∧ lastOf (refOf r) ≤ 1000000 := by
  rcases row_few h with e | h1 | h1
  · rw [e]; exact last_bd h h0
  · exact absurd h1 h0
  · rw [lastOf_1 (show (refOf r).n = 1 from h1)]; exact rowOf_f_bd h
/-- a row of a valid range, or the reference's -/
def Rw.tame (x : Rw) : Prop := -1000000 ≤ x.f ∧ x.f ≤ 1000000 ∧ -1000 ≤ x.s ∧ x.s ≤ 1000 ∧ x.s ≠ 0 ∧ 0 ≤ x.n ∧ x.n ≤ 2000001 ∧ (x.n ≠ 0 → -1000000 ≤ lastOf x ∧ lastOf x ≤ 1000000)
theorem row_tame {r : Rg} (h : r.ok) : (rowOf r).tame := by
  obtain ⟨f1, f2⟩ := rowOf_f_bd h
  obtain ⟨n1, n2⟩ := rowOf_n_bd h
  obtain ⟨_, _, _, _, h5, h6, h7⟩ := h
  exact ⟨f1, f2, h5, h6, h7, n1, n2, last_bd ⟨‹_›, ‹_›, ‹_›, ‹_›, h5, h6, h7⟩⟩
theorem ref_tame {r : Rg} (h : r.ok) : (refOf r).tame := by
  obtain ⟨f1, f2⟩ := rowOf_f_bd h
  obtain ⟨n1, n2⟩ := rowOf_n_bd h
  obtain ⟨s1, s2, s3⟩ := refOf_s_bd h
  exact ⟨f1, f2, s1, s2, s3, n1, n2, lastRef_bd h⟩
theorem tame_small {x : Rw} (h : x.tame) : x.small := by
  obtain ⟨f1, f2, s1, s2, s3, n1, n2, l⟩ := h
  unfold Rw.small; omega
theorem back_tame {x : Rw} (h : x.tame) : (backOf x).small ∧ (backOf x).s ≠ 0 := by
  have hs := tame_small h
  by_cases h0 : x.n = 0
  · rw [backOf_0 h0]; exact ⟨hs, h.2.2.2.2.1⟩
  · obtain ⟨f1, f2, s1, s2, s3, n1, n2, l⟩ := h
    have := l h0
    rw [backOf_1 h0]
    unfold Rw.small
    simp only
    omega
theorem prod_row {i s : Int} (h1 : 0 ≤ i) (h2 : i ≤ 2000001) (h3 : -1000 ≤ s) (h4 : s ≤ 1000) : -2000001000 ≤ i * s ∧ i * s ≤ 2000001000 := by
  have a : i * (-1000) ≤ i * s := Int.mul_le_mul_of_nonneg_left h3 h1
  have b : i * s ≤ i * 1000 := Int.mul_le_mul_of_nonneg_left h4 h1
  omega
theorem part_tame {x : Rw} (h : x.tame) {i m : Int} (h0 : 0 ≤ i) (h1 : 0 ≤ m) (h2 : i + m ≤ x.n) : (partOf x i m).small ∧ (partOf x i m).s ≠ 0 := by
  obtain ⟨f1, f2, s1, s2, s3, n1, n2, l⟩ := h
  have p := prod_row h0 (by omega) s1 s2
  unfold partOf atOf Rw.small
  simp only
  omega
theorem cut_bd {x : Rw} (h : 0 ≤ x.n) (k : Int) : 0 ≤ cutF x k ∧ 0 ≤ cutN x k ∧ cutF x k + cutN x k ≤ x.n ∧ (k < 0 → cutF x k = x.n - cutN x k) ∧ (0 ≤ k → cutF x k = 0) := by
  unfold cutF cutN
  by_cases hk : 0 ≤ k
  · simp only [if_pos hk]
    split <;> exact ⟨by omega, by omega, by omega, fun h' => absurd hk (by omega), by simp⟩
  · simp only [if_neg hk]
    split <;> exact ⟨by omega, by omega, by omega, fun _ => by omega, fun h' => absurd h' hk⟩
theorem part_ref {r : Rg} (h : r.ok) {i m : Int} (h0 : 0 ≤ i) (h1 : 0 ≤ m) (h2 : i + m ≤ (rowOf r).n) : doneV (partOf (refOf r) i m) = doneV (partOf (rowOf r) i m) ∧ doneE (partOf (refOf r) i m) = doneE (partOf (rowOf r) i m) := by
  rcases row_few h with e | hf
  · rw [e]; exact ⟨rfl, rfl⟩
  · refine done_fewer ?_
    by_cases hm : m = 0
    · exact .inl hm
    · have hi : i = 0 := by omega
      refine .inr ⟨by omega, ?_⟩
      subst hi
      unfold atOf
      rw [Int.zero_mul, Int.zero_mul]; rfl
theorem part_0 (x : Rw) (m : Int) : partOf x 0 m = ⟨x.f, x.s, m⟩ := by unfold partOf atOf; rw [Int.zero_mul, Int.add_zero]
theorem cut_ref (r : Rg) (k : Int) : cutF (refOf r) k = cutF (rowOf r) k ∧ cutN (refOf r) k = cutN (rowOf r) k := ⟨rfl, rfl⟩
theorem take_ref {r : Rg} (h : r.ok) (k : Int) : doneV (takeRow (refOf r) k) = doneV (takeRow (rowOf r) k) ∧ doneE (takeRow (refOf r) k) = doneE (takeRow (rowOf r) k) := by
  have hc := cut_bd (rowOf_n_bd h).1 k
  exact part_ref h hc.1 hc.2.1 hc.2.2.1
theorem drop_ref {r : Rg} (h : r.ok) (k : Int) : doneV (dropRow (refOf r) k) = doneV (dropRow (rowOf r) k) ∧ doneE (dropRow (refOf r) k) = doneE (dropRow (rowOf r) k) := by
  have hc := cut_bd (rowOf_n_bd h).1 k
  unfold dropRow
  by_cases hk : k < 0
  · rw [if_pos hk, if_pos hk]
    exact part_ref h (i := 0) (m := cutF (rowOf r) k) (by omega) hc.1 (by omega)
  · rw [if_neg hk, if_neg hk]
    exact part_ref h (i := cutN (rowOf r) k) (m := (rowOf r).n - cutN (rowOf r) k) hc.2.1 (by omega) (by omega)
theorem take_tame {x : Rw} (h : x.tame) (k : Int) : (takeRow x k).small ∧ (takeRow x k).s ≠ 0 := by
  have hc := cut_bd h.2.2.2.2.2.1 k
  exact part_tame h hc.1 hc.2.1 hc.2.2.1
theorem drop_tame {x : Rw} (h : x.tame) (k : Int) : (dropRow x k).small ∧ (dropRow x k).s ≠ 0 := by
  have hc := cut_bd h.2.2.2.2.2.1 k
  unfold dropRow
  split
  · exact part_tame h (by omega) hc.1 (by omega)
  · exact part_tame h hc.2.1 (by omega) (by omega)
theorem dir_facts {x : Rw} (h : x.tame) (k : Int) : -1000000 ≤ (dirOf x k).f ∧ (dirOf x k).f ≤ 1000000 ∧ -1000 ≤ (dirOf x k).s ∧ (dirOf x k).s ≤ 1000 ∧ (dirOf x k).s ≠ 0 ∧ (dirOf x k).n = x.n := by
  obtain ⟨f1, f2, s1, s2, s3, n1, n2, l⟩ := h
  unfold dirOf
  split
  · by_cases h0 : x.n = 0
    · rw [backOf_0 h0]; exact ⟨f1, f2, s1, s2, s3, rfl⟩
    · have := l h0
      rw [backOf_1 h0]; exact ⟨this.1, this.2, by simp only; omega, by simp only; omega, by simp only; omega, rfl⟩
  · exact ⟨f1, f2, s1, s2, s3, rfl⟩
theorem prod_step {a b : Int} (h1 : -1000 ≤ a) (h2 : a ≤ 1000) (h3 : 1 ≤ b) (h4 : b ≤ 1000) : -1000000 ≤ a * b ∧ a * b ≤ 1000000 := by
  have p : a * b ≤ 1000 * b := Int.mul_le_mul_of_nonneg_right h2 (by omega)
  have q : -1000 * b ≤ a * b := Int.mul_le_mul_of_nonneg_right h1 (by omega)
  omega
theorem by_tame {x : Rw} (h : x.tame) {k : Int} (h0 : k ≠ 0) (h1 : -1000 ≤ k) (h2 : k ≤ 1000) : (byRow x k).small ∧ (byRow x k).s ≠ 0 := by
  obtain ⟨a, b, c, d, e, f⟩ := dir_facts h k
  have n1 := h.2.2.2.2.2.1
  have n2 := h.2.2.2.2.2.2.1
  obtain ⟨a1, a2⟩ := absI_bd h1 h2 h0
  have p := prod_step c d a1 a2
  have hz : (dirOf x k).s * absI k ≠ 0 := Int.mul_ne_zero e (by omega)
  have hq : 0 ≤ (x.n + absI k - 1).tdiv (absI k) ∧ (x.n + absI k - 1).tdiv (absI k) ≤ 4194304 := by
    rw [Int.tdiv_eq_ediv_of_nonneg (by omega)]
    refine ⟨Int.ediv_nonneg (by omega) (by omega), ?_⟩
    have := Int.ediv_le_self (a := x.n + absI k - 1) (absI k) (by omega)
    omega
  unfold byRow Rw.small
  simp only [f]
  omega
theorem by_ref {r : Rg} (h : r.ok) {k : Int} (h0 : k ≠ 0) (h1 : -1000 ≤ k) (h2 : k ≤ 1000) : doneV (byRow (refOf r) k) = doneV (byRow (rowOf r) k) ∧ doneE (byRow (refOf r) k) = doneE (byRow (rowOf r) k) := by
  rcases row_few h with e | hf
  · rw [e]; exact ⟨rfl, rfl⟩
  obtain ⟨a1, a2⟩ := absI_bd h1 h2 h0
  have e1 := (dir_facts (row_tame h) k).2.2.2.2.2
  have e2 := (dir_facts (ref_tame h) k).2.2.2.2.2
  have e3 : (refOf r).n = (rowOf r).n := rfl
  unfold byRow
  rw [e1, e2, e3]
  refine done_fewer ?_
  rcases hf with hf | hf
  · left
    rw [hf]
    exact Int.tdiv_eq_zero_of_lt (by omega) (by omega)
  · right
    refine ⟨?_, ?_⟩
    · rw [hf, show 1 + absI k - 1 = absI k by omega]
      exact Int.tdiv_self (by omega)
    · unfold dirOf
      split
      · rw [backOf_1 (by omega : (rowOf r).n ≠ 0), backOf_1 (show (refOf r).n ≠ 0 by rw [e3, hf]; decide)]
        simp only
        rw [lastOf_1 hf, lastOf_1 (show (refOf r).n = 1 from hf)]; rfl
      · rfl
end Go.Proofs.Ytifapodobhkdcaa
