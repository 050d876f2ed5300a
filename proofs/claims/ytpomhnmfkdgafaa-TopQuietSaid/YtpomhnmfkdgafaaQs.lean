/- The plain law of the rings: soon behind all is over, and the rounds of TopQuiet. -/
import Derived.Test.YtpomhnmfkdgafaaQm
namespace Go.Proofs.Ytpomhnmfkdgafaa
open Go.RowKit
set_option linter.unusedVariables false
set_option linter.unusedSimpArgs false
def Wht (r : Rng) : Prop := ∀ j, r.at_ < j → j < r.n → r.blk j = false
def Cln (r : Rng) : Prop := r.fresh = false ∧ r.dark = false ∧ (∀ j, j < r.n → r.blk j = false) ∧ sumTo r.cnt r.n - sumTo r.cnt (r.at_ + 1) = r.sum
/-- told, or told behind at most m passes -/
def Soon (m : Nat) (r : Rng) : Prop := r.told = true ∨ (Cln r ∧ r.at_ + 1 ≤ m) ∨ (Wht r ∧ r.at_ + 1 + r.n ≤ m) ∨ r.at_ + 1 + 2 * r.n ≤ m
theorem soon_zero {r : Rng} (h : Soon 0 r) : r.told = true := by
  rcases h with h | ⟨_, h⟩ | ⟨_, h⟩ | h
  · exact h
  · omega
  · omega
  · omega
theorem n_pass (r : Rng) : (passR r).n = r.n := by unfold passR; split <;> (try rfl); split <;> (try rfl); split <;> (try rfl); split <;> rfl
theorem n_act (r : Rng) (d x y : Int) : (doR r d x y).n = r.n := by
  unfold doR
  split
  · unfold sendR; split <;> rfl
  · split
    · unfold rcvR; split <;> rfl
    · split
      · unfold idleR; split <;> rfl
      · exact n_pass r
theorem told_of_pass {r : Rng} (h : r.told = true) : (passR r).told = true := by unfold passR; rw [if_pos h]; exact h
theorem ovr_pass {r : Rng} (h : Ovr r) : Ovr (passR r) := by
  unfold passR
  split
  · exact h
  · split
    · exact h
    · split
      · split
        · exact ⟨h.act, h.fly⟩
        · exact ⟨h.act, h.fly⟩
      · exact ⟨h.act, h.fly⟩
theorem ovr_act {r : Rng} (h : Ovr r) (d x y : Int) : doR r d x y = r ∨ doR r d x y = passR r := by
  unfold doR
  split
  · left
    unfold sendR errSend
    by_cases hc : 0 ≤ x ∧ x < r.n ∧ 0 ≤ y ∧ y < r.n
    · rw [if_pos hc, if_neg (by rw [h.act x.toNat (by omega)]; decide)]
    · rw [if_neg hc, if_neg (by decide)]
  · split
    · left
      unfold rcvR
      rw [if_neg (by rw [h.fly]; simp)]
    · split
      · left
        unfold idleR
        rw [if_neg]
        rintro ⟨h1, h2, h3⟩
        rw [h.act x.toNat (by omega)] at h3; cases h3
      · exact .inr rfl
theorem passT_over {r : Rng} (h : Saf r) (ht : passT r = true) : Ovr r := by
  unfold passT at ht
  by_cases h1 : r.told = true
  · exact h.told h1
  · rw [if_neg h1] at ht
    by_cases h2 : r.act r.at_ = true
    · rw [if_pos h2] at ht; cases ht
    · rw [if_neg h2] at ht
      by_cases h3 : r.at_ = 0
      · rw [if_pos h3] at ht
        exact end_over h (by simpa using h1) (by simpa using h2) h3 ht
      · rw [if_neg h3] at ht; cases ht
theorem passE_over {r : Rng} (h : Ovr r) (hn : r.at_ < r.n) : passE r = 0 := by
  unfold passE
  split
  · rfl
  · rw [if_neg (by rw [h.act _ hn]; decide)]
theorem passT_told {r : Rng} (h : Ovr r) (hn : r.at_ < r.n) : (passR r).told = passT r := by
  unfold passR passT
  by_cases h1 : r.told = true
  · rw [if_pos h1, if_pos h1]; exact h1
  · have h2 : ¬ r.act r.at_ = true := by rw [h.act _ hn]; decide
    rw [if_neg h1, if_neg h1, if_neg h2, if_neg h2]
    by_cases h3 : r.at_ = 0
    · rw [if_pos h3, if_pos h3]
      by_cases h4 : endB r = true
      · rw [if_pos h4, h4]
      · rw [if_neg h4]
        show r.told = endB r
        rw [show r.told = false by simpa using h1, show endB r = false by simpa using h4]
    · rw [if_neg h3, if_neg h3]
      show r.told = false
      simpa using h1
theorem soon_pass {r : Rng} {m : Nat} (hs : Saf r) (ho : Ovr r) (hn : r.at_ < r.n) (h : Soon (m + 1) r) : Soon m (passR r) := by
  by_cases ht : r.told = true
  · exact .inl (told_of_pass ht)
  · have ht' : r.told = false := by simpa using ht
    have ha : ¬ r.act r.at_ = true := by rw [ho.act _ hn]; decide
    have hz : sumTo r.cnt r.n = 0 := by rw [hs.sum, ho.fly]; rfl
    unfold passR
    rw [if_neg ht, if_neg ha]
    by_cases h3 : r.at_ = 0
    · rw [if_pos h3]
      by_cases h4 : endB r = true
      · rw [if_pos h4]; exact .inl rfl
      · rw [if_neg h4]
        rcases h with h | ⟨⟨c1, c2, c3, c4⟩, h⟩ | ⟨hw, h⟩ | h
        · exact absurd h ht
        · refine absurd ((end_iff r).2 ⟨c1, c2, c3 0 (by omega), ?_⟩) h4
          rw [h3] at c4
          have e : sumTo r.cnt (0 + 1) = r.cnt 0 := by show 0 + r.cnt 0 = _; omega
          omega
        · refine .inr (.inl ⟨⟨rfl, rfl, fun j hj => ?_, ?_⟩, ?_⟩)
          · show upF r.blk 0 false j = false
            by_cases hj0 : j = 0
            · rw [hj0, upF_same]
            · rw [upF_other _ _ _ hj0]
              exact hw j (by omega) hj
          · show sumTo r.cnt r.n - sumTo r.cnt (r.n - 1 + 1) = 0
            rw [show r.n - 1 + 1 = r.n by omega]; omega
          · show r.n - 1 + 1 ≤ m
            omega
        · refine .inr (.inr (.inl ⟨fun j hj hj2 => ?_, ?_⟩))
          · have h5 : r.n - 1 < j := hj
            have h6 : j < r.n := hj2
            omega
          · show r.n - 1 + 1 + r.n ≤ m
            omega
    · rw [if_neg h3]
      have hsum : sumTo r.cnt (r.at_ + 1) = sumTo r.cnt r.at_ + r.cnt r.at_ := rfl
      have e : r.at_ - 1 + 1 = r.at_ := by omega
      rcases h with h | ⟨⟨c1, c2, c3, c4⟩, h⟩ | ⟨hw, h⟩ | h
      · exact absurd h ht
      · refine .inr (.inl ⟨⟨c1, ?_, fun j hj => ?_, ?_⟩, ?_⟩)
        · show (r.dark || r.blk r.at_) = false
          rw [c2, c3 _ hn]; rfl
        · show upF r.blk r.at_ false j = false
          by_cases hj0 : j = r.at_
          · rw [hj0, upF_same]
          · rw [upF_other _ _ _ hj0]; exact c3 j hj
        · show sumTo r.cnt r.n - sumTo r.cnt (r.at_ - 1 + 1) = r.sum + r.cnt r.at_
          rw [e]; omega
        · show r.at_ - 1 + 1 ≤ m
          omega
      · refine .inr (.inr (.inl ⟨fun j hj hj2 => ?_, ?_⟩))
        · show upF r.blk r.at_ false j = false
          have h5 : r.at_ - 1 < j := hj
          by_cases hj0 : j = r.at_
          · rw [hj0, upF_same]
          · rw [upF_other _ _ _ hj0]; exact hw j (by omega) hj2
        · show r.at_ - 1 + 1 + r.n ≤ m
          omega
      · refine .inr (.inr (.inr ?_))
        show r.at_ - 1 + 1 + 2 * r.n ≤ m
        omega
theorem over_iff (r : Rng) : overB r = true ↔ Ovr r := by
  unfold overB
  rw [decide_eq_true_eq]
  refine ⟨fun ⟨h1, h2⟩ => ⟨fun j hj => ?_, List.eq_nil_of_length_eq_zero h2⟩, fun h => ⟨?_, by rw [h.fly]; rfl⟩⟩
  · unfold actL at h1
    rw [List.length_map] at h1
    have h3 := List.eq_nil_of_length_eq_zero h1
    rw [List.filter_eq_nil_iff] at h3
    have := h3 j (List.mem_range.2 hj)
    simpa using this
  · unfold actL
    rw [List.length_map, List.filter_eq_nil_iff.2]
    · rfl
    · intro j hj
      rw [h.act j (List.mem_range.1 hj)]; decide
/-! ### the rounds of TopQuiet -/
def topStep (s : Rng × Nat) (a : Int × Int × Int) : Rng × Nat := (passR (doR s.1 a.1 a.2.1 a.2.2), if overB (doR s.1 a.1 a.2.1 a.2.2) = true then s.2 + 1 else 0)
structure TopInv (n k : Nat) (s : Rng × Nat) : Prop where
  dim : s.1.n = n
  bnd : Bnd (2 * k) s.1
  saf : Saf s.1
  late : s.2 ≤ k
  soon : s.2 = 0 ∨ (Ovr s.1 ∧ (s.1.told = true ∨ ∃ m, Soon m s.1 ∧ s.2 + m ≤ 3 * n))
theorem TopInv.zero {n : Nat} (h0 : 0 < n) (h8 : n ≤ 8) : TopInv n 0 (ring0 n, 0) := ⟨rfl, Bnd.zero h0 h8, Saf.zero, Nat.le_refl _, .inl rfl⟩
structure TopAt (n k : Nat) (s : Rng × Nat) (a : Int × Int × Int) : Prop where
  few0 : Few s.1
  few1 : Few (doR s.1 a.1 a.2.1 a.2.2)
  told : (doR s.1 a.1 a.2.1 a.2.2).told = true → overB (doR s.1 a.1 a.2.1 a.2.2) = true
  pass : passT (doR s.1 a.1 a.2.1 a.2.2) = true → overB (doR s.1 a.1 a.2.1 a.2.2) = true
  err : overB (doR s.1 a.1 a.2.1 a.2.2) = true → passE (doR s.1 a.1 a.2.1 a.2.2) = 0
  late : overB (doR s.1 a.1 a.2.1 a.2.2) = true → passT (doR s.1 a.1 a.2.1 a.2.2) = false → s.2 + 1 ≤ 3 * n + 3
  next : TopInv n (k + 1) (topStep s a)
theorem TopInv.step {n k : Nat} {s : Rng × Nat} (h : TopInv n k s) (hk : k ≤ 400) (a : Int × Int × Int) : TopAt n k s a := by
  have b1 := h.bnd.act (by omega) a.1 a.2.1 a.2.2
  have s1 := h.saf.act h.bnd a.1 a.2.1 a.2.2
  have n1 := n_act s.1 a.1 a.2.1 a.2.2
  have b2 := b1.pass (by omega)
  have hat : (doR s.1 a.1 a.2.1 a.2.2).at_ < (doR s.1 a.1 a.2.1 a.2.2).n := b1.2.2.1
  have s2 := s1.pass hat
  have hn0 : 0 < n := by have := h.bnd.1; rw [h.dim] at this; exact this
  -- what is known where all is over
  have key : Ovr (doR s.1 a.1 a.2.1 a.2.2) → (passR (doR s.1 a.1 a.2.1 a.2.2)).told = true ∨ ∃ m, Soon m (passR (doR s.1 a.1 a.2.1 a.2.2)) ∧ (s.2 + 1) + m ≤ 3 * n := fun ho => by
    have third : Soon (3 * n) (doR s.1 a.1 a.2.1 a.2.2) := .inr (.inr (.inr (by rw [n1, h.dim] at *; omega)))
    rcases h.soon with h0 | ⟨ho0, ht | ⟨m, hm, hl⟩⟩
    · refine .inr ⟨3 * n - 1, soon_pass s1 ho hat (by rw [show 3 * n - 1 + 1 = 3 * n by omega]; exact third), by omega⟩
    · have ht1 : (doR s.1 a.1 a.2.1 a.2.2).told = true := by
        rcases ovr_act ho0 a.1 a.2.1 a.2.2 with e | e
        · rw [e]; exact ht
        · rw [e]; exact told_of_pass ht
      exact .inl (told_of_pass ht1)
    · by_cases ht : s.1.told = true
      · have ht1 : (doR s.1 a.1 a.2.1 a.2.2).told = true := by
          rcases ovr_act ho0 a.1 a.2.1 a.2.2 with e | e
          · rw [e]; exact ht
          · rw [e]; exact told_of_pass ht
        exact .inl (told_of_pass ht1)
      · cases m with
        | zero => exact absurd (soon_zero hm) ht
        | succ m =>
          rcases ovr_act ho0 a.1 a.2.1 a.2.2 with e | e
          · refine .inr ⟨m, soon_pass s1 ho hat (by rw [e]; exact hm), by omega⟩
          · have hm1 : Soon m (doR s.1 a.1 a.2.1 a.2.2) := by rw [e]; exact soon_pass h.saf ho0 h.bnd.2.2.1 hm
            cases m with
            | zero => exact .inl (told_of_pass (soon_zero hm1))
            | succ m => exact .inr ⟨m, soon_pass s1 ho hat hm1, by omega⟩
  refine ⟨h.bnd.few (by omega), b1.few (by omega), fun ht => (over_iff _).2 (s1.told ht), fun ht => (over_iff _).2 (passT_over s1 ht), fun ho => passE_over ((over_iff _).1 ho) hat, fun ho ht => ?_, ?_⟩
  · have ho' := (over_iff _).1 ho
    rcases key ho' with hh | ⟨m, _, hl⟩
    · rw [passT_told ho' hat, ht] at hh; cases hh
    · omega
  · unfold topStep
    refine ⟨by show (passR _).n = n; rw [n_pass, n1, h.dim], ?_, s2, ?_, ?_⟩
    · show Bnd (2 * (k + 1)) _
      exact b2.mono (by omega)
    · by_cases ho : overB (doR s.1 a.1 a.2.1 a.2.2) = true
      · show (if overB (doR s.1 a.1 a.2.1 a.2.2) = true then s.2 + 1 else 0) ≤ k + 1
        rw [if_pos ho]; exact Nat.succ_le_succ h.late
      · show (if overB (doR s.1 a.1 a.2.1 a.2.2) = true then s.2 + 1 else 0) ≤ k + 1
        rw [if_neg ho]; exact Nat.zero_le _
    · by_cases ho : overB (doR s.1 a.1 a.2.1 a.2.2) = true
      · have ho' := (over_iff _).1 ho
        refine .inr ⟨ovr_pass ho', ?_⟩
        rcases key ho' with hh | ⟨m, hm, hl⟩
        · exact .inl hh
        · refine .inr ⟨m, hm, ?_⟩
          show (if overB (doR s.1 a.1 a.2.1 a.2.2) = true then s.2 + 1 else 0) + m ≤ 3 * n
          rw [if_pos ho]; exact hl
      · left
        show (if overB (doR s.1 a.1 a.2.1 a.2.2) = true then s.2 + 1 else 0) = 0
        rw [if_neg ho]
end Go.Proofs.Ytpomhnmfkdgafaa
