/- The plain law of the rings: quiescence is told only when all is over, and soon. -/
import Derived.Test.YtpomhnmfkdgafaaUni
namespace Go.Proofs.Ytpomhnmfkdgafaa
open Go.RowKit
set_option linter.unusedVariables false
set_option linter.unusedSimpArgs false
/-- an act -/
def doR (r : Rng) (d x y : Int) : Rng := if (d.tmod 4 + 4).tmod 4 = 0 then sendR r x y else if (d.tmod 4 + 4).tmod 4 = 1 then rcvR r x else if (d.tmod 4 + 4).tmod 4 = 2 then idleR r x else passR r
/-! ### bounds -/
def Bnd (k : Nat) (r : Rng) : Prop := 0 < r.n ∧ r.n ≤ 8 ∧ r.at_ < r.n ∧ (∀ j, -(k : Int) ≤ r.cnt j ∧ r.cnt j ≤ k) ∧ -(1000 * (k : Int)) ≤ r.sum ∧ r.sum ≤ 1000 * (k : Int) ∧ r.fly.length ≤ k ∧ r.passes ≤ k ∧ ∀ x ∈ r.fly, 0 ≤ x.2 ∧ x.2 < r.n
theorem Bnd.few {k : Nat} {r : Rng} (h : Bnd k r) (hk : k ≤ 1000) : Few r := by
  obtain ⟨h1, h2, h3, h4, h5, h6, h7, h8, h9⟩ := h
  exact ⟨h1, by omega, h3, fun j => by have := h4 j; omega, by omega, by omega, by omega, by omega, h9⟩
theorem Bnd.mono {k m : Nat} {r : Rng} (h : Bnd k r) (hk : k ≤ m) : Bnd m r := by
  obtain ⟨h1, h2, h3, h4, h5, h6, h7, h8, h9⟩ := h
  exact ⟨h1, h2, h3, fun j => by have := h4 j; omega, by omega, by omega, by omega, by omega, h9⟩
theorem Bnd.zero {n : Nat} (h0 : 0 < n) (h8 : n ≤ 8) : Bnd 0 (ring0 n) := ⟨h0, h8, h0, fun _ => ⟨Int.le_refl _, Int.le_refl _⟩, Int.le_refl _, Int.le_refl _, Nat.le_refl _, Nat.le_refl _, fun x hx => by cases hx⟩
theorem Bnd.pass {k : Nat} {r : Rng} (h : Bnd k r) (hk : k ≤ 1000) : Bnd (k + 1) (passR r) := by
  have h' := h.mono (Nat.le_succ k)
  obtain ⟨h1, h2, h3, h4, h5, h6, h7, h8, h9⟩ := h
  obtain ⟨g1, g2, g3, g4, g5, g6, g7, g8, g9⟩ := h'
  unfold passR
  split
  · exact ⟨g1, g2, g3, g4, g5, g6, g7, g8, g9⟩
  · split
    · exact ⟨g1, g2, g3, g4, g5, g6, g7, g8, g9⟩
    · split
      · split
        · exact ⟨g1, g2, g3, g4, g5, g6, g7, Nat.succ_le_succ h8, g9⟩
        · exact ⟨g1, g2, by show r.n - 1 < r.n; omega, g4, by show _ ≤ (0 : Int); omega, by show (0 : Int) ≤ _; omega, g7, Nat.succ_le_succ h8, g9⟩
      · have := h4 r.at_
        exact ⟨g1, g2, by show r.at_ - 1 < r.n; omega, g4, by show _ ≤ r.sum + r.cnt r.at_; omega, by show r.sum + r.cnt r.at_ ≤ _; omega, g7, Nat.succ_le_succ h8, g9⟩
theorem upF_bnd {c : Nat → Int} {k : Nat} {p : Nat} {x : Int} (h : ∀ j, -(k : Int) ≤ c j ∧ c j ≤ k) (h1 : -((k : Int) + 1) ≤ x) (h2 : x ≤ (k : Int) + 1) : ∀ j, -((k + 1 : Nat) : Int) ≤ upF c p x j ∧ upF c p x j ≤ ((k + 1 : Nat) : Int) := fun j => by
  by_cases hj : j = p
  · subst hj; rw [upF_same]; omega
  · rw [upF_other c p x hj]; have := h j; omega
theorem Bnd.send {k : Nat} {r : Rng} (h : Bnd k r) (p q : Int) : Bnd (k + 1) (sendR r p q) := by
  have h' := h.mono (Nat.le_succ k)
  unfold sendR errSend
  by_cases hc : 0 ≤ p ∧ p < r.n ∧ 0 ≤ q ∧ q < r.n
  · rw [if_pos hc]
    by_cases ha : r.act p.toNat = true
    · rw [if_pos ha, if_pos rfl]
      obtain ⟨h1, h2, h3, h4, h5, h6, h7, h8, h9⟩ := h
      obtain ⟨g1, g2, g3, g4, g5, g6, g7, g8, g9⟩ := h'
      have := h4 p.toNat
      refine ⟨g1, g2, g3, upF_bnd h4 (by omega) (by omega), g5, g6, by show (r.fly ++ [(p, q)]).length ≤ _; simp; exact h7, g8, fun x hx => ?_⟩
      rcases List.mem_append.1 hx with hx | hx
      · exact h9 x hx
      · simp at hx; subst hx; exact ⟨hc.2.2.1, hc.2.2.2⟩
    · rw [if_neg ha, if_neg (by decide)]; exact h'
  · rw [if_neg hc, if_neg (by decide)]; exact h'
theorem Bnd.idle {k : Nat} {r : Rng} (h : Bnd k r) (p : Int) : Bnd (k + 1) (idleR r p) := by
  have h' := h.mono (Nat.le_succ k)
  unfold idleR
  split
  · exact h'
  · exact h'
theorem Bnd.rcv {k : Nat} {r : Rng} (h : Bnd k r) (p : Int) : Bnd (k + 1) (rcvR r p) := by
  have h' := h.mono (Nat.le_succ k)
  unfold rcvR
  split
  · obtain ⟨h1, h2, h3, h4, h5, h6, h7, h8, h9⟩ := h
    obtain ⟨g1, g2, g3, g4, g5, g6, g7, g8, g9⟩ := h'
    have := h4 (toF r p)
    exact ⟨g1, g2, g3, upF_bnd h4 (by omega) (by omega), g5, g6, Nat.le_trans (List.length_eraseIdx_le _ _) g7, g8, fun x hx => h9 x (List.mem_of_mem_eraseIdx hx)⟩
  · exact h'
theorem Bnd.act {k : Nat} {r : Rng} (h : Bnd k r) (hk : k ≤ 1000) (d x y : Int) : Bnd (k + 1) (doR r d x y) := by
  unfold doR
  split
  · exact h.send x y
  · split
    · exact h.rcv x
    · split
      · exact h.idle x
      · exact h.pass hk
/-! ### sums -/
def sumTo (f : Nat → Int) : Nat → Int
  | 0 => 0
  | k + 1 => sumTo f k + f k
theorem sum_up (f : Nat → Int) (p : Nat) (x : Int) : ∀ k, sumTo (upF f p x) k = sumTo f k + if p < k then x - f p else 0
  | 0 => by simp [sumTo]
  | k + 1 => by
    show sumTo (upF f p x) k + upF f p x k = sumTo f k + f k + _
    rw [sum_up f p x k]
    by_cases h : k = p
    · subst h
      rw [upF_same, if_neg (Nat.lt_irrefl k), if_pos (Nat.lt_succ_self k)]
      omega
    · rw [upF_other f p x h]
      by_cases h2 : p < k
      · rw [if_pos h2, if_pos (by omega)]; omega
      · rw [if_neg h2, if_neg (by omega)]; omega
theorem sum_zero : ∀ k, sumTo (fun _ => 0) k = 0
  | 0 => rfl
  | k + 1 => by show sumTo (fun _ => 0) k + 0 = 0; rw [sum_zero k]; rfl
/-! ### never before all is over -/
structure Ovr (r : Rng) : Prop where
  act : ∀ j, j < r.n → r.act j = false
  fly : r.fly = []
def P1 (r : Rng) : Prop := (∀ j, r.at_ < j → j < r.n → r.act j = false) ∧ sumTo r.cnt r.n - sumTo r.cnt (r.at_ + 1) = r.sum
def P2 (r : Rng) : Prop := 0 < sumTo r.cnt (r.at_ + 1) + r.sum
def P3 (r : Rng) : Prop := ∃ j, j ≤ r.at_ ∧ r.blk j = true
structure Saf (r : Rng) : Prop where
  sum : sumTo r.cnt r.n = r.fly.length
  told : r.told = true → Ovr r
  open_ : r.told = false → r.fresh = true ∨ P1 r ∨ P2 r ∨ P3 r ∨ r.dark = true
theorem Saf.zero {n : Nat} : Saf (ring0 n) := ⟨sum_zero n, (fun h => by cases h), fun _ => .inl rfl⟩
theorem end_over {r : Rng} (h : Saf r) (ht : r.told = false) (ha : r.act r.at_ = false) (h0 : r.at_ = 0) (he : endB r = true) : Ovr r := by
  obtain ⟨e1, e2, e3, e4⟩ := (end_iff r).1 he
  rcases h.open_ ht with h1 | h1 | h1 | h1 | h1
  · rw [e1] at h1; cases h1
  · obtain ⟨p1, p2⟩ := h1
    rw [h0] at p1 p2 ha
    have hs : sumTo r.cnt (0 + 1) = r.cnt 0 := by show 0 + r.cnt 0 = _; omega
    rw [hs, h.sum] at p2
    refine ⟨fun j hj => ?_, List.eq_nil_of_length_eq_zero (by omega)⟩
    by_cases hj0 : j = 0
    · subst hj0; exact ha
    · exact p1 j (by omega) hj
  · unfold P2 at h1
    rw [h0] at h1
    have hs : sumTo r.cnt (0 + 1) = r.cnt 0 := by show 0 + r.cnt 0 = _; omega
    omega
  · obtain ⟨j, h1, h2⟩ := h1
    rw [h0] at h1
    obtain rfl : j = 0 := by omega
    rw [e3] at h2; cases h2
  · rw [e2] at h1; cases h1
theorem Saf.pass {r : Rng} (h : Saf r) (hn : r.at_ < r.n) : Saf (passR r) := by
  unfold passR
  by_cases h1 : r.told = true
  · rw [if_pos h1]; exact h
  · rw [if_neg h1]
    have ht : r.told = false := by simpa using h1
    by_cases h2 : r.act r.at_ = true
    · rw [if_pos h2]; exact h
    · rw [if_neg h2]
      have ha : r.act r.at_ = false := by simpa using h2
      by_cases h3 : r.at_ = 0
      · rw [if_pos h3]
        by_cases h4 : endB r = true
        · rw [if_pos h4]
          have ho := end_over h ht ha h3 h4
          exact ⟨h.sum, fun _ => ⟨ho.act, ho.fly⟩, fun hh => by cases hh⟩
        · rw [if_neg h4]
          refine ⟨h.sum, fun hh => absurd hh h1, fun _ => .inr (.inl ⟨fun j hj hj2 => ?_, ?_⟩)⟩
          · have hj' : r.n - 1 < j := hj
            have hj2' : j < r.n := hj2
            omega
          · show sumTo r.cnt r.n - sumTo r.cnt (r.n - 1 + 1) = 0
            rw [show r.n - 1 + 1 = r.n by omega]; omega
      · rw [if_neg h3]
        obtain ⟨k, hk⟩ : ∃ k, r.at_ = k + 1 := ⟨r.at_ - 1, by omega⟩
        refine ⟨h.sum, fun hh => absurd hh h1, fun _ => ?_⟩
        have hs : sumTo r.cnt (r.at_ + 1) = sumTo r.cnt r.at_ + r.cnt r.at_ := rfl
        have e : r.at_ - 1 + 1 = r.at_ := by omega
        rcases h.open_ ht with o | o | o | o | o
        · exact .inl o
        · refine .inr (.inl ⟨fun j hj hj2 => ?_, ?_⟩)
          · have hj' : r.at_ - 1 < j := hj
            by_cases hja : j = r.at_
            · rw [hja]; exact ha
            · exact o.1 j (by omega) hj2
          · show sumTo r.cnt r.n - sumTo r.cnt (r.at_ - 1 + 1) = r.sum + r.cnt r.at_
            have := o.2
            rw [e]; omega
        · refine .inr (.inr (.inl ?_))
          show 0 < sumTo r.cnt (r.at_ - 1 + 1) + (r.sum + r.cnt r.at_)
          have : 0 < sumTo r.cnt (r.at_ + 1) + r.sum := o
          rw [e]; omega
        · obtain ⟨j, h5, h6⟩ := o
          by_cases hja : j = r.at_
          · refine .inr (.inr (.inr (.inr ?_)))
            show (r.dark || r.blk r.at_) = true
            rw [← hja, h6, Bool.or_true]
          · refine .inr (.inr (.inr (.inl ⟨j, ?_, ?_⟩)))
            · show j ≤ r.at_ - 1; omega
            · show upF r.blk r.at_ false j = true
              rw [upF_other _ _ _ hja]; exact h6
        · refine .inr (.inr (.inr (.inr ?_)))
          show (r.dark || r.blk r.at_) = true
          rw [o, Bool.true_or]
theorem Saf.send {r : Rng} (h : Saf r) (p q : Int) : Saf (sendR r p q) := by
  unfold sendR errSend
  by_cases hc : 0 ≤ p ∧ p < r.n ∧ 0 ≤ q ∧ q < r.n
  · rw [if_pos hc]
    by_cases ha : r.act p.toNat = true
    · rw [if_pos ha, if_pos rfl]
      have hpn : p.toNat < r.n := by omega
      refine ⟨?_, fun hh => ?_, fun ht => ?_⟩
      · show sumTo (upF r.cnt p.toNat _) r.n = ((r.fly ++ [(p, q)]).length : Int)
        rw [sum_up, if_pos hpn, h.sum]
        simp; omega
      · have := (h.told hh).act p.toNat hpn
        rw [ha] at this; cases this
      · rcases h.open_ ht with o | o | o | o | o
        · exact .inl o
        · refine .inr (.inl ⟨o.1, ?_⟩)
          show sumTo (upF r.cnt p.toNat _) r.n - sumTo (upF r.cnt p.toNat _) (r.at_ + 1) = r.sum
          have hle : p.toNat < r.at_ + 1 := by
            by_cases hl : p.toNat < r.at_ + 1
            · exact hl
            · have := o.1 p.toNat (by omega) hpn
              rw [ha] at this; cases this
          rw [sum_up, sum_up, if_pos hpn, if_pos hle]
          have := o.2
          omega
        · refine .inr (.inr (.inl ?_))
          show 0 < sumTo (upF r.cnt p.toNat _) (r.at_ + 1) + r.sum
          have o' : 0 < sumTo r.cnt (r.at_ + 1) + r.sum := o
          rw [sum_up]
          split <;> omega
        · exact .inr (.inr (.inr (.inl o)))
        · exact .inr (.inr (.inr (.inr o)))
    · rw [if_neg ha, if_neg (by decide)]; exact h
  · rw [if_neg hc, if_neg (by decide)]; exact h
theorem Saf.idle {r : Rng} (h : Saf r) (p : Int) : Saf (idleR r p) := by
  unfold idleR
  split
  · refine ⟨h.sum, fun hh => ⟨fun j hj => ?_, (h.told hh).fly⟩, fun ht => ?_⟩
    · show upF r.act p.toNat false j = false
      by_cases hjp : j = p.toNat
      · rw [hjp, upF_same]
      · rw [upF_other _ _ _ hjp]; exact (h.told hh).act j hj
    · rcases h.open_ ht with o | o | o | o | o
      · exact .inl o
      · refine .inr (.inl ⟨fun j hj hj2 => ?_, o.2⟩)
        show upF r.act p.toNat false j = false
        by_cases hjp : j = p.toNat
        · rw [hjp, upF_same]
        · rw [upF_other _ _ _ hjp]; exact o.1 j hj hj2
      · exact .inr (.inr (.inl o))
      · exact .inr (.inr (.inr (.inl o)))
      · exact .inr (.inr (.inr (.inr o)))
  · exact h
theorem Saf.rcv {r : Rng} (h : Saf r) (p : Int) (hb : ∀ x ∈ r.fly, 0 ≤ x.2 ∧ x.2 < r.n) : Saf (rcvR r p) := by
  unfold rcvR
  by_cases hc : 0 ≤ p ∧ p < r.fly.length
  · rw [if_pos hc]
    have hp : p.toNat < r.fly.length := by omega
    have hto : toF r p < r.n := by
      have h1 := hb r.fly[p.toNat] (List.getElem_mem hp)
      unfold toF
      rw [List.getElem?_eq_getElem hp]
      simp only [Option.getD_some]
      omega
    generalize toF r p = t at hto
    have hlen : (r.fly.eraseIdx p.toNat).length = r.fly.length - 1 := by rw [List.length_eraseIdx, if_pos hp]
    refine ⟨?_, fun hh => ?_, fun ht => ?_⟩
    · show sumTo (upF r.cnt t _) r.n = ((r.fly.eraseIdx p.toNat).length : Int)
      rw [sum_up, if_pos hto, h.sum, hlen]
      omega
    · have := (h.told hh).fly
      rw [this] at hp; simp at hp
    · by_cases hta : t ≤ r.at_
      · refine .inr (.inr (.inr (.inl ⟨t, hta, ?_⟩)))
        show upF r.blk t true t = true
        exact upF_same _ _ _
      · have key : 0 < sumTo r.cnt (r.at_ + 1) + r.sum → P2 (recvR r p.toNat t) := fun hh => by
          show 0 < sumTo (upF r.cnt t _) (r.at_ + 1) + r.sum
          rw [sum_up, if_neg (by omega)]; omega
        rcases h.open_ ht with o | o | o | o | o
        · exact .inl o
        · refine .inr (.inr (.inl (key ?_)))
          have := o.2
          have := h.sum
          omega
        · exact .inr (.inr (.inl (key o)))
        · obtain ⟨j, h5, h6⟩ := o
          refine .inr (.inr (.inr (.inl ⟨j, h5, ?_⟩)))
          show upF r.blk t true j = true
          rw [upF_other _ _ _ (by omega)]; exact h6
        · exact .inr (.inr (.inr (.inr o)))
  · rw [if_neg hc]; exact h
theorem Saf.act {r : Rng} {k : Nat} (h : Saf r) (hb : Bnd k r) (d x y : Int) : Saf (doR r d x y) := by
  unfold doR
  split
  · exact h.send x y
  · split
    · exact h.rcv x hb.2.2.2.2.2.2.2.2
    · split
      · exact h.idle x
      · exact h.pass hb.2.2.1
end Go.Proofs.Ytpomhnmfkdgafaa
