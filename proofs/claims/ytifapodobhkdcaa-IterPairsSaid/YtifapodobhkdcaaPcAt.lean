/- The r-th index of a place's piece. -/
import Derived.Test.YtifapodobhkdcaaDs5
namespace Go.Proofs.Ytifapodobhkdcaa
open Go.RowKit
set_option linter.unusedVariables false
set_option linter.unusedSimpArgs false
set_option maxRecDepth 100000
/-- which one of its owner's the j-th index is -/
def locN (k : Kd) (n o : Nat) (c0 : Rg) (ct : List Rg) (j : Nat) : Nat := locV k n o c0 ct (ithX (c0 :: ct) j)
theorem loc_inj {k : Kd} {n o : Nat} (hk : OkDs k n o) {c0 : Rg} {ct : List Rg} (hs : SpOk c0 ct) {i j : Nat} (hi : i < cN c0 * iN c0 ct) (hj : j < cN c0 * iN c0 ct) (he : own k n o (cN c0) (i / iN c0 ct) = own k n o (cN c0) (j / iN c0 ct)) (hl : locN k n o c0 ct i = locN k n o c0 ct j) : i = j := by
  obtain ⟨_, _, a⟩ := loc_at hk hs hi
  obtain ⟨_, _, b⟩ := loc_at hk hs hj
  have hl' : locV k n o c0 ct (ithX (c0 :: ct) i) = locV k n o c0 ct (ithX (c0 :: ct) j) := hl
  rw [he, hl', b] at a
  have p1 := (at_find hs hi).2.2.1
  have p2 := (at_find hs hj).2.2.1
  rw [← a] at p1
  omega
/-- the r-th index of a place's piece: where it stands, its owner, which one it is -/
theorem piece_at {k : Kd} {n o : Nat} (hk : OkDs k n o) {c0 : Rg} {ct : List Rg} (hs : SpOk c0 ct) {p r : Nat} (hr : r < (plX c0 ct (ow k n o (cN c0) p)).length) :
    ∃ a, a < cN c0 * iN c0 ct ∧ (plX c0 ct (ow k n o (cN c0) p))[r] = ithX (c0 :: ct) a ∧ own k n o (cN c0) (a / iN c0 ct) = p ∧ locN k n o c0 ct a = r := by
  have hlt : ∀ j ∈ ow k n o (cN c0) p, j < cN c0 := fun j hj => ow_lt j hj
  have hr2 : r < (ow k n o (cN c0) p).length * prodN (cl ct) := by rw [plX_len] at hr; exact hr
  have hne : 0 < (ow k n o (cN c0) p).length := Nat.pos_of_ne_zero fun e => by rw [e, Nat.zero_mul] at hr2; omega
  have hz : cN c0 ≠ 0 := fun e => by have := hlt _ (List.getElem_mem hne); omega
  have e : iN c0 ct = prodN (cl ct) := by unfold iN; rw [if_neg hz]
  have hW : 0 < prodN (cl ct) := Nat.pos_of_ne_zero fun e => by rw [e, Nat.mul_zero] at hr2; omega
  have hq : r / prodN (cl ct) < (ow k n o (cN c0) p).length := Nat.div_lt_of_lt_mul (by rwa [Nat.mul_comm])
  have hm := Nat.mod_lt r hW
  have g := plX_get hlt hq hm
  have hdm : r / prodN (cl ct) * prodN (cl ct) + r % prodN (cl ct) = r := by rw [Nat.mul_comm]; exact Nat.div_add_mod _ _
  rw [hdm] at g
  have hlq := hlt _ (List.getElem_mem hq)
  have h2 := Nat.mul_le_mul_right (prodN (cl ct)) (show (ow k n o (cN c0) p)[r / prodN (cl ct)] + 1 ≤ cN c0 by omega)
  rw [Nat.add_mul, Nat.one_mul] at h2
  have ha : (ow k n o (cN c0) p)[r / prodN (cl ct)] * prodN (cl ct) + r % prodN (cl ct) < cN c0 * iN c0 ct := by rw [e]; omega
  have hd : ((ow k n o (cN c0) p)[r / prodN (cl ct)] * prodN (cl ct) + r % prodN (cl ct)) / iN c0 ct = (ow k n o (cN c0) p)[r / prodN (cl ct)] := by
    rw [e, Nat.mul_comm, Nat.mul_add_div hW, Nat.div_eq_of_lt hm, Nat.add_zero]
  have hmd : ((ow k n o (cN c0) p)[r / prodN (cl ct)] * prodN (cl ct) + r % prodN (cl ct)) % iN c0 ct = r % prodN (cl ct) := by
    rw [e, Nat.mul_comm, Nat.mul_add_mod, Nat.mod_mod]
  have ho : own k n o (cN c0) (ow k n o (cN c0) p)[r / prodN (cl ct)] = p := (ow_mem.1 (List.getElem_mem hq)).2
  refine ⟨_, ha, (List.getElem?_eq_some_iff.1 g).2, by rw [hd]; exact ho, ?_⟩
  obtain ⟨_, _, _, _, _, a6⟩ := own_at hk hs ha
  unfold locN
  rw [a6, hd, ho, hmd, e]
  have hnd : (ow k n o (cN c0) p).Nodup := ow_nodup _ _ _ _ _
  have hmem : (ow k n o (cN c0) p)[r / prodN (cl ct)] ∈ ow k n o (cN c0) p := List.getElem_mem hq
  obtain ⟨q', hq', b1, b2, b3⟩ := idx_of hmem
  have hqq : q' = r / prodN (cl ct) := by
    have hp := List.nodup_iff_pairwise_ne.1 hnd
    rcases Nat.lt_trichotomy q' (r / prodN (cl ct)) with h | h | h
    · exact absurd b2 (List.pairwise_iff_getElem.1 hp _ _ b1 hq h)
    · exact h
    · exact absurd b2.symm (List.pairwise_iff_getElem.1 hp _ _ hq b1 h)
  rw [← hq', hqq]
  exact hdm
theorem pl_len {c0 : Rg} {ct : List Rg} (k : Kd) (n o p : Nat) : (plX c0 ct (ow k n o (cN c0) p)).length = (ow k n o (cN c0) p).length * iN c0 ct := by
  rw [plX_len]
  by_cases hz : cN c0 = 0
  · have : ow k n o (cN c0) p = [] := by rw [hz]; rfl
    rw [this]; simp
  · have : iN c0 ct = prodN (cl ct) := by unfold iN; rw [if_neg hz]
    rw [this]
theorem pl_few {c0 : Rg} {ct : List Rg} (hs : SpOk c0 ct) (k : Kd) (n o p : Nat) : (plX c0 ct (ow k n o (cN c0) p)).length ≤ 4096 := by
  rw [pl_len]
  have hP : cN c0 * iN c0 ct ≤ 4096 := by rw [iN_mul]; exact (domB_iff.1 hs.dom).2.2
  exact Nat.le_trans (Nat.mul_le_mul_right _ (ow_len k n o (cN c0) p)) hP
/-- an index of the domain: which one of its owner's piece it is, and no other one -/
theorem at_piece {k : Kd} {n o : Nat} (hk : OkDs k n o) {c0 : Rg} {ct : List Rg} (hs : SpOk c0 ct) {a : Nat} (ha : a < cN c0 * iN c0 ct) {p : Nat} (hp : own k n o (cN c0) (a / iN c0 ct) = p) :
    ∃ h : locN k n o c0 ct a < (plX c0 ct (ow k n o (cN c0) p)).length, (plX c0 ct (ow k n o (cN c0) p))[locN k n o c0 ct a] = ithX (c0 :: ct) a ∧
      ∀ r (hr : r < (plX c0 ct (ow k n o (cN c0) p)).length), r < locN k n o c0 ct a → (plX c0 ct (ow k n o (cN c0) p))[r] ≠ ithX (c0 :: ct) a := by
  subst hp
  have hl : locN k n o c0 ct a < (plX c0 ct (ow k n o (cN c0) (own k n o (cN c0) (a / iN c0 ct)))).length := by rw [pl_len]; exact (loc_at hk hs ha).1
  refine ⟨hl, ?_, fun r hr hlt e => ?_⟩
  · obtain ⟨b, b1, b2, b3, b4⟩ := piece_at hk hs hl
    rw [b2, loc_inj hk hs b1 ha b3 b4]
  · obtain ⟨b, b1, b2, b3, b4⟩ := piece_at hk hs hr
    rw [b2] at e
    have p1 := (at_find hs b1).2.2.1
    have p2 := (at_find hs ha).2.2.1
    rw [e, p2] at p1
    subst p1
    omega
end Go.Proofs.Ytifapodobhkdcaa
