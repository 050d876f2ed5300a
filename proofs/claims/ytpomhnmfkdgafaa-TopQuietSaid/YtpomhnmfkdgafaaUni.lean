/- One step of a ring, as a function, and the contracts of both rings' methods in its words. -/
import Derived.Test.YtpomhnmfkdgafaaRcvS
namespace Go.Proofs.Ytpomhnmfkdgafaa
open Go.RowKit
set_option linter.unusedVariables false
set_option maxHeartbeats 16000000
set_option linter.unusedSimpArgs false
set_option maxRecDepth 100000
/-- may quiescence be told now? -/
def endB (r : Rng) : Bool := !r.fresh && !r.dark && !r.blk 0 && decide (r.sum + r.cnt 0 = 0)
def passR (r : Rng) : Rng :=
  if r.told = true then r else if r.act r.at_ = true then r
  else if r.at_ = 0 then (if endB r = true then { r with told := true, passes := r.passes + 1 } else { r with at_ := r.n - 1, sum := 0, dark := false, fresh := false, blk := upF r.blk 0 false, passes := r.passes + 1 })
  else { r with at_ := r.at_ - 1, sum := r.sum + r.cnt r.at_, dark := r.dark || r.blk r.at_, blk := upF r.blk r.at_ false, passes := r.passes + 1 }
def passT (r : Rng) : Bool := if r.told = true then true else if r.act r.at_ = true then false else if r.at_ = 0 then endB r else false
def passE (r : Rng) : Int := if r.told = true then 0 else if r.act r.at_ = true then 171 else 0
theorem end_iff (r : Rng) : endB r = true ↔ (r.fresh = false ∧ r.dark = false ∧ r.blk 0 = false ∧ r.sum + r.cnt 0 = 0) := by
  unfold endB
  simp only [Bool.and_eq_true, Bool.not_eq_true', decide_eq_true_eq, and_assoc]
theorem pass_dm (B c : Nat) (r : Rng) (hr : Few r) : DM Try.prog 11 (some (B, c)) 3 (ringM r) [.pin B c 0 0] 3 (ringM (passR r)) (.tup [bD (passT r), iD (passE r)]) := by
  unfold passR passT passE
  by_cases h1 : r.told = true
  · rw [if_pos h1, if_pos h1, if_pos h1]; exact pass_told B c r hr h1
  · rw [if_neg h1, if_neg h1, if_neg h1]
    have h1' : r.told = false := by simpa using h1
    by_cases h2 : r.act r.at_ = true
    · rw [if_pos h2, if_pos h2, if_pos h2]; exact pass_wait B c r hr h1' h2
    · rw [if_neg h2, if_neg h2, if_neg h2]
      have h2' : r.act r.at_ = false := by simpa using h2
      by_cases h3 : r.at_ = 0
      · rw [if_pos h3, if_pos h3]
        by_cases h4 : endB r = true
        · rw [if_pos h4, h4]
          obtain ⟨e1, e2, e3, e4⟩ := (end_iff r).1 h4
          exact pass_end B c r hr h3 h1' h2' e1 e2 (by rw [h3]; exact e3) (by rw [h3]; exact e4)
        · rw [if_neg h4, show endB r = false by simpa using h4]
          have h := pass_new B c r hr h3 h1' h2' (fun hh => h4 ((end_iff r).2 (by rw [h3] at hh; exact hh)))
          rw [h3] at h
          exact h
      · rw [if_neg h3, if_neg h3]
        exact pass_on B c r hr (r.at_ - 1) (by omega) h1' h2'
theorem passS_dm (B c : Nat) (r : Rng) (hr : Few r) : DM Try.prog 12 (some (B, c)) 5 (ringSM r) [.pin B c 0 0] 5 (ringSM (passR r)) (.tup [bD (passT r), iD (passE r)]) := by
  unfold passR passT passE
  by_cases h1 : r.told = true
  · rw [if_pos h1, if_pos h1, if_pos h1]; exact passS_told B c r hr h1
  · rw [if_neg h1, if_neg h1, if_neg h1]
    have h1' : r.told = false := by simpa using h1
    by_cases h2 : r.act r.at_ = true
    · rw [if_pos h2, if_pos h2, if_pos h2]; exact passS_wait B c r hr h1' h2
    · rw [if_neg h2, if_neg h2, if_neg h2]
      have h2' : r.act r.at_ = false := by simpa using h2
      by_cases h3 : r.at_ = 0
      · rw [if_pos h3, if_pos h3]
        by_cases h4 : endB r = true
        · rw [if_pos h4, h4]
          obtain ⟨e1, e2, e3, e4⟩ := (end_iff r).1 h4
          exact passS_end B c r hr h3 h1' h2' e1 e2 e3 e4
        · rw [if_neg h4, show endB r = false by simpa using h4]
          exact passS_new B c r hr h3 h1' h2' (fun hh => h4 ((end_iff r).2 hh))
      · rw [if_neg h3, if_neg h3]
        exact passS_on B c r hr (r.at_ - 1) (by omega) h1' h2'
theorem send_dm (B c : Nat) (r : Rng) (hr : Few r) (p q : Int) : DM Try.prog 17 (some (B, c)) 3 (ringM r) [.pin B c 0 0, iD p, iD q] 3 (ringM (sendR r p q)) (iD (errSend r p q)) := by
  unfold sendR errSend
  by_cases h : 0 ≤ p ∧ p < r.n ∧ 0 ≤ q ∧ q < r.n
  · obtain ⟨p', rfl⟩ := Int.eq_ofNat_of_zero_le h.1
    obtain ⟨q', rfl⟩ := Int.eq_ofNat_of_zero_le h.2.2.1
    rw [if_pos h, Int.toNat_natCast]
    by_cases ha : r.act p' = true
    · rw [if_pos ha, if_pos rfl]; exact send_ok B c r hr p' q' (by omega) (by omega) ha
    · rw [if_neg ha, if_neg (by decide)]; exact send_idle B c r hr p' q' (by omega) (by omega) (by simpa using ha)
  · rw [if_neg h, if_neg (by decide)]; exact send_arg B c r hr p q h
theorem sendS_dm (B c : Nat) (r : Rng) (hr : Few r) (p q : Int) : DM Try.prog 18 (some (B, c)) 5 (ringSM r) [.pin B c 0 0, iD p, iD q] 5 (ringSM (sendR r p q)) (iD (errSend r p q)) := by
  unfold sendR errSend
  by_cases h : 0 ≤ p ∧ p < r.n ∧ 0 ≤ q ∧ q < r.n
  · obtain ⟨p', rfl⟩ := Int.eq_ofNat_of_zero_le h.1
    obtain ⟨q', rfl⟩ := Int.eq_ofNat_of_zero_le h.2.2.1
    rw [if_pos h, Int.toNat_natCast]
    by_cases ha : r.act p' = true
    · rw [if_pos ha, if_pos rfl]; exact sendS_ok B c r hr p' q' (by omega) (by omega) ha
    · rw [if_neg ha, if_neg (by decide)]; exact sendS_idle B c r hr p' q' (by omega) (by omega) (by simpa using ha)
  · rw [if_neg h, if_neg (by decide)]; exact sendS_arg B c r hr p q h
def idleR (r : Rng) (p : Int) : Rng := if 0 ≤ p ∧ p < r.n ∧ r.act p.toNat = true then { r with act := upF r.act p.toNat false } else r
def idleE (r : Rng) (p : Int) : Int := if 0 ≤ p ∧ p < r.n then (if r.act p.toNat = true then 0 else 170) else 2
theorem idle_dm (B c : Nat) (r : Rng) (hr : Few r) (p : Int) : DM Try.prog 16 (some (B, c)) 3 (ringM r) [.pin B c 0 0, iD p] 3 (ringM (idleR r p)) (iD (idleE r p)) := by
  unfold idleR idleE
  by_cases h : 0 ≤ p ∧ p < r.n
  · obtain ⟨p', rfl⟩ := Int.eq_ofNat_of_zero_le h.1
    rw [if_pos h, Int.toNat_natCast]
    by_cases ha : r.act p' = true
    · rw [if_pos ha, if_pos ⟨h.1, h.2, ha⟩]; exact idle_ok B c r hr p' (by omega) ha
    · rw [if_neg ha, if_neg (fun hh => ha hh.2.2)]; exact idle_ring B c r hr p' (by omega) (by simpa using ha)
  · rw [if_neg h, if_neg (fun hh => h ⟨hh.1, hh.2.1⟩)]; exact idle_arg B c r hr p h
theorem idleS_dm (B c : Nat) (r : Rng) (hr : Few r) (p : Int) : DM Try.prog 21 (some (B, c)) 5 (ringSM r) [.pin B c 0 0, iD p] 5 (ringSM (idleR r p)) (iD (idleE r p)) := by
  unfold idleR idleE
  by_cases h : 0 ≤ p ∧ p < r.n
  · obtain ⟨p', rfl⟩ := Int.eq_ofNat_of_zero_le h.1
    rw [if_pos h, Int.toNat_natCast]
    by_cases ha : r.act p' = true
    · rw [if_pos ha, if_pos ⟨h.1, h.2, ha⟩]; exact idleS_ok B c r hr p' (by omega) ha
    · rw [if_neg ha, if_neg (fun hh => ha hh.2.2)]; exact idleS_ring B c r hr p' (by omega) (by simpa using ha)
  · rw [if_neg h, if_neg (fun hh => h ⟨hh.1, hh.2.1⟩)]; exact idleS_arg B c r hr p h
def toF (r : Rng) (k : Int) : Nat := ((r.fly[k.toNat]?).getD (0, 0)).2.toNat
def rcvR (r : Rng) (k : Int) : Rng := if 0 ≤ k ∧ k < r.fly.length then recvR r k.toNat (toF r k) else r
def rcvE (r : Rng) (k : Int) : Int := if 0 ≤ k ∧ k < r.fly.length then 0 else 2
theorem toF_ok {r : Rng} (hr : Few r) {k : Nat} (hk : k < r.fly.length) : toF r k < r.n ∧ r.fly[k].2 = (toF r k : Int) := by
  have h := hr.2.2.2.2.2.2.2.2 r.fly[k] (List.getElem_mem hk)
  unfold toF
  rw [Int.toNat_natCast, List.getElem?_eq_getElem hk]
  simp only [Option.getD_some]
  omega
theorem rcv_dm (B c : Nat) (r : Rng) (hr : Few r) (k : Int) : DM Try.prog 19 (some (B, c)) 3 (ringM r) [.pin B c 0 0, iD k] 3 (ringM (rcvR r k)) (iD (rcvE r k)) := by
  unfold rcvR rcvE
  by_cases h : 0 ≤ k ∧ k < r.fly.length
  · rw [if_pos h, if_pos h]
    obtain ⟨k', rfl⟩ := Int.eq_ofNat_of_zero_le h.1
    have hk : k' < r.fly.length := by omega
    obtain ⟨h1, h2⟩ := toF_ok hr hk
    rw [Int.toNat_natCast]
    exact recv_ok B c r hr k' _ hk h1 h2
  · rw [if_neg h, if_neg h]; exact recv_arg B c r hr k (by omega)
theorem rcvS_dm (B c : Nat) (r : Rng) (hr : Few r) (k : Int) : DM Try.prog 20 (some (B, c)) 5 (ringSM r) [.pin B c 0 0, iD k] 5 (ringSM (rcvR r k)) (iD (rcvE r k)) := by
  unfold rcvR rcvE
  by_cases h : 0 ≤ k ∧ k < r.fly.length
  · rw [if_pos h, if_pos h]
    obtain ⟨k', rfl⟩ := Int.eq_ofNat_of_zero_le h.1
    have hk : k' < r.fly.length := by omega
    obtain ⟨h1, h2⟩ := toF_ok hr hk
    rw [Int.toNat_natCast]
    exact recvS_ok B c r hr k' _ hk h1 h2
  · rw [if_neg h, if_neg h]; exact recvS_arg B c r hr k (by omega)
end Go.Proofs.Ytpomhnmfkdgafaa
