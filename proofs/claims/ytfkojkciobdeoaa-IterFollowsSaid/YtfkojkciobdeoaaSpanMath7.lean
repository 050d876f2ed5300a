/- Plain laws of ranges: Meet. -/
import Derived.Test.YtfkojkciobdeoaaSpanMath6
namespace Go.Proofs.Ytfkojkciobdeoaa
set_option linter.unusedVariables false
/-- what Meet returns -/
inductive MeetIs (r s : Rg) : Rg → Int → Prop
  | bad (h : ¬ (vB r = true ∧ vB s = true)) : MeetIs r s ⟨0, 0, 0⟩ 30
  | none (hr : vB r = true) (hs : vB s = true) (h : ∀ i : Nat, (i : Int) < (rowOf r).n → ¬ Memb s (atOf (rowOf r) i)) : MeetIs r s ⟨1, 0, 1⟩ 0
  | some (hr : vB r = true) (hs : vB s = true) (a p k : Nat) (hp : 1 ≤ p) (hp2 : p ≤ 1000) (hk : 1 ≤ k) (hl : ((a + p * (k - 1) : Nat) : Int) < (rowOf r).n)
      (h : ∀ i : Nat, (i : Int) < (rowOf r).n → (Memb s (atOf (rowOf r) i) ↔ ∃ j : Nat, j < k ∧ i = a + p * j)) : MeetIs r s (doneV ⟨atOf (rowOf r) (a : Int), (rowOf r).s * (p : Int), (k : Int)⟩) (doneE ⟨atOf (rowOf r) (a : Int), (rowOf r).s * (p : Int), (k : Int)⟩)
def outRow (x : Rw) (k p : Int) : Rw := ⟨atOf x k, x.s * p, (x.n - k + p - 1).tdiv p⟩
def frontOf (x y : Rw) (k p : Int) : Int := if (outRow x k p).s < 0 then (outRow x k p).f - highOf y else lowOf y - (outRow x k p).f
def behindOf (x y : Rw) (k p : Int) : Int := if (outRow x k p).s < 0 then lowOf y - lastOf (outRow x k p) else lastOf (outRow x k p) - highOf y
def skipOf (x y : Rw) (k p : Int) : Int := ceilK (frontOf x y k p) (absI (outRow x k p).s)
def leaveOf (x y : Rw) (k p : Int) : Int := ceilK (behindOf x y k p) (absI (outRow x k p).s)
def meetRow (x y : Rw) (k p : Int) : Rw := if (outRow x k p).n ≤ skipOf x y k p + leaveOf x y k p then ⟨0, 1, 0⟩ else partOf (outRow x k p) (skipOf x y k p) ((outRow x k p).n - skipOf x y k p - leaveOf x y k p)
theorem per_in {r s : Rg} (hr : r.ok) (hs : s.ok) : 1 ≤ perOf (rowOf r).s (rowOf s).s ∧ perOf (rowOf r).s (rowOf s).s ≤ 1000 := by
  obtain ⟨_, _, _, _, t1, t2, t3⟩ := hs
  have := per_pos (s := (rowOf r).s) (t := (rowOf s).s) t3
  have e : (rowOf s).s = s.st := rfl
  omega
theorem meet_none {r s : Rg} (hr : vB r = true) (hs : vB s = true) (h : ∀ k : Nat, k < perOf (rowOf r).s (rowOf s).s → (k : Int) < (rowOf r).n → (rowOf s).n = 0 ∨ ¬ onGrid (rowOf r) (rowOf s) k) : MeetIs r s ⟨1, 0, 1⟩ 0 := by
  refine .none hr hs fun i hi hm => ?_
  have hsk := vB_ok' hs
  obtain ⟨h0, h1, h2, h3⟩ := (memb_iff hsk _).1 hm
  have hp := (per_in (vB_ok' hr) hsk).1
  have ht := (rowOf_small hsk).2
  have hg : onGrid (rowOf r) (rowOf s) (i : Int) := h1
  have hlt : i % perOf (rowOf r).s (rowOf s).s < perOf (rowOf r).s (rowOf s).s := Nat.mod_lt _ hp
  have hle := Nat.mod_le i (perOf (rowOf r).s (rowOf s).s)
  rcases h (i % perOf (rowOf r).s (rowOf s).s) hlt (by omega) with e | e
  · exact h0 e
  · refine e ((grid_per ht hg).2 ?_)
    have hd : (perOf (rowOf r).s (rowOf s).s : Int) ∣ ((i : Int) - (i % perOf (rowOf r).s (rowOf s).s : Nat)) := by
      have := Nat.div_add_mod i (perOf (rowOf r).s (rowOf s).s)
      exact ⟨((i / perOf (rowOf r).s (rowOf s).s : Nat) : Int), by rw [← Int.natCast_mul]; omega⟩
    have := (Int.dvd_neg).2 hd
    rwa [Int.neg_sub] at this
theorem out_at (x : Rw) (k p j : Int) : atOf (outRow x k p) j = atOf x (k + p * j) := by
  show x.f + k * x.s + j * (x.s * p) = x.f + (k + p * j) * x.s
  rw [Int.add_mul, Int.mul_comm p j, Int.mul_assoc j p, Int.mul_comm p x.s, Int.add_assoc]
theorem out_n {x : Rw} {k p : Int} (hp : 1 ≤ p) (hk : k < x.n) : (outRow x k p).n = ceilK (x.n - k) p ∧ 1 ≤ (outRow x k p).n ∧ ∀ j : Int, 0 ≤ j → (j < (outRow x k p).n ↔ k + p * j < x.n) := by
  have hc : 1 ≤ ceilK (x.n - k) p := by
    have := (ceilK_iff (x := x.n - k) (step := p) (by omega) (j := 0) (by omega))
    rw [Int.zero_mul] at this
    omega
  have e : (outRow x k p).n = ceilK (x.n - k) p := by
    show (x.n - k + p - 1).tdiv p = _
    unfold ceilK at hc ⊢
    split
    · rename_i h; rw [if_pos h] at hc; omega
    · rfl
  refine ⟨e, by omega, fun j hj => ?_⟩
  have := (ceilK_iff (x := x.n - k) (step := p) (by omega) hj)
  rw [e, Int.mul_comm p j]
  omega
theorem absI_cases (n : Int) : (0 ≤ n ∧ absI n = n) ∨ (n < 0 ∧ absI n = -n) := by unfold absI; split <;> omega
/-- which members of the grid stand between the ends -/
theorem meet_in {x y : Rw} {k p : Int} (hs : x.s * p ≠ 0) {j : Int} (hj : 0 ≤ j) (hj2 : j < (outRow x k p).n) : (lowOf y ≤ atOf x (k + p * j) ∧ atOf x (k + p * j) ≤ highOf y) ↔ (skipOf x y k p ≤ j ∧ leaveOf x y k p ≤ (outRow x k p).n - 1 - j) := by
  have e : atOf x (k + p * j) = (outRow x k p).f + j * (outRow x k p).s := by
    show _ = atOf x k + j * (x.s * p)
    unfold atOf
    rw [Int.add_mul, Int.mul_comm p j, Int.mul_assoc, Int.mul_comm p x.s]; omega
  have hS : (outRow x k p).s ≠ 0 := hs
  have el : lastOf (outRow x k p) = (outRow x k p).f + ((outRow x k p).n - 1) * (outRow x k p).s := rfl
  have hj3 : 0 ≤ (outRow x k p).n - 1 - j := by omega
  rw [e]
  unfold skipOf leaveOf frontOf behindOf
  rw [el]
  clear el e hs
  generalize outRow x k p = o at *
  rcases absI_cases o.s with ⟨h1, h2⟩ | ⟨h1, h2⟩
  · rw [h2, if_neg (by omega), if_neg (by omega), ceilK_iff (by omega) hj, ceilK_iff (by omega) hj3]
    have e1 : (o.n - 1 - j) * o.s = (o.n - 1) * o.s - j * o.s := Int.sub_mul ..
    rw [e1]; omega
  · rw [h2, if_pos h1, if_pos h1, ceilK_iff (by omega) hj, ceilK_iff (by omega) hj3]
    have e1 : (o.n - 1 - j) * -o.s = j * o.s - (o.n - 1) * o.s := by rw [Int.mul_neg, Int.sub_mul]; omega
    have e2 : j * -o.s = -(j * o.s) := Int.mul_neg ..
    rw [e1, e2]; omega
theorem meet_some {r s : Rg} (hr : vB r = true) (hs : vB s = true) {k : Nat} (hk : k < perOf (rowOf r).s (rowOf s).s) (hkn : (k : Int) < (rowOf r).n) (h0 : (rowOf s).n ≠ 0) (hg : onGrid (rowOf r) (rowOf s) k) :
    MeetIs r s (doneV (meetRow (rowOf r) (rowOf s) k (perOf (rowOf r).s (rowOf s).s))) (doneE (meetRow (rowOf r) (rowOf s) k (perOf (rowOf r).s (rowOf s).s))) := by
  have hrk := vB_ok' hr
  have hsk := vB_ok' hs
  have ht := (rowOf_small hsk).2
  have hxs := (rowOf_small hrk).2
  obtain ⟨hp1, hp2⟩ := per_in hrk hsk
  have hper := fun i : Int => grid_per (j := i) ht hg
  have hmi := fun i : Int => memb_iff hsk (atOf (rowOf r) i)
  generalize perOf (rowOf r).s (rowOf s).s = p at *
  have hS : (rowOf r).s * (p : Int) ≠ 0 := Int.mul_ne_zero hxs (by omega)
  obtain ⟨o1, o2, o3⟩ := out_n (x := rowOf r) (k := k) (p := p) (by omega) hkn
  have hin := fun (j : Int) (hj : 0 ≤ j) (hj2 : j < (outRow (rowOf r) k p).n) => meet_in (x := rowOf r) (y := rowOf s) (k := k) (p := p) hS hj hj2
  have sk := ceilK_nn (frontOf (rowOf r) (rowOf s) k p) (absI (outRow (rowOf r) k p).s)
  have lv := ceilK_nn (behindOf (rowOf r) (rowOf s) k p) (absI (outRow (rowOf r) k p).s)
  change 0 ≤ skipOf (rowOf r) (rowOf s) k p at sk
  change 0 ≤ leaveOf (rowOf r) (rowOf s) k p at lv
  have key : ∀ i : Nat, (i : Int) < (rowOf r).n → (Memb s (atOf (rowOf r) i) ↔ ∃ j : Nat, (skipOf (rowOf r) (rowOf s) k p ≤ j ∧ leaveOf (rowOf r) (rowOf s) k p ≤ (outRow (rowOf r) k p).n - 1 - j) ∧ i = k + p * j) := by
    intro i hi
    rw [hmi]
    constructor
    · rintro ⟨_, hd, hb⟩
      obtain ⟨j, hj⟩ := (hper i).1 hd
      have hj0 : 0 ≤ j := by
        apply Classical.byContradiction
        intro hc
        have := mul_mono (show j ≤ -1 by omega) (c := (p : Int)) (by omega)
        rw [Int.mul_comm j] at this
        omega
      have hjn := (o3 j hj0).2 (by omega)
      refine ⟨j.toNat, ?_, ?_⟩
      · rw [Int.toNat_of_nonneg hj0]
        refine (hin j hj0 hjn).1 ?_
        rw [show (k : Int) + p * j = i by omega]; exact hb
      · have e : ((j.toNat : Nat) : Int) = j := Int.toNat_of_nonneg hj0
        have e2 : ((k + p * j.toNat : Nat) : Int) = k + p * j := by rw [Int.natCast_add, Int.natCast_mul, e]
        omega
    · rintro ⟨j, hj, rfl⟩
      have e2 : ((k + p * j : Nat) : Int) = k + p * j := by rw [Int.natCast_add, Int.natCast_mul]
      rw [e2] at hi ⊢
      refine ⟨h0, (hper _).2 ⟨j, by omega⟩, ?_⟩
      exact (hin j (by omega) ((o3 j (by omega)).2 hi)).2 hj
  obtain ⟨sn, hsn⟩ := Int.eq_ofNat_of_zero_le sk
  obtain ⟨ln, hln⟩ := Int.eq_ofNat_of_zero_le lv
  obtain ⟨cn, hcn⟩ := Int.eq_ofNat_of_zero_le (show 0 ≤ (outRow (rowOf r) k p).n by omega)
  unfold meetRow
  rw [hsn, hln, hcn] at key ⊢
  by_cases hc : (cn : Int) ≤ (sn : Int) + ln
  · rw [if_pos hc]
    obtain ⟨d1, d2⟩ := done_none 0 1
    rw [d1, d2]
    refine .none hr hs fun i hi hm => ?_
    obtain ⟨j, hj, _⟩ := (key i hi).1 hm
    omega
  · rw [if_neg hc]
    have ek : ((cn : Int) - sn - ln) = ((cn - sn - ln : Nat) : Int) := by omega
    have ea : partOf (outRow (rowOf r) k p) (sn : Int) ((cn : Int) - sn - ln) = ⟨atOf (rowOf r) ((k + p * sn : Nat) : Int), (rowOf r).s * (p : Int), ((cn - sn - ln : Nat) : Int)⟩ := by
      refine Rw.ext' ?_ rfl ek
      show atOf (rowOf r) k + (sn : Int) * ((rowOf r).s * (p : Int)) = _
      unfold atOf
      simp only
      rw [Int.natCast_add, Int.natCast_mul, Int.add_mul, Int.mul_comm (p : Int) sn, Int.mul_assoc, Int.mul_comm (p : Int) (rowOf r).s]; omega
    rw [ea]
    refine .some hr hs (k + p * sn) p (cn - sn - ln) hp1 hp2 (by omega) ?_ fun i hi => ?_
    · have := (o3 ((cn : Int) - 1 - ln) (by omega)).1 (by omega)
      have e3 : ((k + p * sn + p * (cn - sn - ln - 1) : Nat) : Int) = k + p * ((cn : Int) - 1 - ln) := by
        have e4 : ((cn - sn - ln - 1 : Nat) : Int) = (cn : Int) - 1 - ln - sn := by omega
        rw [Int.natCast_add, Int.natCast_add, Int.natCast_mul, Int.natCast_mul, e4, Int.mul_sub]; omega
      omega
    · rw [key i hi]
      constructor
      · rintro ⟨j, hj, rfl⟩
        refine ⟨j - sn, by omega, ?_⟩
        rw [Nat.add_assoc, ← Nat.mul_add]
        congr 2
        omega
      · rintro ⟨j, hj, rfl⟩
        refine ⟨sn + j, ⟨by omega, by omega⟩, ?_⟩
        rw [Nat.mul_add, Nat.add_assoc]
end Go.Proofs.Ytfkojkciobdeoaa
