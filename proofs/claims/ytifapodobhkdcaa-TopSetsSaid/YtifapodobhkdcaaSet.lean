/- What domains have in common, as sets (no program in sight but Meet's contract). -/
import Derived.Test.YtifapodobhkdcaaMt
import Derived.Test.YtifapodobhkdcaaDsA
namespace Go.Proofs.Ytifapodobhkdcaa
open Go.RowKit
set_option linter.unusedVariables false
set_option linter.unusedSimpArgs false
theorem inB_can {rs : List Rg} (h : domB rs = true) (x : List Int) : inB (canonRs rs) x = inB rs x := by
  obtain ⟨f1, f2, f3, f4⟩ := canonRs_facts h
  have e1 := inB_mem (fun c hc => (f2 c hc).1) x
  have e2 := inB_mem (domB_iff.1 h).2.1 x
  rw [f4] at e1
  rw [Bool.eq_iff_iff, e1, e2]
theorem dom_can {rs : List Rg} (h : domB rs = true) : domB (canonRs rs) = true ∧ canonRs (canonRs rs) = canonRs rs := by
  obtain ⟨c0, ct, hc, hs⟩ := canon_sp h
  rw [hc]
  exact ⟨hs.dom, hs.can⟩
/-- one range of Meet -/
theorem meet_one {r s a : Rg} {e : Int} (h : MeetIs r s a e) (hr : vB r = true) (hs : vB s = true) (he : e = 0) (x : Int) : placeB (rowOf a) x = (placeB (rowOf r) x && placeB (rowOf s) x) := by
  obtain ⟨m1, m2, _⟩ := meet_memb h hr he
  have a1 := memb_place (vB_ok' m1) x
  have a2 := memb_place (vB_ok' hr) x
  have a3 := memb_place (vB_ok' hs) x
  rw [Bool.eq_iff_iff, Bool.and_eq_true, ← a1, ← a2, ← a3]
  exact m2 x
theorem meet_in_all : ∀ {a b : List Rg} {L : List (Rg × Int)}, a.length = b.length → L.length = a.length → (∀ r ∈ a, vB r = true) → (∀ r ∈ b, vB r = true) → (∀ k (h : k < L.length) (h1 : k < a.length) (h2 : k < b.length), MeetIs a[k] b[k] L[k].1 L[k].2 ∧ L[k].2 = 0) →
    ∀ x, inB (L.map (·.1)) x = (inB a x && inB b x)
  | [], [], [], _, _, _, _, _, x => by cases x <;> rfl
  | r :: a, s :: b, p :: L, h1, h2, ha, hb, h, x => by
    cases x with
    | nil => rfl
    | cons y xt =>
      obtain ⟨k1, k2⟩ := h 0 (by simp) (by simp) (by simp)
      have ih := meet_in_all (a := a) (b := b) (L := L) (by simpa using h1) (by simpa using h2) (fun r h => ha r (by simp [h])) (fun r h => hb r (by simp [h])) (fun k q1 q2 q3 => h (k + 1) (by simpa using q1) (by simpa using q2) (by simpa using q3)) xt
      have k3 : placeB (rowOf p.1) y = (placeB (rowOf r) y && placeB (rowOf s) y) := meet_one k1 (ha r (by simp)) (hb s (by simp)) k2 y
      have e1 : inB ((p :: L).map (·.1)) (y :: xt) = (placeB (rowOf p.1) y && inB (L.map (·.1)) xt) := rfl
      have e2 : inB (r :: a) (y :: xt) = (placeB (rowOf r) y && inB a xt) := rfl
      have e3 : inB (s :: b) (y :: xt) = (placeB (rowOf s) y && inB b xt) := rfl
      rw [e1, e2, e3, ih, k3]
      cases placeB (rowOf r) y <;> cases placeB (rowOf s) y <;> cases inB a xt <;> cases inB b xt <;> rfl
/-- Meet without an error -/
theorem meet_set {a b : List Rg} (h : twoRes a b = 0) {L : List (Rg × Int)} (hL : MeetL a b L) (he : (meetRes L).2 = 0) :
    domB (L.map (·.1)) = true ∧ meetRes L = (canonRs (L.map (·.1)), 0) ∧ (canonRs (L.map (·.1))).length = a.length ∧ ∀ x, inB (canonRs (L.map (·.1))) x = (inB a x && inB b x) := by
  obtain ⟨ha, hb, hl⟩ := twoRes_0.1 h
  unfold meetRes at he ⊢
  cases ho : ovMB L with
  | true => rw [ho, if_pos rfl] at he; cases he
  | false =>
    rw [ho, if_neg (by decide)] at he
    rw [if_neg (by decide)]
    have hd : domB (L.map (·.1)) = true := by
      unfold dCanonRes at he
      split at he
      · assumption
      · cases he
    rw [dCanonRes, if_pos hd]
    have hv := meetL_v hl hL ho
    refine ⟨hd, rfl, by simp [canonRs, hL.len], fun x => ?_⟩
    rw [inB_can hd]
    exact meet_in_all hl hL.len (domB_iff.1 ha).2.1 (domB_iff.1 hb).2.1 (fun k q1 q2 q3 => ⟨hL.is k q1 q2 q3, (hv k q1).1⟩) x
/-! ### one range beside another -/
theorem place_no {r : Rg} (h : cN r = 0) (hv : vB r = true) (x : Int) : placeB (rowOf r) x = false := by
  cases hp : placeB (rowOf r) x with
  | false => rfl
  | true =>
    have := (place_lt hv hp).1
    omega
/-- two ranges with no number in common -/
theorem meet_apart {r s a : Rg} {e : Int} (h : MeetIs r s a e) (hr : vB r = true) (hs : vB s = true) (hd : ∀ i : Nat, (i : Int) < (rowOf r).n → ¬ Memb s (atOf (rowOf r) i)) : e = 0 ∧ a = ⟨1, 0, 1⟩ := by
  cases h with
  | bad h => exact absurd ⟨hr, hs⟩ h
  | none hr hs h => exact ⟨rfl, rfl⟩
  | some hr hs q p k hp hp2 hk hl h =>
    have hq : ((q : Nat) : Int) < (rowOf r).n := by
      have : q ≤ q + p * (k - 1) := Nat.le_add_right _ _
      omega
    exact absurd ((h q hq).2 ⟨0, hk, by simp⟩) (hd q hq)
/-- a range whose numbers are all in the other one -/
theorem meet_whole {r s a : Rg} {e : Int} (h : MeetIs r s a e) (hr : vB r = true) (hs : vB s = true) (hd : ∀ i : Nat, (i : Int) < (rowOf r).n → Memb s (atOf (rowOf r) i)) : e = 0 := by
  have hok := vB_ok' hr
  cases h with
  | bad h => exact absurd ⟨hr, hs⟩ h
  | none hr hs h => rfl
  | some hr hs q p k hp hp2 hk hl h =>
    obtain ⟨n, hn⟩ : ∃ n : Nat, (n : Int) = (rowOf r).n := ⟨(rowOf r).n.toNat, Int.toNat_of_nonneg (rowOf_n_bd hok).1⟩
    have hl' : q + p * (k - 1) < n := by omega
    obtain ⟨x1, x2, x3⟩ := prog_ext hp hk hl'
    obtain ⟨y1, y2, y3⟩ := x3 fun i hi => (h i (by omega)).1 (hd i (by omega))
    subst y1
    subst y2
    by_cases h2 : 2 ≤ k
    · have := y3 h2
      subst this
      have e1 : (⟨atOf (rowOf r) ((0 : Nat) : Int), (rowOf r).s * ((1 : Nat) : Int), (k : Int)⟩ : Rw) = rowOf r := by
        refine Rw.ext' ?_ ?_ hn
        · unfold atOf; simp
        · simp
      rw [e1]
      exact (done_row hok).2
    · have hk1 : k = 1 := by omega
      subst hk1
      have hf : canonOf ⟨atOf (rowOf r) ((0 : Nat) : Int), (rowOf r).s * (p : Int), ((1 : Nat) : Int)⟩ = canonOf (rowOf r) := by
        rw [canonOf_1 rfl, canonOf_1 (by omega)]
        unfold atOf; simp
      exact (done_yes (by rw [hf]; exact vB_true (canon_ok hok))).2
end Go.Proofs.Ytifapodobhkdcaa
