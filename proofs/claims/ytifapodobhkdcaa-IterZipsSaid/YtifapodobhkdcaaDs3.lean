/- part, parts and piece of package dist, and its functions that say what goes together, by the abstract machine. -/
import Derived.Test.YtifapodobhkdcaaSlc
import Derived.Test.YtifapodobhkdcaaR4
import Derived.Test.YtifapodobhkdcaaS8
import Derived.Test.YtifapodobhkdcaaDsMath
namespace Go.Proofs.Ytifapodobhkdcaa
open Go.RowKit
set_option linter.unusedVariables false
set_option maxHeartbeats 16000000
set_option linter.unusedSimpArgs false
set_option maxRecDepth 100000
def kb : Kd → ByteArray
  | .whole => ⟨#[119, 104, 111, 108, 101]⟩
  | .block => ⟨#[98, 108, 111, 99, 107]⟩
  | .cyclic => ⟨#[99, 121, 99, 108, 105, 99]⟩
  | .blocks => ⟨#[98, 108, 111, 99, 107, 115]⟩
abbrev sD (s : ByteArray) : D := .val (.string s)
/-- a distribution, as it comes -/
abbrev dsD (s : ByteArray) (n o : Int) : D := .agg [sD s, iD n, iD o]
abbrev kL (k : Kd) : List UInt8 := (kb k).toList
theorem kL_ne : kL .whole ≠ kL .block ∧ kL .whole ≠ kL .cyclic ∧ kL .whole ≠ kL .blocks ∧ kL .block ≠ kL .cyclic ∧ kL .block ≠ kL .blocks ∧ kL .cyclic ≠ kL .blocks := by
  refine ⟨?_, ?_, ?_, ?_, ?_, ?_⟩ <;> decide +kernel
def vdB (s : ByteArray) (n o : Int) : Bool := if o < 1 ∨ 8 < o then false else if s.toList = kL .whole ∨ s.toList = kL .block ∨ s.toList = kL .cyclic then decide (n = 0) else if s.toList = kL .blocks then decide (1 ≤ n ∧ n ≤ 99) else false
/-- a valid distribution -/
structure Okd (s : ByteArray) (k : Kd) (n o : Nat) : Prop where
  ok : OkDs k n o
  eq : s.toList = kL k
theorem vdB_ok {s : ByteArray} {n o : Int} (h : vdB s n o = true) : ∃ k a b, n = ((a : Nat) : Int) ∧ o = ((b : Nat) : Int) ∧ Okd s k a b := by
  unfold vdB at h
  by_cases h1 : o < 1 ∨ 8 < o
  · rw [if_pos h1] at h; cases h
  rw [if_neg h1] at h
  by_cases h2 : s.toList = kL .whole ∨ s.toList = kL .block ∨ s.toList = kL .cyclic
  · rw [if_pos h2] at h
    have hn : n = 0 := of_decide_eq_true h
    rcases h2 with h2 | h2 | h2
    · exact ⟨.whole, 0, o.toNat, hn, by omega, ⟨⟨by omega, by omega, (fun h => by cases h), by omega, fun _ => rfl⟩, h2⟩⟩
    · exact ⟨.block, 0, o.toNat, hn, by omega, ⟨⟨by omega, by omega, (fun h => by cases h), by omega, fun _ => rfl⟩, h2⟩⟩
    · exact ⟨.cyclic, 0, o.toNat, hn, by omega, ⟨⟨by omega, by omega, (fun h => by cases h), by omega, fun _ => rfl⟩, h2⟩⟩
  · rw [if_neg h2] at h
    by_cases h3 : s.toList = kL .blocks
    · rw [if_pos h3] at h
      have hn := of_decide_eq_true h
      exact ⟨.blocks, n.toNat, o.toNat, by omega, by omega, ⟨⟨by omega, by omega, fun _ => by omega, by omega, fun h => absurd rfl h⟩, h3⟩⟩
    · rw [if_neg h3] at h; cases h
theorem okd_v {s : ByteArray} {k : Kd} {n o : Nat} (h : Okd s k n o) : vdB s n o = true := by
  obtain ⟨⟨h1, h2, h3, h4, h5⟩, h6⟩ := h
  obtain ⟨n1, n2, n3, n4, n5, n6⟩ := kL_ne
  unfold vdB
  rw [if_neg (by omega)]
  cases k with
  | whole => rw [if_pos (.inl h6)]; have := h5 (by decide); exact decide_eq_true (by omega)
  | block => rw [if_pos (.inr (.inl h6))]; have := h5 (by decide); exact decide_eq_true (by omega)
  | cyclic => rw [if_pos (.inr (.inr h6))]; have := h5 (by decide); exact decide_eq_true (by omega)
  | blocks =>
    rw [h6, if_neg (fun h => by rcases h with h | h | h; · exact n3 h.symm
                                · exact n5 h.symm
                                · exact n6 h.symm), if_pos rfl]
    have := h3 rfl
    exact decide_eq_true (by omega)
/-- which texts a kind is not -/
theorem okd_ne {s : ByteArray} {k : Kd} {n o : Nat} (h : Okd s k n o) : (k ≠ .whole → ¬ s.toList = (kb .whole).toList) ∧ (k ≠ .block → ¬ s.toList = (kb .block).toList) ∧ (k ≠ .cyclic → ¬ s.toList = (kb .cyclic).toList) ∧ (k ≠ .blocks → ¬ s.toList = (kb .blocks).toList) := by
  have h6 := h.eq
  obtain ⟨n1, n2, n3, n4, n5, n6⟩ := kL_ne
  rw [h6]
  cases k with
  | whole => exact ⟨fun h => absurd rfl h, fun _ => n1, fun _ => n2, fun _ => n3⟩
  | block => exact ⟨fun _ => n1.symm, fun h => absurd rfl h, fun _ => n4, fun _ => n5⟩
  | cyclic => exact ⟨fun _ => n2.symm, fun _ => n4.symm, fun h => absurd rfl h, fun _ => n6⟩
  | blocks => exact ⟨fun _ => n3.symm, fun _ => n5.symm, fun _ => n6.symm, fun h => absurd rfl h⟩
theorem tValid_d (s : ByteArray) (n o : Int) : DC Try.prog 52 [dsD s n o] (bD (vdB s n o)) := by
  obtain ⟨n1, n2, n3, n4, n5, n6⟩ := kL_ne
  unfold vdB
  by_cases o1 : o < 1
  · rw [if_pos (.inl o1)]
    refine DC.of Try.func52 Try.ntmps52 Try.results52 rfl (by decide +kernel) rfl ?_
    repeat (first | refine Z1 ?_ | refine Z2 ?_ | (refine Z3 ?_; (repeat (first | (apply gS; first | refine go_no ?_ | refine go_f ?_ | refine gx ?_ | refine gm ?_ | refine gp ?_))); refine T_nil ?_) | (apply ZK; first | refine Z4 ?_ | refine Z5 ?_) | refine Z6 ?_ | refine Z7 ?_ | refine Z8 ?_ | refine Z9 ?_ | refine ZA ?_ | refine ZB ?_ | refine ZC ?_ | refine ZF ?_)
    repeat (first | refine kEnd_m ?_ | refine kEnd_f ?_)
    refine kEnd_g ?_ (by first | exact .inl rfl | exact .inr rfl)
    exact Sub.eq rfl rfl
  by_cases o8 : 8 < o
  · rw [if_pos (.inr o8)]
    refine DC.of Try.func52 Try.ntmps52 Try.results52 rfl (by decide +kernel) rfl ?_
    repeat (first | refine Z1 ?_ | refine Z2 ?_ | (refine Z3 ?_; (repeat (first | (apply gS; first | refine go_no ?_ | refine go_f ?_ | refine gx ?_ | refine gm ?_ | refine gp ?_))); refine T_nil ?_) | (apply ZK; first | refine Z4 ?_ | refine Z5 ?_) | refine Z6 ?_ | refine Z7 ?_ | refine Z8 ?_ | refine Z9 ?_ | refine ZA ?_ | refine ZB ?_ | refine ZC ?_ | refine ZF ?_)
    repeat (first | refine kEnd_m ?_ | refine kEnd_f ?_)
    refine kEnd_g ?_ (by first | exact .inl rfl | exact .inr rfl)
    exact Sub.eq rfl rfl
  rw [if_neg (by omega)]
  by_cases sw : s.toList = (kb .whole).toList
  · rw [if_pos (.inl sw)]
    refine DC.of Try.func52 Try.ntmps52 Try.results52 rfl (by decide +kernel) rfl ?_
    repeat (first | refine Z1 ?_ | refine Z2 ?_ | (refine Z3 ?_; (repeat (first | (apply gS; first | refine go_no ?_ | refine go_f ?_ | refine gx ?_ | refine gm ?_ | refine gp ?_))); refine T_nil ?_) | (apply ZK; first | refine Z4 ?_ | refine Z5 ?_) | refine Z6 ?_ | refine Z7 ?_ | refine Z8 ?_ | refine Z9 ?_ | refine ZA ?_ | refine ZB ?_ | refine ZC ?_ | refine ZF ?_)
    repeat (first | refine kEnd_m ?_ | refine kEnd_f ?_)
    refine kEnd_g ?_ (by first | exact .inl rfl | exact .inr rfl)
    exact Sub.eq rfl rfl
  by_cases sb : s.toList = (kb .block).toList
  · rw [if_pos (.inr (.inl sb))]
    refine DC.of Try.func52 Try.ntmps52 Try.results52 rfl (by decide +kernel) rfl ?_
    repeat (first | refine Z1 ?_ | refine Z2 ?_ | (refine Z3 ?_; (repeat (first | (apply gS; first | refine go_no ?_ | refine go_f ?_ | refine gx ?_ | refine gm ?_ | refine gp ?_))); refine T_nil ?_) | (apply ZK; first | refine Z4 ?_ | refine Z5 ?_) | refine Z6 ?_ | refine Z7 ?_ | refine Z8 ?_ | refine Z9 ?_ | refine ZA ?_ | refine ZB ?_ | refine ZC ?_ | refine ZF ?_)
    repeat (first | refine kEnd_m ?_ | refine kEnd_f ?_)
    refine kEnd_g ?_ (by first | exact .inl rfl | exact .inr rfl)
    exact Sub.eq rfl rfl
  by_cases sc : s.toList = (kb .cyclic).toList
  · rw [if_pos (.inr (.inr sc))]
    refine DC.of Try.func52 Try.ntmps52 Try.results52 rfl (by decide +kernel) rfl ?_
    repeat (first | refine Z1 ?_ | refine Z2 ?_ | (refine Z3 ?_; (repeat (first | (apply gS; first | refine go_no ?_ | refine go_f ?_ | refine gx ?_ | refine gm ?_ | refine gp ?_))); refine T_nil ?_) | (apply ZK; first | refine Z4 ?_ | refine Z5 ?_) | refine Z6 ?_ | refine Z7 ?_ | refine Z8 ?_ | refine Z9 ?_ | refine ZA ?_ | refine ZB ?_ | refine ZC ?_ | refine ZF ?_)
    repeat (first | refine kEnd_m ?_ | refine kEnd_f ?_)
    refine kEnd_g ?_ (by first | exact .inl rfl | exact .inr rfl)
    exact Sub.eq rfl rfl
  rw [if_neg (fun h => by rcases h with h | h | h; · exact sw h
                          · exact sb h
                          · exact sc h)]
  by_cases ss : s.toList = (kb .blocks).toList
  · rw [if_pos ss]
    by_cases m1 : 1 ≤ n
    · rw [show decide (1 ≤ n ∧ n ≤ 99) = decide (n ≤ 99) by simp [m1]]
      refine DC.of Try.func52 Try.ntmps52 Try.results52 rfl (by decide +kernel) rfl ?_
      repeat (first | refine Z1 ?_ | refine Z2 ?_ | (refine Z3 ?_; (repeat (first | (apply gS; first | refine go_no ?_ | refine go_f ?_ | refine gx ?_ | refine gm ?_ | refine gp ?_))); refine T_nil ?_) | (apply ZK; first | refine Z4 ?_ | refine Z5 ?_) | refine Z6 ?_ | refine Z7 ?_ | refine Z8 ?_ | refine Z9 ?_ | refine ZA ?_ | refine ZB ?_ | refine ZC ?_ | refine ZF ?_)
      repeat (first | refine kEnd_m ?_ | refine kEnd_f ?_)
      refine kEnd_g ?_ (by first | exact .inl rfl | exact .inr rfl)
      exact Sub.eq rfl rfl
    · rw [show decide (1 ≤ n ∧ n ≤ 99) = false by simp [m1]]
      refine DC.of Try.func52 Try.ntmps52 Try.results52 rfl (by decide +kernel) rfl ?_
      repeat (first | refine Z1 ?_ | refine Z2 ?_ | (refine Z3 ?_; (repeat (first | (apply gS; first | refine go_no ?_ | refine go_f ?_ | refine gx ?_ | refine gm ?_ | refine gp ?_))); refine T_nil ?_) | (apply ZK; first | refine Z4 ?_ | refine Z5 ?_) | refine Z6 ?_ | refine Z7 ?_ | refine Z8 ?_ | refine Z9 ?_ | refine ZA ?_ | refine ZB ?_ | refine ZC ?_ | refine ZF ?_)
      repeat (first | refine kEnd_m ?_ | refine kEnd_f ?_)
      refine kEnd_g ?_ (by first | exact .inl rfl | exact .inr rfl)
      exact Sub.eq rfl rfl
  · rw [if_neg ss]
    refine DC.of Try.func52 Try.ntmps52 Try.results52 rfl (by decide +kernel) rfl ?_
    repeat (first | refine Z1 ?_ | refine Z2 ?_ | (refine Z3 ?_; (repeat (first | (apply gS; first | refine go_no ?_ | refine go_f ?_ | refine gx ?_ | refine gm ?_ | refine gp ?_))); refine T_nil ?_) | (apply ZK; first | refine Z4 ?_ | refine Z5 ?_) | refine Z6 ?_ | refine Z7 ?_ | refine Z8 ?_ | refine Z9 ?_ | refine ZA ?_ | refine ZB ?_ | refine ZC ?_ | refine ZF ?_)
    repeat (first | refine kEnd_m ?_ | refine kEnd_f ?_)
    refine kEnd_g ?_ (by first | exact .inl rfl | exact .inr rfl)
    exact Sub.eq rfl rfl
end Go.Proofs.Ytifapodobhkdcaa
namespace Go.Proofs.Ytifapodobhkdcaa
open Go.RowKit
set_option linter.unusedVariables false
set_option maxHeartbeats 16000000
set_option linter.unusedSimpArgs false
set_option maxRecDepth 100000
/-! ### canonical ranges -/
structure SpOk (c0 : Rg) (ct : List Rg) : Prop where
  dom : domB (c0 :: ct) = true
  can : canonRs (c0 :: ct) = c0 :: ct
  pos : cN c0 ≠ 0 → 1 ≤ prodN (cl ct)
  few : cN c0 ≤ 4096
def iN (c0 : Rg) (ct : List Rg) : Nat := if cN c0 = 0 then 0 else prodN (cl ct)
theorem iN_mul {c0 : Rg} {ct : List Rg} : cN c0 * iN c0 ct = prodN (cl (c0 :: ct)) := by
  show _ = cN c0 * prodN (cl ct)
  unfold iN
  split
  · rename_i h; rw [h]; simp
  · rfl
theorem canon_again {r : Rg} (h : vB r = true) : canonOf (rowOf (canonOf (rowOf r))) = canonOf (rowOf r) := by
  have hr := vB_ok' h
  by_cases hn : (rowOf r).n = 0
  · rw [canonOf_0 hn]; exact canonOf_0 (by decide)
  · rw [row_canon hr (by have := rowOf_n_bd hr; omega), canon_ref hr]
theorem cl_canon {rs : List Rg} (h : domB rs = true) : (prodN (cl rs) = 0 ∧ canonRs rs = List.replicate rs.length ⟨1, 0, 1⟩) ∨ (prodN (cl rs) ≠ 0 ∧ canonRs rs = rs.map (fun r => canonOf (rowOf r)) ∧ cl (canonRs rs) = cl rs) := by
  obtain ⟨_, hv, _⟩ := domB_iff.1 h
  by_cases hz : prodN (cl rs) = 0
  · refine .inl ⟨hz, ?_⟩
    unfold canonRs; simp only [hz, if_true]; exact List.map_const' ..
  · have e : canonRs rs = rs.map fun r => canonOf (rowOf r) := by unfold canonRs; simp only [hz, if_false]
    refine .inr ⟨hz, e, ?_⟩
    rw [e]; unfold cl; rw [List.map_map]
    exact List.map_congr_left fun r hr => (memN_canon (hv r hr)).2
theorem canon_sp {rs : List Rg} (h : domB rs = true) : ∃ c0 ct, canonRs rs = c0 :: ct ∧ SpOk c0 ct := by
  obtain ⟨⟨hl1, hl3⟩, hv, hp⟩ := domB_iff.1 h
  obtain ⟨f1, f2, f3, f4⟩ := canonRs_facts h
  cases hc : canonRs rs with
  | nil => rw [hc] at f1; simp at f1; omega
  | cons c0 ct =>
    have hd : domB (canonRs rs) = true := by
      rw [domB_iff]
      refine ⟨by omega, fun c hc => (f2 c hc).1, ?_⟩
      have := f3 (canonRs rs).length
      rwa [List.take_length] at this
    refine ⟨c0, ct, rfl, ⟨by rw [← hc]; exact hd, ?_, fun hne => ?_, ?_⟩⟩
    · rw [← hc]
      rcases cl_canon h with ⟨hz, e⟩ | ⟨hz, e, e2⟩
      · rw [e]
        have hz2 : prodN (cl (List.replicate rs.length ⟨1, 0, 1⟩)) = 0 := by
          rw [← e, ← idxs_len, f4, idxs_len, hz]
        unfold canonRs
        rw [List.map_replicate, if_pos hz2]
      · have hz2 : prodN (cl (canonRs rs)) ≠ 0 := by rw [e2]; exact hz
        have e3 : canonRs (canonRs rs) = (canonRs rs).map fun r => canonOf (rowOf r) := by
          generalize canonRs rs = qs at *
          unfold canonRs; simp only [hz2, if_false]
        rw [e3, e, List.map_map]
        exact List.map_congr_left fun r hr => canon_again (hv r hr)
    · rcases cl_canon h with ⟨hz, e⟩ | ⟨hz, e, e2⟩
      · rw [hc] at e
        have : c0 ∈ List.replicate rs.length (⟨1, 0, 1⟩ : Rg) := by rw [← e]; simp
        rw [List.eq_of_mem_replicate this] at hne
        exact absurd none_c hne
      · have : prodN (cl (c0 :: ct)) ≠ 0 := by rw [← hc, e2]; exact hz
        have h3 : cN c0 * prodN (cl ct) ≠ 0 := this
        have := Nat.ne_zero_of_mul_ne_zero_right h3
        omega
    · have := f2 c0 (by rw [hc]; simp)
      exact this.2
theorem sMembers_ok {r : Rg} (h : vB r = true) (hn : cN r ≤ 4096) : DC Try.prog 29 [rD r] (.tup [rowI (memN r), iD 0]) := by
  have H := sMembers_d r
  have hi := cN_int h
  have e : membersRes r = (memN r, 0) := by
    rw [membersRes, if_pos h, if_pos (by omega)]; rfl
  rwa [e] at H
/-! ### a domain that is spread -/
abbrev spO (s : ByteArray) (n o : Nat) (cr : List Rg) (ml : List Int) (inn : Nat) : D := .obj [sD s, iD n, iD o, rowR cr, rowI ml, iD inn]
abbrev spD (s : ByteArray) (n o : Nat) (c0 : Rg) (ct : List Rg) : D := spO s n o (c0 :: ct) (memN c0) (iN c0 ct)
theorem begin_badT (s : ByteArray) (n o : Int) (rs : List Rg) (h : vdB s n o = false) : DC Try.prog 126 [dsD s n o, domD rs] (.tup [.val (.pointer none), iD 70]) := by
  have V := tValid_d s n o
  rw [h] at V
  refine DC.of Try.func126 Try.ntmps126 Try.results126 rfl (by decide +kernel) rfl ?_
  repeat (first | refine Z1 ?_ | refine Z2 ?_ | (refine Z3 ?_; (repeat (first | (apply gS; first | refine go_f ?_ | refine gx ?_ | refine gm ?_ | refine gp ?_ | refine go_c rfl rfl (V) ?_ | refine go_cF rfl rfl (V) ?_ | refine go_cA rfl rfl (V) ?_) | (apply gZ; first | refine go_f ?_ | refine gx ?_ | refine gm ?_))); refine T_nil ?_) | (apply ZK; first | refine Z4 ?_ | refine Z5 ?_) | refine Z6 ?_ | refine Z7 ?_ | refine ZF ?_)
  repeat (first | refine kEnd_m ?_ | refine kEnd_f ?_)
  refine kEnd_g ?_ (by first | exact .inl rfl | exact .inr rfl)
  exact Sub.eq rfl rfl
theorem begin_badD (s : ByteArray) (n o : Int) (rs : List Rg) (h : vdB s n o = true) (hd : domB rs = false) : DC Try.prog 126 [dsD s n o, domD rs] (.tup [.val (.pointer none), iD 40]) := by
  have V := tValid_d s n o
  rw [h] at V
  have C := dCanon_d rs
  rw [dCanonRes, hd, if_neg (by decide)] at C
  refine DC.of Try.func126 Try.ntmps126 Try.results126 rfl (by decide +kernel) rfl ?_
  repeat (first | refine Z1 ?_ | refine Z2 ?_ | (refine Z3 ?_; (repeat (first | (apply gS; first | refine go_f ?_ | refine gx ?_ | refine gm ?_ | refine gp ?_ | refine go_c rfl rfl (V) ?_ | refine go_cF rfl rfl (V) ?_ | refine go_cA rfl rfl (V) ?_ | refine go_c rfl rfl (C) ?_ | refine go_cF rfl rfl (C) ?_ | refine go_cA rfl rfl (C) ?_) | (apply gZ; first | refine go_f ?_ | refine gx ?_ | refine gm ?_))); refine T_nil ?_) | (apply ZK; first | refine Z4 ?_ | refine Z5 ?_) | refine Z6 ?_ | refine Z7 ?_ | refine ZF ?_)
  repeat (first | refine kEnd_m ?_ | refine kEnd_f ?_)
  refine kEnd_g ?_ (by first | exact .inl rfl | exact .inr rfl)
  exact Sub.eq rfl rfl
set_option maxHeartbeats 4000000 in
theorem begin_d {s : ByteArray} {k : Kd} {n o : Nat} (hk : Okd s k n o) {rs : List Rg} {c0 : Rg} {ct : List Rg} (hd : domB rs = true) (hc : canonRs rs = c0 :: ct) (hs : SpOk c0 ct) : DC Try.prog 126 [dsD s n o, domD rs] (.tup [spD s n o c0 ct, iD 0]) := by
  have V := tValid_d s n o
  rw [okd_v hk] at V
  have C := dCanon_d rs
  rw [dCanonRes, hd, if_pos rfl, hc] at C
  have hv := (domB_iff.1 hs.dom).2.1 c0 (by simp)
  have M := sMembers_ok hv hs.few
  have N := dCount_d (c0 :: ct)
  rw [dCountRes, hs.dom, if_pos rfl, ← iN_mul] at N
  have hl : (memN c0).length = cN c0 := memN_len c0
  have hfew := hs.few
  have hP : cN c0 * iN c0 ct ≤ 4096 := by rw [iN_mul]; exact (domB_iff.1 hs.dom).2.2
  have h0 : 0 < (c0 :: ct).length := by simp
  dsimp only at C N
  by_cases hz : cN c0 * iN c0 ct = 0
  · have hin : iN c0 ct = 0 := by
      unfold iN at hz ⊢
      split
      · rfl
      · rename_i h1
        rw [if_neg h1] at hz
        rcases Nat.mul_eq_zero.1 hz with h | h
        · exact absurd h h1
        · exact h
    rw [hz] at N
    rw [spD, spO, hin]
    generalize memN c0 = ml at *
    refine DC.of Try.func126 Try.ntmps126 Try.results126 rfl (by decide +kernel) rfl ?_
    repeat (first | refine Z1 ?_ | refine Z2 ?_ | (refine Z3 ?_; (repeat (first | (apply gS; first | refine go_f ?_ | refine gx ?_ | refine gm ?_ | refine gp ?_ | refine go_c rfl rfl (V) ?_ | refine go_cF rfl rfl (V) ?_ | refine go_cA rfl rfl (V) ?_ | refine go_c rfl rfl (C) ?_ | refine go_cF rfl rfl (C) ?_ | refine go_cA rfl rfl (C) ?_ | refine go_c rfl rfl (M) ?_ | refine go_cF rfl rfl (M) ?_ | refine go_cA rfl rfl (M) ?_ | refine go_c rfl rfl (N) ?_ | refine go_cF rfl rfl (N) ?_ | refine go_cA rfl rfl (N) ?_) | (apply gZ; first | refine go_f ?_ | refine gx ?_ | refine gm ?_))); refine T_nil ?_) | (apply ZK; first | refine Z4 ?_ | refine Z5 ?_) | refine Z6 ?_ | refine Z7 ?_ | refine ZF ?_)
    repeat (first | refine kEnd_m ?_ | refine kEnd_f ?_)
    refine kEnd_g ?_ (by first | exact .inl rfl | exact .inr rfl)
    exact Sub.eq rfl rfl
  · have hp0 : 0 < cN c0 := Nat.pos_of_ne_zero fun e => hz (by rw [e, Nat.zero_mul])
    have e : ((cN c0 * iN c0 ct : Nat) : Int).tdiv ((memN c0).length : Nat) = ((iN c0 ct : Nat) : Int) := by
      rw [hl, ← Int.ofNat_tdiv, Nat.mul_div_cancel_left _ hp0]
    have hz' : 0 < cN c0 * iN c0 ct := Nat.pos_of_ne_zero hz
    have hml : 0 < (memN c0).length := by omega
    rw [spD, spO]
    generalize memN c0 = ml at *
    generalize cN c0 * iN c0 ct = P at *
    generalize iN c0 ct = W at *
    clear hl
    refine DC.of Try.func126 Try.ntmps126 Try.results126 rfl (by decide +kernel) rfl ?_
    repeat (first | refine Z1 ?_ | refine Z2 ?_ | (refine Z3 ?_; (repeat (first | (apply gS; first | refine go_f ?_ | refine gx ?_ | refine gm ?_ | refine gp ?_ | refine go_c rfl rfl (V) ?_ | refine go_cF rfl rfl (V) ?_ | refine go_cA rfl rfl (V) ?_ | refine go_c rfl rfl (C) ?_ | refine go_cF rfl rfl (C) ?_ | refine go_cA rfl rfl (C) ?_ | refine go_c rfl rfl (M) ?_ | refine go_cF rfl rfl (M) ?_ | refine go_cA rfl rfl (M) ?_ | refine go_c rfl rfl (N) ?_ | refine go_cF rfl rfl (N) ?_ | refine go_cA rfl rfl (N) ?_) | (apply gZ; first | refine go_f ?_ | refine gx ?_ | refine gm ?_))); refine T_nil ?_) | (apply ZK; first | refine Z4 ?_ | refine Z5 ?_) | refine Z6 ?_ | refine Z7 ?_ | refine ZF ?_)
    repeat (first | refine kEnd_m ?_ | refine kEnd_f ?_)
    refine kEnd_g ?_ (by first | exact .inl rfl | exact .inr rfl)
    exact Sub.eq (by rw [← e]; rfl) rfl
/-! ### owners -/
theorem prod_own {i o : Nat} (hi : i < 4096) (ho : o ≤ 8) : (0 : Int) ≤ (i : Int) * o ∧ (i : Int) * o ≤ 32768 := by
  have h := Nat.mul_le_mul (Nat.le_of_lt hi) ho
  have e : ((i * o : Nat) : Int) = (i : Int) * o := Int.natCast_mul i o
  omega
theorem owner_d {s : ByteArray} {k : Kd} {n o : Nat} (hk : Okd s k n o) (cr : List Rg) (ml : List Int) (inn : Nat) {i : Nat} (hi : i < ml.length) (hl : ml.length ≤ 4096) : DC Try.prog 128 [spO s n o cr ml inn, iD i] (iD (own k n o ml.length i)) := by
  obtain ⟨q1, q2, q3, q4⟩ := okd_ne hk
  obtain ⟨h1, h2, h3, h4, h5⟩ := hk.ok
  have p := prod_own (i := i) (o := o) (by omega) h2
  have h6 := hk.eq
  cases k with
  | whole =>
    have a2 := q2 (by decide)
    have a3 := q3 (by decide)
    have a4 := q4 (by decide)
    refine DC.of Try.func128 Try.ntmps128 Try.results128 rfl (by decide +kernel) rfl ?_
    repeat (first | refine Z1 ?_ | refine Z2 ?_ | (refine Z3 ?_; (repeat (first | (apply gS; first | refine go_f ?_ | refine gx ?_ | refine gm ?_ | refine gp ?_))); refine T_nil ?_) | (apply ZR; (try dsimp only [List.map_cons, List.map_nil]); refine C_dr mixed ?_; (repeat (first | (apply vS; first | refine va ?_ | refine vp ?_ | refine vr ?_ | refine vt ?_))); refine W_e ?_) | (apply ZK; first | refine Z4 ?_ | refine Z5 ?_) | refine Z6 ?_ | refine Z7 ?_ | refine Z8 ?_ | refine Z9 ?_ | refine ZA ?_ | refine ZB ?_ | refine ZC ?_ | refine ZF ?_)
    repeat (first | refine kEnd_m ?_ | refine kEnd_f ?_)
    refine kEnd_g ?_ (by first | exact .inl rfl | exact .inr rfl)
    exact Sub.eq rfl rfl
  | block =>
    have a2 : s.toList = (kb .block).toList := h6
    have e : ((i : Int) * (o : Int)).tdiv (ml.length : Nat) = ((own .block n o ml.length i : Nat) : Int) := by
      rw [show ((i : Int) * (o : Int)) = ((i * o : Nat) : Int) by rw [Int.natCast_mul], ← Int.ofNat_tdiv]; rfl
    refine DC.of Try.func128 Try.ntmps128 Try.results128 rfl (by decide +kernel) rfl ?_
    repeat (first | refine Z1 ?_ | refine Z2 ?_ | (refine Z3 ?_; (repeat (first | (apply gS; first | refine go_f ?_ | refine gx ?_ | refine gm ?_ | refine gp ?_))); refine T_nil ?_) | (apply ZR; (try dsimp only [List.map_cons, List.map_nil]); refine C_dr mixed ?_; (repeat (first | (apply vS; first | refine va ?_ | refine vp ?_ | refine vr ?_ | refine vt ?_))); refine W_e ?_) | (apply ZK; first | refine Z4 ?_ | refine Z5 ?_) | refine Z6 ?_ | refine Z7 ?_ | refine Z8 ?_ | refine Z9 ?_ | refine ZA ?_ | refine ZB ?_ | refine ZC ?_ | refine ZF ?_)
    repeat (first | refine kEnd_m ?_ | refine kEnd_f ?_)
    refine kEnd_g ?_ (by first | exact .inl rfl | exact .inr rfl)
    exact Sub.eq (by rw [← e]; rfl) rfl
  | cyclic =>
    have a2 := q2 (by decide)
    have a3 : s.toList = (kb .cyclic).toList := h6
    have e : (i : Int).tmod (o : Int) = ((own .cyclic n o ml.length i : Nat) : Int) := by rw [← Int.ofNat_tmod]; rfl
    refine DC.of Try.func128 Try.ntmps128 Try.results128 rfl (by decide +kernel) rfl ?_
    repeat (first | refine Z1 ?_ | refine Z2 ?_ | (refine Z3 ?_; (repeat (first | (apply gS; first | refine go_f ?_ | refine gx ?_ | refine gm ?_ | refine gp ?_))); refine T_nil ?_) | (apply ZR; (try dsimp only [List.map_cons, List.map_nil]); refine C_dr mixed ?_; (repeat (first | (apply vS; first | refine va ?_ | refine vp ?_ | refine vr ?_ | refine vt ?_))); refine W_e ?_) | (apply ZK; first | refine Z4 ?_ | refine Z5 ?_) | refine Z6 ?_ | refine Z7 ?_ | refine Z8 ?_ | refine Z9 ?_ | refine ZA ?_ | refine ZB ?_ | refine ZC ?_ | refine ZF ?_)
    repeat (first | refine kEnd_m ?_ | refine kEnd_f ?_)
    refine kEnd_g ?_ (by first | exact .inl rfl | exact .inr rfl)
    exact Sub.eq (by rw [← e]; rfl) rfl
  | blocks =>
    have a2 := q2 (by decide)
    have a3 := q3 (by decide)
    have a4 : s.toList = (kb .blocks).toList := h6
    have hn := h3 rfl
    have e : ((i : Int).tdiv (n : Int)).tmod (o : Int) = ((own .blocks n o ml.length i : Nat) : Int) := by rw [← Int.ofNat_tdiv, ← Int.ofNat_tmod]; rfl
    refine DC.of Try.func128 Try.ntmps128 Try.results128 rfl (by decide +kernel) rfl ?_
    repeat (first | refine Z1 ?_ | refine Z2 ?_ | (refine Z3 ?_; (repeat (first | (apply gS; first | refine go_f ?_ | refine gx ?_ | refine gm ?_ | refine gp ?_))); refine T_nil ?_) | (apply ZR; (try dsimp only [List.map_cons, List.map_nil]); refine C_dr mixed ?_; (repeat (first | (apply vS; first | refine va ?_ | refine vp ?_ | refine vr ?_ | refine vt ?_))); refine W_e ?_) | (apply ZK; first | refine Z4 ?_ | refine Z5 ?_) | refine Z6 ?_ | refine Z7 ?_ | refine Z8 ?_ | refine Z9 ?_ | refine ZA ?_ | refine ZB ?_ | refine ZC ?_ | refine ZF ?_)
    repeat (first | refine kEnd_m ?_ | refine kEnd_f ?_)
    refine kEnd_g ?_ (by first | exact .inl rfl | exact .inr rfl)
    exact Sub.eq (by rw [← e]; rfl) rfl
theorem ow_snoc {k : Kd} {n o R p i : Nat} : (List.range (i + 1)).filter (fun i => decide (own k n o R i = p)) = (List.range i).filter (fun i => decide (own k n o R i = p)) ++ (if own k n o R i = p then [i] else []) := by
  rw [List.range_succ, List.filter_append]
  by_cases h : own k n o R i = p <;> simp [h]
theorem owned_d {s : ByteArray} {k : Kd} {n o : Nat} (hk : Okd s k n o) (cr : List Rg) (ml : List Int) (inn p : Nat) (hl : ml.length ≤ 4096) : DC Try.prog 130 [spO s n o cr ml inn, iD p] (rowI (natsI (ow k n o ml.length p))) := by
  have O := fun i (hi : i < ml.length) => owner_d hk cr ml inn hi hl
  have hB : ∀ i, ((List.range i).filter fun i => decide (own k n o ml.length i = p)).length ≤ i := fun i => by
    have := List.length_filter_le (fun i => decide (own k n o ml.length i = p)) (List.range i)
    simpa using this
  have hS := fun i => ow_snoc (k := k) (n := n) (o := o) (R := ml.length) (p := p) (i := i)
  have hE : ow k n o ml.length p = (List.range ml.length).filter fun i => decide (own k n o ml.length i = p) := rfl
  obtain ⟨g, hg⟩ : ∃ g : Nat → List Nat, ∀ i, g i = (List.range i).filter fun i => decide (own k n o ml.length i = p) := ⟨_, fun _ => rfl⟩
  simp only [← hg] at hB hS hE
  have h0 : (g 0).length = 0 := by rw [hg]; rfl
  have h0' : intsD (natsI (g 0)) = [] := by rw [hg]; rfl
  clear hg
  rw [hE]
  have er : rowI (natsI (g ml.length)) = .row (g ml.length).length (intsD (natsI (g ml.length))) := by show D.row _ _ = _; rw [natsI, List.length_map]
  rw [er]
  refine DC.of Try.func130 Try.ntmps130 Try.results130 rfl (by decide +kernel) rfl ?_
  repeat (first | refine Z1 ?_ | refine Z2 ?_ | (refine Z3 ?_; (repeat (first | (apply gS; first | refine go_f ?_ | refine gx ?_ | refine gm ?_ | refine gp ?_))); refine T_nil ?_) | (apply ZK; first | refine Z4 ?_ | refine Z5 ?_) | refine Z6 ?_ | refine Z7 ?_ | refine Z8 ?_ | refine Z9 ?_ | refine ZA ?_ | refine ZB ?_ | refine ZC ?_ | refine ZD ?_ | refine ZE ?_ | refine ZF ?_ | refine ZG ?_ | refine ZH ?_)
  refine C_count ml.length (fun _ => True) (fun i => ⟨1, 26, [(12, iD i), (11, iD ml.length), (5, .own 0 (g i).length), (0, spO s n o cr ml inn), (1, iD p)], [(0, some ⟨3, 1, (g i).length, intsD (natsI (g i))⟩)]⟩) ?_ trivial ?_
  · rw [h0, h0']
    refine Wk.trans (Wk.adoptT 5 3 1 rfl) ?_
    exact Wk.gx (fun b => b)
  · intro i hi _
    have q := hB i
    by_cases hlt : i < ml.length
    · have C := O i hlt
      have e := hS i
      by_cases hp : own k n o ml.length i = p
      · rw [if_pos hp] at e
        have e1 : (g (i + 1)).length = (g i).length + 1 := by rw [e]; simp
        have e2 : intsD (natsI (g (i + 1))) = intsD (natsI (g i)) ++ [iD i] := by rw [e]; simp [intsD, natsI]
        clear hS hB O e
        generalize own k n o ml.length i = w at *
        repeat (first | refine Z1 ?_ | refine Z2 ?_ | (refine Z3 ?_; (repeat (first | (apply gS; first | refine go_f ?_ | refine gx ?_ | refine gm ?_ | refine gp ?_ | refine go_c rfl rfl (C) ?_ | refine go_cF rfl rfl (C) ?_ | refine go_cA rfl rfl (C) ?_))); refine T_nil ?_) | (apply ZK; first | refine Z4 ?_ | refine Z5 ?_) | refine Z6 ?_ | refine Z7 ?_ | refine Z8 ?_ | refine Z9 ?_ | refine ZA ?_ | refine ZB ?_ | refine ZC ?_ | refine ZD ?_ | refine ZE ?_ | refine ZF ?_ | refine ZG ?_ | refine ZH ?_)
        refine kLoop_n ⟨hlt, trivial, ?_⟩
        exact Wk.gx (fun b => cond (Nat.beq b 0) 1 (b))
      · rw [if_neg hp, List.append_nil] at e
        have e1 : (g (i + 1)).length = (g i).length := by rw [e]
        have e2 : intsD (natsI (g (i + 1))) = intsD (natsI (g i)) := by rw [e]
        clear hS hB O e
        generalize own k n o ml.length i = w at *
        repeat (first | refine Z1 ?_ | refine Z2 ?_ | (refine Z3 ?_; (repeat (first | (apply gS; first | refine go_f ?_ | refine gx ?_ | refine gm ?_ | refine gp ?_ | refine go_c rfl rfl (C) ?_ | refine go_cF rfl rfl (C) ?_ | refine go_cA rfl rfl (C) ?_))); refine T_nil ?_) | (apply ZK; first | refine Z4 ?_ | refine Z5 ?_) | refine Z6 ?_ | refine Z7 ?_ | refine Z8 ?_ | refine Z9 ?_ | refine ZA ?_ | refine ZB ?_ | refine ZC ?_ | refine ZD ?_ | refine ZE ?_ | refine ZF ?_ | refine ZG ?_ | refine ZH ?_)
        refine kLoop_n ⟨hlt, trivial, ?_⟩
        exact Wk.gx (fun b => b)
    · obtain rfl : i = ml.length := by omega
      repeat (first | refine Z1 ?_ | refine Z2 ?_ | (refine Z3 ?_; (repeat (first | (apply gS; first | refine go_f ?_ | refine gx ?_ | refine gm ?_ | refine gp ?_))); refine T_nil ?_) | (apply ZK; first | refine Z4 ?_ | refine Z5 ?_) | refine Z6 ?_ | refine Z7 ?_ | refine Z8 ?_ | refine Z9 ?_ | refine ZA ?_ | refine ZB ?_ | refine ZC ?_ | refine ZD ?_ | refine ZE ?_ | refine ZF ?_ | refine ZG ?_ | refine ZH ?_)
      repeat (first | refine kEnd_m ?_ | refine kEnd_f ?_)
      refine kEnd_g ?_ (by first | exact .inl rfl | exact .inr rfl)
      exact Sub.eq rfl rfl
theorem isPlace_t (s : ByteArray) (n o : Nat) (cr : List Rg) (ml : List Int) (inn : Nat) (p : Int) (h0 : 0 ≤ p) (h1 : p < o) : DC Try.prog 139 [spO s n o cr ml inn, iD p] (bD true) := by
  refine DC.of Try.func139 Try.ntmps139 Try.results139 rfl (by decide +kernel) rfl ?_
  repeat (first | refine Z1 ?_ | refine Z2 ?_ | (refine Z3 ?_; (repeat (first | (apply gS; first | refine go_no ?_ | refine go_f ?_ | refine gx ?_ | refine gm ?_ | refine gp ?_))); refine T_nil ?_) | (apply ZK; first | refine Z4 ?_ | refine Z5 ?_) | refine Z6 ?_ | refine Z7 ?_)
  repeat (first | refine kEnd_m ?_ | refine kEnd_f ?_)
  refine kEnd_g ?_ (by first | exact .inl rfl | exact .inr rfl)
  exact Sub.eq rfl rfl
theorem isPlace_f (s : ByteArray) (n o : Nat) (cr : List Rg) (ml : List Int) (inn : Nat) (p : Int) (h : p < 0 ∨ 0 ≤ p ∧ (o : Int) ≤ p) : DC Try.prog 139 [spO s n o cr ml inn, iD p] (bD false) := by
  rcases h with h | ⟨h0, h1⟩
  all_goals
    refine DC.of Try.func139 Try.ntmps139 Try.results139 rfl (by decide +kernel) rfl ?_
    repeat (first | refine Z1 ?_ | refine Z2 ?_ | (refine Z3 ?_; (repeat (first | (apply gS; first | refine go_no ?_ | refine go_f ?_ | refine gx ?_ | refine gm ?_ | refine gp ?_))); refine T_nil ?_) | (apply ZK; first | refine Z4 ?_ | refine Z5 ?_) | refine Z6 ?_ | refine Z7 ?_)
    repeat (first | refine kEnd_m ?_ | refine kEnd_f ?_)
    refine kEnd_g ?_ (by first | exact .inl rfl | exact .inr rfl)
    exact Sub.eq rfl rfl
/-! ### parts -/
theorem chain_step {a b c : Int} : (a - b == b - c) = decide (a - b = b - c) := rfl
/-- whether a part and one member more have a range -/
def chainB (ml : List Int) (part : List Nat) (i : Nat) : Bool :=
  if 1 < part.length then decide (ml.getD i 0 - ml.getD (part.getD (part.length - 1) 0) 0 = ml.getD (part.getD (part.length - 1) 0) 0 - ml.getD (part.getD (part.length - 2) 0) 0)
  else decide (-1000 ≤ ml.getD i 0 - ml.getD (part.getD (part.length - 1) 0) 0 ∧ ml.getD i 0 - ml.getD (part.getD (part.length - 1) 0) 0 ≤ 1000)
theorem getD_at {α : Type} {l : List α} {i : Nat} (h : i < l.length) (d : α) : l.getD i d = l[i] := by simp [h]
theorem chain_d (s : ByteArray) (n o : Nat) (cr : List Rg) (ml : List Int) (inn : Nat) (hb : ∀ j (h : j < ml.length), -1000000 ≤ ml[j] ∧ ml[j] ≤ 1000000) (part : List Nat) (i : Nat) (h0 : 0 < part.length) (hp : ∀ j ∈ part, j < ml.length) (hi : i < ml.length) (hl : part.length ≤ 4096) :
    DC Try.prog 177 [spO s n o cr ml inn, rowI (natsI part), iD i] (bD (chainB ml part i)) := by
  have hpl : (natsI part).length = part.length := by simp [natsI]
  have a0 : part.length - 1 < part.length := by omega
  have a1 := hp _ (List.getElem_mem a0)
  unfold chainB
  rw [getD_at hi, getD_at a0, getD_at a1]
  have b0 := hb i hi
  have b1 := hb _ a1
  have g1 : (natsI part)[((part.length : Int) - 1).toNat]'(by rw [hpl]; omega) = ((part[part.length - 1] : Nat) : Int) := by
    simp only [natsI, List.getElem_map, show ((part.length : Int) - 1).toNat = part.length - 1 by omega]
  rw [show rowI (natsI part) = .row part.length (intsD (natsI part)) by show D.row _ _ = _; rw [hpl]]
  by_cases h1 : 1 < part.length
  · rw [if_pos h1]
    have a2 : part.length - 2 < part.length := by omega
    have a3 := hp _ (List.getElem_mem a2)
    rw [getD_at a2, getD_at a3]
    have b2 := hb _ a3
    have g2 : (natsI part)[((part.length : Int) - 2).toNat]'(by rw [hpl]; omega) = ((part[part.length - 2] : Nat) : Int) := by
      simp only [natsI, List.getElem_map, show ((part.length : Int) - 2).toNat = part.length - 2 by omega]
    have e1 : ml[((natsI part)[((part.length : Int) - 1).toNat]'(by rw [hpl]; omega)).toNat]'(by rw [g1]; exact a1) = ml[part[part.length - 1]] := by simp only [g1, Int.toNat_natCast]
    have e2 : ml[((natsI part)[((part.length : Int) - 2).toNat]'(by rw [hpl]; omega)).toNat]'(by rw [g2]; exact a3) = ml[part[part.length - 2]] := by simp only [g2, Int.toNat_natCast]
    rw [← e1] at b1 ⊢
    rw [← e2] at b2 ⊢
    clear e1 e2
    refine DC.of Try.func177 Try.ntmps177 Try.results177 rfl (by decide +kernel) rfl ?_
    repeat (first | refine Z1 ?_ | refine Z2 ?_ | (refine Z3 ?_; (repeat (first | (apply gS; first | refine go_no ?_ | refine go_f ?_ | refine gx ?_ | refine gm ?_ | refine gp ?_))); refine T_nil ?_) | (apply ZR; (try dsimp only [List.map_cons, List.map_nil]); refine C_dr mixed ?_; (repeat (first | (apply vS; first | refine vn ?_ | refine va ?_ | refine vp ?_ | refine vr ?_ | refine vt ?_))); refine W_e ?_) | (apply ZK; first | refine Z4 ?_ | refine Z5 ?_) | refine Z6 ?_ | refine Z7 ?_ | refine ZF ?_)
    repeat (first | refine kEnd_m ?_ | refine kEnd_f ?_)
    refine kEnd_g ?_ (by first | exact .inl rfl | exact .inr rfl)
    exact Sub.eq rfl rfl
  · rw [if_neg h1]
    by_cases c1 : -1000 ≤ ml[i] - ml[part[part.length - 1]]
    · rw [show decide (-1000 ≤ ml[i] - ml[part[part.length - 1]] ∧ ml[i] - ml[part[part.length - 1]] ≤ 1000) = decide (ml[i] - ml[part[part.length - 1]] ≤ 1000) by simp [c1]]
      have e : ml[((natsI part)[((part.length : Int) - 1).toNat]'(by rw [hpl]; omega)).toNat]'(by rw [g1]; exact a1) = ml[part[part.length - 1]] := by simp only [g1, Int.toNat_natCast]
      rw [← e] at c1 b1 ⊢
      refine DC.of Try.func177 Try.ntmps177 Try.results177 rfl (by decide +kernel) rfl ?_
      repeat (first | refine Z1 ?_ | refine Z2 ?_ | (refine Z3 ?_; (repeat (first | (apply gS; first | refine go_no ?_ | refine go_f ?_ | refine gx ?_ | refine gm ?_ | refine gp ?_))); refine T_nil ?_) | (apply ZR; (try dsimp only [List.map_cons, List.map_nil]); refine C_dr mixed ?_; (repeat (first | (apply vS; first | refine vn ?_ | refine va ?_ | refine vp ?_ | refine vr ?_ | refine vt ?_))); refine W_e ?_) | (apply ZK; first | refine Z4 ?_ | refine Z5 ?_) | refine Z6 ?_ | refine Z7 ?_ | refine ZF ?_)
      repeat (first | refine kEnd_m ?_ | refine kEnd_f ?_)
      refine kEnd_g ?_ (by first | exact .inl rfl | exact .inr rfl)
      exact Sub.eq rfl rfl
    · rw [show decide (-1000 ≤ ml[i] - ml[part[part.length - 1]] ∧ ml[i] - ml[part[part.length - 1]] ≤ 1000) = false by simp [c1]]
      have e : ml[((natsI part)[((part.length : Int) - 1).toNat]'(by rw [hpl]; omega)).toNat]'(by rw [g1]; exact a1) = ml[part[part.length - 1]] := by simp only [g1, Int.toNat_natCast]
      rw [← e] at c1 b1
      refine DC.of Try.func177 Try.ntmps177 Try.results177 rfl (by decide +kernel) rfl ?_
      repeat (first | refine Z1 ?_ | refine Z2 ?_ | (refine Z3 ?_; (repeat (first | (apply gS; first | refine go_no ?_ | refine go_f ?_ | refine gx ?_ | refine gm ?_ | refine gp ?_))); refine T_nil ?_) | (apply ZR; (try dsimp only [List.map_cons, List.map_nil]); refine C_dr mixed ?_; (repeat (first | (apply vS; first | refine vn ?_ | refine va ?_ | refine vp ?_ | refine vr ?_ | refine vt ?_))); refine W_e ?_) | (apply ZK; first | refine Z4 ?_ | refine Z5 ?_) | refine Z6 ?_ | refine Z7 ?_ | refine ZF ?_)
      repeat (first | refine kEnd_m ?_ | refine kEnd_f ?_)
      refine kEnd_g ?_ (by first | exact .inl rfl | exact .inr rfl)
      exact Sub.eq rfl rfl
end Go.Proofs.Ytifapodobhkdcaa
namespace Go.Proofs.Ytifapodobhkdcaa
open Go.RowKit
set_option linter.unusedVariables false
set_option maxHeartbeats 16000000
set_option linter.unusedSimpArgs false
set_option maxRecDepth 100000
def blockB (n : Nat) (part : List Nat) (i : Nat) : Bool := decide (part.getD 0 0 / n = i / n)
theorem blockB_d (s : ByteArray) (n o : Nat) (cr : List Rg) (ml : List Int) (inn : Nat) (part : List Nat) (i : Nat) (h0 : 0 < part.length) (hn : 0 < n) (hp : ∀ j ∈ part, j < 1000000) (hi : i < 1000000) :
    DC Try.prog 178 [rowI (natsI part), iD i, .obj [spO s n o cr ml inn]] (bD (blockB n part i)) := by
  have hpl : (natsI part).length = part.length := by simp [natsI]
  have h1 := hp _ (List.getElem_mem h0)
  have g1 : (natsI part)[0]'(by omega) = ((part[0] : Nat) : Int) := by simp [natsI]
  have e : bD (blockB n part i) = .val (.bool (decide (((natsI part)[0]'(by omega)).tdiv n = (i : Int).tdiv n))) := by
    unfold blockB
    rw [getD_at h0, g1, ← Int.ofNat_tdiv, ← Int.ofNat_tdiv]
    simp only [Int.natCast_inj]
  rw [e]
  rw [show rowI (natsI part) = .row part.length (intsD (natsI part)) by show D.row _ _ = _; rw [hpl]]
  refine DC.of Try.func178 Try.ntmps178 Try.results178 rfl (by decide +kernel) rfl ?_
  repeat (first | refine Z1 ?_ | refine Z2 ?_ | (refine Z3 ?_; (repeat (first | (apply gS; first | refine go_f ?_ | refine gx ?_ | refine gm ?_ | refine gp ?_))); refine T_nil ?_) | (apply ZR; (try dsimp only [List.map_cons, List.map_nil]); refine C_dr mixed ?_; (repeat (first | (apply vS; first | refine va ?_ | refine vp ?_ | refine vr ?_ | refine vt ?_))); refine W_e ?_) | (apply ZK; first | refine Z4 ?_ | refine Z5 ?_) | refine Z6 ?_ | refine Z7 ?_)
  repeat (first | refine kEnd_m ?_ | refine kEnd_f ?_)
  refine kEnd_g ?_ (by first | exact .inl rfl | exact .inr rfl)
  exact Sub.eq rfl rfl
def besideB (part : List Nat) (i : Nat) : Bool := decide (i = part.getD (part.length - 1) 0 + 1)
theorem besideB_d (part : List Nat) (i : Nat) (h0 : 0 < part.length) (hl : part.length ≤ 4096) (hp : ∀ j ∈ part, j < 1000000) (hi : i < 1000000) :
    DC Try.prog 142 [rowI (natsI part), iD i] (bD (besideB part i)) := by
  have hpl : (natsI part).length = part.length := by simp [natsI]
  have a0 : part.length - 1 < part.length := by omega
  have h1 := hp _ (List.getElem_mem a0)
  have g1 : (natsI part)[((part.length : Int) - 1).toNat]'(by rw [hpl]; omega) = ((part[part.length - 1] : Nat) : Int) := by
    simp only [natsI, List.getElem_map, show ((part.length : Int) - 1).toNat = part.length - 1 by omega]
  have e : bD (besideB part i) = .val (.bool (decide ((i : Int) = (natsI part)[((part.length : Int) - 1).toNat]'(by rw [hpl]; omega) + 1))) := by
    unfold besideB
    rw [getD_at a0, g1]
    congr 2
    exact propext (by omega)
  rw [e]
  rw [show rowI (natsI part) = .row part.length (intsD (natsI part)) by show D.row _ _ = _; rw [hpl]]
  refine DC.of Try.func142 Try.ntmps142 Try.results142 rfl (by decide +kernel) rfl ?_
  repeat (first | refine Z1 ?_ | refine Z2 ?_ | (refine Z3 ?_; (repeat (first | (apply gS; first | refine go_f ?_ | refine gx ?_ | refine gm ?_ | refine gp ?_))); refine T_nil ?_) | (apply ZK; first | refine Z4 ?_ | refine Z5 ?_) | refine Z6 ?_ | refine Z7 ?_)
  repeat (first | refine kEnd_m ?_ | refine kEnd_f ?_)
  refine kEnd_g ?_ (by first | exact .inl rfl | exact .inr rfl)
  exact Sub.eq rfl rfl
/-! ### part -/
def gM (ml : List Int) (l : List Nat) : List Int := l.map fun i => ml.getD i 0
def partC (ct : List Rg) (ml : List Int) (l : List Nat) : List Rg := (dCanonRes ((ofRes (gM ml l)).1 :: ct)).1
theorem gM_snoc {ml : List Int} {l : List Nat} {k : Nat} (h : k < l.length) : gM ml (l.take (k + 1)) = gM ml (l.take k) ++ [ml.getD l[k] 0] := by
  unfold gM
  rw [List.take_succ_eq_append_getElem h, List.map_append]; rfl
set_option maxHeartbeats 4000000 in
theorem spPart_d (s : ByteArray) (n o : Nat) (c0 : Rg) (ct : List Rg) (ml : List Int) (inn : Nat) (hct : ct.length ≤ 10) (l : List Nat) (hl : ∀ j ∈ l, j < ml.length) (hn : l.length ≤ 4096) (hm : ml.length ≤ 4096) :
    DC Try.prog 175 [spO s n o (c0 :: ct) ml inn, rowI (natsI l)] (domD (partC ct ml l)) := by
  have hpl : (natsI l).length = l.length := by simp [natsI]
  have OF := sOfP_d (gM ml l) (by rw [gM, List.length_map]; omega)
  unfold partC
  generalize hr : (ofRes (gM ml l)).1 = r at *
  generalize (ofRes (gM ml l)).2 = e at *
  have CC := (sConcat_d [[r], ct] (by simp) (by simp; omega)).dc
  have ef : [[r], ct].flatten = r :: ct := by simp
  rw [ef] at CC
  have CN := dCanon_d (r :: ct)
  generalize dCanonRes (r :: ct) = c at *
  have e2 : ((c0 :: ct).drop (Int.toNat 1)).take ((c0 :: ct).length - Int.toNat 1) = ct := by
    show (ct).take _ = ct
    exact List.take_of_length_le (by simp)
  have hc1 : 1 ≤ (c0 :: ct).length := by simp
  have hml : ∀ k (h : k < l.length), l[k] < ml.length := fun k h => hl _ (List.getElem_mem h)
  have gk : ∀ k (h : k < l.length), (natsI l)[k]'(by omega) = ((l[k] : Nat) : Int) := fun k h => by simp [natsI]
  have gl : ∀ k, k ≤ l.length → (gM ml (l.take k)).length = k := fun k h => by rw [gM, List.length_map, List.length_take]; omega
  have hf : gM ml (l.take l.length) = gM ml l := by rw [List.take_length]
  have g0 : intsD (gM ml (l.take 0)) = [] := rfl
  clear hr hl
  have er : rowI (natsI l) = .row l.length (intsD (natsI l)) := by show D.row _ _ = _; rw [hpl]
  have eg : rowI (gM ml l) = .row l.length (intsD (gM ml l)) := by show D.row _ _ = _; rw [gM, List.length_map]
  rw [eg] at OF
  rw [er]
  refine DC.of Try.func175 Try.ntmps175 Try.results175 rfl (by decide +kernel) rfl ?_
  repeat (first | refine Z1 ?_ | refine Z2 ?_ | (refine Z3 ?_; (repeat (first | (apply gS; first | refine go_f ?_ | refine gx ?_ | refine gm ?_ | refine gp ?_) | (apply gZ; first | refine go_f ?_ | refine gx ?_ | refine gm ?_))); refine T_nil ?_) | (apply ZR; (try dsimp only [List.map_cons, List.map_nil]); refine C_dr mixed ?_; (repeat (first | (apply vS; first | refine va ?_ | refine vp ?_ | refine vr ?_ | refine vt ?_) | (apply vZ; first | refine vs ?_ | refine vw ?_))); refine W_e ?_) | (apply ZK; first | refine Z4 ?_ | refine Z5 ?_) | refine Z6 ?_ | refine Z7 ?_ | refine Z8 ?_ | refine Z9 ?_ | refine ZA ?_ | refine ZB ?_ | refine ZC ?_ | refine ZD ?_ | refine ZE ?_ | refine ZF ?_ | refine ZG ?_ | refine ZH ?_)
  refine C_count l.length (fun _ => True) (fun k => ⟨2, 50, [(14, iD k), (13, iD l.length), (12, .row l.length (intsD (natsI l))), (5, .own 1 k), (4, .ptr 0 0), (0, spO s n o (c0 :: ct) ml inn)], [(0, some ⟨24, 1, 1, [.val (.slice none 0 0)]⟩), (1, some ⟨3, 1, k, intsD (gM ml (l.take k))⟩)]⟩) ?_ trivial ?_
  · refine Wk.trans (Wk.adoptT 5 3 1 rfl) ?_
    exact Wk.gx (fun b => b)
  · intro k hk _
    by_cases hlt : k < l.length
    · have q1 := hml k hlt
      have q2 := gk k hlt
      have q3 : intsD (gM ml (l.take (k + 1))) = intsD (gM ml (l.take k)) ++ [iD (ml[((natsI l)[k]'(by omega)).toNat]'(by rw [q2]; exact q1))] := by
        rw [gM_snoc hlt, getD_at q1]
        simp only [q2, Int.toNat_natCast, intsD, List.map_append, List.map_cons, List.map_nil]
      clear gk hml gl hf
      repeat (first | refine Z1 ?_ | refine Z2 ?_ | (refine Z3 ?_; (repeat (first | (apply gS; first | refine go_f ?_ | refine gx ?_ | refine gm ?_ | refine gp ?_) | (apply gZ; first | refine go_f ?_ | refine gx ?_ | refine gm ?_))); refine T_nil ?_) | (apply ZR; (try dsimp only [List.map_cons, List.map_nil]); refine C_dr mixed ?_; (repeat (first | (apply vS; first | refine va ?_ | refine vp ?_ | refine vr ?_ | refine vt ?_) | (apply vZ; first | refine vs ?_ | refine vw ?_))); refine W_e ?_) | (apply ZK; first | refine Z4 ?_ | refine Z5 ?_) | refine Z6 ?_ | refine Z7 ?_ | refine Z8 ?_ | refine Z9 ?_ | refine ZA ?_ | refine ZB ?_ | refine ZC ?_ | refine ZD ?_ | refine ZE ?_ | refine ZF ?_ | refine ZG ?_ | refine ZH ?_)
      refine kLoop_n ⟨hlt, trivial, ?_⟩
      exact Wk.gx (fun b => cond (Nat.beq b 1) 2 (b))
    · obtain rfl : k = l.length := by omega
      rw [hf]
      clear gk hml gl hf g0
      repeat (first | refine Z1 ?_ | refine Z2 ?_ | (refine Z3 ?_; (repeat (first | (apply gS; first | refine go_f ?_ | refine gx ?_ | refine gm ?_ | refine gp ?_ | refine go_c rfl rfl (OF) ?_ | refine go_cF rfl rfl (OF) ?_ | refine go_cA rfl rfl (OF) ?_ | refine go_c rfl rfl (CC) ?_ | refine go_cF rfl rfl (CC) ?_ | refine go_cA rfl rfl (CC) ?_ | refine go_c rfl rfl (CN) ?_ | refine go_cF rfl rfl (CN) ?_ | refine go_cA rfl rfl (CN) ?_) | (apply gZ; first | refine go_f ?_ | refine gx ?_ | refine gm ?_))); refine T_nil ?_) | (apply ZR; (try dsimp only [List.map_cons, List.map_nil]); refine C_dr mixed ?_; (repeat (first | (apply vS; first | refine va ?_ | refine vp ?_ | refine vr ?_ | refine vt ?_ | refine vc (OF) ?_ | refine vcF (OF) ?_ | refine vc (CC) ?_ | refine vcF (CC) ?_ | refine vc (CN) ?_ | refine vcF (CN) ?_) | (apply vZ; first | refine vs ?_ | refine vw ?_))); refine W_e ?_) | (apply ZK; first | refine Z4 ?_ | refine Z5 ?_) | refine Z6 ?_ | refine Z7 ?_ | refine Z8 ?_ | refine Z9 ?_ | refine ZA ?_ | refine ZB ?_ | refine ZC ?_ | refine ZD ?_ | refine ZE ?_ | refine ZF ?_ | refine ZG ?_ | refine ZH ?_)
      repeat (first | refine kEnd_m ?_ | refine kEnd_f ?_)
      refine kEnd_g ?_ (by first | exact .inl rfl | exact .inr rfl)
      exact Sub.eq rfl rfl
/-! ### parts -/
theorem cutAt_le {α : Type} (gs : List (List α)) (k : Nat) : cutAt gs k ≤ gs.flatten.length := by
  have e : gs.flatten = (gs.take k).flatten ++ (gs.drop k).flatten := by rw [← List.flatten_append, List.take_append_drop]
  unfold cutAt
  rw [e, List.length_append]; omega
set_option maxHeartbeats 8000000 in
theorem spParts_d (s : ByteArray) (n o : Nat) (c0 : Rg) (ct : List Rg) (ml : List Int) (inn : Nat) (hct : ct.length ≤ 10) (l : List Nat) (hl : ∀ j ∈ l, j < ml.length) (hn : l.length ≤ 4096) (hm : ml.length ≤ 4096)
    (f : Nat) (es cs : List D) (hfn : (D.fn f es cs).ids (fun _ => false) = true) (tg : List Nat → Nat → Bool) (gs : List (List Nat)) (hr : Runs tg l gs)
    (TG : ∀ part i, 0 < part.length → part.length ≤ 4096 → (∀ j ∈ part, j < ml.length) → i < ml.length → DC Try.prog f (es ++ [rowI (natsI part), iD i] ++ cs) (bD (tg part i))) :
    DC Try.prog 143 [spO s n o (c0 :: ct) ml inn, rowI (natsI l), .fn f es cs] (domsD (gs.map (partC ct ml))) := by
  have hflat := hr.flat
  have hget := hr.get
  have hpl : (natsI l).length = l.length := by simp [natsI]
  have hcl : ∀ ds, D.idsL (fun _ => false) ds = true → D.idsL (fun _ => false) (es ++ ds ++ cs) = true := fun ds h => by
    have h2 : (D.idsL (fun _ => false) es && D.idsL (fun _ => false) cs) = true := hfn
    rw [Bool.and_eq_true] at h2
    exact idsL_append (idsL_append h2.1 h) h2.2
  have er : rowI (natsI l) = .row l.length (intsD (natsI l)) := by show D.row _ _ = _; rw [hpl]
  have eo : domsD (gs.map (partC ct ml)) = .row gs.length ((gs.map (partC ct ml)).map rowR) := by show D.row _ _ = _; rw [List.length_map]
  have hcut : ∀ k, cutAt gs k ≤ l.length := fun k => by rw [← hflat]; exact cutAt_le gs k
  have hend : cutAt gs gs.length = l.length := by rw [cutAt_all, hflat]
  have hgl : gs.length ≤ l.length := by
    have key : ∀ k, k ≤ gs.length → k ≤ cutAt gs k := fun k => by
      induction k with
      | zero => intro _; omega
      | succ k ih =>
        intro hk
        have := ih (by omega)
        rw [cutAt_succ (show k < gs.length by omega)]
        have := (hget k (by omega)).1
        omega
    have := key gs.length (Nat.le_refl _)
    omega
  have z0 : cutAt gs 0 = 0 := cutAt_0 gs
  rw [eo, er]
  refine DC.of Try.func143 Try.ntmps143 Try.results143 rfl (by decide +kernel) rfl ?_
  repeat (first | refine Z1 ?_ | refine Z2 ?_ | (refine Z3 ?_; (repeat (first | (apply gS; first | refine go_no ?_ | refine go_f ?_ | refine gx ?_ | refine gm ?_ | refine gp ?_))); refine T_nil ?_) | (apply ZR; (try dsimp only [List.map_cons, List.map_nil]); refine C_dr mixed ?_; (repeat (first | (apply vS; first | refine vn ?_ | refine va ?_ | refine vp ?_ | refine vr ?_ | refine vt ?_))); refine W_e ?_) | (apply ZK; first | refine Z4 ?_ | refine Z5 ?_) | refine Z6 ?_ | refine Z7 ?_ | refine Z8 ?_ | refine Z9 ?_ | refine ZA ?_ | refine ZB ?_ | refine ZC ?_ | refine ZD ?_ | refine ZE ?_ | refine ZF ?_ | refine ZG ?_ | refine ZH ?_)
  refine C_count gs.length (fun _ => True) (fun k => ⟨1, 45, [(8, iD (cutAt gs k)), (7, .own 0 k), (0, spO s n o (c0 :: ct) ml inn), (1, .row l.length (intsD (natsI l))), (2, .fn f es cs)], [(0, some ⟨24, 1, k, ((gs.take k).map (partC ct ml)).map rowR⟩)]⟩) ?_ trivial ?_
  · rw [z0]
    refine Wk.trans (Wk.adoptT 7 24 1 rfl) ?_
    exact Wk.gx (fun b => b)
  · intro k hk _
    have q0 := hcut k
    by_cases hlt : k < gs.length
    · obtain ⟨g1, g2, g3⟩ := hget k hlt
      have q1 := cutAt_succ hlt
      have q2 := hcut (k + 1)
      have hmem : ∀ j ∈ gs[k], j < ml.length := fun j hj => hl j (by rw [← hflat]; exact List.mem_flatten.2 ⟨gs[k], List.getElem_mem hlt, hj⟩)
      have q3 : cutAt gs k < l.length := by omega
      repeat (first | refine Z1 ?_ | refine Z2 ?_ | (refine Z3 ?_; (repeat (first | (apply gS; first | refine go_no ?_ | refine go_f ?_ | refine gx ?_ | refine gm ?_ | refine gp ?_))); refine T_nil ?_) | (apply ZR; (try dsimp only [List.map_cons, List.map_nil]); refine C_dr mixed ?_; (repeat (first | (apply vS; first | refine vn ?_ | refine va ?_ | refine vp ?_ | refine vr ?_ | refine vt ?_))); refine W_e ?_) | (apply ZK; first | refine Z4 ?_ | refine Z5 ?_) | refine Z6 ?_ | refine Z7 ?_ | refine Z8 ?_ | refine Z9 ?_ | refine ZA ?_ | refine ZB ?_ | refine ZC ?_ | refine ZD ?_ | refine ZE ?_ | refine ZF ?_ | refine ZG ?_ | refine ZH ?_)
      refine C_count (gs[k].length - 1) (fun _ => True) (fun j => ⟨1, 45, [(9, iD ((cutAt gs k + 1 + j : Nat) : Int)), (8, iD (cutAt gs k)), (7, .own 0 k), (0, spO s n o (c0 :: ct) ml inn), (1, .row l.length (intsD (natsI l))), (2, .fn f es cs)], [(0, some ⟨24, 1, k, ((gs.take k).map (partC ct ml)).map rowR⟩)]⟩) ?_ trivial ?_
      · exact Wk.gx (fun b => b)
      · intro j hj _
        have hcutp : ∀ m, m ≤ gs[k].length → ((natsI l).drop ((cutAt gs k : Nat) : Int).toNat).take (((cutAt gs k + m : Nat) : Int).toNat - ((cutAt gs k : Nat) : Int).toNat) = natsI (gs[k].take m) := fun m hm => by
          rw [Int.toNat_natCast, Int.toNat_natCast, show cutAt gs k + m - cutAt gs k = m by omega, natsI, ← List.map_drop, ← List.map_take, ← hflat, cut_part hlt hm]
        have s1 := hcutp (1 + j) (by omega)
        rw [← Nat.add_assoc] at s1
        have sp1 : (gs[k].take (1 + j)).length = 1 + j := by rw [List.length_take]; omega
        have hpm : ∀ i ∈ gs[k].take (1 + j), i < ml.length := fun i hi => hmem i (List.mem_of_mem_take hi)
        by_cases hin : cutAt gs k + 1 + j < l.length
        · have gl : (natsI l)[cutAt gs k + 1 + j]'(by omega) = ((l[cutAt gs k + 1 + j] : Nat) : Int) := by simp [natsI]
          have hli : l[cutAt gs k + 1 + j] < ml.length := hl _ (List.getElem_mem hin)
          have T1 := TG (gs[k].take (1 + j)) l[cutAt gs k + 1 + j] (by omega) (by omega) hpm hli
          rw [← gl] at T1
          have hc1 := hcl [rowI (natsI (gs[k].take (1 + j))), iD ((natsI l)[cutAt gs k + 1 + j]'(by omega))] rfl
          by_cases hjl : j < gs[k].length - 1
          · have ht : tg (gs[k].take (1 + j)) l[cutAt gs k + 1 + j] = true := by
              have hj1 : 1 + j < gs[k].length := by omega
              have e1 := g2 (1 + j) hj1 (by omega)
              have e2 := cut_get hlt hj1
              simp only [hflat] at e2
              have e3 : l[cutAt gs k + 1 + j] = gs[k][1 + j] := by rw [← e2]; simp only [Nat.add_assoc]
              rw [e3]; exact e1
            rw [ht] at T1
            clear hcutp TG g3 hget hcut hmem hcl
            repeat (first | refine Z1 ?_ | refine Z2 ?_ | (refine Z3 ?_; (repeat (first | (apply gS; first | refine go_no ?_ | refine go_f ?_ | refine gx ?_ | refine gm ?_ | refine gp ?_ | refine go_c rfl rfl (T1) ?_ | refine go_cF rfl rfl (T1) ?_ | refine go_cA rfl rfl (T1) ?_))); refine T_nil ?_) | (apply ZR; (try dsimp only [List.map_cons, List.map_nil]); refine C_dr mixed ?_; (repeat (first | (apply vS; first | refine vn ?_ | refine va ?_ | refine vp ?_ | refine vr ?_ | refine vt ?_ | refine vc (T1) ?_ | refine vcF (T1) ?_))); refine W_e ?_) | (apply ZK; first | refine Z4 ?_ | refine Z5 ?_) | refine Z6 ?_ | refine Z7 ?_ | refine Z8 ?_ | refine Z9 ?_ | refine ZA ?_ | refine ZB ?_ | refine ZC ?_ | refine ZD ?_ | refine ZE ?_ | refine ZF ?_ | refine ZG ?_ | refine ZH ?_)
            refine kLoop_n ⟨hjl, trivial, ?_⟩
            exact Wk.gx (fun b => b)
          · have hj2 : 1 + j = gs[k].length := by omega
            have hw : gs[k].take (1 + j) = gs[k] := by rw [hj2, List.take_length]
            have ht : tg (gs[k].take (1 + j)) l[cutAt gs k + 1 + j] = false := by
              rw [hw]
              refine g3 _ ?_
              rw [q1, ← hj2, ← Nat.add_assoc, List.getElem?_eq_getElem hin]
            rw [ht] at T1
            have PT := spPart_d s n o c0 ct ml inn hct (gs[k].take (1 + j)) hpm (by omega) hm
            rw [hw] at PT
            have s2 := s1
            rw [hw] at s2
            have en : ((gs.take (k + 1)).map (partC ct ml)).map rowR = ((gs.take k).map (partC ct ml)).map rowR ++ [rowR (partC ct ml gs[k])] := by
              rw [List.take_succ_eq_append_getElem hlt, List.map_append, List.map_append]; rfl
            rw [hw] at T1 hc1
            clear hcutp TG g3 hget hcut hmem hcl s1
            generalize partC ct ml gs[k] = pc at *
            repeat (first | refine Z1 ?_ | refine Z2 ?_ | (refine Z3 ?_; (repeat (first | (apply gS; first | refine go_no ?_ | refine go_f ?_ | refine gx ?_ | refine gm ?_ | refine gp ?_ | refine go_c rfl rfl (T1) ?_ | refine go_cF rfl rfl (T1) ?_ | refine go_cA rfl rfl (T1) ?_ | refine go_c rfl rfl (PT) ?_ | refine go_cF rfl rfl (PT) ?_ | refine go_cA rfl rfl (PT) ?_))); refine T_nil ?_) | (apply ZR; (try dsimp only [List.map_cons, List.map_nil]); refine C_dr mixed ?_; (repeat (first | (apply vS; first | refine vn ?_ | refine va ?_ | refine vp ?_ | refine vr ?_ | refine vt ?_ | refine vc (T1) ?_ | refine vcF (T1) ?_ | refine vc (PT) ?_ | refine vcF (PT) ?_))); refine W_e ?_) | (apply ZK; first | refine Z4 ?_ | refine Z5 ?_) | refine Z6 ?_ | refine Z7 ?_ | refine Z8 ?_ | refine Z9 ?_ | refine ZA ?_ | refine ZB ?_ | refine ZC ?_ | refine ZD ?_ | refine ZE ?_ | refine ZF ?_ | refine ZG ?_ | refine ZH ?_)
            refine kLoop_n ⟨hlt, trivial, ?_⟩
            exact Wk.gx (fun b => cond (Nat.beq b 0) 1 (b))
        · have hj2 : 1 + j = gs[k].length := by omega
          have hw : gs[k].take (1 + j) = gs[k] := by rw [hj2, List.take_length]
          have PT := spPart_d s n o c0 ct ml inn hct (gs[k].take (1 + j)) hpm (by omega) hm
          rw [hw] at PT s1
          have en : ((gs.take (k + 1)).map (partC ct ml)).map rowR = ((gs.take k).map (partC ct ml)).map rowR ++ [rowR (partC ct ml gs[k])] := by
            rw [List.take_succ_eq_append_getElem hlt, List.map_append, List.map_append]; rfl
          clear hcutp TG g3 hget hcut hmem hcl
          generalize partC ct ml gs[k] = pc at *
          repeat (first | refine Z1 ?_ | refine Z2 ?_ | (refine Z3 ?_; (repeat (first | (apply gS; first | refine go_no ?_ | refine go_f ?_ | refine gx ?_ | refine gm ?_ | refine gp ?_ | refine go_c rfl rfl (PT) ?_ | refine go_cF rfl rfl (PT) ?_ | refine go_cA rfl rfl (PT) ?_))); refine T_nil ?_) | (apply ZR; (try dsimp only [List.map_cons, List.map_nil]); refine C_dr mixed ?_; (repeat (first | (apply vS; first | refine vn ?_ | refine va ?_ | refine vp ?_ | refine vr ?_ | refine vt ?_ | refine vc (PT) ?_ | refine vcF (PT) ?_))); refine W_e ?_) | (apply ZK; first | refine Z4 ?_ | refine Z5 ?_) | refine Z6 ?_ | refine Z7 ?_ | refine Z8 ?_ | refine Z9 ?_ | refine ZA ?_ | refine ZB ?_ | refine ZC ?_ | refine ZD ?_ | refine ZE ?_ | refine ZF ?_ | refine ZG ?_ | refine ZH ?_)
          refine kLoop_n ⟨hlt, trivial, ?_⟩
          exact Wk.gx (fun b => cond (Nat.beq b 0) 1 (b))
    · obtain rfl : k = gs.length := by omega
      rw [List.take_length]
      clear hget hcut TG
      repeat (first | refine Z1 ?_ | refine Z2 ?_ | (refine Z3 ?_; (repeat (first | (apply gS; first | refine go_no ?_ | refine go_f ?_ | refine gx ?_ | refine gm ?_ | refine gp ?_))); refine T_nil ?_) | (apply ZR; (try dsimp only [List.map_cons, List.map_nil]); refine C_dr mixed ?_; (repeat (first | (apply vS; first | refine vn ?_ | refine va ?_ | refine vp ?_ | refine vr ?_ | refine vt ?_))); refine W_e ?_) | (apply ZK; first | refine Z4 ?_ | refine Z5 ?_) | refine Z6 ?_ | refine Z7 ?_ | refine Z8 ?_ | refine Z9 ?_ | refine ZA ?_ | refine ZB ?_ | refine ZC ?_ | refine ZD ?_ | refine ZE ?_ | refine ZF ?_ | refine ZG ?_ | refine ZH ?_)
      repeat (first | refine kEnd_m ?_ | refine kEnd_f ?_)
      refine kEnd_g ?_ (by first | exact .inl rfl | exact .inr rfl)
      exact Sub.eq rfl rfl
end Go.Proofs.Ytifapodobhkdcaa
