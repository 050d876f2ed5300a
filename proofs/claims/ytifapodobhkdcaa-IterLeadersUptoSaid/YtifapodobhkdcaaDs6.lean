/- The reference of layer 7: Valid, owner, rows, owned, part, Indexes, by the abstract machine. -/
import Derived.Test.YtifapodobhkdcaaDs5
namespace Go.Proofs.Ytifapodobhkdcaa
open Go.RowKit
set_option linter.unusedVariables false
set_option maxHeartbeats 16000000
set_option linter.unusedSimpArgs false
set_option maxRecDepth 100000
theorem rValid7_d (s : ByteArray) (n o : Int) : DC Try.prog 63 [dsD s n o] (bD (vdB s n o)) := by
  obtain ⟨n1, n2, n3, n4, n5, n6⟩ := kL_ne
  unfold vdB
  by_cases o1 : o < 1
  · rw [if_pos (.inl o1)]
    refine DC.of Try.func63 Try.ntmps63 Try.results63 rfl (by decide +kernel) rfl ?_
    repeat (first | refine Z1 ?_ | refine Z2 ?_ | (refine Z3 ?_; (repeat (first | (apply gS; first | refine go_no ?_ | refine go_f ?_ | refine gx ?_ | refine gm ?_ | refine gp ?_))); refine T_nil ?_) | (apply ZK; first | refine Z4 ?_ | refine Z5 ?_) | refine Z6 ?_ | refine Z7 ?_ | refine ZF ?_)
    repeat (first | refine kEnd_m ?_ | refine kEnd_f ?_)
    refine kEnd_g ?_ (by first | exact .inl rfl | exact .inr rfl)
    exact Sub.eq rfl rfl
  by_cases o8 : 8 < o
  · rw [if_pos (.inr o8)]
    refine DC.of Try.func63 Try.ntmps63 Try.results63 rfl (by decide +kernel) rfl ?_
    repeat (first | refine Z1 ?_ | refine Z2 ?_ | (refine Z3 ?_; (repeat (first | (apply gS; first | refine go_no ?_ | refine go_f ?_ | refine gx ?_ | refine gm ?_ | refine gp ?_))); refine T_nil ?_) | (apply ZK; first | refine Z4 ?_ | refine Z5 ?_) | refine Z6 ?_ | refine Z7 ?_ | refine ZF ?_)
    repeat (first | refine kEnd_m ?_ | refine kEnd_f ?_)
    refine kEnd_g ?_ (by first | exact .inl rfl | exact .inr rfl)
    exact Sub.eq rfl rfl
  rw [if_neg (by omega)]
  by_cases ss : s.toList = (kb .blocks).toList
  · rw [if_neg (by rw [show s.toList = kL .blocks from ss]; exact fun h => by rcases h with h | h | h <;> first | exact n3 h.symm | exact n5 h.symm | exact n6 h.symm), if_pos ss]
    by_cases m1 : 1 ≤ n
    · rw [show decide (1 ≤ n ∧ n ≤ 99) = decide (n ≤ 99) by simp [m1]]
      refine DC.of Try.func63 Try.ntmps63 Try.results63 rfl (by decide +kernel) rfl ?_
      repeat (first | refine Z1 ?_ | refine Z2 ?_ | (refine Z3 ?_; (repeat (first | (apply gS; first | refine go_no ?_ | refine go_f ?_ | refine gx ?_ | refine gm ?_ | refine gp ?_))); refine T_nil ?_) | (apply ZK; first | refine Z4 ?_ | refine Z5 ?_) | refine Z6 ?_ | refine Z7 ?_ | refine ZF ?_)
      repeat (first | refine kEnd_m ?_ | refine kEnd_f ?_)
      refine kEnd_g ?_ (by first | exact .inl rfl | exact .inr rfl)
      exact Sub.eq rfl rfl
    · rw [show decide (1 ≤ n ∧ n ≤ 99) = false by simp [m1]]
      refine DC.of Try.func63 Try.ntmps63 Try.results63 rfl (by decide +kernel) rfl ?_
      repeat (first | refine Z1 ?_ | refine Z2 ?_ | (refine Z3 ?_; (repeat (first | (apply gS; first | refine go_no ?_ | refine go_f ?_ | refine gx ?_ | refine gm ?_ | refine gp ?_))); refine T_nil ?_) | (apply ZK; first | refine Z4 ?_ | refine Z5 ?_) | refine Z6 ?_ | refine Z7 ?_ | refine ZF ?_)
      repeat (first | refine kEnd_m ?_ | refine kEnd_f ?_)
      refine kEnd_g ?_ (by first | exact .inl rfl | exact .inr rfl)
      exact Sub.eq rfl rfl
  by_cases m0 : n = 0
  · by_cases sw : s.toList = (kb .whole).toList
    · rw [if_pos (.inl sw), decide_eq_true m0]
      refine DC.of Try.func63 Try.ntmps63 Try.results63 rfl (by decide +kernel) rfl ?_
      repeat (first | refine Z1 ?_ | refine Z2 ?_ | (refine Z3 ?_; (repeat (first | (apply gS; first | refine go_no ?_ | refine go_f ?_ | refine gx ?_ | refine gm ?_ | refine gp ?_))); refine T_nil ?_) | (apply ZK; first | refine Z4 ?_ | refine Z5 ?_) | refine Z6 ?_ | refine Z7 ?_ | refine ZF ?_)
      repeat (first | refine kEnd_m ?_ | refine kEnd_f ?_)
      refine kEnd_g ?_ (by first | exact .inl rfl | exact .inr rfl)
      exact Sub.eq rfl rfl
    by_cases sb : s.toList = (kb .block).toList
    · rw [if_pos (.inr (.inl sb)), decide_eq_true m0]
      refine DC.of Try.func63 Try.ntmps63 Try.results63 rfl (by decide +kernel) rfl ?_
      repeat (first | refine Z1 ?_ | refine Z2 ?_ | (refine Z3 ?_; (repeat (first | (apply gS; first | refine go_no ?_ | refine go_f ?_ | refine gx ?_ | refine gm ?_ | refine gp ?_))); refine T_nil ?_) | (apply ZK; first | refine Z4 ?_ | refine Z5 ?_) | refine Z6 ?_ | refine Z7 ?_ | refine ZF ?_)
      repeat (first | refine kEnd_m ?_ | refine kEnd_f ?_)
      refine kEnd_g ?_ (by first | exact .inl rfl | exact .inr rfl)
      exact Sub.eq rfl rfl
    by_cases sc : s.toList = (kb .cyclic).toList
    · rw [if_pos (.inr (.inr sc)), decide_eq_true m0]
      refine DC.of Try.func63 Try.ntmps63 Try.results63 rfl (by decide +kernel) rfl ?_
      repeat (first | refine Z1 ?_ | refine Z2 ?_ | (refine Z3 ?_; (repeat (first | (apply gS; first | refine go_no ?_ | refine go_f ?_ | refine gx ?_ | refine gm ?_ | refine gp ?_))); refine T_nil ?_) | (apply ZK; first | refine Z4 ?_ | refine Z5 ?_) | refine Z6 ?_ | refine Z7 ?_ | refine ZF ?_)
      repeat (first | refine kEnd_m ?_ | refine kEnd_f ?_)
      refine kEnd_g ?_ (by first | exact .inl rfl | exact .inr rfl)
      exact Sub.eq rfl rfl
    rw [if_neg (fun h => by rcases h with h | h | h <;> first | exact sw h | exact sb h | exact sc h), if_neg ss]
    refine DC.of Try.func63 Try.ntmps63 Try.results63 rfl (by decide +kernel) rfl ?_
    repeat (first | refine Z1 ?_ | refine Z2 ?_ | (refine Z3 ?_; (repeat (first | (apply gS; first | refine go_no ?_ | refine go_f ?_ | refine gx ?_ | refine gm ?_ | refine gp ?_))); refine T_nil ?_) | (apply ZK; first | refine Z4 ?_ | refine Z5 ?_) | refine Z6 ?_ | refine Z7 ?_ | refine ZF ?_)
    repeat (first | refine kEnd_m ?_ | refine kEnd_f ?_)
    refine kEnd_g ?_ (by first | exact .inl rfl | exact .inr rfl)
    exact Sub.eq rfl rfl
  · rw [show (if s.toList = kL .whole ∨ s.toList = kL .block ∨ s.toList = kL .cyclic then decide (n = 0) else if s.toList = kL .blocks then decide (1 ≤ n ∧ n ≤ 99) else false) = false by
      rw [decide_eq_false m0, if_neg ss]; exact ite_self _]
    refine DC.of Try.func63 Try.ntmps63 Try.results63 rfl (by decide +kernel) rfl ?_
    repeat (first | refine Z1 ?_ | refine Z2 ?_ | (refine Z3 ?_; (repeat (first | (apply gS; first | refine go_no ?_ | refine go_f ?_ | refine gx ?_ | refine gm ?_ | refine gp ?_))); refine T_nil ?_) | (apply ZK; first | refine Z4 ?_ | refine Z5 ?_) | refine Z6 ?_ | refine Z7 ?_ | refine ZF ?_)
    repeat (first | refine kEnd_m ?_ | refine kEnd_f ?_)
    refine kEnd_g ?_ (by first | exact .inl rfl | exact .inr rfl)
    exact Sub.eq rfl rfl
theorem rvalid7_d (s : ByteArray) (n o : Int) (rs : List Rg) : DC Try.prog 131 [dsD s n o, domD rs] (iD (errD s n o rs)) := by
  have V := rValid7_d s n o
  have W := rdValid_b rs (b := domB rs) rfl
  unfold errD
  cases hv : vdB s n o
  · rw [hv] at V
    rw [if_neg (by decide)]
    refine DC.of Try.func131 Try.ntmps131 Try.results131 rfl (by decide +kernel) rfl ?_
    repeat (first | refine Z1 ?_ | refine Z2 ?_ | (refine Z3 ?_; (repeat (first | (apply gS; first | refine go_f ?_ | refine gx ?_ | refine gm ?_ | refine gp ?_ | refine go_c rfl rfl (V) ?_ | refine go_cF rfl rfl (V) ?_ | refine go_cA rfl rfl (V) ?_))); refine T_nil ?_) | (apply ZK; first | refine Z4 ?_ | refine Z5 ?_) | refine Z6 ?_ | refine Z7 ?_ | refine Z8 ?_ | refine Z9 ?_ | refine ZA ?_ | refine ZB ?_ | refine ZC ?_ | refine ZF ?_)
    repeat (first | refine kEnd_m ?_ | refine kEnd_f ?_)
    refine kEnd_g ?_ (by first | exact .inl rfl | exact .inr rfl)
    exact Sub.eq rfl rfl
  rw [hv] at V
  cases hd : domB rs
  · rw [hd] at W
    rw [if_pos rfl, if_neg (by decide)]
    refine DC.of Try.func131 Try.ntmps131 Try.results131 rfl (by decide +kernel) rfl ?_
    repeat (first | refine Z1 ?_ | refine Z2 ?_ | (refine Z3 ?_; (repeat (first | (apply gS; first | refine go_f ?_ | refine gx ?_ | refine gm ?_ | refine gp ?_ | refine go_c rfl rfl (V) ?_ | refine go_cF rfl rfl (V) ?_ | refine go_cA rfl rfl (V) ?_ | refine go_c rfl rfl (W) ?_ | refine go_cF rfl rfl (W) ?_ | refine go_cA rfl rfl (W) ?_))); refine T_nil ?_) | (apply ZK; first | refine Z4 ?_ | refine Z5 ?_) | refine Z6 ?_ | refine Z7 ?_ | refine Z8 ?_ | refine Z9 ?_ | refine ZA ?_ | refine ZB ?_ | refine ZC ?_ | refine ZF ?_)
    repeat (first | refine kEnd_m ?_ | refine kEnd_f ?_)
    refine kEnd_g ?_ (by first | exact .inl rfl | exact .inr rfl)
    exact Sub.eq rfl rfl
  · rw [hd] at W
    rw [if_pos rfl, if_pos rfl]
    refine DC.of Try.func131 Try.ntmps131 Try.results131 rfl (by decide +kernel) rfl ?_
    repeat (first | refine Z1 ?_ | refine Z2 ?_ | (refine Z3 ?_; (repeat (first | (apply gS; first | refine go_f ?_ | refine gx ?_ | refine gm ?_ | refine gp ?_ | refine go_c rfl rfl (V) ?_ | refine go_cF rfl rfl (V) ?_ | refine go_cA rfl rfl (V) ?_ | refine go_c rfl rfl (W) ?_ | refine go_cF rfl rfl (W) ?_ | refine go_cA rfl rfl (W) ?_))); refine T_nil ?_) | (apply ZK; first | refine Z4 ?_ | refine Z5 ?_) | refine Z6 ?_ | refine Z7 ?_ | refine Z8 ?_ | refine Z9 ?_ | refine ZA ?_ | refine ZB ?_ | refine ZC ?_ | refine ZF ?_)
    repeat (first | refine kEnd_m ?_ | refine kEnd_f ?_)
    refine kEnd_g ?_ (by first | exact .inl rfl | exact .inr rfl)
    exact Sub.eq rfl rfl
theorem rowner7_d {s : ByteArray} {k : Kd} {n o : Nat} (hk : Okd s k n o) {i R : Nat} (hi : i < R) (hl : R ≤ 4096) : DC Try.prog 134 [dsD s n o, iD i, iD R] (iD (own k n o R i)) := by
  obtain ⟨q1, q2, q3, q4⟩ := okd_ne hk
  obtain ⟨h1, h2, h3, h4, h5⟩ := hk.ok
  have p := prod_own (i := i) (o := o) (by omega) h2
  have h6 := hk.eq
  cases k with
  | whole =>
    have a2 := q2 (by decide)
    have a3 := q3 (by decide)
    have a4 := q4 (by decide)
    refine DC.of Try.func134 Try.ntmps134 Try.results134 rfl (by decide +kernel) rfl ?_
    repeat (first | refine Z1 ?_ | refine Z2 ?_ | (refine Z3 ?_; (repeat (first | (apply gS; first | refine go_f ?_ | refine gx ?_ | refine gm ?_ | refine gp ?_))); refine T_nil ?_) | (apply ZR; (try dsimp only [List.map_cons, List.map_nil]); refine C_dr mixed ?_; (repeat (first | (apply vS; first | refine va ?_ | refine vp ?_ | refine vr ?_ | refine vt ?_))); refine W_e ?_) | (apply ZK; first | refine Z4 ?_ | refine Z5 ?_) | refine Z6 ?_ | refine Z7 ?_ | refine Z8 ?_ | refine Z9 ?_ | refine ZA ?_ | refine ZB ?_ | refine ZC ?_ | refine ZF ?_)
    repeat (first | refine kEnd_m ?_ | refine kEnd_f ?_)
    refine kEnd_g ?_ (by first | exact .inl rfl | exact .inr rfl)
    exact Sub.eq rfl rfl
  | block =>
    have a2 : s.toList = (kb .block).toList := h6
    have e : ((i : Int) * (o : Int)).tdiv (R : Nat) = ((own .block n o R i : Nat) : Int) := by
      rw [show ((i : Int) * (o : Int)) = ((i * o : Nat) : Int) by rw [Int.natCast_mul], ← Int.ofNat_tdiv]; rfl
    refine DC.of Try.func134 Try.ntmps134 Try.results134 rfl (by decide +kernel) rfl ?_
    repeat (first | refine Z1 ?_ | refine Z2 ?_ | (refine Z3 ?_; (repeat (first | (apply gS; first | refine go_f ?_ | refine gx ?_ | refine gm ?_ | refine gp ?_))); refine T_nil ?_) | (apply ZR; (try dsimp only [List.map_cons, List.map_nil]); refine C_dr mixed ?_; (repeat (first | (apply vS; first | refine va ?_ | refine vp ?_ | refine vr ?_ | refine vt ?_))); refine W_e ?_) | (apply ZK; first | refine Z4 ?_ | refine Z5 ?_) | refine Z6 ?_ | refine Z7 ?_ | refine Z8 ?_ | refine Z9 ?_ | refine ZA ?_ | refine ZB ?_ | refine ZC ?_ | refine ZF ?_)
    repeat (first | refine kEnd_m ?_ | refine kEnd_f ?_)
    refine kEnd_g ?_ (by first | exact .inl rfl | exact .inr rfl)
    exact Sub.eq (by rw [← e]; rfl) rfl
  | cyclic =>
    have a2 := q2 (by decide)
    have a3 : s.toList = (kb .cyclic).toList := h6
    have e : (i : Int).tmod (o : Int) = ((own .cyclic n o R i : Nat) : Int) := by rw [← Int.ofNat_tmod]; rfl
    refine DC.of Try.func134 Try.ntmps134 Try.results134 rfl (by decide +kernel) rfl ?_
    repeat (first | refine Z1 ?_ | refine Z2 ?_ | (refine Z3 ?_; (repeat (first | (apply gS; first | refine go_f ?_ | refine gx ?_ | refine gm ?_ | refine gp ?_))); refine T_nil ?_) | (apply ZR; (try dsimp only [List.map_cons, List.map_nil]); refine C_dr mixed ?_; (repeat (first | (apply vS; first | refine va ?_ | refine vp ?_ | refine vr ?_ | refine vt ?_))); refine W_e ?_) | (apply ZK; first | refine Z4 ?_ | refine Z5 ?_) | refine Z6 ?_ | refine Z7 ?_ | refine Z8 ?_ | refine Z9 ?_ | refine ZA ?_ | refine ZB ?_ | refine ZC ?_ | refine ZF ?_)
    repeat (first | refine kEnd_m ?_ | refine kEnd_f ?_)
    refine kEnd_g ?_ (by first | exact .inl rfl | exact .inr rfl)
    exact Sub.eq (by rw [← e]; rfl) rfl
  | blocks =>
    have a2 := q2 (by decide)
    have a3 := q3 (by decide)
    have a4 : s.toList = (kb .blocks).toList := h6
    have hn := h3 rfl
    have e : ((i : Int).tdiv (n : Int)).tmod (o : Int) = ((own .blocks n o R i : Nat) : Int) := by rw [← Int.ofNat_tdiv, ← Int.ofNat_tmod]; rfl
    refine DC.of Try.func134 Try.ntmps134 Try.results134 rfl (by decide +kernel) rfl ?_
    repeat (first | refine Z1 ?_ | refine Z2 ?_ | (refine Z3 ?_; (repeat (first | (apply gS; first | refine go_f ?_ | refine gx ?_ | refine gm ?_ | refine gp ?_))); refine T_nil ?_) | (apply ZR; (try dsimp only [List.map_cons, List.map_nil]); refine C_dr mixed ?_; (repeat (first | (apply vS; first | refine va ?_ | refine vp ?_ | refine vr ?_ | refine vt ?_))); refine W_e ?_) | (apply ZK; first | refine Z4 ?_ | refine Z5 ?_) | refine Z6 ?_ | refine Z7 ?_ | refine Z8 ?_ | refine Z9 ?_ | refine ZA ?_ | refine ZB ?_ | refine ZC ?_ | refine ZF ?_)
    repeat (first | refine kEnd_m ?_ | refine kEnd_f ?_)
    refine kEnd_g ?_ (by first | exact .inl rfl | exact .inr rfl)
    exact Sub.eq (by rw [← e]; rfl) rfl
/-! ### a domain and its canonical ranges -/
theorem rs_cons {rs : List Rg} (hd : domB rs = true) : ∃ r rt, rs = r :: rt := by
  cases rs with
  | nil => have := (domB_iff.1 hd).1.1; simp at this
  | cons r rt => exact ⟨r, rt, rfl⟩
theorem cn_first {r : Rg} {rt : List Rg} {c0 : Rg} {ct : List Rg} (hd : domB (r :: rt) = true) (hc : canonRs (r :: rt) = c0 :: ct) (hz : cN c0 ≠ 0) :
    cN r = cN c0 ∧ memN r = memN c0 ∧ rt.map (fun r => canonOf (rowOf r)) = ct ∧ prodN (cl rt) = prodN (cl ct) := by
  have hs := canon_cnt hd hc
  rcases cl_canon hd with ⟨h, e⟩ | ⟨_, e, h⟩
  · rw [hc] at e
    have : c0 ∈ List.replicate (r :: rt).length (⟨1, 0, 1⟩ : Rg) := by rw [← e]; simp
    rw [List.eq_of_mem_replicate this] at hz
    exact absurd none_c hz
  · rw [hc] at h e
    have h2 : cN c0 :: cl ct = cN r :: cl rt := h
    injection h2 with a b
    rw [List.map_cons] at e
    injection e with e1 e2
    have hv := (domB_iff.1 hd).2.1 r (by simp)
    refine ⟨a.symm, ?_, e2.symm, by rw [b]⟩
    rw [e1]; exact (memN_canon hv).1.symm
theorem cnt_can {rs : List Rg} {c0 : Rg} {ct : List Rg} (hd : domB rs = true) (hc : canonRs rs = c0 :: ct) (hs : SpOk c0 ct) : cnt rs = cN c0 * iN c0 ct ∧ (cnt rs = 0 ↔ cN c0 = 0) := by
  have e := (canon_cnt hd hc).2.1
  refine ⟨e, ?_⟩
  show prodN (cl rs) = 0 ↔ _
  rw [e]
  constructor
  · intro h
    rcases Nat.mul_eq_zero.1 h with h | h
    · exact h
    · apply Classical.byContradiction
      intro h2
      have := hs.pos h2
      unfold iN at h
      rw [if_neg h2] at h
      omega
  · intro h; rw [h, Nat.zero_mul]
theorem rrows7_d {rs : List Rg} {c0 : Rg} {ct : List Rg} (hd : domB rs = true) (hc : canonRs rs = c0 :: ct) (hs : SpOk c0 ct) : DC Try.prog 135 [domD rs] (iD (cN c0)) := by
  have RC := rdCount_d rs
  rw [show dCountRes rs = (((cnt rs : Nat) : Int), 0) from if_pos hd] at RC
  dsimp only at RC
  obtain ⟨e1, e2⟩ := cnt_can hd hc hs
  by_cases hz : cnt rs = 0
  · rw [e2.1 hz]
    rw [hz] at RC
    refine DC.of Try.func135 Try.ntmps135 Try.results135 rfl (by decide +kernel) rfl ?_
    repeat (first | refine Z1 ?_ | refine Z2 ?_ | (refine Z3 ?_; (repeat (first | (apply gS; first | refine go_f ?_ | refine gx ?_ | refine gm ?_ | refine gp ?_ | refine go_c rfl rfl (RC) ?_ | refine go_cF rfl rfl (RC) ?_ | refine go_cA rfl rfl (RC) ?_))); refine T_nil ?_) | (apply ZK; first | refine Z4 ?_ | refine Z5 ?_) | refine Z6 ?_ | refine Z7 ?_ | refine ZF ?_)
    repeat (first | refine kEnd_m ?_ | refine kEnd_f ?_)
    refine kEnd_g ?_ (by first | exact .inl rfl | exact .inr rfl)
    exact Sub.eq rfl rfl
  · obtain ⟨r, rt, rfl⟩ := rs_cons hd
    have C3 := rCount_ok ((domB_iff.1 hd).2.1 r (by simp))
    rw [← (cn_first hd hc fun h => hz (e2.2 h)).1]
    have hlen0 : 0 < (r :: rt).length := by simp
    clear e1 e2
    generalize cnt (r :: rt) = n at *
    refine DC.of Try.func135 Try.ntmps135 Try.results135 rfl (by decide +kernel) rfl ?_
    repeat (first | refine Z1 ?_ | refine Z2 ?_ | (refine Z3 ?_; (repeat (first | (apply gS; first | refine go_f ?_ | refine gx ?_ | refine gm ?_ | refine gp ?_ | refine go_c rfl rfl (RC) ?_ | refine go_cF rfl rfl (RC) ?_ | refine go_cA rfl rfl (RC) ?_ | refine go_c rfl rfl (C3) ?_ | refine go_cF rfl rfl (C3) ?_ | refine go_cA rfl rfl (C3) ?_))); refine T_nil ?_) | (apply ZK; first | refine Z4 ?_ | refine Z5 ?_) | refine Z6 ?_ | refine Z7 ?_ | refine ZF ?_)
    repeat (first | refine kEnd_m ?_ | refine kEnd_f ?_)
    refine kEnd_g ?_ (by first | exact .inl rfl | exact .inr rfl)
    exact Sub.eq rfl rfl
theorem rowned7_d {s : ByteArray} {k : Kd} {n o : Nat} (hk : Okd s k n o) {rs : List Rg} {c0 : Rg} {ct : List Rg} (hd : domB rs = true) (hc : canonRs rs = c0 :: ct) (hs : SpOk c0 ct) (p : Nat) : DC Try.prog 174 [dsD s n o, domD rs, iD p] (rowI (natsI (ow k n o (cN c0) p))) := by
  have RW := rrows7_d hd hc hs
  have hl := hs.few
  have O := fun i (hi : i < cN c0) => rowner7_d hk hi hl
  generalize cN c0 = R at *
  have hB : ∀ i, ((List.range i).filter fun i => decide (own k n o R i = p)).length ≤ i := fun i => by
    have := List.length_filter_le (fun i => decide (own k n o R i = p)) (List.range i)
    simpa using this
  have hS := fun i => ow_snoc (k := k) (n := n) (o := o) (R := R) (p := p) (i := i)
  have hE : ow k n o R p = (List.range R).filter fun i => decide (own k n o R i = p) := rfl
  obtain ⟨g, hg⟩ : ∃ g : Nat → List Nat, ∀ i, g i = (List.range i).filter fun i => decide (own k n o R i = p) := ⟨_, fun _ => rfl⟩
  simp only [← hg] at hB hS hE
  have h0 : (g 0).length = 0 := by rw [hg]; rfl
  have h0' : intsD (natsI (g 0)) = [] := by rw [hg]; rfl
  clear hg
  rw [hE]
  have er : rowI (natsI (g R)) = .row (g R).length (intsD (natsI (g R))) := by show D.row _ _ = _; rw [natsI, List.length_map]
  rw [er]
  refine DC.of Try.func174 Try.ntmps174 Try.results174 rfl (by decide +kernel) rfl ?_
  repeat (first | refine Z1 ?_ | refine Z2 ?_ | (refine Z3 ?_; (repeat (first | (apply gS; first | refine go_f ?_ | refine gx ?_ | refine gm ?_ | refine gp ?_ | refine go_c rfl rfl (RW) ?_ | refine go_cF rfl rfl (RW) ?_ | refine go_cA rfl rfl (RW) ?_))); refine T_nil ?_) | (apply ZK; first | refine Z4 ?_ | refine Z5 ?_) | refine Z6 ?_ | refine Z7 ?_ | refine Z8 ?_ | refine Z9 ?_ | refine ZA ?_ | refine ZB ?_ | refine ZC ?_ | refine ZD ?_ | refine ZE ?_ | refine ZF ?_ | refine ZG ?_ | refine ZH ?_)
  refine C_count R (fun _ => True) (fun i => ⟨3, 28, [(9, iD i), (8, iD R), (7, .own 2 (g i).length), (2, iD p), (3, .ptr 0 0)], [(0, some ⟨63, 3, 1, [sD s, iD n, iD o]⟩), (2, some ⟨3, 1, (g i).length, intsD (natsI (g i))⟩)]⟩) ?_ trivial ?_
  · rw [h0, h0']
    refine Wk.trans (Wk.adoptT 7 3 1 rfl) ?_
    exact Wk.gx (fun b => b)
  · intro i hi _
    have q := hB i
    by_cases hlt : i < R
    · have C := O i hlt
      have e := hS i
      by_cases hp : own k n o R i = p
      · rw [if_pos hp] at e
        have e1 : (g (i + 1)).length = (g i).length + 1 := by rw [e]; simp
        have e2 : intsD (natsI (g (i + 1))) = intsD (natsI (g i)) ++ [iD i] := by rw [e]; simp [intsD, natsI]
        clear hS hB O e
        generalize own k n o R i = w at *
        repeat (first | refine Z1 ?_ | refine Z2 ?_ | (refine Z3 ?_; (repeat (first | (apply gS; first | refine go_f ?_ | refine gx ?_ | refine gm ?_ | refine gp ?_ | refine go_c rfl rfl (C) ?_ | refine go_cF rfl rfl (C) ?_ | refine go_cA rfl rfl (C) ?_))); refine T_nil ?_) | (apply ZK; first | refine Z4 ?_ | refine Z5 ?_) | refine Z6 ?_ | refine Z7 ?_ | refine Z8 ?_ | refine Z9 ?_ | refine ZA ?_ | refine ZB ?_ | refine ZC ?_ | refine ZD ?_ | refine ZE ?_ | refine ZF ?_ | refine ZG ?_ | refine ZH ?_)
        refine kLoop_n ⟨hlt, trivial, ?_⟩
        exact Wk.gx (fun b => cond (Nat.beq b 2) 3 (b))
      · rw [if_neg hp, List.append_nil] at e
        have e1 : (g (i + 1)).length = (g i).length := by rw [e]
        have e2 : intsD (natsI (g (i + 1))) = intsD (natsI (g i)) := by rw [e]
        clear hS hB O e
        generalize own k n o R i = w at *
        repeat (first | refine Z1 ?_ | refine Z2 ?_ | (refine Z3 ?_; (repeat (first | (apply gS; first | refine go_f ?_ | refine gx ?_ | refine gm ?_ | refine gp ?_ | refine go_c rfl rfl (C) ?_ | refine go_cF rfl rfl (C) ?_ | refine go_cA rfl rfl (C) ?_))); refine T_nil ?_) | (apply ZK; first | refine Z4 ?_ | refine Z5 ?_) | refine Z6 ?_ | refine Z7 ?_ | refine Z8 ?_ | refine Z9 ?_ | refine ZA ?_ | refine ZB ?_ | refine ZC ?_ | refine ZD ?_ | refine ZE ?_ | refine ZF ?_ | refine ZG ?_ | refine ZH ?_)
        refine kLoop_n ⟨hlt, trivial, ?_⟩
        exact Wk.gx (fun b => b)
    · obtain rfl : i = R := by omega
      repeat (first | refine Z1 ?_ | refine Z2 ?_ | (refine Z3 ?_; (repeat (first | (apply gS; first | refine go_f ?_ | refine gx ?_ | refine gm ?_ | refine gp ?_))); refine T_nil ?_) | (apply ZK; first | refine Z4 ?_ | refine Z5 ?_) | refine Z6 ?_ | refine Z7 ?_ | refine Z8 ?_ | refine Z9 ?_ | refine ZA ?_ | refine ZB ?_ | refine ZC ?_ | refine ZD ?_ | refine ZE ?_ | refine ZF ?_ | refine ZG ?_ | refine ZH ?_)
      repeat (first | refine kEnd_m ?_ | refine kEnd_f ?_)
      refine kEnd_g ?_ (by first | exact .inl rfl | exact .inr rfl)
      exact Sub.eq rfl rfl
/-! ### part, Indexes -/
theorem rIndexes7_d (ps : List (List Rg)) (hl : ps.length ≤ 1000000000) (hall : ∀ d ∈ ps, domB d = true) : DC Try.prog 75 [domsD ps] (rowL2 (allX ps)) := by
  refine DC.of Try.func75 Try.ntmps75 Try.results75 rfl (by decide +kernel) rfl ?_
  repeat (first | refine Z1 ?_ | refine Z2 ?_ | (refine Z3 ?_; (repeat (first | (apply gS; first | refine go_f ?_ | refine gx ?_ | refine gm ?_ | refine gp ?_))); refine T_nil ?_) | (apply ZK; first | refine Z4 ?_ | refine Z5 ?_) | refine Z6 ?_ | refine Z7 ?_ | refine Z8 ?_ | refine Z9 ?_ | refine ZA ?_ | refine ZB ?_ | refine ZC ?_ | refine ZD ?_ | refine ZE ?_ | refine ZF ?_ | refine ZG ?_ | refine ZH ?_)
  refine C_count ps.length (fun _ => True) (fun k => ⟨1, 25, [(4, iD k), (3, .own 0 (allX (ps.take k)).length), (0, domsD ps)], [(0, some ⟨25, 1, (allX (ps.take k)).length, (allX (ps.take k)).map rowI⟩)]⟩) ?_ trivial ?_
  · refine Wk.trans (Wk.adoptT 3 25 1 rfl) ?_
    exact Wk.gx (fun b => b)
  · intro k hk _
    by_cases hlt : k < ps.length
    · have I := rIndexes_ok (hall _ (List.getElem_mem hlt))
      obtain ⟨e1, en⟩ := allX_snoc hlt
      have cap := allX_cap (ps := ps.take (k + 1)) fun d hd => hall d (List.mem_of_mem_take hd)
      rw [List.length_take, Nat.min_eq_left (by omega)] at cap
      repeat (first | refine Z1 ?_ | refine Z2 ?_ | (refine Z3 ?_; (repeat (first | (apply gS; first | refine go_f ?_ | refine gx ?_ | refine gm ?_ | refine gp ?_ | refine go_c rfl rfl (I) ?_ | refine go_cF rfl rfl (I) ?_ | refine go_cA rfl rfl (I) ?_))); refine T_nil ?_) | (apply ZK; first | refine Z4 ?_ | refine Z5 ?_) | refine Z6 ?_ | refine Z7 ?_ | refine Z8 ?_ | refine Z9 ?_ | refine ZA ?_ | refine ZB ?_ | refine ZC ?_ | refine ZD ?_ | refine ZE ?_ | refine ZF ?_ | refine ZG ?_ | refine ZH ?_)
      refine kLoop_n ⟨hlt, trivial, ?_⟩
      exact Wk.gx (fun b => cond (Nat.beq b 0) 1 (b))
    · obtain rfl : k = ps.length := by omega
      rw [List.take_length]
      repeat (first | refine Z1 ?_ | refine Z2 ?_ | (refine Z3 ?_; (repeat (first | (apply gS; first | refine go_f ?_ | refine gx ?_ | refine gm ?_ | refine gp ?_))); refine T_nil ?_) | (apply ZK; first | refine Z4 ?_ | refine Z5 ?_) | refine Z6 ?_ | refine Z7 ?_ | refine Z8 ?_ | refine Z9 ?_ | refine ZA ?_ | refine ZB ?_ | refine ZC ?_ | refine ZD ?_ | refine ZE ?_ | refine ZF ?_ | refine ZG ?_ | refine ZH ?_)
      repeat (first | refine kEnd_m ?_ | refine kEnd_f ?_)
      refine kEnd_g ?_ (by first | exact .inl rfl | exact .inr rfl)
      exact Sub.eq rfl rfl
end Go.Proofs.Ytifapodobhkdcaa
