/- The law TopStream returns true for every input: what two distributions fill is the same at each index, and what the stream has there. -/
import Derived.Test.YtifapodobhkdcaaStE
import Derived.Test.YtifapodobhkdcaaCameT
namespace Go.Proofs.Ytifapodobhkdcaa.topStream
open Go.RowKit Go.Proofs.Ytifapodobhkdcaa
set_option linter.unusedVariables false
set_option maxHeartbeats 16000000
set_option linter.unusedSimpArgs false
set_option maxRecDepth 100000
theorem few_d (d : List Rg) : ∃ b, DC Try.prog 23 [domD d] (bD b) := by
  have C := rdCount_d d
  generalize dCountRes d = c at *
  obtain ⟨n, e⟩ := c
  dsimp only at C
  by_cases h0 : 10 < d.length
  · refine ⟨false, ?_⟩
    refine DC.of Try.func23 Try.ntmps23 Try.results23 rfl (by decide +kernel) rfl ?_
    repeat (first | refine Z1 ?_ | refine Z2 ?_ | (refine Z3 ?_; (repeat (first | (apply gS; first | refine go_no ?_ | refine go_f ?_ | refine gx ?_ | refine gm ?_ | refine gp ?_ | refine go_c rfl rfl (C) ?_ | refine go_cF rfl rfl (C) ?_ | refine go_cA rfl rfl (C) ?_))); refine T_nil ?_) | (apply ZK; first | refine Z4 ?_ | refine Z5 ?_) | refine Z6 ?_ | refine Z7 ?_ | refine ZF ?_)
    repeat (first | refine kEnd_m ?_ | refine kEnd_f ?_)
    refine kEnd_g ?_ (by first | exact .inl rfl | exact .inr rfl)
    exact Sub.eq rfl rfl
  by_cases h1 : e = 0
  · by_cases h : 150 < n
    · refine ⟨false, ?_⟩
      refine DC.of Try.func23 Try.ntmps23 Try.results23 rfl (by decide +kernel) rfl ?_
      repeat (first | refine Z1 ?_ | refine Z2 ?_ | (refine Z3 ?_; (repeat (first | (apply gS; first | refine go_no ?_ | refine go_f ?_ | refine gx ?_ | refine gm ?_ | refine gp ?_ | refine go_c rfl rfl (C) ?_ | refine go_cF rfl rfl (C) ?_ | refine go_cA rfl rfl (C) ?_))); refine T_nil ?_) | (apply ZK; first | refine Z4 ?_ | refine Z5 ?_) | refine Z6 ?_ | refine Z7 ?_ | refine ZF ?_)
      repeat (first | refine kEnd_m ?_ | refine kEnd_f ?_)
      refine kEnd_g ?_ (by first | exact .inl rfl | exact .inr rfl)
      exact Sub.eq rfl rfl
    · refine ⟨true, ?_⟩
      refine DC.of Try.func23 Try.ntmps23 Try.results23 rfl (by decide +kernel) rfl ?_
      repeat (first | refine Z1 ?_ | refine Z2 ?_ | (refine Z3 ?_; (repeat (first | (apply gS; first | refine go_no ?_ | refine go_f ?_ | refine gx ?_ | refine gm ?_ | refine gp ?_ | refine go_c rfl rfl (C) ?_ | refine go_cF rfl rfl (C) ?_ | refine go_cA rfl rfl (C) ?_))); refine T_nil ?_) | (apply ZK; first | refine Z4 ?_ | refine Z5 ?_) | refine Z6 ?_ | refine Z7 ?_ | refine ZF ?_)
      repeat (first | refine kEnd_m ?_ | refine kEnd_f ?_)
      refine kEnd_g ?_ (by first | exact .inl rfl | exact .inr rfl)
      exact Sub.eq rfl rfl
  · refine ⟨true, ?_⟩
    refine DC.of Try.func23 Try.ntmps23 Try.results23 rfl (by decide +kernel) rfl ?_
    repeat (first | refine Z1 ?_ | refine Z2 ?_ | (refine Z3 ?_; (repeat (first | (apply gS; first | refine go_no ?_ | refine go_f ?_ | refine gx ?_ | refine gm ?_ | refine gp ?_ | refine go_c rfl rfl (C) ?_ | refine go_cF rfl rfl (C) ?_ | refine go_cA rfl rfl (C) ?_))); refine T_nil ?_) | (apply ZK; first | refine Z4 ?_ | refine Z5 ?_) | refine Z6 ?_ | refine Z7 ?_ | refine ZF ?_)
    repeat (first | refine kEnd_m ?_ | refine kEnd_f ?_)
    refine kEnd_g ?_ (by first | exact .inl rfl | exact .inr rfl)
    exact Sub.eq rfl rfl
theorem Below25_d (seed n m : Int) (h1 : 0 ≤ n) (h2 : n ≤ 1099511627776) (hm : mOk m) : DC Try.prog 54 [iD seed, iD n, iD m] (.tup [iD (belowV seed n m), iD 0]) := by
  have W1 := within25_t n 0 1099511627776 h1 h2
  have W2 := within25_t m 1 2147483648 hm.1 hm.2
  have B := below_d seed n m hm.1 hm.2
  generalize belowV seed n m = v at *
  refine DC.of Try.func54 Try.ntmps54 Try.results54 rfl (by decide +kernel) rfl ?_
  repeat (first | refine Z1 ?_ | refine Z2 ?_ | (refine Z3 ?_; (repeat (first | (apply gS; first | refine go_no ?_ | refine go_f ?_ | refine gx ?_ | refine gm ?_ | refine gp ?_ | refine go_c rfl rfl (W1) ?_ | refine go_cF rfl rfl (W1) ?_ | refine go_cA rfl rfl (W1) ?_ | refine go_c rfl rfl (W2) ?_ | refine go_cF rfl rfl (W2) ?_ | refine go_cA rfl rfl (W2) ?_ | refine go_c rfl rfl (B) ?_ | refine go_cF rfl rfl (B) ?_ | refine go_cA rfl rfl (B) ?_))); refine T_nil ?_) | (apply ZK; first | refine Z4 ?_ | refine Z5 ?_) | refine Z6 ?_ | refine Z7 ?_ | refine ZF ?_)
  repeat (first | refine kEnd_m ?_ | refine kEnd_f ?_)
  refine kEnd_g ?_ (by first | exact .inl rfl | exact .inr rfl)
  exact Sub.eq rfl rfl
/-- one index, one distribution -/
theorem one_d (seed m : Int) (hm : mOk m) {s : ByteArray} {n o : Int} (hv : vdB s n o = true) {rs : List Rg} (hd : domB rs = true) {i : Nat} (hi : i < (idxs rs).length) :
    ∃ (p q : Nat) (L : List Int), DC Try.prog 55 [dsD s n o, domD rs, rowI (idxs rs)[i]] (.tup [iD p, iD 0]) ∧ DC Try.prog 56 [dsD s n o, domD rs, rowI (idxs rs)[i]] (.tup [iD q, iD 0]) ∧
      DC Try.prog 57 [iD seed, dsD s n o, domD rs, iD p, iD m] (.tup [rowI L, iD 0]) ∧ ∃ h : q < L.length, L[q] = belowV seed (i : Int) m := by
  obtain ⟨k, n, o, rfl, rfl, hk⟩ := vdB_ok hv
  obtain ⟨c0, ct, hc, hs⟩ := canon_sp hd
  obtain ⟨i1, i2, i3⟩ := canon_cnt hd hc
  have hi2 : i < cN c0 * iN c0 ct := by rw [← i2, ← idxs_len]; exact hi
  have hget : (idxs rs)[i] = ithX (c0 :: ct) i := by
    rw [← ith_can hd hc hi2]
    have := idxs_get rs i (by rw [i2]; exact hi2)
    rw [List.getElem?_eq_getElem hi] at this
    exact Option.some.inj this
  rw [hget]
  obtain ⟨f1, f2, f3, f4⟩ := at_find hs hi2
  obtain ⟨a1, a2, a3, a4, a5, a6⟩ := own_at hk.ok hs hi2
  obtain ⟨b1, b2, b3⟩ := loc_at hk.ok hs hi2
  have O := Owner_d hk hd hc hs (ithX (c0 :: ct) i)
  rw [a3, f4] at O
  have LC := Local_d hk hd hc hs (ithX (c0 :: ct) i)
  rw [f4] at LC
  have FA := FillAt_ok seed m hk hd hc hs _ a4 hm
  have hz : cN c0 ≠ 0 := fun e => by rw [e] at a2; exact absurd a2 (Nat.not_lt_zero _)
  have e := iN_eq (ct := ct) hz
  have hlt : ∀ j ∈ ow k n o (cN c0) (own k n o (cN c0) (i / iN c0 ct)), j < cN c0 := fun j hj => ow_lt j hj
  refine ⟨_, _, _, O, LC, FA, ?_⟩
  generalize locV k n o c0 ct (ithX (c0 :: ct) i) = q at *
  generalize own k n o (cN c0) (i / iN c0 ct) = p at *
  have hq : q < (fatL seed m rs (plX c0 ct (ow k n o (cN c0) p))).length := by rw [fatL_len, plX_len, ← e]; exact b1
  refine ⟨hq, ?_⟩
  unfold globX at b3
  have hq1 := b2.2
  rw [getD_at hq1] at b3
  have g := plX_get hlt (q := q / iN c0 ct) (j := q % iN c0 ct) hq1 (by rw [← e]; exact Nat.mod_lt _ a1)
  rw [← e, Nat.mul_comm (q / iN c0 ct), Nat.div_add_mod, b3] at g
  obtain ⟨_, g2⟩ := List.getElem?_eq_some_iff.1 g
  have hp := (pl_place hd hc hs hi2).2
  rw [fatL_get, g2, hp]
abbrev dcC (t : ByteArray × Int × Int) : List D := [sD t.1, iD t.2.1, iD t.2.2]
set_option maxHeartbeats 8000000 in
theorem law_d (seed : Int) (s : ByteArray) (n o : Int) (s' : ByteArray) (n' o' : Int) (rs : List Rg) (m : Int) : DC Try.prog 8 [iD seed, dsD s n o, dsD s' n' o', domD rs, iD m] (bD true) := by
  obtain ⟨bf, FW⟩ := few_d rs
  have V := tValid_d s n o
  have V2 := tValid_d s' n' o'
  have IX := dIndexes_d rs
  cases bf
  case false =>
    generalize dIndexesRes rs = r at *
    obtain ⟨r1, r2⟩ := r
    dsimp only at IX
    refine DC.of Try.func8 Try.ntmps8 Try.results8 rfl (by decide +kernel) rfl ?_
    repeat (first | refine Z1 ?_ | refine Z2 ?_ | (refine Z3 ?_; (repeat (first | (apply gS; first | refine go_no ?_ | refine go_f ?_ | refine gx ?_ | refine gm ?_ | refine gp ?_ | refine go_c rfl rfl (IX) ?_ | refine go_cF rfl rfl (IX) ?_ | refine go_cA rfl rfl (IX) ?_ | refine go_c rfl rfl (FW) ?_ | refine go_cF rfl rfl (FW) ?_ | refine go_cA rfl rfl (FW) ?_ | refine go_c rfl rfl (first25_d) ?_ | refine go_cF rfl rfl (first25_d) ?_ | refine go_cA rfl rfl (first25_d) ?_))); refine T_nil ?_) | (apply ZR; (try dsimp only [List.map_cons, List.map_nil]); refine C_dr mixed ?_; (repeat (first | (apply vS; first | refine vn ?_ | refine va ?_ | refine vp ?_ | refine vr ?_ | refine vt ?_ | refine vc (IX) ?_ | refine vcF (IX) ?_ | refine vc (FW) ?_ | refine vcF (FW) ?_ | refine vc (first25_d) ?_ | refine vcF (first25_d) ?_))); refine W_e ?_) | (apply ZK; first | refine Z4 ?_ | refine Z5 ?_) | refine Z6 ?_ | refine Z7 ?_ | refine Z8 ?_ | refine Z9 ?_ | refine ZA ?_ | refine ZB ?_ | refine ZC ?_ | refine ZD ?_ | refine ZE ?_ | refine ZF ?_ | refine ZG ?_ | refine ZH ?_)
    repeat (first | refine kEnd_m ?_ | refine kEnd_f ?_)
    refine kEnd_g ?_ (by first | exact .inl rfl | exact .inr rfl)
    exact Sub.eq rfl rfl
  cases hd : domB rs
  case false =>
    rw [show dIndexesRes rs = ([], 40) by unfold dIndexesRes; rw [if_neg (by rw [hd]; decide)]] at IX
    dsimp only at IX
    refine DC.of Try.func8 Try.ntmps8 Try.results8 rfl (by decide +kernel) rfl ?_
    repeat (first | refine Z1 ?_ | refine Z2 ?_ | (refine Z3 ?_; (repeat (first | (apply gS; first | refine go_no ?_ | refine go_f ?_ | refine gx ?_ | refine gm ?_ | refine gp ?_ | refine go_c rfl rfl (IX) ?_ | refine go_cF rfl rfl (IX) ?_ | refine go_cA rfl rfl (IX) ?_ | refine go_c rfl rfl (FW) ?_ | refine go_cF rfl rfl (FW) ?_ | refine go_cA rfl rfl (FW) ?_ | refine go_c rfl rfl (first25_d) ?_ | refine go_cF rfl rfl (first25_d) ?_ | refine go_cA rfl rfl (first25_d) ?_))); refine T_nil ?_) | (apply ZR; (try dsimp only [List.map_cons, List.map_nil]); refine C_dr mixed ?_; (repeat (first | (apply vS; first | refine vn ?_ | refine va ?_ | refine vp ?_ | refine vr ?_ | refine vt ?_ | refine vc (IX) ?_ | refine vcF (IX) ?_ | refine vc (FW) ?_ | refine vcF (FW) ?_ | refine vc (first25_d) ?_ | refine vcF (first25_d) ?_))); refine W_e ?_) | (apply ZK; first | refine Z4 ?_ | refine Z5 ?_) | refine Z6 ?_ | refine Z7 ?_ | refine Z8 ?_ | refine Z9 ?_ | refine ZA ?_ | refine ZB ?_ | refine ZC ?_ | refine ZD ?_ | refine ZE ?_ | refine ZF ?_ | refine ZG ?_ | refine ZH ?_)
    repeat (first | refine kEnd_m ?_ | refine kEnd_f ?_)
    refine kEnd_g ?_ (by first | exact .inl rfl | exact .inr rfl)
    exact Sub.eq rfl rfl
  rw [show dIndexesRes rs = (idxs rs, 0) from if_pos hd] at IX
  dsimp only at IX
  cases hv : vdB s n o
  case false =>
    rw [hv] at V
    generalize idxs rs = l at *
    refine DC.of Try.func8 Try.ntmps8 Try.results8 rfl (by decide +kernel) rfl ?_
    repeat (first | refine Z1 ?_ | refine Z2 ?_ | (refine Z3 ?_; (repeat (first | (apply gS; first | refine go_no ?_ | refine go_f ?_ | refine gx ?_ | refine gm ?_ | refine gp ?_ | refine go_c rfl rfl (IX) ?_ | refine go_cF rfl rfl (IX) ?_ | refine go_cA rfl rfl (IX) ?_ | refine go_c rfl rfl (FW) ?_ | refine go_cF rfl rfl (FW) ?_ | refine go_cA rfl rfl (FW) ?_ | refine go_c rfl rfl (V) ?_ | refine go_cF rfl rfl (V) ?_ | refine go_cA rfl rfl (V) ?_ | refine go_c rfl rfl (first25_d) ?_ | refine go_cF rfl rfl (first25_d) ?_ | refine go_cA rfl rfl (first25_d) ?_))); refine T_nil ?_) | (apply ZR; (try dsimp only [List.map_cons, List.map_nil]); refine C_dr mixed ?_; (repeat (first | (apply vS; first | refine vn ?_ | refine va ?_ | refine vp ?_ | refine vr ?_ | refine vt ?_ | refine vc (IX) ?_ | refine vcF (IX) ?_ | refine vc (FW) ?_ | refine vcF (FW) ?_ | refine vc (V) ?_ | refine vcF (V) ?_ | refine vc (first25_d) ?_ | refine vcF (first25_d) ?_))); refine W_e ?_) | (apply ZK; first | refine Z4 ?_ | refine Z5 ?_) | refine Z6 ?_ | refine Z7 ?_ | refine Z8 ?_ | refine Z9 ?_ | refine ZA ?_ | refine ZB ?_ | refine ZC ?_ | refine ZD ?_ | refine ZE ?_ | refine ZF ?_ | refine ZG ?_ | refine ZH ?_)
    repeat (first | refine kEnd_m ?_ | refine kEnd_f ?_)
    refine kEnd_g ?_ (by first | exact .inl rfl | exact .inr rfl)
    exact Sub.eq rfl rfl
  rw [hv] at V
  cases hv2 : vdB s' n' o'
  case false =>
    rw [hv2] at V2
    generalize idxs rs = l at *
    refine DC.of Try.func8 Try.ntmps8 Try.results8 rfl (by decide +kernel) rfl ?_
    repeat (first | refine Z1 ?_ | refine Z2 ?_ | (refine Z3 ?_; (repeat (first | (apply gS; first | refine go_no ?_ | refine go_f ?_ | refine gx ?_ | refine gm ?_ | refine gp ?_ | refine go_c rfl rfl (IX) ?_ | refine go_cF rfl rfl (IX) ?_ | refine go_cA rfl rfl (IX) ?_ | refine go_c rfl rfl (FW) ?_ | refine go_cF rfl rfl (FW) ?_ | refine go_cA rfl rfl (FW) ?_ | refine go_c rfl rfl (V) ?_ | refine go_cF rfl rfl (V) ?_ | refine go_cA rfl rfl (V) ?_ | refine go_c rfl rfl (V2) ?_ | refine go_cF rfl rfl (V2) ?_ | refine go_cA rfl rfl (V2) ?_ | refine go_c rfl rfl (first25_d) ?_ | refine go_cF rfl rfl (first25_d) ?_ | refine go_cA rfl rfl (first25_d) ?_))); refine T_nil ?_) | (apply ZR; (try dsimp only [List.map_cons, List.map_nil]); refine C_dr mixed ?_; (repeat (first | (apply vS; first | refine vn ?_ | refine va ?_ | refine vp ?_ | refine vr ?_ | refine vt ?_ | refine vc (IX) ?_ | refine vcF (IX) ?_ | refine vc (FW) ?_ | refine vcF (FW) ?_ | refine vc (V) ?_ | refine vcF (V) ?_ | refine vc (V2) ?_ | refine vcF (V2) ?_ | refine vc (first25_d) ?_ | refine vcF (first25_d) ?_))); refine W_e ?_) | (apply ZK; first | refine Z4 ?_ | refine Z5 ?_) | refine Z6 ?_ | refine Z7 ?_ | refine Z8 ?_ | refine Z9 ?_ | refine ZA ?_ | refine ZB ?_ | refine ZC ?_ | refine ZD ?_ | refine ZE ?_ | refine ZF ?_ | refine ZG ?_ | refine ZH ?_)
    repeat (first | refine kEnd_m ?_ | refine kEnd_f ?_)
    refine kEnd_g ?_ (by first | exact .inl rfl | exact .inr rfl)
    exact Sub.eq rfl rfl
  rw [hv2] at V2
  by_cases hm1 : m < 1
  · generalize idxs rs = l at *
    refine DC.of Try.func8 Try.ntmps8 Try.results8 rfl (by decide +kernel) rfl ?_
    repeat (first | refine Z1 ?_ | refine Z2 ?_ | (refine Z3 ?_; (repeat (first | (apply gS; first | refine go_no ?_ | refine go_f ?_ | refine gx ?_ | refine gm ?_ | refine gp ?_ | refine go_c rfl rfl (IX) ?_ | refine go_cF rfl rfl (IX) ?_ | refine go_cA rfl rfl (IX) ?_ | refine go_c rfl rfl (FW) ?_ | refine go_cF rfl rfl (FW) ?_ | refine go_cA rfl rfl (FW) ?_ | refine go_c rfl rfl (V) ?_ | refine go_cF rfl rfl (V) ?_ | refine go_cA rfl rfl (V) ?_ | refine go_c rfl rfl (V2) ?_ | refine go_cF rfl rfl (V2) ?_ | refine go_cA rfl rfl (V2) ?_ | refine go_c rfl rfl (first25_d) ?_ | refine go_cF rfl rfl (first25_d) ?_ | refine go_cA rfl rfl (first25_d) ?_))); refine T_nil ?_) | (apply ZR; (try dsimp only [List.map_cons, List.map_nil]); refine C_dr mixed ?_; (repeat (first | (apply vS; first | refine vn ?_ | refine va ?_ | refine vp ?_ | refine vr ?_ | refine vt ?_ | refine vc (IX) ?_ | refine vcF (IX) ?_ | refine vc (FW) ?_ | refine vcF (FW) ?_ | refine vc (V) ?_ | refine vcF (V) ?_ | refine vc (V2) ?_ | refine vcF (V2) ?_ | refine vc (first25_d) ?_ | refine vcF (first25_d) ?_))); refine W_e ?_) | (apply ZK; first | refine Z4 ?_ | refine Z5 ?_) | refine Z6 ?_ | refine Z7 ?_ | refine Z8 ?_ | refine Z9 ?_ | refine ZA ?_ | refine ZB ?_ | refine ZC ?_ | refine ZD ?_ | refine ZE ?_ | refine ZF ?_ | refine ZG ?_ | refine ZH ?_)
    repeat (first | refine kEnd_m ?_ | refine kEnd_f ?_)
    refine kEnd_g ?_ (by first | exact .inl rfl | exact .inr rfl)
    exact Sub.eq rfl rfl
  by_cases hm2 : 2147483648 < m
  · generalize idxs rs = l at *
    refine DC.of Try.func8 Try.ntmps8 Try.results8 rfl (by decide +kernel) rfl ?_
    repeat (first | refine Z1 ?_ | refine Z2 ?_ | (refine Z3 ?_; (repeat (first | (apply gS; first | refine go_no ?_ | refine go_f ?_ | refine gx ?_ | refine gm ?_ | refine gp ?_ | refine go_c rfl rfl (IX) ?_ | refine go_cF rfl rfl (IX) ?_ | refine go_cA rfl rfl (IX) ?_ | refine go_c rfl rfl (FW) ?_ | refine go_cF rfl rfl (FW) ?_ | refine go_cA rfl rfl (FW) ?_ | refine go_c rfl rfl (V) ?_ | refine go_cF rfl rfl (V) ?_ | refine go_cA rfl rfl (V) ?_ | refine go_c rfl rfl (V2) ?_ | refine go_cF rfl rfl (V2) ?_ | refine go_cA rfl rfl (V2) ?_ | refine go_c rfl rfl (first25_d) ?_ | refine go_cF rfl rfl (first25_d) ?_ | refine go_cA rfl rfl (first25_d) ?_))); refine T_nil ?_) | (apply ZR; (try dsimp only [List.map_cons, List.map_nil]); refine C_dr mixed ?_; (repeat (first | (apply vS; first | refine vn ?_ | refine va ?_ | refine vp ?_ | refine vr ?_ | refine vt ?_ | refine vc (IX) ?_ | refine vcF (IX) ?_ | refine vc (FW) ?_ | refine vcF (FW) ?_ | refine vc (V) ?_ | refine vcF (V) ?_ | refine vc (V2) ?_ | refine vcF (V2) ?_ | refine vc (first25_d) ?_ | refine vcF (first25_d) ?_))); refine W_e ?_) | (apply ZK; first | refine Z4 ?_ | refine Z5 ?_) | refine Z6 ?_ | refine Z7 ?_ | refine Z8 ?_ | refine Z9 ?_ | refine ZA ?_ | refine ZB ?_ | refine ZC ?_ | refine ZD ?_ | refine ZE ?_ | refine ZF ?_ | refine ZG ?_ | refine ZH ?_)
    repeat (first | refine kEnd_m ?_ | refine kEnd_f ?_)
    refine kEnd_g ?_ (by first | exact .inl rfl | exact .inr rfl)
    exact Sub.eq rfl rfl
  have hm : mOk m := ⟨by omega, by omega⟩
  have hlen : (idxs rs).length ≤ 4096 := by rw [idxs_len]; exact (domB_iff.1 hd).2.2
  have hv2' : ∀ k (hk : k < 2), vdB ([(s, n, o), (s', n', o')] : List (ByteArray × Int × Int))[k].1 ([(s, n, o), (s', n', o')] : List (ByteArray × Int × Int))[k].2.1 ([(s, n, o), (s', n', o')] : List (ByteArray × Int × Int))[k].2.2 = true := fun k hk => by
    match k, hk with
    | 0, _ => exact hv
    | 1, _ => exact hv2
  have key := fun k (hk : k < 2) i (hi : i < (idxs rs).length) => one_d seed m hm (hv2' k hk) hd hi
  have BL := fun i (hi : i < (idxs rs).length) => Below25_d seed (i : Nat) m (by omega) (by omega) hm
  clear hv2' hd
  generalize idxs rs = l at *
  obtain ⟨dcs, hdcs⟩ : ∃ dcs : List (ByteArray × Int × Int), dcs = [(s, n, o), (s', n', o')] := ⟨_, rfl⟩
  have hdl : dcs.length = 2 := by rw [hdcs]; rfl
  have hrow : (.row 2 [sD s, iD n, iD o, sD s', iD n', iD o'] : D) = .row 2 (dcs.flatMap dcC) := by rw [hdcs]; rfl
  have key2 : ∀ k (hk : k < dcs.length) i (hi : i < l.length), ∃ (p q : Nat) (L : List Int), DC Try.prog 55 [dsD dcs[k].1 dcs[k].2.1 dcs[k].2.2, domD rs, rowI l[i]] (.tup [iD p, iD 0]) ∧ DC Try.prog 56 [dsD dcs[k].1 dcs[k].2.1 dcs[k].2.2, domD rs, rowI l[i]] (.tup [iD q, iD 0]) ∧
      DC Try.prog 57 [iD seed, dsD dcs[k].1 dcs[k].2.1 dcs[k].2.2, domD rs, iD p, iD m] (.tup [rowI L, iD 0]) ∧ ∃ h : q < L.length, L[q] = belowV seed (i : Int) m := by
    subst hdcs
    exact fun k hk i hi => key k hk i hi
  clear key
  -- how far the loop goes on at each turn
  obtain ⟨st, N, hst, hN⟩ : ∃ st N : Nat, ((l.length ≤ 40 ∧ st = 1) ∨ (40 < l.length ∧ st = 4)) ∧ ∀ r, r ≤ N → (r < N ↔ r * st < l.length) := by
    by_cases h : l.length ≤ 40
    · exact ⟨1, l.length, .inl ⟨h, rfl⟩, fun r _ => by omega⟩
    · exact ⟨4, (l.length + 3) / 4, .inr ⟨by omega, rfl⟩, fun r _ => by omega⟩
  rcases hst with ⟨hl, rfl⟩ | ⟨hl, rfl⟩
  · refine DC.of Try.func8 Try.ntmps8 Try.results8 rfl (by decide +kernel) rfl ?_
    repeat (first | refine Z1 ?_ | refine Z2 ?_ | (refine Z3 ?_; (repeat (first | (apply gS; first | refine go_no ?_ | refine go_f ?_ | refine gx ?_ | refine gm ?_ | refine gp ?_ | refine go_c rfl rfl (IX) ?_ | refine go_cF rfl rfl (IX) ?_ | refine go_cA rfl rfl (IX) ?_ | refine go_c rfl rfl (FW) ?_ | refine go_cF rfl rfl (FW) ?_ | refine go_cA rfl rfl (FW) ?_ | refine go_c rfl rfl (V) ?_ | refine go_cF rfl rfl (V) ?_ | refine go_cA rfl rfl (V) ?_ | refine go_c rfl rfl (V2) ?_ | refine go_cF rfl rfl (V2) ?_ | refine go_cA rfl rfl (V2) ?_ | refine go_c rfl rfl (first25_d) ?_ | refine go_cF rfl rfl (first25_d) ?_ | refine go_cA rfl rfl (first25_d) ?_))); refine T_nil ?_) | (apply ZR; (try dsimp only [List.map_cons, List.map_nil]); refine C_dr mixed ?_; (repeat (first | (apply vS; first | refine vn ?_ | refine va ?_ | refine vp ?_ | refine vr ?_ | refine vt ?_ | refine vc (IX) ?_ | refine vcF (IX) ?_ | refine vc (FW) ?_ | refine vcF (FW) ?_ | refine vc (V) ?_ | refine vcF (V) ?_ | refine vc (V2) ?_ | refine vcF (V2) ?_ | refine vc (first25_d) ?_ | refine vcF (first25_d) ?_))); refine W_e ?_) | (apply ZK; first | refine Z4 ?_ | refine Z5 ?_) | refine Z6 ?_ | refine Z7 ?_ | refine Z8 ?_ | refine Z9 ?_ | refine ZA ?_ | refine ZB ?_ | refine ZC ?_ | refine ZD ?_ | refine ZE ?_ | refine ZF ?_ | refine ZG ?_ | refine ZH ?_)
    refine C_count N (fun _ => True) (fun r => ⟨3, 149, [(13, iD ((r * 1 : Nat) : Int)), (11, rowL2 l), (0, iD seed), (4, iD m), (6, .ptr 0 0), (7, .ptr 1 0), (8, .ptr 2 0)], [(0, some ⟨63, 3, 1, [sD s, iD n, iD o]⟩), (1, some ⟨63, 3, 1, [sD s', iD n', iD o']⟩), (2, some ⟨24, 1, 1, [rowR rs]⟩)]⟩) ?_ trivial ?_
    · exact Wk.gx (fun b => b)
    · intro r hr _
      have hN := hN r hr
      by_cases hlt : r * 1 < l.length
      · have hrN := hN.2 hlt
        have B := BL _ hlt
        clear BL hN
        generalize hi : r * 1 = i at *
        repeat (first | refine Z1 ?_ | refine Z2 ?_ | (refine Z3 ?_; (repeat (first | (apply gS; first | refine go_no ?_ | refine go_f ?_ | refine gx ?_ | refine gm ?_ | refine gp ?_ | refine go_c rfl rfl (B) ?_ | refine go_cF rfl rfl (B) ?_ | refine go_cA rfl rfl (B) ?_))); refine T_nil ?_) | (apply ZR; (try dsimp only [List.map_cons, List.map_nil]); refine C_dr mixed ?_; (repeat (first | (apply vS; first | refine vn ?_ | refine va ?_ | refine vp ?_ | refine vr ?_ | refine vt ?_ | refine vc (B) ?_ | refine vcF (B) ?_))); refine W_e ?_) | (apply ZK; first | refine Z4 ?_ | refine Z5 ?_) | refine Z6 ?_ | refine Z7 ?_ | refine Z8 ?_ | refine Z9 ?_ | refine ZA ?_ | refine ZB ?_ | refine ZC ?_ | refine ZD ?_ | refine ZE ?_ | refine ZF ?_ | refine ZG ?_ | refine ZH ?_)
        refine C_count 2 (fun _ => True) (fun k => ⟨3, 149, [(17, iD k), (16, .row 2 (dcs.flatMap dcC)), (14, iD (belowV seed (i : Nat) m)), (13, iD i), (11, rowL2 l), (0, iD seed), (4, iD m), (6, .ptr 0 0), (7, .ptr 1 0), (8, .ptr 2 0)], [(0, some ⟨63, 3, 1, [sD s, iD n, iD o]⟩), (1, some ⟨63, 3, 1, [sD s', iD n', iD o']⟩), (2, some ⟨24, 1, 1, [rowR rs]⟩)]⟩) ?_ trivial ?_
        · rw [← hrow]
          exact Wk.gx (fun b => b)
        · intro k hk _
          by_cases hkl : k < 2
          · have hkd : k < dcs.length := by omega
            obtain ⟨p, q, L, O, LC, FA, hq, e⟩ := key2 k hkd i hlt
            rw [← e]
            clear key2 e B
            repeat (first | refine Z1 ?_ | refine Z2 ?_ | (refine Z3 ?_; (repeat (first | (apply gS; first | refine go_no ?_ | refine go_f ?_ | refine gx ?_ | refine gm ?_ | refine gp ?_ | refine go_c rfl rfl (O) ?_ | refine go_cF rfl rfl (O) ?_ | refine go_cA rfl rfl (O) ?_ | refine go_c rfl rfl (LC) ?_ | refine go_cF rfl rfl (LC) ?_ | refine go_cA rfl rfl (LC) ?_ | refine go_c rfl rfl (FA) ?_ | refine go_cF rfl rfl (FA) ?_ | refine go_cA rfl rfl (FA) ?_))); refine T_nil ?_) | (apply ZR; (try dsimp only [List.map_cons, List.map_nil]); refine C_dr mixed ?_; (repeat (first | (apply vS; first | refine vn ?_ | refine va ?_ | refine vp ?_ | refine vr ?_ | refine vt ?_ | refine vc (O) ?_ | refine vcF (O) ?_ | refine vc (LC) ?_ | refine vcF (LC) ?_ | refine vc (FA) ?_ | refine vcF (FA) ?_))); refine W_e ?_) | (apply ZK; first | refine Z4 ?_ | refine Z5 ?_) | refine Z6 ?_ | refine Z7 ?_ | refine Z8 ?_ | refine Z9 ?_ | refine ZA ?_ | refine ZB ?_ | refine ZC ?_ | refine ZD ?_ | refine ZE ?_ | refine ZF ?_ | refine ZG ?_ | refine ZH ?_)
            refine kLoop_n ⟨hkl, trivial, ?_⟩
            exact Wk.gx (fun b => b)
          · clear key2
            repeat (first | refine Z1 ?_ | refine Z2 ?_ | (refine Z3 ?_; (repeat (first | (apply gS; first | refine go_no ?_ | refine go_f ?_ | refine gx ?_ | refine gm ?_ | refine gp ?_))); refine T_nil ?_) | (apply ZR; (try dsimp only [List.map_cons, List.map_nil]); refine C_dr mixed ?_; (repeat (first | (apply vS; first | refine vn ?_ | refine va ?_ | refine vp ?_ | refine vr ?_ | refine vt ?_))); refine W_e ?_) | (apply ZK; first | refine Z4 ?_ | refine Z5 ?_) | refine Z6 ?_ | refine Z7 ?_ | refine Z8 ?_ | refine Z9 ?_ | refine ZA ?_ | refine ZB ?_ | refine ZC ?_ | refine ZD ?_ | refine ZE ?_ | refine ZF ?_ | refine ZG ?_ | refine ZH ?_)
            refine kLoop_n ⟨hrN, trivial, ?_⟩
            exact Wk.gx (fun b => b)
      · clear key2 BL
        repeat (first | refine Z1 ?_ | refine Z2 ?_ | (refine Z3 ?_; (repeat (first | (apply gS; first | refine go_no ?_ | refine go_f ?_ | refine gx ?_ | refine gm ?_ | refine gp ?_ | refine go_c rfl rfl (first25_d) ?_ | refine go_cF rfl rfl (first25_d) ?_ | refine go_cA rfl rfl (first25_d) ?_))); refine T_nil ?_) | (apply ZR; (try dsimp only [List.map_cons, List.map_nil]); refine C_dr mixed ?_; (repeat (first | (apply vS; first | refine vn ?_ | refine va ?_ | refine vp ?_ | refine vr ?_ | refine vt ?_ | refine vc (first25_d) ?_ | refine vcF (first25_d) ?_))); refine W_e ?_) | (apply ZK; first | refine Z4 ?_ | refine Z5 ?_) | refine Z6 ?_ | refine Z7 ?_ | refine Z8 ?_ | refine Z9 ?_ | refine ZA ?_ | refine ZB ?_ | refine ZC ?_ | refine ZD ?_ | refine ZE ?_ | refine ZF ?_ | refine ZG ?_ | refine ZH ?_)
        repeat (first | refine kEnd_m ?_ | refine kEnd_f ?_)
        refine kEnd_g ?_ (by first | exact .inl rfl | exact .inr rfl)
        exact Sub.eq rfl rfl
  · refine DC.of Try.func8 Try.ntmps8 Try.results8 rfl (by decide +kernel) rfl ?_
    repeat (first | refine Z1 ?_ | refine Z2 ?_ | (refine Z3 ?_; (repeat (first | (apply gS; first | refine go_no ?_ | refine go_f ?_ | refine gx ?_ | refine gm ?_ | refine gp ?_ | refine go_c rfl rfl (IX) ?_ | refine go_cF rfl rfl (IX) ?_ | refine go_cA rfl rfl (IX) ?_ | refine go_c rfl rfl (FW) ?_ | refine go_cF rfl rfl (FW) ?_ | refine go_cA rfl rfl (FW) ?_ | refine go_c rfl rfl (V) ?_ | refine go_cF rfl rfl (V) ?_ | refine go_cA rfl rfl (V) ?_ | refine go_c rfl rfl (V2) ?_ | refine go_cF rfl rfl (V2) ?_ | refine go_cA rfl rfl (V2) ?_ | refine go_c rfl rfl (first25_d) ?_ | refine go_cF rfl rfl (first25_d) ?_ | refine go_cA rfl rfl (first25_d) ?_))); refine T_nil ?_) | (apply ZR; (try dsimp only [List.map_cons, List.map_nil]); refine C_dr mixed ?_; (repeat (first | (apply vS; first | refine vn ?_ | refine va ?_ | refine vp ?_ | refine vr ?_ | refine vt ?_ | refine vc (IX) ?_ | refine vcF (IX) ?_ | refine vc (FW) ?_ | refine vcF (FW) ?_ | refine vc (V) ?_ | refine vcF (V) ?_ | refine vc (V2) ?_ | refine vcF (V2) ?_ | refine vc (first25_d) ?_ | refine vcF (first25_d) ?_))); refine W_e ?_) | (apply ZK; first | refine Z4 ?_ | refine Z5 ?_) | refine Z6 ?_ | refine Z7 ?_ | refine Z8 ?_ | refine Z9 ?_ | refine ZA ?_ | refine ZB ?_ | refine ZC ?_ | refine ZD ?_ | refine ZE ?_ | refine ZF ?_ | refine ZG ?_ | refine ZH ?_)
    refine C_count N (fun _ => True) (fun r => ⟨3, 149, [(13, iD ((r * 4 : Nat) : Int)), (11, rowL2 l), (0, iD seed), (4, iD m), (6, .ptr 0 0), (7, .ptr 1 0), (8, .ptr 2 0)], [(0, some ⟨63, 3, 1, [sD s, iD n, iD o]⟩), (1, some ⟨63, 3, 1, [sD s', iD n', iD o']⟩), (2, some ⟨24, 1, 1, [rowR rs]⟩)]⟩) ?_ trivial ?_
    · exact Wk.gx (fun b => b)
    · intro r hr _
      have hN := hN r hr
      by_cases hlt : r * 4 < l.length
      · have hrN := hN.2 hlt
        have B := BL _ hlt
        clear BL hN
        generalize hi : r * 4 = i at *
        repeat (first | refine Z1 ?_ | refine Z2 ?_ | (refine Z3 ?_; (repeat (first | (apply gS; first | refine go_no ?_ | refine go_f ?_ | refine gx ?_ | refine gm ?_ | refine gp ?_ | refine go_c rfl rfl (B) ?_ | refine go_cF rfl rfl (B) ?_ | refine go_cA rfl rfl (B) ?_))); refine T_nil ?_) | (apply ZR; (try dsimp only [List.map_cons, List.map_nil]); refine C_dr mixed ?_; (repeat (first | (apply vS; first | refine vn ?_ | refine va ?_ | refine vp ?_ | refine vr ?_ | refine vt ?_ | refine vc (B) ?_ | refine vcF (B) ?_))); refine W_e ?_) | (apply ZK; first | refine Z4 ?_ | refine Z5 ?_) | refine Z6 ?_ | refine Z7 ?_ | refine Z8 ?_ | refine Z9 ?_ | refine ZA ?_ | refine ZB ?_ | refine ZC ?_ | refine ZD ?_ | refine ZE ?_ | refine ZF ?_ | refine ZG ?_ | refine ZH ?_)
        refine C_count 2 (fun _ => True) (fun k => ⟨3, 149, [(17, iD k), (16, .row 2 (dcs.flatMap dcC)), (14, iD (belowV seed (i : Nat) m)), (13, iD i), (11, rowL2 l), (0, iD seed), (4, iD m), (6, .ptr 0 0), (7, .ptr 1 0), (8, .ptr 2 0)], [(0, some ⟨63, 3, 1, [sD s, iD n, iD o]⟩), (1, some ⟨63, 3, 1, [sD s', iD n', iD o']⟩), (2, some ⟨24, 1, 1, [rowR rs]⟩)]⟩) ?_ trivial ?_
        · rw [← hrow]
          exact Wk.gx (fun b => b)
        · intro k hk _
          by_cases hkl : k < 2
          · have hkd : k < dcs.length := by omega
            obtain ⟨p, q, L, O, LC, FA, hq, e⟩ := key2 k hkd i hlt
            rw [← e]
            clear key2 e B
            repeat (first | refine Z1 ?_ | refine Z2 ?_ | (refine Z3 ?_; (repeat (first | (apply gS; first | refine go_no ?_ | refine go_f ?_ | refine gx ?_ | refine gm ?_ | refine gp ?_ | refine go_c rfl rfl (O) ?_ | refine go_cF rfl rfl (O) ?_ | refine go_cA rfl rfl (O) ?_ | refine go_c rfl rfl (LC) ?_ | refine go_cF rfl rfl (LC) ?_ | refine go_cA rfl rfl (LC) ?_ | refine go_c rfl rfl (FA) ?_ | refine go_cF rfl rfl (FA) ?_ | refine go_cA rfl rfl (FA) ?_))); refine T_nil ?_) | (apply ZR; (try dsimp only [List.map_cons, List.map_nil]); refine C_dr mixed ?_; (repeat (first | (apply vS; first | refine vn ?_ | refine va ?_ | refine vp ?_ | refine vr ?_ | refine vt ?_ | refine vc (O) ?_ | refine vcF (O) ?_ | refine vc (LC) ?_ | refine vcF (LC) ?_ | refine vc (FA) ?_ | refine vcF (FA) ?_))); refine W_e ?_) | (apply ZK; first | refine Z4 ?_ | refine Z5 ?_) | refine Z6 ?_ | refine Z7 ?_ | refine Z8 ?_ | refine Z9 ?_ | refine ZA ?_ | refine ZB ?_ | refine ZC ?_ | refine ZD ?_ | refine ZE ?_ | refine ZF ?_ | refine ZG ?_ | refine ZH ?_)
            refine kLoop_n ⟨hkl, trivial, ?_⟩
            exact Wk.gx (fun b => b)
          · clear key2
            repeat (first | refine Z1 ?_ | refine Z2 ?_ | (refine Z3 ?_; (repeat (first | (apply gS; first | refine go_no ?_ | refine go_f ?_ | refine gx ?_ | refine gm ?_ | refine gp ?_))); refine T_nil ?_) | (apply ZR; (try dsimp only [List.map_cons, List.map_nil]); refine C_dr mixed ?_; (repeat (first | (apply vS; first | refine vn ?_ | refine va ?_ | refine vp ?_ | refine vr ?_ | refine vt ?_))); refine W_e ?_) | (apply ZK; first | refine Z4 ?_ | refine Z5 ?_) | refine Z6 ?_ | refine Z7 ?_ | refine Z8 ?_ | refine Z9 ?_ | refine ZA ?_ | refine ZB ?_ | refine ZC ?_ | refine ZD ?_ | refine ZE ?_ | refine ZF ?_ | refine ZG ?_ | refine ZH ?_)
            refine kLoop_n ⟨hrN, trivial, ?_⟩
            exact Wk.gx (fun b => b)
      · clear key2 BL
        repeat (first | refine Z1 ?_ | refine Z2 ?_ | (refine Z3 ?_; (repeat (first | (apply gS; first | refine go_no ?_ | refine go_f ?_ | refine gx ?_ | refine gm ?_ | refine gp ?_ | refine go_c rfl rfl (first25_d) ?_ | refine go_cF rfl rfl (first25_d) ?_ | refine go_cA rfl rfl (first25_d) ?_))); refine T_nil ?_) | (apply ZR; (try dsimp only [List.map_cons, List.map_nil]); refine C_dr mixed ?_; (repeat (first | (apply vS; first | refine vn ?_ | refine va ?_ | refine vp ?_ | refine vr ?_ | refine vt ?_ | refine vc (first25_d) ?_ | refine vcF (first25_d) ?_))); refine W_e ?_) | (apply ZK; first | refine Z4 ?_ | refine Z5 ?_) | refine Z6 ?_ | refine Z7 ?_ | refine Z8 ?_ | refine Z9 ?_ | refine ZA ?_ | refine ZB ?_ | refine ZC ?_ | refine ZD ?_ | refine ZE ?_ | refine ZF ?_ | refine ZG ?_ | refine ZH ?_)
        repeat (first | refine kEnd_m ?_ | refine kEnd_f ?_)
        refine kEnd_g ?_ (by first | exact .inl rfl | exact .inr rfl)
        exact Sub.eq rfl rfl
theorem walk {w : World} (seed : Int) (v : Value) (t : ByteArray × Int × Int) (tc : RC (fun b => b < w.heap.size) w (dsD t.1 t.2.1 t.2.2) v) (v' : Value) (t' : ByteArray × Int × Int) (tc' : RC (fun b => b < w.heap.size) w (dsD t'.1 t'.2.1 t'.2.2) v') (u : Value) (rs : List Rg) (rc : RC (fun b => b < w.heap.size) w (domD rs) u) (m : Int) : Calls Try.prog 8 #[.int .i64 seed, v, v', u, .int .i64 m] w fun e w' => e = .returned (.bool true) ∧ Below w.heap.size w w' :=
  DC.law (law_d seed t.1 t.2.1 t.2.2 t'.1 t'.2.1 t'.2.2 rs m) (.cons (.int _ _ seed) (.cons tc (.cons tc' (.cons rc (.cons (.int _ _ m) .nil)))))
end Go.Proofs.Ytifapodobhkdcaa.topStream
