/- The law StreamSpread returns true for every input: what all places fill, put where layer 7 says, is what is filled at once. -/
import Derived.Test.YtifapodobhkdcaaStE
import Derived.Test.YtifapodobhkdcaaCameT
namespace Go.Proofs.Ytifapodobhkdcaa.streamSpread
open Go.RowKit Go.Proofs.Ytifapodobhkdcaa
set_option linter.unusedVariables false
set_option maxHeartbeats 16000000
set_option linter.unusedSimpArgs false
set_option maxRecDepth 100000
theorem fatL_at {seed m : Int} {k : Kd} {n o : Nat} {rs : List Rg} {c0 : Rg} {ct : List Rg} (hd : domB rs = true) (hc : canonRs rs = c0 :: ct) (hs : SpOk c0 ct) {p i : Nat} (hi : i < (fatL seed m rs (plX c0 ct (ow k n o (cN c0) p))).length) :
    globB k n o c0 ct p i ∧ ∃ a, a < cN c0 * iN c0 ct ∧ globX k n o c0 ct p i = ithX (c0 :: ct) a ∧ (fatL seed m rs (plX c0 ct (ow k n o (cN c0) p)))[i] = belowV seed ((a : Nat) : Int) m := by
  have hlt : ∀ j ∈ ow k n o (cN c0) p, j < cN c0 := fun j hj => ow_lt j hj
  have hi2 : i < (ow k n o (cN c0) p).length * prodN (cl ct) := by rw [fatL_len, plX_len] at hi; exact hi
  have hne : 0 < (ow k n o (cN c0) p).length := Nat.pos_of_ne_zero fun e => by rw [e, Nat.zero_mul] at hi2; omega
  have hz : cN c0 ≠ 0 := fun e => by have := hlt _ (List.getElem_mem hne); omega
  have e := iN_eq (ct := ct) hz
  have hW : 0 < prodN (cl ct) := Nat.pos_of_ne_zero fun e => by rw [e, Nat.mul_zero] at hi2; omega
  have hq : i / prodN (cl ct) < (ow k n o (cN c0) p).length := Nat.div_lt_of_lt_mul (by rwa [Nat.mul_comm])
  have hm := Nat.mod_lt i hW
  have g := plX_get hlt hq hm
  rw [Nat.mul_comm, Nat.div_add_mod] at g
  have hlq := hlt _ (List.getElem_mem hq)
  have h2 := Nat.mul_le_mul_right (prodN (cl ct)) (show (ow k n o (cN c0) p)[i / prodN (cl ct)] + 1 ≤ cN c0 by omega)
  rw [Nat.add_mul, Nat.one_mul] at h2
  have ha : (ow k n o (cN c0) p)[i / prodN (cl ct)] * prodN (cl ct) + i % prodN (cl ct) < cN c0 * prodN (cl ct) := by omega
  refine ⟨⟨by rw [e]; omega, by rw [e]; exact hq⟩, _, by rw [e]; exact ha, ?_, ?_⟩
  · unfold globX
    rw [e, getD_at hq]
  · obtain ⟨_, g2⟩ := List.getElem?_eq_some_iff.1 g
    have hp := (pl_place hd hc hs (show _ < cN c0 * iN c0 ct by rw [e]; exact ha)).2
    rw [fatL_get, g2, hp]
set_option maxHeartbeats 8000000 in
theorem law_d (seed : Int) (s : ByteArray) (n o : Int) (rs : List Rg) (m : Int) : DC Try.prog 20 [iD seed, dsD s n o, domD rs, iD m] (bD true) := by
  obtain ⟨bl, L⟩ := large25_d rs
  have V := tValid_d s n o
  cases hd : domB rs
  case false =>
    have F := Fill_bad seed m hd
    cases bl
    all_goals
      refine DC.of Try.func20 Try.ntmps20 Try.results20 rfl (by decide +kernel) rfl ?_
      repeat (first | refine Z1 ?_ | refine Z2 ?_ | (refine Z3 ?_; (repeat (first | (apply gS; first | refine go_no ?_ | refine go_f ?_ | refine gx ?_ | refine gm ?_ | refine gp ?_ | refine go_c rfl rfl (F) ?_ | refine go_cF rfl rfl (F) ?_ | refine go_cA rfl rfl (F) ?_ | refine go_c rfl rfl (L) ?_ | refine go_cF rfl rfl (L) ?_ | refine go_cA rfl rfl (L) ?_ | refine go_c rfl rfl (first25_d) ?_ | refine go_cF rfl rfl (first25_d) ?_ | refine go_cA rfl rfl (first25_d) ?_))); refine T_nil ?_) | (apply ZR; (try dsimp only [List.map_cons, List.map_nil]); refine C_dr mixed ?_; (repeat (first | (apply vS; first | refine vn ?_ | refine va ?_ | refine vp ?_ | refine vr ?_ | refine vt ?_ | refine vc (F) ?_ | refine vcF (F) ?_ | refine vc (L) ?_ | refine vcF (L) ?_ | refine vc (first25_d) ?_ | refine vcF (first25_d) ?_))); refine W_e ?_) | (apply ZK; first | refine Z4 ?_ | refine Z5 ?_) | refine Z6 ?_ | refine Z7 ?_ | refine Z8 ?_ | refine Z9 ?_ | refine ZA ?_ | refine ZB ?_ | refine ZC ?_ | refine ZD ?_ | refine ZE ?_ | refine ZF ?_ | refine ZG ?_ | refine ZH ?_)
      repeat (first | refine kEnd_m ?_ | refine kEnd_f ?_)
      refine kEnd_g ?_ (by first | exact .inl rfl | exact .inr rfl)
      exact Sub.eq rfl rfl
  by_cases hm : mOk m
  case neg =>
    have F := Fill_no seed m hd hm
    cases bl
    all_goals
      refine DC.of Try.func20 Try.ntmps20 Try.results20 rfl (by decide +kernel) rfl ?_
      repeat (first | refine Z1 ?_ | refine Z2 ?_ | (refine Z3 ?_; (repeat (first | (apply gS; first | refine go_no ?_ | refine go_f ?_ | refine gx ?_ | refine gm ?_ | refine gp ?_ | refine go_c rfl rfl (F) ?_ | refine go_cF rfl rfl (F) ?_ | refine go_cA rfl rfl (F) ?_ | refine go_c rfl rfl (L) ?_ | refine go_cF rfl rfl (L) ?_ | refine go_cA rfl rfl (L) ?_ | refine go_c rfl rfl (first25_d) ?_ | refine go_cF rfl rfl (first25_d) ?_ | refine go_cA rfl rfl (first25_d) ?_))); refine T_nil ?_) | (apply ZR; (try dsimp only [List.map_cons, List.map_nil]); refine C_dr mixed ?_; (repeat (first | (apply vS; first | refine vn ?_ | refine va ?_ | refine vp ?_ | refine vr ?_ | refine vt ?_ | refine vc (F) ?_ | refine vcF (F) ?_ | refine vc (L) ?_ | refine vcF (L) ?_ | refine vc (first25_d) ?_ | refine vcF (first25_d) ?_))); refine W_e ?_) | (apply ZK; first | refine Z4 ?_ | refine Z5 ?_) | refine Z6 ?_ | refine Z7 ?_ | refine Z8 ?_ | refine Z9 ?_ | refine ZA ?_ | refine ZB ?_ | refine ZC ?_ | refine ZD ?_ | refine ZE ?_ | refine ZF ?_ | refine ZG ?_ | refine ZH ?_)
      repeat (first | refine kEnd_m ?_ | refine kEnd_f ?_)
      refine kEnd_g ?_ (by first | exact .inl rfl | exact .inr rfl)
      exact Sub.eq rfl rfl
  have F := Fill_ok seed m hd hm
  cases bl
  case true =>
    generalize fillL seed m (cnt rs) = A at *
    refine DC.of Try.func20 Try.ntmps20 Try.results20 rfl (by decide +kernel) rfl ?_
    repeat (first | refine Z1 ?_ | refine Z2 ?_ | (refine Z3 ?_; (repeat (first | (apply gS; first | refine go_no ?_ | refine go_f ?_ | refine gx ?_ | refine gm ?_ | refine gp ?_ | refine go_c rfl rfl (F) ?_ | refine go_cF rfl rfl (F) ?_ | refine go_cA rfl rfl (F) ?_ | refine go_c rfl rfl (L) ?_ | refine go_cF rfl rfl (L) ?_ | refine go_cA rfl rfl (L) ?_ | refine go_c rfl rfl (first25_d) ?_ | refine go_cF rfl rfl (first25_d) ?_ | refine go_cA rfl rfl (first25_d) ?_))); refine T_nil ?_) | (apply ZR; (try dsimp only [List.map_cons, List.map_nil]); refine C_dr mixed ?_; (repeat (first | (apply vS; first | refine vn ?_ | refine va ?_ | refine vp ?_ | refine vr ?_ | refine vt ?_ | refine vc (F) ?_ | refine vcF (F) ?_ | refine vc (L) ?_ | refine vcF (L) ?_ | refine vc (first25_d) ?_ | refine vcF (first25_d) ?_))); refine W_e ?_) | (apply ZK; first | refine Z4 ?_ | refine Z5 ?_) | refine Z6 ?_ | refine Z7 ?_ | refine Z8 ?_ | refine Z9 ?_ | refine ZA ?_ | refine ZB ?_ | refine ZC ?_ | refine ZD ?_ | refine ZE ?_ | refine ZF ?_ | refine ZG ?_ | refine ZH ?_)
    repeat (first | refine kEnd_m ?_ | refine kEnd_f ?_)
    refine kEnd_g ?_ (by first | exact .inl rfl | exact .inr rfl)
    exact Sub.eq rfl rfl
  cases hv : vdB s n o
  case false =>
    rw [hv] at V
    generalize fillL seed m (cnt rs) = A at *
    refine DC.of Try.func20 Try.ntmps20 Try.results20 rfl (by decide +kernel) rfl ?_
    repeat (first | refine Z1 ?_ | refine Z2 ?_ | (refine Z3 ?_; (repeat (first | (apply gS; first | refine go_no ?_ | refine go_f ?_ | refine gx ?_ | refine gm ?_ | refine gp ?_ | refine go_c rfl rfl (F) ?_ | refine go_cF rfl rfl (F) ?_ | refine go_cA rfl rfl (F) ?_ | refine go_c rfl rfl (L) ?_ | refine go_cF rfl rfl (L) ?_ | refine go_cA rfl rfl (L) ?_ | refine go_c rfl rfl (V) ?_ | refine go_cF rfl rfl (V) ?_ | refine go_cA rfl rfl (V) ?_ | refine go_c rfl rfl (first25_d) ?_ | refine go_cF rfl rfl (first25_d) ?_ | refine go_cA rfl rfl (first25_d) ?_))); refine T_nil ?_) | (apply ZR; (try dsimp only [List.map_cons, List.map_nil]); refine C_dr mixed ?_; (repeat (first | (apply vS; first | refine vn ?_ | refine va ?_ | refine vp ?_ | refine vr ?_ | refine vt ?_ | refine vc (F) ?_ | refine vcF (F) ?_ | refine vc (L) ?_ | refine vcF (L) ?_ | refine vc (V) ?_ | refine vcF (V) ?_ | refine vc (first25_d) ?_ | refine vcF (first25_d) ?_))); refine W_e ?_) | (apply ZK; first | refine Z4 ?_ | refine Z5 ?_) | refine Z6 ?_ | refine Z7 ?_ | refine Z8 ?_ | refine Z9 ?_ | refine ZA ?_ | refine ZB ?_ | refine ZC ?_ | refine ZD ?_ | refine ZE ?_ | refine ZF ?_ | refine ZG ?_ | refine ZH ?_)
    repeat (first | refine kEnd_m ?_ | refine kEnd_f ?_)
    refine kEnd_g ?_ (by first | exact .inl rfl | exact .inr rfl)
    exact Sub.eq rfl rfl
  rw [hv] at V
  obtain ⟨k, n, o, rfl, rfl, hk⟩ := vdB_ok hv
  obtain ⟨c0, ct, hc, hs⟩ := canon_sp hd
  have ecnt : cnt rs = cN c0 * iN c0 ct := (canon_cnt hd hc).2.1
  have hP : cN c0 * iN c0 ct ≤ 4096 := by rw [iN_mul]; exact (domB_iff.1 hs.dom).2.2
  have h8 := hk.ok.o8
  have FA := fun p (hp : p < o) => FillAt_ok seed m hk hd hc hs p hp hm
  have hll : (fillL seed m (cnt rs)).length = cnt rs := fillL_len _ _ _
  have key : ∀ p (hp : p < o) i (hi : i < (fatL seed m rs (plX c0 ct (ow k n o (cN c0) p))).length), ∃ (x : List Int) (a : Nat), DC Try.prog 67 [dsD s n o, domD rs, iD p, iD i] (.tup [rowI x, iD 0]) ∧
      DC Try.prog 26 [domD rs, rowI x] (.tup [iD a, iD 0]) ∧ ∃ h : a < (fillL seed m (cnt rs)).length, (fillL seed m (cnt rs))[a] = (fatL seed m rs (plX c0 ct (ow k n o (cN c0) p)))[i] := fun p hp i hi => by
    obtain ⟨b1, a, b2, b3, b4⟩ := fatL_at hd hc hs hi
    have G := Global_ok hk hd hc hs p i hp b1
    have P := dPlace_d rs (ithX (c0 :: ct) a)
    rw [(pl_place hd hc hs b2).1] at P
    refine ⟨_, a, G, by rw [b3]; exact P, by rw [fillL_len, ecnt]; exact b2, ?_⟩
    rw [fillL_get, b4]
  have hsum : ∃ S : Nat → Nat, S 0 = 0 ∧ (∀ p, p < o → S (p + 1) = S p + (fatL seed m rs (plX c0 ct (ow k n o (cN c0) p))).length ∧ S p ≤ 32768 ∧ (fatL seed m rs (plX c0 ct (ow k n o (cN c0) p))).length ≤ 4096) ∧ S o = cnt rs := by
    have hlenp : ∀ p, (fatL seed m rs (plX c0 ct (ow k n o (cN c0) p))).length = cntF (own k n o (cN c0)) (cN c0) p * prodN (cl ct) := fun p => by rw [fatL_len, plX_len, ow_cnt]
    have hP2 : cN c0 * prodN (cl ct) ≤ 4096 := (domB_iff.1 hs.dom).2.2
    have hb : ∀ p, cntF (own k n o (cN c0)) (cN c0) p * prodN (cl ct) ≤ 4096 := fun p => Nat.le_trans (Nat.mul_le_mul_right _ (cntF_le _ _ _)) hP2
    refine ⟨fun p => sumL (fun p => cntF (own k n o (cN c0)) (cN c0) p * prodN (cl ct)) p, rfl, fun p hp => ?_, ?_⟩
    · have hS : ∀ p, sumL (fun p => cntF (own k n o (cN c0)) (cN c0) p * prodN (cl ct)) p ≤ p * 4096 := fun p => by
        induction p with
        | zero => simp [sumL]
        | succ p ih => rw [sumL_succ]; have := hb p; omega
      have h2 := hS p
      have h3 := hb p
      rw [hlenp]
      simp only
      rw [sumL_succ]
      omega
    · show sumL (fun p => cntF (own k n o (cN c0)) (cN c0) p * prodN (cl ct)) o = _
      rw [sumL_mul, sum_cnt (fun i hi => own_lt hk.ok hi), ecnt]
      show _ = cN c0 * iN c0 ct
      rw [iN_mul]; rfl
  obtain ⟨S, s0, s1, s2⟩ := hsum
  have hAl : (fillL seed m (cnt rs)).length ≤ 4096 := by rw [hll, ecnt]; exact hP
  rw [← hll] at s2
  clear hv hd hc hs hk ecnt hP hm hll
  generalize fillL seed m (cnt rs) = A at *
  obtain ⟨T, FA, key, s1⟩ : ∃ T : Nat → List Int, (∀ p, p < o → DC Try.prog 57 [iD seed, dsD s n o, domD rs, iD p, iD m] (.tup [rowI (T p), iD 0])) ∧
      (∀ p (hp : p < o) i (hi : i < (T p).length), ∃ (x : List Int) (a : Nat), DC Try.prog 67 [dsD s n o, domD rs, iD p, iD i] (.tup [rowI x, iD 0]) ∧
      DC Try.prog 26 [domD rs, rowI x] (.tup [iD a, iD 0]) ∧ ∃ h : a < A.length, A[a] = (T p)[i]) ∧ (∀ p, p < o → S (p + 1) = S p + (T p).length ∧ S p ≤ 32768 ∧ (T p).length ≤ 4096) := ⟨_, FA, key, s1⟩
  refine DC.of Try.func20 Try.ntmps20 Try.results20 rfl (by decide +kernel) rfl ?_
  repeat (first | refine Z1 ?_ | refine Z2 ?_ | (refine Z3 ?_; (repeat (first | (apply gS; first | refine go_no ?_ | refine go_f ?_ | refine gx ?_ | refine gm ?_ | refine gp ?_ | refine go_c rfl rfl (F) ?_ | refine go_cF rfl rfl (F) ?_ | refine go_cA rfl rfl (F) ?_ | refine go_c rfl rfl (L) ?_ | refine go_cF rfl rfl (L) ?_ | refine go_cA rfl rfl (L) ?_ | refine go_c rfl rfl (V) ?_ | refine go_cF rfl rfl (V) ?_ | refine go_cA rfl rfl (V) ?_ | refine go_c rfl rfl (first25_d) ?_ | refine go_cF rfl rfl (first25_d) ?_ | refine go_cA rfl rfl (first25_d) ?_))); refine T_nil ?_) | (apply ZR; (try dsimp only [List.map_cons, List.map_nil]); refine C_dr mixed ?_; (repeat (first | (apply vS; first | refine vn ?_ | refine va ?_ | refine vp ?_ | refine vr ?_ | refine vt ?_ | refine vc (F) ?_ | refine vcF (F) ?_ | refine vc (L) ?_ | refine vcF (L) ?_ | refine vc (V) ?_ | refine vcF (V) ?_ | refine vc (first25_d) ?_ | refine vcF (first25_d) ?_))); refine W_e ?_) | (apply ZK; first | refine Z4 ?_ | refine Z5 ?_) | refine Z6 ?_ | refine Z7 ?_ | refine Z8 ?_ | refine Z9 ?_ | refine ZA ?_ | refine ZB ?_ | refine ZC ?_ | refine ZD ?_ | refine ZE ?_ | refine ZF ?_ | refine ZG ?_ | refine ZH ?_)
  refine C_count o (fun _ => True) (fun p => ⟨2, 113, [(12, iD p), (11, iD (S p)), (9, rowI A), (0, iD seed), (3, iD m), (5, .ptr 0 0), (6, .ptr 1 0)], [(0, some ⟨63, 3, 1, [sD s, iD n, iD o]⟩), (1, some ⟨24, 1, 1, [rowR rs]⟩)]⟩) ?_ trivial ?_
  · rw [s0]
    exact Wk.gx (fun b => b)
  · intro p hp _
    by_cases hlt : p < o
    · have C1 := FA p hlt
      have k1 := key p hlt
      obtain ⟨t1, t2, t3⟩ := s1 p hlt
      clear FA key s1
      generalize T p = B at *
      repeat (first | refine Z1 ?_ | refine Z2 ?_ | (refine Z3 ?_; (repeat (first | (apply gS; first | refine go_no ?_ | refine go_f ?_ | refine gx ?_ | refine gm ?_ | refine gp ?_ | refine go_c rfl rfl (C1) ?_ | refine go_cF rfl rfl (C1) ?_ | refine go_cA rfl rfl (C1) ?_))); refine T_nil ?_) | (apply ZR; (try dsimp only [List.map_cons, List.map_nil]); refine C_dr mixed ?_; (repeat (first | (apply vS; first | refine vn ?_ | refine va ?_ | refine vp ?_ | refine vr ?_ | refine vt ?_ | refine vc (C1) ?_ | refine vcF (C1) ?_))); refine W_e ?_) | (apply ZK; first | refine Z4 ?_ | refine Z5 ?_) | refine Z6 ?_ | refine Z7 ?_ | refine Z8 ?_ | refine Z9 ?_ | refine ZA ?_ | refine ZB ?_ | refine ZC ?_ | refine ZD ?_ | refine ZE ?_ | refine ZF ?_ | refine ZG ?_ | refine ZH ?_)
      refine C_count B.length (fun _ => True) (fun i => ⟨2, 113, [(15, iD i), (13, rowI B), (12, iD p), (11, iD ((S p + i : Nat) : Int)), (9, rowI A), (0, iD seed), (3, iD m), (5, .ptr 0 0), (6, .ptr 1 0)], [(0, some ⟨63, 3, 1, [sD s, iD n, iD o]⟩), (1, some ⟨24, 1, 1, [rowR rs]⟩)]⟩) ?_ trivial ?_
      · rw [Nat.add_zero]
        exact Wk.gx (fun b => b)
      · intro i hi _
        by_cases hil : i < B.length
        · obtain ⟨x, a, G, P, ha, ea⟩ := k1 i hil
          clear k1
          repeat (first | refine Z1 ?_ | refine Z2 ?_ | (refine Z3 ?_; (repeat (first | (apply gS; first | refine go_no ?_ | refine go_f ?_ | refine gx ?_ | refine gm ?_ | refine gp ?_ | refine go_c rfl rfl (G) ?_ | refine go_cF rfl rfl (G) ?_ | refine go_cA rfl rfl (G) ?_ | refine go_c rfl rfl (P) ?_ | refine go_cF rfl rfl (P) ?_ | refine go_cA rfl rfl (P) ?_))); refine T_nil ?_) | (apply ZR; (try dsimp only [List.map_cons, List.map_nil]); refine C_dr mixed ?_; (repeat (first | (apply vS; first | refine vn ?_ | refine va ?_ | refine vp ?_ | refine vr ?_ | refine vt ?_ | refine vc (G) ?_ | refine vcF (G) ?_ | refine vc (P) ?_ | refine vcF (P) ?_))); refine W_e ?_) | (apply ZK; first | refine Z4 ?_ | refine Z5 ?_) | refine Z6 ?_ | refine Z7 ?_ | refine Z8 ?_ | refine Z9 ?_ | refine ZA ?_ | refine ZB ?_ | refine ZC ?_ | refine ZD ?_ | refine ZE ?_ | refine ZF ?_ | refine ZG ?_ | refine ZH ?_)
          refine kLoop_n ⟨hil, trivial, ?_⟩
          exact Wk.gx (fun b => b)
        · obtain rfl : i = B.length := by omega
          rw [← t1]
          clear k1
          repeat (first | refine Z1 ?_ | refine Z2 ?_ | (refine Z3 ?_; (repeat (first | (apply gS; first | refine go_no ?_ | refine go_f ?_ | refine gx ?_ | refine gm ?_ | refine gp ?_))); refine T_nil ?_) | (apply ZR; (try dsimp only [List.map_cons, List.map_nil]); refine C_dr mixed ?_; (repeat (first | (apply vS; first | refine vn ?_ | refine va ?_ | refine vp ?_ | refine vr ?_ | refine vt ?_))); refine W_e ?_) | (apply ZK; first | refine Z4 ?_ | refine Z5 ?_) | refine Z6 ?_ | refine Z7 ?_ | refine Z8 ?_ | refine Z9 ?_ | refine ZA ?_ | refine ZB ?_ | refine ZC ?_ | refine ZD ?_ | refine ZE ?_ | refine ZF ?_ | refine ZG ?_ | refine ZH ?_)
          refine kLoop_n ⟨hlt, trivial, ?_⟩
          exact Wk.gx (fun b => b)
    · obtain rfl : p = o := by omega
      rw [s2]
      clear FA key s1
      repeat (first | refine Z1 ?_ | refine Z2 ?_ | (refine Z3 ?_; (repeat (first | (apply gS; first | refine go_no ?_ | refine go_f ?_ | refine gx ?_ | refine gm ?_ | refine gp ?_ | refine go_c rfl rfl (first25_d) ?_ | refine go_cF rfl rfl (first25_d) ?_ | refine go_cA rfl rfl (first25_d) ?_))); refine T_nil ?_) | (apply ZR; (try dsimp only [List.map_cons, List.map_nil]); refine C_dr mixed ?_; (repeat (first | (apply vS; first | refine vn ?_ | refine va ?_ | refine vp ?_ | refine vr ?_ | refine vt ?_ | refine vc (first25_d) ?_ | refine vcF (first25_d) ?_))); refine W_e ?_) | (apply ZK; first | refine Z4 ?_ | refine Z5 ?_) | refine Z6 ?_ | refine Z7 ?_ | refine Z8 ?_ | refine Z9 ?_ | refine ZA ?_ | refine ZB ?_ | refine ZC ?_ | refine ZD ?_ | refine ZE ?_ | refine ZF ?_ | refine ZG ?_ | refine ZH ?_)
      repeat (first | refine kEnd_m ?_ | refine kEnd_f ?_)
      refine kEnd_g ?_ (by first | exact .inl rfl | exact .inr rfl)
      exact Sub.eq rfl rfl
theorem walk {w : World} (seed : Int) (v : Value) (t : ByteArray × Int × Int) (tc : RC (fun b => b < w.heap.size) w (dsD t.1 t.2.1 t.2.2) v) (u : Value) (rs : List Rg) (rc : RC (fun b => b < w.heap.size) w (domD rs) u) (m : Int) : Calls Try.prog 20 #[.int .i64 seed, v, u, .int .i64 m] w fun e w' => e = .returned (.bool true) ∧ Below w.heap.size w w' :=
  DC.law (law_d seed t.1 t.2.1 t.2.2 rs m) (.cons (.int _ _ seed) (.cons tc (.cons rc (.cons (.int _ _ m) .nil))))
end Go.Proofs.Ytifapodobhkdcaa.streamSpread
