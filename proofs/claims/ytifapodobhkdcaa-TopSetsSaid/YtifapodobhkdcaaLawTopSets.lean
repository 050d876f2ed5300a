/- The law TopSets returns true for every input: domains of few indexes behave as the sets of these. -/
import Derived.Test.YtifapodobhkdcaaSetM
import Derived.Test.YtifapodobhkdcaaSeq
import Derived.Test.YtifapodobhkdcaaCameT
namespace Go.Proofs.Ytifapodobhkdcaa.topSets
open Go.RowKit Go.Proofs.Ytifapodobhkdcaa
set_option linter.unusedVariables false
set_option maxHeartbeats 16000000
set_option linter.unusedSimpArgs false
set_option maxRecDepth 100000
theorem few_d (d : List Rg) : ∃ b, DC Try.prog 23 [domD d] (bD b) := by
  have C := rdCount_d d
  generalize dCountRes d = c at *
  obtain ⟨n, e⟩ := c
  dsimp only at C
  by_cases h0 : 10 < d.length
  · refine ⟨false, ?_⟩
    refine DC.of Try.func23 Try.ntmps23 Try.results23 rfl (by decide +kernel) rfl ?_
    repeat (first | refine Z1 ?_ | refine Z2 ?_ | (refine Z3 ?_; (repeat (first | (apply gS; first | refine go_no ?_ | refine go_f ?_ | refine gx ?_ | refine gm ?_ | refine gp ?_ | refine go_c rfl rfl (C) ?_ | refine go_cF rfl rfl (C) ?_ | refine go_cA rfl rfl (C) ?_))); refine T_nil ?_) | (apply ZK; first | refine Z4 ?_ | refine Z5 ?_) | refine Z6 ?_ | refine Z7 ?_ | refine ZF ?_)
    repeat (first | refine kEnd_m ?_ | refine kEnd_f ?_)
    refine kEnd_g ?_ (by first | exact .inl rfl | exact .inr rfl)
    exact Sub.eq rfl rfl
  by_cases h1 : e = 0
  · by_cases h : 150 < n
    · refine ⟨false, ?_⟩
      refine DC.of Try.func23 Try.ntmps23 Try.results23 rfl (by decide +kernel) rfl ?_
      repeat (first | refine Z1 ?_ | refine Z2 ?_ | (refine Z3 ?_; (repeat (first | (apply gS; first | refine go_no ?_ | refine go_f ?_ | refine gx ?_ | refine gm ?_ | refine gp ?_ | refine go_c rfl rfl (C) ?_ | refine go_cF rfl rfl (C) ?_ | refine go_cA rfl rfl (C) ?_))); refine T_nil ?_) | (apply ZK; first | refine Z4 ?_ | refine Z5 ?_) | refine Z6 ?_ | refine Z7 ?_ | refine ZF ?_)
      repeat (first | refine kEnd_m ?_ | refine kEnd_f ?_)
      refine kEnd_g ?_ (by first | exact .inl rfl | exact .inr rfl)
      exact Sub.eq rfl rfl
    · refine ⟨true, ?_⟩
      refine DC.of Try.func23 Try.ntmps23 Try.results23 rfl (by decide +kernel) rfl ?_
      repeat (first | refine Z1 ?_ | refine Z2 ?_ | (refine Z3 ?_; (repeat (first | (apply gS; first | refine go_no ?_ | refine go_f ?_ | refine gx ?_ | refine gm ?_ | refine gp ?_ | refine go_c rfl rfl (C) ?_ | refine go_cF rfl rfl (C) ?_ | refine go_cA rfl rfl (C) ?_))); refine T_nil ?_) | (apply ZK; first | refine Z4 ?_ | refine Z5 ?_) | refine Z6 ?_ | refine Z7 ?_ | refine ZF ?_)
      repeat (first | refine kEnd_m ?_ | refine kEnd_f ?_)
      refine kEnd_g ?_ (by first | exact .inl rfl | exact .inr rfl)
      exact Sub.eq rfl rfl
  · refine ⟨true, ?_⟩
    refine DC.of Try.func23 Try.ntmps23 Try.results23 rfl (by decide +kernel) rfl ?_
    repeat (first | refine Z1 ?_ | refine Z2 ?_ | (refine Z3 ?_; (repeat (first | (apply gS; first | refine go_no ?_ | refine go_f ?_ | refine gx ?_ | refine gm ?_ | refine gp ?_ | refine go_c rfl rfl (C) ?_ | refine go_cF rfl rfl (C) ?_ | refine go_cA rfl rfl (C) ?_))); refine T_nil ?_) | (apply ZK; first | refine Z4 ?_ | refine Z5 ?_) | refine Z6 ?_ | refine Z7 ?_ | refine ZF ?_)
    repeat (first | refine kEnd_m ?_ | refine kEnd_f ?_)
    refine kEnd_g ?_ (by first | exact .inl rfl | exact .inr rfl)
    exact Sub.eq rfl rfl
/-- the members of a range, and that it has them -/
theorem stage2 {r : Rg} (hv : vB r = true) : ∃ (m : List Int) (e : Int), m.length ≤ 4096 ∧ DC Try.prog 29 [rD r] (.tup [rowI m, iD e]) ∧ ∀ i (h : i < m.length), e = 0 ∧ DC Try.prog 30 [rD r, iD m[i]] (.tup [bD true, iD 0]) := by
  by_cases hn : cN r ≤ 4096
  · refine ⟨_, _, by rw [memN_len]; exact hn, sMembers_ok hv hn, fun i h => ⟨rfl, ?_⟩⟩
    have hr := vB_ok' hv
    have e : (memN r)[i] = atOf (rowOf r) (i : Int) := rowL_get h
    rw [e]
    refine sHas_b hv _ ((memb_place hr _).1 ⟨i, ?_, rfl⟩)
    have := cN_int hv
    rw [memN_len] at h
    omega
  · have M := sMembers_d r
    have hn' := cN_int hv
    unfold membersRes at M
    rw [if_pos hv, if_neg (by omega)] at M
    exact ⟨[], 2, by simp, M, fun i h => by simp at h⟩
/-- Shift, and each index of what it makes -/
theorem stage3 (a : List Rg) (ys : List Int) : ∃ (s : List Rg) (e : Int), DC Try.prog 31 [domD a, rowI ys] (.tup [domD s, iD e]) ∧ (e = 0 → ys.length = a.length ∧ ∃ mv : List (List Int), DC Try.prog 25 [domD s] (.tup [rowL2 mv, iD 0]) ∧ mv.length = (idxs a).length ∧
    ∀ i (h1 : i < mv.length) (h2 : i < (idxs a).length), mv[i].length = ys.length ∧ (idxs a)[i].length = ys.length ∧ ∀ k (k1 : k < mv[i].length) (k2 : k < (idxs a)[i].length) (k3 : k < ys.length), mv[i][k] = (idxs a)[i][k] + ys[k] ∧ -1000000 ≤ (idxs a)[i][k] ∧ (idxs a)[i][k] ≤ 1000000 ∧ -1000000 ≤ ys[k] ∧ ys[k] ≤ 1000000) := by
  refine ⟨_, _, dShift_d a ys, fun he => ?_⟩
  obtain ⟨hd, hl, s, e1, e2, e3, e4⟩ := shift_list he
  rw [e1]
  have I := indexes_ok e2
  rw [e3] at I
  refine ⟨hl, _, I, by simp, fun i h1 h2 => ?_⟩
  have hx : (idxs a)[i] ∈ idxs a := List.getElem_mem h2
  have hxl : (idxs a)[i].length = a.length := idxs_each hx
  have hb := at_bound hd hx
  simp only [List.getElem_map]
  refine ⟨by simp [hxl, hl], by rw [hxl, hl], fun k k1 k2 k3 => ⟨by simp, (hb k k2).1, (hb k k2).2, e4 _ (List.getElem_mem k3)⟩⟩
/-- Meet, in order -/
theorem stage4 (a b : List Rg) : ∃ (m : List Rg) (e : Int), DC Try.prog 32 [domD a, domD b] (.tup [domD m, iD e]) ∧ (e = 0 → DC Try.prog 25 [domD m] (.tup [rowL2 ((idxs a).filter (inB b)), iD 0]) ∧ ∀ x ∈ idxs a, DC Try.prog 33 [domD b, rowI x] (.tup [bD (inB b x), iD 0])) := by
  by_cases h : twoRes a b = 0
  case neg => exact ⟨[], _, dMeet_e a b h, fun e => absurd e h⟩
  obtain ⟨ha, hb, hl⟩ := twoRes_0.1 h
  obtain ⟨L, hL⟩ := meetL_ex a b hl
  refine ⟨_, _, dMeet_0 a b h hL, fun he => ?_⟩
  obtain ⟨m, m1, m2, m3⟩ := meet_list h hL he
  rw [m1]
  have I := indexes_ok m2
  rw [m3] at I
  refine ⟨I, fun x hx => ?_⟩
  have H := dHas_d b x
  rwa [show dHasRes b x = (inB b x, 0) by
    unfold dHasRes
    rw [if_pos hb, if_pos (by rw [idxs_each hx, hl])]] at H
set_option maxHeartbeats 16000000 in
theorem law_d (a b : List Rg) (ys : List Int) : DC Try.prog 3 [domD a, domD b, rowI ys] (bD true) := by
  obtain ⟨b1, F1⟩ := few_d a
  obtain ⟨b2, F2⟩ := few_d b
  cases b1
  case false =>
    refine DC.of Try.func3 Try.ntmps3 Try.results3 rfl (by decide +kernel) rfl ?_
    repeat (first | refine Z1 ?_ | refine Z2 ?_ | (refine Z3 ?_; (repeat (first | (apply gS; first | refine go_no ?_ | refine go_f ?_ | refine gx ?_ | refine gm ?_ | refine gp ?_ | refine go_c rfl rfl (F1) ?_ | refine go_cF rfl rfl (F1) ?_ | refine go_cA rfl rfl (F1) ?_ | refine go_c rfl rfl (F2) ?_ | refine go_cF rfl rfl (F2) ?_ | refine go_cA rfl rfl (F2) ?_ | refine go_c rfl rfl (first_d) ?_ | refine go_cF rfl rfl (first_d) ?_ | refine go_cA rfl rfl (first_d) ?_) | (apply gZ; first | refine go_f ?_ | refine gx ?_ | refine gm ?_))); refine T_nil ?_) | (apply ZR; (try dsimp only [List.map_cons, List.map_nil]); refine C_dr mixed ?_; (repeat (first | (apply vS; first | refine vn ?_ | refine va ?_ | refine vp ?_ | refine vr ?_ | refine vt ?_ | refine vc (F1) ?_ | refine vcF (F1) ?_ | refine vc (F2) ?_ | refine vcF (F2) ?_ | refine vc (first_d) ?_ | refine vcF (first_d) ?_) | (apply vZ; first | refine vs ?_ | refine vw ?_))); refine W_e ?_) | (apply ZK; first | refine Z4 ?_ | refine Z5 ?_) | refine Z6 ?_ | refine Z7 ?_ | refine Z8 ?_ | refine Z9 ?_ | refine ZA ?_ | refine ZB ?_ | refine ZC ?_ | refine ZD ?_ | refine ZE ?_ | refine ZF ?_ | refine ZG ?_ | refine ZH ?_)
    repeat (first | refine kEnd_m ?_ | refine kEnd_f ?_)
    refine kEnd_g ?_ (by first | exact .inl rfl | exact .inr rfl)
    exact Sub.eq rfl rfl
  cases b2
  case false =>
    refine DC.of Try.func3 Try.ntmps3 Try.results3 rfl (by decide +kernel) rfl ?_
    repeat (first | refine Z1 ?_ | refine Z2 ?_ | (refine Z3 ?_; (repeat (first | (apply gS; first | refine go_no ?_ | refine go_f ?_ | refine gx ?_ | refine gm ?_ | refine gp ?_ | refine go_c rfl rfl (F1) ?_ | refine go_cF rfl rfl (F1) ?_ | refine go_cA rfl rfl (F1) ?_ | refine go_c rfl rfl (F2) ?_ | refine go_cF rfl rfl (F2) ?_ | refine go_cA rfl rfl (F2) ?_ | refine go_c rfl rfl (first_d) ?_ | refine go_cF rfl rfl (first_d) ?_ | refine go_cA rfl rfl (first_d) ?_) | (apply gZ; first | refine go_f ?_ | refine gx ?_ | refine gm ?_))); refine T_nil ?_) | (apply ZR; (try dsimp only [List.map_cons, List.map_nil]); refine C_dr mixed ?_; (repeat (first | (apply vS; first | refine vn ?_ | refine va ?_ | refine vp ?_ | refine vr ?_ | refine vt ?_ | refine vc (F1) ?_ | refine vcF (F1) ?_ | refine vc (F2) ?_ | refine vcF (F2) ?_ | refine vc (first_d) ?_ | refine vcF (first_d) ?_) | (apply vZ; first | refine vs ?_ | refine vw ?_))); refine W_e ?_) | (apply ZK; first | refine Z4 ?_ | refine Z5 ?_) | refine Z6 ?_ | refine Z7 ?_ | refine Z8 ?_ | refine Z9 ?_ | refine ZA ?_ | refine ZB ?_ | refine ZC ?_ | refine ZD ?_ | refine ZE ?_ | refine ZF ?_ | refine ZG ?_ | refine ZH ?_)
    repeat (first | refine kEnd_m ?_ | refine kEnd_f ?_)
    refine kEnd_g ?_ (by first | exact .inl rfl | exact .inr rfl)
    exact Sub.eq rfl rfl
  by_cases hy : 20 < ys.length
  · refine DC.of Try.func3 Try.ntmps3 Try.results3 rfl (by decide +kernel) rfl ?_
    repeat (first | refine Z1 ?_ | refine Z2 ?_ | (refine Z3 ?_; (repeat (first | (apply gS; first | refine go_no ?_ | refine go_f ?_ | refine gx ?_ | refine gm ?_ | refine gp ?_ | refine go_c rfl rfl (F1) ?_ | refine go_cF rfl rfl (F1) ?_ | refine go_cA rfl rfl (F1) ?_ | refine go_c rfl rfl (F2) ?_ | refine go_cF rfl rfl (F2) ?_ | refine go_cA rfl rfl (F2) ?_ | refine go_c rfl rfl (first_d) ?_ | refine go_cF rfl rfl (first_d) ?_ | refine go_cA rfl rfl (first_d) ?_) | (apply gZ; first | refine go_f ?_ | refine gx ?_ | refine gm ?_))); refine T_nil ?_) | (apply ZR; (try dsimp only [List.map_cons, List.map_nil]); refine C_dr mixed ?_; (repeat (first | (apply vS; first | refine vn ?_ | refine va ?_ | refine vp ?_ | refine vr ?_ | refine vt ?_ | refine vc (F1) ?_ | refine vcF (F1) ?_ | refine vc (F2) ?_ | refine vcF (F2) ?_ | refine vc (first_d) ?_ | refine vcF (first_d) ?_) | (apply vZ; first | refine vs ?_ | refine vw ?_))); refine W_e ?_) | (apply ZK; first | refine Z4 ?_ | refine Z5 ?_) | refine Z6 ?_ | refine Z7 ?_ | refine Z8 ?_ | refine Z9 ?_ | refine ZA ?_ | refine ZB ?_ | refine ZC ?_ | refine ZD ?_ | refine ZE ?_ | refine ZF ?_ | refine ZG ?_ | refine ZH ?_)
    repeat (first | refine kEnd_m ?_ | refine kEnd_f ?_)
    refine kEnd_g ?_ (by first | exact .inl rfl | exact .inr rfl)
    exact Sub.eq rfl rfl
  have IX := dIndexes_d a
  cases hd : domB a
  case false =>
    rw [show dIndexesRes a = ([], 40) from if_neg (by rw [hd]; decide)] at IX
    refine DC.of Try.func3 Try.ntmps3 Try.results3 rfl (by decide +kernel) rfl ?_
    repeat (first | refine Z1 ?_ | refine Z2 ?_ | (refine Z3 ?_; (repeat (first | (apply gS; first | refine go_no ?_ | refine go_f ?_ | refine gx ?_ | refine gm ?_ | refine gp ?_ | refine go_c rfl rfl (F1) ?_ | refine go_cF rfl rfl (F1) ?_ | refine go_cA rfl rfl (F1) ?_ | refine go_c rfl rfl (F2) ?_ | refine go_cF rfl rfl (F2) ?_ | refine go_cA rfl rfl (F2) ?_ | refine go_c rfl rfl (IX) ?_ | refine go_cF rfl rfl (IX) ?_ | refine go_cA rfl rfl (IX) ?_ | refine go_c rfl rfl (first_d) ?_ | refine go_cF rfl rfl (first_d) ?_ | refine go_cA rfl rfl (first_d) ?_) | (apply gZ; first | refine go_f ?_ | refine gx ?_ | refine gm ?_))); refine T_nil ?_) | (apply ZR; (try dsimp only [List.map_cons, List.map_nil]); refine C_dr mixed ?_; (repeat (first | (apply vS; first | refine vn ?_ | refine va ?_ | refine vp ?_ | refine vr ?_ | refine vt ?_ | refine vc (F1) ?_ | refine vcF (F1) ?_ | refine vc (F2) ?_ | refine vcF (F2) ?_ | refine vc (IX) ?_ | refine vcF (IX) ?_ | refine vc (first_d) ?_ | refine vcF (first_d) ?_) | (apply vZ; first | refine vs ?_ | refine vw ?_))); refine W_e ?_) | (apply ZK; first | refine Z4 ?_ | refine Z5 ?_) | refine Z6 ?_ | refine Z7 ?_ | refine Z8 ?_ | refine Z9 ?_ | refine ZA ?_ | refine ZB ?_ | refine ZC ?_ | refine ZD ?_ | refine ZE ?_ | refine ZF ?_ | refine ZG ?_ | refine ZH ?_)
    repeat (first | refine kEnd_m ?_ | refine kEnd_f ?_)
    refine kEnd_g ?_ (by first | exact .inl rfl | exact .inr rfl)
    exact Sub.eq rfl rfl
  rw [show dIndexesRes a = (idxs a, 0) from if_pos hd] at IX
  dsimp only at IX
  obtain ⟨⟨hl1, hl3⟩, hv, hp⟩ := domB_iff.1 hd
  have hlen : (idxs a).length = prodN (cl a) := idxs_len a
  have K1 : ∀ i (h : i < (idxs a).length), DC Try.prog 26 [domD a, rowI (idxs a)[i]] (.tup [iD i, iD 0]) ∧ DC Try.prog 27 [domD a, iD i] (.tup [rowI (idxs a)[i], iD 0]) ∧ DC Try.prog 28 [rowI (idxs a)[i], rowI (idxs a)[i]] (bD true) := fun i h => by
    have hi : i < prodN (cl a) := by rw [← hlen]; exact h
    have e : (idxs a)[i] = ithX a i := by
      have := idxs_get a i hi
      rw [List.getElem?_eq_getElem h] at this
      exact Option.some.inj this
    rw [e]
    obtain ⟨q1, q2⟩ := ithX_in hv hi
    have P := dPlace_d a (ithX a i)
    have hpv : placeV a (ithX a i) 0 = i := by rw [q2 0, Nat.zero_mul, Nat.zero_add]
    rw [show dPlaceRes a (ithX a i) = (((i : Nat) : Int), 0) by
      unfold dPlaceRes
      rw [if_pos hd, if_pos (ithX_len a i), if_pos q1, hpv]] at P
    have S := sameInts_d (ithX a i) (ithX a i) (by rw [ithX_len]; omega)
    rw [decide_eq_true rfl] at S
    exact ⟨P, dIth_ok hd hi, S⟩
  have K2 := fun k (h : k < a.length) => stage2 (hv _ (List.getElem_mem h))
  obtain ⟨s, e3, SH, K3⟩ := stage3 a ys
  obtain ⟨m, e4, MT, K4⟩ := stage4 a b
  have hN : (idxs a).length ≤ 4096 := by omega
  have hB : ((idxs a).filter (inB b)).length ≤ (idxs a).length := List.length_filter_le _ _
  have hS4 : ∀ i (h : i < (idxs a).length), ((idxs a).take (i + 1)).filter (inB b) = ((idxs a).take i).filter (inB b) ++ (if inB b (idxs a)[i] = true then [(idxs a)[i]] else []) := fun i h => by
    rw [List.take_succ_eq_append_getElem h, List.filter_append]
    cases hq : inB b (idxs a)[i] <;> simp [hq]
  have hP4 : ∀ i, ∃ t, (idxs a).filter (inB b) = ((idxs a).take i).filter (inB b) ++ t := fun i => ⟨((idxs a).drop i).filter (inB b), by rw [← List.filter_append, List.take_append_drop]⟩
  have hE4 : ((idxs a).take (idxs a).length).filter (inB b) = (idxs a).filter (inB b) := by rw [List.take_length]
  have hZ4 : ((idxs a).take 0).filter (inB b) = [] := rfl
  have K4' : e4 = 0 → DC Try.prog 25 [domD m] (.tup [rowL2 ((idxs a).filter (inB b)), iD 0]) ∧ ∀ i (h : i < (idxs a).length), DC Try.prog 33 [domD b, rowI (idxs a)[i]] (.tup [bD (inB b (idxs a)[i]), iD 0]) := fun h => ⟨(K4 h).1, fun i hi => (K4 h).2 _ (List.getElem_mem hi)⟩
  have hlx : ∀ i (h : i < (idxs a).length), (idxs a)[i].length ≤ 9223372036854775806 := fun i h => by rw [idxs_each (List.getElem_mem h)]; omega
  clear K4 hlen hp hv
  generalize idxs a = l at *
  obtain ⟨B, hBl⟩ : ∃ B : List (List Int), B = l.filter (inB b) := ⟨_, rfl⟩
  obtain ⟨T, hT⟩ : ∃ T : Nat → List (List Int), ∀ i, T i = (l.take i).filter (inB b) := ⟨_, fun _ => rfl⟩
  simp only [← hT, ← hBl] at hS4 hP4 hE4 hZ4 hB K4'
  have hTle : ∀ i, (T i).length ≤ B.length := fun i => by obtain ⟨t, ht⟩ := hP4 i; rw [ht, List.length_append]; omega
  have hTget : ∀ i (h : i < l.length), inB b l[i] = true → ∃ h2 : (T i).length < B.length, B[(T i).length] = l[i] := fun i h hin => by
    have e := hS4 i h
    rw [if_pos hin] at e
    obtain ⟨t, ht⟩ := hP4 (i + 1)
    rw [e, List.append_assoc] at ht
    have hlt : (T i).length < B.length := by rw [ht]; simp
    have hg : B[(T i).length]? = some l[i] := by rw [ht]; simp
    exact ⟨hlt, (List.getElem?_eq_some_iff.1 hg).2⟩
  clear hT hBl hP4
  refine DC.of Try.func3 Try.ntmps3 Try.results3 rfl (by decide +kernel) rfl ?_
  repeat (first | refine Z1 ?_ | refine Z2 ?_ | (refine Z3 ?_; (repeat (first | (apply gS; first | refine go_no ?_ | refine go_f ?_ | refine gx ?_ | refine gm ?_ | refine gp ?_ | refine go_c rfl rfl (F1) ?_ | refine go_cF rfl rfl (F1) ?_ | refine go_cA rfl rfl (F1) ?_ | refine go_c rfl rfl (F2) ?_ | refine go_cF rfl rfl (F2) ?_ | refine go_cA rfl rfl (F2) ?_ | refine go_c rfl rfl (IX) ?_ | refine go_cF rfl rfl (IX) ?_ | refine go_cA rfl rfl (IX) ?_ | refine go_c rfl rfl (first_d) ?_ | refine go_cF rfl rfl (first_d) ?_ | refine go_cA rfl rfl (first_d) ?_) | (apply gZ; first | refine go_f ?_ | refine gx ?_ | refine gm ?_))); refine T_nil ?_) | (apply ZR; (try dsimp only [List.map_cons, List.map_nil]); refine C_dr mixed ?_; (repeat (first | (apply vS; first | refine vn ?_ | refine va ?_ | refine vp ?_ | refine vr ?_ | refine vt ?_ | refine vc (F1) ?_ | refine vcF (F1) ?_ | refine vc (F2) ?_ | refine vcF (F2) ?_ | refine vc (IX) ?_ | refine vcF (IX) ?_ | refine vc (first_d) ?_ | refine vcF (first_d) ?_) | (apply vZ; first | refine vs ?_ | refine vw ?_))); refine W_e ?_) | (apply ZK; first | refine Z4 ?_ | refine Z5 ?_) | refine Z6 ?_ | refine Z7 ?_ | refine Z8 ?_ | refine Z9 ?_ | refine ZA ?_ | refine ZB ?_ | refine ZC ?_ | refine ZD ?_ | refine ZE ?_ | refine ZF ?_ | refine ZG ?_ | refine ZH ?_)
  refine C_count l.length (fun _ => True) (fun i => ⟨2, 263, [(9, iD i), (7, rowL2 l), (2, rowI ys), (3, .ptr 0 0), (4, .ptr 1 0)], [(0, some ⟨24, 1, 1, [rowR a]⟩), (1, some ⟨24, 1, 1, [rowR b]⟩)]⟩) ?_ trivial ?_
  · exact Wk.gx (fun b => b)
  · intro i hi _
    by_cases hil : i < l.length
    · obtain ⟨c1, c2, c3⟩ := K1 i hil
      clear K1 K2 K3 K4' hS4 hTle hTget SH MT
      repeat (first | refine Z1 ?_ | refine Z2 ?_ | (refine Z3 ?_; (repeat (first | (apply gS; first | refine go_no ?_ | refine go_f ?_ | refine gx ?_ | refine gm ?_ | refine gp ?_ | refine go_c rfl rfl (c1) ?_ | refine go_cF rfl rfl (c1) ?_ | refine go_cA rfl rfl (c1) ?_ | refine go_c rfl rfl (c2) ?_ | refine go_cF rfl rfl (c2) ?_ | refine go_cA rfl rfl (c2) ?_ | refine go_c rfl rfl (c3) ?_ | refine go_cF rfl rfl (c3) ?_ | refine go_cA rfl rfl (c3) ?_) | (apply gZ; first | refine go_f ?_ | refine gx ?_ | refine gm ?_))); refine T_nil ?_) | (apply ZR; (try dsimp only [List.map_cons, List.map_nil]); refine C_dr mixed ?_; (repeat (first | (apply vS; first | refine vn ?_ | refine va ?_ | refine vp ?_ | refine vr ?_ | refine vt ?_ | refine vc (c1) ?_ | refine vcF (c1) ?_ | refine vc (c2) ?_ | refine vcF (c2) ?_ | refine vc (c3) ?_ | refine vcF (c3) ?_) | (apply vZ; first | refine vs ?_ | refine vw ?_))); refine W_e ?_) | (apply ZK; first | refine Z4 ?_ | refine Z5 ?_) | refine Z6 ?_ | refine Z7 ?_ | refine Z8 ?_ | refine Z9 ?_ | refine ZA ?_ | refine ZB ?_ | refine ZC ?_ | refine ZD ?_ | refine ZE ?_ | refine ZF ?_ | refine ZG ?_ | refine ZH ?_)
      refine kLoop_n ⟨hil, trivial, ?_⟩
      exact Wk.gx (fun b => b)
    · obtain rfl : i = l.length := by omega
      clear K1
      repeat (first | refine Z1 ?_ | refine Z2 ?_ | (refine Z3 ?_; (repeat (first | (apply gS; first | refine go_no ?_ | refine go_f ?_ | refine gx ?_ | refine gm ?_ | refine gp ?_) | (apply gZ; first | refine go_f ?_ | refine gx ?_ | refine gm ?_))); refine T_nil ?_) | (apply ZR; (try dsimp only [List.map_cons, List.map_nil]); refine C_dr mixed ?_; (repeat (first | (apply vS; first | refine vn ?_ | refine va ?_ | refine vp ?_ | refine vr ?_ | refine vt ?_) | (apply vZ; first | refine vs ?_ | refine vw ?_))); refine W_e ?_) | (apply ZK; first | refine Z4 ?_ | refine Z5 ?_) | refine Z6 ?_ | refine Z7 ?_ | refine Z8 ?_ | refine Z9 ?_ | refine ZA ?_ | refine ZB ?_ | refine ZC ?_ | refine ZD ?_ | refine ZE ?_ | refine ZF ?_ | refine ZG ?_ | refine ZH ?_)
      refine C_count a.length (fun _ => True) (fun k => ⟨2, 263, [(14, iD k), (7, rowL2 l), (2, rowI ys), (3, .ptr 0 0), (4, .ptr 1 0)], [(0, some ⟨24, 1, 1, [rowR a]⟩), (1, some ⟨24, 1, 1, [rowR b]⟩)]⟩) ?_ trivial ?_
      · exact Wk.gx (fun b => b)
      · intro k hk _
        by_cases hkl : k < a.length
        · obtain ⟨mm, e, m1, m2, m3⟩ := K2 k hkl
          clear K2 K3 K4' hS4 hTle hTget SH MT
          repeat (first | refine Z1 ?_ | refine Z2 ?_ | (refine Z3 ?_; (repeat (first | (apply gS; first | refine go_no ?_ | refine go_f ?_ | refine gx ?_ | refine gm ?_ | refine gp ?_ | refine go_c rfl rfl (m2) ?_ | refine go_cF rfl rfl (m2) ?_ | refine go_cA rfl rfl (m2) ?_) | (apply gZ; first | refine go_f ?_ | refine gx ?_ | refine gm ?_))); refine T_nil ?_) | (apply ZR; (try dsimp only [List.map_cons, List.map_nil]); refine C_dr mixed ?_; (repeat (first | (apply vS; first | refine vn ?_ | refine va ?_ | refine vp ?_ | refine vr ?_ | refine vt ?_ | refine vc (m2) ?_ | refine vcF (m2) ?_) | (apply vZ; first | refine vs ?_ | refine vw ?_))); refine W_e ?_) | (apply ZK; first | refine Z4 ?_ | refine Z5 ?_) | refine Z6 ?_ | refine Z7 ?_ | refine Z8 ?_ | refine Z9 ?_ | refine ZA ?_ | refine ZB ?_ | refine ZC ?_ | refine ZD ?_ | refine ZE ?_ | refine ZF ?_ | refine ZG ?_ | refine ZH ?_)
          refine C_count mm.length (fun _ => True) (fun i => ⟨2, 263, [(17, iD i), (16, iD e), (15, rowI mm), (14, iD k), (7, rowL2 l), (2, rowI ys), (3, .ptr 0 0), (4, .ptr 1 0)], [(0, some ⟨24, 1, 1, [rowR a]⟩), (1, some ⟨24, 1, 1, [rowR b]⟩)]⟩) ?_ trivial ?_
          · exact Wk.gx (fun b => b)
          · intro i hi _
            by_cases hil : i < mm.length
            · obtain ⟨c1, c2⟩ := m3 i hil
              subst c1
              clear m3
              repeat (first | refine Z1 ?_ | refine Z2 ?_ | (refine Z3 ?_; (repeat (first | (apply gS; first | refine go_no ?_ | refine go_f ?_ | refine gx ?_ | refine gm ?_ | refine gp ?_ | refine go_c rfl rfl (c2) ?_ | refine go_cF rfl rfl (c2) ?_ | refine go_cA rfl rfl (c2) ?_) | (apply gZ; first | refine go_f ?_ | refine gx ?_ | refine gm ?_))); refine T_nil ?_) | (apply ZR; (try dsimp only [List.map_cons, List.map_nil]); refine C_dr mixed ?_; (repeat (first | (apply vS; first | refine vn ?_ | refine va ?_ | refine vp ?_ | refine vr ?_ | refine vt ?_ | refine vc (c2) ?_ | refine vcF (c2) ?_) | (apply vZ; first | refine vs ?_ | refine vw ?_))); refine W_e ?_) | (apply ZK; first | refine Z4 ?_ | refine Z5 ?_) | refine Z6 ?_ | refine Z7 ?_ | refine Z8 ?_ | refine Z9 ?_ | refine ZA ?_ | refine ZB ?_ | refine ZC ?_ | refine ZD ?_ | refine ZE ?_ | refine ZF ?_ | refine ZG ?_ | refine ZH ?_)
              refine kLoop_n ⟨hil, trivial, ?_⟩
              exact Wk.gx (fun b => b)
            · obtain rfl : i = mm.length := by omega
              clear m3
              by_cases he : e = 0
              · subst he
                repeat (first | refine Z1 ?_ | refine Z2 ?_ | (refine Z3 ?_; (repeat (first | (apply gS; first | refine go_no ?_ | refine go_f ?_ | refine gx ?_ | refine gm ?_ | refine gp ?_) | (apply gZ; first | refine go_f ?_ | refine gx ?_ | refine gm ?_))); refine T_nil ?_) | (apply ZR; (try dsimp only [List.map_cons, List.map_nil]); refine C_dr mixed ?_; (repeat (first | (apply vS; first | refine vn ?_ | refine va ?_ | refine vp ?_ | refine vr ?_ | refine vt ?_) | (apply vZ; first | refine vs ?_ | refine vw ?_))); refine W_e ?_) | (apply ZK; first | refine Z4 ?_ | refine Z5 ?_) | refine Z6 ?_ | refine Z7 ?_ | refine Z8 ?_ | refine Z9 ?_ | refine ZA ?_ | refine ZB ?_ | refine ZC ?_ | refine ZD ?_ | refine ZE ?_ | refine ZF ?_ | refine ZG ?_ | refine ZH ?_)
                refine kLoop_n ⟨hkl, trivial, ?_⟩
                exact Wk.gx (fun b => b)
              · repeat (first | refine Z1 ?_ | refine Z2 ?_ | (refine Z3 ?_; (repeat (first | (apply gS; first | refine go_no ?_ | refine go_f ?_ | refine gx ?_ | refine gm ?_ | refine gp ?_) | (apply gZ; first | refine go_f ?_ | refine gx ?_ | refine gm ?_))); refine T_nil ?_) | (apply ZR; (try dsimp only [List.map_cons, List.map_nil]); refine C_dr mixed ?_; (repeat (first | (apply vS; first | refine vn ?_ | refine va ?_ | refine vp ?_ | refine vr ?_ | refine vt ?_) | (apply vZ; first | refine vs ?_ | refine vw ?_))); refine W_e ?_) | (apply ZK; first | refine Z4 ?_ | refine Z5 ?_) | refine Z6 ?_ | refine Z7 ?_ | refine Z8 ?_ | refine Z9 ?_ | refine ZA ?_ | refine ZB ?_ | refine ZC ?_ | refine ZD ?_ | refine ZE ?_ | refine ZF ?_ | refine ZG ?_ | refine ZH ?_)
                refine kLoop_n ⟨hkl, trivial, ?_⟩
                exact Wk.gx (fun b => b)
        · obtain rfl : k = a.length := by omega
          clear K2
          repeat (first | refine Z1 ?_ | refine Z2 ?_ | (refine Z3 ?_; (repeat (first | (apply gS; first | refine go_no ?_ | refine go_f ?_ | refine gx ?_ | refine gm ?_ | refine gp ?_ | refine go_c rfl rfl (SH) ?_ | refine go_cF rfl rfl (SH) ?_ | refine go_cA rfl rfl (SH) ?_) | (apply gZ; first | refine go_f ?_ | refine gx ?_ | refine gm ?_))); refine T_nil ?_) | (apply ZR; (try dsimp only [List.map_cons, List.map_nil]); refine C_dr mixed ?_; (repeat (first | (apply vS; first | refine vn ?_ | refine va ?_ | refine vp ?_ | refine vr ?_ | refine vt ?_ | refine vc (SH) ?_ | refine vcF (SH) ?_) | (apply vZ; first | refine vs ?_ | refine vw ?_))); refine W_e ?_) | (apply ZK; first | refine Z4 ?_ | refine Z5 ?_) | refine Z6 ?_ | refine Z7 ?_ | refine Z8 ?_ | refine Z9 ?_ | refine ZA ?_ | refine ZB ?_ | refine ZC ?_ | refine ZD ?_ | refine ZE ?_ | refine ZF ?_ | refine ZG ?_ | refine ZH ?_)
          refine C_cut ⟨2, 263, [(7, rowL2 l), (3, .ptr 0 0), (4, .ptr 1 0)], [(0, some ⟨24, 1, 1, [rowR a]⟩), (1, some ⟨24, 1, 1, [rowR b]⟩)]⟩ ?_ ?_
          · by_cases h3 : e3 = 0
            · obtain ⟨t1, mv, t2, t3, t4⟩ := K3 h3
              clear K3 K4' hS4 hTle hTget MT
              rw [decide_eq_true h3]
              have t1' : (ys.length : Int) = a.length := by omega
              repeat (first | refine Z1 ?_ | refine Z2 ?_ | (refine Z3 ?_; (repeat (first | (apply gS; first | refine go_no ?_ | refine go_f ?_ | refine gx ?_ | refine gm ?_ | refine gp ?_ | refine go_c rfl rfl (t2) ?_ | refine go_cF rfl rfl (t2) ?_ | refine go_cA rfl rfl (t2) ?_) | (apply gZ; first | refine go_f ?_ | refine gx ?_ | refine gm ?_))); refine T_nil ?_) | (apply ZR; (try dsimp only [List.map_cons, List.map_nil]); refine C_dr mixed ?_; (repeat (first | (apply vS; first | refine vn ?_ | refine va ?_ | refine vp ?_ | refine vr ?_ | refine vt ?_ | refine vc (t2) ?_ | refine vcF (t2) ?_) | (apply vZ; first | refine vs ?_ | refine vw ?_))); refine W_e ?_) | (apply ZK; first | refine Z4 ?_ | refine Z5 ?_) | refine Z6 ?_ | refine Z7 ?_ | refine Z8 ?_ | refine Z9 ?_ | refine ZA ?_ | refine ZB ?_ | refine ZC ?_ | refine ZD ?_ | refine ZE ?_ | refine ZF ?_ | refine ZG ?_ | refine ZH ?_)
              refine C_count l.length (fun _ => True) (fun i => ⟨3, 263, [(24, iD i), (22, rowL2 mv), (7, rowL2 l), (2, rowI ys), (3, .ptr 0 0), (4, .ptr 1 0)], [(0, some ⟨24, 1, 1, [rowR a]⟩), (1, some ⟨24, 1, 1, [rowR b]⟩)]⟩) ?_ trivial ?_
              · exact Wk.gx (fun b => b)
              · intro i hi _
                by_cases hil : i < l.length
                · have hil2 : i < mv.length := by omega
                  obtain ⟨u1, u2, u3⟩ := t4 i hil2 hil
                  clear t4
                  repeat (first | refine Z1 ?_ | refine Z2 ?_ | (refine Z3 ?_; (repeat (first | (apply gS; first | refine go_no ?_ | refine go_f ?_ | refine gx ?_ | refine gm ?_ | refine gp ?_) | (apply gZ; first | refine go_f ?_ | refine gx ?_ | refine gm ?_))); refine T_nil ?_) | (apply ZR; (try dsimp only [List.map_cons, List.map_nil]); refine C_dr mixed ?_; (repeat (first | (apply vS; first | refine vn ?_ | refine va ?_ | refine vp ?_ | refine vr ?_ | refine vt ?_) | (apply vZ; first | refine vs ?_ | refine vw ?_))); refine W_e ?_) | (apply ZK; first | refine Z4 ?_ | refine Z5 ?_) | refine Z6 ?_ | refine Z7 ?_ | refine Z8 ?_ | refine Z9 ?_ | refine ZA ?_ | refine ZB ?_ | refine ZC ?_ | refine ZD ?_ | refine ZE ?_ | refine ZF ?_ | refine ZG ?_ | refine ZH ?_)
                  refine C_count ys.length (fun _ => True) (fun k => ⟨3, 263, [(25, iD k), (24, iD i), (22, rowL2 mv), (7, rowL2 l), (2, rowI ys), (3, .ptr 0 0), (4, .ptr 1 0)], [(0, some ⟨24, 1, 1, [rowR a]⟩), (1, some ⟨24, 1, 1, [rowR b]⟩)]⟩) ?_ trivial ?_
                  · exact Wk.gx (fun b => b)
                  · intro k hk _
                    by_cases hky : k < ys.length
                    · obtain ⟨v1, v2, v3, v4, v5⟩ := u3 k (by omega) (by omega) hky
                      have w1 : k < mv[i].length := by omega
                      have w2 : k < l[i].length := by omega
                      clear u3
                      repeat (first | refine Z1 ?_ | refine Z2 ?_ | (refine Z3 ?_; (repeat (first | (apply gS; first | refine go_no ?_ | refine go_f ?_ | refine gx ?_ | refine gm ?_ | refine gp ?_) | (apply gZ; first | refine go_f ?_ | refine gx ?_ | refine gm ?_))); refine T_nil ?_) | (apply ZR; (try dsimp only [List.map_cons, List.map_nil]); refine C_dr mixed ?_; (repeat (first | (apply vS; first | refine vn ?_ | refine va ?_ | refine vp ?_ | refine vr ?_ | refine vt ?_) | (apply vZ; first | refine vs ?_ | refine vw ?_))); refine W_e ?_) | (apply ZK; first | refine Z4 ?_ | refine Z5 ?_) | refine Z6 ?_ | refine Z7 ?_ | refine Z8 ?_ | refine Z9 ?_ | refine ZA ?_ | refine ZB ?_ | refine ZC ?_ | refine ZD ?_ | refine ZE ?_ | refine ZF ?_ | refine ZG ?_ | refine ZH ?_)
                      refine kLoop_n ⟨hky, trivial, ?_⟩
                      exact Wk.gx (fun b => b)
                    · obtain rfl : k = ys.length := by omega
                      clear u3
                      repeat (first | refine Z1 ?_ | refine Z2 ?_ | (refine Z3 ?_; (repeat (first | (apply gS; first | refine go_no ?_ | refine go_f ?_ | refine gx ?_ | refine gm ?_ | refine gp ?_) | (apply gZ; first | refine go_f ?_ | refine gx ?_ | refine gm ?_))); refine T_nil ?_) | (apply ZR; (try dsimp only [List.map_cons, List.map_nil]); refine C_dr mixed ?_; (repeat (first | (apply vS; first | refine vn ?_ | refine va ?_ | refine vp ?_ | refine vr ?_ | refine vt ?_) | (apply vZ; first | refine vs ?_ | refine vw ?_))); refine W_e ?_) | (apply ZK; first | refine Z4 ?_ | refine Z5 ?_) | refine Z6 ?_ | refine Z7 ?_ | refine Z8 ?_ | refine Z9 ?_ | refine ZA ?_ | refine ZB ?_ | refine ZC ?_ | refine ZD ?_ | refine ZE ?_ | refine ZF ?_ | refine ZG ?_ | refine ZH ?_)
                      refine kLoop_n ⟨hil, trivial, ?_⟩
                      exact Wk.gx (fun b => b)
                · obtain rfl : i = l.length := by omega
                  clear t4
                  repeat (first | refine Z1 ?_ | refine Z2 ?_ | (refine Z3 ?_; (repeat (first | (apply gS; first | refine go_no ?_ | refine go_f ?_ | refine gx ?_ | refine gm ?_ | refine gp ?_) | (apply gZ; first | refine go_f ?_ | refine gx ?_ | refine gm ?_))); refine T_nil ?_) | (apply ZR; (try dsimp only [List.map_cons, List.map_nil]); refine C_dr mixed ?_; (repeat (first | (apply vS; first | refine vn ?_ | refine va ?_ | refine vp ?_ | refine vr ?_ | refine vt ?_) | (apply vZ; first | refine vs ?_ | refine vw ?_))); refine W_e ?_) | (apply ZK; first | refine Z4 ?_ | refine Z5 ?_) | refine Z6 ?_ | refine Z7 ?_ | refine Z8 ?_ | refine Z9 ?_ | refine ZA ?_ | refine ZB ?_ | refine ZC ?_ | refine ZD ?_ | refine ZE ?_ | refine ZF ?_ | refine ZG ?_ | refine ZH ?_)
                  refine kCut_n ?_
                  exact Wk.gx (fun b => b)
            · rw [decide_eq_false h3]
              repeat (first | refine Z1 ?_ | refine Z2 ?_ | (refine Z3 ?_; (repeat (first | (apply gS; first | refine go_no ?_ | refine go_f ?_ | refine gx ?_ | refine gm ?_ | refine gp ?_) | (apply gZ; first | refine go_f ?_ | refine gx ?_ | refine gm ?_))); refine T_nil ?_) | (apply ZR; (try dsimp only [List.map_cons, List.map_nil]); refine C_dr mixed ?_; (repeat (first | (apply vS; first | refine vn ?_ | refine va ?_ | refine vp ?_ | refine vr ?_ | refine vt ?_) | (apply vZ; first | refine vs ?_ | refine vw ?_))); refine W_e ?_) | (apply ZK; first | refine Z4 ?_ | refine Z5 ?_) | refine Z6 ?_ | refine Z7 ?_ | refine Z8 ?_ | refine Z9 ?_ | refine ZA ?_ | refine ZB ?_ | refine ZC ?_ | refine ZD ?_ | refine ZE ?_ | refine ZF ?_ | refine ZG ?_ | refine ZH ?_)
              refine kCut_n ?_
              exact Wk.gx (fun b => b)
          clear SH K3
          by_cases h4 : e4 = 0
          case neg =>
            repeat (first | refine Z1 ?_ | refine Z2 ?_ | (refine Z3 ?_; (repeat (first | (apply gS; first | refine go_no ?_ | refine go_f ?_ | refine gx ?_ | refine gm ?_ | refine gp ?_ | refine go_c rfl rfl (MT) ?_ | refine go_cF rfl rfl (MT) ?_ | refine go_cA rfl rfl (MT) ?_ | refine go_c rfl rfl (first_d) ?_ | refine go_cF rfl rfl (first_d) ?_ | refine go_cA rfl rfl (first_d) ?_) | (apply gZ; first | refine go_f ?_ | refine gx ?_ | refine gm ?_))); refine T_nil ?_) | (apply ZR; (try dsimp only [List.map_cons, List.map_nil]); refine C_dr mixed ?_; (repeat (first | (apply vS; first | refine vn ?_ | refine va ?_ | refine vp ?_ | refine vr ?_ | refine vt ?_ | refine vc (MT) ?_ | refine vcF (MT) ?_ | refine vc (first_d) ?_ | refine vcF (first_d) ?_) | (apply vZ; first | refine vs ?_ | refine vw ?_))); refine W_e ?_) | (apply ZK; first | refine Z4 ?_ | refine Z5 ?_) | refine Z6 ?_ | refine Z7 ?_ | refine Z8 ?_ | refine Z9 ?_ | refine ZA ?_ | refine ZB ?_ | refine ZC ?_ | refine ZD ?_ | refine ZE ?_ | refine ZF ?_ | refine ZG ?_ | refine ZH ?_)
            repeat (first | refine kEnd_m ?_ | refine kEnd_f ?_)
            refine kEnd_g ?_ (by first | exact .inl rfl | exact .inr rfl)
            exact Sub.eq rfl rfl
          obtain ⟨I, H⟩ := K4' h4
          subst h4
          clear K4'
          repeat (first | refine Z1 ?_ | refine Z2 ?_ | (refine Z3 ?_; (repeat (first | (apply gS; first | refine go_no ?_ | refine go_f ?_ | refine gx ?_ | refine gm ?_ | refine gp ?_ | refine go_c rfl rfl (MT) ?_ | refine go_cF rfl rfl (MT) ?_ | refine go_cA rfl rfl (MT) ?_ | refine go_c rfl rfl (I) ?_ | refine go_cF rfl rfl (I) ?_ | refine go_cA rfl rfl (I) ?_) | (apply gZ; first | refine go_f ?_ | refine gx ?_ | refine gm ?_))); refine T_nil ?_) | (apply ZR; (try dsimp only [List.map_cons, List.map_nil]); refine C_dr mixed ?_; (repeat (first | (apply vS; first | refine vn ?_ | refine va ?_ | refine vp ?_ | refine vr ?_ | refine vt ?_ | refine vc (MT) ?_ | refine vcF (MT) ?_ | refine vc (I) ?_ | refine vcF (I) ?_) | (apply vZ; first | refine vs ?_ | refine vw ?_))); refine W_e ?_) | (apply ZK; first | refine Z4 ?_ | refine Z5 ?_) | refine Z6 ?_ | refine Z7 ?_ | refine Z8 ?_ | refine Z9 ?_ | refine ZA ?_ | refine ZB ?_ | refine ZC ?_ | refine ZD ?_ | refine ZE ?_ | refine ZF ?_ | refine ZG ?_ | refine ZH ?_)
          refine C_count l.length (fun _ => True) (fun i => ⟨3, 263, [(31, iD i), (30, iD (T i).length), (28, rowL2 B), (7, rowL2 l), (4, .ptr 1 0)], [(1, some ⟨24, 1, 1, [rowR b]⟩)]⟩) ?_ trivial ?_
          · rw [hZ4]
            exact Wk.gx (fun b => b)
          · intro i hi _
            have q1 := hTle i
            by_cases hil : i < l.length
            · have c1 := H i hil
              have c2 := hS4 i hil
              have c3 := hTget i hil
              clear H hS4 hTget hTle
              cases hq : inB b l[i]
              · rw [hq] at c1
                rw [if_neg (by rw [hq]; decide), List.append_nil] at c2
                clear c3
                repeat (first | refine Z1 ?_ | refine Z2 ?_ | (refine Z3 ?_; (repeat (first | (apply gS; first | refine go_no ?_ | refine go_f ?_ | refine gx ?_ | refine gm ?_ | refine gp ?_ | refine go_c rfl rfl (c1) ?_ | refine go_cF rfl rfl (c1) ?_ | refine go_cA rfl rfl (c1) ?_) | (apply gZ; first | refine go_f ?_ | refine gx ?_ | refine gm ?_))); refine T_nil ?_) | (apply ZR; (try dsimp only [List.map_cons, List.map_nil]); refine C_dr mixed ?_; (repeat (first | (apply vS; first | refine vn ?_ | refine va ?_ | refine vp ?_ | refine vr ?_ | refine vt ?_ | refine vc (c1) ?_ | refine vcF (c1) ?_) | (apply vZ; first | refine vs ?_ | refine vw ?_))); refine W_e ?_) | (apply ZK; first | refine Z4 ?_ | refine Z5 ?_) | refine Z6 ?_ | refine Z7 ?_ | refine Z8 ?_ | refine Z9 ?_ | refine ZA ?_ | refine ZB ?_ | refine ZC ?_ | refine ZD ?_ | refine ZE ?_ | refine ZF ?_ | refine ZG ?_ | refine ZH ?_)
                refine kLoop_n ⟨hil, trivial, ?_⟩
                rw [c2]
                exact Wk.gx (fun b => b)
              · rw [hq] at c1
                rw [if_pos hq] at c2
                obtain ⟨c4, c5⟩ := c3 hq
                have c6 : (T (i + 1)).length = (T i).length + 1 := by rw [c2]; simp
                have S := sameInts_d B[(T i).length] l[i] (by rw [c5]; exact hlx i hil)
                rw [decide_eq_true c5] at S
                clear c2 c3 c5
                repeat (first | refine Z1 ?_ | refine Z2 ?_ | (refine Z3 ?_; (repeat (first | (apply gS; first | refine go_no ?_ | refine go_f ?_ | refine gx ?_ | refine gm ?_ | refine gp ?_ | refine go_c rfl rfl (c1) ?_ | refine go_cF rfl rfl (c1) ?_ | refine go_cA rfl rfl (c1) ?_ | refine go_c rfl rfl (S) ?_ | refine go_cF rfl rfl (S) ?_ | refine go_cA rfl rfl (S) ?_) | (apply gZ; first | refine go_f ?_ | refine gx ?_ | refine gm ?_))); refine T_nil ?_) | (apply ZR; (try dsimp only [List.map_cons, List.map_nil]); refine C_dr mixed ?_; (repeat (first | (apply vS; first | refine vn ?_ | refine va ?_ | refine vp ?_ | refine vr ?_ | refine vt ?_ | refine vc (c1) ?_ | refine vcF (c1) ?_ | refine vc (S) ?_ | refine vcF (S) ?_) | (apply vZ; first | refine vs ?_ | refine vw ?_))); refine W_e ?_) | (apply ZK; first | refine Z4 ?_ | refine Z5 ?_) | refine Z6 ?_ | refine Z7 ?_ | refine Z8 ?_ | refine Z9 ?_ | refine ZA ?_ | refine ZB ?_ | refine ZC ?_ | refine ZD ?_ | refine ZE ?_ | refine ZF ?_ | refine ZG ?_ | refine ZH ?_)
                refine kLoop_n ⟨hil, trivial, ?_⟩
                exact Wk.gx (fun b => b)
            · obtain rfl : i = l.length := by omega
              rw [hE4]
              clear H hS4 hTget hTle
              repeat (first | refine Z1 ?_ | refine Z2 ?_ | (refine Z3 ?_; (repeat (first | (apply gS; first | refine go_no ?_ | refine go_f ?_ | refine gx ?_ | refine gm ?_ | refine gp ?_ | refine go_c rfl rfl (first_d) ?_ | refine go_cF rfl rfl (first_d) ?_ | refine go_cA rfl rfl (first_d) ?_) | (apply gZ; first | refine go_f ?_ | refine gx ?_ | refine gm ?_))); refine T_nil ?_) | (apply ZR; (try dsimp only [List.map_cons, List.map_nil]); refine C_dr mixed ?_; (repeat (first | (apply vS; first | refine vn ?_ | refine va ?_ | refine vp ?_ | refine vr ?_ | refine vt ?_ | refine vc (first_d) ?_ | refine vcF (first_d) ?_) | (apply vZ; first | refine vs ?_ | refine vw ?_))); refine W_e ?_) | (apply ZK; first | refine Z4 ?_ | refine Z5 ?_) | refine Z6 ?_ | refine Z7 ?_ | refine Z8 ?_ | refine Z9 ?_ | refine ZA ?_ | refine ZB ?_ | refine ZC ?_ | refine ZD ?_ | refine ZE ?_ | refine ZF ?_ | refine ZG ?_ | refine ZH ?_)
              repeat (first | refine kEnd_m ?_ | refine kEnd_f ?_)
              refine kEnd_g ?_ (by first | exact .inl rfl | exact .inr rfl)
              exact Sub.eq rfl rfl
theorem walk {w : World} (v : Value) (a : List Rg) (ac : RC (fun b => b < w.heap.size) w (domD a) v) (v2 : Value) (b : List Rg) (bc : RC (fun b => b < w.heap.size) w (domD b) v2) (z : Value) (x : List Int) (hx : IntsIn w z x) : Calls Try.prog 3 #[v, v2, z] w fun e w' => e = .returned (.bool true) ∧ Below w.heap.size w w' :=
  DC.law (law_d a b x) (.cons ac (.cons bc (.cons (RC.ints hx) .nil)))
end Go.Proofs.Ytifapodobhkdcaa.topSets
