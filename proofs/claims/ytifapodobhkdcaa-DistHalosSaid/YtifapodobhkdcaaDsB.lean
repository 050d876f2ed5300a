/- Moves of the reference; SameCounts, Same, by the abstract machine. -/
import Derived.Test.YtifapodobhkdcaaDsA
import Derived.Test.YtifapodobhkdcaaDsO
namespace Go.Proofs.Ytifapodobhkdcaa
open Go.RowKit
set_option linter.unusedVariables false
set_option maxHeartbeats 16000000
set_option linter.unusedSimpArgs false
set_option maxRecDepth 100000
theorem rMoves7_bad {s : ByteArray} {n o : Int} {rs : List Rg} {s' : ByteArray} {n' o' : Int} {es : List Rg} (h : mvE s n o rs s' n' o' es ≠ 0) : DC Try.prog 70 [dsD s n o, domD rs, dsD s' n' o', domD es] (.tup [.row 0 [], iD (mvE s n o rs s' n' o' es)]) := by
  have V := rValid7_d s n o
  have V2 := rValid7_d s' n' o'
  have D1 := rdValid_b rs (b := domB rs) rfl
  have D2 := rdValid_b es (b := domB es) rfl
  unfold mvE at h ⊢
  cases hv : vdB s n o
  · rw [hv] at V
    have e : errD s n o rs = 70 := by unfold errD; rw [if_neg (by rw [hv]; decide)]
    rw [e] at h ⊢
    rw [show (if vdB s' n' o' = true then (if (70 : Int) = 0 then (if errD s' n' o' es = 0 then (if rs.length = es.length then (0 : Int) else 2) else errD s' n' o' es) else 70) else 70) = 70 by simp]
    cases hv2 : vdB s' n' o'
    all_goals
      rw [hv2] at V2
      refine DC.of Try.func70 Try.ntmps70 Try.results70 rfl (by decide +kernel) rfl ?_
      repeat (first | refine Z1 ?_ | refine Z2 ?_ | (refine Z3 ?_; (repeat (first | (apply gS; first | refine go_no ?_ | refine go_f ?_ | refine gx ?_ | refine gm ?_ | refine gp ?_ | refine go_c rfl rfl (V) ?_ | refine go_cF rfl rfl (V) ?_ | refine go_cA rfl rfl (V) ?_ | refine go_c rfl rfl (V2) ?_ | refine go_cF rfl rfl (V2) ?_ | refine go_cA rfl rfl (V2) ?_) | (apply gZ; first | refine go_f ?_ | refine gx ?_ | refine gm ?_))); refine T_nil ?_) | (apply ZR; (try dsimp only [List.map_cons, List.map_nil]); refine C_dr mixed ?_; (repeat (first | (apply vS; first | refine vn ?_ | refine va ?_ | refine vp ?_ | refine vr ?_ | refine vt ?_ | refine vc (V) ?_ | refine vcF (V) ?_ | refine vc (V2) ?_ | refine vcF (V2) ?_) | (apply vZ; first | refine vs ?_ | refine vw ?_))); refine W_e ?_) | (apply ZK; first | refine Z4 ?_ | refine Z5 ?_) | refine Z6 ?_ | refine Z7 ?_ | refine Z8 ?_ | refine Z9 ?_ | refine ZA ?_ | refine ZB ?_ | refine ZC ?_ | refine ZD ?_ | refine ZE ?_ | refine ZF ?_ | refine ZG ?_ | refine ZH ?_)
      repeat (first | refine kEnd_m ?_ | refine kEnd_f ?_)
      refine kEnd_g ?_ (by first | exact .inl rfl | exact .inr rfl)
      exact Sub.tup (.cons Sub.nil (.cons (Sub.eq rfl rfl) .nil))
  rw [hv] at V
  cases hv2 : vdB s' n' o'
  · rw [hv2] at V2
    rw [if_neg (by decide)]
    refine DC.of Try.func70 Try.ntmps70 Try.results70 rfl (by decide +kernel) rfl ?_
    repeat (first | refine Z1 ?_ | refine Z2 ?_ | (refine Z3 ?_; (repeat (first | (apply gS; first | refine go_no ?_ | refine go_f ?_ | refine gx ?_ | refine gm ?_ | refine gp ?_ | refine go_c rfl rfl (V) ?_ | refine go_cF rfl rfl (V) ?_ | refine go_cA rfl rfl (V) ?_ | refine go_c rfl rfl (V2) ?_ | refine go_cF rfl rfl (V2) ?_ | refine go_cA rfl rfl (V2) ?_) | (apply gZ; first | refine go_f ?_ | refine gx ?_ | refine gm ?_))); refine T_nil ?_) | (apply ZR; (try dsimp only [List.map_cons, List.map_nil]); refine C_dr mixed ?_; (repeat (first | (apply vS; first | refine vn ?_ | refine va ?_ | refine vp ?_ | refine vr ?_ | refine vt ?_ | refine vc (V) ?_ | refine vcF (V) ?_ | refine vc (V2) ?_ | refine vcF (V2) ?_) | (apply vZ; first | refine vs ?_ | refine vw ?_))); refine W_e ?_) | (apply ZK; first | refine Z4 ?_ | refine Z5 ?_) | refine Z6 ?_ | refine Z7 ?_ | refine Z8 ?_ | refine Z9 ?_ | refine ZA ?_ | refine ZB ?_ | refine ZC ?_ | refine ZD ?_ | refine ZE ?_ | refine ZF ?_ | refine ZG ?_ | refine ZH ?_)
    repeat (first | refine kEnd_m ?_ | refine kEnd_f ?_)
    refine kEnd_g ?_ (by first | exact .inl rfl | exact .inr rfl)
    exact Sub.tup (.cons Sub.nil (.cons (Sub.eq rfl rfl) .nil))
  rw [hv2] at V2
  rw [if_pos rfl]
  cases hd : domB rs
  · rw [hd] at D1
    have e : errD s n o rs = 40 := by unfold errD; rw [if_pos hv, if_neg (by rw [hd]; decide)]
    rw [e, if_neg (by decide)]
    cases hd2 : domB es
    all_goals
      rw [hd2] at D2
      refine DC.of Try.func70 Try.ntmps70 Try.results70 rfl (by decide +kernel) rfl ?_
      repeat (first | refine Z1 ?_ | refine Z2 ?_ | (refine Z3 ?_; (repeat (first | (apply gS; first | refine go_no ?_ | refine go_f ?_ | refine gx ?_ | refine gm ?_ | refine gp ?_ | refine go_c rfl rfl (V) ?_ | refine go_cF rfl rfl (V) ?_ | refine go_cA rfl rfl (V) ?_ | refine go_c rfl rfl (V2) ?_ | refine go_cF rfl rfl (V2) ?_ | refine go_cA rfl rfl (V2) ?_ | refine go_c rfl rfl (D1) ?_ | refine go_cF rfl rfl (D1) ?_ | refine go_cA rfl rfl (D1) ?_ | refine go_c rfl rfl (D2) ?_ | refine go_cF rfl rfl (D2) ?_ | refine go_cA rfl rfl (D2) ?_) | (apply gZ; first | refine go_f ?_ | refine gx ?_ | refine gm ?_))); refine T_nil ?_) | (apply ZR; (try dsimp only [List.map_cons, List.map_nil]); refine C_dr mixed ?_; (repeat (first | (apply vS; first | refine vn ?_ | refine va ?_ | refine vp ?_ | refine vr ?_ | refine vt ?_ | refine vc (V) ?_ | refine vcF (V) ?_ | refine vc (V2) ?_ | refine vcF (V2) ?_ | refine vc (D1) ?_ | refine vcF (D1) ?_ | refine vc (D2) ?_ | refine vcF (D2) ?_) | (apply vZ; first | refine vs ?_ | refine vw ?_))); refine W_e ?_) | (apply ZK; first | refine Z4 ?_ | refine Z5 ?_) | refine Z6 ?_ | refine Z7 ?_ | refine Z8 ?_ | refine Z9 ?_ | refine ZA ?_ | refine ZB ?_ | refine ZC ?_ | refine ZD ?_ | refine ZE ?_ | refine ZF ?_ | refine ZG ?_ | refine ZH ?_)
      repeat (first | refine kEnd_m ?_ | refine kEnd_f ?_)
      refine kEnd_g ?_ (by first | exact .inl rfl | exact .inr rfl)
      exact Sub.tup (.cons Sub.nil (.cons (Sub.eq rfl rfl) .nil))
  rw [hd] at D1
  have e : errD s n o rs = 0 := by unfold errD; rw [if_pos hv, if_pos hd]
  rw [e, if_pos rfl]
  cases hd2 : domB es
  · rw [hd2] at D2
    have e2 : errD s' n' o' es = 40 := by unfold errD; rw [if_pos hv2, if_neg (by rw [hd2]; decide)]
    rw [e2, if_neg (by decide)]
    refine DC.of Try.func70 Try.ntmps70 Try.results70 rfl (by decide +kernel) rfl ?_
    repeat (first | refine Z1 ?_ | refine Z2 ?_ | (refine Z3 ?_; (repeat (first | (apply gS; first | refine go_no ?_ | refine go_f ?_ | refine gx ?_ | refine gm ?_ | refine gp ?_ | refine go_c rfl rfl (V) ?_ | refine go_cF rfl rfl (V) ?_ | refine go_cA rfl rfl (V) ?_ | refine go_c rfl rfl (V2) ?_ | refine go_cF rfl rfl (V2) ?_ | refine go_cA rfl rfl (V2) ?_ | refine go_c rfl rfl (D1) ?_ | refine go_cF rfl rfl (D1) ?_ | refine go_cA rfl rfl (D1) ?_ | refine go_c rfl rfl (D2) ?_ | refine go_cF rfl rfl (D2) ?_ | refine go_cA rfl rfl (D2) ?_) | (apply gZ; first | refine go_f ?_ | refine gx ?_ | refine gm ?_))); refine T_nil ?_) | (apply ZR; (try dsimp only [List.map_cons, List.map_nil]); refine C_dr mixed ?_; (repeat (first | (apply vS; first | refine vn ?_ | refine va ?_ | refine vp ?_ | refine vr ?_ | refine vt ?_ | refine vc (V) ?_ | refine vcF (V) ?_ | refine vc (V2) ?_ | refine vcF (V2) ?_ | refine vc (D1) ?_ | refine vcF (D1) ?_ | refine vc (D2) ?_ | refine vcF (D2) ?_) | (apply vZ; first | refine vs ?_ | refine vw ?_))); refine W_e ?_) | (apply ZK; first | refine Z4 ?_ | refine Z5 ?_) | refine Z6 ?_ | refine Z7 ?_ | refine Z8 ?_ | refine Z9 ?_ | refine ZA ?_ | refine ZB ?_ | refine ZC ?_ | refine ZD ?_ | refine ZE ?_ | refine ZF ?_ | refine ZG ?_ | refine ZH ?_)
    repeat (first | refine kEnd_m ?_ | refine kEnd_f ?_)
    refine kEnd_g ?_ (by first | exact .inl rfl | exact .inr rfl)
    exact Sub.tup (.cons Sub.nil (.cons (Sub.eq rfl rfl) .nil))
  rw [hd2] at D2
  have e2 : errD s' n' o' es = 0 := by unfold errD; rw [if_pos hv2, if_pos hd2]
  rw [e2, if_pos rfl]
  rw [hv2, if_pos rfl, e, if_pos rfl, e2, if_pos rfl] at h
  by_cases h3 : rs.length = es.length
  · rw [if_pos h3] at h; exact absurd rfl h
  rw [if_neg h3]
  have h3' : ¬ (rs.length : Int) = es.length := by omega
  refine DC.of Try.func70 Try.ntmps70 Try.results70 rfl (by decide +kernel) rfl ?_
  repeat (first | refine Z1 ?_ | refine Z2 ?_ | (refine Z3 ?_; (repeat (first | (apply gS; first | refine go_no ?_ | refine go_f ?_ | refine gx ?_ | refine gm ?_ | refine gp ?_ | refine go_c rfl rfl (V) ?_ | refine go_cF rfl rfl (V) ?_ | refine go_cA rfl rfl (V) ?_ | refine go_c rfl rfl (V2) ?_ | refine go_cF rfl rfl (V2) ?_ | refine go_cA rfl rfl (V2) ?_ | refine go_c rfl rfl (D1) ?_ | refine go_cF rfl rfl (D1) ?_ | refine go_cA rfl rfl (D1) ?_ | refine go_c rfl rfl (D2) ?_ | refine go_cF rfl rfl (D2) ?_ | refine go_cA rfl rfl (D2) ?_) | (apply gZ; first | refine go_f ?_ | refine gx ?_ | refine gm ?_))); refine T_nil ?_) | (apply ZR; (try dsimp only [List.map_cons, List.map_nil]); refine C_dr mixed ?_; (repeat (first | (apply vS; first | refine vn ?_ | refine va ?_ | refine vp ?_ | refine vr ?_ | refine vt ?_ | refine vc (V) ?_ | refine vcF (V) ?_ | refine vc (V2) ?_ | refine vcF (V2) ?_ | refine vc (D1) ?_ | refine vcF (D1) ?_ | refine vc (D2) ?_ | refine vcF (D2) ?_) | (apply vZ; first | refine vs ?_ | refine vw ?_))); refine W_e ?_) | (apply ZK; first | refine Z4 ?_ | refine Z5 ?_) | refine Z6 ?_ | refine Z7 ?_ | refine Z8 ?_ | refine Z9 ?_ | refine ZA ?_ | refine ZB ?_ | refine ZC ?_ | refine ZD ?_ | refine ZE ?_ | refine ZF ?_ | refine ZG ?_ | refine ZH ?_)
  repeat (first | refine kEnd_m ?_ | refine kEnd_f ?_)
  refine kEnd_g ?_ (by first | exact .inl rfl | exact .inr rfl)
  exact Sub.tup (.cons Sub.nil (.cons (Sub.eq rfl rfl) .nil))
set_option maxHeartbeats 8000000 in
theorem rMoves7_ok {s : ByteArray} {k : Kd} {n o : Nat} (hk : Okd s k n o) {rs : List Rg} {c0 : Rg} {ct : List Rg} (hd : domB rs = true) (hc : canonRs rs = c0 :: ct) (hs : SpOk c0 ct)
    {s' : ByteArray} {k' : Kd} {n' o' : Nat} (hk' : Okd s' k' n' o') {es : List Rg} {e0 : Rg} {et : List Rg} (hd' : domB es = true) (hc' : canonRs es = e0 :: et) (hs' : SpOk e0 et) (hrk : rs.length = es.length) :
    DC Try.prog 70 [dsD s n o, domD rs, dsD s' n' o', domD es] (.tup [cntsD kdMove (mvF k n o c0 ct k' n' o' e0 et), iD 0]) := by
  have V := rValid7_d s n o
  have V2 := rValid7_d s' n' o'
  rw [okd_v hk] at V
  rw [okd_v hk'] at V2
  have D1 := rdValid_b rs (b := domB rs) rfl
  have D2 := rdValid_b es (b := domB es) rfl
  rw [hd] at D1
  rw [hd'] at D2
  have IX := rIndexes_ok hd
  have ei : idxs rs = idxs (c0 :: ct) := (canon_cnt hd hc).1
  rw [ei] at IX
  have hlen : (idxs (c0 :: ct)).length = cN c0 * iN c0 ct := by rw [idxs_len, ← iN_mul]
  have hP : cN c0 * iN c0 ct ≤ 4096 := by rw [iN_mul]; exact (domB_iff.1 hs.dom).2.2
  have hget : ∀ i (h : i < (idxs (c0 :: ct)).length), (idxs (c0 :: ct))[i] = ithX (c0 :: ct) i := fun i h => by
    have := idxs_get (c0 :: ct) i (by rw [← iN_mul, ← hlen]; exact h)
    rw [List.getElem?_eq_getElem h] at this
    exact Option.some.inj this
  have hrl : (rs.length : Int) = es.length := by omega
  have h8 := hk.ok.o8
  have h8' := hk'.ok.o8
  have key : ∀ i (h : i < (idxs (c0 :: ct)).length), ∃ a b : Nat, ∃ e : Int, a < 8 ∧ b < 8 ∧
      DC Try.prog 60 [dsD s' n' o', domD es, rowI (idxs (c0 :: ct))[i]] (.tup [iD b, iD e]) ∧ DC Try.prog 60 [dsD s n o, domD rs, rowI (idxs (c0 :: ct))[i]] (.tup [iD a, iD 0]) ∧
      (mvB k n o c0 ct k' n' o' e0 et i = true ↔ e = 0 ∧ a ≠ b) ∧ mvC k n o c0 ct k' n' o' e0 et i = a * 8 + b := fun i h => by
    have hi : i < cN c0 * iN c0 ct := by rw [← hlen]; exact h
    obtain ⟨w1, w2, w3, w4, w5, w6⟩ := own_at hk.ok hs hi
    obtain ⟨f1, f2, f3, f4⟩ := at_find hs hi
    have hb := ownV_lt hk'.ok hs' (ithX (c0 :: ct) i)
    refine ⟨own k n o (cN c0) (i / iN c0 ct), ownV k' n' o' e0 et (ithX (c0 :: ct) i), _, by omega, by omega, by rw [hget i h]; exact rOwner7_d hk' hd' hc' hs' _, ?_, ?_, rfl⟩
    · have := rOwner7_d hk hd hc hs (ithX (c0 :: ct) i)
      rw [w3, f4] at this
      rw [hget i h]; exact this
    · unfold mvB
      rw [decide_eq_true_iff]
  have hg := fun m => cntB_no (g := mvB k n o c0 ct k' n' o' e0 et) (f := mvC k n o c0 ct k' n' o' e0 et) (m := m)
  have hy := fun m => cntB_yes (g := mvB k n o c0 ct k' n' o' e0 et) (f := mvC k n o c0 ct k' n' o' e0 et) (m := m)
  have hb := fun m c => cntB_le (mvB k n o c0 ct k' n' o' e0 et) (mvC k n o c0 ct k' n' o' e0 et) m c
  have h0 := cntB_0 (mvB k n o c0 ct k' n' o' e0 et) (mvC k n o c0 ct k' n' o' e0 et)
  unfold mvF
  rw [← hlen]
  rw [← hlen] at hP
  have CT := rcounts_d (cntB (mvB k n o c0 ct k' n' o' e0 et) (mvC k n o c0 ct k' n' o' e0 et) (idxs (c0 :: ct)).length) kdMove
  generalize mvB k n o c0 ct k' n' o' e0 et = gB at *
  generalize mvC k n o c0 ct k' n' o' e0 et = gC at *
  generalize idxs (c0 :: ct) = l at *
  generalize cntB gB gC = Q at *
  have hT := fun m => tabD_len (Q m)
  have hA := fun m a b (ha : a < 8) (hb : b < 8) => tab_at (Q m) ha hb
  have hZ : tabD (Q 0) = List.replicate 64 (iD 0) := by rw [h0]; rfl
  clear hget hlen h0 ei hk hd hc hs hk' hd' hc' hs'
  have hTl := hT l.length
  have hTk : (List.drop 0 (tabD (Q l.length))).take 64 = tabD (Q l.length) := by rw [List.drop_zero, List.take_of_length_le (by rw [hTl]; exact Nat.le_refl _)]
  refine DC.of Try.func70 Try.ntmps70 Try.results70 rfl (by decide +kernel) rfl ?_
  repeat (first | refine Z1 ?_ | refine Z2 ?_ | (refine Z3 ?_; (repeat (first | (apply gS; first | refine go_no ?_ | refine go_f ?_ | refine gx ?_ | refine gm ?_ | refine gp ?_ | refine go_c rfl rfl (V) ?_ | refine go_cF rfl rfl (V) ?_ | refine go_cA rfl rfl (V) ?_ | refine go_c rfl rfl (V2) ?_ | refine go_cF rfl rfl (V2) ?_ | refine go_cA rfl rfl (V2) ?_ | refine go_c rfl rfl (D1) ?_ | refine go_cF rfl rfl (D1) ?_ | refine go_cA rfl rfl (D1) ?_ | refine go_c rfl rfl (D2) ?_ | refine go_cF rfl rfl (D2) ?_ | refine go_cA rfl rfl (D2) ?_ | refine go_c rfl rfl (IX) ?_ | refine go_cF rfl rfl (IX) ?_ | refine go_cA rfl rfl (IX) ?_) | (apply gZ; first | refine go_f ?_ | refine gx ?_ | refine gm ?_))); refine T_nil ?_) | (apply ZR; (try dsimp only [List.map_cons, List.map_nil]); refine C_dr mixed ?_; (repeat (first | (apply vS; first | refine vn ?_ | refine va ?_ | refine vp ?_ | refine vr ?_ | refine vt ?_ | refine vc (V) ?_ | refine vcF (V) ?_ | refine vc (V2) ?_ | refine vcF (V2) ?_ | refine vc (D1) ?_ | refine vcF (D1) ?_ | refine vc (D2) ?_ | refine vcF (D2) ?_ | refine vc (IX) ?_ | refine vcF (IX) ?_) | (apply vZ; first | refine vs ?_ | refine vw ?_))); refine W_e ?_) | (apply ZK; first | refine Z4 ?_ | refine Z5 ?_) | refine Z6 ?_ | refine Z7 ?_ | refine Z8 ?_ | refine Z9 ?_ | refine ZA ?_ | refine ZB ?_ | refine ZC ?_ | refine ZD ?_ | refine ZE ?_ | refine ZF ?_ | refine ZG ?_ | refine ZH ?_)
  refine C_count l.length (fun _ => True) (fun m => ⟨5, 90, [(13, iD m), (11, rowL2 l), (4, .ptr 0 0), (5, .ptr 1 0), (6, .ptr 2 0), (7, .ptr 3 0), (10, .ptr 4 0)], [(0, some ⟨63, 3, 1, [sD s, iD n, iD o]⟩), (1, some ⟨24, 1, 1, [rowR rs]⟩), (2, some ⟨63, 3, 1, [sD s', iD n', iD o']⟩), (3, some ⟨24, 1, 1, [rowR es]⟩), (4, some ⟨155, 64, 1, tabD (Q m)⟩)]⟩) ?_ trivial ?_
  · rw [hZ]
    exact Wk.gx (fun b => b)
  · intro m hm _
    by_cases hlt : m < l.length
    · obtain ⟨a, b, e, x1, x2, x6, x7, x9, x10⟩ := key m hlt
      have y1 := hT m
      have y2 := hA m a b x1 x2
      have y3 := (hb m (a * 8 + b)).1
      have y4 := (hb m (a * 8 + b)).2
      have y5 := hg m
      have y6 := hy m
      clear hT hA hb hg hy key CT
      by_cases he : e = 0
      · subst he
        by_cases hab : a = b
        · have y5 := y5 (by
            cases hh : gB m
            · rfl
            · exact absurd hab (x9.1 hh).2)
          rw [y5]
          clear y5 y6 x9 x10
          subst hab
          repeat (first | refine Z1 ?_ | refine Z2 ?_ | (refine Z3 ?_; (repeat (first | (apply gS; first | refine go_no ?_ | refine go_f ?_ | refine gx ?_ | refine gm ?_ | refine gp ?_ | refine go_c rfl rfl (x6) ?_ | refine go_cF rfl rfl (x6) ?_ | refine go_cA rfl rfl (x6) ?_ | refine go_c rfl rfl (x7) ?_ | refine go_cF rfl rfl (x7) ?_ | refine go_cA rfl rfl (x7) ?_) | (apply gZ; first | refine go_f ?_ | refine gx ?_ | refine gm ?_))); refine T_nil ?_) | (apply ZR; (try dsimp only [List.map_cons, List.map_nil]); refine C_dr mixed ?_; (repeat (first | (apply vS; first | refine vn ?_ | refine va ?_ | refine vp ?_ | refine vr ?_ | refine vt ?_ | refine vc (x6) ?_ | refine vcF (x6) ?_ | refine vc (x7) ?_ | refine vcF (x7) ?_) | (apply vZ; first | refine vs ?_ | refine vw ?_))); refine W_e ?_) | (apply ZK; first | refine Z4 ?_ | refine Z5 ?_) | refine Z6 ?_ | refine Z7 ?_ | refine Z8 ?_ | refine Z9 ?_ | refine ZA ?_ | refine ZB ?_ | refine ZC ?_ | refine ZD ?_ | refine ZE ?_ | refine ZF ?_ | refine ZG ?_ | refine ZH ?_)
          refine kLoop_n ⟨hlt, trivial, ?_⟩
          exact Wk.gx (fun b => b)
        · have y6 := y6 (x9.2 ⟨rfl, hab⟩)
          rw [x10] at y6
          have y7 := tab_set (Q m) x1 x2 (Q m (a * 8 + b) + 1)
          rw [← y6] at y7
          have hab' : ¬ (a : Int) = b := by omega
          clear y5 y6 x9 x10
          generalize Q m (a * 8 + b) = v at *
          repeat (first | refine Z1 ?_ | refine Z2 ?_ | (refine Z3 ?_; (repeat (first | (apply gS; first | refine go_no ?_ | refine go_f ?_ | refine gx ?_ | refine gm ?_ | refine gp ?_ | refine go_c rfl rfl (x6) ?_ | refine go_cF rfl rfl (x6) ?_ | refine go_cA rfl rfl (x6) ?_ | refine go_c rfl rfl (x7) ?_ | refine go_cF rfl rfl (x7) ?_ | refine go_cA rfl rfl (x7) ?_) | (apply gZ; first | refine go_f ?_ | refine gx ?_ | refine gm ?_))); refine T_nil ?_) | (apply ZR; (try dsimp only [List.map_cons, List.map_nil]); refine C_dr mixed ?_; (repeat (first | (apply vS; first | refine vn ?_ | refine va ?_ | refine vp ?_ | refine vr ?_ | refine vt ?_ | refine vc (x6) ?_ | refine vcF (x6) ?_ | refine vc (x7) ?_ | refine vcF (x7) ?_) | (apply vZ; first | refine vs ?_ | refine vw ?_))); refine W_e ?_) | (apply ZK; first | refine Z4 ?_ | refine Z5 ?_) | refine Z6 ?_ | refine Z7 ?_ | refine Z8 ?_ | refine Z9 ?_ | refine ZA ?_ | refine ZB ?_ | refine ZC ?_ | refine ZD ?_ | refine ZE ?_ | refine ZF ?_ | refine ZG ?_ | refine ZH ?_)
          refine kLoop_n ⟨hlt, trivial, ?_⟩
          exact Wk.gx (fun b => b)
      · have y5 := y5 (by
          cases hh : gB m
          · rfl
          · exact absurd (x9.1 hh).1 he)
        clear y6 x9 x10
        repeat (first | refine Z1 ?_ | refine Z2 ?_ | (refine Z3 ?_; (repeat (first | (apply gS; first | refine go_no ?_ | refine go_f ?_ | refine gx ?_ | refine gm ?_ | refine gp ?_ | refine go_c rfl rfl (x6) ?_ | refine go_cF rfl rfl (x6) ?_ | refine go_cA rfl rfl (x6) ?_) | (apply gZ; first | refine go_f ?_ | refine gx ?_ | refine gm ?_))); refine T_nil ?_) | (apply ZR; (try dsimp only [List.map_cons, List.map_nil]); refine C_dr mixed ?_; (repeat (first | (apply vS; first | refine vn ?_ | refine va ?_ | refine vp ?_ | refine vr ?_ | refine vt ?_ | refine vc (x6) ?_ | refine vcF (x6) ?_) | (apply vZ; first | refine vs ?_ | refine vw ?_))); refine W_e ?_) | (apply ZK; first | refine Z4 ?_ | refine Z5 ?_) | refine Z6 ?_ | refine Z7 ?_ | refine Z8 ?_ | refine Z9 ?_ | refine ZA ?_ | refine ZB ?_ | refine ZC ?_ | refine ZD ?_ | refine ZE ?_ | refine ZF ?_ | refine ZG ?_ | refine ZH ?_)
        refine kLoop_n ⟨hlt, trivial, ?_⟩
        rw [y5]
        exact Wk.gx (fun b => b)
    · obtain rfl : m = l.length := by omega
      repeat (first | refine Z1 ?_ | refine Z2 ?_ | (refine Z3 ?_; (repeat (first | (apply gS; first | refine go_no ?_ | refine go_f ?_ | refine gx ?_ | refine gm ?_ | refine gp ?_ | refine go_c rfl rfl (CT) ?_ | refine go_cF rfl rfl (CT) ?_ | refine go_cA rfl rfl (CT) ?_) | (apply gZ; first | refine go_f ?_ | refine gx ?_ | refine gm ?_))); refine T_nil ?_) | (apply ZR; (try dsimp only [List.map_cons, List.map_nil]); refine C_dr mixed ?_; (repeat (first | (apply vS; first | refine vn ?_ | refine va ?_ | refine vp ?_ | refine vr ?_ | refine vt ?_ | refine vc (CT) ?_ | refine vcF (CT) ?_) | (apply vZ; first | refine vs ?_ | refine vw ?_))); refine W_e ?_) | (apply ZK; first | refine Z4 ?_ | refine Z5 ?_) | refine Z6 ?_ | refine Z7 ?_ | refine Z8 ?_ | refine Z9 ?_ | refine ZA ?_ | refine ZB ?_ | refine ZC ?_ | refine ZD ?_ | refine ZE ?_ | refine ZF ?_ | refine ZG ?_ | refine ZH ?_)
      repeat (first | refine kEnd_m ?_ | refine kEnd_f ?_)
      refine kEnd_g ?_ (by first | exact .inl rfl | exact .inr rfl)
      exact Sub.eq rfl rfl
/-! ### structs of ints and strings, compared -/
section
variable {P : Program} {S : St} {o : Oper} {x y : Operand} {t yt : TypeId}
def shapeB (P : Program) : List Field → Nat → List Bool → Bool
  | [], _, [] => true
  | f :: fs, k, b :: bs => (f.name != "_" && f.offset == k && (match P.underlying f.type with
    | some (.int .i64) => !b
    | some .string => b
    | _ => false)) && shapeB P fs (k + 1) bs
  | _, _, _ => false
inductive Conf : List Bool → List Value → Prop
  | nil : Conf [] []
  | str {bs : List Bool} {us : List Value} (s : ByteArray) (h : Conf bs us) : Conf (true :: bs) (.string s :: us)
  | int {bs : List Bool} {us : List Value} (n : Int) (h : Conf bs us) : Conf (false :: bs) (.int .i64 n :: us)
def eqV : List Value → List Value → Bool
  | .int _ a :: us, .int _ b :: vs => decide (a = b) && eqV us vs
  | .string r :: us, .string s :: vs => decide (r.toList = s.toList) && eqV us vs
  | _, _ => true
theorem eqFields_mix (w : World) (xs ys : List Value) : ∀ (fs : List Field) (k : Nat) (bs : List Bool) (us vs : List Value), shapeB P fs k bs = true → Conf bs us → Conf bs vs → xs.drop k = us → ys.drop k = vs → (Op.eqFields (9998 + 1) xs.toArray ys.toArray fs).run P w = .ok (eqV us vs) w
  | [], k, bs, us, vs, hf, hu, hv, e1, e2 => by
    cases hu with
    | nil => cases hv; simp [Op.eqFields, eqV]
    | str => cases hf
    | int => cases hf
  | f :: fs, k, [], us, vs, hf, hu, hv, e1, e2 => by cases hf
  | f :: fs, k, b :: bs, us, vs, hf, hu, hv, e1, e2 => by
    simp only [shapeB, Bool.and_eq_true, bne_iff_ne, beq_iff_eq] at hf
    obtain ⟨⟨⟨h1, h2⟩, h3⟩, h4⟩ := hf
    have hd : ∀ (l : List Value) (u : Value) (q : List Value), l.drop k = u :: q → l[k]? = some u ∧ l.drop (k + 1) = q := fun l u q e => by
      have hk : k < l.length := by
        apply Classical.byContradiction
        intro h
        rw [List.drop_eq_nil_of_le (by omega)] at e; cases e
      have := (List.getElem_cons_drop hk)
      rw [e] at this
      injection this with a c
      exact ⟨by rw [List.getElem?_eq_getElem hk, a], c⟩
    cases hu with
    | str r hu =>
      cases hv with
      | str s hv =>
        have hty : P.underlying f.type = some .string := by
          split at h3
          · cases h3
          · assumption
          · cases h3
        obtain ⟨a1, a2⟩ := hd xs _ _ e1
        obtain ⟨c1, c2⟩ := hd ys _ _ e2
        have ih := eqFields_mix w xs ys fs (k + 1) bs _ _ h4 hu hv a2 c2
        have p1 : (part f.type xs.toArray f.offset).run P w = .ok (.string r) w := by
          simp [part, isAgg, run_underlying hty, h2, a1]
        have p2 : (part f.type ys.toArray f.offset).run P w = .ok (.string s) w := by
          simp [part, isAgg, run_underlying hty, h2, c1]
        have p3 : (Op.equalIn (9998 + 1) f.type (.string r) (.string s)).run P w = .ok (r.toList == s.toList) w := run_equalIn_string w 9998 f.type r s hty
        rw [eqV, Op.eqFields, if_pos h1]
        simp only [Sem.run_bind, p1, p2, p3, Result.andThen_ok, Sem.run_ite, ih, Sem.run_pure]
        by_cases he : r.toList = s.toList
        · have hb : (r.toList == s.toList) = true := by simp [he]
          rw [hb, decide_eq_true he]; simp
        · have hb : (r.toList == s.toList) = false := by simp [he]
          rw [hb, decide_eq_false he]; simp
    | int n hu =>
      cases hv with
      | int m hv =>
        have hty : P.underlying f.type = some (.int .i64) := by
          split at h3
          · assumption
          · cases h3
          · cases h3
        obtain ⟨a1, a2⟩ := hd xs _ _ e1
        obtain ⟨c1, c2⟩ := hd ys _ _ e2
        have ih := eqFields_mix w xs ys fs (k + 1) bs _ _ h4 hu hv a2 c2
        have p1 : (part f.type xs.toArray f.offset).run P w = .ok (.int .i64 n) w := by
          simp [part, isAgg, run_underlying hty, h2, a1]
        have p2 : (part f.type ys.toArray f.offset).run P w = .ok (.int .i64 m) w := by
          simp [part, isAgg, run_underlying hty, h2, c1]
        have p3 : (Op.equalIn (9998 + 1) f.type (.int .i64 n) (.int .i64 m)).run P w = .ok (n == m) w := run_equalIn_int w 9998 f.type .i64 .i64 _ _ hty
        rw [eqV, Op.eqFields, if_pos h1]
        simp only [Sem.run_bind, p1, p2, p3, Result.andThen_ok, Sem.run_ite, ih, Sem.run_pure]
        by_cases he : n = m
        · have hb : (n == m) = true := by simp [he]
          rw [hb, decide_eq_true he]; simp
        · have hb : (n == m) = false := by simp [he]
          rw [hb, decide_eq_false he]; simp
structure TyMix (P : Program) (t : TypeId) (bs : List Bool) : Prop where
  guard : P.eqGuardType P.depth t = false
  ty : P.underlying t = some (.struct (P.fieldsOf t))
  free : P.stoodInHeld t = false
  shape : shapeB P (P.fieldsOf t).toList 0 bs = true
theorem agg_vals {w : World} {I : Nat → Prop} {ρ : Rho} {nb : Nat} {us : List Value} {v : Value} (h : RA ρ nb I w (.agg (us.map D.val)) v) : v = .agg us.toArray := by
  obtain ⟨us', rfl, h1, h2, h3⟩ := h.cells
  rw [vals_eq ⟨h1, h2, h3⟩]
theorem P_eqMix {bs : List Bool} {us vs : List Value} (hE : TyMix P t bs) (hu : Conf bs us) (hv : Conf bs vs) (ho : o.op = .binOp .eql t x y yt) (hx : S.ev x = some (.agg (us.map D.val))) (hy : S.ev y = some (.agg (vs.map D.val))) : PStep P o S (.val (.bool (eqV us vs))) :=
  PStep.value rfl fun w0 I0 ρ I ac w g => by
    have e1 := agg_vals (g.ev hx)
    have e2 := agg_vals (g.ev hy)
    have e3 : (Op.equalIn 10000 t (.agg us.toArray) (.agg vs.toArray)).run P w = .ok (eqV us vs) w := by
      rw [run_equalIn_agg w 9999 t _ _ hE.ty hE.free]
      exact eqFields_mix w us vs _ 0 bs us vs hE.shape hu hv rfl rfl
    simp only [execOp, ho, e1, e2, Sem.run_bind, run_eqGuard_agg w .eql t x y _ _ hE.guard, Result.andThen_ok, run_eql_struct, e3, Sem.run_pure]
theorem P_neMix {bs : List Bool} {us vs : List Value} (hE : TyMix P t bs) (hu : Conf bs us) (hv : Conf bs vs) (ho : o.op = .binOp .neq t x y yt) (hx : S.ev x = some (.agg (us.map D.val))) (hy : S.ev y = some (.agg (vs.map D.val))) : PStep P o S (.val (.bool (!eqV us vs))) :=
  PStep.value rfl fun w0 I0 ρ I ac w g => by
    have e1 := agg_vals (g.ev hx)
    have e2 := agg_vals (g.ev hy)
    have e3 : (Op.equalIn 10000 t (.agg us.toArray) (.agg vs.toArray)).run P w = .ok (eqV us vs) w := by
      rw [run_equalIn_agg w 9999 t _ _ hE.ty hE.free]
      exact eqFields_mix w us vs _ 0 bs us vs hE.shape hu hv rfl rfl
    simp only [execOp, ho, e1, e2, Sem.run_bind, run_eqGuard_agg w .neq t x y _ _ hE.guard, Result.andThen_ok, run_neq_struct, e3, Sem.run_pure]
end
theorem mixD : TyMix Try.prog 63 [true, false, false] := ⟨by kernel_rfl, by kernel_rfl, by kernel_rfl, by kernel_rfl⟩
theorem mixC : TyMix Try.prog 84 [false, false, true, false] := ⟨by kernel_rfl, by kernel_rfl, by kernel_rfl, by kernel_rfl⟩
section
variable {S : St} {o : Oper} {x y : Operand} {yt : TypeId}
theorem P_eqDist {r s : ByteArray} {a b c d : Int} (ho : o.op = .binOp .eql 63 x y yt) (hx : S.ev x = some (.agg [sD r, iD a, iD b])) (hy : S.ev y = some (.agg [sD s, iD c, iD d])) : PStep Try.prog o S (.val (.bool (eqV [.string r, .int .i64 a, .int .i64 b] [.string s, .int .i64 c, .int .i64 d]))) :=
  P_eqMix mixD (.str _ (.int _ (.int _ .nil))) (.str _ (.int _ (.int _ .nil))) ho hx hy
theorem P_neCnt {r : ByteArray} {a b c : Int} (ho : o.op = .binOp .neq 84 x y yt) (hx : S.ev x = some (.agg [iD a, iD b, sD r, iD c])) (hy : S.ev y = some (.agg [iD a, iD b, sD r, iD c])) : PStep Try.prog o S (.val (.bool false)) := by
  have k := P_neMix mixC (us := [.int .i64 a, .int .i64 b, .string r, .int .i64 c]) (vs := [.int .i64 a, .int .i64 b, .string r, .int .i64 c]) (.int _ (.int _ (.str _ (.int _ .nil)))) (.int _ (.int _ (.str _ (.int _ .nil)))) ho hx hy
  have e : (!eqV [.int .i64 a, .int .i64 b, .string r, .int .i64 c] [.int .i64 a, .int .i64 b, .string r, .int .i64 c]) = false := by simp [eqV]
  rwa [e] at k
end
def eqDB (r : ByteArray) (a b : Int) (s : ByteArray) (c d : Int) : Bool := eqV [.string r, .int .i64 a, .int .i64 b] [.string s, .int .i64 c, .int .i64 d]
theorem tSame_d (r : ByteArray) (a b : Int) (s : ByteArray) (c d : Int) : DC Try.prog 72 [dsD r a b, dsD s c d] (bD (eqDB r a b s c d)) := by
  refine DC.of Try.func72 Try.ntmps72 Try.results72 rfl (by decide +kernel) rfl ?_
  repeat (first | refine Z1 ?_ | refine Z2 ?_ | (refine Z3 ?_; (repeat (first | (apply gS; first | refine gp ?_ ⟨P_eqDist rfl rfl rfl⟩ | refine go_f ?_ | refine gx ?_ | refine gm ?_ | refine gp ?_))); refine T_nil ?_) | (apply ZK; first | refine Z4 ?_ | refine Z5 ?_) | refine Z6 ?_ | refine Z7 ?_)
  repeat (first | refine kEnd_m ?_ | refine kEnd_f ?_)
  refine kEnd_g ?_ (by first | exact .inl rfl | exact .inr rfl)
  exact Sub.eq rfl rfl
theorem rSame7_d (r : ByteArray) (a b : Int) (s : ByteArray) (c d : Int) : DC Try.prog 73 [dsD r a b, dsD s c d] (bD (eqDB r a b s c d)) := by
  refine DC.of Try.func73 Try.ntmps73 Try.results73 rfl (by decide +kernel) rfl ?_
  repeat (first | refine Z1 ?_ | refine Z2 ?_ | (refine Z3 ?_; (repeat (first | (apply gS; first | refine gp ?_ ⟨P_eqDist rfl rfl rfl⟩ | refine go_f ?_ | refine gx ?_ | refine gm ?_ | refine gp ?_))); refine T_nil ?_) | (apply ZK; first | refine Z4 ?_ | refine Z5 ?_) | refine Z6 ?_ | refine Z7 ?_)
  repeat (first | refine kEnd_m ?_ | refine kEnd_f ?_)
  refine kEnd_g ?_ (by first | exact .inl rfl | exact .inr rfl)
  exact Sub.eq rfl rfl
/-! ### SameCounts -/
theorem sameCounts_d (kd : ByteArray) (F : Nat → Int) : DC Try.prog 71 [cntsD kd F, cntsD kd F] (bD true) := by
  have h64 := ents_le F 64
  dsimp only [cntsD, entsC]
  generalize ents F 64 = l at *
  refine DC.of Try.func71 Try.ntmps71 Try.results71 rfl (by decide +kernel) rfl ?_
  repeat (first | refine Z1 ?_ | refine Z2 ?_ | (refine Z3 ?_; (repeat (first | (apply gS; first | refine go_f ?_ | refine gx ?_ | refine gm ?_ | refine gp ?_))); refine T_nil ?_) | (apply ZR; (try dsimp only [List.map_cons, List.map_nil]); refine C_dr mixed ?_; (repeat (first | (apply vS; first | refine va ?_ | refine vp ?_ | refine vr ?_ | refine vt ?_))); refine W_e ?_) | (apply ZK; first | refine Z4 ?_ | refine Z5 ?_) | refine Z6 ?_ | refine Z7 ?_ | refine Z8 ?_ | refine Z9 ?_ | refine ZA ?_ | refine ZB ?_ | refine ZC ?_ | refine ZD ?_ | refine ZE ?_ | refine ZF ?_ | refine ZG ?_ | refine ZH ?_)
  refine C_count l.length (fun _ => True) (fun m => ⟨0, 26, [(5, iD m), (0, .row l.length (l.flatMap (entC kd F))), (1, .row l.length (l.flatMap (entC kd F)))], []⟩) ?_ trivial ?_
  · exact Wk.gx (fun b => b)
  · intro m hm _
    by_cases hlt : m < l.length
    · repeat (first | refine Z1 ?_ | refine Z2 ?_ | (refine Z3 ?_; (repeat (first | (apply gS; first | refine go_f ?_ | refine gx ?_ | refine gm ?_ | refine gp ?_))); refine T_nil ?_) | (apply ZR; (try dsimp only [List.map_cons, List.map_nil]); refine C_dr mixed ?_; (repeat (first | (apply vS; first | refine vp ?_ (QA_all (fun nb => ⟨P_neCnt rfl rfl rfl⟩)) | refine va ?_ | refine vp ?_ | refine vr ?_ | refine vt ?_))); refine W_e ?_) | (apply ZK; first | refine Z4 ?_ | refine Z5 ?_) | refine Z6 ?_ | refine Z7 ?_ | refine Z8 ?_ | refine Z9 ?_ | refine ZA ?_ | refine ZB ?_ | refine ZC ?_ | refine ZD ?_ | refine ZE ?_ | refine ZF ?_ | refine ZG ?_ | refine ZH ?_)
      refine kLoop_n ⟨hlt, trivial, ?_⟩
      exact Wk.gx (fun b => b)
    · repeat (first | refine Z1 ?_ | refine Z2 ?_ | (refine Z3 ?_; (repeat (first | (apply gS; first | refine go_f ?_ | refine gx ?_ | refine gm ?_ | refine gp ?_))); refine T_nil ?_) | (apply ZR; (try dsimp only [List.map_cons, List.map_nil]); refine C_dr mixed ?_; (repeat (first | (apply vS; first | refine va ?_ | refine vp ?_ | refine vr ?_ | refine vt ?_))); refine W_e ?_) | (apply ZK; first | refine Z4 ?_ | refine Z5 ?_) | refine Z6 ?_ | refine Z7 ?_ | refine Z8 ?_ | refine Z9 ?_ | refine ZA ?_ | refine ZB ?_ | refine ZC ?_ | refine ZD ?_ | refine ZE ?_ | refine ZF ?_ | refine ZG ?_ | refine ZH ?_)
      repeat (first | refine kEnd_m ?_ | refine kEnd_f ?_)
      refine kEnd_g ?_ (by first | exact .inl rfl | exact .inr rfl)
      exact Sub.eq rfl rfl
end Go.Proofs.Ytifapodobhkdcaa
