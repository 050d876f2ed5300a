/- The law DomainSets returns true for every input: Meet has just the indexes of both, the inner part is within, the outer one meets it nowhere, turned twice is canonical. -/
import Derived.Test.YtifapodobhkdcaaSet2
import Derived.Test.YtifapodobhkdcaaSeq
import Derived.Test.YtifapodobhkdcaaCameT
namespace Go.Proofs.Ytifapodobhkdcaa.domainSets
open Go.RowKit Go.Proofs.Ytifapodobhkdcaa
set_option linter.unusedVariables false
set_option maxHeartbeats 16000000
set_option linter.unusedSimpArgs false
set_option maxRecDepth 100000
theorem awake_d : DC Try.prog 45 [] (bD true) := by
  have I := dIth_d [⟨1, 2, 1⟩, ⟨1, 3, 1⟩] 3
  rw [show dIthRes [⟨1, 2, 1⟩, ⟨1, 3, 1⟩] 3 = ([2, 1], 0) by decide] at I
  refine DC.of Try.func45 Try.ntmps45 Try.results45 rfl (by decide +kernel) rfl ?_
  repeat (first | refine Z1 ?_ | refine Z2 ?_ | (refine Z3 ?_; (repeat (first | (apply gS; first | refine go_no ?_ | refine go_f ?_ | refine gx ?_ | refine gm ?_ | refine gp ?_ | refine go_c rfl rfl (I) ?_ | refine go_cF rfl rfl (I) ?_ | refine go_cA rfl rfl (I) ?_) | (apply gZ; first | refine go_f ?_ | refine gx ?_ | refine gm ?_))); refine T_nil ?_) | (apply ZK; first | refine Z4 ?_ | refine Z5 ?_) | refine Z6 ?_ | refine Z7 ?_)
  repeat (first | refine kEnd_m ?_ | refine kEnd_f ?_)
  refine kEnd_g ?_ (by first | exact .inl rfl | exact .inr rfl)
  exact Sub.eq rfl rfl
theorem has_in {c : List Rg} (h : domB c = true) (x : List Int) : dHasRes c x = if x.length = c.length then (inB c x, 0) else (false, 2) := if_pos h
/-- Meet, and where an index is -/
theorem stage1 (a b : List Rg) (x : List Int) : ∃ (c : List Rg) (e : Int), DC Try.prog 32 [domD a, domD b] (.tup [domD c, iD e]) ∧ (e = 0 → ∃ (i1 i2 : Bool) (f : Int), DC Try.prog 33 [domD c, rowI x] (.tup [bD (i1 && i2), iD f]) ∧
    DC Try.prog 33 [domD a, rowI x] (.tup [bD i1, iD f]) ∧ DC Try.prog 33 [domD b, rowI x] (.tup [bD i2, iD f]) ∧ DC Try.prog 46 [domD c, domD a] (.tup [bD true, iD 0])) := by
  by_cases h : twoRes a b = 0
  case neg => exact ⟨[], _, dMeet_e a b h, fun e => absurd e h⟩
  obtain ⟨ha, hb, hl⟩ := twoRes_0.1 h
  obtain ⟨L, hL⟩ := meetL_ex a b hl
  refine ⟨_, _, dMeet_0 a b h hL, fun he => ?_⟩
  obtain ⟨m1, m2, m3, m4⟩ := meet_set h hL he
  rw [m2]
  obtain ⟨d1, d2⟩ := dom_can m1
  have Hc := dHas_d (canonRs (L.map (·.1))) x
  have Ha := dHas_d a x
  have Hb := dHas_d b x
  rw [has_in d1, m3] at Hc
  rw [has_in ha] at Ha
  rw [has_in hb, ← hl] at Hb
  have W := dWithin_d (canonRs (L.map (·.1))) a
  have htw : twoRes (canonRs (L.map (·.1))) a = 0 := twoRes_0.2 ⟨d1, ha, m3⟩
  rw [show dWithinRes (canonRs (L.map (·.1))) a = (true, 0) by
    unfold dWithinRes
    rw [if_pos htw]
    refine Prod.ext (decide_eq_true fun y hy => ?_) rfl
    have := (inB_mem (domB_iff.1 d1).2.1 y).2 hy
    rw [m4, Bool.and_eq_true] at this
    exact this.1] at W
  by_cases hx : x.length = a.length
  · rw [if_pos hx] at Hc Ha Hb
    rw [m4] at Hc
    exact ⟨_, _, _, Hc, Ha, Hb, W⟩
  · rw [if_neg hx] at Hc Ha Hb
    exact ⟨false, false, 2, Hc, Ha, Hb, W⟩
theorem stage2 (a : List Rg) (b : List Int) : ∃ (d : List Rg) (e : Int), DC Try.prog 47 [domD a, rowI b] (.tup [domD d, iD e]) ∧ (e = 0 → DC Try.prog 46 [domD d, domD a] (.tup [bD true, iD 0])) := by
  refine ⟨_, _, dInterior_d a b, fun he => ?_⟩
  obtain ⟨h1, h2⟩ := interior_in he
  have W := dWithin_d (moveRes innerRes a b).1 a
  rwa [h2] at W
def someB (b : List Int) (m : Nat) : Bool := (b.take m).any fun n => decide (n ≠ 0)
theorem stage3 (a : List Rg) (b : List Int) : ∃ (d : List Rg) (e : Int), DC Try.prog 48 [domD a, rowI b] (.tup [domD d, iD e]) ∧ (e = 0 → someB b b.length = true → ∃ m : List Rg, DC Try.prog 32 [domD d, domD a] (.tup [domD m, iD 0]) ∧ DC Try.prog 49 [domD m] (.tup [iD 0, iD 0])) := by
  refine ⟨_, _, dExterior_d a b, fun he hs => ?_⟩
  unfold someB at hs
  rw [List.take_length, List.any_eq_true] at hs
  obtain ⟨n, hn, hne⟩ := hs
  obtain ⟨k0, hk0, rfl⟩ := List.mem_iff_getElem.1 hn
  obtain ⟨h1, h2, h3⟩ := exterior_out he hk0 (of_decide_eq_true hne)
  obtain ⟨_, _, hl⟩ := twoRes_0.1 h2
  obtain ⟨L, hL⟩ := meetL_ex (moveRes outerRes a b).1 a hl
  obtain ⟨q1, q2⟩ := h3 L hL
  have M := dMeet_0 _ _ h2 hL
  rw [q1] at M
  have C := dCount_d (meetRes L).1
  rw [q2] at C
  exact ⟨_, M, C⟩
theorem stage4 (a : List Rg) : ∃ (t : List Rg) (e : Int), DC Try.prog 42 [domD a] (.tup [domD t, iD e]) ∧ (e ≠ 0 → DC Try.prog 50 [domD a] (bD false)) ∧ (e = 0 → ∃ u : List Rg, DC Try.prog 42 [domD t] (.tup [domD u, iD 0]) ∧ DC Try.prog 51 [domD a] (.tup [domD u, iD 0]) ∧ DC Try.prog 44 [domD u, domD u] (bD true)) := by
  cases hd : domB a with
  | false =>
    have T := dTranspose_d a
    rw [show tspRes a = ([], 40) by unfold tspRes; rw [if_neg (by rw [hd]; decide)]] at T
    exact ⟨_, _, T, fun _ => dValid_b a hd, fun h => by cases h⟩
  | true =>
    obtain ⟨t1, t2⟩ := turn_twice hd
    have T := dTranspose_d a
    rw [t1] at T
    have U := dTranspose_d (canonRs a).reverse
    rw [t2] at U
    have C := dCanon_d a
    rw [dCanonRes, if_pos hd] at C
    have E := equal_d (canonRs a) (by have := (domB_iff.1 hd).1.2; simp [canonRs]; omega)
    exact ⟨_, _, T, fun h => absurd rfl h, fun _ => ⟨_, U, C, E⟩⟩
set_option maxHeartbeats 8000000 in
theorem law_d (a b : List Rg) (x y : List Int) (hy : y.length ≤ 9223372036854775807) : DC Try.prog 7 [domD a, domD b, .agg [rowI x, rowI y]] (bD true) := by
  obtain ⟨c, e1, cMT, k1⟩ := stage1 a b x
  obtain ⟨d, e2, cIN, k2⟩ := stage2 a y
  obtain ⟨f, e3, cXT, k3⟩ := stage3 a y
  obtain ⟨t, e4, cTR, k4, k5⟩ := stage4 a
  have hstep := fun m (h : m < y.length) => any_snoc (fun n : Int => decide (n ≠ 0)) (l := y) (k := m) h
  obtain ⟨sm, hsm⟩ : ∃ sm : Nat → Bool, ∀ m, sm m = someB y m := ⟨_, fun _ => rfl⟩
  have hsm' : ∀ m, ((y.take m).any fun n : Int => decide (n ≠ 0)) = sm m := fun m => (hsm m).symm
  have s0 : sm 0 = false := by rw [hsm]; rfl
  simp only [hsm'] at hstep
  rw [← hsm] at k3
  clear hsm hsm'
  refine DC.of Try.func7 Try.ntmps7 Try.results7 rfl (by decide +kernel) rfl ?_
  repeat (first | refine Z1 ?_ | refine Z2 ?_ | (refine Z3 ?_; (repeat (first | (apply gS; first | refine go_no ?_ | refine go_f ?_ | refine gx ?_ | refine gm ?_ | refine gp ?_ | refine go_c rfl rfl (cMT) ?_ | refine go_cF rfl rfl (cMT) ?_ | refine go_cA rfl rfl (cMT) ?_) | (apply gZ; first | refine go_f ?_ | refine gx ?_ | refine gm ?_))); refine T_nil ?_) | (apply ZR; (try dsimp only [List.map_cons, List.map_nil]); refine C_dr mixed ?_; (repeat (first | (apply vS; first | refine vn ?_ | refine va ?_ | refine vp ?_ | refine vr ?_ | refine vt ?_ | refine vc (cMT) ?_ | refine vcF (cMT) ?_) | (apply vZ; first | refine vs ?_ | refine vw ?_))); refine W_e ?_) | (apply ZK; first | refine Z4 ?_ | refine Z5 ?_) | refine Z6 ?_ | refine Z7 ?_ | refine Z8 ?_ | refine Z9 ?_ | refine ZA ?_ | refine ZB ?_ | refine ZC ?_ | refine ZD ?_ | refine ZE ?_ | refine ZF ?_ | refine ZG ?_ | refine ZH ?_)
  -- what both have
  refine C_cut ⟨3, 197, [(8, rowI y), (3, .ptr 0 0)], [(0, some ⟨24, 1, 1, [rowR a]⟩)]⟩ ?_ ?_
  · by_cases h1 : e1 = 0
    · obtain ⟨i1, i2, ff, q1, q2, q3, q4⟩ := k1 h1
      clear k1 k2 k3 k4 k5
      rw [decide_eq_true h1]
      cases i1
      all_goals
        cases i2
        all_goals
          simp only [Bool.and_false, Bool.and_true] at q1
          repeat (first | refine Z1 ?_ | refine Z2 ?_ | (refine Z3 ?_; (repeat (first | (apply gS; first | refine go_no ?_ | refine go_f ?_ | refine gx ?_ | refine gm ?_ | refine gp ?_ | refine go_c rfl rfl (q1) ?_ | refine go_cF rfl rfl (q1) ?_ | refine go_cA rfl rfl (q1) ?_ | refine go_c rfl rfl (q2) ?_ | refine go_cF rfl rfl (q2) ?_ | refine go_cA rfl rfl (q2) ?_ | refine go_c rfl rfl (q3) ?_ | refine go_cF rfl rfl (q3) ?_ | refine go_cA rfl rfl (q3) ?_ | refine go_c rfl rfl (q4) ?_ | refine go_cF rfl rfl (q4) ?_ | refine go_cA rfl rfl (q4) ?_) | (apply gZ; first | refine go_f ?_ | refine gx ?_ | refine gm ?_))); refine T_nil ?_) | (apply ZR; (try dsimp only [List.map_cons, List.map_nil]); refine C_dr mixed ?_; (repeat (first | (apply vS; first | refine vn ?_ | refine va ?_ | refine vp ?_ | refine vr ?_ | refine vt ?_ | refine vc (q1) ?_ | refine vcF (q1) ?_ | refine vc (q2) ?_ | refine vcF (q2) ?_ | refine vc (q3) ?_ | refine vcF (q3) ?_ | refine vc (q4) ?_ | refine vcF (q4) ?_) | (apply vZ; first | refine vs ?_ | refine vw ?_))); refine W_e ?_) | (apply ZK; first | refine Z4 ?_ | refine Z5 ?_) | refine Z6 ?_ | refine Z7 ?_ | refine Z8 ?_ | refine Z9 ?_ | refine ZA ?_ | refine ZB ?_ | refine ZC ?_ | refine ZD ?_ | refine ZE ?_ | refine ZF ?_ | refine ZG ?_ | refine ZH ?_)
          refine kCut_n ?_
          exact Wk.gx (fun b => b)
    · rw [decide_eq_false h1]
      repeat (first | refine Z1 ?_ | refine Z2 ?_ | (refine Z3 ?_; (repeat (first | (apply gS; first | refine go_no ?_ | refine go_f ?_ | refine gx ?_ | refine gm ?_ | refine gp ?_) | (apply gZ; first | refine go_f ?_ | refine gx ?_ | refine gm ?_))); refine T_nil ?_) | (apply ZR; (try dsimp only [List.map_cons, List.map_nil]); refine C_dr mixed ?_; (repeat (first | (apply vS; first | refine vn ?_ | refine va ?_ | refine vp ?_ | refine vr ?_ | refine vt ?_) | (apply vZ; first | refine vs ?_ | refine vw ?_))); refine W_e ?_) | (apply ZK; first | refine Z4 ?_ | refine Z5 ?_) | refine Z6 ?_ | refine Z7 ?_ | refine Z8 ?_ | refine Z9 ?_ | refine ZA ?_ | refine ZB ?_ | refine ZC ?_ | refine ZD ?_ | refine ZE ?_ | refine ZF ?_ | refine ZG ?_ | refine ZH ?_)
      refine kCut_n ?_
      exact Wk.gx (fun b => b)
  clear cMT k1
  repeat (first | refine Z1 ?_ | refine Z2 ?_ | (refine Z3 ?_; (repeat (first | (apply gS; first | refine go_no ?_ | refine go_f ?_ | refine gx ?_ | refine gm ?_ | refine gp ?_ | refine go_c rfl rfl (cIN) ?_ | refine go_cF rfl rfl (cIN) ?_ | refine go_cA rfl rfl (cIN) ?_) | (apply gZ; first | refine go_f ?_ | refine gx ?_ | refine gm ?_))); refine T_nil ?_) | (apply ZR; (try dsimp only [List.map_cons, List.map_nil]); refine C_dr mixed ?_; (repeat (first | (apply vS; first | refine vn ?_ | refine va ?_ | refine vp ?_ | refine vr ?_ | refine vt ?_ | refine vc (cIN) ?_ | refine vcF (cIN) ?_) | (apply vZ; first | refine vs ?_ | refine vw ?_))); refine W_e ?_) | (apply ZK; first | refine Z4 ?_ | refine Z5 ?_) | refine Z6 ?_ | refine Z7 ?_ | refine Z8 ?_ | refine Z9 ?_ | refine ZA ?_ | refine ZB ?_ | refine ZC ?_ | refine ZD ?_ | refine ZE ?_ | refine ZF ?_ | refine ZG ?_ | refine ZH ?_)
  refine C_cut ⟨3, 197, [(8, rowI y), (3, .ptr 0 0)], [(0, some ⟨24, 1, 1, [rowR a]⟩)]⟩ ?_ ?_
  · by_cases h2 : e2 = 0
    · have q := k2 h2
      clear k2 k3 k4 k5
      rw [decide_eq_true h2]
      repeat (first | refine Z1 ?_ | refine Z2 ?_ | (refine Z3 ?_; (repeat (first | (apply gS; first | refine go_no ?_ | refine go_f ?_ | refine gx ?_ | refine gm ?_ | refine gp ?_ | refine go_c rfl rfl (q) ?_ | refine go_cF rfl rfl (q) ?_ | refine go_cA rfl rfl (q) ?_) | (apply gZ; first | refine go_f ?_ | refine gx ?_ | refine gm ?_))); refine T_nil ?_) | (apply ZR; (try dsimp only [List.map_cons, List.map_nil]); refine C_dr mixed ?_; (repeat (first | (apply vS; first | refine vn ?_ | refine va ?_ | refine vp ?_ | refine vr ?_ | refine vt ?_ | refine vc (q) ?_ | refine vcF (q) ?_) | (apply vZ; first | refine vs ?_ | refine vw ?_))); refine W_e ?_) | (apply ZK; first | refine Z4 ?_ | refine Z5 ?_) | refine Z6 ?_ | refine Z7 ?_ | refine Z8 ?_ | refine Z9 ?_ | refine ZA ?_ | refine ZB ?_ | refine ZC ?_ | refine ZD ?_ | refine ZE ?_ | refine ZF ?_ | refine ZG ?_ | refine ZH ?_)
      refine kCut_n ?_
      exact Wk.gx (fun b => b)
    · rw [decide_eq_false h2]
      repeat (first | refine Z1 ?_ | refine Z2 ?_ | (refine Z3 ?_; (repeat (first | (apply gS; first | refine go_no ?_ | refine go_f ?_ | refine gx ?_ | refine gm ?_ | refine gp ?_) | (apply gZ; first | refine go_f ?_ | refine gx ?_ | refine gm ?_))); refine T_nil ?_) | (apply ZR; (try dsimp only [List.map_cons, List.map_nil]); refine C_dr mixed ?_; (repeat (first | (apply vS; first | refine vn ?_ | refine va ?_ | refine vp ?_ | refine vr ?_ | refine vt ?_) | (apply vZ; first | refine vs ?_ | refine vw ?_))); refine W_e ?_) | (apply ZK; first | refine Z4 ?_ | refine Z5 ?_) | refine Z6 ?_ | refine Z7 ?_ | refine Z8 ?_ | refine Z9 ?_ | refine ZA ?_ | refine ZB ?_ | refine ZC ?_ | refine ZD ?_ | refine ZE ?_ | refine ZF ?_ | refine ZG ?_ | refine ZH ?_)
      refine kCut_n ?_
      exact Wk.gx (fun b => b)
  clear cIN k2
  repeat (first | refine Z1 ?_ | refine Z2 ?_ | (refine Z3 ?_; (repeat (first | (apply gS; first | refine go_no ?_ | refine go_f ?_ | refine gx ?_ | refine gm ?_ | refine gp ?_) | (apply gZ; first | refine go_f ?_ | refine gx ?_ | refine gm ?_))); refine T_nil ?_) | (apply ZR; (try dsimp only [List.map_cons, List.map_nil]); refine C_dr mixed ?_; (repeat (first | (apply vS; first | refine vn ?_ | refine va ?_ | refine vp ?_ | refine vr ?_ | refine vt ?_) | (apply vZ; first | refine vs ?_ | refine vw ?_))); refine W_e ?_) | (apply ZK; first | refine Z4 ?_ | refine Z5 ?_) | refine Z6 ?_ | refine Z7 ?_ | refine Z8 ?_ | refine Z9 ?_ | refine ZA ?_ | refine ZB ?_ | refine ZC ?_ | refine ZD ?_ | refine ZE ?_ | refine ZF ?_ | refine ZG ?_ | refine ZH ?_)
  refine C_count y.length (fun _ => True) (fun m => ⟨3, 197, [(24, iD m), (23, bD (sm m)), (8, rowI y), (3, .ptr 0 0)], [(0, some ⟨24, 1, 1, [rowR a]⟩)]⟩) ?_ trivial ?_
  · rw [s0]
    exact Wk.gx (fun b => b)
  · intro m hm _
    by_cases hlt : m < y.length
    · have s1 := hstep m hlt
      clear hstep k3 k4 k5
      cases hmm : sm m
      · rw [hmm, Bool.false_or] at s1
        by_cases hn : y[m] = 0
        · rw [decide_eq_false (fun h => h hn)] at s1
          rw [s1]
          repeat (first | refine Z1 ?_ | refine Z2 ?_ | (refine Z3 ?_; (repeat (first | (apply gS; first | refine go_no ?_ | refine go_f ?_ | refine gx ?_ | refine gm ?_ | refine gp ?_) | (apply gZ; first | refine go_f ?_ | refine gx ?_ | refine gm ?_))); refine T_nil ?_) | (apply ZR; (try dsimp only [List.map_cons, List.map_nil]); refine C_dr mixed ?_; (repeat (first | (apply vS; first | refine vn ?_ | refine va ?_ | refine vp ?_ | refine vr ?_ | refine vt ?_) | (apply vZ; first | refine vs ?_ | refine vw ?_))); refine W_e ?_) | (apply ZK; first | refine Z4 ?_ | refine Z5 ?_) | refine Z6 ?_ | refine Z7 ?_ | refine Z8 ?_ | refine Z9 ?_ | refine ZA ?_ | refine ZB ?_ | refine ZC ?_ | refine ZD ?_ | refine ZE ?_ | refine ZF ?_ | refine ZG ?_ | refine ZH ?_)
          refine kLoop_n ⟨hlt, trivial, ?_⟩
          exact Wk.gx (fun b => b)
        · rw [decide_eq_true hn] at s1
          rw [s1]
          repeat (first | refine Z1 ?_ | refine Z2 ?_ | (refine Z3 ?_; (repeat (first | (apply gS; first | refine go_no ?_ | refine go_f ?_ | refine gx ?_ | refine gm ?_ | refine gp ?_) | (apply gZ; first | refine go_f ?_ | refine gx ?_ | refine gm ?_))); refine T_nil ?_) | (apply ZR; (try dsimp only [List.map_cons, List.map_nil]); refine C_dr mixed ?_; (repeat (first | (apply vS; first | refine vn ?_ | refine va ?_ | refine vp ?_ | refine vr ?_ | refine vt ?_) | (apply vZ; first | refine vs ?_ | refine vw ?_))); refine W_e ?_) | (apply ZK; first | refine Z4 ?_ | refine Z5 ?_) | refine Z6 ?_ | refine Z7 ?_ | refine Z8 ?_ | refine Z9 ?_ | refine ZA ?_ | refine ZB ?_ | refine ZC ?_ | refine ZD ?_ | refine ZE ?_ | refine ZF ?_ | refine ZG ?_ | refine ZH ?_)
          refine kLoop_n ⟨hlt, trivial, ?_⟩
          exact Wk.gx (fun b => b)
      · rw [hmm, Bool.true_or] at s1
        rw [s1]
        repeat (first | refine Z1 ?_ | refine Z2 ?_ | (refine Z3 ?_; (repeat (first | (apply gS; first | refine go_no ?_ | refine go_f ?_ | refine gx ?_ | refine gm ?_ | refine gp ?_) | (apply gZ; first | refine go_f ?_ | refine gx ?_ | refine gm ?_))); refine T_nil ?_) | (apply ZR; (try dsimp only [List.map_cons, List.map_nil]); refine C_dr mixed ?_; (repeat (first | (apply vS; first | refine vn ?_ | refine va ?_ | refine vp ?_ | refine vr ?_ | refine vt ?_) | (apply vZ; first | refine vs ?_ | refine vw ?_))); refine W_e ?_) | (apply ZK; first | refine Z4 ?_ | refine Z5 ?_) | refine Z6 ?_ | refine Z7 ?_ | refine Z8 ?_ | refine Z9 ?_ | refine ZA ?_ | refine ZB ?_ | refine ZC ?_ | refine ZD ?_ | refine ZE ?_ | refine ZF ?_ | refine ZG ?_ | refine ZH ?_)
        refine kLoop_n ⟨hlt, trivial, ?_⟩
        exact Wk.gx (fun b => b)
    · obtain rfl : m = y.length := by omega
      clear hstep
      cases hs : sm y.length
      · by_cases h3 : e3 = 0
        all_goals
          by_cases h4 : e4 = 0
          · obtain ⟨u, q1, q2, q3⟩ := k5 h4
            clear k3 k4 k5
            repeat (first | refine Z1 ?_ | refine Z2 ?_ | (refine Z3 ?_; (repeat (first | (apply gS; first | refine go_no ?_ | refine go_f ?_ | refine gx ?_ | refine gm ?_ | refine gp ?_ | refine go_c rfl rfl (cXT) ?_ | refine go_cF rfl rfl (cXT) ?_ | refine go_cA rfl rfl (cXT) ?_ | refine go_c rfl rfl (cTR) ?_ | refine go_cF rfl rfl (cTR) ?_ | refine go_cA rfl rfl (cTR) ?_ | refine go_c rfl rfl (q1) ?_ | refine go_cF rfl rfl (q1) ?_ | refine go_cA rfl rfl (q1) ?_ | refine go_c rfl rfl (q2) ?_ | refine go_cF rfl rfl (q2) ?_ | refine go_cA rfl rfl (q2) ?_ | refine go_c rfl rfl (q3) ?_ | refine go_cF rfl rfl (q3) ?_ | refine go_cA rfl rfl (q3) ?_ | refine go_c rfl rfl (awake_d) ?_ | refine go_cF rfl rfl (awake_d) ?_ | refine go_cA rfl rfl (awake_d) ?_) | (apply gZ; first | refine go_f ?_ | refine gx ?_ | refine gm ?_))); refine T_nil ?_) | (apply ZR; (try dsimp only [List.map_cons, List.map_nil]); refine C_dr mixed ?_; (repeat (first | (apply vS; first | refine vn ?_ | refine va ?_ | refine vp ?_ | refine vr ?_ | refine vt ?_ | refine vc (cXT) ?_ | refine vcF (cXT) ?_ | refine vc (cTR) ?_ | refine vcF (cTR) ?_ | refine vc (q1) ?_ | refine vcF (q1) ?_ | refine vc (q2) ?_ | refine vcF (q2) ?_ | refine vc (q3) ?_ | refine vcF (q3) ?_ | refine vc (awake_d) ?_ | refine vcF (awake_d) ?_) | (apply vZ; first | refine vs ?_ | refine vw ?_))); refine W_e ?_) | (apply ZK; first | refine Z4 ?_ | refine Z5 ?_) | refine Z6 ?_ | refine Z7 ?_ | refine Z8 ?_ | refine Z9 ?_ | refine ZA ?_ | refine ZB ?_ | refine ZC ?_ | refine ZD ?_ | refine ZE ?_ | refine ZF ?_ | refine ZG ?_ | refine ZH ?_)
            repeat (first | refine kEnd_m ?_ | refine kEnd_f ?_)
            refine kEnd_g ?_ (by first | exact .inl rfl | exact .inr rfl)
            exact Sub.eq rfl rfl
          · have q := k4 h4
            clear k3 k4 k5
            repeat (first | refine Z1 ?_ | refine Z2 ?_ | (refine Z3 ?_; (repeat (first | (apply gS; first | refine go_no ?_ | refine go_f ?_ | refine gx ?_ | refine gm ?_ | refine gp ?_ | refine go_c rfl rfl (cXT) ?_ | refine go_cF rfl rfl (cXT) ?_ | refine go_cA rfl rfl (cXT) ?_ | refine go_c rfl rfl (cTR) ?_ | refine go_cF rfl rfl (cTR) ?_ | refine go_cA rfl rfl (cTR) ?_ | refine go_c rfl rfl (q) ?_ | refine go_cF rfl rfl (q) ?_ | refine go_cA rfl rfl (q) ?_ | refine go_c rfl rfl (awake_d) ?_ | refine go_cF rfl rfl (awake_d) ?_ | refine go_cA rfl rfl (awake_d) ?_) | (apply gZ; first | refine go_f ?_ | refine gx ?_ | refine gm ?_))); refine T_nil ?_) | (apply ZR; (try dsimp only [List.map_cons, List.map_nil]); refine C_dr mixed ?_; (repeat (first | (apply vS; first | refine vn ?_ | refine va ?_ | refine vp ?_ | refine vr ?_ | refine vt ?_ | refine vc (cXT) ?_ | refine vcF (cXT) ?_ | refine vc (cTR) ?_ | refine vcF (cTR) ?_ | refine vc (q) ?_ | refine vcF (q) ?_ | refine vc (awake_d) ?_ | refine vcF (awake_d) ?_) | (apply vZ; first | refine vs ?_ | refine vw ?_))); refine W_e ?_) | (apply ZK; first | refine Z4 ?_ | refine Z5 ?_) | refine Z6 ?_ | refine Z7 ?_ | refine Z8 ?_ | refine Z9 ?_ | refine ZA ?_ | refine ZB ?_ | refine ZC ?_ | refine ZD ?_ | refine ZE ?_ | refine ZF ?_ | refine ZG ?_ | refine ZH ?_)
            repeat (first | refine kEnd_m ?_ | refine kEnd_f ?_)
            refine kEnd_g ?_ (by first | exact .inl rfl | exact .inr rfl)
            exact Sub.eq rfl rfl
      · by_cases h3 : e3 = 0
        · obtain ⟨mm, p1, p2⟩ := k3 h3 hs
          by_cases h4 : e4 = 0
          · obtain ⟨u, q1, q2, q3⟩ := k5 h4
            clear k3 k4 k5
            repeat (first | refine Z1 ?_ | refine Z2 ?_ | (refine Z3 ?_; (repeat (first | (apply gS; first | refine go_no ?_ | refine go_f ?_ | refine gx ?_ | refine gm ?_ | refine gp ?_ | refine go_c rfl rfl (cXT) ?_ | refine go_cF rfl rfl (cXT) ?_ | refine go_cA rfl rfl (cXT) ?_ | refine go_c rfl rfl (p1) ?_ | refine go_cF rfl rfl (p1) ?_ | refine go_cA rfl rfl (p1) ?_ | refine go_c rfl rfl (p2) ?_ | refine go_cF rfl rfl (p2) ?_ | refine go_cA rfl rfl (p2) ?_ | refine go_c rfl rfl (cTR) ?_ | refine go_cF rfl rfl (cTR) ?_ | refine go_cA rfl rfl (cTR) ?_ | refine go_c rfl rfl (q1) ?_ | refine go_cF rfl rfl (q1) ?_ | refine go_cA rfl rfl (q1) ?_ | refine go_c rfl rfl (q2) ?_ | refine go_cF rfl rfl (q2) ?_ | refine go_cA rfl rfl (q2) ?_ | refine go_c rfl rfl (q3) ?_ | refine go_cF rfl rfl (q3) ?_ | refine go_cA rfl rfl (q3) ?_ | refine go_c rfl rfl (awake_d) ?_ | refine go_cF rfl rfl (awake_d) ?_ | refine go_cA rfl rfl (awake_d) ?_) | (apply gZ; first | refine go_f ?_ | refine gx ?_ | refine gm ?_))); refine T_nil ?_) | (apply ZR; (try dsimp only [List.map_cons, List.map_nil]); refine C_dr mixed ?_; (repeat (first | (apply vS; first | refine vn ?_ | refine va ?_ | refine vp ?_ | refine vr ?_ | refine vt ?_ | refine vc (cXT) ?_ | refine vcF (cXT) ?_ | refine vc (p1) ?_ | refine vcF (p1) ?_ | refine vc (p2) ?_ | refine vcF (p2) ?_ | refine vc (cTR) ?_ | refine vcF (cTR) ?_ | refine vc (q1) ?_ | refine vcF (q1) ?_ | refine vc (q2) ?_ | refine vcF (q2) ?_ | refine vc (q3) ?_ | refine vcF (q3) ?_ | refine vc (awake_d) ?_ | refine vcF (awake_d) ?_) | (apply vZ; first | refine vs ?_ | refine vw ?_))); refine W_e ?_) | (apply ZK; first | refine Z4 ?_ | refine Z5 ?_) | refine Z6 ?_ | refine Z7 ?_ | refine Z8 ?_ | refine Z9 ?_ | refine ZA ?_ | refine ZB ?_ | refine ZC ?_ | refine ZD ?_ | refine ZE ?_ | refine ZF ?_ | refine ZG ?_ | refine ZH ?_)
            repeat (first | refine kEnd_m ?_ | refine kEnd_f ?_)
            refine kEnd_g ?_ (by first | exact .inl rfl | exact .inr rfl)
            exact Sub.eq rfl rfl
          · have q := k4 h4
            clear k3 k4 k5
            repeat (first | refine Z1 ?_ | refine Z2 ?_ | (refine Z3 ?_; (repeat (first | (apply gS; first | refine go_no ?_ | refine go_f ?_ | refine gx ?_ | refine gm ?_ | refine gp ?_ | refine go_c rfl rfl (cXT) ?_ | refine go_cF rfl rfl (cXT) ?_ | refine go_cA rfl rfl (cXT) ?_ | refine go_c rfl rfl (p1) ?_ | refine go_cF rfl rfl (p1) ?_ | refine go_cA rfl rfl (p1) ?_ | refine go_c rfl rfl (p2) ?_ | refine go_cF rfl rfl (p2) ?_ | refine go_cA rfl rfl (p2) ?_ | refine go_c rfl rfl (cTR) ?_ | refine go_cF rfl rfl (cTR) ?_ | refine go_cA rfl rfl (cTR) ?_ | refine go_c rfl rfl (q) ?_ | refine go_cF rfl rfl (q) ?_ | refine go_cA rfl rfl (q) ?_ | refine go_c rfl rfl (awake_d) ?_ | refine go_cF rfl rfl (awake_d) ?_ | refine go_cA rfl rfl (awake_d) ?_) | (apply gZ; first | refine go_f ?_ | refine gx ?_ | refine gm ?_))); refine T_nil ?_) | (apply ZR; (try dsimp only [List.map_cons, List.map_nil]); refine C_dr mixed ?_; (repeat (first | (apply vS; first | refine vn ?_ | refine va ?_ | refine vp ?_ | refine vr ?_ | refine vt ?_ | refine vc (cXT) ?_ | refine vcF (cXT) ?_ | refine vc (p1) ?_ | refine vcF (p1) ?_ | refine vc (p2) ?_ | refine vcF (p2) ?_ | refine vc (cTR) ?_ | refine vcF (cTR) ?_ | refine vc (q) ?_ | refine vcF (q) ?_ | refine vc (awake_d) ?_ | refine vcF (awake_d) ?_) | (apply vZ; first | refine vs ?_ | refine vw ?_))); refine W_e ?_) | (apply ZK; first | refine Z4 ?_ | refine Z5 ?_) | refine Z6 ?_ | refine Z7 ?_ | refine Z8 ?_ | refine Z9 ?_ | refine ZA ?_ | refine ZB ?_ | refine ZC ?_ | refine ZD ?_ | refine ZE ?_ | refine ZF ?_ | refine ZG ?_ | refine ZH ?_)
            repeat (first | refine kEnd_m ?_ | refine kEnd_f ?_)
            refine kEnd_g ?_ (by first | exact .inl rfl | exact .inr rfl)
            exact Sub.eq rfl rfl
        · by_cases h4 : e4 = 0
          · obtain ⟨u, q1, q2, q3⟩ := k5 h4
            clear k3 k4 k5
            repeat (first | refine Z1 ?_ | refine Z2 ?_ | (refine Z3 ?_; (repeat (first | (apply gS; first | refine go_no ?_ | refine go_f ?_ | refine gx ?_ | refine gm ?_ | refine gp ?_ | refine go_c rfl rfl (cXT) ?_ | refine go_cF rfl rfl (cXT) ?_ | refine go_cA rfl rfl (cXT) ?_ | refine go_c rfl rfl (cTR) ?_ | refine go_cF rfl rfl (cTR) ?_ | refine go_cA rfl rfl (cTR) ?_ | refine go_c rfl rfl (q1) ?_ | refine go_cF rfl rfl (q1) ?_ | refine go_cA rfl rfl (q1) ?_ | refine go_c rfl rfl (q2) ?_ | refine go_cF rfl rfl (q2) ?_ | refine go_cA rfl rfl (q2) ?_ | refine go_c rfl rfl (q3) ?_ | refine go_cF rfl rfl (q3) ?_ | refine go_cA rfl rfl (q3) ?_ | refine go_c rfl rfl (awake_d) ?_ | refine go_cF rfl rfl (awake_d) ?_ | refine go_cA rfl rfl (awake_d) ?_) | (apply gZ; first | refine go_f ?_ | refine gx ?_ | refine gm ?_))); refine T_nil ?_) | (apply ZR; (try dsimp only [List.map_cons, List.map_nil]); refine C_dr mixed ?_; (repeat (first | (apply vS; first | refine vn ?_ | refine va ?_ | refine vp ?_ | refine vr ?_ | refine vt ?_ | refine vc (cXT) ?_ | refine vcF (cXT) ?_ | refine vc (cTR) ?_ | refine vcF (cTR) ?_ | refine vc (q1) ?_ | refine vcF (q1) ?_ | refine vc (q2) ?_ | refine vcF (q2) ?_ | refine vc (q3) ?_ | refine vcF (q3) ?_ | refine vc (awake_d) ?_ | refine vcF (awake_d) ?_) | (apply vZ; first | refine vs ?_ | refine vw ?_))); refine W_e ?_) | (apply ZK; first | refine Z4 ?_ | refine Z5 ?_) | refine Z6 ?_ | refine Z7 ?_ | refine Z8 ?_ | refine Z9 ?_ | refine ZA ?_ | refine ZB ?_ | refine ZC ?_ | refine ZD ?_ | refine ZE ?_ | refine ZF ?_ | refine ZG ?_ | refine ZH ?_)
            repeat (first | refine kEnd_m ?_ | refine kEnd_f ?_)
            refine kEnd_g ?_ (by first | exact .inl rfl | exact .inr rfl)
            exact Sub.eq rfl rfl
          · have q := k4 h4
            clear k3 k4 k5
            repeat (first | refine Z1 ?_ | refine Z2 ?_ | (refine Z3 ?_; (repeat (first | (apply gS; first | refine go_no ?_ | refine go_f ?_ | refine gx ?_ | refine gm ?_ | refine gp ?_ | refine go_c rfl rfl (cXT) ?_ | refine go_cF rfl rfl (cXT) ?_ | refine go_cA rfl rfl (cXT) ?_ | refine go_c rfl rfl (cTR) ?_ | refine go_cF rfl rfl (cTR) ?_ | refine go_cA rfl rfl (cTR) ?_ | refine go_c rfl rfl (q) ?_ | refine go_cF rfl rfl (q) ?_ | refine go_cA rfl rfl (q) ?_ | refine go_c rfl rfl (awake_d) ?_ | refine go_cF rfl rfl (awake_d) ?_ | refine go_cA rfl rfl (awake_d) ?_) | (apply gZ; first | refine go_f ?_ | refine gx ?_ | refine gm ?_))); refine T_nil ?_) | (apply ZR; (try dsimp only [List.map_cons, List.map_nil]); refine C_dr mixed ?_; (repeat (first | (apply vS; first | refine vn ?_ | refine va ?_ | refine vp ?_ | refine vr ?_ | refine vt ?_ | refine vc (cXT) ?_ | refine vcF (cXT) ?_ | refine vc (cTR) ?_ | refine vcF (cTR) ?_ | refine vc (q) ?_ | refine vcF (q) ?_ | refine vc (awake_d) ?_ | refine vcF (awake_d) ?_) | (apply vZ; first | refine vs ?_ | refine vw ?_))); refine W_e ?_) | (apply ZK; first | refine Z4 ?_ | refine Z5 ?_) | refine Z6 ?_ | refine Z7 ?_ | refine Z8 ?_ | refine Z9 ?_ | refine ZA ?_ | refine ZB ?_ | refine ZC ?_ | refine ZD ?_ | refine ZE ?_ | refine ZF ?_ | refine ZG ?_ | refine ZH ?_)
            repeat (first | refine kEnd_m ?_ | refine kEnd_f ?_)
            refine kEnd_g ?_ (by first | exact .inl rfl | exact .inr rfl)
            exact Sub.eq rfl rfl
theorem row_bd {I : Nat → Prop} {w : World} {n : Nat} {xs : List D} {v : Value} (h : RC I w (.row n xs) v) : n ≤ maxLen := by
  cases h with
  | row hc hm => omega
theorem agg_bd {I : Nat → Prop} {w : World} {d : D} {n : Nat} {xs : List D} {v : Value} (h : RC I w (.agg [d, .row n xs]) v) : n ≤ maxLen := by
  cases h with
  | agg hl ho hr =>
    rename_i us
    match us, hl with
    | [u0, u1], _ => exact row_bd (hr 1 _ u1 rfl rfl)
theorem walk {w : World} (v : Value) (a : List Rg) (ac : RC (fun b => b < w.heap.size) w (domD a) v) (v2 : Value) (b : List Rg) (bc : RC (fun b => b < w.heap.size) w (domD b) v2) (v3 : Value) (xy : List Int × List Int) (xc : RC (fun b => b < w.heap.size) w (.agg [rowI xy.1, rowI xy.2]) v3) : Calls Try.prog 7 #[v, v2, v3] w fun e w' => e = .returned (.bool true) ∧ Below w.heap.size w w' :=
  DC.law (law_d a b xy.1 xy.2 (Nat.le_trans (agg_bd (n := xy.2.length) xc) (by unfold maxLen; decide))) (.cons ac (.cons bc (.cons xc .nil)))
theorem flat_int (l : List Int) : l.flatMap (fun n : Int => [iD n]) = intsD l := flat_one iD l
theorem came_ints : Came Try.prog 25 fun l : List Int => [rowI l] := fun {H} {enc} =>
  Came.to (came_slice Try.underlying25 (k := 1) (fun _ => rfl) (by kernel_rfl) (came_int Try.underlying3)) fun a => ⟨a, by rw [flat_int]⟩
theorem came_at : Came Try.prog 58 fun t : List Int × List Int => [rowI t.1, rowI t.2] := fun {H} {enc} =>
  Came.to (came_struct2 Try.underlying58 (by kernel_rfl) (by kernel_rfl) (by kernel_rfl) came_ints came_ints) fun a => ⟨a, rfl⟩
end Go.Proofs.Ytifapodobhkdcaa.domainSets
