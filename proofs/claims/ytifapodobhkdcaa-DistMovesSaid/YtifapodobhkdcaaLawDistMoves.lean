/- The law DistMoves returns true for every input: what moves is what the reference says. -/
import Derived.Test.YtifapodobhkdcaaDsB
import Derived.Test.YtifapodobhkdcaaCameT
namespace Go.Proofs.Ytifapodobhkdcaa.distMoves
open Go.RowKit Go.Proofs.Ytifapodobhkdcaa
set_option linter.unusedVariables false
set_option maxHeartbeats 16000000
set_option linter.unusedSimpArgs false
set_option maxRecDepth 100000
abbrev spreadD (s : ByteArray) (n o : Int) (rs : List Rg) : D := .agg [sD s, iD n, iD o, rowR rs]
theorem sameNil_d : DC Try.prog 71 [.row 0 [], .row 0 []] (bD true) := sameCounts_d kdMove (fun _ => 0)
set_option maxHeartbeats 8000000 in
theorem law_d (s : ByteArray) (n o : Int) (rs : List Rg) (s' : ByteArray) (n' o' : Int) (es : List Rg) : DC Try.prog 13 [spreadD s n o rs, spreadD s' n' o' es] (bD true) := by
  obtain ⟨b1, L1⟩ := large7_d rs
  obtain ⟨b2, L2⟩ := large7_d es
  cases b1
  case true =>
    refine DC.of Try.func13 Try.ntmps13 Try.results13 rfl (by decide +kernel) rfl ?_
    repeat (first | refine Z1 ?_ | refine Z2 ?_ | (refine Z3 ?_; (repeat (first | (apply gS; first | refine go_no ?_ | refine go_f ?_ | refine gx ?_ | refine gm ?_ | refine gp ?_ | refine go_c rfl rfl (L1) ?_ | refine go_cF rfl rfl (L1) ?_ | refine go_cA rfl rfl (L1) ?_ | refine go_c rfl rfl (L2) ?_ | refine go_cF rfl rfl (L2) ?_ | refine go_cA rfl rfl (L2) ?_ | refine go_c rfl rfl (first7_d) ?_ | refine go_cF rfl rfl (first7_d) ?_ | refine go_cA rfl rfl (first7_d) ?_))); refine T_nil ?_) | (apply ZR; (try dsimp only [List.map_cons, List.map_nil]); refine C_dr mixed ?_; (repeat (first | (apply vS; first | refine vn ?_ | refine va ?_ | refine vp ?_ | refine vr ?_ | refine vt ?_ | refine vc (L1) ?_ | refine vcF (L1) ?_ | refine vc (L2) ?_ | refine vcF (L2) ?_ | refine vc (first7_d) ?_ | refine vcF (first7_d) ?_))); refine W_e ?_) | (apply ZK; first | refine Z4 ?_ | refine Z5 ?_) | refine Z6 ?_ | refine Z7 ?_ | refine ZF ?_)
    repeat (first | refine kEnd_m ?_ | refine kEnd_f ?_)
    refine kEnd_g ?_ (by first | exact .inl rfl | exact .inr rfl)
    exact Sub.eq rfl rfl
  cases b2
  case true =>
    refine DC.of Try.func13 Try.ntmps13 Try.results13 rfl (by decide +kernel) rfl ?_
    repeat (first | refine Z1 ?_ | refine Z2 ?_ | (refine Z3 ?_; (repeat (first | (apply gS; first | refine go_no ?_ | refine go_f ?_ | refine gx ?_ | refine gm ?_ | refine gp ?_ | refine go_c rfl rfl (L1) ?_ | refine go_cF rfl rfl (L1) ?_ | refine go_cA rfl rfl (L1) ?_ | refine go_c rfl rfl (L2) ?_ | refine go_cF rfl rfl (L2) ?_ | refine go_cA rfl rfl (L2) ?_ | refine go_c rfl rfl (first7_d) ?_ | refine go_cF rfl rfl (first7_d) ?_ | refine go_cA rfl rfl (first7_d) ?_))); refine T_nil ?_) | (apply ZR; (try dsimp only [List.map_cons, List.map_nil]); refine C_dr mixed ?_; (repeat (first | (apply vS; first | refine vn ?_ | refine va ?_ | refine vp ?_ | refine vr ?_ | refine vt ?_ | refine vc (L1) ?_ | refine vcF (L1) ?_ | refine vc (L2) ?_ | refine vcF (L2) ?_ | refine vc (first7_d) ?_ | refine vcF (first7_d) ?_))); refine W_e ?_) | (apply ZK; first | refine Z4 ?_ | refine Z5 ?_) | refine Z6 ?_ | refine Z7 ?_ | refine ZF ?_)
    repeat (first | refine kEnd_m ?_ | refine kEnd_f ?_)
    refine kEnd_g ?_ (by first | exact .inl rfl | exact .inr rfl)
    exact Sub.eq rfl rfl
  have S1 := tSame_d s n o s' n' o'
  have S2 := rSame7_d s n o s' n' o'
  generalize eqDB s n o s' n' o' = q at *
  by_cases h2 : mvE s n o rs s' n' o' es = 0
  case neg =>
    have M2 := Moves_bad h2
    have M3 := rMoves7_bad h2
    generalize mvE s n o rs s' n' o' es = e2 at *
    cases q
    all_goals
      refine DC.of Try.func13 Try.ntmps13 Try.results13 rfl (by decide +kernel) rfl ?_
      repeat (first | refine Z1 ?_ | refine Z2 ?_ | (refine Z3 ?_; (repeat (first | (apply gS; first | refine go_no ?_ | refine go_f ?_ | refine gx ?_ | refine gm ?_ | refine gp ?_ | refine go_c rfl rfl (L1) ?_ | refine go_cF rfl rfl (L1) ?_ | refine go_cA rfl rfl (L1) ?_ | refine go_c rfl rfl (L2) ?_ | refine go_cF rfl rfl (L2) ?_ | refine go_cA rfl rfl (L2) ?_ | refine go_c rfl rfl (first7_d) ?_ | refine go_cF rfl rfl (first7_d) ?_ | refine go_cA rfl rfl (first7_d) ?_ | refine go_c rfl rfl (M2) ?_ | refine go_cF rfl rfl (M2) ?_ | refine go_cA rfl rfl (M2) ?_ | refine go_c rfl rfl (M3) ?_ | refine go_cF rfl rfl (M3) ?_ | refine go_cA rfl rfl (M3) ?_ | refine go_c rfl rfl (sameNil_d) ?_ | refine go_cF rfl rfl (sameNil_d) ?_ | refine go_cA rfl rfl (sameNil_d) ?_ | refine go_c rfl rfl (S1) ?_ | refine go_cF rfl rfl (S1) ?_ | refine go_cA rfl rfl (S1) ?_ | refine go_c rfl rfl (S2) ?_ | refine go_cF rfl rfl (S2) ?_ | refine go_cA rfl rfl (S2) ?_))); refine T_nil ?_) | (apply ZR; (try dsimp only [List.map_cons, List.map_nil]); refine C_dr mixed ?_; (repeat (first | (apply vS; first | refine vn ?_ | refine va ?_ | refine vp ?_ | refine vr ?_ | refine vt ?_ | refine vc (L1) ?_ | refine vcF (L1) ?_ | refine vc (L2) ?_ | refine vcF (L2) ?_ | refine vc (first7_d) ?_ | refine vcF (first7_d) ?_ | refine vc (M2) ?_ | refine vcF (M2) ?_ | refine vc (M3) ?_ | refine vcF (M3) ?_ | refine vc (sameNil_d) ?_ | refine vcF (sameNil_d) ?_ | refine vc (S1) ?_ | refine vcF (S1) ?_ | refine vc (S2) ?_ | refine vcF (S2) ?_))); refine W_e ?_) | (apply ZK; first | refine Z4 ?_ | refine Z5 ?_) | refine Z6 ?_ | refine Z7 ?_ | refine ZF ?_)
      repeat (first | refine kEnd_m ?_ | refine kEnd_f ?_)
      refine kEnd_g ?_ (by first | exact .inl rfl | exact .inr rfl)
      exact Sub.eq rfl rfl
  obtain ⟨g1, g2, g3⟩ := mvE_ok h2
  obtain ⟨v1, v2⟩ := errD_ok g1
  obtain ⟨k, n, o, rfl, rfl, hk⟩ := vdB_ok v1
  obtain ⟨c0, ct, hc, hs⟩ := canon_sp v2
  obtain ⟨v3, v4⟩ := errD_ok g2
  obtain ⟨k', n', o', rfl, rfl, hk'⟩ := vdB_ok v3
  obtain ⟨e0, et, hc', hs'⟩ := canon_sp v4
  have M2 := Moves_ok hk v2 hc hs hk' v4 hc' hs' g3
  have M3 := rMoves7_ok hk v2 hc hs hk' v4 hc' hs' g3
  have SC := sameCounts_d kdMove (mvF k n o c0 ct k' n' o' e0 et)
  generalize mvF k n o c0 ct k' n' o' e0 et = F at *
  clear h2 g1 g2 hk hk' hc hc' hs hs' v1 v2 v3 v4
  cases q
  all_goals
    refine DC.of Try.func13 Try.ntmps13 Try.results13 rfl (by decide +kernel) rfl ?_
    repeat (first | refine Z1 ?_ | refine Z2 ?_ | (refine Z3 ?_; (repeat (first | (apply gS; first | refine go_no ?_ | refine go_f ?_ | refine gx ?_ | refine gm ?_ | refine gp ?_ | refine go_c rfl rfl (L1) ?_ | refine go_cF rfl rfl (L1) ?_ | refine go_cA rfl rfl (L1) ?_ | refine go_c rfl rfl (L2) ?_ | refine go_cF rfl rfl (L2) ?_ | refine go_cA rfl rfl (L2) ?_ | refine go_c rfl rfl (first7_d) ?_ | refine go_cF rfl rfl (first7_d) ?_ | refine go_cA rfl rfl (first7_d) ?_ | refine go_c rfl rfl (M2) ?_ | refine go_cF rfl rfl (M2) ?_ | refine go_cA rfl rfl (M2) ?_ | refine go_c rfl rfl (M3) ?_ | refine go_cF rfl rfl (M3) ?_ | refine go_cA rfl rfl (M3) ?_ | refine go_c rfl rfl (SC) ?_ | refine go_cF rfl rfl (SC) ?_ | refine go_cA rfl rfl (SC) ?_ | refine go_c rfl rfl (S1) ?_ | refine go_cF rfl rfl (S1) ?_ | refine go_cA rfl rfl (S1) ?_ | refine go_c rfl rfl (S2) ?_ | refine go_cF rfl rfl (S2) ?_ | refine go_cA rfl rfl (S2) ?_))); refine T_nil ?_) | (apply ZR; (try dsimp only [List.map_cons, List.map_nil]); refine C_dr mixed ?_; (repeat (first | (apply vS; first | refine vn ?_ | refine va ?_ | refine vp ?_ | refine vr ?_ | refine vt ?_ | refine vc (L1) ?_ | refine vcF (L1) ?_ | refine vc (L2) ?_ | refine vcF (L2) ?_ | refine vc (first7_d) ?_ | refine vcF (first7_d) ?_ | refine vc (M2) ?_ | refine vcF (M2) ?_ | refine vc (M3) ?_ | refine vcF (M3) ?_ | refine vc (SC) ?_ | refine vcF (SC) ?_ | refine vc (S1) ?_ | refine vcF (S1) ?_ | refine vc (S2) ?_ | refine vcF (S2) ?_))); refine W_e ?_) | (apply ZK; first | refine Z4 ?_ | refine Z5 ?_) | refine Z6 ?_ | refine Z7 ?_ | refine ZF ?_)
    repeat (first | refine kEnd_m ?_ | refine kEnd_f ?_)
    refine kEnd_g ?_ (by first | exact .inl rfl | exact .inr rfl)
    exact Sub.eq rfl rfl
theorem walk {w : World} (v : Value) (t : (ByteArray × Int × Int) × List Rg) (tc : RC (fun b => b < w.heap.size) w (spreadD t.1.1 t.1.2.1 t.1.2.2 t.2) v) (u : Value) (q : (ByteArray × Int × Int) × List Rg) (qc : RC (fun b => b < w.heap.size) w (spreadD q.1.1 q.1.2.1 q.1.2.2 q.2) u) : Calls Try.prog 13 #[v, u] w fun e w' => e = .returned (.bool true) ∧ Below w.heap.size w w' :=
  DC.law (law_d t.1.1 t.1.2.1 t.1.2.2 t.2 q.1.1 q.1.2.1 q.1.2.2 q.2) (.cons tc (.cons qc .nil))
end Go.Proofs.Ytifapodobhkdcaa.distMoves
