/- Whether both rings tell the same. -/
import Derived.Test.YtpomhnmfkdgafaaPairs
namespace Go.Proofs.Ytpomhnmfkdgafaa
open Go.RowKit
set_option linter.unusedVariables false
set_option maxHeartbeats 16000000
set_option linter.unusedSimpArgs false
set_option maxRecDepth 100000
theorem cnts_map (n : Nat) (c : Nat → Int) : cntsD n c = ((List.range n).map c).map iD := by
  unfold cntsD onesD
  induction List.range n with
  | nil => rfl
  | cons x l ih => rw [List.flatMap_cons, ih]; rfl
theorem cnts_row (n : Nat) (c : Nat → Int) : rowI ((List.range n).map c) = .row n (cntsD n c) := by
  rw [cnts_map]
  show D.row _ _ = _
  rw [List.length_map, List.length_range]
theorem alike_rings (r : Rng) (hr : Few r) : DC Try.prog 13 [.obj [ringO r, ringSO r]] (bD true) := by
  obtain ⟨h1, h2, h3, h4, h5, h6, h7, h8, h9⟩ := hr
  have K1 := token_d r h1
  have K2 := tokenS_d r
  have T1 := told_d r h1
  have T2 := toldS_d r
  have O1 := over_d r h1 h2
  have O2 := overS_d r h2
  have P1 := passes_d r h1
  have P2 := passesS_d r
  have A1 := active_d r h1 h2
  have A2 := activeS_d r h2
  have C1 := counts_d r h1 h2
  have C2 := countsS_d r
  have F1 := flying_d r h1 h7
  have F2 := flyingS_d r
  have S1 : DC Try.prog 30 [.row (actL r.act r.n).length ((actL r.act r.n).map iD), .row (actL r.act r.n).length ((actL r.act r.n).map iD)] (bD true) := by
    have h := sameInts_d (actL r.act r.n) (actL r.act r.n) (by have := actL_le r.act r.n; omega)
    rw [decide_eq_true rfl] at h
    exact h
  have S2 : DC Try.prog 30 [.row r.n (cntsD r.n r.cnt), .row r.n (cntsD r.n r.cnt)] (bD true) := by
    have h := sameInts_d ((List.range r.n).map r.cnt) ((List.range r.n).map r.cnt) (by simp; omega)
    rw [decide_eq_true rfl, cnts_row] at h
    exact h
  have S3 := samePairs_d r.fly h7
  cases t1 : r.told <;> cases t2 : r.dark <;> cases t3 : overB r
  all_goals
    rw [t1] at T1 T2
    rw [t2] at K1 K2
    rw [t3] at O1 O2
    clear t1 t2 t3
    refine DC.of Try.func13 Try.ntmps13 Try.results13 rfl (by decide +kernel) rfl ?_
    repeat (first | refine Z1 ?_ | refine Z2 ?_ | (refine Z3 ?_; (repeat (first | (apply gS; first | refine go_no ?_ | refine go_f ?_ | refine gx ?_ | refine gm ?_ | refine gp ?_ | refine go_c rfl rfl (K1) ?_ | refine go_cF rfl rfl (K1) ?_ | refine go_cA rfl rfl (K1) ?_ | refine go_c rfl rfl (K2) ?_ | refine go_cF rfl rfl (K2) ?_ | refine go_cA rfl rfl (K2) ?_ | refine go_c rfl rfl (T1) ?_ | refine go_cF rfl rfl (T1) ?_ | refine go_cA rfl rfl (T1) ?_ | refine go_c rfl rfl (T2) ?_ | refine go_cF rfl rfl (T2) ?_ | refine go_cA rfl rfl (T2) ?_ | refine go_c rfl rfl (O1) ?_ | refine go_cF rfl rfl (O1) ?_ | refine go_cA rfl rfl (O1) ?_ | refine go_c rfl rfl (O2) ?_ | refine go_cF rfl rfl (O2) ?_ | refine go_cA rfl rfl (O2) ?_ | refine go_c rfl rfl (P1) ?_ | refine go_cF rfl rfl (P1) ?_ | refine go_cA rfl rfl (P1) ?_ | refine go_c rfl rfl (P2) ?_ | refine go_cF rfl rfl (P2) ?_ | refine go_cA rfl rfl (P2) ?_ | refine go_c rfl rfl (A1) ?_ | refine go_cF rfl rfl (A1) ?_ | refine go_cA rfl rfl (A1) ?_ | refine go_c rfl rfl (A2) ?_ | refine go_cF rfl rfl (A2) ?_ | refine go_cA rfl rfl (A2) ?_ | refine go_c rfl rfl (C1) ?_ | refine go_cF rfl rfl (C1) ?_ | refine go_cA rfl rfl (C1) ?_ | refine go_c rfl rfl (C2) ?_ | refine go_cF rfl rfl (C2) ?_ | refine go_cA rfl rfl (C2) ?_ | refine go_c rfl rfl (F1) ?_ | refine go_cF rfl rfl (F1) ?_ | refine go_cA rfl rfl (F1) ?_ | refine go_c rfl rfl (F2) ?_ | refine go_cF rfl rfl (F2) ?_ | refine go_cA rfl rfl (F2) ?_ | refine go_c rfl rfl (S1) ?_ | refine go_cF rfl rfl (S1) ?_ | refine go_cA rfl rfl (S1) ?_ | refine go_c rfl rfl (S2) ?_ | refine go_cF rfl rfl (S2) ?_ | refine go_cA rfl rfl (S2) ?_ | refine go_c rfl rfl (S3) ?_ | refine go_cF rfl rfl (S3) ?_ | refine go_cA rfl rfl (S3) ?_))); refine T_nil ?_) | (apply ZR; (try dsimp only [List.map_cons, List.map_nil]); refine C_dr mixed ?_; (repeat (first | (apply vS; first | refine vn ?_ | refine va ?_ | refine vp ?_ | refine vr ?_ | refine vt ?_ | refine vc (K1) ?_ | refine vcF (K1) ?_ | refine vc (K2) ?_ | refine vcF (K2) ?_ | refine vc (T1) ?_ | refine vcF (T1) ?_ | refine vc (T2) ?_ | refine vcF (T2) ?_ | refine vc (O1) ?_ | refine vcF (O1) ?_ | refine vc (O2) ?_ | refine vcF (O2) ?_ | refine vc (P1) ?_ | refine vcF (P1) ?_ | refine vc (P2) ?_ | refine vcF (P2) ?_ | refine vc (A1) ?_ | refine vcF (A1) ?_ | refine vc (A2) ?_ | refine vcF (A2) ?_ | refine vc (C1) ?_ | refine vcF (C1) ?_ | refine vc (C2) ?_ | refine vcF (C2) ?_ | refine vc (F1) ?_ | refine vcF (F1) ?_ | refine vc (F2) ?_ | refine vcF (F2) ?_ | refine vc (S1) ?_ | refine vcF (S1) ?_ | refine vc (S2) ?_ | refine vcF (S2) ?_ | refine vc (S3) ?_ | refine vcF (S3) ?_))); refine W_e ?_) | (apply ZK; first | refine Z4 ?_ | refine Z5 ?_) | refine Z6 ?_ | refine Z7 ?_)
    repeat (first | refine kEnd_m ?_ | refine kEnd_f ?_)
    refine kEnd_g ?_ (by first | exact .inl rfl | exact .inr rfl)
    exact Sub.eq rfl rfl
end Go.Proofs.Ytpomhnmfkdgafaa
