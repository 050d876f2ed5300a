/- The law DistOwner returns true for every input: whether a distribution is valid, who owns an index, and how many each one owns. -/
import Derived.Test.YtifapodobhkdcaaDtA
import Derived.Test.YtifapodobhkdcaaCameT
namespace Go.Proofs.Ytifapodobhkdcaa.distOwner
open Go.RowKit Go.Proofs.Ytifapodobhkdcaa
set_option linter.unusedVariables false
set_option maxHeartbeats 16000000
set_option linter.unusedSimpArgs false
set_option maxRecDepth 100000
theorem law_d (s : ByteArray) (n o : Int) (rs : List Rg) (x : List Int) : DC Try.prog 9 [dsD s n o, domD rs, rowI x] (bD true) := by
  obtain ⟨bl, L7⟩ := large7_d rs
  have V1 := tValid_d s n o
  have V2 := rValid7_d s n o
  cases bl
  case true =>
    refine DC.of Try.func9 Try.ntmps9 Try.results9 rfl (by decide +kernel) rfl ?_
    repeat (first | refine Z1 ?_ | refine Z2 ?_ | (refine Z3 ?_; (repeat (first | (apply gS; first | refine go_no ?_ | refine go_f ?_ | refine gx ?_ | refine gm ?_ | refine gp ?_ | refine go_c rfl rfl (L7) ?_ | refine go_cF rfl rfl (L7) ?_ | refine go_cA rfl rfl (L7) ?_ | refine go_c rfl rfl (first7_d) ?_ | refine go_cF rfl rfl (first7_d) ?_ | refine go_cA rfl rfl (first7_d) ?_))); refine T_nil ?_) | (apply ZR; (try dsimp only [List.map_cons, List.map_nil]); refine C_dr mixed ?_; (repeat (first | (apply vS; first | refine vn ?_ | refine va ?_ | refine vp ?_ | refine vr ?_ | refine vt ?_ | refine vc (L7) ?_ | refine vcF (L7) ?_ | refine vc (first7_d) ?_ | refine vcF (first7_d) ?_))); refine W_e ?_) | (apply ZK; first | refine Z4 ?_ | refine Z5 ?_) | refine Z6 ?_ | refine Z7 ?_ | refine ZF ?_)
    repeat (first | refine kEnd_m ?_ | refine kEnd_f ?_)
    refine kEnd_g ?_ (by first | exact .inl rfl | exact .inr rfl)
    exact Sub.eq rfl rfl
  by_cases hx : 20 < x.length
  · refine DC.of Try.func9 Try.ntmps9 Try.results9 rfl (by decide +kernel) rfl ?_
    repeat (first | refine Z1 ?_ | refine Z2 ?_ | (refine Z3 ?_; (repeat (first | (apply gS; first | refine go_no ?_ | refine go_f ?_ | refine gx ?_ | refine gm ?_ | refine gp ?_ | refine go_c rfl rfl (L7) ?_ | refine go_cF rfl rfl (L7) ?_ | refine go_cA rfl rfl (L7) ?_ | refine go_c rfl rfl (first7_d) ?_ | refine go_cF rfl rfl (first7_d) ?_ | refine go_cA rfl rfl (first7_d) ?_))); refine T_nil ?_) | (apply ZR; (try dsimp only [List.map_cons, List.map_nil]); refine C_dr mixed ?_; (repeat (first | (apply vS; first | refine vn ?_ | refine va ?_ | refine vp ?_ | refine vr ?_ | refine vt ?_ | refine vc (L7) ?_ | refine vcF (L7) ?_ | refine vc (first7_d) ?_ | refine vcF (first7_d) ?_))); refine W_e ?_) | (apply ZK; first | refine Z4 ?_ | refine Z5 ?_) | refine Z6 ?_ | refine Z7 ?_ | refine ZF ?_)
    repeat (first | refine kEnd_m ?_ | refine kEnd_f ?_)
    refine kEnd_g ?_ (by first | exact .inl rfl | exact .inr rfl)
    exact Sub.eq rfl rfl
  by_cases he : errD s n o rs = 0
  case neg =>
    have O1 := Owner_bad he x
    have O2 := rOwner7_bad he x
    have D1 := Load_bad he
    have D2 := rLoad7_bad he
    have SI := sameInts_d [] [] (by simp)
    rw [decide_eq_true rfl] at SI
    generalize vdB s n o = q at *
    generalize errD s n o rs = e at *
    cases q
    all_goals
      refine DC.of Try.func9 Try.ntmps9 Try.results9 rfl (by decide +kernel) rfl ?_
      repeat (first | refine Z1 ?_ | refine Z2 ?_ | (refine Z3 ?_; (repeat (first | (apply gS; first | refine go_no ?_ | refine go_f ?_ | refine gx ?_ | refine gm ?_ | refine gp ?_ | refine go_c rfl rfl (L7) ?_ | refine go_cF rfl rfl (L7) ?_ | refine go_cA rfl rfl (L7) ?_ | refine go_c rfl rfl (O1) ?_ | refine go_cF rfl rfl (O1) ?_ | refine go_cA rfl rfl (O1) ?_ | refine go_c rfl rfl (O2) ?_ | refine go_cF rfl rfl (O2) ?_ | refine go_cA rfl rfl (O2) ?_ | refine go_c rfl rfl (D1) ?_ | refine go_cF rfl rfl (D1) ?_ | refine go_cA rfl rfl (D1) ?_ | refine go_c rfl rfl (D2) ?_ | refine go_cF rfl rfl (D2) ?_ | refine go_cA rfl rfl (D2) ?_ | refine go_c rfl rfl (SI) ?_ | refine go_cF rfl rfl (SI) ?_ | refine go_cA rfl rfl (SI) ?_ | refine go_c rfl rfl (V1) ?_ | refine go_cF rfl rfl (V1) ?_ | refine go_cA rfl rfl (V1) ?_ | refine go_c rfl rfl (V2) ?_ | refine go_cF rfl rfl (V2) ?_ | refine go_cA rfl rfl (V2) ?_ | refine go_c rfl rfl (first7_d) ?_ | refine go_cF rfl rfl (first7_d) ?_ | refine go_cA rfl rfl (first7_d) ?_))); refine T_nil ?_) | (apply ZR; (try dsimp only [List.map_cons, List.map_nil]); refine C_dr mixed ?_; (repeat (first | (apply vS; first | refine vn ?_ | refine va ?_ | refine vp ?_ | refine vr ?_ | refine vt ?_ | refine vc (L7) ?_ | refine vcF (L7) ?_ | refine vc (O1) ?_ | refine vcF (O1) ?_ | refine vc (O2) ?_ | refine vcF (O2) ?_ | refine vc (D1) ?_ | refine vcF (D1) ?_ | refine vc (D2) ?_ | refine vcF (D2) ?_ | refine vc (SI) ?_ | refine vcF (SI) ?_ | refine vc (V1) ?_ | refine vcF (V1) ?_ | refine vc (V2) ?_ | refine vcF (V2) ?_ | refine vc (first7_d) ?_ | refine vcF (first7_d) ?_))); refine W_e ?_) | (apply ZK; first | refine Z4 ?_ | refine Z5 ?_) | refine Z6 ?_ | refine Z7 ?_ | refine ZF ?_)
      repeat (first | refine kEnd_m ?_ | refine kEnd_f ?_)
      refine kEnd_g ?_ (by first | exact .inl rfl | exact .inr rfl)
      exact Sub.eq rfl rfl
  obtain ⟨hv, hd⟩ := errD_ok he
  rw [hv] at V1 V2
  obtain ⟨k, n, o, rfl, rfl, hk⟩ := vdB_ok hv
  obtain ⟨c0, ct, hc, hs⟩ := canon_sp hd
  have O1 := Owner_d hk hd hc hs x
  have O2 := rOwner7_d hk hd hc hs x
  have D1 := Load_ok hk hd hc hs
  have D2 := rLoad7_ok hk hd hc hs
  have h8 := hk.ok.o8
  have hL : (loadsL k n o (cN c0) (iN c0 ct)).length = o := loadJ_len _ _ _ _ _ _
  have SI := sameInts_d (loadsL k n o (cN c0) (iN c0 ct)) (loadsL k n o (cN c0) (iN c0 ct)) (by omega)
  rw [decide_eq_true rfl] at SI
  clear hL he hv hd hc hs
  generalize loadsL k n o (cN c0) (iN c0 ct) = LL at *
  generalize ownV k n o c0 ct x = w at *
  generalize (findRes c0 ct x).2 = e at *
  refine DC.of Try.func9 Try.ntmps9 Try.results9 rfl (by decide +kernel) rfl ?_
  repeat (first | refine Z1 ?_ | refine Z2 ?_ | (refine Z3 ?_; (repeat (first | (apply gS; first | refine go_no ?_ | refine go_f ?_ | refine gx ?_ | refine gm ?_ | refine gp ?_ | refine go_c rfl rfl (L7) ?_ | refine go_cF rfl rfl (L7) ?_ | refine go_cA rfl rfl (L7) ?_ | refine go_c rfl rfl (O1) ?_ | refine go_cF rfl rfl (O1) ?_ | refine go_cA rfl rfl (O1) ?_ | refine go_c rfl rfl (O2) ?_ | refine go_cF rfl rfl (O2) ?_ | refine go_cA rfl rfl (O2) ?_ | refine go_c rfl rfl (D1) ?_ | refine go_cF rfl rfl (D1) ?_ | refine go_cA rfl rfl (D1) ?_ | refine go_c rfl rfl (D2) ?_ | refine go_cF rfl rfl (D2) ?_ | refine go_cA rfl rfl (D2) ?_ | refine go_c rfl rfl (SI) ?_ | refine go_cF rfl rfl (SI) ?_ | refine go_cA rfl rfl (SI) ?_ | refine go_c rfl rfl (V1) ?_ | refine go_cF rfl rfl (V1) ?_ | refine go_cA rfl rfl (V1) ?_ | refine go_c rfl rfl (V2) ?_ | refine go_cF rfl rfl (V2) ?_ | refine go_cA rfl rfl (V2) ?_ | refine go_c rfl rfl (first7_d) ?_ | refine go_cF rfl rfl (first7_d) ?_ | refine go_cA rfl rfl (first7_d) ?_))); refine T_nil ?_) | (apply ZR; (try dsimp only [List.map_cons, List.map_nil]); refine C_dr mixed ?_; (repeat (first | (apply vS; first | refine vn ?_ | refine va ?_ | refine vp ?_ | refine vr ?_ | refine vt ?_ | refine vc (L7) ?_ | refine vcF (L7) ?_ | refine vc (O1) ?_ | refine vcF (O1) ?_ | refine vc (O2) ?_ | refine vcF (O2) ?_ | refine vc (D1) ?_ | refine vcF (D1) ?_ | refine vc (D2) ?_ | refine vcF (D2) ?_ | refine vc (SI) ?_ | refine vcF (SI) ?_ | refine vc (V1) ?_ | refine vcF (V1) ?_ | refine vc (V2) ?_ | refine vcF (V2) ?_ | refine vc (first7_d) ?_ | refine vcF (first7_d) ?_))); refine W_e ?_) | (apply ZK; first | refine Z4 ?_ | refine Z5 ?_) | refine Z6 ?_ | refine Z7 ?_ | refine ZF ?_)
  repeat (first | refine kEnd_m ?_ | refine kEnd_f ?_)
  refine kEnd_g ?_ (by first | exact .inl rfl | exact .inr rfl)
  exact Sub.eq rfl rfl
theorem walk {w : World} (v : Value) (t : ByteArray × Int × Int) (tc : RC (fun b => b < w.heap.size) w (dsD t.1 t.2.1 t.2.2) v) (u : Value) (rs : List Rg) (rc : RC (fun b => b < w.heap.size) w (domD rs) u) (z : Value) (x : List Int) (hx : IntsIn w z x) : Calls Try.prog 9 #[v, u, z] w fun e w' => e = .returned (.bool true) ∧ Below w.heap.size w w' :=
  DC.law (law_d t.1 t.2.1 t.2.2 rs x) (.cons tc (.cons rc (.cons (RC.ints hx) .nil)))
end Go.Proofs.Ytifapodobhkdcaa.distOwner
