/- Within and Same of package span and of the reference, by the abstract machine. -/
import Derived.Test.YtfkojkciobdeoaaS10
import Derived.Test.YtfkojkciobdeoaaSpanMath8
namespace Go.Proofs.Ytfkojkciobdeoaa
open Go.RowKit
set_option linter.unusedVariables false
set_option maxHeartbeats 16000000
set_option linter.unusedSimpArgs false
set_option maxRecDepth 100000
def sameB (r s : Rg) : Bool := vB r && vB s && decide ((canonOf (rowOf r)).lo = (canonOf (rowOf s)).lo ∧ (canonOf (rowOf r)).hi = (canonOf (rowOf s)).hi ∧ (canonOf (rowOf r)).st = (canonOf (rowOf s)).st)
theorem same_eq {r s : Rg} (hr : vB r = true) (hs : vB s = true) : sameB r s = decide ((canonOf (rowOf r)).lo = (canonOf (rowOf s)).lo ∧ (canonOf (rowOf r)).hi = (canonOf (rowOf s)).hi ∧ (canonOf (rowOf r)).st = (canonOf (rowOf s)).st) := by
  rw [sameB, hr, hs, Bool.true_and, Bool.true_and]
set_option maxHeartbeats 8000000 in
theorem sWithin_d (r s : Rg) : DC Try.prog 108 [rD r, rD s] (.tup [bD (withinRes r s).1, iD (withinRes r s).2]) := by
  have V := sValid_r r (b := vB r) rfl
  have U := sValid_r s (b := vB s) rfl
  cases hr : vB r with
  | false =>
    rw [hr] at V
    rw [within_bad (fun h => by rw [hr] at h; exact absurd h.1 (by decide))]
    refine DC.of Try.func108 Try.ntmps108 Try.results108 rfl (by decide +kernel) rfl ?_
    repeat (first | refine Z1 ?_ | refine Z2 ?_ | (refine Z3 ?_; (repeat (first | (apply gS; first | refine go_no ?_ | refine go_f ?_ | refine gm ?_ | refine gp ?_ | refine go_c rfl rfl (V) ?_ | refine go_c rfl rfl (U) ?_) | (apply gZ; first | refine go_f ?_ | refine gm ?_))); refine T_nil ?_) | (apply ZR; refine C_dr mixed ?_; (repeat (first | (apply vS; first | refine vn ?_ | refine va ?_ | refine vp ?_ | refine vr ?_ | refine vt ?_ | refine vc (V) ?_ | refine vc (U) ?_) | (apply vZ; refine vs ?_))); refine W_e ?_) | (apply ZK; first | refine Z4 ?_ | refine Z5 ?_) | refine Z6 ?_ | refine Z7 ?_ | refine ZF ?_)
    repeat (first | refine kEnd_m ?_ | refine kEnd_f ?_)
    refine kEnd_g ?_ (by first | exact .inl rfl | exact .inr rfl)
    exact Sub.eq rfl rfl
  | true =>
    rw [hr] at V
    cases hs : vB s with
    | false =>
      rw [hs] at U
      rw [within_bad (fun h => by rw [hs] at h; exact absurd h.2 (by decide))]
      refine DC.of Try.func108 Try.ntmps108 Try.results108 rfl (by decide +kernel) rfl ?_
      repeat (first | refine Z1 ?_ | refine Z2 ?_ | (refine Z3 ?_; (repeat (first | (apply gS; first | refine go_no ?_ | refine go_f ?_ | refine gm ?_ | refine gp ?_ | refine go_c rfl rfl (V) ?_ | refine go_c rfl rfl (U) ?_) | (apply gZ; first | refine go_f ?_ | refine gm ?_))); refine T_nil ?_) | (apply ZR; refine C_dr mixed ?_; (repeat (first | (apply vS; first | refine vn ?_ | refine va ?_ | refine vp ?_ | refine vr ?_ | refine vt ?_ | refine vc (V) ?_ | refine vc (U) ?_) | (apply vZ; refine vs ?_))); refine W_e ?_) | (apply ZK; first | refine Z4 ?_ | refine Z5 ?_) | refine Z6 ?_ | refine Z7 ?_ | refine ZF ?_)
      repeat (first | refine kEnd_m ?_ | refine kEnd_f ?_)
      refine kEnd_g ?_ (by first | exact .inl rfl | exact .inr rfl)
      exact Sub.eq rfl rfl
    | true =>
      rw [hs] at U
      have hrk := vB_okS hr
      have hsk := vB_okS hs
      have X := rowOf_r r hrk
      have Y := rowOf_r s hsk
      have tx := row_tame hrk
      have ty := row_tame hsk
      obtain ⟨x1, x2, x3, x4, x5, x6, x7, x8⟩ := id tx
      obtain ⟨y1, y2, y3, y4, y5, y6, y7, y8⟩ := id ty
      have L := sLast_d (rowOf r) (tame_small tx)
      by_cases h0 : (rowOf r).n = 0
      · rw [within_yes hr hs (fun i hi => absurd hi (by omega))]
        refine DC.of Try.func108 Try.ntmps108 Try.results108 rfl (by decide +kernel) rfl ?_
        repeat (first | refine Z1 ?_ | refine Z2 ?_ | (refine Z3 ?_; (repeat (first | (apply gS; first | refine go_no ?_ | refine go_f ?_ | refine gm ?_ | refine gp ?_ | refine go_c rfl rfl (V) ?_ | refine go_c rfl rfl (U) ?_ | refine go_c rfl rfl (X) ?_ | refine go_c rfl rfl (Y) ?_) | (apply gZ; first | refine go_f ?_ | refine gm ?_))); refine T_nil ?_) | (apply ZR; refine C_dr mixed ?_; (repeat (first | (apply vS; first | refine vn ?_ | refine va ?_ | refine vp ?_ | refine vr ?_ | refine vt ?_ | refine vc (V) ?_ | refine vc (U) ?_ | refine vc (X) ?_ | refine vc (Y) ?_) | (apply vZ; refine vs ?_))); refine W_e ?_) | (apply ZK; first | refine Z4 ?_ | refine Z5 ?_) | refine Z6 ?_ | refine Z7 ?_ | refine ZF ?_)
        repeat (first | refine kEnd_m ?_ | refine kEnd_f ?_)
        refine kEnd_g ?_ (by first | exact .inl rfl | exact .inr rfl)
        exact Sub.eq rfl rfl
      · have hl := x8 h0
        have hw := within_iff hrk hsk (show 1 ≤ (rowOf r).n by omega)
        have P1 := placeRow_d (rowOf s) (rowOf r).f (tame_small ty) y5 (by omega) (by omega)
        have P2 := placeRow_d (rowOf s) (lastOf (rowOf r)) (tame_small ty) y5 (by omega) (by omega)
        rw [memb_place hsk, memb_place hsk, Int.dvd_iff_tmod_eq_zero] at hw
        cases b1 : placeB (rowOf s) (rowOf r).f <;> cases b2 : placeB (rowOf s) (lastOf (rowOf r)) <;> rw [b1, b2] at hw <;> rw [b1] at P1 <;> rw [b2] at P2
        · rw [within_no hr hs (fun h => by have := hw.1 h; exact absurd this.1 (by decide))]
          clear hw
          refine DC.of Try.func108 Try.ntmps108 Try.results108 rfl (by decide +kernel) rfl ?_
          repeat (first | refine Z1 ?_ | refine Z2 ?_ | (refine Z3 ?_; (repeat (first | (apply gS; first | refine go_no ?_ | refine go_f ?_ | refine gm ?_ | refine gp ?_ | refine go_c rfl rfl (V) ?_ | refine go_c rfl rfl (U) ?_ | refine go_c rfl rfl (X) ?_ | refine go_c rfl rfl (Y) ?_ | refine go_c rfl rfl (P1) ?_ | refine go_c rfl rfl (P2) ?_ | refine go_c rfl rfl (L) ?_) | (apply gZ; first | refine go_f ?_ | refine gm ?_))); refine T_nil ?_) | (apply ZR; refine C_dr mixed ?_; (repeat (first | (apply vS; first | refine vn ?_ | refine va ?_ | refine vp ?_ | refine vr ?_ | refine vt ?_ | refine vc (V) ?_ | refine vc (U) ?_ | refine vc (X) ?_ | refine vc (Y) ?_ | refine vc (P1) ?_ | refine vc (P2) ?_ | refine vc (L) ?_) | (apply vZ; refine vs ?_))); refine W_e ?_) | (apply ZK; first | refine Z4 ?_ | refine Z5 ?_) | refine Z6 ?_ | refine Z7 ?_ | refine ZF ?_)
          repeat (first | refine kEnd_m ?_ | refine kEnd_f ?_)
          refine kEnd_g ?_ (by first | exact .inl rfl | exact .inr rfl)
          exact Sub.eq rfl rfl
        · rw [within_no hr hs (fun h => by have := hw.1 h; exact absurd this.1 (by decide))]
          clear hw
          refine DC.of Try.func108 Try.ntmps108 Try.results108 rfl (by decide +kernel) rfl ?_
          repeat (first | refine Z1 ?_ | refine Z2 ?_ | (refine Z3 ?_; (repeat (first | (apply gS; first | refine go_no ?_ | refine go_f ?_ | refine gm ?_ | refine gp ?_ | refine go_c rfl rfl (V) ?_ | refine go_c rfl rfl (U) ?_ | refine go_c rfl rfl (X) ?_ | refine go_c rfl rfl (Y) ?_ | refine go_c rfl rfl (P1) ?_ | refine go_c rfl rfl (P2) ?_ | refine go_c rfl rfl (L) ?_) | (apply gZ; first | refine go_f ?_ | refine gm ?_))); refine T_nil ?_) | (apply ZR; refine C_dr mixed ?_; (repeat (first | (apply vS; first | refine vn ?_ | refine va ?_ | refine vp ?_ | refine vr ?_ | refine vt ?_ | refine vc (V) ?_ | refine vc (U) ?_ | refine vc (X) ?_ | refine vc (Y) ?_ | refine vc (P1) ?_ | refine vc (P2) ?_ | refine vc (L) ?_) | (apply vZ; refine vs ?_))); refine W_e ?_) | (apply ZK; first | refine Z4 ?_ | refine Z5 ?_) | refine Z6 ?_ | refine Z7 ?_ | refine ZF ?_)
          repeat (first | refine kEnd_m ?_ | refine kEnd_f ?_)
          refine kEnd_g ?_ (by first | exact .inl rfl | exact .inr rfl)
          exact Sub.eq rfl rfl
        · rw [within_no hr hs (fun h => by have := hw.1 h; exact absurd this.2.1 (by decide))]
          clear hw
          refine DC.of Try.func108 Try.ntmps108 Try.results108 rfl (by decide +kernel) rfl ?_
          repeat (first | refine Z1 ?_ | refine Z2 ?_ | (refine Z3 ?_; (repeat (first | (apply gS; first | refine go_no ?_ | refine go_f ?_ | refine gm ?_ | refine gp ?_ | refine go_c rfl rfl (V) ?_ | refine go_c rfl rfl (U) ?_ | refine go_c rfl rfl (X) ?_ | refine go_c rfl rfl (Y) ?_ | refine go_c rfl rfl (P1) ?_ | refine go_c rfl rfl (P2) ?_ | refine go_c rfl rfl (L) ?_) | (apply gZ; first | refine go_f ?_ | refine gm ?_))); refine T_nil ?_) | (apply ZR; refine C_dr mixed ?_; (repeat (first | (apply vS; first | refine vn ?_ | refine va ?_ | refine vp ?_ | refine vr ?_ | refine vt ?_ | refine vc (V) ?_ | refine vc (U) ?_ | refine vc (X) ?_ | refine vc (Y) ?_ | refine vc (P1) ?_ | refine vc (P2) ?_ | refine vc (L) ?_) | (apply vZ; refine vs ?_))); refine W_e ?_) | (apply ZK; first | refine Z4 ?_ | refine Z5 ?_) | refine Z6 ?_ | refine Z7 ?_ | refine ZF ?_)
          repeat (first | refine kEnd_m ?_ | refine kEnd_f ?_)
          refine kEnd_g ?_ (by first | exact .inl rfl | exact .inr rfl)
          exact Sub.eq rfl rfl
        · by_cases h1 : (rowOf r).n = 1
          · rw [within_yes hr hs (hw.2 ⟨rfl, rfl, .inl h1⟩)]
            clear hw
            refine DC.of Try.func108 Try.ntmps108 Try.results108 rfl (by decide +kernel) rfl ?_
            repeat (first | refine Z1 ?_ | refine Z2 ?_ | (refine Z3 ?_; (repeat (first | (apply gS; first | refine go_no ?_ | refine go_f ?_ | refine gm ?_ | refine gp ?_ | refine go_c rfl rfl (V) ?_ | refine go_c rfl rfl (U) ?_ | refine go_c rfl rfl (X) ?_ | refine go_c rfl rfl (Y) ?_ | refine go_c rfl rfl (P1) ?_ | refine go_c rfl rfl (P2) ?_ | refine go_c rfl rfl (L) ?_) | (apply gZ; first | refine go_f ?_ | refine gm ?_))); refine T_nil ?_) | (apply ZR; refine C_dr mixed ?_; (repeat (first | (apply vS; first | refine vn ?_ | refine va ?_ | refine vp ?_ | refine vr ?_ | refine vt ?_ | refine vc (V) ?_ | refine vc (U) ?_ | refine vc (X) ?_ | refine vc (Y) ?_ | refine vc (P1) ?_ | refine vc (P2) ?_ | refine vc (L) ?_) | (apply vZ; refine vs ?_))); refine W_e ?_) | (apply ZK; first | refine Z4 ?_ | refine Z5 ?_) | refine Z6 ?_ | refine Z7 ?_ | refine ZF ?_)
            repeat (first | refine kEnd_m ?_ | refine kEnd_f ?_)
            refine kEnd_g ?_ (by first | exact .inl rfl | exact .inr rfl)
            exact Sub.eq rfl rfl
          · by_cases h2 : (rowOf r).s.tmod (rowOf s).s = 0
            · rw [within_yes hr hs (hw.2 ⟨rfl, rfl, .inr h2⟩)]
              clear hw
              refine DC.of Try.func108 Try.ntmps108 Try.results108 rfl (by decide +kernel) rfl ?_
              repeat (first | refine Z1 ?_ | refine Z2 ?_ | (refine Z3 ?_; (repeat (first | (apply gS; first | refine go_no ?_ | refine go_f ?_ | refine gm ?_ | refine gp ?_ | refine go_c rfl rfl (V) ?_ | refine go_c rfl rfl (U) ?_ | refine go_c rfl rfl (X) ?_ | refine go_c rfl rfl (Y) ?_ | refine go_c rfl rfl (P1) ?_ | refine go_c rfl rfl (P2) ?_ | refine go_c rfl rfl (L) ?_) | (apply gZ; first | refine go_f ?_ | refine gm ?_))); refine T_nil ?_) | (apply ZR; refine C_dr mixed ?_; (repeat (first | (apply vS; first | refine vn ?_ | refine va ?_ | refine vp ?_ | refine vr ?_ | refine vt ?_ | refine vc (V) ?_ | refine vc (U) ?_ | refine vc (X) ?_ | refine vc (Y) ?_ | refine vc (P1) ?_ | refine vc (P2) ?_ | refine vc (L) ?_) | (apply vZ; refine vs ?_))); refine W_e ?_) | (apply ZK; first | refine Z4 ?_ | refine Z5 ?_) | refine Z6 ?_ | refine Z7 ?_ | refine ZF ?_)
              repeat (first | refine kEnd_m ?_ | refine kEnd_f ?_)
              refine kEnd_g ?_ (by first | exact .inl rfl | exact .inr rfl)
              exact Sub.eq rfl rfl
            · rw [within_no hr hs (fun h => (hw.1 h).2.2.elim h1 h2)]
              clear hw
              refine DC.of Try.func108 Try.ntmps108 Try.results108 rfl (by decide +kernel) rfl ?_
              repeat (first | refine Z1 ?_ | refine Z2 ?_ | (refine Z3 ?_; (repeat (first | (apply gS; first | refine go_no ?_ | refine go_f ?_ | refine gm ?_ | refine gp ?_ | refine go_c rfl rfl (V) ?_ | refine go_c rfl rfl (U) ?_ | refine go_c rfl rfl (X) ?_ | refine go_c rfl rfl (Y) ?_ | refine go_c rfl rfl (P1) ?_ | refine go_c rfl rfl (P2) ?_ | refine go_c rfl rfl (L) ?_) | (apply gZ; first | refine go_f ?_ | refine gm ?_))); refine T_nil ?_) | (apply ZR; refine C_dr mixed ?_; (repeat (first | (apply vS; first | refine vn ?_ | refine va ?_ | refine vp ?_ | refine vr ?_ | refine vt ?_ | refine vc (V) ?_ | refine vc (U) ?_ | refine vc (X) ?_ | refine vc (Y) ?_ | refine vc (P1) ?_ | refine vc (P2) ?_ | refine vc (L) ?_) | (apply vZ; refine vs ?_))); refine W_e ?_) | (apply ZK; first | refine Z4 ?_ | refine Z5 ?_) | refine Z6 ?_ | refine Z7 ?_ | refine ZF ?_)
              repeat (first | refine kEnd_m ?_ | refine kEnd_f ?_)
              refine kEnd_g ?_ (by first | exact .inl rfl | exact .inr rfl)
              exact Sub.eq rfl rfl
end Go.Proofs.Ytfkojkciobdeoaa
