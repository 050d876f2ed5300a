/- Contracts of the methods of rows, and of what reads a range, by the abstract machine. -/
import Derived.Test.YtfkojkciobdeoaaS2
namespace Go.Proofs.Ytfkojkciobdeoaa
open Go.RowKit
set_option linter.unusedVariables false
set_option maxHeartbeats 16000000
set_option linter.unusedSimpArgs false
set_option maxRecDepth 100000
theorem sAt_d (x : Rw) (i : Int) (h1 : -9000000000000 ≤ i * x.s) (h2 : i * x.s ≤ 9000000000000) (h3 : -1099511627776 ≤ x.f) (h4 : x.f ≤ 1099511627776) : DC Try.prog 79 [wD x, iD i] (iD (atOf x i)) := by
  refine DC.of Try.func79 Try.ntmps79 Try.results79 rfl (by decide +kernel) rfl ?_
  repeat (first | refine Z1 ?_ | refine Z2 ?_ | (refine Z3 ?_; (repeat (first | (apply gS; first | refine go_f ?_ | refine gm ?_ | refine gp ?_))); refine T_nil ?_) | (apply ZK; first | refine Z4 ?_ | refine Z5 ?_) | refine Z6 ?_ | refine Z7 ?_)
  repeat (first | refine kEnd_m ?_ | refine kEnd_f ?_)
  refine kEnd_g ?_ (by first | exact .inl rfl | exact .inr rfl)
  exact Sub.eq rfl rfl
theorem sLast_d (x : Rw) (hx : x.small) : DC Try.prog 135 [wD x] (iD (lastOf x)) := by
  obtain ⟨h1, h2, h3, h4, h5, h6⟩ := hx
  have hp := prod_small (a := x.n - 1) (b := x.s) (by omega) (by omega) h3 h4
  refine DC.of Try.func135 Try.ntmps135 Try.results135 rfl (by decide +kernel) rfl ?_
  repeat (first | refine Z1 ?_ | refine Z2 ?_ | (refine Z3 ?_; (repeat (first | (apply gS; first | refine go_f ?_ | refine gm ?_ | refine gp ?_ | refine go_c rfl rfl (sAt_d x (x.n - 1) (by omega) (by omega) h1 h2) ?_))); refine T_nil ?_) | (apply ZK; first | refine Z4 ?_ | refine Z5 ?_) | refine Z6 ?_ | refine Z7 ?_)
  repeat (first | refine kEnd_m ?_ | refine kEnd_f ?_)
  refine kEnd_g ?_ (by first | exact .inl rfl | exact .inr rfl)
  exact Sub.eq rfl rfl
theorem rAt_d (x : Rw) (i : Int) (h1 : -9000000000000 ≤ i * x.s) (h2 : i * x.s ≤ 9000000000000) (h3 : -1099511627776 ≤ x.f) (h4 : x.f ≤ 1099511627776) : DC Try.prog 123 [wD x, iD i] (iD (atOf x i)) := by
  refine DC.of Try.func123 Try.ntmps123 Try.results123 rfl (by decide +kernel) rfl ?_
  repeat (first | refine Z1 ?_ | refine Z2 ?_ | (refine Z3 ?_; (repeat (first | (apply gS; first | refine go_f ?_ | refine gm ?_ | refine gp ?_))); refine T_nil ?_) | (apply ZK; first | refine Z4 ?_ | refine Z5 ?_) | refine Z6 ?_ | refine Z7 ?_)
  repeat (first | refine kEnd_m ?_ | refine kEnd_f ?_)
  refine kEnd_g ?_ (by first | exact .inl rfl | exact .inr rfl)
  exact Sub.eq rfl rfl
theorem rAtLast_d (x : Rw) (hx : x.small) : DC Try.prog 123 [wD x, iD (x.n - 1)] (iD (lastOf x)) := by
  obtain ⟨h1, h2, h3, h4, h5, h6⟩ := hx
  have hp := prod_small (a := x.n - 1) (b := x.s) (by omega) (by omega) h3 h4
  exact rAt_d x (x.n - 1) (by omega) (by omega) h1 h2
theorem sCanon_d (x : Rw) (hx : x.small) (hs : x.s ≠ 0) : DC Try.prog 132 [wD x] (rD (canonOf x)) := by
  by_cases h0 : x.n = 0
  · rw [canonOf_0 h0]
    refine DC.of Try.func132 Try.ntmps132 Try.results132 rfl (by decide +kernel) rfl ?_
    repeat (first | refine Z1 ?_ | refine Z2 ?_ | (refine Z3 ?_; (repeat (first | (apply gS; first | refine go_f ?_ | refine gm ?_ | refine gp ?_) | (apply gZ; first | refine go_f ?_ | refine gm ?_))); refine T_nil ?_) | (apply ZR; refine C_dr mixed ?_; (repeat (first | (apply vS; first | refine va ?_ | refine vp ?_ | refine vr ?_ | refine vt ?_) | (apply vZ; refine vs ?_))); refine W_e ?_) | (apply ZK; first | refine Z4 ?_ | refine Z5 ?_) | refine Z6 ?_ | refine Z7 ?_ | refine Z8 ?_ | refine Z9 ?_ | refine ZA ?_ | refine ZB ?_ | refine ZC ?_ | refine ZF ?_)
    repeat (first | refine kEnd_m ?_ | refine kEnd_f ?_)
    refine kEnd_g ?_ (by first | exact .inl rfl | exact .inr rfl)
    exact Sub.eq rfl rfl
  by_cases h1 : x.n = 1
  · rw [canonOf_1 h1]
    refine DC.of Try.func132 Try.ntmps132 Try.results132 rfl (by decide +kernel) rfl ?_
    repeat (first | refine Z1 ?_ | refine Z2 ?_ | (refine Z3 ?_; (repeat (first | (apply gS; first | refine go_f ?_ | refine gm ?_ | refine gp ?_) | (apply gZ; first | refine go_f ?_ | refine gm ?_))); refine T_nil ?_) | (apply ZR; refine C_dr mixed ?_; (repeat (first | (apply vS; first | refine va ?_ | refine vp ?_ | refine vr ?_ | refine vt ?_) | (apply vZ; refine vs ?_))); refine W_e ?_) | (apply ZK; first | refine Z4 ?_ | refine Z5 ?_) | refine Z6 ?_ | refine Z7 ?_ | refine Z8 ?_ | refine Z9 ?_ | refine ZA ?_ | refine ZB ?_ | refine ZC ?_ | refine ZF ?_)
    repeat (first | refine kEnd_m ?_ | refine kEnd_f ?_)
    refine kEnd_g ?_ (by first | exact .inl rfl | exact .inr rfl)
    exact Sub.eq rfl rfl
  have h2 : 2 ≤ x.n := by obtain ⟨_, _, _, _, h, _⟩ := hx; omega
  have hl := last_ne h2 hs
  by_cases hl' : x.f < lastOf x
  · rw [canonOf_up h2 (by omega)]
    refine DC.of Try.func132 Try.ntmps132 Try.results132 rfl (by decide +kernel) rfl ?_
    repeat (first | refine Z1 ?_ | refine Z2 ?_ | (refine Z3 ?_; (repeat (first | (apply gS; first | refine go_f ?_ | refine gm ?_ | refine gp ?_ | refine go_c rfl rfl (sLast_d x hx) ?_) | (apply gZ; first | refine go_f ?_ | refine gm ?_))); refine T_nil ?_) | (apply ZR; refine C_dr mixed ?_; (repeat (first | (apply vS; first | refine va ?_ | refine vp ?_ | refine vr ?_ | refine vt ?_ | refine vc (sLast_d x hx) ?_) | (apply vZ; refine vs ?_))); refine W_e ?_) | (apply ZK; first | refine Z4 ?_ | refine Z5 ?_) | refine Z6 ?_ | refine Z7 ?_ | refine Z8 ?_ | refine Z9 ?_ | refine ZA ?_ | refine ZB ?_ | refine ZC ?_ | refine ZF ?_)
    repeat (first | refine kEnd_m ?_ | refine kEnd_f ?_)
    refine kEnd_g ?_ (by first | exact .inl rfl | exact .inr rfl)
    exact Sub.eq rfl rfl
  · rw [canonOf_down h2 (by omega)]
    refine DC.of Try.func132 Try.ntmps132 Try.results132 rfl (by decide +kernel) rfl ?_
    repeat (first | refine Z1 ?_ | refine Z2 ?_ | (refine Z3 ?_; (repeat (first | (apply gS; first | refine go_f ?_ | refine gm ?_ | refine gp ?_ | refine go_c rfl rfl (sLast_d x hx) ?_) | (apply gZ; first | refine go_f ?_ | refine gm ?_))); refine T_nil ?_) | (apply ZR; refine C_dr mixed ?_; (repeat (first | (apply vS; first | refine va ?_ | refine vp ?_ | refine vr ?_ | refine vt ?_ | refine vc (sLast_d x hx) ?_) | (apply vZ; refine vs ?_))); refine W_e ?_) | (apply ZK; first | refine Z4 ?_ | refine Z5 ?_) | refine Z6 ?_ | refine Z7 ?_ | refine Z8 ?_ | refine Z9 ?_ | refine ZA ?_ | refine ZB ?_ | refine ZC ?_ | refine ZF ?_)
    repeat (first | refine kEnd_m ?_ | refine kEnd_f ?_)
    refine kEnd_g ?_ (by first | exact .inl rfl | exact .inr rfl)
    exact Sub.eq rfl rfl
theorem done_cases (x : Rw) : (vB (canonOf x) = true ∧ doneV x = canonOf x ∧ doneE x = 0) ∨ (vB (canonOf x) = false ∧ doneV x = ⟨0, 0, 0⟩ ∧ doneE x = 30) := by
  cases h : vB (canonOf x)
  · exact .inr ⟨rfl, done_no h⟩
  · exact .inl ⟨rfl, done_yes h⟩
theorem sDone_d (x : Rw) (hx : x.small) (hs : x.s ≠ 0) : DC Try.prog 116 [wD x] (.tup [rD (doneV x), iD (doneE x)]) := by
  rcases done_cases x with ⟨hv, d1, d2⟩ | ⟨hv, d1, d2⟩
  all_goals
    rw [d1, d2]
    refine DC.of Try.func116 Try.ntmps116 Try.results116 rfl (by decide +kernel) rfl ?_
    repeat (first | refine Z1 ?_ | refine Z2 ?_ | (refine Z3 ?_; (repeat (first | (apply gS; first | refine go_f ?_ | refine gm ?_ | refine gp ?_ | refine go_c rfl rfl (sCanon_d x hx hs) ?_ | refine go_c rfl rfl (sValid_b _ _ _ hv) ?_) | (apply gZ; first | refine go_f ?_ | refine gm ?_))); refine T_nil ?_) | (apply ZK; first | refine Z4 ?_ | refine Z5 ?_) | refine Z6 ?_ | refine Z7 ?_ | refine ZF ?_)
    repeat (first | refine kEnd_m ?_ | refine kEnd_f ?_)
    refine kEnd_g ?_ (by first | exact .inl rfl | exact .inr rfl)
    exact Sub.eq rfl rfl
theorem rMade_g (x : Rw) (hn0 : 0 ≤ x.n) (hb2 : x.n ≤ 4194304) (L : DC Try.prog 123 [wD x, iD (x.n - 1)] (iD (lastOf x))) : DC Try.prog 122 [wD x] (.tup [rD (doneV x), iD (doneE x)]) := by
  by_cases h0 : x.n = 0
  · have hc := canonOf_0 h0
    have hv : vB (canonOf x) = true := by rw [hc]; decide
    obtain ⟨d1, d2⟩ := done_yes hv
    rw [d1, d2, hc]
    refine DC.of Try.func122 Try.ntmps122 Try.results122 rfl (by decide +kernel) rfl ?_
    repeat (first | refine Z1 ?_ | refine Z2 ?_ | (refine Z3 ?_; (repeat (first | (apply gS; first | refine go_f ?_ | refine gm ?_ | refine gp ?_) | (apply gZ; first | refine go_f ?_ | refine gm ?_))); refine T_nil ?_) | (apply ZK; first | refine Z4 ?_ | refine Z5 ?_) | refine Z6 ?_ | refine Z7 ?_ | refine ZF ?_)
    repeat (first | refine kEnd_m ?_ | refine kEnd_f ?_)
    refine kEnd_g ?_ (by first | exact .inl rfl | exact .inr rfl)
    exact Sub.eq rfl rfl
  have hn : 1 ≤ x.n := by omega
  have hb : -9223372036854775000 ≤ x.n := by omega
  have key : ∀ c : Rg, canonOf x = c → (x.n = 1 → lastOf x = x.f ∧ c = ⟨x.f, x.f, 1⟩) → (x.n ≠ 1 → (x.f ≤ lastOf x → c = ⟨x.f, lastOf x, x.s⟩) ∧ (¬ x.f ≤ lastOf x → c = ⟨lastOf x, x.f, x.s⟩)) → DC Try.prog 122 [wD x] (.tup [rD (doneV x), iD (doneE x)]) := by
    intro c hc k1 k2
    have hd := done_cases x
    rw [hc] at hd
    by_cases h1 : x.n = 1
    · obtain ⟨e1, rfl⟩ := k1 h1
      rw [e1] at L
      rcases hd with ⟨hv, d1, d2⟩ | ⟨hv, d1, d2⟩
      all_goals
        rw [d1, d2]
        refine DC.of Try.func122 Try.ntmps122 Try.results122 rfl (by decide +kernel) rfl ?_
        repeat (first | refine Z1 ?_ | refine Z2 ?_ | (refine Z3 ?_; (repeat (first | (apply gS; first | refine go_f ?_ | refine gm ?_ | refine gp ?_ | refine go_c rfl rfl (L) ?_ | refine go_c rfl rfl (rValid_b _ _ _ hv) ?_) | (apply gZ; first | refine go_f ?_ | refine gm ?_))); refine T_nil ?_) | (apply ZK; first | refine Z4 ?_ | refine Z5 ?_) | refine Z6 ?_ | refine Z7 ?_ | refine ZF ?_)
        repeat (first | refine kEnd_m ?_ | refine kEnd_f ?_)
        refine kEnd_g ?_ (by first | exact .inl rfl | exact .inr rfl)
        exact Sub.eq rfl rfl
    · obtain ⟨k3, k4⟩ := k2 h1
      by_cases hl : x.f ≤ lastOf x
      · obtain rfl := k3 hl
        rcases hd with ⟨hv, d1, d2⟩ | ⟨hv, d1, d2⟩
        all_goals
          rw [d1, d2]
          refine DC.of Try.func122 Try.ntmps122 Try.results122 rfl (by decide +kernel) rfl ?_
          repeat (first | refine Z1 ?_ | refine Z2 ?_ | (refine Z3 ?_; (repeat (first | (apply gS; first | refine go_f ?_ | refine gm ?_ | refine gp ?_ | refine go_c rfl rfl (L) ?_ | refine go_c rfl rfl (rValid_b _ _ _ hv) ?_) | (apply gZ; first | refine go_f ?_ | refine gm ?_))); refine T_nil ?_) | (apply ZK; first | refine Z4 ?_ | refine Z5 ?_) | refine Z6 ?_ | refine Z7 ?_ | refine ZF ?_)
          repeat (first | refine kEnd_m ?_ | refine kEnd_f ?_)
          refine kEnd_g ?_ (by first | exact .inl rfl | exact .inr rfl)
          exact Sub.eq rfl rfl
      · obtain rfl := k4 hl
        rcases hd with ⟨hv, d1, d2⟩ | ⟨hv, d1, d2⟩
        all_goals
          rw [d1, d2]
          refine DC.of Try.func122 Try.ntmps122 Try.results122 rfl (by decide +kernel) rfl ?_
          repeat (first | refine Z1 ?_ | refine Z2 ?_ | (refine Z3 ?_; (repeat (first | (apply gS; first | refine go_f ?_ | refine gm ?_ | refine gp ?_ | refine go_c rfl rfl (L) ?_ | refine go_c rfl rfl (rValid_b _ _ _ hv) ?_) | (apply gZ; first | refine go_f ?_ | refine gm ?_))); refine T_nil ?_) | (apply ZK; first | refine Z4 ?_ | refine Z5 ?_) | refine Z6 ?_ | refine Z7 ?_ | refine ZF ?_)
          repeat (first | refine kEnd_m ?_ | refine kEnd_f ?_)
          refine kEnd_g ?_ (by first | exact .inl rfl | exact .inr rfl)
          exact Sub.eq rfl rfl
  refine key _ rfl (fun h1 => ⟨lastOf_1 h1, canonOf_1 h1⟩) (fun h1 => ⟨fun hl => canonOf_up (by omega) hl, fun hl => canonOf_down (by omega) hl⟩)
theorem rMade_d (x : Rw) (hx : x.small) (hs : x.s ≠ 0) : DC Try.prog 122 [wD x] (.tup [rD (doneV x), iD (doneE x)]) :=
  rMade_g x hx.2.2.2.2.1 hx.2.2.2.2.2 (rAtLast_d x hx)
theorem rMade_le (x : Rw) (h : x.n ≤ 0) : DC Try.prog 122 [wD x] (.tup [rD ⟨1, 0, 1⟩, iD 0]) := by
  refine DC.of Try.func122 Try.ntmps122 Try.results122 rfl (by decide +kernel) rfl ?_
  repeat (first | refine Z1 ?_ | refine Z2 ?_ | (refine Z3 ?_; (repeat (first | (apply gS; first | refine go_f ?_ | refine gm ?_ | refine gp ?_) | (apply gZ; first | refine go_f ?_ | refine gm ?_))); refine T_nil ?_) | (apply ZK; first | refine Z4 ?_ | refine Z5 ?_) | refine Z6 ?_ | refine Z7 ?_ | refine ZF ?_)
  repeat (first | refine kEnd_m ?_ | refine kEnd_f ?_)
  refine kEnd_g ?_ (by first | exact .inl rfl | exact .inr rfl)
  exact Sub.eq rfl rfl
end Go.Proofs.Ytfkojkciobdeoaa
