/- Contracts of the small functions of packages span and purlieuref03, by the abstract machine. -/
import Derived.Test.YtifapodobhkdcaaRun
import Derived.Test.YtifapodobhkdcaaSpanMath3
namespace Go.Proofs.Ytifapodobhkdcaa
open Go.RowKit
set_option linter.unusedVariables false
set_option maxHeartbeats 16000000
set_option linter.unusedSimpArgs false
set_option maxRecDepth 100000
abbrev rD (r : Rg) : D := .agg [iD r.lo, iD r.hi, iD r.st]
abbrev wD (x : Rw) : D := .agg [iD x.f, iD x.s, iD x.n]
theorem abs_d (n : Int) (h1 : -1048576 ≤ n) (h2 : n ≤ 1048576) : DC Try.prog 160 [iD n] (iD (absI n)) := by
  by_cases hn : n < 0
  · rw [absI_neg hn]
    refine DC.of Try.func160 Try.ntmps160 Try.results160 rfl (by decide +kernel) rfl ?_
    repeat (first | refine Z1 ?_ | refine Z2 ?_ | (refine Z3 ?_; (repeat (first | (apply gS; first | refine go_f ?_ | refine gm ?_ | refine gp ?_))); refine T_nil ?_) | (apply ZK; first | refine Z4 ?_ | refine Z5 ?_) | refine Z6 ?_ | refine Z7 ?_)
    repeat (first | refine kEnd_m ?_ | refine kEnd_f ?_)
    refine kEnd_g ?_ (by first | exact .inl rfl | exact .inr rfl)
    exact Sub.eq rfl rfl
  · rw [absI_pos (by omega)]
    refine DC.of Try.func160 Try.ntmps160 Try.results160 rfl (by decide +kernel) rfl ?_
    repeat (first | refine Z1 ?_ | refine Z2 ?_ | (refine Z3 ?_; (repeat (first | (apply gS; first | refine go_f ?_ | refine gm ?_ | refine gp ?_))); refine T_nil ?_) | (apply ZK; first | refine Z4 ?_ | refine Z5 ?_) | refine Z6 ?_ | refine Z7 ?_)
    repeat (first | refine kEnd_m ?_ | refine kEnd_f ?_)
    refine kEnd_g ?_ (by first | exact .inl rfl | exact .inr rfl)
    exact Sub.eq rfl rfl
theorem within_t (n lo hi : Int) (h1 : lo ≤ n) (h2 : n ≤ hi) : DC Try.prog 159 [iD n, iD lo, iD hi] (bD true) := by
  refine DC.of Try.func159 Try.ntmps159 Try.results159 rfl (by decide +kernel) rfl ?_
  repeat (first | refine Z1 ?_ | refine Z2 ?_ | (refine Z3 ?_; (repeat (first | (apply gS; first | refine go_no ?_ | refine go_f ?_ | refine gm ?_ | refine gp ?_))); refine T_nil ?_) | (apply ZK; first | refine Z4 ?_ | refine Z5 ?_) | refine Z6 ?_ | refine Z7 ?_)
  repeat (first | refine kEnd_m ?_ | refine kEnd_f ?_)
  refine kEnd_g ?_ (by first | exact .inl rfl | exact .inr rfl)
  exact Sub.eq rfl rfl
theorem within_f (n lo hi : Int) (h : n < lo ∨ hi < n) : DC Try.prog 159 [iD n, iD lo, iD hi] (bD false) := by
  by_cases h1 : n < lo
  · refine DC.of Try.func159 Try.ntmps159 Try.results159 rfl (by decide +kernel) rfl ?_
    repeat (first | refine Z1 ?_ | refine Z2 ?_ | (refine Z3 ?_; (repeat (first | (apply gS; first | refine go_no ?_ | refine go_f ?_ | refine gm ?_ | refine gp ?_))); refine T_nil ?_) | (apply ZK; first | refine Z4 ?_ | refine Z5 ?_) | refine Z6 ?_ | refine Z7 ?_)
    repeat (first | refine kEnd_m ?_ | refine kEnd_f ?_)
    refine kEnd_g ?_ (by first | exact .inl rfl | exact .inr rfl)
    exact Sub.eq rfl rfl
  · have h2 : hi < n := by omega
    refine DC.of Try.func159 Try.ntmps159 Try.results159 rfl (by decide +kernel) rfl ?_
    repeat (first | refine Z1 ?_ | refine Z2 ?_ | (refine Z3 ?_; (repeat (first | (apply gS; first | refine go_no ?_ | refine go_f ?_ | refine gm ?_ | refine gp ?_))); refine T_nil ?_) | (apply ZK; first | refine Z4 ?_ | refine Z5 ?_) | refine Z6 ?_ | refine Z7 ?_)
    repeat (first | refine kEnd_m ?_ | refine kEnd_f ?_)
    refine kEnd_g ?_ (by first | exact .inl rfl | exact .inr rfl)
    exact Sub.eq rfl rfl
theorem near_t (n : Int) (h1 : -1000000 ≤ n) (h2 : n ≤ 1000000) : DC Try.prog 157 [iD n] (bD true) := by
  refine DC.of Try.func157 Try.ntmps157 Try.results157 rfl (by decide +kernel) rfl ?_
  repeat (first | refine Z1 ?_ | refine Z2 ?_ | (refine Z3 ?_; (repeat (first | (apply gS; first | refine go_f ?_ | refine gm ?_ | refine gp ?_ | refine go_c rfl rfl (within_t _ _ _ (by omega) (by omega)) ?_))); refine T_nil ?_) | (apply ZK; first | refine Z4 ?_ | refine Z5 ?_) | refine Z6 ?_ | refine Z7 ?_)
  repeat (first | refine kEnd_m ?_ | refine kEnd_f ?_)
  refine kEnd_g ?_ (by first | exact .inl rfl | exact .inr rfl)
  exact Sub.eq rfl rfl
theorem near_f (n : Int) (h : n < -1000000 ∨ 1000000 < n) : DC Try.prog 157 [iD n] (bD false) := by
  refine DC.of Try.func157 Try.ntmps157 Try.results157 rfl (by decide +kernel) rfl ?_
  repeat (first | refine Z1 ?_ | refine Z2 ?_ | (refine Z3 ?_; (repeat (first | (apply gS; first | refine go_f ?_ | refine gm ?_ | refine gp ?_ | refine go_c rfl rfl (within_f _ _ _ (by omega)) ?_))); refine T_nil ?_) | (apply ZK; first | refine Z4 ?_ | refine Z5 ?_) | refine Z6 ?_ | refine Z7 ?_)
  repeat (first | refine kEnd_m ?_ | refine kEnd_f ?_)
  refine kEnd_g ?_ (by first | exact .inl rfl | exact .inr rfl)
  exact Sub.eq rfl rfl
theorem rWithin_t (n : Int) (h1 : -1000000 ≤ n) (h2 : n ≤ 1000000) : DC Try.prog 173 [iD n] (bD true) := by
  refine DC.of Try.func173 Try.ntmps173 Try.results173 rfl (by decide +kernel) rfl ?_
  repeat (first | refine Z1 ?_ | refine Z2 ?_ | (refine Z3 ?_; (repeat (first | (apply gS; first | refine go_no ?_ | refine go_f ?_ | refine gm ?_ | refine gp ?_))); refine T_nil ?_) | (apply ZK; first | refine Z4 ?_ | refine Z5 ?_) | refine Z6 ?_ | refine Z7 ?_)
  repeat (first | refine kEnd_m ?_ | refine kEnd_f ?_)
  refine kEnd_g ?_ (by first | exact .inl rfl | exact .inr rfl)
  exact Sub.eq rfl rfl
theorem rWithin_f (n : Int) (h : n < -1000000 ∨ 1000000 < n) : DC Try.prog 173 [iD n] (bD false) := by
  by_cases h1 : n < -1000000
  · refine DC.of Try.func173 Try.ntmps173 Try.results173 rfl (by decide +kernel) rfl ?_
    repeat (first | refine Z1 ?_ | refine Z2 ?_ | (refine Z3 ?_; (repeat (first | (apply gS; first | refine go_no ?_ | refine go_f ?_ | refine gm ?_ | refine gp ?_))); refine T_nil ?_) | (apply ZK; first | refine Z4 ?_ | refine Z5 ?_) | refine Z6 ?_ | refine Z7 ?_)
    repeat (first | refine kEnd_m ?_ | refine kEnd_f ?_)
    refine kEnd_g ?_ (by first | exact .inl rfl | exact .inr rfl)
    exact Sub.eq rfl rfl
  · have h2 : 1000000 < n := by omega
    refine DC.of Try.func173 Try.ntmps173 Try.results173 rfl (by decide +kernel) rfl ?_
    repeat (first | refine Z1 ?_ | refine Z2 ?_ | (refine Z3 ?_; (repeat (first | (apply gS; first | refine go_no ?_ | refine go_f ?_ | refine gm ?_ | refine gp ?_))); refine T_nil ?_) | (apply ZK; first | refine Z4 ?_ | refine Z5 ?_) | refine Z6 ?_ | refine Z7 ?_)
    repeat (first | refine kEnd_m ?_ | refine kEnd_f ?_)
    refine kEnd_g ?_ (by first | exact .inl rfl | exact .inr rfl)
    exact Sub.eq rfl rfl
theorem vB_cases (lo hi st : Int) : (vB ⟨lo, hi, st⟩ = true ∧ -1000000 ≤ lo ∧ lo ≤ 1000000 ∧ -1000000 ≤ hi ∧ hi ≤ 1000000 ∧ -1000 ≤ st ∧ st ≤ 1000 ∧ st ≠ 0) ∨ (vB ⟨lo, hi, st⟩ = false ∧ ((lo < -1000000 ∨ 1000000 < lo) ∨ ((-1000000 ≤ lo ∧ lo ≤ 1000000) ∧ (hi < -1000000 ∨ 1000000 < hi)) ∨ ((-1000000 ≤ lo ∧ lo ≤ 1000000) ∧ (-1000000 ≤ hi ∧ hi ≤ 1000000) ∧ (st < -1000 ∨ 1000 < st ∨ st = 0)))) := by
  by_cases h : Rg.ok ⟨lo, hi, st⟩
  · exact .inl ⟨vB_true h, h⟩
  · refine .inr ⟨vB_false h, ?_⟩
    unfold Rg.ok at h
    simp only at h
    omega
theorem sValid_b (lo hi st : Int) {b : Bool} (h : vB ⟨lo, hi, st⟩ = b) : DC Try.prog 101 [.agg [iD lo, iD hi, iD st]] (bD b) := by
  subst h
  rcases vB_cases lo hi st with ⟨e, h1, h2, h3, h4, h5, h6, h7⟩ | ⟨e, h1 | ⟨h1, h2⟩ | ⟨h1, h2, h3 | h3 | h3⟩⟩
  all_goals
    rw [e]
    clear e
    refine DC.of Try.func101 Try.ntmps101 Try.results101 rfl (by decide +kernel) rfl ?_
    repeat (first | refine Z1 ?_ | refine Z2 ?_ | (refine Z3 ?_; (repeat (first | (apply gS; first | refine go_no ?_ | refine go_f ?_ | refine gm ?_ | refine gp ?_ | refine go_c rfl rfl (within_t _ _ _ (by omega) (by omega)) ?_ | refine go_c rfl rfl (within_f _ _ _ (by omega)) ?_))); refine T_nil ?_) | (apply ZK; first | refine Z4 ?_ | refine Z5 ?_) | refine Z6 ?_ | refine Z7 ?_)
    repeat (first | refine kEnd_m ?_ | refine kEnd_f ?_)
    refine kEnd_g ?_ (by first | exact .inl rfl | exact .inr rfl)
    exact Sub.eq rfl rfl
theorem rValid_b (lo hi st : Int) {b : Bool} (h : vB ⟨lo, hi, st⟩ = b) : DC Try.prog 137 [.agg [iD lo, iD hi, iD st]] (bD b) := by
  subst h
  rcases vB_cases lo hi st with ⟨e, h1, h2, h3, h4, h5, h6, h7⟩ | ⟨e, h1 | ⟨h1, h2⟩ | ⟨h1, h2, h3 | h3 | h3⟩⟩
  all_goals
    rw [e]
    clear e
    refine DC.of Try.func137 Try.ntmps137 Try.results137 rfl (by decide +kernel) rfl ?_
    repeat (first | refine Z1 ?_ | refine Z2 ?_ | (refine Z3 ?_; (repeat (first | (apply gS; first | refine go_no ?_ | refine go_f ?_ | refine gm ?_ | refine gp ?_ | refine go_c rfl rfl (rWithin_t _ (by omega) (by omega)) ?_ | refine go_c rfl rfl (rWithin_f _ (by omega)) ?_))); refine T_nil ?_) | (apply ZK; first | refine Z4 ?_ | refine Z5 ?_) | refine Z6 ?_ | refine Z7 ?_)
    repeat (first | refine kEnd_m ?_ | refine kEnd_f ?_)
    refine kEnd_g ?_ (by first | exact .inl rfl | exact .inr rfl)
    exact Sub.eq rfl rfl
theorem rowOf_d (lo hi st : Int) (hr : Rg.ok ⟨lo, hi, st⟩) : DC Try.prog 102 [.agg [iD lo, iD hi, iD st]] (wD (rowOf ⟨lo, hi, st⟩)) := by
  have hq := quo_bd hr
  obtain ⟨h1, h2, h3, h4, h5, h6, h9⟩ := hr
  simp only at hq h1 h2 h3 h4 h5 h6 h9
  obtain ⟨ha1, ha2⟩ := absI_bd h5 h6 h9
  have A := abs_d st (by omega) (by omega)
  unfold rowOf
  simp only
  generalize absI st = s at *
  by_cases hd : lo ≤ hi
  · obtain ⟨q1, q2⟩ := hq hd
    rw [← Int.tdiv_eq_ediv_of_nonneg (by omega)] at q1 q2 ⊢
    clear hq
    by_cases hc : st < 0
    all_goals
      refine DC.of Try.func102 Try.ntmps102 Try.results102 rfl (by decide +kernel) rfl ?_
      repeat (first | refine Z1 ?_ | refine Z2 ?_ | (refine Z3 ?_; (repeat (first | (apply gS; first | refine go_f ?_ | refine gm ?_ | refine gp ?_ | refine go_c rfl rfl (A) ?_) | (apply gZ; first | refine go_f ?_ | refine gm ?_))); refine T_nil ?_) | (apply ZR; refine C_dr mixed ?_; (repeat (first | (apply vS; first | refine va ?_ | refine vp ?_ | refine vr ?_ | refine vt ?_ | refine vc (A) ?_) | (apply vZ; first | refine vs ?_))); refine W_e ?_) | (apply ZK; first | refine Z4 ?_ | refine Z5 ?_) | refine Z6 ?_ | refine Z7 ?_ | refine ZF ?_)
      repeat (first | refine kEnd_m ?_ | refine kEnd_f ?_)
      refine kEnd_g ?_ (by first | exact .inl rfl | exact .inr rfl)
      exact Sub.eq (by simp [tupD, hc, hd]) rfl
  · clear hq
    by_cases hc : st < 0
    all_goals
      refine DC.of Try.func102 Try.ntmps102 Try.results102 rfl (by decide +kernel) rfl ?_
      repeat (first | refine Z1 ?_ | refine Z2 ?_ | (refine Z3 ?_; (repeat (first | (apply gS; first | refine go_f ?_ | refine gm ?_ | refine gp ?_ | refine go_c rfl rfl (A) ?_) | (apply gZ; first | refine go_f ?_ | refine gm ?_))); refine T_nil ?_) | (apply ZR; refine C_dr mixed ?_; (repeat (first | (apply vS; first | refine va ?_ | refine vp ?_ | refine vr ?_ | refine vt ?_ | refine vc (A) ?_) | (apply vZ; first | refine vs ?_))); refine W_e ?_) | (apply ZK; first | refine Z4 ?_ | refine Z5 ?_) | refine Z6 ?_ | refine Z7 ?_ | refine ZF ?_)
      repeat (first | refine kEnd_m ?_ | refine kEnd_f ?_)
      refine kEnd_g ?_ (by first | exact .inl rfl | exact .inr rfl)
      exact Sub.eq (by simp [tupD, hc, hd]) rfl
theorem rOf_d (lo hi st : Int) (hr : Rg.ok ⟨lo, hi, st⟩) : DC Try.prog 138 [.agg [iD lo, iD hi, iD st]] (wD (refOf ⟨lo, hi, st⟩)) := by
  have hq := quo_bd hr
  obtain ⟨h1, h2, h3, h4, h5, h6, h9⟩ := hr
  simp only at hq h1 h2 h3 h4 h5 h6 h9
  obtain ⟨ha1, ha2⟩ := absI_bd h5 h6 h9
  unfold refOf rowOf
  simp only
  have key : ∀ s : Int, absI st = s → (1 ≤ s ∧ s ≤ 1000) → (st < 0 → s = -st) → (¬ st < 0 → s = st) → DC Try.prog 138 [.agg [iD lo, iD hi, iD st]] (wD ⟨if st < 0 then hi else lo, if (if lo ≤ hi then (hi - lo) / s + 1 else 0) < 2 then 1 else st, if lo ≤ hi then (hi - lo) / s + 1 else 0⟩) := by
    intro s e hs e1 e2
    rw [e] at hq
    clear e
    by_cases hd : lo ≤ hi
    · obtain ⟨q1, q2⟩ := hq hd
      rw [← Int.tdiv_eq_ediv_of_nonneg (by omega)] at q1 q2 ⊢
      clear hq
      by_cases hc : st < 0
      · obtain rfl := e1 hc
        by_cases h2' : (hi - lo).tdiv (-st) + 1 < 2
        all_goals
          refine DC.of Try.func138 Try.ntmps138 Try.results138 rfl (by decide +kernel) rfl ?_
          repeat (first | refine Z1 ?_ | refine Z2 ?_ | (refine Z3 ?_; (repeat (first | (apply gS; first | refine go_f ?_ | refine gm ?_ | refine gp ?_) | (apply gZ; first | refine go_f ?_ | refine gm ?_))); refine T_nil ?_) | (apply ZK; first | refine Z4 ?_ | refine Z5 ?_) | refine Z6 ?_ | refine Z7 ?_ | refine ZF ?_)
          repeat (first | refine kEnd_m ?_ | refine kEnd_f ?_)
          refine kEnd_g ?_ (by first | exact .inl rfl | exact .inr rfl)
          exact Sub.eq (by simp [tupD, hc, hd, h2', -Int.tdiv_neg]) rfl
      · obtain rfl := e2 hc
        by_cases h2' : (hi - lo).tdiv s + 1 < 2
        all_goals
          refine DC.of Try.func138 Try.ntmps138 Try.results138 rfl (by decide +kernel) rfl ?_
          repeat (first | refine Z1 ?_ | refine Z2 ?_ | (refine Z3 ?_; (repeat (first | (apply gS; first | refine go_f ?_ | refine gm ?_ | refine gp ?_) | (apply gZ; first | refine go_f ?_ | refine gm ?_))); refine T_nil ?_) | (apply ZK; first | refine Z4 ?_ | refine Z5 ?_) | refine Z6 ?_ | refine Z7 ?_ | refine ZF ?_)
          repeat (first | refine kEnd_m ?_ | refine kEnd_f ?_)
          refine kEnd_g ?_ (by first | exact .inl rfl | exact .inr rfl)
          exact Sub.eq (by simp [tupD, hc, hd, h2', -Int.tdiv_neg]) rfl
    · clear hq
      by_cases hc : st < 0
      all_goals
        refine DC.of Try.func138 Try.ntmps138 Try.results138 rfl (by decide +kernel) rfl ?_
        repeat (first | refine Z1 ?_ | refine Z2 ?_ | (refine Z3 ?_; (repeat (first | (apply gS; first | refine go_f ?_ | refine gm ?_ | refine gp ?_) | (apply gZ; first | refine go_f ?_ | refine gm ?_))); refine T_nil ?_) | (apply ZK; first | refine Z4 ?_ | refine Z5 ?_) | refine Z6 ?_ | refine Z7 ?_ | refine ZF ?_)
        repeat (first | refine kEnd_m ?_ | refine kEnd_f ?_)
        refine kEnd_g ?_ (by first | exact .inl rfl | exact .inr rfl)
        exact Sub.eq (by simp [tupD, hc, hd]) rfl
  exact key _ rfl ⟨ha1, ha2⟩ (fun h => absI_neg h) (fun h => absI_pos (by omega))
theorem rowOf_r (r : Rg) (hr : r.ok) : DC Try.prog 102 [rD r] (wD (rowOf r)) := rowOf_d r.lo r.hi r.st hr
theorem rOf_r (r : Rg) (hr : r.ok) : DC Try.prog 138 [rD r] (wD (refOf r)) := rOf_d r.lo r.hi r.st hr
end Go.Proofs.Ytifapodobhkdcaa
