/- Contracts of Canon, Count, Ith, Place, Has, Members of packages span and purlieuref03, by the abstract machine. -/
import Derived.Test.YtifapodobhkdcaaRun
import Derived.Test.YtifapodobhkdcaaDsMath
namespace Go.Proofs.Ytifapodobhkdcaa
open Go.RowKit
set_option linter.unusedVariables false
set_option maxHeartbeats 16000000
set_option linter.unusedSimpArgs false
set_option maxRecDepth 100000
abbrev rD (r : Rg) : D := .agg [iD r.lo, iD r.hi, iD r.st]
abbrev wD (x : Rw) : D := .agg [iD x.f, iD x.s, iD x.n]
theorem abs_d (n : Int) (h1 : -1048576 ≤ n) (h2 : n ≤ 1048576) : DC Try.prog 160 [iD n] (iD (absI n)) := by
  by_cases hn : n < 0
  · rw [absI_neg hn]
    refine DC.of Try.func160 Try.ntmps160 Try.results160 rfl (by decide +kernel) rfl ?_
    repeat (first | refine Z1 ?_ | refine Z2 ?_ | (refine Z3 ?_; (repeat (first | (apply gS; first | refine go_f ?_ | refine gm ?_ | refine gp ?_))); refine T_nil ?_) | (apply ZK; first | refine Z4 ?_ | refine Z5 ?_) | refine Z6 ?_ | refine Z7 ?_)
    repeat (first | refine kEnd_m ?_ | refine kEnd_f ?_)
    refine kEnd_g ?_ (by first | exact .inl rfl | exact .inr rfl)
    exact Sub.eq rfl rfl
  · rw [absI_pos (by omega)]
    refine DC.of Try.func160 Try.ntmps160 Try.results160 rfl (by decide +kernel) rfl ?_
    repeat (first | refine Z1 ?_ | refine Z2 ?_ | (refine Z3 ?_; (repeat (first | (apply gS; first | refine go_f ?_ | refine gm ?_ | refine gp ?_))); refine T_nil ?_) | (apply ZK; first | refine Z4 ?_ | refine Z5 ?_) | refine Z6 ?_ | refine Z7 ?_)
    repeat (first | refine kEnd_m ?_ | refine kEnd_f ?_)
    refine kEnd_g ?_ (by first | exact .inl rfl | exact .inr rfl)
    exact Sub.eq rfl rfl
theorem within_t (n lo hi : Int) (h1 : lo ≤ n) (h2 : n ≤ hi) : DC Try.prog 159 [iD n, iD lo, iD hi] (bD true) := by
  refine DC.of Try.func159 Try.ntmps159 Try.results159 rfl (by decide +kernel) rfl ?_
  repeat (first | refine Z1 ?_ | refine Z2 ?_ | (refine Z3 ?_; (repeat (first | (apply gS; first | refine go_no ?_ | refine go_f ?_ | refine gm ?_ | refine gp ?_))); refine T_nil ?_) | (apply ZK; first | refine Z4 ?_ | refine Z5 ?_) | refine Z6 ?_ | refine Z7 ?_)
  repeat (first | refine kEnd_m ?_ | refine kEnd_f ?_)
  refine kEnd_g ?_ (by first | exact .inl rfl | exact .inr rfl)
  exact Sub.eq rfl rfl
theorem within_f (n lo hi : Int) (h : n < lo ∨ hi < n) : DC Try.prog 159 [iD n, iD lo, iD hi] (bD false) := by
  by_cases h1 : n < lo
  · refine DC.of Try.func159 Try.ntmps159 Try.results159 rfl (by decide +kernel) rfl ?_
    repeat (first | refine Z1 ?_ | refine Z2 ?_ | (refine Z3 ?_; (repeat (first | (apply gS; first | refine go_no ?_ | refine go_f ?_ | refine gm ?_ | refine gp ?_))); refine T_nil ?_) | (apply ZK; first | refine Z4 ?_ | refine Z5 ?_) | refine Z6 ?_ | refine Z7 ?_)
    repeat (first | refine kEnd_m ?_ | refine kEnd_f ?_)
    refine kEnd_g ?_ (by first | exact .inl rfl | exact .inr rfl)
    exact Sub.eq rfl rfl
  · have h2 : hi < n := by omega
    refine DC.of Try.func159 Try.ntmps159 Try.results159 rfl (by decide +kernel) rfl ?_
    repeat (first | refine Z1 ?_ | refine Z2 ?_ | (refine Z3 ?_; (repeat (first | (apply gS; first | refine go_no ?_ | refine go_f ?_ | refine gm ?_ | refine gp ?_))); refine T_nil ?_) | (apply ZK; first | refine Z4 ?_ | refine Z5 ?_) | refine Z6 ?_ | refine Z7 ?_)
    repeat (first | refine kEnd_m ?_ | refine kEnd_f ?_)
    refine kEnd_g ?_ (by first | exact .inl rfl | exact .inr rfl)
    exact Sub.eq rfl rfl
theorem near_t (n : Int) (h1 : -1000000 ≤ n) (h2 : n ≤ 1000000) : DC Try.prog 157 [iD n] (bD true) := by
  refine DC.of Try.func157 Try.ntmps157 Try.results157 rfl (by decide +kernel) rfl ?_
  repeat (first | refine Z1 ?_ | refine Z2 ?_ | (refine Z3 ?_; (repeat (first | (apply gS; first | refine go_f ?_ | refine gm ?_ | refine gp ?_ | refine go_c rfl rfl (within_t _ _ _ (by omega) (by omega)) ?_))); refine T_nil ?_) | (apply ZK; first | refine Z4 ?_ | refine Z5 ?_) | refine Z6 ?_ | refine Z7 ?_)
  repeat (first | refine kEnd_m ?_ | refine kEnd_f ?_)
  refine kEnd_g ?_ (by first | exact .inl rfl | exact .inr rfl)
  exact Sub.eq rfl rfl
theorem near_f (n : Int) (h : n < -1000000 ∨ 1000000 < n) : DC Try.prog 157 [iD n] (bD false) := by
  refine DC.of Try.func157 Try.ntmps157 Try.results157 rfl (by decide +kernel) rfl ?_
  repeat (first | refine Z1 ?_ | refine Z2 ?_ | (refine Z3 ?_; (repeat (first | (apply gS; first | refine go_f ?_ | refine gm ?_ | refine gp ?_ | refine go_c rfl rfl (within_f _ _ _ (by omega)) ?_))); refine T_nil ?_) | (apply ZK; first | refine Z4 ?_ | refine Z5 ?_) | refine Z6 ?_ | refine Z7 ?_)
  repeat (first | refine kEnd_m ?_ | refine kEnd_f ?_)
  refine kEnd_g ?_ (by first | exact .inl rfl | exact .inr rfl)
  exact Sub.eq rfl rfl
theorem rWithin_t (n : Int) (h1 : -1000000 ≤ n) (h2 : n ≤ 1000000) : DC Try.prog 173 [iD n] (bD true) := by
  refine DC.of Try.func173 Try.ntmps173 Try.results173 rfl (by decide +kernel) rfl ?_
  repeat (first | refine Z1 ?_ | refine Z2 ?_ | (refine Z3 ?_; (repeat (first | (apply gS; first | refine go_no ?_ | refine go_f ?_ | refine gm ?_ | refine gp ?_))); refine T_nil ?_) | (apply ZK; first | refine Z4 ?_ | refine Z5 ?_) | refine Z6 ?_ | refine Z7 ?_)
  repeat (first | refine kEnd_m ?_ | refine kEnd_f ?_)
  refine kEnd_g ?_ (by first | exact .inl rfl | exact .inr rfl)
  exact Sub.eq rfl rfl
theorem rWithin_f (n : Int) (h : n < -1000000 ∨ 1000000 < n) : DC Try.prog 173 [iD n] (bD false) := by
  by_cases h1 : n < -1000000
  · refine DC.of Try.func173 Try.ntmps173 Try.results173 rfl (by decide +kernel) rfl ?_
    repeat (first | refine Z1 ?_ | refine Z2 ?_ | (refine Z3 ?_; (repeat (first | (apply gS; first | refine go_no ?_ | refine go_f ?_ | refine gm ?_ | refine gp ?_))); refine T_nil ?_) | (apply ZK; first | refine Z4 ?_ | refine Z5 ?_) | refine Z6 ?_ | refine Z7 ?_)
    repeat (first | refine kEnd_m ?_ | refine kEnd_f ?_)
    refine kEnd_g ?_ (by first | exact .inl rfl | exact .inr rfl)
    exact Sub.eq rfl rfl
  · have h2 : 1000000 < n := by omega
    refine DC.of Try.func173 Try.ntmps173 Try.results173 rfl (by decide +kernel) rfl ?_
    repeat (first | refine Z1 ?_ | refine Z2 ?_ | (refine Z3 ?_; (repeat (first | (apply gS; first | refine go_no ?_ | refine go_f ?_ | refine gm ?_ | refine gp ?_))); refine T_nil ?_) | (apply ZK; first | refine Z4 ?_ | refine Z5 ?_) | refine Z6 ?_ | refine Z7 ?_)
    repeat (first | refine kEnd_m ?_ | refine kEnd_f ?_)
    refine kEnd_g ?_ (by first | exact .inl rfl | exact .inr rfl)
    exact Sub.eq rfl rfl
theorem vB_cases (lo hi st : Int) : (vB ⟨lo, hi, st⟩ = true ∧ -1000000 ≤ lo ∧ lo ≤ 1000000 ∧ -1000000 ≤ hi ∧ hi ≤ 1000000 ∧ -1000 ≤ st ∧ st ≤ 1000 ∧ st ≠ 0) ∨ (vB ⟨lo, hi, st⟩ = false ∧ ((lo < -1000000 ∨ 1000000 < lo) ∨ ((-1000000 ≤ lo ∧ lo ≤ 1000000) ∧ (hi < -1000000 ∨ 1000000 < hi)) ∨ ((-1000000 ≤ lo ∧ lo ≤ 1000000) ∧ (-1000000 ≤ hi ∧ hi ≤ 1000000) ∧ (st < -1000 ∨ 1000 < st ∨ st = 0)))) := by
  by_cases h : Rg.ok ⟨lo, hi, st⟩
  · exact .inl ⟨vB_true h, h⟩
  · refine .inr ⟨vB_false h, ?_⟩
    unfold Rg.ok at h
    simp only at h
    omega
theorem sValid_b (lo hi st : Int) {b : Bool} (h : vB ⟨lo, hi, st⟩ = b) : DC Try.prog 101 [.agg [iD lo, iD hi, iD st]] (bD b) := by
  subst h
  rcases vB_cases lo hi st with ⟨e, h1, h2, h3, h4, h5, h6, h7⟩ | ⟨e, h1 | ⟨h1, h2⟩ | ⟨h1, h2, h3 | h3 | h3⟩⟩
  all_goals
    rw [e]
    clear e
    refine DC.of Try.func101 Try.ntmps101 Try.results101 rfl (by decide +kernel) rfl ?_
    repeat (first | refine Z1 ?_ | refine Z2 ?_ | (refine Z3 ?_; (repeat (first | (apply gS; first | refine go_no ?_ | refine go_f ?_ | refine gm ?_ | refine gp ?_ | refine go_c rfl rfl (within_t _ _ _ (by omega) (by omega)) ?_ | refine go_c rfl rfl (within_f _ _ _ (by omega)) ?_))); refine T_nil ?_) | (apply ZK; first | refine Z4 ?_ | refine Z5 ?_) | refine Z6 ?_ | refine Z7 ?_)
    repeat (first | refine kEnd_m ?_ | refine kEnd_f ?_)
    refine kEnd_g ?_ (by first | exact .inl rfl | exact .inr rfl)
    exact Sub.eq rfl rfl
theorem rValid_b (lo hi st : Int) {b : Bool} (h : vB ⟨lo, hi, st⟩ = b) : DC Try.prog 137 [.agg [iD lo, iD hi, iD st]] (bD b) := by
  subst h
  rcases vB_cases lo hi st with ⟨e, h1, h2, h3, h4, h5, h6, h7⟩ | ⟨e, h1 | ⟨h1, h2⟩ | ⟨h1, h2, h3 | h3 | h3⟩⟩
  all_goals
    rw [e]
    clear e
    refine DC.of Try.func137 Try.ntmps137 Try.results137 rfl (by decide +kernel) rfl ?_
    repeat (first | refine Z1 ?_ | refine Z2 ?_ | (refine Z3 ?_; (repeat (first | (apply gS; first | refine go_no ?_ | refine go_f ?_ | refine gm ?_ | refine gp ?_ | refine go_c rfl rfl (rWithin_t _ (by omega) (by omega)) ?_ | refine go_c rfl rfl (rWithin_f _ (by omega)) ?_))); refine T_nil ?_) | (apply ZK; first | refine Z4 ?_ | refine Z5 ?_) | refine Z6 ?_ | refine Z7 ?_)
    repeat (first | refine kEnd_m ?_ | refine kEnd_f ?_)
    refine kEnd_g ?_ (by first | exact .inl rfl | exact .inr rfl)
    exact Sub.eq rfl rfl
theorem rowOf_d (lo hi st : Int) (hr : Rg.ok ⟨lo, hi, st⟩) : DC Try.prog 102 [.agg [iD lo, iD hi, iD st]] (wD (rowOf ⟨lo, hi, st⟩)) := by
  have hq := quo_bd hr
  obtain ⟨h1, h2, h3, h4, h5, h6, h9⟩ := hr
  simp only at hq h1 h2 h3 h4 h5 h6 h9
  obtain ⟨ha1, ha2⟩ := absI_bd h5 h6 h9
  have A := abs_d st (by omega) (by omega)
  unfold rowOf
  simp only
  generalize absI st = s at *
  by_cases hd : lo ≤ hi
  · obtain ⟨q1, q2⟩ := hq hd
    rw [← Int.tdiv_eq_ediv_of_nonneg (by omega)] at q1 q2 ⊢
    clear hq
    by_cases hc : st < 0
    all_goals
      refine DC.of Try.func102 Try.ntmps102 Try.results102 rfl (by decide +kernel) rfl ?_
      repeat (first | refine Z1 ?_ | refine Z2 ?_ | (refine Z3 ?_; (repeat (first | (apply gS; first | refine go_f ?_ | refine gm ?_ | refine gp ?_ | refine go_c rfl rfl (A) ?_) | (apply gZ; first | refine go_f ?_ | refine gm ?_))); refine T_nil ?_) | (apply ZR; refine C_dr mixed ?_; (repeat (first | (apply vS; first | refine va ?_ | refine vp ?_ | refine vr ?_ | refine vt ?_ | refine vc (A) ?_) | (apply vZ; first | refine vs ?_))); refine W_e ?_) | (apply ZK; first | refine Z4 ?_ | refine Z5 ?_) | refine Z6 ?_ | refine Z7 ?_ | refine ZF ?_)
      repeat (first | refine kEnd_m ?_ | refine kEnd_f ?_)
      refine kEnd_g ?_ (by first | exact .inl rfl | exact .inr rfl)
      exact Sub.eq (by simp [tupD, hc, hd]) rfl
  · clear hq
    by_cases hc : st < 0
    all_goals
      refine DC.of Try.func102 Try.ntmps102 Try.results102 rfl (by decide +kernel) rfl ?_
      repeat (first | refine Z1 ?_ | refine Z2 ?_ | (refine Z3 ?_; (repeat (first | (apply gS; first | refine go_f ?_ | refine gm ?_ | refine gp ?_ | refine go_c rfl rfl (A) ?_) | (apply gZ; first | refine go_f ?_ | refine gm ?_))); refine T_nil ?_) | (apply ZR; refine C_dr mixed ?_; (repeat (first | (apply vS; first | refine va ?_ | refine vp ?_ | refine vr ?_ | refine vt ?_ | refine vc (A) ?_) | (apply vZ; first | refine vs ?_))); refine W_e ?_) | (apply ZK; first | refine Z4 ?_ | refine Z5 ?_) | refine Z6 ?_ | refine Z7 ?_ | refine ZF ?_)
      repeat (first | refine kEnd_m ?_ | refine kEnd_f ?_)
      refine kEnd_g ?_ (by first | exact .inl rfl | exact .inr rfl)
      exact Sub.eq (by simp [tupD, hc, hd]) rfl
theorem rOf_d (lo hi st : Int) (hr : Rg.ok ⟨lo, hi, st⟩) : DC Try.prog 138 [.agg [iD lo, iD hi, iD st]] (wD (refOf ⟨lo, hi, st⟩)) := by
  have hq := quo_bd hr
  obtain ⟨h1, h2, h3, h4, h5, h6, h9⟩ := hr
  simp only at hq h1 h2 h3 h4 h5 h6 h9
  obtain ⟨ha1, ha2⟩ := absI_bd h5 h6 h9
  unfold refOf rowOf
  simp only
  have key : ∀ s : Int, absI st = s → (1 ≤ s ∧ s ≤ 1000) → (st < 0 → s = -st) → (¬ st < 0 → s = st) → DC Try.prog 138 [.agg [iD lo, iD hi, iD st]] (wD ⟨if st < 0 then hi else lo, if (if lo ≤ hi then (hi - lo) / s + 1 else 0) < 2 then 1 else st, if lo ≤ hi then (hi - lo) / s + 1 else 0⟩) := by
    intro s e hs e1 e2
    rw [e] at hq
    clear e
    by_cases hd : lo ≤ hi
    · obtain ⟨q1, q2⟩ := hq hd
      rw [← Int.tdiv_eq_ediv_of_nonneg (by omega)] at q1 q2 ⊢
      clear hq
      by_cases hc : st < 0
      · obtain rfl := e1 hc
        by_cases h2' : (hi - lo).tdiv (-st) + 1 < 2
        all_goals
          refine DC.of Try.func138 Try.ntmps138 Try.results138 rfl (by decide +kernel) rfl ?_
          repeat (first | refine Z1 ?_ | refine Z2 ?_ | (refine Z3 ?_; (repeat (first | (apply gS; first | refine go_f ?_ | refine gm ?_ | refine gp ?_) | (apply gZ; first | refine go_f ?_ | refine gm ?_))); refine T_nil ?_) | (apply ZK; first | refine Z4 ?_ | refine Z5 ?_) | refine Z6 ?_ | refine Z7 ?_ | refine ZF ?_)
          repeat (first | refine kEnd_m ?_ | refine kEnd_f ?_)
          refine kEnd_g ?_ (by first | exact .inl rfl | exact .inr rfl)
          exact Sub.eq (by simp [tupD, hc, hd, h2', -Int.tdiv_neg]) rfl
      · obtain rfl := e2 hc
        by_cases h2' : (hi - lo).tdiv s + 1 < 2
        all_goals
          refine DC.of Try.func138 Try.ntmps138 Try.results138 rfl (by decide +kernel) rfl ?_
          repeat (first | refine Z1 ?_ | refine Z2 ?_ | (refine Z3 ?_; (repeat (first | (apply gS; first | refine go_f ?_ | refine gm ?_ | refine gp ?_) | (apply gZ; first | refine go_f ?_ | refine gm ?_))); refine T_nil ?_) | (apply ZK; first | refine Z4 ?_ | refine Z5 ?_) | refine Z6 ?_ | refine Z7 ?_ | refine ZF ?_)
          repeat (first | refine kEnd_m ?_ | refine kEnd_f ?_)
          refine kEnd_g ?_ (by first | exact .inl rfl | exact .inr rfl)
          exact Sub.eq (by simp [tupD, hc, hd, h2', -Int.tdiv_neg]) rfl
    · clear hq
      by_cases hc : st < 0
      all_goals
        refine DC.of Try.func138 Try.ntmps138 Try.results138 rfl (by decide +kernel) rfl ?_
        repeat (first | refine Z1 ?_ | refine Z2 ?_ | (refine Z3 ?_; (repeat (first | (apply gS; first | refine go_f ?_ | refine gm ?_ | refine gp ?_) | (apply gZ; first | refine go_f ?_ | refine gm ?_))); refine T_nil ?_) | (apply ZK; first | refine Z4 ?_ | refine Z5 ?_) | refine Z6 ?_ | refine Z7 ?_ | refine ZF ?_)
        repeat (first | refine kEnd_m ?_ | refine kEnd_f ?_)
        refine kEnd_g ?_ (by first | exact .inl rfl | exact .inr rfl)
        exact Sub.eq (by simp [tupD, hc, hd]) rfl
  exact key _ rfl ⟨ha1, ha2⟩ (fun h => absI_neg h) (fun h => absI_pos (by omega))
theorem rowOf_r (r : Rg) (hr : r.ok) : DC Try.prog 102 [rD r] (wD (rowOf r)) := rowOf_d r.lo r.hi r.st hr
theorem rOf_r (r : Rg) (hr : r.ok) : DC Try.prog 138 [rD r] (wD (refOf r)) := rOf_d r.lo r.hi r.st hr
end Go.Proofs.Ytifapodobhkdcaa
namespace Go.Proofs.Ytifapodobhkdcaa
open Go.RowKit
set_option linter.unusedVariables false
set_option maxHeartbeats 16000000
set_option linter.unusedSimpArgs false
set_option maxRecDepth 100000
theorem sameInts_d (la lb : List Int) (ha : la.length ≤ 9223372036854775806) : DC Try.prog 28 [rowI la, rowI lb] (bD (decide (la = lb))) := by
  by_cases hn : la.length = lb.length
  · have hn' : (la.length : Int) = lb.length := by omega
    refine DC.of Try.func28 Try.ntmps28 Try.results28 rfl (by decide +kernel) rfl ?_
    repeat (first | refine Z1 ?_ | refine Z2 ?_ | (refine Z3 ?_; (repeat (first | (apply gS; first | refine go_f ?_ | refine gm ?_ | refine gp ?_))); refine T_nil ?_) | (apply ZR; refine C_dr mixed ?_; (repeat (first | (apply vS; first | refine va ?_ | refine vp ?_ | refine vr ?_ | refine vt ?_))); refine W_e ?_) | (apply ZK; first | refine Z4 ?_ | refine Z5 ?_) | refine Z6 ?_ | refine Z7 ?_ | refine Z8 ?_ | refine Z9 ?_ | refine ZA ?_ | refine ZB ?_ | refine ZC ?_ | refine ZD ?_ | refine ZE ?_ | refine ZF ?_ | refine ZG ?_ | refine ZH ?_)
    refine C_count la.length (fun k => ∀ j (h1 : j < la.length) (h2 : j < lb.length), j < k → la[j] = lb[j]) (fun k => ⟨0, 26, [(0, rowI la), (1, rowI lb), (5, iD k)], []⟩) ?_ (fun j _ _ h => absurd h (by omega)) ?_
    · exact Wk.go (fun b => b)
    · intro k hk hΦ
      by_cases hlt : k < la.length
      · have h2 : k < lb.length := by omega
        by_cases he : la[k] = lb[k]
        · repeat (first | refine Z1 ?_ | refine Z2 ?_ | (refine Z3 ?_; (repeat (first | (apply gS; first | refine go_f ?_ | refine gm ?_ | refine gp ?_))); refine T_nil ?_) | (apply ZR; refine C_dr mixed ?_; (repeat (first | (apply vS; first | refine va ?_ | refine vp ?_ | refine vr ?_ | refine vt ?_))); refine W_e ?_) | (apply ZK; first | refine Z4 ?_ | refine Z5 ?_) | refine Z6 ?_ | refine Z7 ?_ | refine Z8 ?_ | refine Z9 ?_ | refine ZA ?_ | refine ZB ?_ | refine ZC ?_ | refine ZD ?_ | refine ZE ?_ | refine ZF ?_ | refine ZG ?_ | refine ZH ?_)
          refine kLoop_n ⟨hlt, fun j h1 h2 h => ?_, ?_⟩
          · by_cases hj : j = k
            · subst hj; exact he
            · exact hΦ j h1 h2 (by omega)
          · exact Wk.go (fun b => b)
        · repeat (first | refine Z1 ?_ | refine Z2 ?_ | (refine Z3 ?_; (repeat (first | (apply gS; first | refine go_f ?_ | refine gm ?_ | refine gp ?_))); refine T_nil ?_) | (apply ZR; refine C_dr mixed ?_; (repeat (first | (apply vS; first | refine va ?_ | refine vp ?_ | refine vr ?_ | refine vt ?_))); refine W_e ?_) | (apply ZK; first | refine Z4 ?_ | refine Z5 ?_) | refine Z6 ?_ | refine Z7 ?_ | refine Z8 ?_ | refine Z9 ?_ | refine ZA ?_ | refine ZB ?_ | refine ZC ?_ | refine ZD ?_ | refine ZE ?_ | refine ZF ?_ | refine ZG ?_ | refine ZH ?_)
          repeat (first | refine kEnd_m ?_ | refine kEnd_f ?_)
          refine kEnd_g ?_ (by first | exact .inl rfl | exact .inr rfl)
          exact Sub.eq (by simp [tupD]; intro h; subst h; exact he rfl) rfl
      · repeat (first | refine Z1 ?_ | refine Z2 ?_ | (refine Z3 ?_; (repeat (first | (apply gS; first | refine go_f ?_ | refine gm ?_ | refine gp ?_))); refine T_nil ?_) | (apply ZR; refine C_dr mixed ?_; (repeat (first | (apply vS; first | refine va ?_ | refine vp ?_ | refine vr ?_ | refine vt ?_))); refine W_e ?_) | (apply ZK; first | refine Z4 ?_ | refine Z5 ?_) | refine Z6 ?_ | refine Z7 ?_ | refine Z8 ?_ | refine Z9 ?_ | refine ZA ?_ | refine ZB ?_ | refine ZC ?_ | refine ZD ?_ | refine ZE ?_ | refine ZF ?_ | refine ZG ?_ | refine ZH ?_)
        repeat (first | refine kEnd_m ?_ | refine kEnd_f ?_)
        refine kEnd_g ?_ (by first | exact .inl rfl | exact .inr rfl)
        have h : la = lb := List.ext_getElem hn fun j h1 h2 => hΦ j h1 h2 (by omega)
        exact Sub.eq (by simp [tupD, h]) rfl
  · have hn' : ¬ (la.length : Int) = lb.length := by omega
    refine DC.of Try.func28 Try.ntmps28 Try.results28 rfl (by decide +kernel) rfl ?_
    repeat (first | refine Z1 ?_ | refine Z2 ?_ | (refine Z3 ?_; (repeat (first | (apply gS; first | refine go_f ?_ | refine gm ?_ | refine gp ?_))); refine T_nil ?_) | (apply ZR; refine C_dr mixed ?_; (repeat (first | (apply vS; first | refine va ?_ | refine vp ?_ | refine vr ?_ | refine vt ?_))); refine W_e ?_) | (apply ZK; first | refine Z4 ?_ | refine Z5 ?_) | refine Z6 ?_ | refine Z7 ?_ | refine Z8 ?_ | refine Z9 ?_ | refine ZA ?_ | refine ZB ?_ | refine ZC ?_ | refine ZD ?_ | refine ZE ?_ | refine ZF ?_ | refine ZG ?_ | refine ZH ?_)
    repeat (first | refine kEnd_m ?_ | refine kEnd_f ?_)
    refine kEnd_g ?_ (by first | exact .inl rfl | exact .inr rfl)
    exact Sub.eq (by simp [tupD]; intro h; exact hn (by rw [h])) rfl
end Go.Proofs.Ytifapodobhkdcaa
namespace Go.Proofs.Ytifapodobhkdcaa
open Go.RowKit
set_option linter.unusedVariables false
set_option maxHeartbeats 16000000
set_option linter.unusedSimpArgs false
set_option maxRecDepth 100000
theorem sAt_d (x : Rw) (i : Int) (h1 : -9000000000000 ≤ i * x.s) (h2 : i * x.s ≤ 9000000000000) (h3 : -1099511627776 ≤ x.f) (h4 : x.f ≤ 1099511627776) : DC Try.prog 103 [wD x, iD i] (iD (atOf x i)) := by
  refine DC.of Try.func103 Try.ntmps103 Try.results103 rfl (by decide +kernel) rfl ?_
  repeat (first | refine Z1 ?_ | refine Z2 ?_ | (refine Z3 ?_; (repeat (first | (apply gS; first | refine go_f ?_ | refine gm ?_ | refine gp ?_))); refine T_nil ?_) | (apply ZK; first | refine Z4 ?_ | refine Z5 ?_) | refine Z6 ?_ | refine Z7 ?_)
  repeat (first | refine kEnd_m ?_ | refine kEnd_f ?_)
  refine kEnd_g ?_ (by first | exact .inl rfl | exact .inr rfl)
  exact Sub.eq rfl rfl
theorem sLast_d (x : Rw) (hx : x.small) : DC Try.prog 169 [wD x] (iD (lastOf x)) := by
  obtain ⟨h1, h2, h3, h4, h5, h6⟩ := hx
  have hp := prod_small (a := x.n - 1) (b := x.s) (by omega) (by omega) h3 h4
  refine DC.of Try.func169 Try.ntmps169 Try.results169 rfl (by decide +kernel) rfl ?_
  repeat (first | refine Z1 ?_ | refine Z2 ?_ | (refine Z3 ?_; (repeat (first | (apply gS; first | refine go_f ?_ | refine gm ?_ | refine gp ?_ | refine go_c rfl rfl (sAt_d x (x.n - 1) (by omega) (by omega) h1 h2) ?_))); refine T_nil ?_) | (apply ZK; first | refine Z4 ?_ | refine Z5 ?_) | refine Z6 ?_ | refine Z7 ?_)
  repeat (first | refine kEnd_m ?_ | refine kEnd_f ?_)
  refine kEnd_g ?_ (by first | exact .inl rfl | exact .inr rfl)
  exact Sub.eq rfl rfl
theorem rAt_d (x : Rw) (i : Int) (h1 : -9000000000000 ≤ i * x.s) (h2 : i * x.s ≤ 9000000000000) (h3 : -1099511627776 ≤ x.f) (h4 : x.f ≤ 1099511627776) : DC Try.prog 187 [wD x, iD i] (iD (atOf x i)) := by
  refine DC.of Try.func187 Try.ntmps187 Try.results187 rfl (by decide +kernel) rfl ?_
  repeat (first | refine Z1 ?_ | refine Z2 ?_ | (refine Z3 ?_; (repeat (first | (apply gS; first | refine go_f ?_ | refine gm ?_ | refine gp ?_))); refine T_nil ?_) | (apply ZK; first | refine Z4 ?_ | refine Z5 ?_) | refine Z6 ?_ | refine Z7 ?_)
  repeat (first | refine kEnd_m ?_ | refine kEnd_f ?_)
  refine kEnd_g ?_ (by first | exact .inl rfl | exact .inr rfl)
  exact Sub.eq rfl rfl
theorem rAtLast_d (x : Rw) (hx : x.small) : DC Try.prog 187 [wD x, iD (x.n - 1)] (iD (lastOf x)) := by
  obtain ⟨h1, h2, h3, h4, h5, h6⟩ := hx
  have hp := prod_small (a := x.n - 1) (b := x.s) (by omega) (by omega) h3 h4
  exact rAt_d x (x.n - 1) (by omega) (by omega) h1 h2
theorem sCanon_d (x : Rw) (hx : x.small) (hs : x.s ≠ 0) : DC Try.prog 184 [wD x] (rD (canonOf x)) := by
  by_cases h0 : x.n = 0
  · rw [canonOf_0 h0]
    refine DC.of Try.func184 Try.ntmps184 Try.results184 rfl (by decide +kernel) rfl ?_
    repeat (first | refine Z1 ?_ | refine Z2 ?_ | (refine Z3 ?_; (repeat (first | (apply gS; first | refine go_f ?_ | refine gm ?_ | refine gp ?_) | (apply gZ; first | refine go_f ?_ | refine gm ?_))); refine T_nil ?_) | (apply ZR; refine C_dr mixed ?_; (repeat (first | (apply vS; first | refine va ?_ | refine vp ?_ | refine vr ?_ | refine vt ?_) | (apply vZ; first | refine vs ?_))); refine W_e ?_) | (apply ZK; first | refine Z4 ?_ | refine Z5 ?_) | refine Z6 ?_ | refine Z7 ?_ | refine Z8 ?_ | refine Z9 ?_ | refine ZA ?_ | refine ZB ?_ | refine ZC ?_ | refine ZF ?_)
    repeat (first | refine kEnd_m ?_ | refine kEnd_f ?_)
    refine kEnd_g ?_ (by first | exact .inl rfl | exact .inr rfl)
    exact Sub.eq rfl rfl
  by_cases h1 : x.n = 1
  · rw [canonOf_1 h1]
    refine DC.of Try.func184 Try.ntmps184 Try.results184 rfl (by decide +kernel) rfl ?_
    repeat (first | refine Z1 ?_ | refine Z2 ?_ | (refine Z3 ?_; (repeat (first | (apply gS; first | refine go_f ?_ | refine gm ?_ | refine gp ?_) | (apply gZ; first | refine go_f ?_ | refine gm ?_))); refine T_nil ?_) | (apply ZR; refine C_dr mixed ?_; (repeat (first | (apply vS; first | refine va ?_ | refine vp ?_ | refine vr ?_ | refine vt ?_) | (apply vZ; first | refine vs ?_))); refine W_e ?_) | (apply ZK; first | refine Z4 ?_ | refine Z5 ?_) | refine Z6 ?_ | refine Z7 ?_ | refine Z8 ?_ | refine Z9 ?_ | refine ZA ?_ | refine ZB ?_ | refine ZC ?_ | refine ZF ?_)
    repeat (first | refine kEnd_m ?_ | refine kEnd_f ?_)
    refine kEnd_g ?_ (by first | exact .inl rfl | exact .inr rfl)
    exact Sub.eq rfl rfl
  have h2 : 2 ≤ x.n := by obtain ⟨_, _, _, _, h, _⟩ := hx; omega
  have hl := last_ne h2 hs
  by_cases hl' : x.f < lastOf x
  · rw [canonOf_up h2 (by omega)]
    refine DC.of Try.func184 Try.ntmps184 Try.results184 rfl (by decide +kernel) rfl ?_
    repeat (first | refine Z1 ?_ | refine Z2 ?_ | (refine Z3 ?_; (repeat (first | (apply gS; first | refine go_f ?_ | refine gm ?_ | refine gp ?_ | refine go_c rfl rfl (sLast_d x hx) ?_) | (apply gZ; first | refine go_f ?_ | refine gm ?_))); refine T_nil ?_) | (apply ZR; refine C_dr mixed ?_; (repeat (first | (apply vS; first | refine va ?_ | refine vp ?_ | refine vr ?_ | refine vt ?_ | refine vc (sLast_d x hx) ?_) | (apply vZ; first | refine vs ?_))); refine W_e ?_) | (apply ZK; first | refine Z4 ?_ | refine Z5 ?_) | refine Z6 ?_ | refine Z7 ?_ | refine Z8 ?_ | refine Z9 ?_ | refine ZA ?_ | refine ZB ?_ | refine ZC ?_ | refine ZF ?_)
    repeat (first | refine kEnd_m ?_ | refine kEnd_f ?_)
    refine kEnd_g ?_ (by first | exact .inl rfl | exact .inr rfl)
    exact Sub.eq rfl rfl
  · rw [canonOf_down h2 (by omega)]
    refine DC.of Try.func184 Try.ntmps184 Try.results184 rfl (by decide +kernel) rfl ?_
    repeat (first | refine Z1 ?_ | refine Z2 ?_ | (refine Z3 ?_; (repeat (first | (apply gS; first | refine go_f ?_ | refine gm ?_ | refine gp ?_ | refine go_c rfl rfl (sLast_d x hx) ?_) | (apply gZ; first | refine go_f ?_ | refine gm ?_))); refine T_nil ?_) | (apply ZR; refine C_dr mixed ?_; (repeat (first | (apply vS; first | refine va ?_ | refine vp ?_ | refine vr ?_ | refine vt ?_ | refine vc (sLast_d x hx) ?_) | (apply vZ; first | refine vs ?_))); refine W_e ?_) | (apply ZK; first | refine Z4 ?_ | refine Z5 ?_) | refine Z6 ?_ | refine Z7 ?_ | refine Z8 ?_ | refine Z9 ?_ | refine ZA ?_ | refine ZB ?_ | refine ZC ?_ | refine ZF ?_)
    repeat (first | refine kEnd_m ?_ | refine kEnd_f ?_)
    refine kEnd_g ?_ (by first | exact .inl rfl | exact .inr rfl)
    exact Sub.eq rfl rfl
theorem done_cases (x : Rw) : (vB (canonOf x) = true ∧ doneV x = canonOf x ∧ doneE x = 0) ∨ (vB (canonOf x) = false ∧ doneV x = ⟨0, 0, 0⟩ ∧ doneE x = 30) := by
  cases h : vB (canonOf x)
  · exact .inr ⟨rfl, done_no h⟩
  · exact .inl ⟨rfl, done_yes h⟩
theorem sDone_d (x : Rw) (hx : x.small) (hs : x.s ≠ 0) : DC Try.prog 162 [wD x] (.tup [rD (doneV x), iD (doneE x)]) := by
  rcases done_cases x with ⟨hv, d1, d2⟩ | ⟨hv, d1, d2⟩
  all_goals
    rw [d1, d2]
    refine DC.of Try.func162 Try.ntmps162 Try.results162 rfl (by decide +kernel) rfl ?_
    repeat (first | refine Z1 ?_ | refine Z2 ?_ | (refine Z3 ?_; (repeat (first | (apply gS; first | refine go_f ?_ | refine gm ?_ | refine gp ?_ | refine go_c rfl rfl (sCanon_d x hx hs) ?_ | refine go_c rfl rfl (sValid_b _ _ _ hv) ?_) | (apply gZ; first | refine go_f ?_ | refine gm ?_))); refine T_nil ?_) | (apply ZK; first | refine Z4 ?_ | refine Z5 ?_) | refine Z6 ?_ | refine Z7 ?_ | refine ZF ?_)
    repeat (first | refine kEnd_m ?_ | refine kEnd_f ?_)
    refine kEnd_g ?_ (by first | exact .inl rfl | exact .inr rfl)
    exact Sub.eq rfl rfl
theorem rMade_g (x : Rw) (hn0 : 0 ≤ x.n) (hb2 : x.n ≤ 4194304) (L : DC Try.prog 187 [wD x, iD (x.n - 1)] (iD (lastOf x))) : DC Try.prog 191 [wD x] (.tup [rD (doneV x), iD (doneE x)]) := by
  by_cases h0 : x.n = 0
  · have hc := canonOf_0 h0
    have hv : vB (canonOf x) = true := by rw [hc]; decide
    obtain ⟨d1, d2⟩ := done_yes hv
    rw [d1, d2, hc]
    refine DC.of Try.func191 Try.ntmps191 Try.results191 rfl (by decide +kernel) rfl ?_
    repeat (first | refine Z1 ?_ | refine Z2 ?_ | (refine Z3 ?_; (repeat (first | (apply gS; first | refine go_f ?_ | refine gm ?_ | refine gp ?_) | (apply gZ; first | refine go_f ?_ | refine gm ?_))); refine T_nil ?_) | (apply ZK; first | refine Z4 ?_ | refine Z5 ?_) | refine Z6 ?_ | refine Z7 ?_ | refine ZF ?_)
    repeat (first | refine kEnd_m ?_ | refine kEnd_f ?_)
    refine kEnd_g ?_ (by first | exact .inl rfl | exact .inr rfl)
    exact Sub.eq rfl rfl
  have hn : 1 ≤ x.n := by omega
  have hb : -9223372036854775000 ≤ x.n := by omega
  have key : ∀ c : Rg, canonOf x = c → (x.n = 1 → lastOf x = x.f ∧ c = ⟨x.f, x.f, 1⟩) → (x.n ≠ 1 → (x.f ≤ lastOf x → c = ⟨x.f, lastOf x, x.s⟩) ∧ (¬ x.f ≤ lastOf x → c = ⟨lastOf x, x.f, x.s⟩)) → DC Try.prog 191 [wD x] (.tup [rD (doneV x), iD (doneE x)]) := by
    intro c hc k1 k2
    have hd := done_cases x
    rw [hc] at hd
    by_cases h1 : x.n = 1
    · obtain ⟨e1, rfl⟩ := k1 h1
      rw [e1] at L
      rcases hd with ⟨hv, d1, d2⟩ | ⟨hv, d1, d2⟩
      all_goals
        rw [d1, d2]
        refine DC.of Try.func191 Try.ntmps191 Try.results191 rfl (by decide +kernel) rfl ?_
        repeat (first | refine Z1 ?_ | refine Z2 ?_ | (refine Z3 ?_; (repeat (first | (apply gS; first | refine go_f ?_ | refine gm ?_ | refine gp ?_ | refine go_c rfl rfl (L) ?_ | refine go_c rfl rfl (rValid_b _ _ _ hv) ?_) | (apply gZ; first | refine go_f ?_ | refine gm ?_))); refine T_nil ?_) | (apply ZK; first | refine Z4 ?_ | refine Z5 ?_) | refine Z6 ?_ | refine Z7 ?_ | refine ZF ?_)
        repeat (first | refine kEnd_m ?_ | refine kEnd_f ?_)
        refine kEnd_g ?_ (by first | exact .inl rfl | exact .inr rfl)
        exact Sub.eq rfl rfl
    · obtain ⟨k3, k4⟩ := k2 h1
      by_cases hl : x.f ≤ lastOf x
      · obtain rfl := k3 hl
        rcases hd with ⟨hv, d1, d2⟩ | ⟨hv, d1, d2⟩
        all_goals
          rw [d1, d2]
          refine DC.of Try.func191 Try.ntmps191 Try.results191 rfl (by decide +kernel) rfl ?_
          repeat (first | refine Z1 ?_ | refine Z2 ?_ | (refine Z3 ?_; (repeat (first | (apply gS; first | refine go_f ?_ | refine gm ?_ | refine gp ?_ | refine go_c rfl rfl (L) ?_ | refine go_c rfl rfl (rValid_b _ _ _ hv) ?_) | (apply gZ; first | refine go_f ?_ | refine gm ?_))); refine T_nil ?_) | (apply ZK; first | refine Z4 ?_ | refine Z5 ?_) | refine Z6 ?_ | refine Z7 ?_ | refine ZF ?_)
          repeat (first | refine kEnd_m ?_ | refine kEnd_f ?_)
          refine kEnd_g ?_ (by first | exact .inl rfl | exact .inr rfl)
          exact Sub.eq rfl rfl
      · obtain rfl := k4 hl
        rcases hd with ⟨hv, d1, d2⟩ | ⟨hv, d1, d2⟩
        all_goals
          rw [d1, d2]
          refine DC.of Try.func191 Try.ntmps191 Try.results191 rfl (by decide +kernel) rfl ?_
          repeat (first | refine Z1 ?_ | refine Z2 ?_ | (refine Z3 ?_; (repeat (first | (apply gS; first | refine go_f ?_ | refine gm ?_ | refine gp ?_ | refine go_c rfl rfl (L) ?_ | refine go_c rfl rfl (rValid_b _ _ _ hv) ?_) | (apply gZ; first | refine go_f ?_ | refine gm ?_))); refine T_nil ?_) | (apply ZK; first | refine Z4 ?_ | refine Z5 ?_) | refine Z6 ?_ | refine Z7 ?_ | refine ZF ?_)
          repeat (first | refine kEnd_m ?_ | refine kEnd_f ?_)
          refine kEnd_g ?_ (by first | exact .inl rfl | exact .inr rfl)
          exact Sub.eq rfl rfl
  refine key _ rfl (fun h1 => ⟨lastOf_1 h1, canonOf_1 h1⟩) (fun h1 => ⟨fun hl => canonOf_up (by omega) hl, fun hl => canonOf_down (by omega) hl⟩)
theorem rMade_d (x : Rw) (hx : x.small) (hs : x.s ≠ 0) : DC Try.prog 191 [wD x] (.tup [rD (doneV x), iD (doneE x)]) :=
  rMade_g x hx.2.2.2.2.1 hx.2.2.2.2.2 (rAtLast_d x hx)
theorem rMade_le (x : Rw) (h : x.n ≤ 0) : DC Try.prog 191 [wD x] (.tup [rD ⟨1, 0, 1⟩, iD 0]) := by
  refine DC.of Try.func191 Try.ntmps191 Try.results191 rfl (by decide +kernel) rfl ?_
  repeat (first | refine Z1 ?_ | refine Z2 ?_ | (refine Z3 ?_; (repeat (first | (apply gS; first | refine go_f ?_ | refine gm ?_ | refine gp ?_) | (apply gZ; first | refine go_f ?_ | refine gm ?_))); refine T_nil ?_) | (apply ZK; first | refine Z4 ?_ | refine Z5 ?_) | refine Z6 ?_ | refine Z7 ?_ | refine ZF ?_)
  repeat (first | refine kEnd_m ?_ | refine kEnd_f ?_)
  refine kEnd_g ?_ (by first | exact .inl rfl | exact .inr rfl)
  exact Sub.eq rfl rfl
end Go.Proofs.Ytifapodobhkdcaa
namespace Go.Proofs.Ytifapodobhkdcaa
open Go.RowKit
set_option linter.unusedVariables false
set_option maxHeartbeats 16000000
set_option linter.unusedSimpArgs false
set_option maxRecDepth 100000
theorem vB_okS {r : Rg} (h : vB r = true) : r.ok := by simpa [vB] using h
theorem sCanonP_d (r : Rg) : DC Try.prog 165 [rD r] (.tup [rD (canonRes r).1, iD (canonRes r).2]) := by
  cases hv : vB r with
  | false =>
    rw [show canonRes r = (⟨0, 0, 0⟩, 30) from if_neg (by rw [hv]; decide)]
    refine DC.of Try.func165 Try.ntmps165 Try.results165 rfl (by decide +kernel) rfl ?_
    repeat (first | refine Z1 ?_ | refine Z2 ?_ | (refine Z3 ?_; (repeat (first | (apply gS; first | refine go_f ?_ | refine gm ?_ | refine gp ?_ | refine go_c rfl rfl (sValid_b _ _ _ hv) ?_) | (apply gZ; first | refine go_f ?_ | refine gm ?_))); refine T_nil ?_) | (apply ZK; first | refine Z4 ?_ | refine Z5 ?_) | refine Z6 ?_ | refine Z7 ?_ | refine ZF ?_)
    repeat (first | refine kEnd_m ?_ | refine kEnd_f ?_)
    refine kEnd_g ?_ (by first | exact .inl rfl | exact .inr rfl)
    exact Sub.eq rfl rfl
  | true =>
    have hr := vB_okS hv
    obtain ⟨hx, hs⟩ := rowOf_small hr
    rw [show canonRes r = (canonOf (rowOf r), 0) from if_pos hv]
    refine DC.of Try.func165 Try.ntmps165 Try.results165 rfl (by decide +kernel) rfl ?_
    repeat (first | refine Z1 ?_ | refine Z2 ?_ | (refine Z3 ?_; (repeat (first | (apply gS; first | refine go_f ?_ | refine gm ?_ | refine gp ?_ | refine go_c rfl rfl (sValid_b _ _ _ hv) ?_ | refine go_c rfl rfl (rowOf_r r hr) ?_ | refine go_c rfl rfl (sCanon_d (rowOf r) hx hs) ?_) | (apply gZ; first | refine go_f ?_ | refine gm ?_))); refine T_nil ?_) | (apply ZK; first | refine Z4 ?_ | refine Z5 ?_) | refine Z6 ?_ | refine Z7 ?_ | refine ZF ?_)
    repeat (first | refine kEnd_m ?_ | refine kEnd_f ?_)
    refine kEnd_g ?_ (by first | exact .inl rfl | exact .inr rfl)
    exact Sub.eq rfl rfl
theorem rCanonP_d (r : Rg) : DC Try.prog 186 [rD r] (.tup [rD (canonRes r).1, iD (canonRes r).2]) := by
  cases hv : vB r with
  | false =>
    rw [show canonRes r = (⟨0, 0, 0⟩, 30) from if_neg (by rw [hv]; decide)]
    refine DC.of Try.func186 Try.ntmps186 Try.results186 rfl (by decide +kernel) rfl ?_
    repeat (first | refine Z1 ?_ | refine Z2 ?_ | (refine Z3 ?_; (repeat (first | (apply gS; first | refine go_f ?_ | refine gm ?_ | refine gp ?_ | refine go_c rfl rfl (rValid_b _ _ _ hv) ?_) | (apply gZ; first | refine go_f ?_ | refine gm ?_))); refine T_nil ?_) | (apply ZK; first | refine Z4 ?_ | refine Z5 ?_) | refine Z6 ?_ | refine Z7 ?_ | refine ZF ?_)
    repeat (first | refine kEnd_m ?_ | refine kEnd_f ?_)
    refine kEnd_g ?_ (by first | exact .inl rfl | exact .inr rfl)
    exact Sub.eq rfl rfl
  | true =>
    have hr := vB_okS hv
    obtain ⟨hx, hs⟩ := refOf_small hr
    have hd := done_ref hr
    have M := rMade_d (refOf r) hx hs
    rw [hd.1, hd.2] at M
    rw [show canonRes r = (canonOf (rowOf r), 0) from if_pos hv]
    refine DC.of Try.func186 Try.ntmps186 Try.results186 rfl (by decide +kernel) rfl ?_
    repeat (first | refine Z1 ?_ | refine Z2 ?_ | (refine Z3 ?_; (repeat (first | (apply gS; first | refine go_f ?_ | refine gm ?_ | refine gp ?_ | refine go_c rfl rfl (rValid_b _ _ _ hv) ?_ | refine go_c rfl rfl (rOf_r r hr) ?_ | refine go_c rfl rfl (M) ?_) | (apply gZ; first | refine go_f ?_ | refine gm ?_))); refine T_nil ?_) | (apply ZK; first | refine Z4 ?_ | refine Z5 ?_) | refine Z6 ?_ | refine Z7 ?_ | refine ZF ?_)
    repeat (first | refine kEnd_m ?_ | refine kEnd_f ?_)
    refine kEnd_g ?_ (by first | exact .inl rfl | exact .inr rfl)
    exact Sub.eq rfl rfl
theorem sCount_d (r : Rg) : DC Try.prog 108 [rD r] (.tup [iD (countRes r).1, iD (countRes r).2]) := by
  cases hv : vB r with
  | false =>
    rw [show countRes r = (0, 30) from if_neg (by rw [hv]; decide)]
    refine DC.of Try.func108 Try.ntmps108 Try.results108 rfl (by decide +kernel) rfl ?_
    repeat (first | refine Z1 ?_ | refine Z2 ?_ | (refine Z3 ?_; (repeat (first | (apply gS; first | refine go_f ?_ | refine gm ?_ | refine gp ?_ | refine go_c rfl rfl (sValid_b _ _ _ hv) ?_))); refine T_nil ?_) | (apply ZK; first | refine Z4 ?_ | refine Z5 ?_) | refine Z6 ?_ | refine Z7 ?_ | refine ZF ?_)
    repeat (first | refine kEnd_m ?_ | refine kEnd_f ?_)
    refine kEnd_g ?_ (by first | exact .inl rfl | exact .inr rfl)
    exact Sub.eq rfl rfl
  | true =>
    have hr := vB_okS hv
    rw [show countRes r = ((rowOf r).n, 0) from if_pos hv]
    refine DC.of Try.func108 Try.ntmps108 Try.results108 rfl (by decide +kernel) rfl ?_
    repeat (first | refine Z1 ?_ | refine Z2 ?_ | (refine Z3 ?_; (repeat (first | (apply gS; first | refine go_f ?_ | refine gm ?_ | refine gp ?_ | refine go_c rfl rfl (sValid_b _ _ _ hv) ?_ | refine go_c rfl rfl (rowOf_r r hr) ?_))); refine T_nil ?_) | (apply ZK; first | refine Z4 ?_ | refine Z5 ?_) | refine Z6 ?_ | refine Z7 ?_ | refine ZF ?_)
    repeat (first | refine kEnd_m ?_ | refine kEnd_f ?_)
    refine kEnd_g ?_ (by first | exact .inl rfl | exact .inr rfl)
    exact Sub.eq rfl rfl
theorem rCount_d (r : Rg) : DC Try.prog 65 [rD r] (.tup [iD (countRes r).1, iD (countRes r).2]) := by
  cases hv : vB r with
  | false =>
    rw [show countRes r = (0, 30) from if_neg (by rw [hv]; decide)]
    refine DC.of Try.func65 Try.ntmps65 Try.results65 rfl (by decide +kernel) rfl ?_
    repeat (first | refine Z1 ?_ | refine Z2 ?_ | (refine Z3 ?_; (repeat (first | (apply gS; first | refine go_f ?_ | refine gm ?_ | refine gp ?_ | refine go_c rfl rfl (rValid_b _ _ _ hv) ?_))); refine T_nil ?_) | (apply ZK; first | refine Z4 ?_ | refine Z5 ?_) | refine Z6 ?_ | refine Z7 ?_ | refine ZF ?_)
    repeat (first | refine kEnd_m ?_ | refine kEnd_f ?_)
    refine kEnd_g ?_ (by first | exact .inl rfl | exact .inr rfl)
    exact Sub.eq rfl rfl
  | true =>
    have hr := vB_okS hv
    rw [show countRes r = ((rowOf r).n, 0) from if_pos hv]
    refine DC.of Try.func65 Try.ntmps65 Try.results65 rfl (by decide +kernel) rfl ?_
    repeat (first | refine Z1 ?_ | refine Z2 ?_ | (refine Z3 ?_; (repeat (first | (apply gS; first | refine go_f ?_ | refine gm ?_ | refine gp ?_ | refine go_c rfl rfl (rValid_b _ _ _ hv) ?_ | refine go_c rfl rfl (rOf_r r hr) ?_))); refine T_nil ?_) | (apply ZK; first | refine Z4 ?_ | refine Z5 ?_) | refine Z6 ?_ | refine Z7 ?_ | refine ZF ?_)
    repeat (first | refine kEnd_m ?_ | refine kEnd_f ?_)
    refine kEnd_g ?_ (by first | exact .inl rfl | exact .inr rfl)
    exact Sub.eq rfl rfl
theorem at_bd {r : Rg} (hr : r.ok) {i : Int} (h0 : 0 ≤ i) (h1 : i ≤ 2000001) : -9000000000000 ≤ i * (rowOf r).s ∧ i * (rowOf r).s ≤ 9000000000000 := by
  obtain ⟨_, _, _, _, s1, s2, _⟩ := hr
  have := prod_row (i := i) (s := (rowOf r).s) h0 h1 s1 s2
  omega
theorem atR_bd {r : Rg} (hr : r.ok) {i : Int} (h0 : 0 ≤ i) (h1 : i ≤ 2000001) : -9000000000000 ≤ i * (refOf r).s ∧ i * (refOf r).s ≤ 9000000000000 := by
  obtain ⟨s1, s2, _⟩ := refOf_s_bd hr
  have := prod_row (i := i) (s := (refOf r).s) h0 h1 s1 s2
  omega
theorem sIth_d (r : Rg) (i : Int) : DC Try.prog 156 [rD r, iD i] (.tup [iD (ithRes r i).1, iD (ithRes r i).2]) := by
  cases hv : vB r with
  | false =>
    rw [show ithRes r i = (0, 30) from if_neg (by rw [hv]; decide)]
    refine DC.of Try.func156 Try.ntmps156 Try.results156 rfl (by decide +kernel) rfl ?_
    repeat (first | refine Z1 ?_ | refine Z2 ?_ | (refine Z3 ?_; (repeat (first | (apply gS; first | refine go_f ?_ | refine gm ?_ | refine gp ?_ | refine go_c rfl rfl (sValid_b _ _ _ hv) ?_) | (apply gZ; first | refine go_f ?_ | refine gm ?_))); refine T_nil ?_) | (apply ZK; first | refine Z4 ?_ | refine Z5 ?_) | refine Z6 ?_ | refine Z7 ?_ | refine ZF ?_)
    repeat (first | refine kEnd_m ?_ | refine kEnd_f ?_)
    refine kEnd_g ?_ (by first | exact .inl rfl | exact .inr rfl)
    exact Sub.eq rfl rfl
  | true =>
    have hr := vB_okS hv
    obtain ⟨n1, n2⟩ := rowOf_n_bd hr
    obtain ⟨f1, f2⟩ := rowOf_f_bd hr
    rw [show ithRes r i = if 0 ≤ i ∧ i ≤ (rowOf r).n - 1 then (atOf (rowOf r) i, 0) else (0, 2) from if_pos hv]
    by_cases hi : 0 ≤ i ∧ i ≤ (rowOf r).n - 1
    · rw [if_pos hi]
      obtain ⟨i1, i2⟩ := hi
      obtain ⟨p1, p2⟩ := at_bd hr i1 (by omega)
      refine DC.of Try.func156 Try.ntmps156 Try.results156 rfl (by decide +kernel) rfl ?_
      repeat (first | refine Z1 ?_ | refine Z2 ?_ | (refine Z3 ?_; (repeat (first | (apply gS; first | refine go_f ?_ | refine gm ?_ | refine gp ?_ | refine go_c rfl rfl (sValid_b _ _ _ hv) ?_ | refine go_c rfl rfl (rowOf_r r hr) ?_ | refine go_c rfl rfl (within_t _ _ _ (by omega) (by omega)) ?_ | refine go_c rfl rfl (sAt_d (rowOf r) i p1 p2 (by omega) (by omega)) ?_) | (apply gZ; first | refine go_f ?_ | refine gm ?_))); refine T_nil ?_) | (apply ZK; first | refine Z4 ?_ | refine Z5 ?_) | refine Z6 ?_ | refine Z7 ?_ | refine ZF ?_)
      repeat (first | refine kEnd_m ?_ | refine kEnd_f ?_)
      refine kEnd_g ?_ (by first | exact .inl rfl | exact .inr rfl)
      exact Sub.eq rfl rfl
    · rw [if_neg hi]
      refine DC.of Try.func156 Try.ntmps156 Try.results156 rfl (by decide +kernel) rfl ?_
      repeat (first | refine Z1 ?_ | refine Z2 ?_ | (refine Z3 ?_; (repeat (first | (apply gS; first | refine go_f ?_ | refine gm ?_ | refine gp ?_ | refine go_c rfl rfl (sValid_b _ _ _ hv) ?_ | refine go_c rfl rfl (rowOf_r r hr) ?_ | refine go_c rfl rfl (within_f _ _ _ (by omega)) ?_) | (apply gZ; first | refine go_f ?_ | refine gm ?_))); refine T_nil ?_) | (apply ZK; first | refine Z4 ?_ | refine Z5 ?_) | refine Z6 ?_ | refine Z7 ?_ | refine ZF ?_)
      repeat (first | refine kEnd_m ?_ | refine kEnd_f ?_)
      refine kEnd_g ?_ (by first | exact .inl rfl | exact .inr rfl)
      exact Sub.eq rfl rfl
theorem rIth_d (r : Rg) (i : Int) : DC Try.prog 179 [rD r, iD i] (.tup [iD (ithRes r i).1, iD (ithRes r i).2]) := by
  cases hv : vB r with
  | false =>
    rw [show ithRes r i = (0, 30) from if_neg (by rw [hv]; decide)]
    refine DC.of Try.func179 Try.ntmps179 Try.results179 rfl (by decide +kernel) rfl ?_
    repeat (first | refine Z1 ?_ | refine Z2 ?_ | (refine Z3 ?_; (repeat (first | (apply gS; first | refine go_no ?_ | refine go_f ?_ | refine gm ?_ | refine gp ?_ | refine go_c rfl rfl (rValid_b _ _ _ hv) ?_) | (apply gZ; first | refine go_f ?_ | refine gm ?_))); refine T_nil ?_) | (apply ZK; first | refine Z4 ?_ | refine Z5 ?_) | refine Z6 ?_ | refine Z7 ?_ | refine ZF ?_)
    repeat (first | refine kEnd_m ?_ | refine kEnd_f ?_)
    refine kEnd_g ?_ (by first | exact .inl rfl | exact .inr rfl)
    exact Sub.eq rfl rfl
  | true =>
    have hr := vB_okS hv
    obtain ⟨n1, n2⟩ := rowOf_n_bd hr
    obtain ⟨f1, f2⟩ := rowOf_f_bd hr
    have en : (refOf r).n = (rowOf r).n := rfl
    have ef : (refOf r).f = (rowOf r).f := rfl
    rw [show ithRes r i = if 0 ≤ i ∧ i ≤ (rowOf r).n - 1 then (atOf (rowOf r) i, 0) else (0, 2) from if_pos hv]
    by_cases hi : 0 ≤ i ∧ i ≤ (rowOf r).n - 1
    · rw [if_pos hi]
      obtain ⟨i1, i2⟩ := hi
      obtain ⟨p1, p2⟩ := atR_bd hr i1 (by omega)
      have A := rAt_d (refOf r) i p1 p2 (by omega) (by omega)
      rw [at_ref hr i1 i2] at A
      refine DC.of Try.func179 Try.ntmps179 Try.results179 rfl (by decide +kernel) rfl ?_
      repeat (first | refine Z1 ?_ | refine Z2 ?_ | (refine Z3 ?_; (repeat (first | (apply gS; first | refine go_no ?_ | refine go_f ?_ | refine gm ?_ | refine gp ?_ | refine go_c rfl rfl (rValid_b _ _ _ hv) ?_ | refine go_c rfl rfl (rOf_r r hr) ?_ | refine go_c rfl rfl (A) ?_) | (apply gZ; first | refine go_f ?_ | refine gm ?_))); refine T_nil ?_) | (apply ZK; first | refine Z4 ?_ | refine Z5 ?_) | refine Z6 ?_ | refine Z7 ?_ | refine ZF ?_)
      repeat (first | refine kEnd_m ?_ | refine kEnd_f ?_)
      refine kEnd_g ?_ (by first | exact .inl rfl | exact .inr rfl)
      exact Sub.eq rfl rfl
    · rw [if_neg hi]
      by_cases hi0 : i < 0
      · refine DC.of Try.func179 Try.ntmps179 Try.results179 rfl (by decide +kernel) rfl ?_
        repeat (first | refine Z1 ?_ | refine Z2 ?_ | (refine Z3 ?_; (repeat (first | (apply gS; first | refine go_no ?_ | refine go_f ?_ | refine gm ?_ | refine gp ?_ | refine go_c rfl rfl (rValid_b _ _ _ hv) ?_ | refine go_c rfl rfl (rOf_r r hr) ?_) | (apply gZ; first | refine go_f ?_ | refine gm ?_))); refine T_nil ?_) | (apply ZK; first | refine Z4 ?_ | refine Z5 ?_) | refine Z6 ?_ | refine Z7 ?_ | refine ZF ?_)
        repeat (first | refine kEnd_m ?_ | refine kEnd_f ?_)
        refine kEnd_g ?_ (by first | exact .inl rfl | exact .inr rfl)
        exact Sub.eq rfl rfl
      · have hi1 : (rowOf r).n ≤ i := by omega
        refine DC.of Try.func179 Try.ntmps179 Try.results179 rfl (by decide +kernel) rfl ?_
        repeat (first | refine Z1 ?_ | refine Z2 ?_ | (refine Z3 ?_; (repeat (first | (apply gS; first | refine go_no ?_ | refine go_f ?_ | refine gm ?_ | refine gp ?_ | refine go_c rfl rfl (rValid_b _ _ _ hv) ?_ | refine go_c rfl rfl (rOf_r r hr) ?_) | (apply gZ; first | refine go_f ?_ | refine gm ?_))); refine T_nil ?_) | (apply ZK; first | refine Z4 ?_ | refine Z5 ?_) | refine Z6 ?_ | refine Z7 ?_ | refine ZF ?_)
        repeat (first | refine kEnd_m ?_ | refine kEnd_f ?_)
        refine kEnd_g ?_ (by first | exact .inl rfl | exact .inr rfl)
        exact Sub.eq rfl rfl
theorem placeRow_d (x : Rw) (m : Int) (hx : x.small) (hs : x.s ≠ 0) (m1 : -1099511627776 ≤ m) (m2 : m ≤ 1099511627776) : DC Try.prog 158 [wD x, iD m] (.tup [iD (placeI x m), bD (placeB x m)]) := by
  obtain ⟨h1, h2, h3, h4, h5, h6⟩ := hx
  by_cases h0 : x.n = 0
  · have hn : ¬ isAt x m := fun h => h.1 h0
    rw [show placeI x m = 0 from if_neg hn, show placeB x m = false by simp [placeB, hn]]
    refine DC.of Try.func158 Try.ntmps158 Try.results158 rfl (by decide +kernel) rfl ?_
    repeat (first | refine Z1 ?_ | refine Z2 ?_ | (refine Z3 ?_; (repeat (first | (apply gS; first | refine go_no ?_ | refine go_f ?_ | refine gm ?_ | refine gp ?_))); refine T_nil ?_) | (apply ZK; first | refine Z4 ?_ | refine Z5 ?_) | refine Z6 ?_ | refine Z7 ?_ | refine ZF ?_)
    repeat (first | refine kEnd_m ?_ | refine kEnd_f ?_)
    refine kEnd_g ?_ (by first | exact .inl rfl | exact .inr rfl)
    exact Sub.eq rfl rfl
  · by_cases hm : (m - x.f).tmod x.s = 0
    · have hn : isAt x m := ⟨h0, hm⟩
      rw [show placeI x m = (m - x.f).tdiv x.s from if_pos hn]
      by_cases hw : 0 ≤ (m - x.f).tdiv x.s ∧ (m - x.f).tdiv x.s ≤ x.n - 1
      · rw [show placeB x m = true by simp only [placeB, decide_eq_true_eq]; exact ⟨hn, hw⟩]
        refine DC.of Try.func158 Try.ntmps158 Try.results158 rfl (by decide +kernel) rfl ?_
        repeat (first | refine Z1 ?_ | refine Z2 ?_ | (refine Z3 ?_; (repeat (first | (apply gS; first | refine go_no ?_ | refine go_f ?_ | refine gm ?_ | refine gp ?_ | refine go_c rfl rfl (within_t _ _ _ (by omega) (by omega)) ?_))); refine T_nil ?_) | (apply ZK; first | refine Z4 ?_ | refine Z5 ?_) | refine Z6 ?_ | refine Z7 ?_ | refine ZF ?_)
        repeat (first | refine kEnd_m ?_ | refine kEnd_f ?_)
        refine kEnd_g ?_ (by first | exact .inl rfl | exact .inr rfl)
        exact Sub.eq rfl rfl
      · rw [show placeB x m = false by simp only [placeB, decide_eq_false_iff_not]; exact fun h => hw h.2]
        refine DC.of Try.func158 Try.ntmps158 Try.results158 rfl (by decide +kernel) rfl ?_
        repeat (first | refine Z1 ?_ | refine Z2 ?_ | (refine Z3 ?_; (repeat (first | (apply gS; first | refine go_no ?_ | refine go_f ?_ | refine gm ?_ | refine gp ?_ | refine go_c rfl rfl (within_f _ _ _ (by omega)) ?_))); refine T_nil ?_) | (apply ZK; first | refine Z4 ?_ | refine Z5 ?_) | refine Z6 ?_ | refine Z7 ?_ | refine ZF ?_)
        repeat (first | refine kEnd_m ?_ | refine kEnd_f ?_)
        refine kEnd_g ?_ (by first | exact .inl rfl | exact .inr rfl)
        exact Sub.eq rfl rfl
    · have hn : ¬ isAt x m := fun h => hm h.2
      rw [show placeI x m = 0 from if_neg hn, show placeB x m = false by simp [placeB, hn]]
      refine DC.of Try.func158 Try.ntmps158 Try.results158 rfl (by decide +kernel) rfl ?_
      repeat (first | refine Z1 ?_ | refine Z2 ?_ | (refine Z3 ?_; (repeat (first | (apply gS; first | refine go_no ?_ | refine go_f ?_ | refine gm ?_ | refine gp ?_))); refine T_nil ?_) | (apply ZK; first | refine Z4 ?_ | refine Z5 ?_) | refine Z6 ?_ | refine Z7 ?_ | refine ZF ?_)
      repeat (first | refine kEnd_m ?_ | refine kEnd_f ?_)
      refine kEnd_g ?_ (by first | exact .inl rfl | exact .inr rfl)
      exact Sub.eq rfl rfl
theorem sPlaceP_d (r : Rg) (m : Int) : DC Try.prog 100 [rD r, iD m] (.tup [iD (placeRes r m).1, iD (placeRes r m).2]) := by
  cases hv : vB r with
  | false =>
    rw [show placeRes r m = (0, 30) from if_neg (by rw [hv]; decide)]
    refine DC.of Try.func100 Try.ntmps100 Try.results100 rfl (by decide +kernel) rfl ?_
    repeat (first | refine Z1 ?_ | refine Z2 ?_ | (refine Z3 ?_; (repeat (first | (apply gS; first | refine go_f ?_ | refine gm ?_ | refine gp ?_ | refine go_c rfl rfl (sValid_b _ _ _ hv) ?_))); refine T_nil ?_) | (apply ZK; first | refine Z4 ?_ | refine Z5 ?_) | refine Z6 ?_ | refine Z7 ?_ | refine ZF ?_)
    repeat (first | refine kEnd_m ?_ | refine kEnd_f ?_)
    refine kEnd_g ?_ (by first | exact .inl rfl | exact .inr rfl)
    exact Sub.eq rfl rfl
  | true =>
    have hr := vB_okS hv
    obtain ⟨hx, hs⟩ := rowOf_small hr
    rw [show placeRes r m = if -1000000 ≤ m ∧ m ≤ 1000000 then (if placeB (rowOf r) m = true then (placeI (rowOf r) m, 0) else (0, 5)) else (0, 5) from if_pos hv]
    by_cases hm : -1000000 ≤ m ∧ m ≤ 1000000
    · rw [if_pos hm]
      obtain ⟨m1, m2⟩ := hm
      have R := placeRow_d (rowOf r) m hx hs (by omega) (by omega)
      cases hB : placeB (rowOf r) m with
      | true =>
        rw [if_pos rfl]
        rw [hB] at R
        refine DC.of Try.func100 Try.ntmps100 Try.results100 rfl (by decide +kernel) rfl ?_
        repeat (first | refine Z1 ?_ | refine Z2 ?_ | (refine Z3 ?_; (repeat (first | (apply gS; first | refine go_f ?_ | refine gm ?_ | refine gp ?_ | refine go_c rfl rfl (sValid_b _ _ _ hv) ?_ | refine go_c rfl rfl (rowOf_r r hr) ?_ | refine go_c rfl rfl (near_t _ (by omega) (by omega)) ?_ | refine go_c rfl rfl (R) ?_))); refine T_nil ?_) | (apply ZK; first | refine Z4 ?_ | refine Z5 ?_) | refine Z6 ?_ | refine Z7 ?_ | refine ZF ?_)
        repeat (first | refine kEnd_m ?_ | refine kEnd_f ?_)
        refine kEnd_g ?_ (by first | exact .inl rfl | exact .inr rfl)
        exact Sub.eq rfl rfl
      | false =>
        rw [if_neg (by decide)]
        rw [hB] at R
        refine DC.of Try.func100 Try.ntmps100 Try.results100 rfl (by decide +kernel) rfl ?_
        repeat (first | refine Z1 ?_ | refine Z2 ?_ | (refine Z3 ?_; (repeat (first | (apply gS; first | refine go_f ?_ | refine gm ?_ | refine gp ?_ | refine go_c rfl rfl (sValid_b _ _ _ hv) ?_ | refine go_c rfl rfl (rowOf_r r hr) ?_ | refine go_c rfl rfl (near_t _ (by omega) (by omega)) ?_ | refine go_c rfl rfl (R) ?_))); refine T_nil ?_) | (apply ZK; first | refine Z4 ?_ | refine Z5 ?_) | refine Z6 ?_ | refine Z7 ?_ | refine ZF ?_)
        repeat (first | refine kEnd_m ?_ | refine kEnd_f ?_)
        refine kEnd_g ?_ (by first | exact .inl rfl | exact .inr rfl)
        exact Sub.eq rfl rfl
    · rw [if_neg hm]
      refine DC.of Try.func100 Try.ntmps100 Try.results100 rfl (by decide +kernel) rfl ?_
      repeat (first | refine Z1 ?_ | refine Z2 ?_ | (refine Z3 ?_; (repeat (first | (apply gS; first | refine go_f ?_ | refine gm ?_ | refine gp ?_ | refine go_c rfl rfl (sValid_b _ _ _ hv) ?_ | refine go_c rfl rfl (near_f _ (by omega)) ?_))); refine T_nil ?_) | (apply ZK; first | refine Z4 ?_ | refine Z5 ?_) | refine Z6 ?_ | refine Z7 ?_ | refine ZF ?_)
      repeat (first | refine kEnd_m ?_ | refine kEnd_f ?_)
      refine kEnd_g ?_ (by first | exact .inl rfl | exact .inr rfl)
      exact Sub.eq rfl rfl
theorem rPlaceP_d (r : Rg) (m : Int) : DC Try.prog 133 [rD r, iD m] (.tup [iD (placeRes r m).1, iD (placeRes r m).2]) := by
  cases hv : vB r with
  | false =>
    rw [show placeRes r m = (0, 30) from if_neg (by rw [hv]; decide)]
    refine DC.of Try.func133 Try.ntmps133 Try.results133 rfl (by decide +kernel) rfl ?_
    repeat (first | refine Z1 ?_ | refine Z2 ?_ | (refine Z3 ?_; (repeat (first | (apply gS; first | refine go_no ?_ | refine go_f ?_ | refine gm ?_ | refine gp ?_ | refine go_c rfl rfl (rValid_b _ _ _ hv) ?_) | (apply gZ; first | refine go_f ?_ | refine gm ?_))); refine T_nil ?_) | (apply ZK; first | refine Z4 ?_ | refine Z5 ?_) | refine Z6 ?_ | refine Z7 ?_ | refine ZF ?_)
    repeat (first | refine kEnd_m ?_ | refine kEnd_f ?_)
    refine kEnd_g ?_ (by first | exact .inl rfl | exact .inr rfl)
    exact Sub.eq rfl rfl
  | true =>
    have hr := vB_okS hv
    obtain ⟨⟨x1, x2, x3, x4, x5, x6⟩, hs⟩ := refOf_small hr
    rw [show placeRes r m = if -1000000 ≤ m ∧ m ≤ 1000000 then (if placeB (rowOf r) m = true then (placeI (rowOf r) m, 0) else (0, 5)) else (0, 5) from if_pos hv]
    by_cases hm : -1000000 ≤ m ∧ m ≤ 1000000
    · rw [if_pos hm]
      obtain ⟨m1, m2⟩ := hm
      have hp := place_ref hr m
      by_cases ht : (m - (refOf r).f).tmod (refOf r).s = 0
      · by_cases hd : 0 ≤ (m - (refOf r).f).tdiv (refOf r).s ∧ (m - (refOf r).f).tdiv (refOf r).s < (refOf r).n
        · have hB := hp.1.1 ⟨ht, hd⟩
          rw [if_pos hB, ← hp.2 hB]
          obtain ⟨d1, d2⟩ := hd
          refine DC.of Try.func133 Try.ntmps133 Try.results133 rfl (by decide +kernel) rfl ?_
          repeat (first | refine Z1 ?_ | refine Z2 ?_ | (refine Z3 ?_; (repeat (first | (apply gS; first | refine go_no ?_ | refine go_f ?_ | refine gm ?_ | refine gp ?_ | refine go_c rfl rfl (rValid_b _ _ _ hv) ?_ | refine go_c rfl rfl (rOf_r r hr) ?_ | refine go_c rfl rfl (rWithin_t _ (by omega) (by omega)) ?_) | (apply gZ; first | refine go_f ?_ | refine gm ?_))); refine T_nil ?_) | (apply ZK; first | refine Z4 ?_ | refine Z5 ?_) | refine Z6 ?_ | refine Z7 ?_ | refine ZF ?_)
          repeat (first | refine kEnd_m ?_ | refine kEnd_f ?_)
          refine kEnd_g ?_ (by first | exact .inl rfl | exact .inr rfl)
          exact Sub.eq rfl rfl
        · rw [if_neg fun h => hd (hp.1.2 h).2]
          by_cases hd0 : (m - (refOf r).f).tdiv (refOf r).s < 0
          · refine DC.of Try.func133 Try.ntmps133 Try.results133 rfl (by decide +kernel) rfl ?_
            repeat (first | refine Z1 ?_ | refine Z2 ?_ | (refine Z3 ?_; (repeat (first | (apply gS; first | refine go_no ?_ | refine go_f ?_ | refine gm ?_ | refine gp ?_ | refine go_c rfl rfl (rValid_b _ _ _ hv) ?_ | refine go_c rfl rfl (rOf_r r hr) ?_ | refine go_c rfl rfl (rWithin_t _ (by omega) (by omega)) ?_) | (apply gZ; first | refine go_f ?_ | refine gm ?_))); refine T_nil ?_) | (apply ZK; first | refine Z4 ?_ | refine Z5 ?_) | refine Z6 ?_ | refine Z7 ?_ | refine ZF ?_)
            repeat (first | refine kEnd_m ?_ | refine kEnd_f ?_)
            refine kEnd_g ?_ (by first | exact .inl rfl | exact .inr rfl)
            exact Sub.eq rfl rfl
          · have hd1 : (refOf r).n ≤ (m - (refOf r).f).tdiv (refOf r).s := by omega
            refine DC.of Try.func133 Try.ntmps133 Try.results133 rfl (by decide +kernel) rfl ?_
            repeat (first | refine Z1 ?_ | refine Z2 ?_ | (refine Z3 ?_; (repeat (first | (apply gS; first | refine go_no ?_ | refine go_f ?_ | refine gm ?_ | refine gp ?_ | refine go_c rfl rfl (rValid_b _ _ _ hv) ?_ | refine go_c rfl rfl (rOf_r r hr) ?_ | refine go_c rfl rfl (rWithin_t _ (by omega) (by omega)) ?_) | (apply gZ; first | refine go_f ?_ | refine gm ?_))); refine T_nil ?_) | (apply ZK; first | refine Z4 ?_ | refine Z5 ?_) | refine Z6 ?_ | refine Z7 ?_ | refine ZF ?_)
            repeat (first | refine kEnd_m ?_ | refine kEnd_f ?_)
            refine kEnd_g ?_ (by first | exact .inl rfl | exact .inr rfl)
            exact Sub.eq rfl rfl
      · rw [if_neg fun h => ht (hp.1.2 h).1]
        refine DC.of Try.func133 Try.ntmps133 Try.results133 rfl (by decide +kernel) rfl ?_
        repeat (first | refine Z1 ?_ | refine Z2 ?_ | (refine Z3 ?_; (repeat (first | (apply gS; first | refine go_no ?_ | refine go_f ?_ | refine gm ?_ | refine gp ?_ | refine go_c rfl rfl (rValid_b _ _ _ hv) ?_ | refine go_c rfl rfl (rOf_r r hr) ?_ | refine go_c rfl rfl (rWithin_t _ (by omega) (by omega)) ?_) | (apply gZ; first | refine go_f ?_ | refine gm ?_))); refine T_nil ?_) | (apply ZK; first | refine Z4 ?_ | refine Z5 ?_) | refine Z6 ?_ | refine Z7 ?_ | refine ZF ?_)
        repeat (first | refine kEnd_m ?_ | refine kEnd_f ?_)
        refine kEnd_g ?_ (by first | exact .inl rfl | exact .inr rfl)
        exact Sub.eq rfl rfl
    · rw [if_neg hm]
      refine DC.of Try.func133 Try.ntmps133 Try.results133 rfl (by decide +kernel) rfl ?_
      repeat (first | refine Z1 ?_ | refine Z2 ?_ | (refine Z3 ?_; (repeat (first | (apply gS; first | refine go_no ?_ | refine go_f ?_ | refine gm ?_ | refine gp ?_ | refine go_c rfl rfl (rValid_b _ _ _ hv) ?_ | refine go_c rfl rfl (rOf_r r hr) ?_ | refine go_c rfl rfl (rWithin_f _ (by omega)) ?_) | (apply gZ; first | refine go_f ?_ | refine gm ?_))); refine T_nil ?_) | (apply ZK; first | refine Z4 ?_ | refine Z5 ?_) | refine Z6 ?_ | refine Z7 ?_ | refine ZF ?_)
      repeat (first | refine kEnd_m ?_ | refine kEnd_f ?_)
      refine kEnd_g ?_ (by first | exact .inl rfl | exact .inr rfl)
      exact Sub.eq rfl rfl
theorem sHas_d (r : Rg) (m : Int) : DC Try.prog 30 [rD r, iD m] (.tup [bD (hasRes r m).1, iD (hasRes r m).2]) := by
  have A := sPlaceP_d r m
  rcases placeRes_cases r m with ⟨h1, h2⟩ | ⟨h1, h2⟩ | ⟨h1, h2⟩
  all_goals
    rw [h1] at A
    rw [h2]
    refine DC.of Try.func30 Try.ntmps30 Try.results30 rfl (by decide +kernel) rfl ?_
    repeat (first | refine Z1 ?_ | refine Z2 ?_ | (refine Z3 ?_; (repeat (first | (apply gS; first | refine go_f ?_ | refine gm ?_ | refine gp ?_ | refine go_c rfl rfl (A) ?_))); refine T_nil ?_) | (apply ZK; first | refine Z4 ?_ | refine Z5 ?_) | refine Z6 ?_ | refine Z7 ?_ | refine ZF ?_)
    repeat (first | refine kEnd_m ?_ | refine kEnd_f ?_)
    refine kEnd_g ?_ (by first | exact .inl rfl | exact .inr rfl)
    exact Sub.eq rfl rfl
theorem rHas_d (r : Rg) (m : Int) : DC Try.prog 117 [rD r, iD m] (.tup [bD (hasRes r m).1, iD (hasRes r m).2]) := by
  have A := rPlaceP_d r m
  cases hv : vB r with
  | false =>
    rw [show hasRes r m = (false, 30) from if_neg (by rw [hv]; decide)]
    refine DC.of Try.func117 Try.ntmps117 Try.results117 rfl (by decide +kernel) rfl ?_
    repeat (first | refine Z1 ?_ | refine Z2 ?_ | (refine Z3 ?_; (repeat (first | (apply gS; first | refine go_f ?_ | refine gm ?_ | refine gp ?_ | refine go_c rfl rfl (rValid_b _ _ _ hv) ?_))); refine T_nil ?_) | (apply ZK; first | refine Z4 ?_ | refine Z5 ?_) | refine Z6 ?_ | refine Z7 ?_ | refine ZF ?_)
    repeat (first | refine kEnd_m ?_ | refine kEnd_f ?_)
    refine kEnd_g ?_ (by first | exact .inl rfl | exact .inr rfl)
    exact Sub.eq rfl rfl
  | true =>
    rcases placeRes_cases r m with ⟨h1, h2⟩ | ⟨h1, h2⟩ | ⟨h1, h2⟩
    · rw [h1] at A
      rw [h2]
      refine DC.of Try.func117 Try.ntmps117 Try.results117 rfl (by decide +kernel) rfl ?_
      repeat (first | refine Z1 ?_ | refine Z2 ?_ | (refine Z3 ?_; (repeat (first | (apply gS; first | refine go_f ?_ | refine gm ?_ | refine gp ?_ | refine go_c rfl rfl (rValid_b _ _ _ hv) ?_ | refine go_c rfl rfl (A) ?_))); refine T_nil ?_) | (apply ZK; first | refine Z4 ?_ | refine Z5 ?_) | refine Z6 ?_ | refine Z7 ?_ | refine ZF ?_)
      repeat (first | refine kEnd_m ?_ | refine kEnd_f ?_)
      refine kEnd_g ?_ (by first | exact .inl rfl | exact .inr rfl)
      exact Sub.eq rfl rfl
    · rw [h1] at A
      rw [h2]
      refine DC.of Try.func117 Try.ntmps117 Try.results117 rfl (by decide +kernel) rfl ?_
      repeat (first | refine Z1 ?_ | refine Z2 ?_ | (refine Z3 ?_; (repeat (first | (apply gS; first | refine go_f ?_ | refine gm ?_ | refine gp ?_ | refine go_c rfl rfl (rValid_b _ _ _ hv) ?_ | refine go_c rfl rfl (A) ?_))); refine T_nil ?_) | (apply ZK; first | refine Z4 ?_ | refine Z5 ?_) | refine Z6 ?_ | refine Z7 ?_ | refine ZF ?_)
      repeat (first | refine kEnd_m ?_ | refine kEnd_f ?_)
      refine kEnd_g ?_ (by first | exact .inl rfl | exact .inr rfl)
      exact Sub.eq rfl rfl
    · exfalso
      have : hasRes r m = (decide ((placeRes r m).2 = 0), 0) := if_pos hv
      rw [h2] at this
      exact absurd (congrArg Prod.snd this) (by simp)
/-- the first k members of a range -/
def memL (r : Rg) (k : Nat) : List Int := (List.range k).map fun j : Nat => atOf (rowOf r) (j : Int)
theorem memL_len (r : Rg) (k : Nat) : (memL r k).length = k := by simp [memL]
theorem memL_succ (r : Rg) (k : Nat) : memL r (k + 1) = memL r k ++ [atOf (rowOf r) (k : Int)] := by simp [memL, List.range_succ]
def membersRes (r : Rg) : List Int × Int := if vB r = true then (if (rowOf r).n ≤ 4096 then (memL r (rowOf r).n.toNat, 0) else ([], 2)) else ([], 30)
theorem sMembers_d (r : Rg) : DC Try.prog 29 [rD r] (.tup [rowI (membersRes r).1, iD (membersRes r).2]) := by
  cases hv : vB r with
  | false =>
    rw [show membersRes r = ([], 30) from if_neg (by rw [hv]; decide)]
    refine DC.of Try.func29 Try.ntmps29 Try.results29 rfl (by decide +kernel) rfl ?_
    repeat (first | refine Z1 ?_ | refine Z2 ?_ | (refine Z3 ?_; (repeat (first | (apply gS; first | refine go_f ?_ | refine gm ?_ | refine gp ?_ | refine go_c rfl rfl (sValid_b _ _ _ hv) ?_) | (apply gZ; first | refine go_f ?_ | refine gm ?_))); refine T_nil ?_) | (apply ZK; first | refine Z4 ?_ | refine Z5 ?_) | refine Z6 ?_ | refine Z7 ?_ | refine Z8 ?_ | refine Z9 ?_ | refine ZA ?_ | refine ZB ?_ | refine ZC ?_ | refine ZD ?_ | refine ZE ?_ | refine ZF ?_ | refine ZG ?_ | refine ZH ?_)
    repeat (first | refine kEnd_m ?_ | refine kEnd_f ?_)
    refine kEnd_g ?_ (by first | exact .inl rfl | exact .inr rfl)
    exact Sub.tup (.cons Sub.nil (.cons (Sub.eq rfl rfl) .nil))
  | true =>
    have hr := vB_okS hv
    obtain ⟨n1, n2⟩ := rowOf_n_bd hr
    obtain ⟨f1, f2⟩ := rowOf_f_bd hr
    obtain ⟨n, hn⟩ := Int.eq_ofNat_of_zero_le n1
    have hrow := rowOf_r r hr
    rw [show membersRes r = if (rowOf r).n ≤ 4096 then (memL r (rowOf r).n.toNat, 0) else ([], 2) from if_pos hv]
    by_cases h4 : (rowOf r).n ≤ 4096
    · rw [if_pos h4, hn]
      have h4' : n ≤ 4096 := by omega
      refine DC.of Try.func29 Try.ntmps29 Try.results29 rfl (by decide +kernel) rfl ?_
      repeat (first | refine Z1 ?_ | refine Z2 ?_ | (refine Z3 ?_; (repeat (first | (apply gS; first | refine go_f ?_ | refine gm ?_ | refine gp ?_ | refine go_c rfl rfl (sValid_b _ _ _ hv) ?_ | refine go_c rfl rfl (hrow) ?_) | (apply gZ; first | refine go_f ?_ | refine gm ?_))); refine T_nil ?_) | (apply ZK; first | refine Z4 ?_ | refine Z5 ?_) | refine Z6 ?_ | refine Z7 ?_ | refine Z8 ?_ | refine Z9 ?_ | refine ZA ?_ | refine ZB ?_ | refine ZC ?_ | refine ZD ?_ | refine ZE ?_ | refine ZF ?_ | refine ZG ?_ | refine ZH ?_)
      refine C_count n (fun _ => True) (fun k => ⟨3, 28, [(17, iD k), (16, iD (rowOf r).n), (5, .own 2 k), (4, .ptr 1 0)], [(1, some ⟨121, 3, 1, [iD (rowOf r).f, iD (rowOf r).s, iD (rowOf r).n]⟩), (2, some ⟨3, 1, k, intsD (memL r k)⟩)]⟩) ?_ trivial ?_
      · refine Wk.trans (Wk.adoptT 5 3 1 rfl) ?_
        exact Wk.go (fun b => b)
      · intro k hk _
        obtain ⟨p1, p2⟩ := at_bd (r := r) hr (i := (k : Int)) (by omega) (by omega)
        by_cases hlt : k < n
        · have em : intsD (memL r (k + 1)) = intsD (memL r k) ++ [iD (atOf (rowOf r) k)] := by rw [memL_succ]; simp
          repeat (first | refine Z1 ?_ | refine Z2 ?_ | (refine Z3 ?_; (repeat (first | (apply gS; first | refine go_f ?_ | refine gm ?_ | refine gp ?_ | refine go_c rfl rfl (sAt_d (rowOf r) k p1 p2 (by omega) (by omega)) ?_) | (apply gZ; first | refine go_f ?_ | refine gm ?_))); refine T_nil ?_) | (apply ZK; first | refine Z4 ?_ | refine Z5 ?_) | refine Z6 ?_ | refine Z7 ?_ | refine Z8 ?_ | refine Z9 ?_ | refine ZA ?_ | refine ZB ?_ | refine ZC ?_ | refine ZD ?_ | refine ZE ?_ | refine ZF ?_ | refine ZG ?_ | refine ZH ?_)
          refine kLoop_n ⟨hlt, trivial, ?_⟩
          exact Wk.go (fun b => cond (Nat.beq b 2) 3 (b))
        · obtain rfl : k = n := by omega
          repeat (first | refine Z1 ?_ | refine Z2 ?_ | (refine Z3 ?_; (repeat (first | (apply gS; first | refine go_f ?_ | refine gm ?_ | refine gp ?_) | (apply gZ; first | refine go_f ?_ | refine gm ?_))); refine T_nil ?_) | (apply ZK; first | refine Z4 ?_ | refine Z5 ?_) | refine Z6 ?_ | refine Z7 ?_ | refine Z8 ?_ | refine Z9 ?_ | refine ZA ?_ | refine ZB ?_ | refine ZC ?_ | refine ZD ?_ | refine ZE ?_ | refine ZF ?_ | refine ZG ?_ | refine ZH ?_)
          apply kEnd_r (Wk.freeze 2 rfl (by repeat (first | rfl | exact idsL_map (fun _ => rfl) _ | exact idsL_flat (fun _ => rfl) _ | refine idsL_append ?_ ?_)))
          repeat (first | exact ResV.nil | (apply ResV.tmp; rfl) | (apply ResV.agg3; rfl; rfl) | (apply ResV.agg1; rfl; rfl) | (apply ResV.agg2; rfl; rfl) | (apply ResV.agg4; rfl; rfl) | (apply ResV.cell; rfl; rfl))
          exact Sub.tup (.cons (Sub.eq (by simp [frz, memL_len]) rfl) (.cons (Sub.eq rfl rfl) .nil))
    · rw [if_neg h4]
      refine DC.of Try.func29 Try.ntmps29 Try.results29 rfl (by decide +kernel) rfl ?_
      repeat (first | refine Z1 ?_ | refine Z2 ?_ | (refine Z3 ?_; (repeat (first | (apply gS; first | refine go_f ?_ | refine gm ?_ | refine gp ?_ | refine go_c rfl rfl (sValid_b _ _ _ hv) ?_ | refine go_c rfl rfl (hrow) ?_) | (apply gZ; first | refine go_f ?_ | refine gm ?_))); refine T_nil ?_) | (apply ZK; first | refine Z4 ?_ | refine Z5 ?_) | refine Z6 ?_ | refine Z7 ?_ | refine Z8 ?_ | refine Z9 ?_ | refine ZA ?_ | refine ZB ?_ | refine ZC ?_ | refine ZD ?_ | refine ZE ?_ | refine ZF ?_ | refine ZG ?_ | refine ZH ?_)
      repeat (first | refine kEnd_m ?_ | refine kEnd_f ?_)
      refine kEnd_g ?_ (by first | exact .inl rfl | exact .inr rfl)
      exact Sub.tup (.cons Sub.nil (.cons (Sub.eq rfl rfl) .nil))
theorem memR_succ {r : Rg} (hr : r.ok) {k n : Nat} (hn : (rowOf r).n = n) (h : k < n) : memL r (k + 1) = memL r k ++ [atOf (refOf r) (k : Int)] := by
  rw [memL_succ, at_ref hr (by omega) (by omega)]
theorem rMembers_d (r : Rg) : DC Try.prog 167 [rD r] (.tup [rowI (membersRes r).1, iD (membersRes r).2]) := by
  cases hv : vB r with
  | false =>
    rw [show membersRes r = ([], 30) from if_neg (by rw [hv]; decide)]
    refine DC.of Try.func167 Try.ntmps167 Try.results167 rfl (by decide +kernel) rfl ?_
    repeat (first | refine Z1 ?_ | refine Z2 ?_ | (refine Z3 ?_; (repeat (first | (apply gS; first | refine go_f ?_ | refine gm ?_ | refine gp ?_ | refine go_c rfl rfl (rValid_b _ _ _ hv) ?_) | (apply gZ; first | refine go_f ?_ | refine gm ?_))); refine T_nil ?_) | (apply ZK; first | refine Z4 ?_ | refine Z5 ?_) | refine Z6 ?_ | refine Z7 ?_ | refine Z8 ?_ | refine Z9 ?_ | refine ZA ?_ | refine ZB ?_ | refine ZC ?_ | refine ZD ?_ | refine ZE ?_ | refine ZF ?_ | refine ZG ?_ | refine ZH ?_)
    repeat (first | refine kEnd_m ?_ | refine kEnd_f ?_)
    refine kEnd_g ?_ (by first | exact .inl rfl | exact .inr rfl)
    exact Sub.tup (.cons Sub.nil (.cons (Sub.eq rfl rfl) .nil))
  | true =>
    have hr := vB_okS hv
    obtain ⟨n1, n2⟩ := rowOf_n_bd hr
    obtain ⟨f1, f2⟩ := rowOf_f_bd hr
    have en : (refOf r).n = (rowOf r).n := rfl
    have ef : (refOf r).f = (rowOf r).f := rfl
    obtain ⟨n, hn⟩ := Int.eq_ofNat_of_zero_le n1
    rw [show membersRes r = if (rowOf r).n ≤ 4096 then (memL r (rowOf r).n.toNat, 0) else ([], 2) from if_pos hv]
    by_cases h4 : (rowOf r).n ≤ 4096
    · rw [if_pos h4, hn]
      have h4' : n ≤ 4096 := by omega
      refine DC.of Try.func167 Try.ntmps167 Try.results167 rfl (by decide +kernel) rfl ?_
      repeat (first | refine Z1 ?_ | refine Z2 ?_ | (refine Z3 ?_; (repeat (first | (apply gS; first | refine go_f ?_ | refine gm ?_ | refine gp ?_ | refine go_c rfl rfl (rValid_b _ _ _ hv) ?_ | refine go_c rfl rfl (rOf_r r hr) ?_) | (apply gZ; first | refine go_f ?_ | refine gm ?_))); refine T_nil ?_) | (apply ZK; first | refine Z4 ?_ | refine Z5 ?_) | refine Z6 ?_ | refine Z7 ?_ | refine Z8 ?_ | refine Z9 ?_ | refine ZA ?_ | refine ZB ?_ | refine ZC ?_ | refine ZD ?_ | refine ZE ?_ | refine ZF ?_ | refine ZG ?_ | refine ZH ?_)
      refine C_count n (fun _ => True) (fun k => ⟨3, 28, [(6, iD k), (5, .own 2 k), (4, .ptr 1 0)], [(1, some ⟨151, 3, 1, [iD (refOf r).f, iD (refOf r).s, iD (refOf r).n]⟩), (2, some ⟨3, 1, k, intsD (memL r k)⟩)]⟩) ?_ trivial ?_
      · refine Wk.trans (Wk.adoptT 5 3 1 rfl) ?_
        exact Wk.go (fun b => b)
      · intro k hk _
        obtain ⟨p1, p2⟩ := atR_bd (r := r) hr (i := (k : Int)) (by omega) (by omega)
        by_cases hlt : k < n
        · have em : intsD (memL r (k + 1)) = intsD (memL r k) ++ [iD (atOf (refOf r) k)] := by rw [memR_succ hr hn hlt]; simp
          repeat (first | refine Z1 ?_ | refine Z2 ?_ | (refine Z3 ?_; (repeat (first | (apply gS; first | refine go_f ?_ | refine gm ?_ | refine gp ?_ | refine go_c rfl rfl (rAt_d (refOf r) k p1 p2 (by omega) (by omega)) ?_) | (apply gZ; first | refine go_f ?_ | refine gm ?_))); refine T_nil ?_) | (apply ZK; first | refine Z4 ?_ | refine Z5 ?_) | refine Z6 ?_ | refine Z7 ?_ | refine Z8 ?_ | refine Z9 ?_ | refine ZA ?_ | refine ZB ?_ | refine ZC ?_ | refine ZD ?_ | refine ZE ?_ | refine ZF ?_ | refine ZG ?_ | refine ZH ?_)
          refine kLoop_n ⟨hlt, trivial, ?_⟩
          exact Wk.go (fun b => cond (Nat.beq b 2) 3 (b))
        · obtain rfl : k = n := by omega
          repeat (first | refine Z1 ?_ | refine Z2 ?_ | (refine Z3 ?_; (repeat (first | (apply gS; first | refine go_f ?_ | refine gm ?_ | refine gp ?_) | (apply gZ; first | refine go_f ?_ | refine gm ?_))); refine T_nil ?_) | (apply ZK; first | refine Z4 ?_ | refine Z5 ?_) | refine Z6 ?_ | refine Z7 ?_ | refine Z8 ?_ | refine Z9 ?_ | refine ZA ?_ | refine ZB ?_ | refine ZC ?_ | refine ZD ?_ | refine ZE ?_ | refine ZF ?_ | refine ZG ?_ | refine ZH ?_)
          apply kEnd_r (Wk.freeze 2 rfl (by repeat (first | rfl | exact idsL_map (fun _ => rfl) _ | exact idsL_flat (fun _ => rfl) _ | refine idsL_append ?_ ?_)))
          repeat (first | exact ResV.nil | (apply ResV.tmp; rfl) | (apply ResV.agg3; rfl; rfl) | (apply ResV.agg1; rfl; rfl) | (apply ResV.agg2; rfl; rfl) | (apply ResV.agg4; rfl; rfl) | (apply ResV.cell; rfl; rfl))
          exact Sub.tup (.cons (Sub.eq (by simp [frz, memL_len]) rfl) (.cons (Sub.eq rfl rfl) .nil))
    · rw [if_neg h4]
      refine DC.of Try.func167 Try.ntmps167 Try.results167 rfl (by decide +kernel) rfl ?_
      repeat (first | refine Z1 ?_ | refine Z2 ?_ | (refine Z3 ?_; (repeat (first | (apply gS; first | refine go_f ?_ | refine gm ?_ | refine gp ?_ | refine go_c rfl rfl (rValid_b _ _ _ hv) ?_ | refine go_c rfl rfl (rOf_r r hr) ?_) | (apply gZ; first | refine go_f ?_ | refine gm ?_))); refine T_nil ?_) | (apply ZK; first | refine Z4 ?_ | refine Z5 ?_) | refine Z6 ?_ | refine Z7 ?_ | refine Z8 ?_ | refine Z9 ?_ | refine ZA ?_ | refine ZB ?_ | refine ZC ?_ | refine ZD ?_ | refine ZE ?_ | refine ZF ?_ | refine ZG ?_ | refine ZH ?_)
      repeat (first | refine kEnd_m ?_ | refine kEnd_f ?_)
      refine kEnd_g ?_ (by first | exact .inl rfl | exact .inr rfl)
      exact Sub.tup (.cons Sub.nil (.cons (Sub.eq rfl rfl) .nil))
end Go.Proofs.Ytifapodobhkdcaa
