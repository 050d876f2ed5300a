/- Contracts of Canon, Count, Ith, Place, Has, Members of packages span and purlieuref03, by the abstract machine. -/
import Derived.Test.YtpomhnmfkdgafaaRun
import Derived.Test.YtpomhnmfkdgafaaDsMath
namespace Go.Proofs.Ytpomhnmfkdgafaa
open Go.RowKit
set_option linter.unusedVariables false
set_option maxHeartbeats 16000000
set_option linter.unusedSimpArgs false
set_option maxRecDepth 100000
abbrev rD (r : Rg) : D := .agg [iD r.lo, iD r.hi, iD r.st]
abbrev wD (x : Rw) : D := .agg [iD x.f, iD x.s, iD x.n]
theorem vB_cases (lo hi st : Int) : (vB ⟨lo, hi, st⟩ = true ∧ -1000000 ≤ lo ∧ lo ≤ 1000000 ∧ -1000000 ≤ hi ∧ hi ≤ 1000000 ∧ -1000 ≤ st ∧ st ≤ 1000 ∧ st ≠ 0) ∨ (vB ⟨lo, hi, st⟩ = false ∧ ((lo < -1000000 ∨ 1000000 < lo) ∨ ((-1000000 ≤ lo ∧ lo ≤ 1000000) ∧ (hi < -1000000 ∨ 1000000 < hi)) ∨ ((-1000000 ≤ lo ∧ lo ≤ 1000000) ∧ (-1000000 ≤ hi ∧ hi ≤ 1000000) ∧ (st < -1000 ∨ 1000 < st ∨ st = 0)))) := by
  by_cases h : Rg.ok ⟨lo, hi, st⟩
  · exact .inl ⟨vB_true h, h⟩
  · refine .inr ⟨vB_false h, ?_⟩
    unfold Rg.ok at h
    simp only at h
    omega
end Go.Proofs.Ytpomhnmfkdgafaa
namespace Go.Proofs.Ytpomhnmfkdgafaa
open Go.RowKit
set_option linter.unusedVariables false
set_option maxHeartbeats 16000000
set_option linter.unusedSimpArgs false
set_option maxRecDepth 100000
theorem sameInts_d (la lb : List Int) (ha : la.length ≤ 9223372036854775806) : DC Try.prog 30 [rowI la, rowI lb] (bD (decide (la = lb))) := by
  by_cases hn : la.length = lb.length
  · have hn' : (la.length : Int) = lb.length := by omega
    refine DC.of Try.func30 Try.ntmps30 Try.results30 rfl (by decide +kernel) rfl ?_
    repeat (first | refine Z1 ?_ | refine Z2 ?_ | (refine Z3 ?_; (repeat (first | (apply gS; first | refine go_f ?_ | refine gm ?_ | refine gp ?_))); refine T_nil ?_) | (apply ZR; refine C_dr mixed ?_; (repeat (first | (apply vS; first | refine va ?_ | refine vp ?_ | refine vr ?_ | refine vt ?_))); refine W_e ?_) | (apply ZK; first | refine Z4 ?_ | refine Z5 ?_) | refine Z6 ?_ | refine Z7 ?_ | refine Z8 ?_ | refine Z9 ?_ | refine ZA ?_ | refine ZB ?_ | refine ZC ?_ | refine ZD ?_ | refine ZE ?_ | refine ZF ?_ | refine ZG ?_ | refine ZH ?_)
    refine C_count la.length (fun k => ∀ j (h1 : j < la.length) (h2 : j < lb.length), j < k → la[j] = lb[j]) (fun k => ⟨0, 26, [(0, rowI la), (1, rowI lb), (5, iD k)], []⟩) ?_ (fun j _ _ h => absurd h (by omega)) ?_
    · exact Wk.go (fun b => b)
    · intro k hk hΦ
      by_cases hlt : k < la.length
      · have h2 : k < lb.length := by omega
        by_cases he : la[k] = lb[k]
        · repeat (first | refine Z1 ?_ | refine Z2 ?_ | (refine Z3 ?_; (repeat (first | (apply gS; first | refine go_f ?_ | refine gm ?_ | refine gp ?_))); refine T_nil ?_) | (apply ZR; refine C_dr mixed ?_; (repeat (first | (apply vS; first | refine va ?_ | refine vp ?_ | refine vr ?_ | refine vt ?_))); refine W_e ?_) | (apply ZK; first | refine Z4 ?_ | refine Z5 ?_) | refine Z6 ?_ | refine Z7 ?_ | refine Z8 ?_ | refine Z9 ?_ | refine ZA ?_ | refine ZB ?_ | refine ZC ?_ | refine ZD ?_ | refine ZE ?_ | refine ZF ?_ | refine ZG ?_ | refine ZH ?_)
          refine kLoop_n ⟨hlt, fun j h1 h2 h => ?_, ?_⟩
          · by_cases hj : j = k
            · subst hj; exact he
            · exact hΦ j h1 h2 (by omega)
          · exact Wk.go (fun b => b)
        · repeat (first | refine Z1 ?_ | refine Z2 ?_ | (refine Z3 ?_; (repeat (first | (apply gS; first | refine go_f ?_ | refine gm ?_ | refine gp ?_))); refine T_nil ?_) | (apply ZR; refine C_dr mixed ?_; (repeat (first | (apply vS; first | refine va ?_ | refine vp ?_ | refine vr ?_ | refine vt ?_))); refine W_e ?_) | (apply ZK; first | refine Z4 ?_ | refine Z5 ?_) | refine Z6 ?_ | refine Z7 ?_ | refine Z8 ?_ | refine Z9 ?_ | refine ZA ?_ | refine ZB ?_ | refine ZC ?_ | refine ZD ?_ | refine ZE ?_ | refine ZF ?_ | refine ZG ?_ | refine ZH ?_)
          repeat (first | refine kEnd_m ?_ | refine kEnd_f ?_)
          refine kEnd_g ?_ (by first | exact .inl rfl | exact .inr rfl)
          exact Sub.eq (by simp [tupD]; intro h; subst h; exact he rfl) rfl
      · repeat (first | refine Z1 ?_ | refine Z2 ?_ | (refine Z3 ?_; (repeat (first | (apply gS; first | refine go_f ?_ | refine gm ?_ | refine gp ?_))); refine T_nil ?_) | (apply ZR; refine C_dr mixed ?_; (repeat (first | (apply vS; first | refine va ?_ | refine vp ?_ | refine vr ?_ | refine vt ?_))); refine W_e ?_) | (apply ZK; first | refine Z4 ?_ | refine Z5 ?_) | refine Z6 ?_ | refine Z7 ?_ | refine Z8 ?_ | refine Z9 ?_ | refine ZA ?_ | refine ZB ?_ | refine ZC ?_ | refine ZD ?_ | refine ZE ?_ | refine ZF ?_ | refine ZG ?_ | refine ZH ?_)
        repeat (first | refine kEnd_m ?_ | refine kEnd_f ?_)
        refine kEnd_g ?_ (by first | exact .inl rfl | exact .inr rfl)
        have h : la = lb := List.ext_getElem hn fun j h1 h2 => hΦ j h1 h2 (by omega)
        exact Sub.eq (by simp [tupD, h]) rfl
  · have hn' : ¬ (la.length : Int) = lb.length := by omega
    refine DC.of Try.func30 Try.ntmps30 Try.results30 rfl (by decide +kernel) rfl ?_
    repeat (first | refine Z1 ?_ | refine Z2 ?_ | (refine Z3 ?_; (repeat (first | (apply gS; first | refine go_f ?_ | refine gm ?_ | refine gp ?_))); refine T_nil ?_) | (apply ZR; refine C_dr mixed ?_; (repeat (first | (apply vS; first | refine va ?_ | refine vp ?_ | refine vr ?_ | refine vt ?_))); refine W_e ?_) | (apply ZK; first | refine Z4 ?_ | refine Z5 ?_) | refine Z6 ?_ | refine Z7 ?_ | refine Z8 ?_ | refine Z9 ?_ | refine ZA ?_ | refine ZB ?_ | refine ZC ?_ | refine ZD ?_ | refine ZE ?_ | refine ZF ?_ | refine ZG ?_ | refine ZH ?_)
    repeat (first | refine kEnd_m ?_ | refine kEnd_f ?_)
    refine kEnd_g ?_ (by first | exact .inl rfl | exact .inr rfl)
    exact Sub.eq (by simp [tupD]; intro h; exact hn (by rw [h])) rfl
end Go.Proofs.Ytpomhnmfkdgafaa
namespace Go.Proofs.Ytpomhnmfkdgafaa
open Go.RowKit
set_option linter.unusedVariables false
set_option maxHeartbeats 16000000
set_option linter.unusedSimpArgs false
set_option maxRecDepth 100000
theorem done_cases (x : Rw) : (vB (canonOf x) = true ∧ doneV x = canonOf x ∧ doneE x = 0) ∨ (vB (canonOf x) = false ∧ doneV x = ⟨0, 0, 0⟩ ∧ doneE x = 30) := by
  cases h : vB (canonOf x)
  · exact .inr ⟨rfl, done_no h⟩
  · exact .inl ⟨rfl, done_yes h⟩
end Go.Proofs.Ytpomhnmfkdgafaa
namespace Go.Proofs.Ytpomhnmfkdgafaa
open Go.RowKit
set_option linter.unusedVariables false
set_option maxHeartbeats 16000000
set_option linter.unusedSimpArgs false
set_option maxRecDepth 100000
theorem vB_okS {r : Rg} (h : vB r = true) : r.ok := by simpa [vB] using h
theorem at_bd {r : Rg} (hr : r.ok) {i : Int} (h0 : 0 ≤ i) (h1 : i ≤ 2000001) : -9000000000000 ≤ i * (rowOf r).s ∧ i * (rowOf r).s ≤ 9000000000000 := by
  obtain ⟨_, _, _, _, s1, s2, _⟩ := hr
  have := prod_row (i := i) (s := (rowOf r).s) h0 h1 s1 s2
  omega
theorem atR_bd {r : Rg} (hr : r.ok) {i : Int} (h0 : 0 ≤ i) (h1 : i ≤ 2000001) : -9000000000000 ≤ i * (refOf r).s ∧ i * (refOf r).s ≤ 9000000000000 := by
  obtain ⟨s1, s2, _⟩ := refOf_s_bd hr
  have := prod_row (i := i) (s := (refOf r).s) h0 h1 s1 s2
  omega
/-- the first k members of a range -/
def memL (r : Rg) (k : Nat) : List Int := (List.range k).map fun j : Nat => atOf (rowOf r) (j : Int)
theorem memL_len (r : Rg) (k : Nat) : (memL r k).length = k := by simp [memL]
theorem memL_succ (r : Rg) (k : Nat) : memL r (k + 1) = memL r k ++ [atOf (rowOf r) (k : Int)] := by simp [memL, List.range_succ]
def membersRes (r : Rg) : List Int × Int := if vB r = true then (if (rowOf r).n ≤ 4096 then (memL r (rowOf r).n.toNat, 0) else ([], 2)) else ([], 30)
theorem memR_succ {r : Rg} (hr : r.ok) {k n : Nat} (hn : (rowOf r).n = n) (h : k < n) : memL r (k + 1) = memL r k ++ [atOf (refOf r) (k : Int)] := by
  rw [memL_succ, at_ref hr (by omega) (by omega)]
end Go.Proofs.Ytpomhnmfkdgafaa
