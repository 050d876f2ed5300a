/- each of package domain, and Shift, Expand, Interior and Exterior, by the abstract machine. -/
import Derived.Test.YtifapodobhkdcaaD4
import Derived.Test.YtifapodobhkdcaaS8
import Derived.Test.YtifapodobhkdcaaR4
namespace Go.Proofs.Ytifapodobhkdcaa
open Go.RowKit
set_option linter.unusedVariables false
set_option maxHeartbeats 16000000
set_option linter.unusedSimpArgs false
set_option maxRecDepth 100000
/-! ### inner and outer -/
def innerRes (r : Rg) (n : Int) : Rg × Int := if n = 0 then (r, 0) else if n < 0 then takeRes r (if n < -4096 then 4096 else -n) else takeRes r (if n < 4096 then -n else -4096)
theorem inner_d (r : Rg) (n : Int) (n1 : -9223372036854775808 ≤ n) (n2 : n ≤ 9223372036854775807) : DC Try.prog 121 [rD r, iD n] (.tup [rD (innerRes r n).1, iD (innerRes r n).2]) := by
  unfold innerRes
  by_cases h0 : n = 0
  · rw [if_pos h0]
    refine DC.of Try.func121 Try.ntmps121 Try.results121 rfl (by decide +kernel) rfl ?_
    repeat (first | refine Z1 ?_ | refine Z2 ?_ | (refine Z3 ?_; (repeat (first | (apply gS; first | refine go_f ?_ | refine gm ?_ | refine gp ?_) | (apply gZ; first | refine go_f ?_ | refine gm ?_))); refine T_nil ?_) | (apply ZK; first | refine Z4 ?_ | refine Z5 ?_) | refine Z6 ?_ | refine Z7 ?_ | refine ZF ?_)
    repeat (first | refine kEnd_m ?_ | refine kEnd_f ?_)
    refine kEnd_g ?_ (by first | exact .inl rfl | exact .inr rfl)
    exact Sub.eq rfl rfl
  rw [if_neg h0]
  by_cases h1 : n < 0
  · rw [if_pos h1]
    by_cases h2 : n < -4096
    · rw [if_pos h2]
      have T := sTake_d r 4096 (by omega) (by omega)
      refine DC.of Try.func121 Try.ntmps121 Try.results121 rfl (by decide +kernel) rfl ?_
      repeat (first | refine Z1 ?_ | refine Z2 ?_ | (refine Z3 ?_; (repeat (first | (apply gS; first | refine go_f ?_ | refine gm ?_ | refine gp ?_ | refine go_c rfl rfl (T) ?_) | (apply gZ; first | refine go_f ?_ | refine gm ?_))); refine T_nil ?_) | (apply ZK; first | refine Z4 ?_ | refine Z5 ?_) | refine Z6 ?_ | refine Z7 ?_ | refine ZF ?_)
      repeat (first | refine kEnd_m ?_ | refine kEnd_f ?_)
      refine kEnd_g ?_ (by first | exact .inl rfl | exact .inr rfl)
      exact Sub.eq rfl rfl
    · rw [if_neg h2]
      have T := sTake_d r (n * -1) (by omega) (by omega)
      rw [show -n = n * -1 by omega]
      refine DC.of Try.func121 Try.ntmps121 Try.results121 rfl (by decide +kernel) rfl ?_
      repeat (first | refine Z1 ?_ | refine Z2 ?_ | (refine Z3 ?_; (repeat (first | (apply gS; first | refine go_f ?_ | refine gm ?_ | refine gp ?_ | refine go_c rfl rfl (T) ?_) | (apply gZ; first | refine go_f ?_ | refine gm ?_))); refine T_nil ?_) | (apply ZK; first | refine Z4 ?_ | refine Z5 ?_) | refine Z6 ?_ | refine Z7 ?_ | refine ZF ?_)
      repeat (first | refine kEnd_m ?_ | refine kEnd_f ?_)
      refine kEnd_g ?_ (by first | exact .inl rfl | exact .inr rfl)
      exact Sub.eq rfl rfl
  · rw [if_neg h1]
    by_cases h2 : n < 4096
    · rw [if_pos h2]
      have T := sTake_d r (-n) (by omega) (by omega)
      refine DC.of Try.func121 Try.ntmps121 Try.results121 rfl (by decide +kernel) rfl ?_
      repeat (first | refine Z1 ?_ | refine Z2 ?_ | (refine Z3 ?_; (repeat (first | (apply gS; first | refine go_f ?_ | refine gm ?_ | refine gp ?_ | refine go_c rfl rfl (T) ?_) | (apply gZ; first | refine go_f ?_ | refine gm ?_))); refine T_nil ?_) | (apply ZK; first | refine Z4 ?_ | refine Z5 ?_) | refine Z6 ?_ | refine Z7 ?_ | refine ZF ?_)
      repeat (first | refine kEnd_m ?_ | refine kEnd_f ?_)
      refine kEnd_g ?_ (by first | exact .inl rfl | exact .inr rfl)
      exact Sub.eq rfl rfl
    · rw [if_neg h2]
      have T := sTake_d r (-4096) (by omega) (by omega)
      refine DC.of Try.func121 Try.ntmps121 Try.results121 rfl (by decide +kernel) rfl ?_
      repeat (first | refine Z1 ?_ | refine Z2 ?_ | (refine Z3 ?_; (repeat (first | (apply gS; first | refine go_f ?_ | refine gm ?_ | refine gp ?_ | refine go_c rfl rfl (T) ?_) | (apply gZ; first | refine go_f ?_ | refine gm ?_))); refine T_nil ?_) | (apply ZK; first | refine Z4 ?_ | refine Z5 ?_) | refine Z6 ?_ | refine Z7 ?_ | refine ZF ?_)
      repeat (first | refine kEnd_m ?_ | refine kEnd_f ?_)
      refine kEnd_g ?_ (by first | exact .inl rfl | exact .inr rfl)
      exact Sub.eq rfl rfl
def firstR (r : Rg) : Int := atOf (rowOf r) 0
def lastR (r : Rg) : Int := atOf (rowOf r) ((rowOf r).n - 1)
def outerRg (r : Rg) (n : Int) : Rg :=
  if n < 0 then (if r.st < 0 then ⟨firstR r - r.st, firstR r + n * r.st, r.st⟩ else ⟨firstR r + n * r.st, firstR r - r.st, r.st⟩)
  else (if r.st < 0 then ⟨lastR r + n * r.st, lastR r + r.st, r.st⟩ else ⟨lastR r + r.st, lastR r + n * r.st, r.st⟩)
def outerRes (r : Rg) (n : Int) : Rg × Int := if n = 0 ∨ (rowOf r).n = 0 then (r, 0) else if n < -2000000 ∨ 2000000 < n then (⟨0, 0, 0⟩, 30) else canonRes (outerRg r n)
theorem outer_d (r : Rg) (n : Int) (hv : vB r = true) : DC Try.prog 122 [rD r, iD n] (.tup [rD (outerRes r n).1, iD (outerRes r n).2]) := by
  have hr := vB_okS hv
  obtain ⟨m1, m2⟩ := rowOf_n_bd hr
  have C := sCount_d r
  rw [show countRes r = ((rowOf r).n, 0) from if_pos hv] at C
  unfold outerRes
  by_cases h0 : n = 0
  · rw [if_pos (.inl h0)]
    refine DC.of Try.func122 Try.ntmps122 Try.results122 rfl (by decide +kernel) rfl ?_
    repeat (first | refine Z1 ?_ | refine Z2 ?_ | (refine Z3 ?_; (repeat (first | (apply gS; first | refine go_no ?_ | refine go_f ?_ | refine gm ?_ | refine gp ?_ | refine go_c rfl rfl (C) ?_) | (apply gZ; first | refine go_f ?_ | refine gm ?_))); refine T_nil ?_) | (apply ZR; refine C_dr mixed ?_; (repeat (first | (apply vS; first | refine vn ?_ | refine va ?_ | refine vp ?_ | refine vr ?_ | refine vt ?_ | refine vc (C) ?_) | (apply vZ; first | refine vs ?_))); refine W_e ?_) | (apply ZK; first | refine Z4 ?_ | refine Z5 ?_) | refine Z6 ?_ | refine Z7 ?_ | refine ZF ?_)
    repeat (first | refine kEnd_m ?_ | refine kEnd_f ?_)
    refine kEnd_g ?_ (by first | exact .inl rfl | exact .inr rfl)
    exact Sub.eq rfl rfl
  by_cases hn : (rowOf r).n = 0
  · rw [if_pos (.inr hn)]
    refine DC.of Try.func122 Try.ntmps122 Try.results122 rfl (by decide +kernel) rfl ?_
    repeat (first | refine Z1 ?_ | refine Z2 ?_ | (refine Z3 ?_; (repeat (first | (apply gS; first | refine go_no ?_ | refine go_f ?_ | refine gm ?_ | refine gp ?_ | refine go_c rfl rfl (C) ?_) | (apply gZ; first | refine go_f ?_ | refine gm ?_))); refine T_nil ?_) | (apply ZR; refine C_dr mixed ?_; (repeat (first | (apply vS; first | refine vn ?_ | refine va ?_ | refine vp ?_ | refine vr ?_ | refine vt ?_ | refine vc (C) ?_) | (apply vZ; first | refine vs ?_))); refine W_e ?_) | (apply ZK; first | refine Z4 ?_ | refine Z5 ?_) | refine Z6 ?_ | refine Z7 ?_ | refine ZF ?_)
    repeat (first | refine kEnd_m ?_ | refine kEnd_f ?_)
    refine kEnd_g ?_ (by first | exact .inl rfl | exact .inr rfl)
    exact Sub.eq rfl rfl
  rw [if_neg (by omega)]
  by_cases hb1 : n < -2000000
  · rw [if_pos (.inl hb1)]
    refine DC.of Try.func122 Try.ntmps122 Try.results122 rfl (by decide +kernel) rfl ?_
    repeat (first | refine Z1 ?_ | refine Z2 ?_ | (refine Z3 ?_; (repeat (first | (apply gS; first | refine go_no ?_ | refine go_f ?_ | refine gm ?_ | refine gp ?_ | refine go_c rfl rfl (C) ?_) | (apply gZ; first | refine go_f ?_ | refine gm ?_))); refine T_nil ?_) | (apply ZR; refine C_dr mixed ?_; (repeat (first | (apply vS; first | refine vn ?_ | refine va ?_ | refine vp ?_ | refine vr ?_ | refine vt ?_ | refine vc (C) ?_) | (apply vZ; first | refine vs ?_))); refine W_e ?_) | (apply ZK; first | refine Z4 ?_ | refine Z5 ?_) | refine Z6 ?_ | refine Z7 ?_ | refine ZF ?_)
    repeat (first | refine kEnd_m ?_ | refine kEnd_f ?_)
    refine kEnd_g ?_ (by first | exact .inl rfl | exact .inr rfl)
    exact Sub.eq rfl rfl
  by_cases hb2 : 2000000 < n
  · rw [if_pos (.inr hb2)]
    refine DC.of Try.func122 Try.ntmps122 Try.results122 rfl (by decide +kernel) rfl ?_
    repeat (first | refine Z1 ?_ | refine Z2 ?_ | (refine Z3 ?_; (repeat (first | (apply gS; first | refine go_no ?_ | refine go_f ?_ | refine gm ?_ | refine gp ?_ | refine go_c rfl rfl (C) ?_) | (apply gZ; first | refine go_f ?_ | refine gm ?_))); refine T_nil ?_) | (apply ZR; refine C_dr mixed ?_; (repeat (first | (apply vS; first | refine vn ?_ | refine va ?_ | refine vp ?_ | refine vr ?_ | refine vt ?_ | refine vc (C) ?_) | (apply vZ; first | refine vs ?_))); refine W_e ?_) | (apply ZK; first | refine Z4 ?_ | refine Z5 ?_) | refine Z6 ?_ | refine Z7 ?_ | refine ZF ?_)
    repeat (first | refine kEnd_m ?_ | refine kEnd_f ?_)
    refine kEnd_g ?_ (by first | exact .inl rfl | exact .inr rfl)
    exact Sub.eq rfl rfl
  rw [if_neg (by omega)]
  have F := sIth_d r 0
  rw [show ithRes r 0 = (firstR r, 0) from (if_pos hv).trans (if_pos ⟨by omega, by omega⟩)] at F
  have L := sIth_d r ((rowOf r).n - 1)
  rw [show ithRes r ((rowOf r).n - 1) = (lastR r, 0) from (if_pos hv).trans (if_pos ⟨by omega, by omega⟩)] at L
  have b1 : -1000000 ≤ firstR r ∧ firstR r ≤ 1000000 := at_near hr (by omega) (by omega)
  have b2 : -1000000 ≤ lastR r ∧ lastR r ≤ 1000000 := at_near hr (by omega) (by omega)
  have p := prod_small (a := n) (b := r.st) (by omega) (by omega) (by have := hr.2.2.2.2.1; omega) (by have := hr.2.2.2.2.2.1; omega)
  have s1 := hr.2.2.2.2.1
  have s2 := hr.2.2.2.2.2.1
  have K := sCanonP_d (outerRg r n)
  generalize hres : canonRes (outerRg r n) = res at *
  clear hres
  unfold outerRg at K
  dsimp only at C F L
  generalize firstR r = f at *
  generalize lastR r = l at *
  by_cases c1 : n < 0 <;> by_cases c2 : r.st < 0
  all_goals
    simp only [c1, c2, if_true, if_false] at K
    refine DC.of Try.func122 Try.ntmps122 Try.results122 rfl (by decide +kernel) rfl ?_
    repeat (first | refine Z1 ?_ | refine Z2 ?_ | (refine Z3 ?_; (repeat (first | (apply gS; first | refine go_no ?_ | refine go_f ?_ | refine gm ?_ | refine gp ?_ | refine go_c rfl rfl (C) ?_ | refine go_c rfl rfl (F) ?_ | refine go_c rfl rfl (L) ?_ | refine go_c rfl rfl (K) ?_) | (apply gZ; first | refine go_f ?_ | refine gm ?_))); refine T_nil ?_) | (apply ZR; refine C_dr mixed ?_; (repeat (first | (apply vS; first | refine vn ?_ | refine va ?_ | refine vp ?_ | refine vr ?_ | refine vt ?_ | refine vc (C) ?_ | refine vc (F) ?_ | refine vc (L) ?_ | refine vc (K) ?_) | (apply vZ; first | refine vs ?_))); refine W_e ?_) | (apply ZK; first | refine Z4 ?_ | refine Z5 ?_) | refine Z6 ?_ | refine Z7 ?_ | refine ZF ?_)
    repeat (first | refine kEnd_m ?_ | refine kEnd_f ?_)
    refine kEnd_g ?_ (by first | exact .inl rfl | exact .inr rfl)
    exact Sub.eq rfl rfl
end Go.Proofs.Ytifapodobhkdcaa
namespace Go.Proofs.Ytifapodobhkdcaa
open Go.RowKit
set_option linter.unusedVariables false
set_option maxHeartbeats 16000000
set_option linter.unusedSimpArgs false
set_option maxRecDepth 100000
theorem rDone_d (rs : List Rg) : DC Try.prog 118 [rowR rs] (.tup [domD (dCanonRes rs).1, iD (dCanonRes rs).2]) := by
  have C := rdCanon_d rs
  refine DC.of Try.func118 Try.ntmps118 Try.results118 rfl (by decide +kernel) rfl ?_
  repeat (first | refine Z1 ?_ | refine Z2 ?_ | (refine Z3 ?_; (repeat (first | (apply gS; first | refine go_f ?_ | refine gm ?_ | refine gp ?_ | refine go_c rfl rfl (C) ?_) | (apply gZ; first | refine go_f ?_ | refine gm ?_))); refine T_nil ?_) | (apply ZK; first | refine Z4 ?_ | refine Z5 ?_) | refine Z6 ?_ | refine Z7 ?_)
  repeat (first | refine kEnd_m ?_ | refine kEnd_f ?_)
  refine kEnd_g ?_ (by first | exact .inl rfl | exact .inr rfl)
  exact Sub.eq rfl rfl
/-- by the ends that are written -/
def beRg (r : Rg) (n : Int) : Rg :=
  if 0 < n then (if r.st < 0 then ⟨r.lo + n * r.st, r.lo + r.st, if n = 1 then 1 else r.st⟩ else ⟨r.hi + r.st, r.hi + n * r.st, if n = 1 then 1 else r.st⟩)
  else (if r.st < 0 then ⟨r.hi + (-1) * r.st, r.hi + n * r.st, if n = -1 then 1 else r.st⟩ else ⟨r.lo + n * r.st, r.lo + (-1) * r.st, if n = -1 then 1 else r.st⟩)
def beRes (r : Rg) (n : Int) : Rg × Int := if n = 0 then (r, 0) else if n < -4096 ∨ 4096 < n then (⟨0, 0, 0⟩, 30) else if vB (beRg r n) = true then (beRg r n, 0) else (⟨0, 0, 0⟩, 30)
def upL (l s : Int) (k : Nat) : List Int := (List.range k).map fun j : Nat => l + ((j : Int) + 1) * s
def dnL (f s n : Int) (k : Nat) : List Int := (List.range k).map fun j : Nat => f + (n + j) * s
theorem upL_snoc (l s : Int) (k : Nat) : intsD (upL l s (k + 1)) = intsD (upL l s k) ++ [iD (l + ((k : Int) + 1) * s)] := by simp [upL, List.range_succ]
theorem dnL_snoc (f s n : Int) (k : Nat) : intsD (dnL f s n (k + 1)) = intsD (dnL f s n k) ++ [iD (f + (n + k) * s)] := by simp [dnL, List.range_succ]
theorem upL_get (l s : Int) {k j : Nat} (h : j < (upL l s k).length) : (upL l s k)[j] = l + ((j : Int) + 1) * s := by simp [upL]
theorem dnL_get (f s n : Int) {k j : Nat} (h : j < (dnL f s n k).length) : (dnL f s n k)[j] = f + (n + j) * s := by simp [dnL]
theorem upL_len (l s : Int) (k : Nat) : (upL l s k).length = k := by simp [upL]
theorem dnL_len (f s n : Int) (k : Nat) : (dnL f s n k).length = k := by simp [dnL]
theorem small_mul {a s : Int} (h1 : -4096 ≤ a) (h2 : a ≤ 4096) (h3 : -1000 ≤ s) (h4 : s ≤ 1000) : -4096000 ≤ a * s ∧ a * s ≤ 4096000 := prod_bd' h1 h2 h3 h4
end Go.Proofs.Ytifapodobhkdcaa
namespace Go.Proofs.Ytifapodobhkdcaa
set_option linter.unusedVariables false
set_option maxHeartbeats 16000000
set_option linter.unusedSimpArgs false
/-- what each dimension becomes, and the domain of these -/
def eachRes (L : List (Rg × Int)) : List Rg × Int := if (L.any fun p => decide (p.2 = 2)) = true then ([], 2) else if (L.any fun p => decide (p.2 ≠ 0)) = true then ([], 40) else dCanonRes (L.map (·.1))
def zipF (F : Rg → Int → Rg × Int) (cs : List Rg) (by' : List Int) : List (Rg × Int) := List.zipWith F cs by'
/-- which error stands for which -/
theorem eachRes_congr {L M : List (Rg × Int)} (hl : L.length = M.length) (h : ∀ j (h1 : j < L.length) (h2 : j < M.length), L[j] = M[j]) : eachRes L = eachRes M := by
  have : L = M := List.ext_getElem hl fun j a b => h j a b
  rw [this]
theorem take_clamp {x : Rw} {k k' : Int} (hn : 0 ≤ x.n) (h : x.n ≤ k ∧ x.n ≤ k' ∨ k ≤ -x.n ∧ k' ≤ -x.n) : takeRow x k = takeRow x k' := by
  have hF : cutF x k = cutF x k' := by unfold cutF; repeat' split
                                       all_goals omega
  have hN : cutN x k = cutN x k' := by unfold cutN; repeat' split
                                       all_goals omega
  unfold takeRow
  rw [hF, hN]
/-- the reference's number for the inner part -/
def innerK (n : Int) : Int := if 0 < n then (if n < 1099511627776 then -n else -1099511627776) else (if n < -1099511627776 then 1099511627776 else -n)
theorem inner_ref {r : Rg} {n : Int} (hv : vB r = true) (hc : (rowOf r).n ≤ 4096) (h0 : n ≠ 0) : takeRes r (innerK n) = innerRes r n := by
  have hn := (rowOf_n_bd (vB_ok' hv)).1
  unfold innerRes takeRes
  rw [if_neg h0, if_pos hv, if_pos hv, if_pos hv]
  have key : ∀ k k', ((rowOf r).n ≤ k ∧ (rowOf r).n ≤ k' ∨ k ≤ -(rowOf r).n ∧ k' ≤ -(rowOf r).n ∨ k = k') → (doneV (takeRow (rowOf r) k), doneE (takeRow (rowOf r) k)) = (doneV (takeRow (rowOf r) k'), doneE (takeRow (rowOf r) k')) := fun k k' h => by
    rcases h with h | h | h
    · rw [take_clamp hn (.inl h)]
    · rw [take_clamp hn (.inr h)]
    · rw [h]
  unfold innerK
  split
  · split <;> (try split) <;> (try split) <;> first | (exact key _ _ (by omega)) | omega
  · split <;> (try split) <;> (try split) <;> first | (exact key _ _ (by omega)) | omega
end Go.Proofs.Ytifapodobhkdcaa
namespace Go.Proofs.Ytifapodobhkdcaa
open Go.RowKit
set_option linter.unusedVariables false
set_option maxHeartbeats 16000000
set_option linter.unusedSimpArgs false
set_option maxRecDepth 100000
def askedD (rs : List Rg) (b : List Int) : Int := if domB rs = true then (if b.length = rs.length then 0 else 2) else 40
theorem askedD_d (rs : List Rg) (b : List Int) : DC Try.prog 161 [domD rs, rowI b] (iD (askedD rs b)) := by
  have V := dValid_b rs (b := domB rs) rfl
  unfold askedD
  cases h : domB rs <;> rw [h] at V
  · refine DC.of Try.func161 Try.ntmps161 Try.results161 rfl (by decide +kernel) rfl ?_
    repeat (first | refine Z1 ?_ | refine Z2 ?_ | (refine Z3 ?_; (repeat (first | (apply gS; first | refine go_f ?_ | refine gm ?_ | refine gp ?_ | refine go_c rfl rfl (V) ?_))); refine T_nil ?_) | (apply ZK; first | refine Z4 ?_ | refine Z5 ?_) | refine Z6 ?_ | refine Z7 ?_ | refine Z8 ?_ | refine Z9 ?_ | refine ZA ?_ | refine ZB ?_ | refine ZC ?_ | refine ZF ?_)
    repeat (first | refine kEnd_m ?_ | refine kEnd_f ?_)
    refine kEnd_g ?_ (by first | exact .inl rfl | exact .inr rfl)
    exact Sub.eq rfl rfl
  · rw [if_pos rfl]
    by_cases hl : b.length = rs.length
    · rw [if_pos hl]
      have hl' : (b.length : Int) = rs.length := by omega
      refine DC.of Try.func161 Try.ntmps161 Try.results161 rfl (by decide +kernel) rfl ?_
      repeat (first | refine Z1 ?_ | refine Z2 ?_ | (refine Z3 ?_; (repeat (first | (apply gS; first | refine go_f ?_ | refine gm ?_ | refine gp ?_ | refine go_c rfl rfl (V) ?_))); refine T_nil ?_) | (apply ZK; first | refine Z4 ?_ | refine Z5 ?_) | refine Z6 ?_ | refine Z7 ?_ | refine Z8 ?_ | refine Z9 ?_ | refine ZA ?_ | refine ZB ?_ | refine ZC ?_ | refine ZF ?_)
      repeat (first | refine kEnd_m ?_ | refine kEnd_f ?_)
      refine kEnd_g ?_ (by first | exact .inl rfl | exact .inr rfl)
      exact Sub.eq rfl rfl
    · rw [if_neg hl]
      have hl' : ¬ (b.length : Int) = rs.length := by omega
      refine DC.of Try.func161 Try.ntmps161 Try.results161 rfl (by decide +kernel) rfl ?_
      repeat (first | refine Z1 ?_ | refine Z2 ?_ | (refine Z3 ?_; (repeat (first | (apply gS; first | refine go_f ?_ | refine gm ?_ | refine gp ?_ | refine go_c rfl rfl (V) ?_))); refine T_nil ?_) | (apply ZK; first | refine Z4 ?_ | refine Z5 ?_) | refine Z6 ?_ | refine Z7 ?_ | refine Z8 ?_ | refine Z9 ?_ | refine ZA ?_ | refine ZB ?_ | refine ZC ?_ | refine ZF ?_)
      repeat (first | refine kEnd_m ?_ | refine kEnd_f ?_)
      refine kEnd_g ?_ (by first | exact .inl rfl | exact .inr rfl)
      exact Sub.eq rfl rfl
def overB (L : List (Rg × Int)) : Bool := L.any fun p => decide (p.2 ≠ 0)
theorem overB_snoc {L : List (Rg × Int)} {k : Nat} (h : k < L.length) : overB (L.take (k + 1)) = (overB (L.take k) || decide (L[k].2 ≠ 0)) := by
  unfold overB
  rw [List.take_succ_eq_append_getElem h, List.any_append]; simp
theorem outs_snoc {L : List (Rg × Int)} {k : Nat} (h : k < L.length) : ((L.take (k + 1)).map (·.1)).flatMap rC = ((L.take k).map (·.1)).flatMap rC ++ rC L[k].1 := by
  rw [List.take_succ_eq_append_getElem h, List.map_append, List.flatMap_append]; simp
theorem any_yes {α : Type} {p : α → Bool} {l : List α} {q : Nat} (hq : q < l.length) (h : p l[q] = true) : l.any p = true := List.any_eq_true.2 ⟨_, List.getElem_mem hq, h⟩
theorem any_not {α : Type} {p : α → Bool} {l : List α} (h : ∀ j (h : j < l.length), p l[j] = false) : l.any p = false := by
  cases ha : l.any p with
  | false => rfl
  | true =>
    obtain ⟨x, hx, hp⟩ := List.any_eq_true.1 ha
    obtain ⟨j, hj, rfl⟩ := List.getElem_of_mem hx
    rw [h j hj] at hp; cases hp
theorem each_d (f : Nat) (rs : List Rg) (b : List Int) (L : List (Rg × Int)) (hd : domB rs = true) (hb : b.length = rs.length) (hL : L.length = rs.length)
    (hF : ∀ j (h1 : j < (canonRs rs).length) (h2 : j < b.length) (h3 : j < L.length), DC Try.prog f [rD (canonRs rs)[j], iD b[j]] (.tup [rD L[j].1, iD L[j].2])) :
    DC Try.prog 104 [domD rs, rowI b, .fn f [] []] (.tup [domD (eachRes L).1, iD (eachRes L).2]) := by
  have A := askedD_d rs b
  rw [show askedD rs b = 0 by rw [askedD, if_pos hd, if_pos hb]] at A
  have N := canon_d rs hd
  have DN := dDone_d (L.map (·.1))
  have hl3 := (domB_iff.1 hd).1
  have hcl : (canonRs rs).length = rs.length := by simp [canonRs]
  generalize canonRs rs = cs at *
  rw [show rowR (L.map (·.1)) = .row L.length ((L.map (·.1)).flatMap rC) by show D.row _ _ = _; rw [List.length_map]] at DN
  rcases first_bad (fun p : Rg × Int => decide (p.2 ≠ 2)) L with hno | ⟨q, hq, hbad, hmin⟩
  · have e1 : (L.any fun p => decide (p.2 = 2)) = false := any_not fun j hj => by have := of_decide_eq_true (hno j hj); simp [this]
    unfold eachRes
    rw [e1, if_neg (by decide), show (L.any fun p => decide (p.2 ≠ 0)) = overB L from rfl]
    generalize hres : dCanonRes (L.map (·.1)) = res at *
    cases ho : overB L
    all_goals
      simp only [if_true, if_false, Bool.false_eq_true]
      refine DC.of Try.func104 Try.ntmps104 Try.results104 rfl (by decide +kernel) rfl ?_
      repeat (first | refine Z1 ?_ | refine Z2 ?_ | (refine Z3 ?_; (repeat (first | (apply gS; first | refine go_no ?_ | refine go_f ?_ | refine gm ?_ | refine gp ?_ | refine go_c rfl rfl (A) ?_ | refine go_c rfl rfl (N) ?_) | (apply gZ; first | refine go_f ?_ | refine gm ?_))); refine T_nil ?_) | (apply ZR; refine C_dr mixed ?_; (repeat (first | (apply vS; first | refine vn ?_ | refine va ?_ | refine vp ?_ | refine vr ?_ | refine vt ?_ | refine vc (A) ?_ | refine vc (N) ?_) | (apply vZ; first | refine vs ?_))); refine W_e ?_) | (apply ZK; first | refine Z4 ?_ | refine Z5 ?_) | refine Z6 ?_ | refine Z7 ?_ | refine Z8 ?_ | refine Z9 ?_ | refine ZA ?_ | refine ZB ?_ | refine ZC ?_ | refine ZD ?_ | refine ZE ?_ | refine ZF ?_ | refine ZG ?_ | refine ZH ?_)
      refine C_count L.length (fun _ => True) (fun k => ⟨3, 61, [(26, iD k), (25, iD cs.length), (24, rowR cs), (10, bD (overB (L.take k))), (9, .own 2 k), (6, .ptr 1 0), (1, rowI b), (2, .fn f [] [])], [(1, some ⟨24, 1, 1, [.val (.slice none 0 0)]⟩), (2, some ⟨39, 3, k, ((L.take k).map (·.1)).flatMap rC⟩)]⟩) ?_ trivial ?_
      · have e0 : overB (L.take 0) = false := rfl
        rw [e0]
        refine Wk.trans (Wk.adoptT 9 39 3 rfl) ?_
        exact Wk.go (fun b => b)
      · intro k hk _
        by_cases hlt : k < L.length
        · have F := hF k (by omega) (by omega) hlt
          have hk1 : k < cs.length := by omega
          have hk2 : k < b.length := by omega
          have en := outs_snoc hlt
          have s2 := overB_snoc hlt
          have n2 := of_decide_eq_true (hno k hlt)
          by_cases hz : L[k].2 = 0
          all_goals
            cases hov : overB (L.take k) <;> rw [hov] at s2
            all_goals
              simp only [hz, ne_eq, not_true_eq_false, not_false_eq_true, decide_true, decide_false, Bool.or_false, Bool.or_true, Bool.true_or] at s2
              repeat (first | refine Z1 ?_ | refine Z2 ?_ | (refine Z3 ?_; (repeat (first | (apply gS; first | refine go_no ?_ | refine go_f ?_ | refine gm ?_ | refine gp ?_ | refine go_c rfl rfl (F) ?_) | (apply gZ; first | refine go_f ?_ | refine gm ?_))); refine T_nil ?_) | (apply ZR; refine C_dr mixed ?_; (repeat (first | (apply vS; first | refine vn ?_ | refine va ?_ | refine vp ?_ | refine vr ?_ | refine vt ?_ | refine vc (F) ?_) | (apply vZ; first | refine vs ?_))); refine W_e ?_) | (apply ZK; first | refine Z4 ?_ | refine Z5 ?_) | refine Z6 ?_ | refine Z7 ?_ | refine Z8 ?_ | refine Z9 ?_ | refine ZA ?_ | refine ZB ?_ | refine ZC ?_ | refine ZD ?_ | refine ZE ?_ | refine ZF ?_ | refine ZG ?_ | refine ZH ?_)
              refine kLoop_n ⟨hlt, trivial, ?_⟩
              rw [s2]
              exact Wk.go (fun b => cond (Nat.beq b 2) 5 (b))
        · obtain rfl : k = L.length := by omega
          rw [List.take_length, ho]
          repeat (first | refine Z1 ?_ | refine Z2 ?_ | (refine Z3 ?_; (repeat (first | (apply gS; first | refine go_no ?_ | refine go_f ?_ | refine gm ?_ | refine gp ?_ | refine go_c rfl rfl (DN) ?_) | (apply gZ; first | refine go_f ?_ | refine gm ?_))); refine T_nil ?_) | (apply ZR; refine C_dr mixed ?_; (repeat (first | (apply vS; first | refine vn ?_ | refine va ?_ | refine vp ?_ | refine vr ?_ | refine vt ?_ | refine vc (DN) ?_) | (apply vZ; first | refine vs ?_))); refine W_e ?_) | (apply ZK; first | refine Z4 ?_ | refine Z5 ?_) | refine Z6 ?_ | refine Z7 ?_ | refine Z8 ?_ | refine Z9 ?_ | refine ZA ?_ | refine ZB ?_ | refine ZC ?_ | refine ZD ?_ | refine ZE ?_ | refine ZF ?_ | refine ZG ?_ | refine ZH ?_)
          repeat (first | refine kEnd_m ?_ | refine kEnd_f ?_)
          refine kEnd_g ?_ (by first | exact .inl rfl | exact .inr rfl)
          first | exact Sub.eq rfl rfl | exact Sub.tup (.cons (Sub.agg (.cons Sub.nil .nil)) (.cons (Sub.eq rfl rfl) .nil))
  · have hbad' : L[q].2 = 2 := by have := of_decide_eq_false hbad; omega
    unfold eachRes
    rw [if_pos (any_yes hq (by simp [hbad']))]
    clear DN
    refine DC.of Try.func104 Try.ntmps104 Try.results104 rfl (by decide +kernel) rfl ?_
    repeat (first | refine Z1 ?_ | refine Z2 ?_ | (refine Z3 ?_; (repeat (first | (apply gS; first | refine go_no ?_ | refine go_f ?_ | refine gm ?_ | refine gp ?_ | refine go_c rfl rfl (A) ?_ | refine go_c rfl rfl (N) ?_) | (apply gZ; first | refine go_f ?_ | refine gm ?_))); refine T_nil ?_) | (apply ZR; refine C_dr mixed ?_; (repeat (first | (apply vS; first | refine vn ?_ | refine va ?_ | refine vp ?_ | refine vr ?_ | refine vt ?_ | refine vc (A) ?_ | refine vc (N) ?_) | (apply vZ; first | refine vs ?_))); refine W_e ?_) | (apply ZK; first | refine Z4 ?_ | refine Z5 ?_) | refine Z6 ?_ | refine Z7 ?_ | refine Z8 ?_ | refine Z9 ?_ | refine ZA ?_ | refine ZB ?_ | refine ZC ?_ | refine ZD ?_ | refine ZE ?_ | refine ZF ?_ | refine ZG ?_ | refine ZH ?_)
    refine C_count q (fun _ => True) (fun k => ⟨3, 61, [(26, iD k), (25, iD cs.length), (24, rowR cs), (10, bD (overB (L.take k))), (9, .own 2 k), (6, .ptr 1 0), (1, rowI b), (2, .fn f [] [])], [(1, some ⟨24, 1, 1, [.val (.slice none 0 0)]⟩), (2, some ⟨39, 3, k, ((L.take k).map (·.1)).flatMap rC⟩)]⟩) ?_ trivial ?_
    · have e0 : overB (L.take 0) = false := rfl
      rw [e0]
      refine Wk.trans (Wk.adoptT 9 39 3 rfl) ?_
      exact Wk.go (fun b => b)
    · intro k hk _
      have hkl : k < L.length := by omega
      have F := hF k (by omega) (by omega) hkl
      have hk1 : k < cs.length := by omega
      have hk2 : k < b.length := by omega
      by_cases hlt : k < q
      · have en := outs_snoc hkl
        have s2 := overB_snoc hkl
        have n2 := of_decide_eq_true (hmin k hkl hlt)
        by_cases hz : L[k].2 = 0
        all_goals
          cases hov : overB (L.take k) <;> rw [hov] at s2
          all_goals
            simp only [hz, ne_eq, not_true_eq_false, not_false_eq_true, decide_true, decide_false, Bool.or_false, Bool.or_true, Bool.true_or] at s2
            repeat (first | refine Z1 ?_ | refine Z2 ?_ | (refine Z3 ?_; (repeat (first | (apply gS; first | refine go_no ?_ | refine go_f ?_ | refine gm ?_ | refine gp ?_ | refine go_c rfl rfl (F) ?_) | (apply gZ; first | refine go_f ?_ | refine gm ?_))); refine T_nil ?_) | (apply ZR; refine C_dr mixed ?_; (repeat (first | (apply vS; first | refine vn ?_ | refine va ?_ | refine vp ?_ | refine vr ?_ | refine vt ?_ | refine vc (F) ?_) | (apply vZ; first | refine vs ?_))); refine W_e ?_) | (apply ZK; first | refine Z4 ?_ | refine Z5 ?_) | refine Z6 ?_ | refine Z7 ?_ | refine Z8 ?_ | refine Z9 ?_ | refine ZA ?_ | refine ZB ?_ | refine ZC ?_ | refine ZD ?_ | refine ZE ?_ | refine ZF ?_ | refine ZG ?_ | refine ZH ?_)
            refine kLoop_n ⟨hlt, trivial, ?_⟩
            rw [s2]
            exact Wk.go (fun b => cond (Nat.beq b 2) 5 (b))
      · obtain rfl : k = q := by omega
        repeat (first | refine Z1 ?_ | refine Z2 ?_ | (refine Z3 ?_; (repeat (first | (apply gS; first | refine go_no ?_ | refine go_f ?_ | refine gm ?_ | refine gp ?_ | refine go_c rfl rfl (F) ?_) | (apply gZ; first | refine go_f ?_ | refine gm ?_))); refine T_nil ?_) | (apply ZR; refine C_dr mixed ?_; (repeat (first | (apply vS; first | refine vn ?_ | refine va ?_ | refine vp ?_ | refine vr ?_ | refine vt ?_ | refine vc (F) ?_) | (apply vZ; first | refine vs ?_))); refine W_e ?_) | (apply ZK; first | refine Z4 ?_ | refine Z5 ?_) | refine Z6 ?_ | refine Z7 ?_ | refine Z8 ?_ | refine Z9 ?_ | refine ZA ?_ | refine ZB ?_ | refine ZC ?_ | refine ZD ?_ | refine ZE ?_ | refine ZF ?_ | refine ZG ?_ | refine ZH ?_)
        repeat (first | refine kEnd_m ?_ | refine kEnd_f ?_)
        refine kEnd_g ?_ (by first | exact .inl rfl | exact .inr rfl)
        exact Sub.tup (.cons (Sub.agg (.cons Sub.nil .nil)) (.cons (Sub.eq (by rw [hbad']) rfl) .nil))
theorem each_bad (f : Nat) (rs : List Rg) (b : List Int) (h : ¬ (domB rs = true ∧ b.length = rs.length)) : DC Try.prog 104 [domD rs, rowI b, .fn f [] []] (.tup [domD [], iD (askedD rs b)]) := by
  have A := askedD_d rs b
  have hne : askedD rs b ≠ 0 := by
    unfold askedD
    split
    · rename_i h1
      rw [if_neg fun h2 => h ⟨h1, h2⟩]; decide
    · decide
  generalize askedD rs b = e at *
  clear h
  refine DC.of Try.func104 Try.ntmps104 Try.results104 rfl (by decide +kernel) rfl ?_
  repeat (first | refine Z1 ?_ | refine Z2 ?_ | (refine Z3 ?_; (repeat (first | (apply gS; first | refine go_no ?_ | refine go_f ?_ | refine gm ?_ | refine gp ?_ | refine go_c rfl rfl (A) ?_) | (apply gZ; first | refine go_f ?_ | refine gm ?_))); refine T_nil ?_) | (apply ZR; refine C_dr mixed ?_; (repeat (first | (apply vS; first | refine vn ?_ | refine va ?_ | refine vp ?_ | refine vr ?_ | refine vt ?_ | refine vc (A) ?_) | (apply vZ; first | refine vs ?_))); refine W_e ?_) | (apply ZK; first | refine Z4 ?_ | refine Z5 ?_) | refine Z6 ?_ | refine Z7 ?_ | refine Z8 ?_ | refine Z9 ?_ | refine ZA ?_ | refine ZB ?_ | refine ZC ?_ | refine ZD ?_ | refine ZE ?_ | refine ZF ?_ | refine ZG ?_ | refine ZH ?_)
  repeat (first | refine kEnd_m ?_ | refine kEnd_f ?_)
  refine kEnd_g ?_ (by first | exact .inl rfl | exact .inr rfl)
  exact Sub.tup (.cons (Sub.agg (.cons Sub.nil .nil)) (.cons (Sub.eq rfl rfl) .nil))
end Go.Proofs.Ytifapodobhkdcaa
