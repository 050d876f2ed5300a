/- beyond, empty and done of the reference of domains, by the abstract machine. -/
import Derived.Test.YtfkojkciobdeoaaE1
import Derived.Test.YtfkojkciobdeoaaR4
namespace Go.Proofs.Ytfkojkciobdeoaa
open Go.RowKit
set_option linter.unusedVariables false
set_option maxHeartbeats 16000000
set_option linter.unusedSimpArgs false
set_option maxRecDepth 100000
theorem rEmpty_d (rs : List Rg) (h : domB rs = true) : DC Try.prog 127 [domD rs] (bD (decide (prodN (cl rs) = 0))) := by
  have C := rdCount_d rs
  rw [show dCountRes rs = (((prodN (cl rs) : Nat) : Int), 0) from if_pos h] at C
  dsimp only at C
  generalize prodN (cl rs) = n at *
  by_cases h0 : n = 0
  · rw [decide_eq_true h0]
    refine DC.of Try.func127 Try.ntmps127 Try.results127 rfl (by decide +kernel) rfl ?_
    repeat (first | refine Z1 ?_ | refine Z2 ?_ | (refine Z3 ?_; (repeat (first | (apply gS; first | refine go_f ?_ | refine gm ?_ | refine gp ?_ | refine go_c rfl rfl (C) ?_))); refine T_nil ?_) | (apply ZK; first | refine Z4 ?_ | refine Z5 ?_) | refine Z6 ?_ | refine Z7 ?_)
    repeat (first | refine kEnd_m ?_ | refine kEnd_f ?_)
    refine kEnd_g ?_ (by first | exact .inl rfl | exact .inr rfl)
    exact Sub.eq rfl rfl
  · rw [decide_eq_false h0]
    refine DC.of Try.func127 Try.ntmps127 Try.results127 rfl (by decide +kernel) rfl ?_
    repeat (first | refine Z1 ?_ | refine Z2 ?_ | (refine Z3 ?_; (repeat (first | (apply gS; first | refine go_f ?_ | refine gm ?_ | refine gp ?_ | refine go_c rfl rfl (C) ?_))); refine T_nil ?_) | (apply ZK; first | refine Z4 ?_ | refine Z5 ?_) | refine Z6 ?_ | refine Z7 ?_)
    repeat (first | refine kEnd_m ?_ | refine kEnd_f ?_)
    refine kEnd_g ?_ (by first | exact .inl rfl | exact .inr rfl)
    exact Sub.eq rfl rfl
theorem rDone_d (rs : List Rg) : DC Try.prog 97 [rowR rs] (.tup [domD (dCanonRes rs).1, iD (dCanonRes rs).2]) := by
  have C := rdCanon_d rs
  refine DC.of Try.func97 Try.ntmps97 Try.results97 rfl (by decide +kernel) rfl ?_
  repeat (first | refine Z1 ?_ | refine Z2 ?_ | (refine Z3 ?_; (repeat (first | (apply gS; first | refine go_f ?_ | refine gm ?_ | refine gp ?_ | refine go_c rfl rfl (C) ?_) | (apply gZ; first | refine go_f ?_ | refine gm ?_))); refine T_nil ?_) | (apply ZK; first | refine Z4 ?_ | refine Z5 ?_) | refine Z6 ?_ | refine Z7 ?_)
  repeat (first | refine kEnd_m ?_ | refine kEnd_f ?_)
  refine kEnd_g ?_ (by first | exact .inl rfl | exact .inr rfl)
  exact Sub.eq rfl rfl
/-- by the ends that are written -/
def beRg (r : Rg) (n : Int) : Rg :=
  if 0 < n then (if r.st < 0 then ⟨r.lo + n * r.st, r.lo + r.st, if n = 1 then 1 else r.st⟩ else ⟨r.hi + r.st, r.hi + n * r.st, if n = 1 then 1 else r.st⟩)
  else (if r.st < 0 then ⟨r.hi + (-1) * r.st, r.hi + n * r.st, if n = -1 then 1 else r.st⟩ else ⟨r.lo + n * r.st, r.lo + (-1) * r.st, if n = -1 then 1 else r.st⟩)
def beRes (r : Rg) (n : Int) : Rg × Int := if n = 0 then (r, 0) else if n < -4096 ∨ 4096 < n then (⟨0, 0, 0⟩, 30) else if vB (beRg r n) = true then (beRg r n, 0) else (⟨0, 0, 0⟩, 30)
def upL (l s : Int) (k : Nat) : List Int := (List.range k).map fun j : Nat => l + ((j : Int) + 1) * s
def dnL (f s n : Int) (k : Nat) : List Int := (List.range k).map fun j : Nat => f + (n + j) * s
theorem upL_snoc (l s : Int) (k : Nat) : intsD (upL l s (k + 1)) = intsD (upL l s k) ++ [iD (l + ((k : Int) + 1) * s)] := by simp [upL, List.range_succ]
theorem dnL_snoc (f s n : Int) (k : Nat) : intsD (dnL f s n (k + 1)) = intsD (dnL f s n k) ++ [iD (f + (n + k) * s)] := by simp [dnL, List.range_succ]
theorem upL_get (l s : Int) {k j : Nat} (h : j < (upL l s k).length) : (upL l s k)[j] = l + ((j : Int) + 1) * s := by simp [upL]
theorem dnL_get (f s n : Int) {k j : Nat} (h : j < (dnL f s n k).length) : (dnL f s n k)[j] = f + (n + j) * s := by simp [dnL]
theorem upL_len (l s : Int) (k : Nat) : (upL l s k).length = k := by simp [upL]
theorem dnL_len (f s n : Int) (k : Nat) : (dnL f s n k).length = k := by simp [dnL]
theorem small_mul {a s : Int} (h1 : -4096 ≤ a) (h2 : a ≤ 4096) (h3 : -1000 ≤ s) (h4 : s ≤ 1000) : -4096000 ≤ a * s ∧ a * s ≤ 4096000 := prod_bd' h1 h2 h3 h4
end Go.Proofs.Ytfkojkciobdeoaa
