/- Plain laws of what a domain becomes, dimension by dimension: inner and outer parts (no program in sight). -/
import Derived.Test.YtfkojkciobdeoaaE2
namespace Go.Proofs.Ytfkojkciobdeoaa
set_option linter.unusedVariables false
set_option linter.unusedSimpArgs false
/-- what each dimension becomes, and the domain of these -/
def eachRes (L : List (Rg × Int)) : List Rg × Int := if (L.any fun p => decide (p.2 = 2)) = true then ([], 2) else if (L.any fun p => decide (p.2 ≠ 0)) = true then ([], 40) else dCanonRes (L.map (·.1))
def zipF (F : Rg → Int → Rg × Int) (cs : List Rg) (by' : List Int) : List (Rg × Int) := List.zipWith F cs by'
/-- which error stands for which -/
theorem eachRes_congr {L M : List (Rg × Int)} (hl : L.length = M.length) (h : ∀ j (h1 : j < L.length) (h2 : j < M.length), L[j] = M[j]) : eachRes L = eachRes M := by
  have : L = M := List.ext_getElem hl fun j a b => h j a b
  rw [this]
theorem take_clamp {x : Rw} {k k' : Int} (hn : 0 ≤ x.n) (h : x.n ≤ k ∧ x.n ≤ k' ∨ k ≤ -x.n ∧ k' ≤ -x.n) : takeRow x k = takeRow x k' := by
  have hF : cutF x k = cutF x k' := by unfold cutF; repeat' split
                                       all_goals omega
  have hN : cutN x k = cutN x k' := by unfold cutN; repeat' split
                                       all_goals omega
  unfold takeRow
  rw [hF, hN]
/-- the reference's number for the inner part -/
def innerK (n : Int) : Int := if 0 < n then (if n < 1099511627776 then -n else -1099511627776) else (if n < -1099511627776 then 1099511627776 else -n)
theorem inner_ref {r : Rg} {n : Int} (hv : vB r = true) (hc : (rowOf r).n ≤ 4096) (h0 : n ≠ 0) : takeRes r (innerK n) = innerRes r n := by
  have hn := (rowOf_n_bd (vB_ok' hv)).1
  unfold innerRes takeRes
  rw [if_neg h0, if_pos hv, if_pos hv, if_pos hv]
  have key : ∀ k k', ((rowOf r).n ≤ k ∧ (rowOf r).n ≤ k' ∨ k ≤ -(rowOf r).n ∧ k' ≤ -(rowOf r).n ∨ k = k') → (doneV (takeRow (rowOf r) k), doneE (takeRow (rowOf r) k)) = (doneV (takeRow (rowOf r) k'), doneE (takeRow (rowOf r) k')) := fun k k' h => by
    rcases h with h | h | h
    · rw [take_clamp hn (.inl h)]
    · rw [take_clamp hn (.inr h)]
    · rw [h]
  unfold innerK
  split
  · split <;> (try split) <;> (try split) <;> first | (exact key _ _ (by omega)) | omega
  · split <;> (try split) <;> (try split) <;> first | (exact key _ _ (by omega)) | omega
end Go.Proofs.Ytfkojkciobdeoaa
