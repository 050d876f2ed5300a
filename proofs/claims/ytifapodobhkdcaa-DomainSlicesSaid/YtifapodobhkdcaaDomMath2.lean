/- Plain laws of domains: the indexes, dimension by dimension; canonical domains. -/
import Derived.Test.YtifapodobhkdcaaDomMath
import Derived.Test.YtifapodobhkdcaaSpanMath4
namespace Go.Proofs.Ytifapodobhkdcaa
set_option linter.unusedVariables false
theorem idxs_snoc : ∀ (a : List Rg) (r : Rg), idxs (a ++ [r]) = (idxs a).flatMap fun o => (memN r).map fun x => o ++ [x]
  | [], r => by
    show (memN r).flatMap (fun x => ([[]] : List (List Int)).map (x :: ·)) = _
    simp only [idxs, List.flatMap_cons, List.flatMap_nil, List.append_nil, List.map_cons, List.map_nil, List.nil_append]
    induction memN r with
    | nil => rfl
    | cons x l ih => rw [List.flatMap_cons, ih]; rfl
  | s :: a, r => by
    show (memN s).flatMap (fun x => (idxs (a ++ [r])).map (x :: ·)) = ((memN s).flatMap fun x => (idxs a).map (x :: ·)).flatMap _
    rw [idxs_snoc a r, List.flatMap_assoc]
    congr 1
    funext x
    rw [List.map_flatMap, List.flatMap_map]
    congr 1
    funext o
    rw [List.map_map]
    rfl
/-- after k lists whole, and j of the next one -/
def nx (A : List (List Int)) (L : List Int) (k j : Nat) : List (List Int) := ((A.take k).flatMap fun o => L.map fun x => o ++ [x]) ++ match A[k]? with
  | some o => (L.take j).map fun x => o ++ [x]
  | none => []
theorem nx_0 (A : List (List Int)) (L : List Int) : nx A L 0 0 = [] := by unfold nx; cases A <;> simp
theorem nx_step {A : List (List Int)} {L : List Int} {k j : Nat} (hk : k < A.length) (hj : j < L.length) : nx A L k (j + 1) = nx A L k j ++ [A[k] ++ [L[j]]] := by
  unfold nx
  rw [List.getElem?_eq_getElem hk]
  simp only
  rw [List.take_succ_eq_append_getElem hj, List.map_append, ← List.append_assoc]
  rfl
theorem nx_row {A : List (List Int)} {L : List Int} {k : Nat} (hk : k < A.length) : nx A L k L.length = nx A L (k + 1) 0 := by
  unfold nx
  rw [List.getElem?_eq_getElem hk, List.take_length, List.take_succ_eq_append_getElem hk, List.flatMap_append]
  simp only [List.flatMap_cons, List.flatMap_nil, List.append_nil, List.take_zero, List.map_nil]
  cases A[k + 1]? <;> simp
theorem nx_end (A : List (List Int)) (L : List Int) : nx A L A.length 0 = A.flatMap fun o => L.map fun x => o ++ [x] := by
  unfold nx
  rw [List.getElem?_eq_none (Nat.le_refl _), List.take_length, List.append_nil]
theorem nx_len {A : List (List Int)} {L : List Int} {k j : Nat} (hk : k ≤ A.length) (hj : j ≤ L.length) : (nx A L k j).length ≤ A.length * L.length := by
  unfold nx
  rw [List.length_append, flat_len (m := L.length) (fun o => by simp), List.length_take, Nat.min_eq_left hk]
  by_cases h : k < A.length
  · rw [List.getElem?_eq_getElem h]
    simp only [List.length_map, List.length_take, Nat.min_eq_left hj]
    have := Nat.mul_le_mul_right L.length (show k + 1 ≤ A.length by omega)
    rw [Nat.add_mul, Nat.one_mul] at this
    omega
  · rw [List.getElem?_eq_none (by omega)]
    have : k = A.length := by omega
    subst this
    simp
theorem idxs_each : ∀ {rs : List Rg} {o : List Int}, o ∈ idxs rs → o.length = rs.length
  | [], o, h => by simp [idxs] at h; subst h; rfl
  | r :: rs, o, h => by
    obtain ⟨x, _, h⟩ := List.mem_flatMap.1 h
    obtain ⟨o', h1, rfl⟩ := List.mem_map.1 h
    simp [idxs_each h1]
theorem memN_canon {r : Rg} (h : vB r = true) : memN (canonOf (rowOf r)) = memN r ∧ cN (canonOf (rowOf r)) = cN r := by
  have hr := vB_ok' h
  have hn := (rowOf_n_bd hr).1
  have e := row_norm (x := rowOf r) hn (rowOf_small hr).2
  have en : (normOf (rowOf r)).n = (rowOf r).n := by
    unfold normOf
    split
    · simp_all
    · split
      · simp_all
      · rfl
  have ec : cN (canonOf (rowOf r)) = cN r := by unfold cN; rw [e, en]
  refine ⟨?_, ec⟩
  unfold memN
  rw [ec, e]
  exact rowL_norm hn
theorem none_c : cN ⟨1, 0, 1⟩ = 0 := by decide
end Go.Proofs.Ytifapodobhkdcaa
