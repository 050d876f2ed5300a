/- Plain laws of domains: how many indexes, which ones, and where one stands. -/
import Derived.Test.YtifapodobhkdcaaSpanMath6
namespace Go.Proofs.Ytifapodobhkdcaa
set_option linter.unusedVariables false
def cN (r : Rg) : Nat := (rowOf r).n.toNat
def cl (rs : List Rg) : List Nat := rs.map cN
def prodN : List Nat → Nat
  | [] => 1
  | n :: l => n * prodN l
def domB (rs : List Rg) : Bool := decide (1 ≤ rs.length ∧ rs.length ≤ 3) && rs.all vB && decide (prodN (cl rs) ≤ 4096)
theorem domB_iff {rs : List Rg} : domB rs = true ↔ (1 ≤ rs.length ∧ rs.length ≤ 3) ∧ (∀ r ∈ rs, vB r = true) ∧ prodN (cl rs) ≤ 4096 := by
  unfold domB
  rw [Bool.and_eq_true, Bool.and_eq_true, decide_eq_true_iff, decide_eq_true_iff, List.all_eq_true]
  exact ⟨fun h => ⟨h.1.1, h.1.2, h.2⟩, fun h => ⟨⟨h.1, h.2.1⟩, h.2.2⟩⟩
theorem cN_int {r : Rg} (h : vB r = true) : ((cN r : Nat) : Int) = (rowOf r).n := by
  have := (rowOf_n_bd (vB_ok' h)).1
  unfold cN; omega
theorem cN_le {r : Rg} (h : vB r = true) : cN r ≤ 2000001 := by
  have := rowOf_n_bd (vB_ok' h)
  unfold cN; omega
theorem prodN_append (a b : List Nat) : prodN (a ++ b) = prodN a * prodN b := by
  induction a with
  | nil => simp [prodN]
  | cons x a ih => simp only [List.cons_append, prodN, ih, Nat.mul_assoc]
theorem prodN_zero {l : List Nat} : prodN l = 0 ↔ 0 ∈ l := by
  induction l with
  | nil => simp [prodN]
  | cons x l ih =>
    simp only [prodN, Nat.mul_eq_zero, ih, List.mem_cons]
    exact ⟨fun h => h.imp (fun h => h.symm) id, fun h => h.imp (fun h => h.symm) id⟩
theorem prodN_take {l : List Nat} (k : Nat) (h : k < l.length) : prodN (l.take (k + 1)) = prodN (l.take k) * l[k] := by
  rw [List.take_succ_eq_append_getElem h, prodN_append]
  simp [prodN]
theorem prodN_le {l : List Nat} (h : 0 ∉ l) (k : Nat) : 1 ≤ prodN (l.take k) ∧ prodN (l.take k) ≤ prodN l := by
  have h1 : prodN (l.take k) ≠ 0 := fun e => h (List.mem_of_mem_take (prodN_zero.1 e))
  have h2 : prodN (l.drop k) ≠ 0 := fun e => h (List.mem_of_mem_drop (prodN_zero.1 e))
  have e : prodN l = prodN (l.take k) * prodN (l.drop k) := by rw [← prodN_append, List.take_append_drop]
  refine ⟨by omega, ?_⟩
  rw [e]
  exact Nat.le_mul_of_pos_right _ (by omega)
theorem cl_take (rs : List Rg) (k : Nat) : (cl rs).take k = cl (rs.take k) := by simp [cl, List.map_take]
theorem cl_get {rs : List Rg} {k : Nat} (h : k < rs.length) : (cl rs)[k]'(by simpa [cl] using h) = cN rs[k] := by simp [cl]
/-! ### all indexes -/
def memN (r : Rg) : List Int := rowL (rowOf r) (cN r)
theorem memN_len (r : Rg) : (memN r).length = cN r := rowL_len _ _
def idxs : List Rg → List (List Int)
  | [] => [[]]
  | r :: rs => (memN r).flatMap fun x => (idxs rs).map (x :: ·)
theorem flat_len {α β : Type} {f : α → List β} {m : Nat} (hf : ∀ a, (f a).length = m) : ∀ l : List α, (l.flatMap f).length = l.length * m
  | [] => by simp
  | a :: l => by rw [List.flatMap_cons, List.length_append, hf, flat_len hf l, List.length_cons, Nat.add_mul]; omega
theorem flat_at {α β : Type} {f : α → List β} {m : Nat} (hf : ∀ a, (f a).length = m) : ∀ {l : List α} {k : Nat} (h : k < l.length) {j : Nat}, j < m → (l.flatMap f)[k * m + j]? = (f l[k])[j]?
  | a :: l, 0, h, j, hj => by
    rw [List.flatMap_cons, List.getElem?_append_left (by rw [hf]; omega)]; simp
  | a :: l, k + 1, h, j, hj => by
    rw [List.flatMap_cons, List.getElem?_append_right (by rw [hf, Nat.add_mul]; omega), hf, show (k + 1) * m + j - m = k * m + j by rw [Nat.add_mul]; omega]
    exact flat_at hf (by simpa using h) hj
theorem idxs_len : ∀ rs : List Rg, (idxs rs).length = prodN (cl rs)
  | [] => rfl
  | r :: rs => by
    show ((memN r).flatMap _).length = cN r * prodN (cl rs)
    rw [flat_len (m := prodN (cl rs)) (fun x => by rw [List.length_map, idxs_len rs]), memN_len]
def ithX : List Rg → Nat → List Int
  | [], _ => []
  | r :: rs, i => atOf (rowOf r) ((i / prodN (cl rs) : Nat) : Int) :: ithX rs (i % prodN (cl rs))
theorem ithX_len : ∀ (rs : List Rg) (i : Nat), (ithX rs i).length = rs.length
  | [], _ => rfl
  | r :: rs, i => by simp [ithX, ithX_len rs]
theorem idxs_get : ∀ (rs : List Rg) (i : Nat), i < prodN (cl rs) → (idxs rs)[i]? = some (ithX rs i)
  | [], i, h => by
    have : i = 0 := by simp [cl, prodN] at h; exact h
    subst this; rfl
  | r :: rs, i, h => by
    have h' : i < cN r * prodN (cl rs) := h
    have hP : 0 < prodN (cl rs) := by
      rcases Nat.eq_zero_or_pos (prodN (cl rs)) with e | e
      · rw [e] at h'; simp at h'
      · exact e
    have hk : i / prodN (cl rs) < (memN r).length := by rw [memN_len]; exact Nat.div_lt_of_lt_mul (by rw [Nat.mul_comm]; exact h')
    have hj := Nat.mod_lt i hP
    have hf := flat_at (f := fun x => (idxs rs).map (x :: ·)) (m := prodN (cl rs)) (fun x => by rw [List.length_map, idxs_len rs]) hk hj
    have ei : i / prodN (cl rs) * prodN (cl rs) + i % prodN (cl rs) = i := by rw [Nat.mul_comm]; exact Nat.div_add_mod i _
    rw [ei] at hf
    show ((memN r).flatMap fun x => (idxs rs).map (x :: ·))[i]? = _
    rw [hf, List.getElem?_map, idxs_get rs _ hj]
    simp only [Option.map_some, ithX, memN, rowL_get]
theorem idxs_eq (rs : List Rg) : idxs rs = (List.range (prodN (cl rs))).map (ithX rs) := by
  refine List.ext_getElem? fun i => ?_
  by_cases h : i < prodN (cl rs)
  · rw [idxs_get rs i h]; simp [h]
  · rw [List.getElem?_eq_none (by rw [idxs_len]; omega), List.getElem?_eq_none (by simp; omega)]
/-- one dimension more, from the last one on -/
theorem ithX_step {rs : List Rg} {k : Nat} (h : k < rs.length) (i : Nat) :
    ithX (rs.drop k) (i % prodN (cl (rs.drop k))) = atOf (rowOf rs[k]) ((i / prodN (cl (rs.drop (k + 1))) % cN rs[k] : Nat) : Int) :: ithX (rs.drop (k + 1)) (i % prodN (cl (rs.drop (k + 1)))) ∧
    i / prodN (cl (rs.drop (k + 1))) / cN rs[k] = i / prodN (cl (rs.drop k)) := by
  have e : rs.drop k = rs[k] :: rs.drop (k + 1) := List.drop_eq_getElem_cons h
  have e2 : prodN (cl (rs.drop k)) = cN rs[k] * prodN (cl (rs.drop (k + 1))) := by rw [e]; rfl
  rw [e2]
  refine ⟨?_, by rw [Nat.div_div_eq_div_mul, Nat.mul_comm]⟩
  rw [e]
  simp only [ithX]
  rw [Nat.mod_mul_left_div_self, Nat.mod_mul_left_mod]
/-! ### where an index stands -/
def placeV : List Rg → List Int → Nat → Nat
  | r :: rs, x :: xs, a => placeV rs xs (a * cN r + (placeI (rowOf r) x).toNat)
  | _, _, a => a
def inB : List Rg → List Int → Bool
  | r :: rs, x :: xs => placeB (rowOf r) x && inB rs xs
  | [], [] => true
  | _, _ => false
theorem place_lt {r : Rg} (hr : vB r = true) {x : Int} (h : placeB (rowOf r) x = true) : (placeI (rowOf r) x).toNat < cN r ∧ atOf (rowOf r) ((placeI (rowOf r) x).toNat : Int) = x := by
  obtain ⟨h1, h2, h3⟩ := at_place h
  refine ⟨by unfold cN; omega, ?_⟩
  rw [show (((placeI (rowOf r) x).toNat : Nat) : Int) = placeI (rowOf r) x by omega]
  exact h3
theorem placeV_ok : ∀ {rs : List Rg} {xs : List Int} (a : Nat), (∀ r ∈ rs, vB r = true) → inB rs xs = true → ∃ v, placeV rs xs a = a * prodN (cl rs) + v ∧ v < prodN (cl rs) ∧ ithX rs v = xs
  | [], [], a, _, _ => ⟨0, by simp [placeV, cl, prodN], by simp [cl, prodN], rfl⟩
  | [], _ :: _, a, _, h => by cases h
  | _ :: _, [], a, _, h => by cases h
  | r :: rs, x :: xs, a, hv, h => by
    simp only [inB, Bool.and_eq_true] at h
    have hr := hv r (by simp)
    obtain ⟨p1, p2⟩ := place_lt hr h.1
    obtain ⟨v, e1, e2, e3⟩ := placeV_ok (a * cN r + (placeI (rowOf r) x).toNat) (fun r hr => hv r (by simp [hr])) h.2
    have hP : 0 < prodN (cl rs) := by omega
    refine ⟨(placeI (rowOf r) x).toNat * prodN (cl rs) + v, ?_, ?_, ?_⟩
    · show placeV rs xs _ = a * (cN r * prodN (cl rs)) + _
      rw [e1, Nat.add_mul, Nat.mul_assoc, Nat.add_assoc]
    · show _ < cN r * prodN (cl rs)
      have := Nat.mul_le_mul_right (prodN (cl rs)) (show (placeI (rowOf r) x).toNat + 1 ≤ cN r by omega)
      rw [Nat.add_mul, Nat.one_mul] at this
      omega
    · have hdiv : ((placeI (rowOf r) x).toNat * prodN (cl rs) + v) / prodN (cl rs) = (placeI (rowOf r) x).toNat := by
        rw [Nat.mul_comm, Nat.mul_add_div hP, Nat.div_eq_of_lt e2, Nat.add_zero]
      have hmod : ((placeI (rowOf r) x).toNat * prodN (cl rs) + v) % prodN (cl rs) = v := by
        rw [Nat.mul_comm, Nat.mul_add_mod, Nat.mod_eq_of_lt e2]
      simp only [ithX, hdiv, hmod, p2, e3]
theorem ithX_in : ∀ {rs : List Rg} {i : Nat}, (∀ r ∈ rs, vB r = true) → i < prodN (cl rs) → inB rs (ithX rs i) = true ∧ ∀ a, placeV rs (ithX rs i) a = a * prodN (cl rs) + i
  | [], i, _, h => by
    have : i = 0 := by simp [cl, prodN] at h; exact h
    subst this; exact ⟨rfl, fun a => by simp [placeV, cl, prodN]⟩
  | r :: rs, i, hv, h => by
    have h' : i < cN r * prodN (cl rs) := h
    have hr := hv r (by simp)
    have hP : 0 < prodN (cl rs) := by
      rcases Nat.eq_zero_or_pos (prodN (cl rs)) with e | e
      · rw [e] at h'; simp at h'
      · exact e
    have hk : i / prodN (cl rs) < cN r := Nat.div_lt_of_lt_mul (by rw [Nat.mul_comm]; exact h')
    have hkn : ((i / prodN (cl rs) : Nat) : Int) < (rowOf r).n := by rw [← cN_int hr]; omega
    obtain ⟨q1, q2⟩ := place_at (vB_ok' hr) (i := ((i / prodN (cl rs) : Nat) : Int)) (Int.natCast_nonneg _) hkn
    obtain ⟨i1, i2⟩ := ithX_in (rs := rs) (i := i % prodN (cl rs)) (fun r hr => hv r (by simp [hr])) (Nat.mod_lt _ hP)
    refine ⟨by simp only [ithX, inB, q1, i1, Bool.and_self], fun a => ?_⟩
    show placeV rs _ (a * cN r + (placeI (rowOf r) _).toNat) = a * (cN r * prodN (cl rs)) + i
    rw [i2, q2, Int.toNat_natCast, Nat.add_mul, Nat.mul_assoc, Nat.add_assoc]
    have := Nat.div_add_mod i (prodN (cl rs))
    rw [Nat.mul_comm] at this
    omega
/-- the place of an index: the only one -/
theorem place_iff {rs : List Rg} {xs : List Int} (hv : ∀ r ∈ rs, vB r = true) : (inB rs xs = true → placeV rs xs 0 < prodN (cl rs) ∧ ithX rs (placeV rs xs 0) = xs) ∧ (∀ i, i < prodN (cl rs) → ithX rs i = xs → inB rs xs = true ∧ placeV rs xs 0 = i) := by
  refine ⟨fun h => ?_, fun i hi he => ?_⟩
  · obtain ⟨v, e1, e2, e3⟩ := placeV_ok 0 hv h
    rw [Nat.zero_mul, Nat.zero_add] at e1
    rw [e1]; exact ⟨e2, e3⟩
  · obtain ⟨h1, h2⟩ := ithX_in hv hi
    rw [he] at h1 h2
    exact ⟨h1, by rw [h2, Nat.zero_mul, Nat.zero_add]⟩
theorem inB_len : ∀ {rs : List Rg} {xs : List Int}, inB rs xs = true → xs.length = rs.length
  | [], [], _ => rfl
  | [], _ :: _, h => by cases h
  | _ :: _, [], h => by cases h
  | r :: rs, x :: xs, h => by
    simp only [inB, Bool.and_eq_true] at h
    simp [inB_len h.2]
end Go.Proofs.Ytifapodobhkdcaa
