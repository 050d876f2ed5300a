/- As many rows of the call's own within a row as a variable says. -/
import Derived.Test.YtifapodobhkdcaaF3
namespace Go.Proofs.Ytifapodobhkdcaa
open Go.RowKit
set_option linter.unusedVariables false
set_option linter.unusedSimpArgs false
set_option maxRecDepth 100000
section
variable {P : Program} {nb nb' sz : Nat} {tmp tmp' : List (Nat × D)} {mem mem' : List (Nat × Option M)}
/-- the same rows by other numbers: what is asked is what getM says -/
theorem Wk.sem (σ : Nat → Nat) (h1 : WkT σ nb' tmp tmp') (h2 : ∀ b m', getM b mem' = some m' → b < nb' ∧ ∃ m, getM (σ b) mem = some m ∧ m'.ty = m.ty ∧ m'.size = m.size ∧ m'.n = m.n ∧ RenL σ nb' m'.xs m.xs)
    (h3 : ∀ b b' m m', getM b mem' = some m → getM b' mem' = some m' → σ b = σ b' → b = b') : Wk ⟨nb, sz, tmp, mem⟩ ⟨nb', sz, tmp', mem'⟩ := fun w0 I0 ρ I a w g => by
  refine ⟨fun b => ρ (σ b), I, ⟨g.later, g.lt, g.base, g.old, g.defers, g.sz, fun t d' ht => ?_, fun b m' hb => ?_, fun b m b' m1 hb hb' k c c' hk hk' => ?_⟩⟩
  · obtain ⟨d, hd, r⟩ := h1.look ht
    exact r _ _ _ _ _ (g.tmp t d hd)
  · obtain ⟨hlt, m, hm, e1, e2, e3, r⟩ := h2 b m' hb
    obtain ⟨_, ⟨us, ho, hx⟩, hn⟩ := (g.mem (σ b) m hm).parts
    refine MemOk.mk' (us := us) hlt (by rw [e1, e2, e3]; exact ho) ⟨by rw [r.1, hx.1], hx.2.1, fun j d' u hd hu => ?_⟩ hn
    obtain ⟨d, hd'⟩ : ∃ d, m.xs[j]? = some d := ⟨_, List.getElem?_eq_getElem (by rw [← r.1]; exact (List.getElem?_eq_some_iff.1 hd).1)⟩
    exact r.2 j d' d hd hd' _ _ _ _ _ (hx.2.2 j d u hd' hu)
  · obtain ⟨_, n1, hn1, _⟩ := h2 b m hb
    obtain ⟨_, n2, hn2, _⟩ := h2 b' m1 hb'
    exact h3 b b' m m1 hb hb' (g.inj (σ b) n1 (σ b') n2 hn1 hn2 k c c' hk hk')
/-- fewer rows -/
theorem Wk.sub (h : ∀ b m, getM b mem' = some m → getM b mem = some m) : Wk ⟨nb, sz, tmp, mem⟩ ⟨nb, sz, tmp, mem'⟩ := fun w0 I0 ρ I a w g =>
  ⟨ρ, I, ⟨g.later, g.lt, g.base, g.old, g.defers, g.sz, g.tmp, fun b m hb => g.mem b m (h b m hb), fun b m b' m' hb hb' => g.inj b m b' m' (h b m hb) (h b' m' hb')⟩⟩
/-- the slots alone -/
theorem Wk.slots (h1 : WkT (fun b => b) nb tmp tmp') : Wk ⟨nb, sz, tmp, mem⟩ ⟨nb, sz, tmp', mem⟩ := fun w0 I0 ρ I a w g =>
  ⟨ρ, I, ⟨g.later, g.lt, g.base, g.old, g.defers, g.sz, fun t d' ht => by
    obtain ⟨d, hd, r⟩ := h1.look ht
    exact r _ _ _ _ _ (g.tmp t d hd), g.mem, g.inj⟩⟩
theorem beq_no {a b : Nat} (h : a ≠ b) : Nat.beq a b = false := by
  cases hb : Nat.beq a b with
  | true => exact absurd (Nat.eq_of_beq_eq_true hb) h
  | false => rfl
theorem blt_y {a b : Nat} (h : a < b) : Nat.blt a b = true := by
  show Nat.ble (a + 1) b = true
  exact Nat.ble_eq_true_of_le h
theorem blt_n {a b : Nat} (h : b ≤ a) : Nat.blt a b = false := by
  cases hb : Nat.blt a b with
  | true =>
    have h1 : Nat.ble (a + 1) b = true := hb
    have := Nat.le_of_ble_eq_true h1
    omega
  | false => rfl
theorem getM_here {b : Nat} {m : Option M} {l : List (Nat × Option M)} : getM b ((b, m) :: l) = m := by
  show cond (Nat.beq b b) m (getM b l) = m
  rw [Nat.beq_refl]; rfl
theorem getM_past {b c : Nat} {m : Option M} {l : List (Nat × Option M)} (h : c ≠ b) : getM b ((c, m) :: l) = getM b l := by
  show cond (Nat.beq c b) m (getM b l) = _
  rw [beq_no h]; rfl
/-! ### n rows, each by its number and length -/
def bagL (e : TypeId) (R : Nat → Nat → List D) (L : Nat → Nat) : Nat → List (Nat × Option M)
  | 0 => []
  | n + 1 => (n + 1, some ⟨e, 1, L n, R (L n) n⟩) :: bagL e R L n
theorem getM_bag {e : TypeId} {R : Nat → Nat → List D} {L : Nat → Nat} : ∀ {n j : Nat}, j < n → getM (j + 1) (bagL e R L n) = some ⟨e, 1, L j, R (L j) j⟩
  | 0, j, h => by omega
  | n + 1, j, h => by
    unfold bagL
    by_cases hj : j = n
    · subst hj; exact getM_here
    · rw [getM_past (by omega)]
      exact getM_bag (by omega)
theorem bag_inv {e : TypeId} {R : Nat → Nat → List D} {L : Nat → Nat} : ∀ {n b : Nat} {m : M}, getM b (bagL e R L n) = some m → ∃ j, j < n ∧ b = j + 1 ∧ m = ⟨e, 1, L j, R (L j) j⟩
  | 0, b, m, h => by cases h
  | n + 1, b, m, h => by
    unfold bagL at h
    by_cases hb : n + 1 = b
    · subst hb
      rw [getM_here] at h
      exact ⟨n, by omega, rfl, (Option.some.inj h).symm⟩
    · rw [getM_past hb] at h
      obtain ⟨j, h1, h2, h3⟩ := bag_inv h
      exact ⟨j, by omega, h2, h3⟩
theorem bag_congr {e : TypeId} {R : Nat → Nat → List D} {L L' : Nat → Nat} : ∀ {n : Nat}, (∀ j, j < n → L j = L' j) → bagL e R L n = bagL e R L' n
  | 0, _ => rfl
  | n + 1, h => by
    unfold bagL
    rw [h n (by omega), bag_congr fun j hj => h j (by omega)]
def outC (L : Nat → Nat) (n : Nat) : List D := (List.range n).map fun j => D.own (j + 1) (L j)
theorem out_congr {L L' : Nat → Nat} {n : Nat} (h : ∀ j, j < n → L j = L' j) : outC L n = outC L' n := by
  unfold outC
  refine List.map_congr_left fun j hj => ?_
  rw [h j (List.mem_range.1 hj)]
theorem out_len (L : Nat → Nat) (n : Nat) : (outC L n).length = n := by simp [outC]
theorem outc_at (L : Nat → Nat) {n k : Nat} (h : k < n) : (outC L n)[k]? = some (.own (k + 1) (L k)) := by simp [outC, h]
theorem outc_at' (L : Nat → Nat) {n k : Nat} (h : k < n) : (outC L n)[(((k : Nat) : Int).toNat) * 1]? = some (.own (k + 1) (L k)) := by
  rw [Int.toNat_natCast, Nat.mul_one]; exact outc_at L h
/-- nil slices in a row of the call's own become rows of the call's own -/
theorem Wk.bagIn {n : Nat} {e0 e : TypeId} {R : Nat → Nat → List D} (h0 : ∀ j, R 0 j = []) : Wk ⟨1, sz, tmp, [(0, some ⟨e0, 1, n, List.replicate n (.val (.slice none 0 0))⟩)]⟩ ⟨n + 1, sz, tmp, (0, some ⟨e0, 1, n, outC (fun _ => 0) n⟩) :: bagL e R (fun _ => 0) n⟩ := by
  have key : ∀ j, j ≤ n → Wk ⟨1, sz, tmp, [(0, some ⟨e0, 1, n, List.replicate n (.val (.slice none 0 0))⟩)]⟩ ⟨j + 1, sz, tmp, (0, some ⟨e0, 1, n, outC (fun _ => 0) j ++ List.replicate (n - j) (.val (.slice none 0 0))⟩) :: bagL e R (fun _ => 0) j⟩ := by
    intro j
    induction j with
    | zero =>
      intro _
      show Wk _ ⟨0 + 1, sz, tmp, (0, some ⟨e0, 1, n, [] ++ List.replicate (n - 0) (.val (.slice none 0 0))⟩) :: []⟩
      exact Wk.refl _
    | succ j ih =>
      intro hj
      refine Wk.trans (ih (by omega)) ?_
      have hx : (outC (fun _ => 0) j ++ List.replicate (n - j) (D.val (.slice none 0 0)))[j]? = some (.val (.slice none 0 0)) := by
        rw [List.getElem?_append_right (by rw [out_len]; exact Nat.le_refl _), out_len, Nat.sub_self, List.getElem?_replicate, if_pos (by omega)]
      refine Wk.trans (Wk.adoptM (m := ⟨e0, 1, n, outC (fun _ => 0) j ++ List.replicate (n - j) (.val (.slice none 0 0))⟩) 0 j e 1 rfl hx) ?_
      refine Wk.sub fun b m h => ?_
      by_cases hb : 0 = b
      · subst hb
        rw [getM_here] at h ⊢
        rw [← h]
        congr 2
        have e1 : List.replicate (n - j) (D.val (.slice none 0 0)) = .val (.slice none 0 0) :: List.replicate (n - (j + 1)) (.val (.slice none 0 0)) := by
          rw [show n - j = n - (j + 1) + 1 by omega, List.replicate_succ]
        show (outC (fun _ => 0) j ++ List.replicate (n - j) (D.val (.slice none 0 0))).set j (.own (j + 1) 0) = _
        rw [e1, List.set_append_right _ _ (by rw [out_len]; exact Nat.le_refl _), out_len, Nat.sub_self, List.set_cons_zero]
        unfold outC
        rw [List.range_succ, List.map_append, List.append_assoc]
        rfl
      · rw [getM_past hb] at h ⊢
        unfold bagL at h
        by_cases hb1 : j + 1 = b
        · subst hb1
          rw [getM_here] at h ⊢
          rw [h0] at h
          exact h
        · rw [getM_past hb1] at h ⊢
          rw [getM_past hb]
          exact h
  have := key n (Nat.le_refl _)
  rwa [Nat.sub_self, List.replicate_zero, List.append_nil] at this
/-- one of the rows has moved to a new number -/
theorem Wk.bagPush {n k c : Nat} {e0 e : TypeId} {R : Nat → Nat → List D} {L L' : Nat → Nat} {ys : List D} {m0 : Option M} (hk : k < n) (hR : ∀ c j, D.idsL (fun _ => false) (R c j) = true) (hL : ∀ j, j ≠ k → L' j = L j) (hc : L' k = c) (hy : R c k = ys)
    (h1 : WkT (fun b => cond (Nat.beq b (k + 1)) (n + 1) b) (n + 1) tmp tmp') :
    Wk ⟨n + 1 + 1, sz, tmp, (0, some ⟨e0, 1, n, (outC L n).set (((k : Nat) : Int).toNat * 1) (.own (n + 1) c)⟩) :: (n + 1, some ⟨e, 1, c, ys⟩) :: (k + 1, none) :: (0, m0) :: bagL e R L n⟩ ⟨n + 1, sz, tmp', (0, some ⟨e0, 1, n, outC L' n⟩) :: bagL e R L' n⟩ := by
  rw [Int.toNat_natCast, Nat.mul_one]
  have hσ : ∀ j, j < n → j ≠ k → (fun b => cond (Nat.beq b (k + 1)) (n + 1) b) (j + 1) = j + 1 := fun j _ hj => by
    show cond (Nat.beq (j + 1) (k + 1)) _ _ = _
    rw [beq_no (by omega)]; rfl
  have hσk : (fun b => cond (Nat.beq b (k + 1)) (n + 1) b) (k + 1) = n + 1 := by
    show cond (Nat.beq (k + 1) (k + 1)) _ _ = _
    rw [Nat.beq_refl]; rfl
  have hσ0 : (fun b => cond (Nat.beq b (k + 1)) (n + 1) b) 0 = 0 := rfl
  generalize (fun b => cond (Nat.beq b (k + 1)) (n + 1) b) = σ at *
  have blt : ∀ j, j < n → Nat.blt (j + 1) (n + 1) = true := fun j hj => blt_y (by omega)
  refine Wk.sem σ h1 (fun b m' h => ?_) (fun b b' m m' h h' e2 => ?_)
  · by_cases hb : 0 = b
    · subst hb
      rw [getM_here] at h
      cases h
      refine ⟨by omega, ⟨e0, 1, n, (outC L n).set k (.own (n + 1) c)⟩, by rw [hσ0]; exact getM_here, rfl, rfl, rfl, by simp [outC], fun j d' d hd' hd => ?_⟩
      have hj : j < n := by have := (List.getElem?_eq_some_iff.1 hd').1; simpa [outC] using this
      simp only at hd' hd
      rw [outc_at L' hj] at hd'
      cases hd'
      rw [List.getElem?_set] at hd
      by_cases hjk : k = j
      · subst hjk
        rw [if_pos rfl, if_pos (by rw [out_len]; exact hk)] at hd
        cases hd
        exact Ren.own (blt k hk) (by rw [hσk, Nat.beq_refl]) hc
      · rw [if_neg hjk, outc_at L hj] at hd
        cases hd
        exact Ren.own (blt j hj) (by rw [hσ j hj (by omega), Nat.beq_refl]) (hL j (by omega))
    · rw [getM_past hb] at h
      obtain ⟨j, hj, rfl, rfl⟩ := bag_inv h
      refine ⟨by omega, ?_⟩
      by_cases hjk : j = k
      · subst hjk
        rw [hσk, getM_past (by omega), getM_here]
        exact ⟨_, rfl, rfl, rfl, hc, RenL.im (by simp only; rw [hc, hy]) (hR _ _)⟩
      · rw [hσ j hj hjk, getM_past (by omega), getM_past (by omega), getM_past (by omega), getM_past (by omega), getM_bag hj]
        exact ⟨_, rfl, rfl, rfl, hL j hjk, RenL.im (by simp only; rw [hL j hjk]) (hR _ _)⟩
  · have hcase : ∀ {b : Nat} {m : M}, getM b ((0, some ⟨e0, 1, n, outC L' n⟩) :: bagL e R L' n) = some m → b = 0 ∨ ∃ j, j < n ∧ b = j + 1 := fun {b m} h => by
      by_cases hb : 0 = b
      · exact .inl hb.symm
      · rw [getM_past hb] at h
        obtain ⟨j, hj, e, _⟩ := bag_inv h
        exact .inr ⟨j, hj, e⟩
    rcases hcase h with rfl | ⟨j, hj, rfl⟩ <;> rcases hcase h' with rfl | ⟨i, hi, rfl⟩
    · rfl
    · rw [hσ0] at e2
      by_cases hik : i = k
      · subst hik; rw [hσk] at e2; omega
      · rw [hσ i hi hik] at e2; omega
    · rw [hσ0] at e2
      by_cases hjk : j = k
      · subst hjk; rw [hσk] at e2; omega
      · rw [hσ j hj hjk] at e2; omega
    · by_cases hik : i = k
      · by_cases hjk : j = k
        · rw [hik, hjk]
        · rw [hik, hσk, hσ j hj hjk] at e2; omega
      · by_cases hjk : j = k
        · rw [hjk, hσk, hσ i hi hik] at e2; omega
        · rw [hσ i hi hik, hσ j hj hjk] at e2; exact e2
/-- all of them are no more written to -/
theorem Wk.bagOut {n : Nat} {e0 e : TypeId} {R : Nat → Nat → List D} {L : Nat → Nat} (hR : ∀ c j, D.idsL (fun _ => false) (R c j) = true) :
    Wk ⟨nb, sz, tmp, (0, some ⟨e0, 1, n, outC L n⟩) :: bagL e R L n⟩ ⟨nb, sz, tmp, [(0, some ⟨e0, 1, n, (List.range n).map fun j => D.row (L j) (R (L j) j)⟩)]⟩ := by
  have key : ∀ i, i ≤ n → Wk ⟨nb, sz, tmp, (0, some ⟨e0, 1, n, outC L n⟩) :: bagL e R L n⟩ ⟨nb, sz, tmp, (0, some ⟨e0, 1, n, (List.range n).map fun j => cond (Nat.blt j (n - i)) (D.own (j + 1) (L j)) (D.row (L j) (R (L j) j))⟩) :: bagL e R L (n - i)⟩ := by
    intro i
    induction i with
    | zero =>
      intro _
      rw [Nat.sub_zero, show (List.range n).map (fun j => cond (Nat.blt j n) (D.own (j + 1) (L j)) (D.row (L j) (R (L j) j))) = outC L n from List.map_congr_left fun j hj => by
        have := List.mem_range.1 hj
        rw [blt_y this]; rfl]
      exact Wk.refl _
    | succ i ih =>
      intro hi
      refine Wk.trans (ih (by omega)) ?_
      obtain ⟨q, hq⟩ : ∃ q, n - (i + 1) = q := ⟨_, rfl⟩
      have hq1 : n - i = q + 1 := by omega
      rw [hq, hq1]
      intro w0 I0 ρ I a w g
      have hm : getM (q + 1) ((0, some ⟨e0, 1, n, (List.range n).map fun j => cond (Nat.blt j (q + 1)) (D.own (j + 1) (L j)) (D.row (L j) (R (L j) j))⟩) :: bagL e R L (q + 1)) = some ⟨e, 1, L q, R (L q) q⟩ := by
        rw [getM_past (by omega)]; exact getM_bag (by omega)
      obtain ⟨I', g', hI, h1, h2⟩ := g.freeze hm (hR _ _)
      have hat : ((List.range n).map fun j => cond (Nat.blt j (q + 1)) (D.own (j + 1) (L j)) (D.row (L j) (R (L j) j)))[q]? = some (.own (q + 1) (L q)) := by
        rw [List.getElem?_map, List.getElem?_range (by omega)]
        simp only [Option.map_some]
        rw [blt_y (by omega)]; rfl
      have g2 := g'.recell (c := 0) (m := ⟨e0, 1, n, (List.range n).map fun j => cond (Nat.blt j (q + 1)) (D.own (j + 1) (L j)) (D.row (L j) (R (L j) j))⟩) (xs' := ((List.range n).map fun j => cond (Nat.blt j (q + 1)) (D.own (j + 1) (L j)) (D.row (L j) (R (L j) j))).set q (.row (L q) (R (L q) q))) (by rw [getM_past (by omega)]; exact getM_here) fun us hx => by
        obtain ⟨u, hu⟩ : ∃ u, us[q]? = some u := ⟨_, List.getElem?_eq_getElem (by rw [← hx.1]; exact (List.getElem?_eq_some_iff.1 hat).1)⟩
        have := hx.set q (h1 u (hx.2.2 q _ u hat hu)) (hx.2.1 u (List.mem_of_getElem? hu))
        have e2 : us.set q u = us := set_same hu
        rw [e2] at this
        exact this
      refine Wk.sub (fun b m h => ?_) w0 I0 ρ I' a w g2
      by_cases hb : 0 = b
      · subst hb
        rw [getM_here] at h ⊢
        rw [← h]
        congr 2
        apply List.ext_getElem?
        intro j
        rw [List.getElem?_set, List.length_map, List.length_range]
        by_cases hjn : j < n
        · rw [List.getElem?_map, List.getElem?_map, List.getElem?_range hjn]
          by_cases hqj : q = j
          · subst hqj
            rw [if_pos rfl, if_pos hjn]
            simp only [Option.map_some]
            rw [blt_n (by omega)]; rfl
          · rw [if_neg hqj]
            simp only [Option.map_some]
            have : Nat.blt j (q + 1) = Nat.blt j q := by
              by_cases hlt : j < q
              · rw [blt_y hlt, blt_y (by omega)]
              · rw [blt_n (by omega), blt_n (by omega)]
            rw [this]
        · rw [List.getElem?_eq_none (by simp; omega), List.getElem?_eq_none (by simp; omega)]
          by_cases hqj : q = j
          · rw [if_pos hqj, if_neg (by omega)]
          · rw [if_neg hqj]
      · rw [getM_past hb] at h ⊢
        obtain ⟨j, hj, rfl, rfl⟩ := bag_inv h
        rw [getM_past (by omega), getM_past hb]
        exact getM_bag (by omega)
  have := key n (Nat.le_refl _)
  rwa [Nat.sub_self, show (List.range n).map (fun j => cond (Nat.blt j 0) (D.own (j + 1) (L j)) (D.row (L j) (R (L j) j))) = (List.range n).map fun j => D.row (L j) (R (L j) j) from List.map_congr_left fun j _ => by rw [blt_n (by omega)]; rfl] at this
end
/-! ### regions that draw their order: what was touched is said outright -/
section
variable {P : Program} {ops : Array Oper} {sz : Nat} {t : Nat} {op : Op} {ty : TypeId} {pos : String} {af : Array Edge} {gd : Option (Nat × Bool)}
variable {nb0 i : Nat} {bs : Nat → List (Nat × D)} {mem0 : List (Nat × Option M)} {l : List Oper} {KA : Acc → Prop}
variable {fs : Fs} {al : List (Nat × Nat × M)} {ch : List Lk} {nd : List (Nat × List Nat)}
theorem v2T {j : Nat} {d : D} {nb' : Nat} {mem' : List (Nat × Option M)} {e1 e2 : Nat × Option M} (h : ∀ extra, MS P ops ⟨some t, op, ty, pos, af, gd⟩ ⟨pickN nb0 al ch, sz, pickT nb0 al ch ++ (depX ⟨some t, op, ty, pos, af, gd⟩ (bs i) fs ++ extra), pickM nb0 mem0 al ch⟩ ⟨nb', sz, (t, d) :: (pickT nb0 al ch ++ (depX ⟨some t, op, ty, pos, af, gd⟩ (bs i) fs ++ extra)), mem'⟩)
    (hm : mem' = e1 :: e2 :: curMem mem0 ch) (hj : i + 1 = j)
    (k : Walk P ops sz bs nb0 mem0 l j ⟨(i, (t, d) :: pickT nb0 al ch) :: fs, al, ⟨i, nb', mem', [e1.1, e2.1]⟩ :: ch, nd⟩ KA) : Walk P ops sz bs nb0 mem0 (⟨some t, op, ty, pos, af, gd⟩ :: l) i ⟨fs, al, ch, nd⟩ KA := by
  subst hj
  exact ⟨⟨_, .inr (.inr ⟨[(t, d)], nb', mem', _, rfl, fun x hx => by simp at hx; subst hx; rfl, fun b hb => by
    simp only [List.mem_cons, List.not_mem_nil, or_false, not_or] at hb
    rw [hm]
    rw [show e1 :: e2 :: curMem mem0 ch = (e1.1, e1.2) :: (e2.1, e2.2) :: curMem mem0 ch from rfl, getM_past (Ne.symm hb.1), getM_past (Ne.symm hb.2)], fun extra => (h extra).h _ _ (T_nil rfl)⟩), k.h⟩⟩
theorem v1N {j : Nat} {nb' : Nat} {mem' : List (Nat × Option M)} {e1 : Nat × Option M} (h : ∀ extra, MS P ops ⟨none, op, ty, pos, af, gd⟩ ⟨pickN nb0 al ch, sz, pickT nb0 al ch ++ (depX ⟨none, op, ty, pos, af, gd⟩ (bs i) fs ++ extra), pickM nb0 mem0 al ch⟩ ⟨nb', sz, pickT nb0 al ch ++ (depX ⟨none, op, ty, pos, af, gd⟩ (bs i) fs ++ extra), mem'⟩)
    (hm : mem' = e1 :: curMem mem0 ch) (hj : i + 1 = j)
    (k : Walk P ops sz bs nb0 mem0 l j ⟨(i, pickT nb0 al ch) :: fs, al, ⟨i, nb', mem', [e1.1]⟩ :: ch, nd⟩ KA) : Walk P ops sz bs nb0 mem0 (⟨none, op, ty, pos, af, gd⟩ :: l) i ⟨fs, al, ch, nd⟩ KA := by
  subst hj
  exact ⟨⟨_, .inr (.inr ⟨[], nb', mem', _, rfl, fun x hx => by simp at hx, fun b hb => by
    simp only [List.mem_cons, List.not_mem_nil, or_false] at hb
    rw [hm]
    rw [show e1 :: curMem mem0 ch = (e1.1, e1.2) :: curMem mem0 ch from rfl, getM_past (Ne.symm hb)], fun extra => (h extra).h _ _ (T_nil rfl)⟩), k.h⟩⟩
end
end Go.Proofs.Ytifapodobhkdcaa
