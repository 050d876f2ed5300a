/- Plain laws of distributions: how many each place owns, where an index stands (no program in sight). -/
import Derived.Test.YtifapodobhkdcaaDs3
import Derived.Test.YtifapodobhkdcaaF3
namespace Go.Proofs.Ytifapodobhkdcaa
set_option linter.unusedVariables false
/-! ### rows that have a range -/
theorem ofRow_n (l : List Int) : (ofRow l).n = l.length := rfl
theorem good_last {l : List Int} (h : ofGood l) (h0 : l ≠ []) : lastOf (ofRow l) = l[l.length - 1]'(by have := List.length_pos_iff.2 h0; omega) := by
  have hl := List.length_pos_iff.2 h0
  have := (h.2.2.2 (l.length - 1) (by omega)).2
  rw [this]
  unfold lastOf atOf ofRow
  simp only
  rw [show ((l.length - 1 : Nat) : Int) = (l.length : Int) - 1 by omega]
theorem good_canon {l : List Int} (h : ofGood l) (h0 : l ≠ []) : vB (canonOf (ofRow l)) = true := by
  have hl := List.length_pos_iff.2 h0
  have e := good_last h h0
  obtain ⟨h1, h2, h3, h4⟩ := h
  have f1 := (h4 0 hl).1
  have ef : (ofRow l).f = l[0] := ofF_1 hl
  have l1 := (h4 (l.length - 1) (by omega)).1
  rw [← e] at l1
  rw [← ef] at f1
  refine vB_true ?_
  have es : (ofRow l).s = ofS l := rfl
  unfold canonOf
  split
  · decide
  split
  · exact ⟨by simp only; omega, by simp only; omega, by simp only; omega, by simp only; omega, show (-1000 : Int) ≤ 1 by decide, show (1 : Int) ≤ 1000 by decide, show (1 : Int) ≠ 0 by decide⟩
  · unfold Rg.ok
    simp only
    rw [es]
    refine ⟨?_, ?_, ?_, ?_, h1, h2, h3⟩ <;> split <;> omega
theorem canon_norm (x : Rw) : canonOf (normOf x) = canonOf x := by
  unfold normOf
  split
  · rename_i h; rw [canonOf_0 h]; rfl
  split
  · rename_i h; rw [canonOf_1 h]; rfl
  · rfl
theorem good_row {l : List Int} (h : ofGood l) : rowOf (canonOf (ofRow l)) = normOf (ofRow l) := row_norm (by rw [ofRow_n]; omega) h.2.2.1
theorem norm_n' {x : Rw} : (normOf x).n = x.n := by
  unfold normOf
  split
  · rename_i h; exact h.symm
  split
  · rename_i h; exact h.symm
  · rfl
theorem good_c {l : List Int} (h : ofGood l) : cN (canonOf (ofRow l)) = l.length := by unfold cN; rw [good_row h, norm_n', ofRow_n]; rfl
theorem good_memN {l : List Int} (h : ofGood l) : memN (canonOf (ofRow l)) = l := by
  unfold memN
  rw [good_c h, good_row h]
  have e := rowL_norm (x := ofRow l) (by rw [ofRow_n]; omega)
  have e2 : (ofRow l).n.toNat = l.length := by rw [ofRow_n]; rfl
  rw [e2] at e
  rw [e]
  refine List.ext_getElem (rowL_len _ _) fun j h1 h2 => ?_
  rw [rowL_get]
  exact ((h.2.2.2 j h2).2).symm
theorem good_again {l : List Int} (h : ofGood l) : canonOf (rowOf (canonOf (ofRow l))) = canonOf (ofRow l) := by rw [good_row h, canon_norm]
/-- a row and one more -/
theorem atOf_app {l : List Int} (h : 2 ≤ l.length) (y : Int) : ofRow (l ++ [y]) = ⟨(ofRow l).f, (ofRow l).s, ((l.length + 1 : Nat) : Int)⟩ := by
  unfold ofRow
  rw [ofF_1 (by simp), ofF_1 (by omega), ofS_2 (by simp; omega), ofS_2 (by omega)]
  rw [List.getElem_append_left (by omega), List.getElem_append_left (by omega)]
  simp
theorem good_sub {l : List Int} {y : Int} (h0 : l ≠ []) (h : ofGood (l ++ [y])) : ofGood l := by
  have hl := List.length_pos_iff.2 h0
  obtain ⟨h1, h2, h3, h4⟩ := h
  by_cases h5 : 2 ≤ l.length
  · have e := atOf_app h5 y
    have es : ofS (l ++ [y]) = ofS l := congrArg Rw.s e
    rw [es] at h1 h2 h3
    refine ⟨h1, h2, h3, fun j hj => ?_⟩
    have := h4 j (by simp; omega)
    rw [List.getElem_append_left hj, e] at this
    exact this
  · have hl1 : l.length = 1 := by omega
    refine ⟨by rw [ofS_1 (by omega)]; decide, by rw [ofS_1 (by omega)]; decide, by rw [ofS_1 (by omega)]; decide, fun j hj => ?_⟩
    have hj0 : j = 0 := by omega
    subst hj0
    have := (h4 0 (by simp)).1
    rw [List.getElem_append_left hj] at this
    refine ⟨this, ?_⟩
    have ef : (ofRow l).f = l[0] := ofF_1 hl
    unfold atOf
    rw [ef]; simp
theorem good_one {y : Int} (h : -1000000 ≤ y ∧ y ≤ 1000000) : ofGood [y] := by
  refine ⟨show (-1000 : Int) ≤ 1 by decide, show (1 : Int) ≤ 1000 by decide, show (1 : Int) ≠ 0 by decide, fun j hj => ?_⟩
  have hj0 : j = 0 := by simp at hj; omega
  subst hj0
  refine ⟨h, ?_⟩
  show y = y + 0 * _
  simp
/-- one more fits a row of two and more exactly by its step -/
theorem good_more {l : List Int} (h2 : 2 ≤ l.length) (hg : ofGood l) {y : Int} (hy : -1000000 ≤ y ∧ y ≤ 1000000) : ofGood (l ++ [y]) ↔ y - l[l.length - 1] = l[l.length - 1] - l[l.length - 2] := by
  have e := atOf_app h2 y
  have es : ofS (l ++ [y]) = ofS l := congrArg Rw.s e
  have a1 := (hg.2.2.2 (l.length - 1) (by omega)).2
  have a2 := (hg.2.2.2 (l.length - 2) (by omega)).2
  have es2 : (ofRow l).s = ofS l := rfl
  have d1 : l[l.length - 1] - l[l.length - 2] = ofS l := by
    rw [a1, a2]; unfold atOf; rw [es2]
    rw [show ((l.length - 1 : Nat) : Int) = (l.length - 2 : Nat) + 1 by omega, Int.add_mul]; omega
  have d2 : atOf (ofRow (l ++ [y])) l.length = l[l.length - 1] + ofS l := by
    rw [e, a1]; unfold atOf; simp only; rw [es2]
    rw [show ((l.length : Nat) : Int) = (l.length - 1 : Nat) + 1 by omega, Int.add_mul]; omega
  constructor
  · intro h
    have := (h.2.2.2 l.length (by simp)).2
    rw [d2] at this
    simp at this
    rw [d1]; omega
  · intro h
    refine ⟨by rw [es]; exact hg.1, by rw [es]; exact hg.2.1, by rw [es]; exact hg.2.2.1, fun j hj => ?_⟩
    by_cases hlt : j < l.length
    · have := hg.2.2.2 j hlt
      rw [List.getElem_append_left hlt, e]
      exact this
    · have hje : j = l.length := by simp at hj; omega
      subst hje
      rw [d2]
      simp
      exact ⟨hy, by omega⟩
theorem good_two {x y : Int} (hx : -1000000 ≤ x ∧ x ≤ 1000000) (hy : -1000000 ≤ y ∧ y ≤ 1000000) (hne : x ≠ y) : ofGood [x, y] ↔ -1000 ≤ y - x ∧ y - x ≤ 1000 := by
  have es : ofS [x, y] = y - x := rfl
  constructor
  · intro h; exact ⟨by rw [← es]; exact h.1, by rw [← es]; exact h.2.1⟩
  · intro h
    refine ⟨by rw [es]; omega, by rw [es]; omega, by rw [es]; omega, fun j hj => ?_⟩
    have hj2 : j = 0 ∨ j = 1 := by simp at hj; omega
    rcases hj2 with rfl | rfl
    · refine ⟨hx, ?_⟩
      show x = x + 0 * _
      simp
    · refine ⟨hy, ?_⟩
      show y = x + 1 * (y - x)
      omega
/-! ### members -/
theorem gM_len (ml : List Int) (l : List Nat) : (gM ml l).length = l.length := by simp [gM]
theorem gM_app (ml : List Int) (l : List Nat) (x : Nat) : gM ml (l ++ [x]) = gM ml l ++ [ml.getD x 0] := by simp [gM]
/-- members that are near and all different -/
structure MemOkL (ml : List Int) : Prop where
  near : ∀ j (h : j < ml.length), -1000000 ≤ ml[j] ∧ ml[j] ≤ 1000000
  inj : ∀ i j (hi : i < ml.length) (hj : j < ml.length), ml[i] = ml[j] → i = j
  step : ∃ f s : Int, -1000 ≤ s ∧ s ≤ 1000 ∧ s ≠ 0 ∧ ∀ j (h : j < ml.length), ml[j] = f + j * s
def GoodI (ml : List Int) (p : List Nat) : Prop := p ≠ [] ∧ (∀ j ∈ p, j < ml.length) ∧ ofGood (gM ml p)
instance (ml : List Int) (p : List Nat) : Decidable (ofGood (gM ml p)) := inferInstance
/-- whether a list of members and one more has a range -/
def tgR (ml : List Int) (p : List Nat) (x : Nat) : Bool := decide (ofGood (gM ml (p ++ [x])))
theorem chain_good {ml : List Int} (hm : MemOkL ml) {p : List Nat} {x : Nat} (hp : GoodI ml p) (hx : x < ml.length) (hne : x ∉ p) : chainB ml p x = tgR ml p x := by
  obtain ⟨p0, p1, p2⟩ := hp
  have hl := List.length_pos_iff.2 p0
  have hgl := gM_len ml p
  have gx := getD_at hx (0 : Int)
  have a0 : p.length - 1 < p.length := by omega
  have a1 := p1 _ (List.getElem_mem a0)
  have near := hm.near x hx
  have g1 : (gM ml p)[(gM ml p).length - 1]'(by omega) = ml[p[p.length - 1]] := by
    simp only [hgl]
    unfold gM
    rw [List.getElem_map, getD_at a1]
  have key : ofGood (gM ml (p ++ [x])) ↔ (if 1 < p.length then ml.getD x 0 - ml.getD (p.getD (p.length - 1) 0) 0 = ml.getD (p.getD (p.length - 1) 0) 0 - ml.getD (p.getD (p.length - 2) 0) 0 else -1000 ≤ ml.getD x 0 - ml.getD (p.getD (p.length - 1) 0) 0 ∧ ml.getD x 0 - ml.getD (p.getD (p.length - 1) 0) 0 ≤ 1000) := by
    rw [gM_app, gx, getD_at a0, getD_at a1]
    by_cases h1 : 1 < p.length
    · rw [if_pos h1]
      have b0 : p.length - 2 < p.length := by omega
      have b1 := p1 _ (List.getElem_mem b0)
      rw [getD_at b0, getD_at b1]
      have g2 : (gM ml p)[(gM ml p).length - 2]'(by omega) = ml[p[p.length - 2]] := by
        simp only [hgl]
        unfold gM
        rw [List.getElem_map, getD_at b1]
      have k := good_more (by omega) p2 near
      rwa [g1, g2] at k
    · rw [if_neg h1]
      obtain ⟨q, rfl⟩ : ∃ q, p = [q] := by
        match p, hl, h1 with
        | [q], _, _ => exact ⟨q, rfl⟩
        | a :: b :: r, _, h => exact absurd (show 1 < (a :: b :: r).length by simp) h
      have hq : q < ml.length := p1 q (by simp)
      have e : gM ml [q] = [ml[q]] := by unfold gM; rw [List.map_cons, getD_at hq]; rfl
      rw [e]
      exact good_two (hm.near q hq) near (fun h => hne (by rw [hm.inj q x hq hx h]; simp))
  unfold chainB tgR
  by_cases h1 : 1 < p.length
  · rw [if_pos h1] at key ⊢; exact decide_eq_decide.2 key.symm
  · rw [if_neg h1] at key ⊢; exact decide_eq_decide.2 key.symm
/-! ### numbers one after the other -/
def consec (a m : Nat) : List Nat := (List.range m).map fun j => a + j
theorem consec_good {ml : List Int} (hm : MemOkL ml) {a m : Nat} (h0 : 0 < m) (hl : a + m ≤ ml.length) : ofGood (gM ml (consec a m)) := by
  obtain ⟨f, s, s1, s2, s3, hs⟩ := hm.step
  have hlen : (gM ml (consec a m)).length = m := by simp [gM, consec]
  have hget : ∀ j (h : j < (gM ml (consec a m)).length), (gM ml (consec a m))[j] = f + ((a + j : Nat) : Int) * s := fun j h => by
    have hj : a + j < ml.length := by omega
    have e : (gM ml (consec a m))[j] = ml.getD (a + j) 0 := by simp [gM, consec]
    rw [e, getD_at hj, hs _ hj]
  have near : ∀ j (h : j < (gM ml (consec a m)).length), -1000000 ≤ (gM ml (consec a m))[j] ∧ (gM ml (consec a m))[j] ≤ 1000000 := fun j h => by
    have hj : a + j < ml.length := by omega
    have := hm.near (a + j) hj
    rw [hs _ hj] at this
    rw [hget j h]; exact this
  generalize gM ml (consec a m) = l at *
  by_cases h1 : l.length ≤ 1
  · have e1 : l.length = 1 := by omega
    obtain ⟨y, rfl⟩ : ∃ y, l = [y] := by
      match l, e1 with
      | [y], _ => exact ⟨y, rfl⟩
    exact good_one (near 0 (by simp))
  · have es : ofS l = s := by
      rw [ofS_2 (by omega), hget 1 (by omega), hget 0 (by omega)]
      rw [show ((a + 1 : Nat) : Int) = ((a + 0 : Nat) : Int) + 1 by omega, Int.add_mul]; omega
    refine ⟨by rw [es]; exact s1, by rw [es]; exact s2, by rw [es]; exact s3, fun j hj => ⟨near j hj, ?_⟩⟩
    rw [hget j hj]
    unfold atOf
    have ef : (ofRow l).f = f + ((a + 0 : Nat) : Int) * s := by rw [← hget 0 (by omega)]; exact ofF_1 (by omega)
    have es2 : (ofRow l).s = s := es
    rw [ef, es2]
    rw [show ((a + j : Nat) : Int) = ((a + 0 : Nat) : Int) + (j : Int) by omega, Int.add_mul]; omega
theorem consec_snoc (a m : Nat) : consec a (m + 1) = consec a m ++ [a + m] := by unfold consec; rw [List.range_succ, List.map_append]; rfl
theorem consec_last {a m : Nat} (h : 0 < m) : (consec a m).getD ((consec a m).length - 1) 0 = a + (m - 1) := by
  have h1 : (consec a m).length = m := by simp [consec]
  rw [h1, getD_at (by rw [h1]; omega)]
  simp [consec]
/-! ### the first ones of a list are its filter -/
/-- two that stand beside one another among those of a filter: none between them passes -/
theorem filter_adj {pr : Nat → Bool} {a b : List Nat} {u v : Nat} : ∀ {R : Nat}, (List.range R).filter pr = a ++ u :: v :: b → u < v ∧ v < R ∧ pr u = true ∧ pr v = true ∧ ∀ w, u < w → w < v → pr w = false := by
  intro R h
  have hs : ((List.range R).filter pr).Pairwise (· < ·) := (List.pairwise_lt_range).filter _
  have hm : ∀ w, w ∈ a ++ u :: v :: b ↔ w < R ∧ pr w = true := fun w => by rw [← h]; simp
  rw [h] at hs
  rw [List.pairwise_append] at hs
  obtain ⟨_, h2, h3⟩ := hs
  rw [List.pairwise_cons] at h2
  obtain ⟨h4, h5⟩ := h2
  rw [List.pairwise_cons] at h5
  have hu := (hm u).1 (by simp)
  have hv := (hm v).1 (by simp)
  refine ⟨h4 v (by simp), hv.1, hu.2, hv.2, fun w w1 w2 => ?_⟩
  cases hp : pr w with
  | false => rfl
  | true =>
    exfalso
    have hw := (hm w).2 ⟨by omega, hp⟩
    rw [List.mem_append, List.mem_cons, List.mem_cons] at hw
    rcases hw with hw | hw | hw | hw
    · have := h3 w hw u (by simp); omega
    · omega
    · omega
    · have := h5.1 w hw; omega
theorem mem_last {p : List Nat} (h : p ≠ []) : ∃ q, p = q ++ [p.getD (p.length - 1) 0] := by
  have hl := List.length_pos_iff.2 h
  refine ⟨p.dropLast, ?_⟩
  rw [getD_at (by omega)]
  have := List.dropLast_concat_getLast h
  rw [List.getLast_eq_getElem] at this
  exact this.symm
/-- the longest run in front -/
def cutRun {α : Type} (tg : List α → α → Bool) : List α → List α → List α × List α
  | g, [] => (g, [])
  | g, y :: r => if tg g y = true then cutRun tg (g ++ [y]) r else (g, y :: r)
def runsN {α : Type} (tg : List α → α → Bool) : Nat → List α → List (List α)
  | 0, _ => []
  | _ + 1, [] => []
  | m + 1, x :: r => (cutRun tg [x] r).1 :: runsN tg m (cutRun tg [x] r).2
theorem cutRun_ok {α : Type} (tg : List α → α → Bool) : ∀ (r g : List α), g ≠ [] → (∀ j (h : j < g.length), 1 ≤ j → tg (g.take j) g[j] = true) →
    g ++ r = (cutRun tg g r).1 ++ (cutRun tg g r).2 ∧ (cutRun tg g r).1 ≠ [] ∧ (∀ j (h : j < (cutRun tg g r).1.length), 1 ≤ j → tg ((cutRun tg g r).1.take j) (cutRun tg g r).1[j] = true) ∧ (∀ x, (cutRun tg g r).2.head? = some x → tg (cutRun tg g r).1 x = false) ∧ (cutRun tg g r).2.length ≤ r.length
  | [], g, h0, h1 => ⟨rfl, h0, h1, fun x hx => by simp [cutRun] at hx, Nat.le_refl _⟩
  | y :: r, g, h0, h1 => by
    unfold cutRun
    by_cases ht : tg g y = true
    · simp only [ht, if_true]
      obtain ⟨a, b, c, d, e⟩ := cutRun_ok tg r (g ++ [y]) (by simp) (fun j hj hj1 => by
        by_cases hlt : j < g.length
        · rw [List.take_append_of_le_length (by omega), List.getElem_append_left hlt]; exact h1 j hlt hj1
        · have : j = g.length := by simp at hj; omega
          subst this
          rw [List.take_append_of_le_length (Nat.le_refl _), List.take_length]
          simpa using ht)
      exact ⟨by rw [← a]; simp, b, c, d, by simp; omega⟩
    · simp only [ht]
      exact ⟨rfl, h0, h1, fun x hx => by simp at hx; subst hx; simpa using ht, Nat.le_refl _⟩
theorem runsN_ok {α : Type} (tg : List α → α → Bool) : ∀ (m : Nat) (l : List α), l.length ≤ m → Runs tg l (runsN tg m l)
  | 0, l, h => by have : l = [] := List.eq_nil_of_length_eq_zero (by omega); subst this; exact .nil
  | m + 1, [], _ => .nil
  | m + 1, x :: r, h => by
    obtain ⟨a, b, c, d, e⟩ := cutRun_ok tg r [x] (by simp) (fun j hj hj1 => by simp at hj; omega)
    have e2 : x :: r = (cutRun tg [x] r).1 ++ (cutRun tg [x] r).2 := a
    have k := runsN_ok tg m (cutRun tg [x] r).2 (by simp at h; omega)
    have q := Runs.cons b c d k
    rw [← e2] at q
    exact q
def tgOf (k : Kd) (n : Nat) (ml : List Int) : List Nat → Nat → Bool := if k = .blocks then blockB n else chainB ml
theorem ow_lt {k : Kd} {n o R p : Nat} : ∀ j ∈ ow k n o R p, j < R := fun j h => (ow_mem.1 h).1
theorem mem_few {c0 : Rg} {ct : List Rg} (hs : SpOk c0 ct) : (memN c0).length ≤ 4096 := by rw [memN_len]; exact hs.few
theorem mem_bd {c0 : Rg} {ct : List Rg} (hs : SpOk c0 ct) : ∀ j (h : j < (memN c0).length), -1000000 ≤ (memN c0)[j] ∧ (memN c0)[j] ≤ 1000000 := fun j h => by
  have hv := (domB_iff.1 hs.dom).2.1 c0 (by simp)
  have hl := memN_len c0
  have hi := cN_int hv
  have e : (memN c0)[j] = atOf (rowOf c0) (j : Int) := rowL_get h
  rw [e]
  exact at_near (vB_ok' hv) (by omega) (by omega)
theorem mem_ok {c0 : Rg} {ct : List Rg} (hs : SpOk c0 ct) : MemOkL (memN c0) := by
  have hv := vB_ok' ((domB_iff.1 hs.dom).2.1 c0 (by simp))
  obtain ⟨_, _, _, _, v1, v2, v3⟩ := hv
  have hst : ∀ j (h : j < (memN c0).length), (memN c0)[j] = (rowOf c0).f + j * c0.st := fun j h => rowL_get h
  refine ⟨mem_bd hs, fun i j hi hj e => ?_, _, _, v1, v2, v3, hst⟩
  rw [hst i hi, hst j hj] at e
  have e2 : ((i : Int) - j) * c0.st = 0 := by rw [Int.sub_mul]; omega
  rcases Int.mul_eq_zero.1 e2 with h | h
  · omega
  · exact absurd h v3
/-- the test of the runs -/
def tgS (k : Kd) (n : Nat) (ml : List Int) : List Nat → Nat → Bool := if k = .blocks then fun p x => besideB p x && blockB n p x else tgR ml
/-- the runs of a place's members -/
def runsOf (k : Kd) (n o : Nat) (c0 : Rg) (p : Nat) : List (List Nat) := runsN (tgS k n (memN c0)) (ow k n o (cN c0) p).length (ow k n o (cN c0) p)
theorem ow_nodup (k : Kd) (n o R p : Nat) : (ow k n o R p).Nodup := (List.nodup_range).filter _
def GoodR (ml : List Int) (p : List Nat) : Prop := (∀ j ∈ p, j < ml.length) → ofGood (gM ml p)
theorem goodR_one {ml : List Int} (hm : MemOkL ml) (x : Nat) : GoodR ml [x] := fun h => by
  have hx : x < ml.length := h x (by simp)
  have e : gM ml [x] = [ml[x]] := by unfold gM; rw [List.map_cons, getD_at hx]; rfl
  rw [e]; exact good_one (hm.near x hx)
theorem runs_chain {ml : List Int} (hm : MemOkL ml) {l : List Nat} (hl : ∀ j ∈ l, j < ml.length) (hn : l.Nodup) {gs : List (List Nat)} (h : Runs (tgR ml) l gs) : Runs (chainB ml) l gs ∧ ∀ g ∈ gs, GoodR ml g := by
  refine Runs.other (GoodR ml) (goodR_one hm) (fun p x _ ht _ => of_decide_eq_true ht) h fun p x hp hG hl' => ?_
  obtain ⟨a, b, rfl⟩ := hl'
  have hpl : ∀ j ∈ p, j < ml.length := fun j hj => hl j (by simp [hj])
  have hnx : x ∉ p := fun hx => by
    rw [List.append_assoc] at hn
    have h2 := (List.nodup_append.1 hn).2.1
    have h3 := (List.nodup_append.1 h2).2.2
    exact h3 x hx x (by simp) rfl
  exact (chain_good hm ⟨hp, hpl, hG hpl⟩ (hl x (by simp)) hnx).symm
def ConsR (n : Nat) (p : List Nat) : Prop := ∃ a m, 0 < m ∧ p = consec a m ∧ ∀ j, j < m → (a + j) / n = a / n
theorem cons_block {n a m x : Nat} (h : 0 < m) : blockB n (consec a m) x = decide (a / n = x / n) := by
  unfold blockB
  have : (consec a m).getD 0 0 = a := by simp [consec, h]
  rw [this]
theorem runs_block {n o R p : Nat} (hn : 0 < n) {gs : List (List Nat)} (h : Runs (fun q x => besideB q x && blockB n q x) (ow .blocks n o R p) gs) : Runs (blockB n) (ow .blocks n o R p) gs ∧ ∀ g ∈ gs, ConsR n g := by
  refine Runs.other (ConsR n) (fun x => ⟨x, 1, by omega, by simp [consec], fun j hj => by rw [show j = 0 by omega, Nat.add_zero]⟩) (fun q x hG ht => ?_) h fun q x hq hG hl => ?_
  · obtain ⟨a, m, hm, rfl, hd⟩ := hG
    rw [Bool.and_eq_true] at ht
    obtain ⟨t1, t2⟩ := ht
    have e : x = a + m := by
      have := of_decide_eq_true t1
      rw [consec_last hm] at this; omega
    rw [cons_block hm] at t2
    have t3 := of_decide_eq_true t2
    subst e
    refine ⟨a, m + 1, by omega, (consec_snoc a m).symm, fun j hj => ?_⟩
    by_cases hlt : j < m
    · exact hd j hlt
    · have : j = m := by omega
      subst this; exact t3.symm
  · obtain ⟨a, m, hm, rfl, hd⟩ := hG
    obtain ⟨u, v, hl⟩ := hl
    rw [cons_block hm]
    cases hb : decide (a / n = x / n) with
    | false => rw [Bool.and_false]
    | true =>
      rw [Bool.and_true]
      have hb := of_decide_eq_true hb
      refine decide_eq_true ?_
      rw [consec_last hm]
      obtain ⟨m', rfl⟩ : ∃ m', m = m' + 1 := ⟨m - 1, by omega⟩
      rw [consec_snoc] at hl
      have hl2 : (List.range R).filter (fun i => decide (own .blocks n o R i = p)) = (u ++ consec a m') ++ (a + m') :: x :: v := by
        have : ow .blocks n o R p = _ := hl
        unfold ow at this
        rw [this]; simp
      obtain ⟨f1, f2, f3, f4, f5⟩ := filter_adj hl2
      have f3 := of_decide_eq_true f3
      show x = a + (m' + 1 - 1) + 1
      apply Classical.byContradiction
      intro hc
      have hw := f5 (a + m' + 1) (by omega) (by omega)
      have hd1 := hd m' (by omega)
      have hle := Nat.div_le_div_right (c := n) (show a + m' ≤ a + m' + 1 by omega)
      have hle2 := Nat.div_le_div_right (c := n) (show a + m' + 1 ≤ x by omega)
      have e : (a + m' + 1) / n = (a + m') / n := by omega
      have : own .blocks n o R (a + m' + 1) = p := by rw [← f3]; show (a + m' + 1) / n % o = (a + m') / n % o; rw [e]
      rw [this] at hw
      simp at hw
theorem consR_good {ml : List Int} (hm : MemOkL ml) {n : Nat} {g : List Nat} (h : ConsR n g) : GoodR ml g := fun hl => by
  obtain ⟨a, m, h0, rfl, _⟩ := h
  have := hl (a + (m - 1)) (List.mem_map.2 ⟨m - 1, by simp; omega, rfl⟩)
  exact consec_good hm h0 (by omega)
theorem runsOf_S (k : Kd) (n o : Nat) (c0 : Rg) (p : Nat) : Runs (tgS k n (memN c0)) (ow k n o (cN c0) p) (runsOf k n o c0 p) := runsN_ok _ _ _ (Nat.le_refl _)
theorem ow_ltm {k : Kd} {n o p : Nat} {c0 : Rg} : ∀ j ∈ ow k n o (cN c0) p, j < (memN c0).length := fun j h => by rw [memN_len]; exact ow_lt j h
theorem runsOf_ok {k : Kd} {n o : Nat} (hk : OkDs k n o) {c0 : Rg} {ct : List Rg} (hs : SpOk c0 ct) (p : Nat) : Runs (tgOf k n (memN c0)) (ow k n o (cN c0) p) (runsOf k n o c0 p) ∧ ∀ g ∈ runsOf k n o c0 p, GoodR (memN c0) g := by
  have h := runsOf_S k n o c0 p
  generalize runsOf k n o c0 p = gs at *
  unfold tgS at h
  unfold tgOf
  by_cases hb : k = .blocks
  · subst hb
    rw [if_pos rfl] at h ⊢
    obtain ⟨h1, h2⟩ := runs_block (hk.n1 rfl) h
    exact ⟨h1, fun g hg => consR_good (mem_ok hs) (h2 g hg)⟩
  · rw [if_neg hb] at h ⊢
    exact runs_chain (mem_ok hs) ow_ltm (ow_nodup _ _ _ _ _) h
theorem runs_mem {α : Type} {tg : List α → α → Bool} {l : List α} {gs : List (List α)} (h : Runs tg l gs) : ∀ g ∈ gs, g ≠ [] ∧ ∀ x ∈ g, x ∈ l := fun g hg => by
  have hf := h.flat
  obtain ⟨k, hk, rfl⟩ := List.mem_iff_getElem.1 hg
  exact ⟨List.length_pos_iff.1 (h.get k hk).1, fun x hx => by rw [← hf]; exact List.mem_flatten.2 ⟨_, hg, hx⟩⟩
theorem runs_len {α : Type} {tg : List α → α → Bool} {l : List α} {gs : List (List α)} (h : Runs tg l gs) : ∀ g ∈ gs, g.length ≤ l.length := fun g hg => by
  have hf := h.flat
  obtain ⟨k, hk, rfl⟩ := List.mem_iff_getElem.1 hg
  have := cut_le hk
  rw [hf] at this; omega
/-! ### the domain of a run -/
theorem can_tail {c0 : Rg} {ct : List Rg} (hs : SpOk c0 ct) (h : cN c0 ≠ 0) : (∀ c ∈ ct, canonOf (rowOf c) = c) ∧ 1 ≤ prodN (cl ct) := by
  have hp := hs.pos h
  have hz : prodN (cl (c0 :: ct)) ≠ 0 := by
    show cN c0 * prodN (cl ct) ≠ 0
    exact Nat.mul_ne_zero h (by omega)
  have e : canonRs (c0 :: ct) = (c0 :: ct).map fun r => canonOf (rowOf r) := by unfold canonRs; simp only [hz, if_false]
  rw [hs.can] at e
  simp only [List.map_cons, List.cons.injEq] at e
  refine ⟨fun c hc => ?_, hp⟩
  have e2 : ct.map (fun r => canonOf (rowOf r)) = ct.map id := by rw [← e.2, List.map_id]
  exact List.map_inj_left.1 e2 c hc
theorem partC_eq {c0 : Rg} {ct : List Rg} (hs : SpOk c0 ct) {g : List Nat} (h0 : g ≠ []) (hl : g.length ≤ cN c0) (hg : ofGood (gM (memN c0) g)) :
    partC ct (memN c0) g = canonOf (ofRow (gM (memN c0) g)) :: ct ∧ domB (partC ct (memN c0) g) = true ∧ idxs (partC ct (memN c0) g) = (gM (memN c0) g).flatMap fun x => (idxs ct).map (x :: ·) := by
  have h1 := List.length_pos_iff.2 h0
  have hne : gM (memN c0) g ≠ [] := by intro e; have := gM_len (memN c0) g; rw [e] at this; simp at this; omega
  have hv := good_canon hg hne
  have hc := good_c hg
  rw [gM_len] at hc
  have hm := good_memN hg
  have hag := good_again hg
  obtain ⟨⟨d1, d2⟩, d3, d4⟩ := domB_iff.1 hs.dom
  obtain ⟨t1, t2⟩ := can_tail hs (show cN c0 ≠ 0 by omega)
  have hr : (ofRes (gM (memN c0) g)).1 = canonOf (ofRow (gM (memN c0) g)) := by rw [of_yes hg]
  generalize canonOf (ofRow (gM (memN c0) g)) = r at *
  have hd : domB (r :: ct) = true := by
    rw [domB_iff]
    refine ⟨⟨by simp, d2⟩, fun q hq => ?_, ?_⟩
    · rcases List.mem_cons.1 hq with rfl | hq
      · exact hv
      · exact d3 q (by simp [hq])
    · show cN r * prodN (cl ct) ≤ 4096
      rw [hc]
      exact Nat.le_trans (Nat.mul_le_mul_right _ hl) d4
  have hz : prodN (cl (r :: ct)) ≠ 0 := by
    show cN r * prodN (cl ct) ≠ 0
    exact Nat.mul_ne_zero (by omega) (by omega)
  have e : partC ct (memN c0) g = r :: ct := by
    unfold partC
    rw [hr, dCanonRes, hd, if_pos rfl]
    unfold canonRs
    simp only [hz, if_false, List.map_cons]
    rw [hag]
    congr 1
    have : ct.map (fun r => canonOf (rowOf r)) = ct.map id := List.map_congr_left t1
    rw [this, List.map_id]
  rw [e]
  refine ⟨rfl, hd, ?_⟩
  show (memN r).flatMap _ = _
  rw [hm]
/-- the indexes of members -/
def plX (c0 : Rg) (ct : List Rg) (l : List Nat) : List (List Int) := (gM (memN c0) l).flatMap fun x => (idxs ct).map (x :: ·)
theorem plX_flat {c0 : Rg} {ct : List Rg} (hs : SpOk c0 ct) : ∀ {gs : List (List Nat)}, (∀ g ∈ gs, g ≠ [] ∧ g.length ≤ cN c0 ∧ ofGood (gM (memN c0) g)) → allX (gs.map (partC ct (memN c0))) = plX c0 ct gs.flatten ∧ ∀ d ∈ gs.map (partC ct (memN c0)), domB d = true
  | [], _ => ⟨rfl, fun d hd => by simp at hd⟩
  | g :: gs, h => by
    obtain ⟨i1, i2⟩ := plX_flat hs (gs := gs) fun g' hg => h g' (by simp [hg])
    obtain ⟨h1, h2, h3⟩ := h g (by simp)
    obtain ⟨p1, p2, p3⟩ := partC_eq hs h1 h2 h3
    constructor
    · unfold allX plX at i1 ⊢
      rw [List.map_cons, List.flatMap_cons, i1, p3, List.flatten_cons]
      unfold gM
      rw [List.map_append, List.flatMap_append]
    · intro d hd
      rw [List.map_cons, List.mem_cons] at hd
      rcases hd with rfl | hd
      · exact p2
      · exact i2 d hd
theorem plX_len (c0 : Rg) (ct : List Rg) (l : List Nat) : (plX c0 ct l).length = l.length * prodN (cl ct) := by
  unfold plX
  rw [flat_len (m := prodN (cl ct)) (fun a => by rw [List.length_map, idxs_len]), gM_len]
theorem plX_get {c0 : Rg} {ct : List Rg} {l : List Nat} (hl : ∀ j ∈ l, j < cN c0) {q j : Nat} (hq : q < l.length) (hj : j < prodN (cl ct)) : (plX c0 ct l)[q * prodN (cl ct) + j]? = some (ithX (c0 :: ct) (l[q] * prodN (cl ct) + j)) := by
  have hlq : l[q] < cN c0 := hl _ (List.getElem_mem hq)
  have hlm : l[q] < (memN c0).length := by rw [memN_len]; exact hlq
  have e0 : l[q] * prodN (cl ct) + j < prodN (cl (c0 :: ct)) := by
    show _ < cN c0 * prodN (cl ct)
    have := Nat.mul_le_mul_right (prodN (cl ct)) (show l[q] + 1 ≤ cN c0 by omega)
    rw [Nat.add_mul, Nat.one_mul] at this
    omega
  rw [← idxs_get _ _ e0]
  have hfl : ∀ a : Int, ((idxs ct).map (a :: ·)).length = prodN (cl ct) := fun a => by rw [List.length_map, idxs_len]
  unfold plX
  rw [flat_at hfl (by rw [gM_len]; exact hq) hj]
  show _ = ((memN c0).flatMap fun x => (idxs ct).map (x :: ·))[l[q] * prodN (cl ct) + j]?
  rw [flat_at hfl hlm hj]
  unfold gM
  rw [List.getElem_map, getD_at hlm]
/-- the parts of a place's piece -/
def partsOf (k : Kd) (n o : Nat) (c0 : Rg) (ct : List Rg) (p : Nat) : List (List Rg) := (runsOf k n o c0 p).map (partC ct (memN c0))
theorem runsOf_good {k : Kd} {n o : Nat} (hk : OkDs k n o) {c0 : Rg} {ct : List Rg} (hs : SpOk c0 ct) (p : Nat) : ∀ g ∈ runsOf k n o c0 p, g ≠ [] ∧ g.length ≤ cN c0 ∧ ofGood (gM (memN c0) g) := fun g hg => by
  have h := runsOf_S k n o c0 p
  obtain ⟨h1, h2⟩ := runs_mem h g hg
  have h3 := runs_len h g hg
  have h4 := ow_len k n o (cN c0) p
  exact ⟨h1, by omega, (runsOf_ok hk hs p).2 g hg fun j hj => ow_ltm j (h2 j hj)⟩
theorem partsOf_X {k : Kd} {n o : Nat} (hk : OkDs k n o) {c0 : Rg} {ct : List Rg} (hs : SpOk c0 ct) (p : Nat) : allX (partsOf k n o c0 ct p) = plX c0 ct (ow k n o (cN c0) p) ∧ ∀ d ∈ partsOf k n o c0 ct p, domB d = true := by
  have := plX_flat hs (runsOf_good hk hs p)
  rwa [(runsOf_S k n o c0 p).flat] at this
end Go.Proofs.Ytifapodobhkdcaa
namespace Go.Proofs.Ytifapodobhkdcaa
set_option linter.unusedVariables false
def cntF (f : Nat → Nat) (m p : Nat) : Nat := ((List.range m).filter fun i => decide (f i = p)).length
theorem cntF_0 (f : Nat → Nat) (p : Nat) : cntF f 0 p = 0 := rfl
theorem cntF_succ (f : Nat → Nat) (m p : Nat) : cntF f (m + 1) p = cntF f m p + if f m = p then 1 else 0 := by
  unfold cntF
  rw [List.range_succ, List.filter_append, List.length_append]
  by_cases h : f m = p <;> simp [h]
theorem cntF_le (f : Nat → Nat) (m p : Nat) : cntF f m p ≤ m := by
  have := List.length_filter_le (fun i => decide (f i = p)) (List.range m)
  simpa [cntF] using this
theorem cntF_congr {f g : Nat → Nat} {p : Nat} : ∀ {m : Nat}, (∀ i, i < m → f i = g i) → cntF f m p = cntF g m p
  | 0, _ => rfl
  | m + 1, h => by rw [cntF_succ, cntF_succ, cntF_congr (fun i hi => h i (by omega)), h m (by omega)]
theorem cntF_part {f : Nat → Nat} {W R p : Nat} : ∀ {j : Nat}, j ≤ W → cntF (fun i => f (i / W)) (R * W + j) p = cntF (fun i => f (i / W)) (R * W) p + if f R = p then j else 0
  | 0, _ => by simp
  | j + 1, h => by
    rw [← Nat.add_assoc, cntF_succ, cntF_part (j := j) (by omega)]
    have e : (R * W + j) / W = R := by
      rw [Nat.mul_comm, Nat.mul_add_div (by omega), Nat.div_eq_of_lt (by omega), Nat.add_zero]
    rw [e]
    split <;> omega
theorem cntF_mul (f : Nat → Nat) (W p : Nat) : ∀ R, cntF (fun i => f (i / W)) (R * W) p = cntF f R p * W
  | 0 => by simp [cntF_0]
  | R + 1 => by
    rw [Nat.succ_mul, cntF_part (Nat.le_refl W), cntF_mul f W p R, cntF_succ, Nat.add_mul]
    split <;> simp
def sumL (g : Nat → Nat) (o : Nat) : Nat := ((List.range o).map g).sum
theorem sumL_succ (g : Nat → Nat) (o : Nat) : sumL g (o + 1) = sumL g o + g o := by unfold sumL; rw [List.range_succ, List.map_append, List.sum_append]; simp
theorem sumL_one (g : Nat → Nat) (a : Nat) : ∀ o, sumL (fun p => g p + if a = p then 1 else 0) o = sumL g o + if a < o then 1 else 0
  | 0 => by simp [sumL]
  | o + 1 => by
    rw [sumL_succ, sumL_succ, sumL_one g a o]
    by_cases h1 : a = o
    · subst h1; rw [if_neg (by omega), if_pos rfl, if_pos (by omega)]; omega
    · by_cases h2 : a < o
      · rw [if_pos h2, if_neg h1, if_pos (by omega)]; omega
      · rw [if_neg h2, if_neg h1, if_neg (by omega)]; omega
theorem sum_cnt {f : Nat → Nat} {o : Nat} : ∀ {m : Nat}, (∀ i, i < m → f i < o) → sumL (cntF f m) o = m
  | 0, _ => by
    have : ∀ o, sumL (cntF f 0) o = 0 := fun o => by
      induction o with
      | zero => rfl
      | succ o ih => rw [sumL_succ, ih, cntF_0]
    exact this o
  | m + 1, h => by
    have e : cntF f (m + 1) = fun p => cntF f m p + if f m = p then 1 else 0 := funext fun p => cntF_succ f m p
    rw [e, sumL_one, sum_cnt (fun i hi => h i (by omega)), if_pos (h m (by omega))]
theorem sumL_mul (g : Nat → Nat) (W : Nat) : ∀ o, sumL (fun p => g p * W) o = sumL g o * W
  | 0 => by simp [sumL]
  | o + 1 => by rw [sumL_succ, sumL_succ, sumL_mul g W o, Nat.add_mul]
theorem ow_cnt (k : Kd) (n o R p : Nat) : (ow k n o R p).length = cntF (own k n o R) R p := rfl
/-! ### even -/
theorem div_near {x y o : Nat} (ho : 0 < o) (h1 : x ≤ y) (h2 : y < x + o) : x / o ≤ y / o ∧ y / o ≤ x / o + 1 := by
  refine ⟨Nat.div_le_div_right h1, ?_⟩
  have : y / o ≤ (x + o) / o := Nat.div_le_div_right (by omega)
  rwa [Nat.add_div_right _ ho] at this
theorem cnt_from {a b : Nat} {f : Nat → Nat} {p : Nat} : ∀ {m : Nat}, (∀ i, i < m → (f i = p ↔ a ≤ i ∧ i < b)) → cntF f m p = (min m b) - (min m a)
  | 0, _ => by simp [cntF_0]
  | m + 1, h => by
    rw [cntF_succ, cnt_from fun i hi => h i (by omega)]
    have := h m (by omega)
    by_cases hp : f m = p
    · rw [if_pos hp]
      have := this.1 hp
      omega
    · rw [if_neg hp]
      have : ¬ (a ≤ m ∧ m < b) := fun hh => hp (this.2 hh)
      omega
theorem block_iff {i o R p : Nat} (hi : i < R) (ho : 0 < o) : i * o / R = p ↔ (p * R + o - 1) / o ≤ i ∧ i < ((p + 1) * R + o - 1) / o := by
  have hR : 0 < R := by omega
  have k1 : ∀ x, (x + o - 1) / o ≤ i ↔ x ≤ i * o := fun x => by
    constructor
    · intro h
      have h2 : (x + o - 1) / o < i + 1 := by omega
      have h3 := (Nat.div_lt_iff_lt_mul ho).1 h2
      rw [Nat.add_mul, Nat.one_mul] at h3
      omega
    · intro h
      have h2 : (x + o - 1) / o < i + 1 := (Nat.div_lt_iff_lt_mul ho).2 (by rw [Nat.add_mul, Nat.one_mul]; omega)
      omega
  rw [k1]
  have k2 : i < ((p + 1) * R + o - 1) / o ↔ ¬ (p + 1) * R ≤ i * o := by rw [← k1]; omega
  rw [k2]
  have h1 := Nat.div_add_mod (i * o) R
  have h2 := Nat.mod_lt (i * o) hR
  constructor
  · intro h
    rw [h] at h1
    rw [Nat.add_mul, Nat.one_mul]
    have : R * p = p * R := Nat.mul_comm _ _
    omega
  · intro ⟨h3, h4⟩
    rw [Nat.div_eq_of_lt_le h3 (by omega)]
theorem block_cnt {o R p : Nat} (ho : 0 < o) (hp : p < o) : R / o ≤ cntF (fun i => i * o / R) R p ∧ cntF (fun i => i * o / R) R p ≤ R / o + 1 := by
  rw [cnt_from (fun i hi => block_iff hi ho)]
  have hb : ((p + 1) * R + o - 1) / o ≤ R := by
    have : (p + 1) * R ≤ o * R := Nat.mul_le_mul_right _ hp
    have h2 : ((p + 1) * R + o - 1) / o < R + 1 := (Nat.div_lt_iff_lt_mul ho).2 (by rw [Nat.add_mul R 1 o, Nat.one_mul, Nat.mul_comm R o]; omega)
    omega
  have e := Nat.div_add_mod R o
  have hm := Nat.mod_lt R ho
  have e2 : (p + 1) * R + o - 1 = (p * R + o - 1 + R % o) + o * (R / o) := by rw [Nat.add_mul, Nat.one_mul]; omega
  have e3 : ((p + 1) * R + o - 1) / o = (p * R + o - 1 + R % o) / o + R / o := by rw [e2, Nat.add_mul_div_left _ _ ho]
  have d := div_near ho (show p * R + o - 1 ≤ p * R + o - 1 + R % o by omega) (by omega)
  generalize ((p + 1) * R + o - 1) / o = B at *
  generalize (p * R + o - 1) / o = A at *
  generalize (p * R + o - 1 + R % o) / o = X at *
  generalize R / o = q at *
  clear e e2
  omega
theorem cyc_cnt {o : Nat} (ho : 0 < o) {p : Nat} (hp : p < o) : ∀ R, cntF (fun i => i % o) R p = R / o + if p < R % o then 1 else 0
  | 0 => by simp [cntF_0]
  | R + 1 => by
    rw [cntF_succ, cyc_cnt ho hp R]
    have e := Nat.div_add_mod R o
    have hm := Nat.mod_lt R ho
    by_cases h : R % o + 1 = o
    · have e1 : (R + 1) / o = R / o + 1 := by
        have : R + 1 = o * (R / o + 1) := by rw [Nat.mul_add, Nat.mul_one]; omega
        rw [this, Nat.mul_div_cancel_left _ ho]
      have e2 : (R + 1) % o = 0 := by
        have : R + 1 = o * (R / o + 1) := by rw [Nat.mul_add, Nat.mul_one]; omega
        rw [this, Nat.mul_mod_right]
      rw [e1, e2]
      by_cases h2 : R % o = p
      · simp [h2]
      · rw [if_neg h2, if_pos (by omega), if_neg (by omega)]
    · have e3 : R + 1 = (R % o + 1) + o * (R / o) := by omega
      have e1 : (R + 1) / o = R / o := by rw [e3, Nat.add_mul_div_left _ _ ho, Nat.div_eq_of_lt (by omega)]; omega
      have e2 : (R + 1) % o = R % o + 1 := by
        conv => lhs; rw [e3]
        rw [Nat.add_mul_mod_self_left, Nat.mod_eq_of_lt (by omega)]
      rw [e1, e2]
      by_cases h2 : R % o = p
      · rw [if_neg (by omega), if_pos h2, if_pos (by omega)]
      · rw [if_neg h2]
        by_cases h3 : p < R % o
        · rw [if_pos h3, if_pos (by omega)]
        · rw [if_neg h3, if_neg (by omega)]
theorem even_own {k : Kd} {n o R : Nat} (ho : 0 < o) (hk : k = .block ∨ k = .cyclic) {p q : Nat} (hp : p < o) (hq : q < o) : (ow k n o R p).length ≤ (ow k n o R q).length + 1 := by
  rw [ow_cnt, ow_cnt]
  rcases hk with rfl | rfl
  · have a := block_cnt (R := R) ho hp
    have b := block_cnt (R := R) ho hq
    show cntF (fun i => i * o / R) R p ≤ cntF (fun i => i * o / R) R q + 1
    omega
  · have a := cyc_cnt ho hp R
    have b := cyc_cnt ho hq R
    show cntF (fun i => i % o) R p ≤ cntF (fun i => i % o) R q + 1
    rw [a, b]
    split <;> split <;> omega
/-! ### where an index stands -/
theorem canon_cnt {rs : List Rg} {c0 : Rg} {ct : List Rg} (hd : domB rs = true) (hc : canonRs rs = c0 :: ct) : idxs rs = idxs (c0 :: ct) ∧ prodN (cl rs) = cN c0 * iN c0 ct ∧ rs.length = (c0 :: ct).length := by
  obtain ⟨f1, f2, f3, f4⟩ := canonRs_facts hd
  rw [hc] at f1 f4
  refine ⟨f4.symm, ?_, f1.symm⟩
  rw [iN_mul, ← idxs_len, ← idxs_len, f4]
end Go.Proofs.Ytifapodobhkdcaa
