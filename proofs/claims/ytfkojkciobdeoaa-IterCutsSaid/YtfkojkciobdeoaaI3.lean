/- Split, Dynamic and Guided of package iter and of the reference, and the law's comparisons of pairs, by the abstract machine. -/
import Derived.Test.YtfkojkciobdeoaaI1
namespace Go.Proofs.Ytfkojkciobdeoaa
open Go.RowKit
set_option linter.unusedVariables false
set_option maxHeartbeats 16000000
set_option linter.unusedSimpArgs false
set_option maxRecDepth 100000
instance : TyEqI Try.prog 95 2 := TyEqI.arr2 (by kernel_rfl) Try.underlying95 Try.underlying3 (by kernel_rfl) (by kernel_rfl)
abbrev pC (p : Int × Int) : List D := [iD p.1, iD p.2]
abbrev rowP (l : List (Int × Int)) : D := .row l.length (l.flatMap pC)
def chL (h : Nat → Int) (N : Nat) : List (Int × Int) := (List.range N).map fun k => (h k, h (k + 1))
theorem chL_len (h : Nat → Int) (N : Nat) : (chL h N).length = N := by simp [chL]
theorem chL_get (h : Nat → Int) {N k : Nat} (hk : k < (chL h N).length) : (chL h N)[k] = (h k, h (k + 1)) := by simp [chL]
theorem chL_snoc (h : Nat → Int) (k : Nat) : (chL h (k + 1)).flatMap pC = (chL h k).flatMap pC ++ [iD (h k), iD (h (k + 1))] := by
  unfold chL
  rw [List.range_succ, List.map_append, List.flatMap_append]; rfl
/-! ### the sequences -/
def spH (c n : Int) (k : Nat) : Int := ((k : Int) * c).tdiv n
def dyH (c s : Int) (k : Nat) : Int := if c < (k : Int) * s then c else (k : Int) * s
def gdH (c n : Int) : Nat → Int
  | 0 => 0
  | k + 1 => gdH c n k + (c - gdH c n k + n - 1).tdiv n
theorem spH_0 (c n : Int) : spH c n 0 = 0 := by simp [spH]
theorem spH_mono {c n : Int} (hc : 0 ≤ c) (hn : 1 ≤ n) (k : Nat) : 0 ≤ spH c n k ∧ spH c n k ≤ spH c n (k + 1) := by
  unfold spH
  have h0 : 0 ≤ (k : Int) * c := Int.mul_nonneg (Int.natCast_nonneg k) hc
  have h1 : (k : Int) * c ≤ ((k + 1 : Nat) : Int) * c := Int.mul_le_mul_of_nonneg_right (by omega) hc
  rw [Int.tdiv_eq_ediv_of_nonneg h0, Int.tdiv_eq_ediv_of_nonneg (by omega)]
  exact ⟨Int.ediv_nonneg h0 (by omega), Int.ediv_le_ediv (by omega) h1⟩
theorem spH_end {c n : Int} (hn : 1 ≤ n) : spH c n n.toNat = c := by
  unfold spH
  rw [show ((n.toNat : Nat) : Int) = n by omega]
  exact Int.mul_tdiv_cancel_left _ (by omega)
theorem dy_end {c s : Int} (hc : 0 ≤ c) (hs : 1 ≤ s) : ∃ N : Nat, (N : Int) ≤ c ∧ c ≤ (N : Int) * s ∧ ∀ k, k < N → (k : Int) * s < c := by
  obtain ⟨N, h1, h2⟩ := leastN (p := fun k : Nat => c ≤ (k : Int) * s) (n := c.toNat) (by
    rw [show ((c.toNat : Nat) : Int) = c by omega]
    have := Int.mul_le_mul_of_nonneg_left hs hc
    omega)
  refine ⟨N, ?_, h1, fun k hk => by have := h2 k hk; omega⟩
  rcases Nat.eq_zero_or_pos N with h | h
  · omega
  · have h3 := h2 (N - 1) (by omega)
    have h4 := Int.mul_le_mul_of_nonneg_left hs (show (0 : Int) ≤ ((N - 1 : Nat) : Int) by omega)
    omega
theorem dyH_lt {c s : Int} {k : Nat} (h : (k : Int) * s < c) : dyH c s k = (k : Int) * s := if_neg (by omega)
theorem dyH_succ {c s : Int} {k : Nat} : dyH c s (k + 1) = if c < (k : Int) * s + s then c else (k : Int) * s + s := by
  unfold dyH
  rw [show ((k + 1 : Nat) : Int) = (k : Int) + 1 by omega, Int.add_mul, Int.one_mul]
theorem gd_step {c n : Int} (hn : 1 ≤ n) {g : Int} (h : g < c) (h0 : 0 ≤ g) : 1 ≤ (c - g + n - 1).tdiv n ∧ (c - g + n - 1).tdiv n ≤ c - g := by
  rw [Int.tdiv_eq_ediv_of_nonneg (by omega)]
  constructor
  · exact (Int.le_ediv_iff_mul_le (by omega)).2 (by omega)
  · have : (c - g + n - 1) / n < c - g + 1 := Int.ediv_lt_of_lt_mul (by omega) (by
      have h1 : (c - g) * 1 ≤ (c - g) * n := Int.mul_le_mul_of_nonneg_left hn (by omega)
      rw [Int.add_mul]
      omega)
    omega
theorem gd_end {c n : Int} (hc : 0 ≤ c) (hn : 1 ≤ n) : ∃ N : Nat, (N : Int) ≤ c ∧ gdH c n N = c ∧ ∀ k, k < N → 0 ≤ gdH c n k ∧ gdH c n k < c ∧ gdH c n k < gdH c n (k + 1) ∧ gdH c n (k + 1) ≤ c := by
  have inv : ∀ k : Nat, (∀ j, j < k → gdH c n j < c) → (k : Int) ≤ gdH c n k ∧ gdH c n k ≤ c := by
    intro k
    induction k with
    | zero => intro _; exact ⟨by simp [gdH], by simpa [gdH] using hc⟩
    | succ k ih =>
      intro h
      obtain ⟨h1, h2⟩ := ih fun j hj => h j (by omega)
      have h3 := h k (by omega)
      obtain ⟨h4, h5⟩ := gd_step hn h3 (by omega)
      simp only [gdH]
      omega
  obtain ⟨N, h1, h2⟩ := leastN (p := fun k : Nat => ¬ gdH c n k < c) (n := c.toNat + 1) (by
    intro hlt
    by_cases hall : ∀ j, j < c.toNat + 1 → gdH c n j < c
    · have := inv (c.toNat + 1) hall; omega
    · have : ∃ j, j < c.toNat + 1 ∧ ¬ gdH c n j < c := by
        apply Classical.byContradiction
        intro hno
        exact hall fun j hj => by
          apply Classical.byContradiction
          intro h; exact hno ⟨j, hj, h⟩
      obtain ⟨j, hj, hjc⟩ := this
      obtain ⟨m, hm1, hm2⟩ := leastN (p := fun k : Nat => ¬ gdH c n k < c) hjc
      have hmc : gdH c n m = c := by
        have := inv m (fun i hi => by have := hm2 i hi; omega)
        omega
      have stay : ∀ i, gdH c n (m + i) = c := by
        intro i
        induction i with
        | zero => exact hmc
        | succ i ih =>
          show gdH c n (m + i) + (c - gdH c n (m + i) + n - 1).tdiv n = c
          rw [ih, Int.tdiv_eq_ediv_of_nonneg (by omega), Int.ediv_eq_zero_of_lt (by omega) (by omega)]; omega
      have hle : m ≤ j := by
        apply Classical.byContradiction
        intro h; exact hm2 j (by omega) hjc
      have := stay (c.toNat + 1 - m)
      rw [show m + (c.toNat + 1 - m) = c.toNat + 1 by omega] at this
      omega)
  have hlt : ∀ k, k < N → gdH c n k < c := fun k hk => by have := h2 k hk; omega
  obtain ⟨i1, i2⟩ := inv N hlt
  refine ⟨N, by omega, by omega, fun k hk => ?_⟩
  have j1 := inv k fun j hj => hlt j (by omega)
  have j2 := inv (k + 1) fun j hj => hlt j (by omega)
  have j3 := hlt k hk
  obtain ⟨h4, h5⟩ := gd_step hn j3 (by omega)
  refine ⟨by omega, j3, ?_, j2.2⟩
  show gdH c n k < gdH c n k + (c - gdH c n k + n - 1).tdiv n
  omega
/-! ### the walks -/
theorem iWithin_t (n lo hi : Int) (h1 : lo ≤ n) (h2 : n ≤ hi) : DC Try.prog 124 [iD n, iD lo, iD hi] (bD true) := by
  refine DC.of Try.func124 Try.ntmps124 Try.results124 rfl (by decide +kernel) rfl ?_
  repeat (first | refine Z1 ?_ | refine Z2 ?_ | (refine Z3 ?_; (repeat (first | (apply gS; first | refine go_no ?_ | refine go_f ?_ | refine gm ?_ | refine gp ?_))); refine T_nil ?_) | refine Z4 ?_ | refine Z5 ?_ | refine Z6 ?_ | refine Z7 ?_)
  repeat (first | refine kEnd_m ?_ | refine kEnd_f ?_)
  refine kEnd_g ?_ (by first | exact .inl rfl | exact .inr rfl)
  exact Sub.eq rfl rfl
theorem iWithin_f (n lo hi : Int) (h : n < lo ∨ hi < n) : DC Try.prog 124 [iD n, iD lo, iD hi] (bD false) := by
  by_cases h1 : n < lo
  · refine DC.of Try.func124 Try.ntmps124 Try.results124 rfl (by decide +kernel) rfl ?_
    repeat (first | refine Z1 ?_ | refine Z2 ?_ | (refine Z3 ?_; (repeat (first | (apply gS; first | refine go_no ?_ | refine go_f ?_ | refine gm ?_ | refine gp ?_))); refine T_nil ?_) | refine Z4 ?_ | refine Z5 ?_ | refine Z6 ?_ | refine Z7 ?_)
    repeat (first | refine kEnd_m ?_ | refine kEnd_f ?_)
    refine kEnd_g ?_ (by first | exact .inl rfl | exact .inr rfl)
    exact Sub.eq rfl rfl
  · have h2 : hi < n := by omega
    refine DC.of Try.func124 Try.ntmps124 Try.results124 rfl (by decide +kernel) rfl ?_
    repeat (first | refine Z1 ?_ | refine Z2 ?_ | (refine Z3 ?_; (repeat (first | (apply gS; first | refine go_no ?_ | refine go_f ?_ | refine gm ?_ | refine gp ?_))); refine T_nil ?_) | refine Z4 ?_ | refine Z5 ?_ | refine Z6 ?_ | refine Z7 ?_)
    repeat (first | refine kEnd_m ?_ | refine kEnd_f ?_)
    refine kEnd_g ?_ (by first | exact .inl rfl | exact .inr rfl)
    exact Sub.eq rfl rfl
theorem counted_t (c n : Int) (h1 : 0 ≤ c) (h2 : c ≤ 4096) (h3 : 1 ≤ n) (h4 : n ≤ 4096) : DC Try.prog 94 [iD c, iD n] (bD true) := by
  refine DC.of Try.func94 Try.ntmps94 Try.results94 rfl (by decide +kernel) rfl ?_
  repeat (first | refine Z1 ?_ | refine Z2 ?_ | (refine Z3 ?_; (repeat (first | (apply gS; first | refine go_no ?_ | refine go_f ?_ | refine gm ?_ | refine gp ?_ | refine go_c rfl rfl (iWithin_t _ _ _ (by omega) (by omega)) ?_))); refine T_nil ?_) | refine Z4 ?_ | refine Z5 ?_ | refine Z6 ?_ | refine Z7 ?_)
  repeat (first | refine kEnd_m ?_ | refine kEnd_f ?_)
  refine kEnd_g ?_ (by first | exact .inl rfl | exact .inr rfl)
  exact Sub.eq rfl rfl
theorem counted_f (c n : Int) (h : (c < 0 ∨ 4096 < c) ∨ (0 ≤ c ∧ c ≤ 4096) ∧ (n < 1 ∨ 4096 < n)) : DC Try.prog 94 [iD c, iD n] (bD false) := by
  rcases h with h | ⟨h1, h⟩
  all_goals
    refine DC.of Try.func94 Try.ntmps94 Try.results94 rfl (by decide +kernel) rfl ?_
    repeat (first | refine Z1 ?_ | refine Z2 ?_ | (refine Z3 ?_; (repeat (first | (apply gS; first | refine go_no ?_ | refine go_f ?_ | refine gm ?_ | refine gp ?_ | refine go_c rfl rfl (iWithin_t _ _ _ (by omega) (by omega)) ?_ | refine go_c rfl rfl (iWithin_f _ _ _ (by omega)) ?_))); refine T_nil ?_) | refine Z4 ?_ | refine Z5 ?_ | refine Z6 ?_ | refine Z7 ?_)
    repeat (first | refine kEnd_m ?_ | refine kEnd_f ?_)
    refine kEnd_g ?_ (by first | exact .inl rfl | exact .inr rfl)
    exact Sub.eq rfl rfl
theorem cut_two (c n : Int) : (0 ≤ c ∧ c ≤ 4096 ∧ 1 ≤ n ∧ n ≤ 4096) ∨ ((c < 0 ∨ 4096 < c) ∨ (0 ≤ c ∧ c ≤ 4096) ∧ (n < 1 ∨ 4096 < n)) := by omega
theorem split_bd {c n : Int} (h1 : 0 ≤ c) (h2 : c ≤ 4096) (h3 : 1 ≤ n) (h4 : n ≤ 4096) {k : Nat} (hk : (k : Int) < n) : (0 ≤ (k : Int) * c ∧ (k : Int) * c ≤ 20000000) ∧ (0 ≤ ((k : Int) + 1) * c ∧ ((k : Int) + 1) * c ≤ 20000000) := by
  have a1 : 0 ≤ (k : Int) * c := Int.mul_nonneg (Int.natCast_nonneg k) h1
  have a2 : (k : Int) * c ≤ 4096 * 4096 := Int.mul_le_mul (by omega) h2 h1 (by omega)
  rw [Int.add_mul, Int.one_mul]
  omega
theorem split_ok (c n : Int) (h1 : 0 ≤ c) (h2 : c ≤ 4096) (h3 : 1 ≤ n) (h4 : n ≤ 4096) : DC Try.prog 51 [iD c, iD n] (.tup [rowP (chL (spH c n) n.toNat), iD 0]) := by
  obtain ⟨m, rfl⟩ := Int.eq_ofNat_of_zero_le (show 0 ≤ n by omega)
  rw [Int.toNat_natCast]
  have T := counted_t c m h1 h2 h3 h4
  refine DC.of Try.func51 Try.ntmps51 Try.results51 rfl (by decide +kernel) rfl ?_
  repeat (first | refine Z1 ?_ | refine Z2 ?_ | (refine Z3 ?_; (repeat (first | (apply gS; first | refine go_f ?_ | refine gm ?_ | refine gp ?_ | refine go_c rfl rfl (T) ?_))); refine T_nil ?_) | (refine C_dr mixed ?_; (repeat (first | (apply vS; first | refine va ?_ | refine vp ?_ | refine vr ?_ | refine vt ?_ | refine vc (T) ?_))); refine W_e ?_) | refine Z4 ?_ | refine Z5 ?_ | refine Z6 ?_ | refine Z7 ?_ | refine Z8 ?_ | refine Z9 ?_ | refine ZA ?_ | refine ZB ?_ | refine ZC ?_ | refine ZD ?_ | refine ZE ?_ | refine ZF ?_ | refine ZG ?_ | refine ZH ?_)
  refine C_count m (fun _ => True) (fun k => ⟨1, 33, [(13, iD k), (12, iD m), (6, .own 0 k), (0, iD c), (1, iD m)], [(0, some ⟨95, 2, k, (chL (spH c m) k).flatMap pC⟩)]⟩) ?_ trivial ?_
  · refine Wk.trans (Wk.adoptT 6 95 2 rfl) ?_
    exact Wk.go (fun b => b)
  · intro k hk _
    by_cases hlt : k < m
    · obtain ⟨⟨b1, b2⟩, b3, b4⟩ := split_bd h1 h2 h3 h4 (k := k) (by omega)
      have en := chL_snoc (spH c m) k
      rw [show spH c m (k + 1) = (((k : Int) + 1) * c).tdiv m by unfold spH; rw [show ((k + 1 : Nat) : Int) = (k : Int) + 1 by omega], show spH c m k = ((k : Int) * c).tdiv m from rfl] at en
      repeat (first | refine Z1 ?_ | refine Z2 ?_ | (refine Z3 ?_; (repeat (first | (apply gS; first | refine go_f ?_ | refine gm ?_ | refine gp ?_))); refine T_nil ?_) | (refine C_dr mixed ?_; (repeat (first | (apply vS; first | refine va ?_ | refine vp ?_ | refine vr ?_ | refine vt ?_))); refine W_e ?_) | refine Z4 ?_ | refine Z5 ?_ | refine Z6 ?_ | refine Z7 ?_ | refine Z8 ?_ | refine Z9 ?_ | refine ZA ?_ | refine ZB ?_ | refine ZC ?_ | refine ZD ?_ | refine ZE ?_ | refine ZF ?_ | refine ZG ?_ | refine ZH ?_)
      refine kLoop_n ⟨hlt, trivial, ?_⟩
      exact Wk.go (fun b => cond (Nat.beq b 0) 1 (b))
    · obtain rfl : k = m := by omega
      repeat (first | refine Z1 ?_ | refine Z2 ?_ | (refine Z3 ?_; (repeat (first | (apply gS; first | refine go_f ?_ | refine gm ?_ | refine gp ?_))); refine T_nil ?_) | (refine C_dr mixed ?_; (repeat (first | (apply vS; first | refine va ?_ | refine vp ?_ | refine vr ?_ | refine vt ?_))); refine W_e ?_) | refine Z4 ?_ | refine Z5 ?_ | refine Z6 ?_ | refine Z7 ?_ | refine Z8 ?_ | refine Z9 ?_ | refine ZA ?_ | refine ZB ?_ | refine ZC ?_ | refine ZD ?_ | refine ZE ?_ | refine ZF ?_ | refine ZG ?_ | refine ZH ?_)
      repeat (first | refine kEnd_m ?_ | refine kEnd_f ?_)
      refine kEnd_g ?_ (by first | exact .inl rfl | exact .inr rfl)
      exact Sub.tup (.cons (Sub.eq (by show D.row k _ = D.row (chL _ k).length _; rw [chL_len]) rfl) (.cons (Sub.eq rfl rfl) .nil))
theorem split_no (c n : Int) (h : (c < 0 ∨ 4096 < c) ∨ (0 ≤ c ∧ c ≤ 4096) ∧ (n < 1 ∨ 4096 < n)) : DC Try.prog 51 [iD c, iD n] (.tup [rowP [], iD 2]) := by
  have T := counted_f c n h
  refine DC.of Try.func51 Try.ntmps51 Try.results51 rfl (by decide +kernel) rfl ?_
  repeat (first | refine Z1 ?_ | refine Z2 ?_ | (refine Z3 ?_; (repeat (first | (apply gS; first | refine go_f ?_ | refine gm ?_ | refine gp ?_ | refine go_c rfl rfl (T) ?_))); refine T_nil ?_) | (refine C_dr mixed ?_; (repeat (first | (apply vS; first | refine va ?_ | refine vp ?_ | refine vr ?_ | refine vt ?_ | refine vc (T) ?_))); refine W_e ?_) | refine Z4 ?_ | refine Z5 ?_ | refine Z6 ?_ | refine Z7 ?_ | refine Z8 ?_ | refine Z9 ?_ | refine ZA ?_ | refine ZB ?_ | refine ZC ?_ | refine ZD ?_ | refine ZE ?_ | refine ZF ?_ | refine ZG ?_ | refine ZH ?_)
  repeat (first | refine kEnd_m ?_ | refine kEnd_f ?_)
  refine kEnd_g ?_ (by first | exact .inl rfl | exact .inr rfl)
  exact Sub.tup (.cons Sub.nil (.cons (Sub.eq rfl rfl) .nil))
theorem rSplit_ok (c n : Int) (h1 : 0 ≤ c) (h2 : c ≤ 4096) (h3 : 1 ≤ n) (h4 : n ≤ 4096) : DC Try.prog 52 [iD c, iD n] (.tup [rowP (chL (spH c n) n.toNat), iD 0]) := by
  obtain ⟨m, rfl⟩ := Int.eq_ofNat_of_zero_le (show 0 ≤ n by omega)
  rw [Int.toNat_natCast]
  refine DC.of Try.func52 Try.ntmps52 Try.results52 rfl (by decide +kernel) rfl ?_
  repeat (first | refine Z1 ?_ | refine Z2 ?_ | (refine Z3 ?_; (repeat (first | (apply gS; first | refine go_no ?_ | refine go_f ?_ | refine gm ?_ | refine gp ?_))); refine T_nil ?_) | (refine C_dr mixed ?_; (repeat (first | (apply vS; first | refine vn ?_ | refine va ?_ | refine vp ?_ | refine vr ?_ | refine vt ?_))); refine W_e ?_) | refine Z4 ?_ | refine Z5 ?_ | refine Z6 ?_ | refine Z7 ?_ | refine Z8 ?_ | refine Z9 ?_ | refine ZA ?_ | refine ZB ?_ | refine ZC ?_ | refine ZD ?_ | refine ZE ?_ | refine ZF ?_ | refine ZG ?_ | refine ZH ?_)
  refine C_count m (fun _ => True) (fun k => ⟨1, 43, [(7, iD k), (6, .own 0 k), (0, iD c), (1, iD m)], [(0, some ⟨95, 2, k, (chL (spH c m) k).flatMap pC⟩)]⟩) ?_ trivial ?_
  · refine Wk.trans (Wk.adoptT 6 95 2 rfl) ?_
    exact Wk.go (fun b => b)
  · intro k hk _
    by_cases hlt : k < m
    · obtain ⟨⟨b1, b2⟩, b3, b4⟩ := split_bd h1 h2 h3 h4 (k := k) (by omega)
      have en := chL_snoc (spH c m) k
      rw [show spH c m (k + 1) = (((k : Int) + 1) * c).tdiv m by unfold spH; rw [show ((k + 1 : Nat) : Int) = (k : Int) + 1 by omega], show spH c m k = ((k : Int) * c).tdiv m from rfl] at en
      repeat (first | refine Z1 ?_ | refine Z2 ?_ | (refine Z3 ?_; (repeat (first | (apply gS; first | refine go_no ?_ | refine go_f ?_ | refine gm ?_ | refine gp ?_))); refine T_nil ?_) | (refine C_dr mixed ?_; (repeat (first | (apply vS; first | refine vn ?_ | refine va ?_ | refine vp ?_ | refine vr ?_ | refine vt ?_))); refine W_e ?_) | refine Z4 ?_ | refine Z5 ?_ | refine Z6 ?_ | refine Z7 ?_ | refine Z8 ?_ | refine Z9 ?_ | refine ZA ?_ | refine ZB ?_ | refine ZC ?_ | refine ZD ?_ | refine ZE ?_ | refine ZF ?_ | refine ZG ?_ | refine ZH ?_)
      refine kLoop_n ⟨hlt, trivial, ?_⟩
      exact Wk.go (fun b => cond (Nat.beq b 0) 1 (b))
    · obtain rfl : k = m := by omega
      repeat (first | refine Z1 ?_ | refine Z2 ?_ | (refine Z3 ?_; (repeat (first | (apply gS; first | refine go_no ?_ | refine go_f ?_ | refine gm ?_ | refine gp ?_))); refine T_nil ?_) | (refine C_dr mixed ?_; (repeat (first | (apply vS; first | refine vn ?_ | refine va ?_ | refine vp ?_ | refine vr ?_ | refine vt ?_))); refine W_e ?_) | refine Z4 ?_ | refine Z5 ?_ | refine Z6 ?_ | refine Z7 ?_ | refine Z8 ?_ | refine Z9 ?_ | refine ZA ?_ | refine ZB ?_ | refine ZC ?_ | refine ZD ?_ | refine ZE ?_ | refine ZF ?_ | refine ZG ?_ | refine ZH ?_)
      repeat (first | refine kEnd_m ?_ | refine kEnd_f ?_)
      refine kEnd_g ?_ (by first | exact .inl rfl | exact .inr rfl)
      exact Sub.tup (.cons (Sub.eq (by show D.row k _ = D.row (chL _ k).length _; rw [chL_len]) rfl) (.cons (Sub.eq rfl rfl) .nil))
theorem bad_two {c n : Int} (h : (c < 0 ∨ 4096 < c) ∨ (0 ≤ c ∧ c ≤ 4096) ∧ (n < 1 ∨ 4096 < n)) : c < 0 ∨ 0 ≤ c ∧ 4096 < c ∨ 0 ≤ c ∧ c ≤ 4096 ∧ n < 1 ∨ 0 ≤ c ∧ c ≤ 4096 ∧ 1 ≤ n ∧ 4096 < n := by omega
theorem rSplit_no (c n : Int) (h : (c < 0 ∨ 4096 < c) ∨ (0 ≤ c ∧ c ≤ 4096) ∧ (n < 1 ∨ 4096 < n)) : DC Try.prog 52 [iD c, iD n] (.tup [rowP [], iD 2]) := by
  rcases bad_two h with h1 | ⟨h1, h2⟩ | ⟨h1, h2, h3⟩ | ⟨h1, h2, h3, h4⟩
  all_goals
    clear h
    refine DC.of Try.func52 Try.ntmps52 Try.results52 rfl (by decide +kernel) rfl ?_
    repeat (first | refine Z1 ?_ | refine Z2 ?_ | (refine Z3 ?_; (repeat (first | (apply gS; first | refine go_no ?_ | refine go_f ?_ | refine gm ?_ | refine gp ?_))); refine T_nil ?_) | (refine C_dr mixed ?_; (repeat (first | (apply vS; first | refine vn ?_ | refine va ?_ | refine vp ?_ | refine vr ?_ | refine vt ?_))); refine W_e ?_) | refine Z4 ?_ | refine Z5 ?_ | refine Z6 ?_ | refine Z7 ?_ | refine Z8 ?_ | refine Z9 ?_ | refine ZA ?_ | refine ZB ?_ | refine ZC ?_ | refine ZD ?_ | refine ZE ?_ | refine ZF ?_ | refine ZG ?_ | refine ZH ?_)
    repeat (first | refine kEnd_m ?_ | refine kEnd_f ?_)
    refine kEnd_g ?_ (by first | exact .inl rfl | exact .inr rfl)
    exact Sub.tup (.cons Sub.nil (.cons (Sub.eq rfl rfl) .nil))
theorem dyn_ok (c s : Int) (N : Nat) (h1 : 0 ≤ c) (h2 : c ≤ 4096) (h3 : 1 ≤ s) (h4 : s ≤ 4096) (hN : (N : Int) ≤ c) (hNs : c ≤ (N : Int) * s) (hlt : ∀ k, k < N → (k : Int) * s < c) : DC Try.prog 53 [iD c, iD s] (.tup [rowP (chL (dyH c s) N), iD 0]) := by
  have T := counted_t c s h1 h2 h3 h4
  refine DC.of Try.func53 Try.ntmps53 Try.results53 rfl (by decide +kernel) rfl ?_
  repeat (first | refine Z1 ?_ | refine Z2 ?_ | (refine Z3 ?_; (repeat (first | (apply gS; first | refine go_f ?_ | refine gm ?_ | refine gp ?_ | refine go_c rfl rfl (T) ?_))); refine T_nil ?_) | refine Z4 ?_ | refine Z5 ?_ | refine Z6 ?_ | refine Z7 ?_ | refine Z8 ?_ | refine Z9 ?_ | refine ZA ?_ | refine ZB ?_ | refine ZC ?_ | refine ZD ?_ | refine ZE ?_ | refine ZF ?_ | refine ZG ?_ | refine ZH ?_)
  refine C_count N (fun _ => True) (fun k => ⟨1, 29, [(7, iD ((k : Int) * s)), (6, .own 0 k), (0, iD c), (1, iD s)], [(0, some ⟨95, 2, k, (chL (dyH c s) k).flatMap pC⟩)]⟩) ?_ trivial ?_
  · have e0 : ((0 : Nat) : Int) * s = 0 := by simp
    refine Wk.trans (Wk.adoptT 6 95 2 rfl) ?_
    exact Wk.go (fun b => b)
  · intro k hk _
    by_cases hk' : k < N
    · have hb := hlt k hk'
      have hb0 : 0 ≤ (k : Int) * s := Int.mul_nonneg (Int.natCast_nonneg k) (by omega)
      have e1 : ((k + 1 : Nat) : Int) * s = (k : Int) * s + s := by rw [show ((k + 1 : Nat) : Int) = (k : Int) + 1 by omega, Int.add_mul, Int.one_mul]
      have en := chL_snoc (dyH c s) k
      rw [dyH_lt hb, dyH_succ] at en
      clear hlt hNs
      generalize (k : Int) * s = u at *
      by_cases hm : c < u + s
      all_goals
        simp only [hm, if_true, if_false] at en
        repeat (first | refine Z1 ?_ | refine Z2 ?_ | (refine Z3 ?_; (repeat (first | (apply gS; first | refine go_f ?_ | refine gm ?_ | refine gp ?_))); refine T_nil ?_) | refine Z4 ?_ | refine Z5 ?_ | refine Z6 ?_ | refine Z7 ?_ | refine Z8 ?_ | refine Z9 ?_ | refine ZA ?_ | refine ZB ?_ | refine ZC ?_ | refine ZD ?_ | refine ZE ?_ | refine ZF ?_ | refine ZG ?_ | refine ZH ?_)
        refine kLoop_n ⟨hk', trivial, ?_⟩
        exact Wk.go (fun b => cond (Nat.beq b 0) 1 (b))
    · obtain rfl : k = N := by omega
      clear hlt
      repeat (first | refine Z1 ?_ | refine Z2 ?_ | (refine Z3 ?_; (repeat (first | (apply gS; first | refine go_f ?_ | refine gm ?_ | refine gp ?_))); refine T_nil ?_) | refine Z4 ?_ | refine Z5 ?_ | refine Z6 ?_ | refine Z7 ?_ | refine Z8 ?_ | refine Z9 ?_ | refine ZA ?_ | refine ZB ?_ | refine ZC ?_ | refine ZD ?_ | refine ZE ?_ | refine ZF ?_ | refine ZG ?_ | refine ZH ?_)
      repeat (first | refine kEnd_m ?_ | refine kEnd_f ?_)
      refine kEnd_g ?_ (by first | exact .inl rfl | exact .inr rfl)
      exact Sub.tup (.cons (Sub.eq (by show D.row k _ = D.row (chL _ k).length _; rw [chL_len]) rfl) (.cons (Sub.eq rfl rfl) .nil))
theorem dyn_no (c n : Int) (h : (c < 0 ∨ 4096 < c) ∨ (0 ≤ c ∧ c ≤ 4096) ∧ (n < 1 ∨ 4096 < n)) : DC Try.prog 53 [iD c, iD n] (.tup [rowP [], iD 2]) := by
  have T := counted_f c n h
  refine DC.of Try.func53 Try.ntmps53 Try.results53 rfl (by decide +kernel) rfl ?_
  repeat (first | refine Z1 ?_ | refine Z2 ?_ | (refine Z3 ?_; (repeat (first | (apply gS; first | refine go_f ?_ | refine gm ?_ | refine gp ?_ | refine go_c rfl rfl (T) ?_))); refine T_nil ?_) | refine Z4 ?_ | refine Z5 ?_ | refine Z6 ?_ | refine Z7 ?_ | refine Z8 ?_ | refine Z9 ?_ | refine ZA ?_ | refine ZB ?_ | refine ZC ?_ | refine ZD ?_ | refine ZE ?_ | refine ZF ?_ | refine ZG ?_ | refine ZH ?_)
  repeat (first | refine kEnd_m ?_ | refine kEnd_f ?_)
  refine kEnd_g ?_ (by first | exact .inl rfl | exact .inr rfl)
  exact Sub.tup (.cons Sub.nil (.cons (Sub.eq rfl rfl) .nil))
theorem rDyn_ok (c s : Int) (N : Nat) (h1 : 0 ≤ c) (h2 : c ≤ 4096) (h3 : 1 ≤ s) (h4 : s ≤ 4096) (hN : (N : Int) ≤ c) (hNs : c ≤ (N : Int) * s) (hlt : ∀ k, k < N → (k : Int) * s < c) : DC Try.prog 54 [iD c, iD s] (.tup [rowP (chL (dyH c s) N), iD 0]) := by
  refine DC.of Try.func54 Try.ntmps54 Try.results54 rfl (by decide +kernel) rfl ?_
  repeat (first | refine Z1 ?_ | refine Z2 ?_ | (refine Z3 ?_; (repeat (first | (apply gS; first | refine go_no ?_ | refine go_f ?_ | refine gm ?_ | refine gp ?_))); refine T_nil ?_) | refine Z4 ?_ | refine Z5 ?_ | refine Z6 ?_ | refine Z7 ?_ | refine Z8 ?_ | refine Z9 ?_ | refine ZA ?_ | refine ZB ?_ | refine ZC ?_ | refine ZD ?_ | refine ZE ?_ | refine ZF ?_ | refine ZG ?_ | refine ZH ?_)
  refine C_count N (fun _ => True) (fun k => ⟨1, 39, [(7, iD ((k : Int) * s)), (6, .own 0 k), (0, iD c), (1, iD s)], [(0, some ⟨95, 2, k, (chL (dyH c s) k).flatMap pC⟩)]⟩) ?_ trivial ?_
  · have e0 : ((0 : Nat) : Int) * s = 0 := by simp
    refine Wk.trans (Wk.adoptT 6 95 2 rfl) ?_
    exact Wk.go (fun b => b)
  · intro k hk _
    by_cases hk' : k < N
    · have hb := hlt k hk'
      have hb0 : 0 ≤ (k : Int) * s := Int.mul_nonneg (Int.natCast_nonneg k) (by omega)
      have e1 : ((k + 1 : Nat) : Int) * s = (k : Int) * s + s := by rw [show ((k + 1 : Nat) : Int) = (k : Int) + 1 by omega, Int.add_mul, Int.one_mul]
      have en := chL_snoc (dyH c s) k
      rw [dyH_lt hb, dyH_succ] at en
      clear hlt hNs
      generalize (k : Int) * s = u at *
      by_cases hm : c < u + s
      all_goals
        simp only [hm, if_true, if_false] at en
        repeat (first | refine Z1 ?_ | refine Z2 ?_ | (refine Z3 ?_; (repeat (first | (apply gS; first | refine go_no ?_ | refine go_f ?_ | refine gm ?_ | refine gp ?_))); refine T_nil ?_) | refine Z4 ?_ | refine Z5 ?_ | refine Z6 ?_ | refine Z7 ?_ | refine Z8 ?_ | refine Z9 ?_ | refine ZA ?_ | refine ZB ?_ | refine ZC ?_ | refine ZD ?_ | refine ZE ?_ | refine ZF ?_ | refine ZG ?_ | refine ZH ?_)
        refine kLoop_n ⟨hk', trivial, ?_⟩
        exact Wk.go (fun b => cond (Nat.beq b 0) 1 (b))
    · obtain rfl : k = N := by omega
      clear hlt
      repeat (first | refine Z1 ?_ | refine Z2 ?_ | (refine Z3 ?_; (repeat (first | (apply gS; first | refine go_no ?_ | refine go_f ?_ | refine gm ?_ | refine gp ?_))); refine T_nil ?_) | refine Z4 ?_ | refine Z5 ?_ | refine Z6 ?_ | refine Z7 ?_ | refine Z8 ?_ | refine Z9 ?_ | refine ZA ?_ | refine ZB ?_ | refine ZC ?_ | refine ZD ?_ | refine ZE ?_ | refine ZF ?_ | refine ZG ?_ | refine ZH ?_)
      repeat (first | refine kEnd_m ?_ | refine kEnd_f ?_)
      refine kEnd_g ?_ (by first | exact .inl rfl | exact .inr rfl)
      exact Sub.tup (.cons (Sub.eq (by show D.row k _ = D.row (chL _ k).length _; rw [chL_len]) rfl) (.cons (Sub.eq rfl rfl) .nil))
theorem rDyn_no (c n : Int) (h : (c < 0 ∨ 4096 < c) ∨ (0 ≤ c ∧ c ≤ 4096) ∧ (n < 1 ∨ 4096 < n)) : DC Try.prog 54 [iD c, iD n] (.tup [rowP [], iD 2]) := by
  rcases bad_two h with h1 | ⟨h1, h2⟩ | ⟨h1, h2, h3⟩ | ⟨h1, h2, h3, h4⟩
  all_goals
    clear h
    refine DC.of Try.func54 Try.ntmps54 Try.results54 rfl (by decide +kernel) rfl ?_
    repeat (first | refine Z1 ?_ | refine Z2 ?_ | (refine Z3 ?_; (repeat (first | (apply gS; first | refine go_no ?_ | refine go_f ?_ | refine gm ?_ | refine gp ?_))); refine T_nil ?_) | refine Z4 ?_ | refine Z5 ?_ | refine Z6 ?_ | refine Z7 ?_ | refine Z8 ?_ | refine Z9 ?_ | refine ZA ?_ | refine ZB ?_ | refine ZC ?_ | refine ZD ?_ | refine ZE ?_ | refine ZF ?_ | refine ZG ?_ | refine ZH ?_)
    repeat (first | refine kEnd_m ?_ | refine kEnd_f ?_)
    refine kEnd_g ?_ (by first | exact .inl rfl | exact .inr rfl)
    exact Sub.tup (.cons Sub.nil (.cons (Sub.eq rfl rfl) .nil))
end Go.Proofs.Ytfkojkciobdeoaa
