/- The range of a list: the reference's Of, by the abstract machine. -/
import Derived.Test.YtifapodobhkdcaaS4
import Derived.Test.YtifapodobhkdcaaDsMath
namespace Go.Proofs.Ytifapodobhkdcaa
open Go.RowKit
set_option linter.unusedVariables false
set_option maxHeartbeats 16000000
set_option linter.unusedSimpArgs false
set_option maxRecDepth 100000
theorem part_d (x : Rw) (i n : Int) (h1 : -9000000000000 ≤ i * x.s) (h2 : i * x.s ≤ 9000000000000) (h3 : -1099511627776 ≤ x.f) (h4 : x.f ≤ 1099511627776) : DC Try.prog 185 [wD x, iD i, iD n] (wD (partOf x i n)) := by
  refine DC.of Try.func185 Try.ntmps185 Try.results185 rfl (by decide +kernel) rfl ?_
  repeat (first | refine Z1 ?_ | refine Z2 ?_ | (refine Z3 ?_; (repeat (first | (apply gS; first | refine go_f ?_ | refine gm ?_ | refine gp ?_ | refine go_c rfl rfl (sAt_d x i h1 h2 h3 h4) ?_) | (apply gZ; first | refine go_f ?_ | refine gm ?_))); refine T_nil ?_) | (apply ZR; refine C_dr mixed ?_; (repeat (first | (apply vS; first | refine va ?_ | refine vp ?_ | refine vr ?_ | refine vt ?_ | refine vc (sAt_d x i h1 h2 h3 h4) ?_) | (apply vZ; first | refine vs ?_))); refine W_e ?_) | (apply ZK; first | refine Z4 ?_ | refine Z5 ?_) | refine Z6 ?_ | refine Z7 ?_)
  repeat (first | refine kEnd_m ?_ | refine kEnd_f ?_)
  refine kEnd_g ?_ (by first | exact .inl rfl | exact .inr rfl)
  exact Sub.eq rfl rfl
theorem cut_cases (x : Rw) (k : Int) : (0 ≤ k ∧ k ≤ x.n ∧ cutF x k = 0 ∧ cutN x k = k) ∨ (0 ≤ k ∧ x.n < k ∧ cutF x k = 0 ∧ cutN x k = x.n) ∨ (k < 0 ∧ k < -x.n ∧ cutF x k = 0 ∧ cutN x k = x.n) ∨ (k < 0 ∧ -x.n ≤ k ∧ cutF x k = x.n + k ∧ cutN x k = -k) := by
  unfold cutF cutN
  by_cases h0 : 0 ≤ k
  · rw [if_pos h0, if_pos h0]
    by_cases h1 : k ≤ x.n
    · rw [if_pos h1]; exact .inl ⟨h0, h1, rfl, rfl⟩
    · rw [if_neg h1]; exact .inr (.inl ⟨h0, by omega, rfl, rfl⟩)
  · rw [if_neg h0, if_neg h0]
    by_cases h1 : k < -x.n
    · rw [if_pos h1, if_pos h1]; exact .inr (.inr (.inl ⟨by omega, h1, rfl, rfl⟩))
    · rw [if_neg h1, if_neg h1]; exact .inr (.inr (.inr ⟨by omega, by omega, rfl, rfl⟩))
theorem cut_d (x : Rw) (k : Int) (n1 : 0 ≤ x.n) (n2 : x.n ≤ 4194304) (k1 : -9223372036854775808 ≤ k) (k2 : k ≤ 9223372036854775807) : DC Try.prog 188 [wD x, iD k] (.tup [iD (cutF x k), iD (cutN x k)]) := by
  rcases cut_cases x k with ⟨a, b, e1, e2⟩ | ⟨a, b, e1, e2⟩ | ⟨a, b, e1, e2⟩ | ⟨a, b, e1, e2⟩
  all_goals
    rw [e1, e2]
    refine DC.of Try.func188 Try.ntmps188 Try.results188 rfl (by decide +kernel) rfl ?_
    repeat (first | refine Z1 ?_ | refine Z2 ?_ | (refine Z3 ?_; (repeat (first | (apply gS; first | refine go_f ?_ | refine gm ?_ | refine gp ?_))); refine T_nil ?_) | (apply ZR; refine C_dr mixed ?_; (repeat (first | (apply vS; first | refine va ?_ | refine vp ?_ | refine vr ?_ | refine vt ?_))); refine W_e ?_) | (apply ZK; first | refine Z4 ?_ | refine Z5 ?_) | refine Z6 ?_ | refine Z7 ?_ | refine ZF ?_)
    repeat (first | refine kEnd_m ?_ | refine kEnd_f ?_)
    refine kEnd_g ?_ (by first | exact .inl rfl | exact .inr rfl)
    first | exact Sub.eq rfl rfl | exact Sub.eq (by simp [tupD]; omega) rfl | exact Sub.eq (by simp [tupD]) rfl
theorem sTake_d (r : Rg) (k : Int) (k1 : -9223372036854775808 ≤ k) (k2 : k ≤ 9223372036854775807) : DC Try.prog 170 [rD r, iD k] (.tup [rD (takeRes r k).1, iD (takeRes r k).2]) := by
  cases hv : vB r with
  | false =>
    rw [show takeRes r k = (⟨0, 0, 0⟩, 30) from if_neg (by rw [hv]; decide)]
    refine DC.of Try.func170 Try.ntmps170 Try.results170 rfl (by decide +kernel) rfl ?_
    repeat (first | refine Z1 ?_ | refine Z2 ?_ | (refine Z3 ?_; (repeat (first | (apply gS; first | refine go_f ?_ | refine gm ?_ | refine gp ?_ | refine go_c rfl rfl (sValid_b _ _ _ hv) ?_) | (apply gZ; first | refine go_f ?_ | refine gm ?_))); refine T_nil ?_) | (apply ZK; first | refine Z4 ?_ | refine Z5 ?_) | refine Z6 ?_ | refine Z7 ?_ | refine ZF ?_)
    repeat (first | refine kEnd_m ?_ | refine kEnd_f ?_)
    refine kEnd_g ?_ (by first | exact .inl rfl | exact .inr rfl)
    exact Sub.eq rfl rfl
  | true =>
    have hr := vB_okS hv
    obtain ⟨n1, n2⟩ := rowOf_n_bd hr
    obtain ⟨f1, f2⟩ := rowOf_f_bd hr
    obtain ⟨c1, c2, c3, c4, c5⟩ := cut_bd n1 k
    obtain ⟨p1, p2⟩ := at_bd hr c1 (by omega)
    obtain ⟨hx, hs⟩ := take_tame (row_tame hr) k
    rw [show takeRes r k = (doneV (takeRow (rowOf r) k), doneE (takeRow (rowOf r) k)) from if_pos hv]
    refine DC.of Try.func170 Try.ntmps170 Try.results170 rfl (by decide +kernel) rfl ?_
    repeat (first | refine Z1 ?_ | refine Z2 ?_ | (refine Z3 ?_; (repeat (first | (apply gS; first | refine go_f ?_ | refine gm ?_ | refine gp ?_ | refine go_c rfl rfl (sValid_b _ _ _ hv) ?_ | refine go_c rfl rfl (rowOf_r r hr) ?_ | refine go_c rfl rfl (cut_d (rowOf r) k n1 (by omega) k1 k2) ?_ | refine go_c rfl rfl (part_d (rowOf r) _ _ p1 p2 (by omega) (by omega)) ?_ | refine go_c rfl rfl (sDone_d (takeRow (rowOf r) k) hx hs) ?_) | (apply gZ; first | refine go_f ?_ | refine gm ?_))); refine T_nil ?_) | (apply ZK; first | refine Z4 ?_ | refine Z5 ?_) | refine Z6 ?_ | refine Z7 ?_ | refine ZF ?_)
    repeat (first | refine kEnd_m ?_ | refine kEnd_f ?_)
    refine kEnd_g ?_ (by first | exact .inl rfl | exact .inr rfl)
    exact Sub.eq rfl rfl
theorem sShift_d (r : Rg) (k : Int) : DC Try.prog 105 [rD r, iD k] (.tup [rD (shiftRes r k).1, iD (shiftRes r k).2]) := by
  cases hv : vB r with
  | false =>
    rw [show shiftRes r k = (⟨0, 0, 0⟩, 30) from if_neg (by rw [hv]; decide)]
    refine DC.of Try.func105 Try.ntmps105 Try.results105 rfl (by decide +kernel) rfl ?_
    repeat (first | refine Z1 ?_ | refine Z2 ?_ | (refine Z3 ?_; (repeat (first | (apply gS; first | refine go_f ?_ | refine gm ?_ | refine gp ?_ | refine go_c rfl rfl (sValid_b _ _ _ hv) ?_) | (apply gZ; first | refine go_f ?_ | refine gm ?_))); refine T_nil ?_) | (apply ZK; first | refine Z4 ?_ | refine Z5 ?_) | refine Z6 ?_ | refine Z7 ?_ | refine ZF ?_)
    repeat (first | refine kEnd_m ?_ | refine kEnd_f ?_)
    refine kEnd_g ?_ (by first | exact .inl rfl | exact .inr rfl)
    exact Sub.eq rfl rfl
  | true =>
    have hr := vB_okS hv
    obtain ⟨f1, f2⟩ := rowOf_f_bd hr
    obtain ⟨hx, hs⟩ := rowOf_small hr
    by_cases hk : -1000000 ≤ k ∧ k ≤ 1000000
    · have hx' : Rw.small ⟨(rowOf r).f + k, (rowOf r).s, (rowOf r).n⟩ := by
        obtain ⟨a, b, c, d, e, f⟩ := hx
        exact ⟨by simp only; omega, by simp only; omega, c, d, e, f⟩
      rw [show shiftRes r k = (doneV ⟨(rowOf r).f + k, (rowOf r).s, (rowOf r).n⟩, doneE ⟨(rowOf r).f + k, (rowOf r).s, (rowOf r).n⟩) from (if_pos hv).trans (if_pos hk)]
      refine DC.of Try.func105 Try.ntmps105 Try.results105 rfl (by decide +kernel) rfl ?_
      repeat (first | refine Z1 ?_ | refine Z2 ?_ | (refine Z3 ?_; (repeat (first | (apply gS; first | refine go_f ?_ | refine gm ?_ | refine gp ?_ | refine go_c rfl rfl (sValid_b _ _ _ hv) ?_ | refine go_c rfl rfl (rowOf_r r hr) ?_ | refine go_c rfl rfl (within_t _ _ _ (by omega) (by omega)) ?_ | refine go_c rfl rfl (sDone_d ⟨(rowOf r).f + k, (rowOf r).s, (rowOf r).n⟩ hx' hs) ?_) | (apply gZ; first | refine go_f ?_ | refine gm ?_))); refine T_nil ?_) | (apply ZK; first | refine Z4 ?_ | refine Z5 ?_) | refine Z6 ?_ | refine Z7 ?_ | refine ZF ?_)
      repeat (first | refine kEnd_m ?_ | refine kEnd_f ?_)
      refine kEnd_g ?_ (by first | exact .inl rfl | exact .inr rfl)
      exact Sub.eq rfl rfl
    · rw [show shiftRes r k = (⟨0, 0, 0⟩, 2) from (if_pos hv).trans (if_neg hk)]
      refine DC.of Try.func105 Try.ntmps105 Try.results105 rfl (by decide +kernel) rfl ?_
      repeat (first | refine Z1 ?_ | refine Z2 ?_ | (refine Z3 ?_; (repeat (first | (apply gS; first | refine go_f ?_ | refine gm ?_ | refine gp ?_ | refine go_c rfl rfl (sValid_b _ _ _ hv) ?_ | refine go_c rfl rfl (within_f _ _ _ (by omega)) ?_) | (apply gZ; first | refine go_f ?_ | refine gm ?_))); refine T_nil ?_) | (apply ZK; first | refine Z4 ?_ | refine Z5 ?_) | refine Z6 ?_ | refine Z7 ?_ | refine ZF ?_)
      repeat (first | refine kEnd_m ?_ | refine kEnd_f ?_)
      refine kEnd_g ?_ (by first | exact .inl rfl | exact .inr rfl)
      exact Sub.eq rfl rfl
end Go.Proofs.Ytifapodobhkdcaa
namespace Go.Proofs.Ytifapodobhkdcaa
open Go.RowKit
set_option linter.unusedVariables false
set_option maxHeartbeats 16000000
set_option linter.unusedSimpArgs false
set_option maxRecDepth 100000
inductive RCs (I : Nat → Prop) (w : World) : List D → List Value → Prop
  | nil : RCs I w [] []
  | cons {d : D} {v : Value} {ds : List D} {vs : List Value} (h : RC I w d v) (k : RCs I w ds vs) : RCs I w (d :: ds) (v :: vs)
theorem RCs.all {I : Nat → Prop} {w : World} {ds : List D} {vs : List Value} (h : RCs I w ds vs) : ds.length = vs.length ∧ ∀ (j : Nat) (d : D) (v : Value), ds[j]? = some d → vs[j]? = some v → RC I w d v := by
  induction h with
  | nil => exact ⟨rfl, fun j d v h => by simp at h⟩
  | cons h k ih =>
    refine ⟨by simp [ih.1], fun j d v h1 h2 => ?_⟩
    cases j with
    | zero => simp at h1 h2; subst h1; subst h2; exact h
    | succ j => exact ih.2 j d v (by simpa using h1) (by simpa using h2)
theorem RC.int (I : Nat → Prop) (w : World) (n : Int) : RC I w (iD n) (.int .i64 n) := .val _ rfl
theorem RC.rg (I : Nat → Prop) (w : World) (a b c : Int) : RC I w (.agg [iD a, iD b, iD c]) (.agg #[.int .i64 a, .int .i64 b, .int .i64 c]) :=
  .agg (us := [.int .i64 a, .int .i64 b, .int .i64 c]) rfl (fun u hu => by simp at hu; rcases hu with rfl | rfl | rfl <;> rfl) (RCs.all (.cons (.int I w a) (.cons (.int I w b) (.cons (.int I w c) .nil)))).2
theorem RC.ints {w : World} {v : Value} {l : List Int} (h : IntsIn w v l) : RC (fun b => b < w.heap.size) w (rowI l) v := by
  obtain ⟨ao, cap, b, off, rfl, hc, hm, ha, hcell, hok, hnil⟩ := h
  refine .row hc hm hnil (us := l.map (Value.int .i64)) (b := b) (off := off) (by simp) (fun h => ?_) (fun j u hu => ?_) (fun u hu => by simp at hu; obtain ⟨_, _, rfl⟩ := hu; rfl) (fun j d u h1 h2 => ?_)
  · have h0 : 0 < l.length := by simpa using h
    exact ⟨ha h0, World.block_lt_of_cell? w _ (hcell 0 h0)⟩
  · have hj : j < l.length := by have := (List.getElem?_eq_some_iff.1 hu).1; simpa using this
    rw [hcell j hj, at_eq l j hj]
    simpa [hj] using hu
  · rw [List.getElem?_map] at h1 h2
    cases hl : l[j]? with
    | none => rw [hl] at h1; cases h1
    | some n => rw [hl] at h1 h2; cases h1; cases h2; exact .int _ _ n
theorem DC.law {P : Program} {f : Nat} {ds : List D} {vs : List Value} {w : World} (h : DC P f ds (bD true)) (hv : RCs (fun b => b < w.heap.size) w ds vs) : Calls P f vs.toArray w fun e w' => e = .returned (.bool true) ∧ Below w.heap.size w w' := by
  obtain ⟨h1, h2⟩ := hv.all
  refine (h.calls w _ vs (fun b hb => hb) h1 h2).mono ?_
  rintro e w' ⟨v, rfl, hr, hl⟩
  cases hr
  exact ⟨rfl, hl⟩
theorem first_d : DC Try.prog 24 [] (bD true) := by
  have M := sMembers_d ⟨1, 10, -3⟩
  have e : membersRes ⟨1, 10, -3⟩ = ([10, 7, 4, 1], 0) := by decide
  rw [e] at M
  have S := sameInts_d [10, 7, 4, 1] [10, 7, 4, 1] (by decide)
  rw [decide_eq_true rfl] at S
  refine DC.of Try.func24 Try.ntmps24 Try.results24 rfl (by decide +kernel) rfl ?_
  repeat (first | refine Z1 ?_ | refine Z2 ?_ | (refine Z3 ?_; (repeat (first | (apply gS; first | refine go_no ?_ | refine go_f ?_ | refine gm ?_ | refine gp ?_ | refine go_c rfl rfl (M) ?_ | refine go_c rfl rfl (S) ?_))); refine T_nil ?_) | (apply ZK; first | refine Z4 ?_ | refine Z5 ?_) | refine Z6 ?_ | refine Z7 ?_)
  repeat (first | refine kEnd_m ?_ | refine kEnd_f ?_)
  refine kEnd_g ?_ (by first | exact .inl rfl | exact .inr rfl)
  exact Sub.eq rfl rfl
end Go.Proofs.Ytifapodobhkdcaa
namespace Go.Proofs.Ytifapodobhkdcaa
open Go.RowKit
set_option linter.unusedVariables false
set_option maxHeartbeats 16000000
set_option linter.unusedSimpArgs false
set_option maxRecDepth 100000
def ofS (l : List Int) : Int := if h : 1 < l.length then l[1] - l[0] else 1
def ofF (l : List Int) : Int := if h : 0 < l.length then l[0] else 0
def ofRow (l : List Int) : Rw := ⟨ofF l, ofS l, l.length⟩
def ofGood (l : List Int) : Prop := -1000 ≤ ofS l ∧ ofS l ≤ 1000 ∧ ofS l ≠ 0 ∧ ∀ j (h : j < l.length), (-1000000 ≤ l[j] ∧ l[j] ≤ 1000000) ∧ l[j] = atOf (ofRow l) j
instance (l : List Int) : Decidable (ofGood l) := by unfold ofGood; infer_instance
def ofRes (l : List Int) : Rg × Int := if ofGood l then (canonOf (ofRow l), 0) else (⟨0, 0, 0⟩, 5)
theorem of_yes {l : List Int} (h : ofGood l) : ofRes l = (canonOf (ofRow l), 0) := if_pos h
theorem of_no {l : List Int} (h : ¬ ofGood l) : ofRes l = (⟨0, 0, 0⟩, 5) := if_neg h
theorem ofS_1 {l : List Int} (h : l.length ≤ 1) : ofS l = 1 := dif_neg (by omega)
theorem ofS_2 {l : List Int} (h : 1 < l.length) : ofS l = l[1] - l[0] := dif_pos h
theorem ofF_0 {l : List Int} (h : l.length = 0) : ofF l = 0 := dif_neg (by omega)
theorem ofF_1 {l : List Int} (h : 0 < l.length) : ofF l = l[0] := dif_pos h
set_option maxHeartbeats 4000000 in
theorem sOfP_d (l : List Int) (hl : l.length ≤ 5000) : DC Try.prog 190 [rowI l] (.tup [rD (ofRes l).1, iD (ofRes l).2]) := by
  by_cases c0 : l.length = 0
  · have es := ofS_1 (l := l) (by omega)
    have er : ofRow l = ⟨0, 1, l.length⟩ := by unfold ofRow; rw [es, ofF_0 c0]
    refine DC.of Try.func190 Try.ntmps190 Try.results190 rfl (by decide +kernel) rfl ?_
    repeat (first | refine Z1 ?_ | refine Z2 ?_ | (refine Z3 ?_; (repeat (first | (apply gS; first | refine go_no ?_ | refine go_f ?_ | refine gm ?_ | refine gp ?_) | (apply gZ; first | refine go_f ?_ | refine gm ?_))); refine T_nil ?_) | (apply ZR; refine C_dr mixed ?_; (repeat (first | (apply vS; first | refine vn ?_ | refine va ?_ | refine vp ?_ | refine vr ?_ | refine vt ?_) | (apply vZ; first | refine vs ?_))); refine W_e ?_) | (apply ZK; first | refine Z4 ?_ | refine Z5 ?_) | refine Z6 ?_ | refine Z7 ?_ | refine Z8 ?_ | refine Z9 ?_ | refine ZA ?_ | refine ZB ?_ | refine ZC ?_ | refine ZD ?_ | refine ZE ?_ | refine ZF ?_ | refine ZG ?_ | refine ZH ?_)
    refine C_count l.length (fun k => ∀ j (h : j < l.length), j < k → (-1000000 ≤ l[j] ∧ l[j] ≤ 1000000) ∧ l[j] = atOf ⟨0, 1, l.length⟩ j) (fun k => ⟨2, 76, [(57, iD k), (56, iD l.length), (55, rowI l), (4, .ptr 1 0), (3, iD 0), (2, .ptr 0 0)], [(0, some ⟨39, 3, 1, [iD 0, iD 0, iD 0]⟩), (1, some ⟨121, 3, 1, [iD (0), iD (1), iD l.length]⟩)]⟩) ?_ (fun j _ h => absurd h (by omega)) ?_
    · exact Wk.go (fun b => b)
    · intro k hk hΦ
      obtain ⟨p1, p2⟩ := prod_small (a := (k : Int)) (b := 1) (by omega) (by omega) (by omega) (by omega)
      by_cases hlt : k < l.length
      · exact absurd hlt (by omega)
      · have hg : ofGood l := ⟨by rw [es]; omega, by rw [es]; omega, by rw [es]; omega, fun j h => by rw [er]; exact hΦ j h (by omega)⟩
        rw [of_yes hg, er]
        have C := sCanon_d ⟨0, 1, l.length⟩ (by unfold Rw.small; refine ⟨?_, ?_, ?_, ?_, ?_, ?_⟩ <;> simp only <;> omega) (by simp only; omega)
        repeat (first | refine Z1 ?_ | refine Z2 ?_ | (refine Z3 ?_; (repeat (first | (apply gS; first | refine go_no ?_ | refine go_f ?_ | refine gm ?_ | refine gp ?_ | refine go_c rfl rfl (C) ?_) | (apply gZ; first | refine go_f ?_ | refine gm ?_))); refine T_nil ?_) | (apply ZR; refine C_dr mixed ?_; (repeat (first | (apply vS; first | refine vn ?_ | refine va ?_ | refine vp ?_ | refine vr ?_ | refine vt ?_ | refine vc (C) ?_) | (apply vZ; first | refine vs ?_))); refine W_e ?_) | (apply ZK; first | refine Z4 ?_ | refine Z5 ?_) | refine Z6 ?_ | refine Z7 ?_ | refine Z8 ?_ | refine Z9 ?_ | refine ZA ?_ | refine ZB ?_ | refine ZC ?_ | refine ZD ?_ | refine ZE ?_ | refine ZF ?_ | refine ZG ?_ | refine ZH ?_)
        repeat (first | refine kEnd_m ?_ | refine kEnd_f ?_)
        refine kEnd_g ?_ (by first | exact .inl rfl | exact .inr rfl)
        exact Sub.eq rfl rfl
  by_cases c1 : l.length = 1
  · have es := ofS_1 (l := l) (by omega)
    have er : ofRow l = ⟨l[0], 1, l.length⟩ := by unfold ofRow; rw [es, ofF_1 (by omega)]
    by_cases n0 : -1000000 ≤ l[0] ∧ l[0] ≤ 1000000
    case neg =>
      rw [of_no (fun g => n0 (g.2.2.2 0 (by omega)).1)]
      refine DC.of Try.func190 Try.ntmps190 Try.results190 rfl (by decide +kernel) rfl ?_
      repeat (first | refine Z1 ?_ | refine Z2 ?_ | (refine Z3 ?_; (repeat (first | (apply gS; first | refine go_no ?_ | refine go_f ?_ | refine gm ?_ | refine gp ?_) | (apply gZ; first | refine go_f ?_ | refine gm ?_))); refine T_nil ?_) | (apply ZR; refine C_dr mixed ?_; (repeat (first | (apply vS; first | refine vn ?_ | refine va ?_ | refine vp ?_ | refine vr ?_ | refine vt ?_) | (apply vZ; first | refine vs ?_))); refine W_e ?_) | (apply ZK; first | refine Z4 ?_ | refine Z5 ?_) | refine Z6 ?_ | refine Z7 ?_ | refine Z8 ?_ | refine Z9 ?_ | refine ZA ?_ | refine ZB ?_ | refine ZC ?_ | refine ZD ?_ | refine ZE ?_ | refine ZF ?_ | refine ZG ?_ | refine ZH ?_)
      refine C_count l.length (fun k => k = 0) (fun k => ⟨2, 76, [(57, iD k), (56, iD l.length), (55, rowI l), (4, .ptr 1 0), (3, iD 0), (2, .ptr 0 0)], [(0, some ⟨39, 3, 1, [iD 0, iD 0, iD 0]⟩), (1, some ⟨121, 3, 1, [iD l[0], iD 1, iD l.length]⟩)]⟩) ?_ rfl ?_
      · exact Wk.go (fun b => b)
      · intro k hk hΦ
        subst hΦ
        have hlt : ((0 : Nat) : Int) < l.length := by omega
        have h0 : 0 < l.length := by omega
        repeat (first | refine Z1 ?_ | refine Z2 ?_ | (refine Z3 ?_; (repeat (first | (apply gS; first | refine go_no ?_ | refine go_f ?_ | refine gm ?_ | refine gp ?_ | refine go_c rfl rfl (near_f l[0] (by omega)) ?_) | (apply gZ; first | refine go_f ?_ | refine gm ?_))); refine T_nil ?_) | (apply ZR; refine C_dr mixed ?_; (repeat (first | (apply vS; first | refine vn ?_ | refine va ?_ | refine vp ?_ | refine vr ?_ | refine vt ?_ | refine vc (near_f l[0] (by omega)) ?_) | (apply vZ; first | refine vs ?_))); refine W_e ?_) | (apply ZK; first | refine Z4 ?_ | refine Z5 ?_) | refine Z6 ?_ | refine Z7 ?_ | refine Z8 ?_ | refine Z9 ?_ | refine ZA ?_ | refine ZB ?_ | refine ZC ?_ | refine ZD ?_ | refine ZE ?_ | refine ZF ?_ | refine ZG ?_ | refine ZH ?_)
        repeat (first | refine kEnd_m ?_ | refine kEnd_f ?_)
        refine kEnd_g ?_ (by first | exact .inl rfl | exact .inr rfl)
        exact Sub.eq rfl rfl
    refine DC.of Try.func190 Try.ntmps190 Try.results190 rfl (by decide +kernel) rfl ?_
    repeat (first | refine Z1 ?_ | refine Z2 ?_ | (refine Z3 ?_; (repeat (first | (apply gS; first | refine go_no ?_ | refine go_f ?_ | refine gm ?_ | refine gp ?_) | (apply gZ; first | refine go_f ?_ | refine gm ?_))); refine T_nil ?_) | (apply ZR; refine C_dr mixed ?_; (repeat (first | (apply vS; first | refine vn ?_ | refine va ?_ | refine vp ?_ | refine vr ?_ | refine vt ?_) | (apply vZ; first | refine vs ?_))); refine W_e ?_) | (apply ZK; first | refine Z4 ?_ | refine Z5 ?_) | refine Z6 ?_ | refine Z7 ?_ | refine Z8 ?_ | refine Z9 ?_ | refine ZA ?_ | refine ZB ?_ | refine ZC ?_ | refine ZD ?_ | refine ZE ?_ | refine ZF ?_ | refine ZG ?_ | refine ZH ?_)
    refine C_count l.length (fun k => ∀ j (h : j < l.length), j < k → (-1000000 ≤ l[j] ∧ l[j] ≤ 1000000) ∧ l[j] = atOf ⟨l[0], 1, l.length⟩ j) (fun k => ⟨2, 76, [(57, iD k), (56, iD l.length), (55, rowI l), (4, .ptr 1 0), (3, iD 0), (2, .ptr 0 0)], [(0, some ⟨39, 3, 1, [iD 0, iD 0, iD 0]⟩), (1, some ⟨121, 3, 1, [iD (l[0]), iD (1), iD l.length]⟩)]⟩) ?_ (fun j _ h => absurd h (by omega)) ?_
    · exact Wk.go (fun b => b)
    · intro k hk hΦ
      obtain ⟨p1, p2⟩ := prod_small (a := (k : Int)) (b := 1) (by omega) (by omega) (by omega) (by omega)
      by_cases hlt : k < l.length
      · by_cases hn : -1000000 ≤ l[k] ∧ l[k] ≤ 1000000
        · have A := sAt_d ⟨l[0], 1, l.length⟩ k (by simp only; omega) (by simp only; omega) (by simp only; omega) (by simp only; omega)
          by_cases he : l[k] = atOf ⟨l[0], 1, l.length⟩ k
          · repeat (first | refine Z1 ?_ | refine Z2 ?_ | (refine Z3 ?_; (repeat (first | (apply gS; first | refine go_no ?_ | refine go_f ?_ | refine gm ?_ | refine gp ?_ | refine go_c rfl rfl (near_t l[k] hn.1 hn.2) ?_ | refine go_c rfl rfl (A) ?_) | (apply gZ; first | refine go_f ?_ | refine gm ?_))); refine T_nil ?_) | (apply ZR; refine C_dr mixed ?_; (repeat (first | (apply vS; first | refine vn ?_ | refine va ?_ | refine vp ?_ | refine vr ?_ | refine vt ?_ | refine vc (near_t l[k] hn.1 hn.2) ?_ | refine vc (A) ?_) | (apply vZ; first | refine vs ?_))); refine W_e ?_) | (apply ZK; first | refine Z4 ?_ | refine Z5 ?_) | refine Z6 ?_ | refine Z7 ?_ | refine Z8 ?_ | refine Z9 ?_ | refine ZA ?_ | refine ZB ?_ | refine ZC ?_ | refine ZD ?_ | refine ZE ?_ | refine ZF ?_ | refine ZG ?_ | refine ZH ?_)
            refine kLoop_n ⟨hlt, fun j h hj => ?_, ?_⟩
            · by_cases e : j = k
              · subst e; exact ⟨hn, he⟩
              · exact hΦ j h (by omega)
            · exact Wk.go (fun b => b)
          · rw [of_no (fun g => he (by have := (g.2.2.2 k hlt).2; rwa [er] at this))]
            repeat (first | refine Z1 ?_ | refine Z2 ?_ | (refine Z3 ?_; (repeat (first | (apply gS; first | refine go_no ?_ | refine go_f ?_ | refine gm ?_ | refine gp ?_ | refine go_c rfl rfl (near_t l[k] hn.1 hn.2) ?_ | refine go_c rfl rfl (A) ?_) | (apply gZ; first | refine go_f ?_ | refine gm ?_))); refine T_nil ?_) | (apply ZR; refine C_dr mixed ?_; (repeat (first | (apply vS; first | refine vn ?_ | refine va ?_ | refine vp ?_ | refine vr ?_ | refine vt ?_ | refine vc (near_t l[k] hn.1 hn.2) ?_ | refine vc (A) ?_) | (apply vZ; first | refine vs ?_))); refine W_e ?_) | (apply ZK; first | refine Z4 ?_ | refine Z5 ?_) | refine Z6 ?_ | refine Z7 ?_ | refine Z8 ?_ | refine Z9 ?_ | refine ZA ?_ | refine ZB ?_ | refine ZC ?_ | refine ZD ?_ | refine ZE ?_ | refine ZF ?_ | refine ZG ?_ | refine ZH ?_)
            repeat (first | refine kEnd_m ?_ | refine kEnd_f ?_)
            refine kEnd_g ?_ (by first | exact .inl rfl | exact .inr rfl)
            exact Sub.eq rfl rfl
        · rw [of_no (fun g => hn (g.2.2.2 k hlt).1)]
          repeat (first | refine Z1 ?_ | refine Z2 ?_ | (refine Z3 ?_; (repeat (first | (apply gS; first | refine go_no ?_ | refine go_f ?_ | refine gm ?_ | refine gp ?_ | refine go_c rfl rfl (near_f l[k] (by omega)) ?_) | (apply gZ; first | refine go_f ?_ | refine gm ?_))); refine T_nil ?_) | (apply ZR; refine C_dr mixed ?_; (repeat (first | (apply vS; first | refine vn ?_ | refine va ?_ | refine vp ?_ | refine vr ?_ | refine vt ?_ | refine vc (near_f l[k] (by omega)) ?_) | (apply vZ; first | refine vs ?_))); refine W_e ?_) | (apply ZK; first | refine Z4 ?_ | refine Z5 ?_) | refine Z6 ?_ | refine Z7 ?_ | refine Z8 ?_ | refine Z9 ?_ | refine ZA ?_ | refine ZB ?_ | refine ZC ?_ | refine ZD ?_ | refine ZE ?_ | refine ZF ?_ | refine ZG ?_ | refine ZH ?_)
          repeat (first | refine kEnd_m ?_ | refine kEnd_f ?_)
          refine kEnd_g ?_ (by first | exact .inl rfl | exact .inr rfl)
          exact Sub.eq rfl rfl
      · have hg : ofGood l := ⟨by rw [es]; omega, by rw [es]; omega, by rw [es]; omega, fun j h => by rw [er]; exact hΦ j h (by omega)⟩
        rw [of_yes hg, er]
        have C := sCanon_d ⟨l[0], 1, l.length⟩ (by unfold Rw.small; refine ⟨?_, ?_, ?_, ?_, ?_, ?_⟩ <;> simp only <;> omega) (by simp only; omega)
        repeat (first | refine Z1 ?_ | refine Z2 ?_ | (refine Z3 ?_; (repeat (first | (apply gS; first | refine go_no ?_ | refine go_f ?_ | refine gm ?_ | refine gp ?_ | refine go_c rfl rfl (C) ?_) | (apply gZ; first | refine go_f ?_ | refine gm ?_))); refine T_nil ?_) | (apply ZR; refine C_dr mixed ?_; (repeat (first | (apply vS; first | refine vn ?_ | refine va ?_ | refine vp ?_ | refine vr ?_ | refine vt ?_ | refine vc (C) ?_) | (apply vZ; first | refine vs ?_))); refine W_e ?_) | (apply ZK; first | refine Z4 ?_ | refine Z5 ?_) | refine Z6 ?_ | refine Z7 ?_ | refine Z8 ?_ | refine Z9 ?_ | refine ZA ?_ | refine ZB ?_ | refine ZC ?_ | refine ZD ?_ | refine ZE ?_ | refine ZF ?_ | refine ZG ?_ | refine ZH ?_)
        repeat (first | refine kEnd_m ?_ | refine kEnd_f ?_)
        refine kEnd_g ?_ (by first | exact .inl rfl | exact .inr rfl)
        exact Sub.eq rfl rfl
  have es := ofS_2 (l := l) (by omega)
  have er : ofRow l = ⟨l[0], l[1] - l[0], l.length⟩ := by unfold ofRow; rw [es, ofF_1 (by omega)]
  by_cases n0 : -1000000 ≤ l[0] ∧ l[0] ≤ 1000000
  case neg =>
    rw [of_no (fun g => n0 (g.2.2.2 0 (by omega)).1)]
    refine DC.of Try.func190 Try.ntmps190 Try.results190 rfl (by decide +kernel) rfl ?_
    repeat (first | refine Z1 ?_ | refine Z2 ?_ | (refine Z3 ?_; (repeat (first | (apply gS; first | refine go_no ?_ | refine go_f ?_ | refine gm ?_ | refine gp ?_ | refine go_c rfl rfl (near_f l[0] (by omega)) ?_) | (apply gZ; first | refine go_f ?_ | refine gm ?_))); refine T_nil ?_) | (apply ZR; refine C_dr mixed ?_; (repeat (first | (apply vS; first | refine vn ?_ | refine va ?_ | refine vp ?_ | refine vr ?_ | refine vt ?_ | refine vc (near_f l[0] (by omega)) ?_) | (apply vZ; first | refine vs ?_))); refine W_e ?_) | (apply ZK; first | refine Z4 ?_ | refine Z5 ?_) | refine Z6 ?_ | refine Z7 ?_ | refine Z8 ?_ | refine Z9 ?_ | refine ZA ?_ | refine ZB ?_ | refine ZC ?_ | refine ZD ?_ | refine ZE ?_ | refine ZF ?_ | refine ZG ?_ | refine ZH ?_)
    repeat (first | refine kEnd_m ?_ | refine kEnd_f ?_)
    refine kEnd_g ?_ (by first | exact .inl rfl | exact .inr rfl)
    exact Sub.eq rfl rfl
  by_cases n1 : -1000000 ≤ l[1] ∧ l[1] ≤ 1000000
  case neg =>
    rw [of_no (fun g => n1 (g.2.2.2 1 (by omega)).1)]
    refine DC.of Try.func190 Try.ntmps190 Try.results190 rfl (by decide +kernel) rfl ?_
    repeat (first | refine Z1 ?_ | refine Z2 ?_ | (refine Z3 ?_; (repeat (first | (apply gS; first | refine go_no ?_ | refine go_f ?_ | refine gm ?_ | refine gp ?_ | refine go_c rfl rfl (near_t l[0] n0.1 n0.2) ?_ | refine go_c rfl rfl (near_f l[1] (by omega)) ?_) | (apply gZ; first | refine go_f ?_ | refine gm ?_))); refine T_nil ?_) | (apply ZR; refine C_dr mixed ?_; (repeat (first | (apply vS; first | refine vn ?_ | refine va ?_ | refine vp ?_ | refine vr ?_ | refine vt ?_ | refine vc (near_t l[0] n0.1 n0.2) ?_ | refine vc (near_f l[1] (by omega)) ?_) | (apply vZ; first | refine vs ?_))); refine W_e ?_) | (apply ZK; first | refine Z4 ?_ | refine Z5 ?_) | refine Z6 ?_ | refine Z7 ?_ | refine Z8 ?_ | refine Z9 ?_ | refine ZA ?_ | refine ZB ?_ | refine ZC ?_ | refine ZD ?_ | refine ZE ?_ | refine ZF ?_ | refine ZG ?_ | refine ZH ?_)
    repeat (first | refine kEnd_m ?_ | refine kEnd_f ?_)
    refine kEnd_g ?_ (by first | exact .inl rfl | exact .inr rfl)
    exact Sub.eq rfl rfl
  by_cases z0 : l[1] - l[0] = 0
  · rw [of_no (fun g => by obtain ⟨g1, g2, g3, _⟩ := g; omega)]
    refine DC.of Try.func190 Try.ntmps190 Try.results190 rfl (by decide +kernel) rfl ?_
    repeat (first | refine Z1 ?_ | refine Z2 ?_ | (refine Z3 ?_; (repeat (first | (apply gS; first | refine go_no ?_ | refine go_f ?_ | refine gm ?_ | refine gp ?_ | refine go_c rfl rfl (near_t l[0] n0.1 n0.2) ?_ | refine go_c rfl rfl (near_t l[1] n1.1 n1.2) ?_) | (apply gZ; first | refine go_f ?_ | refine gm ?_))); refine T_nil ?_) | (apply ZR; refine C_dr mixed ?_; (repeat (first | (apply vS; first | refine vn ?_ | refine va ?_ | refine vp ?_ | refine vr ?_ | refine vt ?_ | refine vc (near_t l[0] n0.1 n0.2) ?_ | refine vc (near_t l[1] n1.1 n1.2) ?_) | (apply vZ; first | refine vs ?_))); refine W_e ?_) | (apply ZK; first | refine Z4 ?_ | refine Z5 ?_) | refine Z6 ?_ | refine Z7 ?_ | refine Z8 ?_ | refine Z9 ?_ | refine ZA ?_ | refine ZB ?_ | refine ZC ?_ | refine ZD ?_ | refine ZE ?_ | refine ZF ?_ | refine ZG ?_ | refine ZH ?_)
    repeat (first | refine kEnd_m ?_ | refine kEnd_f ?_)
    refine kEnd_g ?_ (by first | exact .inl rfl | exact .inr rfl)
    exact Sub.eq rfl rfl
  by_cases z1 : l[1] - l[0] < -1000
  · rw [of_no (fun g => by obtain ⟨g1, g2, g3, _⟩ := g; omega)]
    refine DC.of Try.func190 Try.ntmps190 Try.results190 rfl (by decide +kernel) rfl ?_
    repeat (first | refine Z1 ?_ | refine Z2 ?_ | (refine Z3 ?_; (repeat (first | (apply gS; first | refine go_no ?_ | refine go_f ?_ | refine gm ?_ | refine gp ?_ | refine go_c rfl rfl (near_t l[0] n0.1 n0.2) ?_ | refine go_c rfl rfl (near_t l[1] n1.1 n1.2) ?_) | (apply gZ; first | refine go_f ?_ | refine gm ?_))); refine T_nil ?_) | (apply ZR; refine C_dr mixed ?_; (repeat (first | (apply vS; first | refine vn ?_ | refine va ?_ | refine vp ?_ | refine vr ?_ | refine vt ?_ | refine vc (near_t l[0] n0.1 n0.2) ?_ | refine vc (near_t l[1] n1.1 n1.2) ?_) | (apply vZ; first | refine vs ?_))); refine W_e ?_) | (apply ZK; first | refine Z4 ?_ | refine Z5 ?_) | refine Z6 ?_ | refine Z7 ?_ | refine Z8 ?_ | refine Z9 ?_ | refine ZA ?_ | refine ZB ?_ | refine ZC ?_ | refine ZD ?_ | refine ZE ?_ | refine ZF ?_ | refine ZG ?_ | refine ZH ?_)
    repeat (first | refine kEnd_m ?_ | refine kEnd_f ?_)
    refine kEnd_g ?_ (by first | exact .inl rfl | exact .inr rfl)
    exact Sub.eq rfl rfl
  by_cases z2 : 1000 < l[1] - l[0]
  · rw [of_no (fun g => by obtain ⟨g1, g2, g3, _⟩ := g; omega)]
    refine DC.of Try.func190 Try.ntmps190 Try.results190 rfl (by decide +kernel) rfl ?_
    repeat (first | refine Z1 ?_ | refine Z2 ?_ | (refine Z3 ?_; (repeat (first | (apply gS; first | refine go_no ?_ | refine go_f ?_ | refine gm ?_ | refine gp ?_ | refine go_c rfl rfl (near_t l[0] n0.1 n0.2) ?_ | refine go_c rfl rfl (near_t l[1] n1.1 n1.2) ?_) | (apply gZ; first | refine go_f ?_ | refine gm ?_))); refine T_nil ?_) | (apply ZR; refine C_dr mixed ?_; (repeat (first | (apply vS; first | refine vn ?_ | refine va ?_ | refine vp ?_ | refine vr ?_ | refine vt ?_ | refine vc (near_t l[0] n0.1 n0.2) ?_ | refine vc (near_t l[1] n1.1 n1.2) ?_) | (apply vZ; first | refine vs ?_))); refine W_e ?_) | (apply ZK; first | refine Z4 ?_ | refine Z5 ?_) | refine Z6 ?_ | refine Z7 ?_ | refine Z8 ?_ | refine Z9 ?_ | refine ZA ?_ | refine ZB ?_ | refine ZC ?_ | refine ZD ?_ | refine ZE ?_ | refine ZF ?_ | refine ZG ?_ | refine ZH ?_)
    repeat (first | refine kEnd_m ?_ | refine kEnd_f ?_)
    refine kEnd_g ?_ (by first | exact .inl rfl | exact .inr rfl)
    exact Sub.eq rfl rfl
  · refine DC.of Try.func190 Try.ntmps190 Try.results190 rfl (by decide +kernel) rfl ?_
    repeat (first | refine Z1 ?_ | refine Z2 ?_ | (refine Z3 ?_; (repeat (first | (apply gS; first | refine go_no ?_ | refine go_f ?_ | refine gm ?_ | refine gp ?_ | refine go_c rfl rfl (near_t l[0] n0.1 n0.2) ?_ | refine go_c rfl rfl (near_t l[1] n1.1 n1.2) ?_) | (apply gZ; first | refine go_f ?_ | refine gm ?_))); refine T_nil ?_) | (apply ZR; refine C_dr mixed ?_; (repeat (first | (apply vS; first | refine vn ?_ | refine va ?_ | refine vp ?_ | refine vr ?_ | refine vt ?_ | refine vc (near_t l[0] n0.1 n0.2) ?_ | refine vc (near_t l[1] n1.1 n1.2) ?_) | (apply vZ; first | refine vs ?_))); refine W_e ?_) | (apply ZK; first | refine Z4 ?_ | refine Z5 ?_) | refine Z6 ?_ | refine Z7 ?_ | refine Z8 ?_ | refine Z9 ?_ | refine ZA ?_ | refine ZB ?_ | refine ZC ?_ | refine ZD ?_ | refine ZE ?_ | refine ZF ?_ | refine ZG ?_ | refine ZH ?_)
    refine C_count l.length (fun k => ∀ j (h : j < l.length), j < k → (-1000000 ≤ l[j] ∧ l[j] ≤ 1000000) ∧ l[j] = atOf ⟨l[0], l[1] - l[0], l.length⟩ j) (fun k => ⟨2, 76, [(57, iD k), (56, iD l.length), (55, rowI l), (4, .ptr 1 0), (3, iD 0), (2, .ptr 0 0)], [(0, some ⟨39, 3, 1, [iD 0, iD 0, iD 0]⟩), (1, some ⟨121, 3, 1, [iD (l[0]), iD (l[1] - l[0]), iD l.length]⟩)]⟩) ?_ (fun j _ h => absurd h (by omega)) ?_
    · exact Wk.go (fun b => b)
    · intro k hk hΦ
      obtain ⟨p1, p2⟩ := prod_small (a := (k : Int)) (b := l[1] - l[0]) (by omega) (by omega) (by omega) (by omega)
      by_cases hlt : k < l.length
      · by_cases hn : -1000000 ≤ l[k] ∧ l[k] ≤ 1000000
        · have A := sAt_d ⟨l[0], l[1] - l[0], l.length⟩ k (by simp only; omega) (by simp only; omega) (by simp only; omega) (by simp only; omega)
          by_cases he : l[k] = atOf ⟨l[0], l[1] - l[0], l.length⟩ k
          · repeat (first | refine Z1 ?_ | refine Z2 ?_ | (refine Z3 ?_; (repeat (first | (apply gS; first | refine go_no ?_ | refine go_f ?_ | refine gm ?_ | refine gp ?_ | refine go_c rfl rfl (near_t l[k] hn.1 hn.2) ?_ | refine go_c rfl rfl (A) ?_) | (apply gZ; first | refine go_f ?_ | refine gm ?_))); refine T_nil ?_) | (apply ZR; refine C_dr mixed ?_; (repeat (first | (apply vS; first | refine vn ?_ | refine va ?_ | refine vp ?_ | refine vr ?_ | refine vt ?_ | refine vc (near_t l[k] hn.1 hn.2) ?_ | refine vc (A) ?_) | (apply vZ; first | refine vs ?_))); refine W_e ?_) | (apply ZK; first | refine Z4 ?_ | refine Z5 ?_) | refine Z6 ?_ | refine Z7 ?_ | refine Z8 ?_ | refine Z9 ?_ | refine ZA ?_ | refine ZB ?_ | refine ZC ?_ | refine ZD ?_ | refine ZE ?_ | refine ZF ?_ | refine ZG ?_ | refine ZH ?_)
            refine kLoop_n ⟨hlt, fun j h hj => ?_, ?_⟩
            · by_cases e : j = k
              · subst e; exact ⟨hn, he⟩
              · exact hΦ j h (by omega)
            · exact Wk.go (fun b => b)
          · rw [of_no (fun g => he (by have := (g.2.2.2 k hlt).2; rwa [er] at this))]
            repeat (first | refine Z1 ?_ | refine Z2 ?_ | (refine Z3 ?_; (repeat (first | (apply gS; first | refine go_no ?_ | refine go_f ?_ | refine gm ?_ | refine gp ?_ | refine go_c rfl rfl (near_t l[k] hn.1 hn.2) ?_ | refine go_c rfl rfl (A) ?_) | (apply gZ; first | refine go_f ?_ | refine gm ?_))); refine T_nil ?_) | (apply ZR; refine C_dr mixed ?_; (repeat (first | (apply vS; first | refine vn ?_ | refine va ?_ | refine vp ?_ | refine vr ?_ | refine vt ?_ | refine vc (near_t l[k] hn.1 hn.2) ?_ | refine vc (A) ?_) | (apply vZ; first | refine vs ?_))); refine W_e ?_) | (apply ZK; first | refine Z4 ?_ | refine Z5 ?_) | refine Z6 ?_ | refine Z7 ?_ | refine Z8 ?_ | refine Z9 ?_ | refine ZA ?_ | refine ZB ?_ | refine ZC ?_ | refine ZD ?_ | refine ZE ?_ | refine ZF ?_ | refine ZG ?_ | refine ZH ?_)
            repeat (first | refine kEnd_m ?_ | refine kEnd_f ?_)
            refine kEnd_g ?_ (by first | exact .inl rfl | exact .inr rfl)
            exact Sub.eq rfl rfl
        · rw [of_no (fun g => hn (g.2.2.2 k hlt).1)]
          repeat (first | refine Z1 ?_ | refine Z2 ?_ | (refine Z3 ?_; (repeat (first | (apply gS; first | refine go_no ?_ | refine go_f ?_ | refine gm ?_ | refine gp ?_ | refine go_c rfl rfl (near_f l[k] (by omega)) ?_) | (apply gZ; first | refine go_f ?_ | refine gm ?_))); refine T_nil ?_) | (apply ZR; refine C_dr mixed ?_; (repeat (first | (apply vS; first | refine vn ?_ | refine va ?_ | refine vp ?_ | refine vr ?_ | refine vt ?_ | refine vc (near_f l[k] (by omega)) ?_) | (apply vZ; first | refine vs ?_))); refine W_e ?_) | (apply ZK; first | refine Z4 ?_ | refine Z5 ?_) | refine Z6 ?_ | refine Z7 ?_ | refine Z8 ?_ | refine Z9 ?_ | refine ZA ?_ | refine ZB ?_ | refine ZC ?_ | refine ZD ?_ | refine ZE ?_ | refine ZF ?_ | refine ZG ?_ | refine ZH ?_)
          repeat (first | refine kEnd_m ?_ | refine kEnd_f ?_)
          refine kEnd_g ?_ (by first | exact .inl rfl | exact .inr rfl)
          exact Sub.eq rfl rfl
      · have hg : ofGood l := ⟨by rw [es]; omega, by rw [es]; omega, by rw [es]; omega, fun j h => by rw [er]; exact hΦ j h (by omega)⟩
        rw [of_yes hg, er]
        have C := sCanon_d ⟨l[0], l[1] - l[0], l.length⟩ (by unfold Rw.small; refine ⟨?_, ?_, ?_, ?_, ?_, ?_⟩ <;> simp only <;> omega) (by simp only; omega)
        repeat (first | refine Z1 ?_ | refine Z2 ?_ | (refine Z3 ?_; (repeat (first | (apply gS; first | refine go_no ?_ | refine go_f ?_ | refine gm ?_ | refine gp ?_ | refine go_c rfl rfl (C) ?_) | (apply gZ; first | refine go_f ?_ | refine gm ?_))); refine T_nil ?_) | (apply ZR; refine C_dr mixed ?_; (repeat (first | (apply vS; first | refine vn ?_ | refine va ?_ | refine vp ?_ | refine vr ?_ | refine vt ?_ | refine vc (C) ?_) | (apply vZ; first | refine vs ?_))); refine W_e ?_) | (apply ZK; first | refine Z4 ?_ | refine Z5 ?_) | refine Z6 ?_ | refine Z7 ?_ | refine Z8 ?_ | refine Z9 ?_ | refine ZA ?_ | refine ZB ?_ | refine ZC ?_ | refine ZD ?_ | refine ZE ?_ | refine ZF ?_ | refine ZG ?_ | refine ZH ?_)
        repeat (first | refine kEnd_m ?_ | refine kEnd_f ?_)
        refine kEnd_g ?_ (by first | exact .inl rfl | exact .inr rfl)
        exact Sub.eq rfl rfl
end Go.Proofs.Ytifapodobhkdcaa
namespace Go.Proofs.Ytifapodobhkdcaa
open Go.RowKit
set_option linter.unusedVariables false
set_option maxHeartbeats 16000000
set_option linter.unusedSimpArgs false
set_option maxRecDepth 100000
theorem of_done {l : List Int} (hl : l.length ≤ 5000) (hN : ∀ j (h : j < l.length), -1000000 ≤ l[j] ∧ l[j] ≤ 1000000) (hA : ∀ j (h : j < l.length), l[j] = atOf (ofRow l) j) (hs : ofS l ≠ 0) :
    (doneE (ofRow l) = 0 ∧ ofRes l = (doneV (ofRow l), 0)) ∨ (doneE (ofRow l) = 30 ∧ ofRes l = (⟨0, 0, 0⟩, 5)) := by
  have en : (ofRow l).n = l.length := rfl
  have ef : (ofRow l).f = ofF l := rfl
  have est : (ofRow l).s = ofS l := rfl
  have good : -1000 ≤ ofS l → ofS l ≤ 1000 → ofRes l = (canonOf (ofRow l), 0) := fun h1 h2 => of_yes ⟨h1, h2, hs, fun j h => ⟨hN j h, hA j h⟩⟩
  have key : vB (canonOf (ofRow l)) = true ↔ (-1000 ≤ ofS l ∧ ofS l ≤ 1000) := by
    by_cases c0 : l.length = 0
    · rw [canonOf_0 (by omega), ofS_1 (by omega)]; decide
    by_cases c1 : l.length = 1
    · rw [canonOf_1 (by omega), ofS_1 (by omega), ef, ofF_1 (by omega)]
      have := hN 0 (by omega)
      exact ⟨fun h => by have h := vB_okS h; unfold Rg.ok at h; simp only at h; omega, fun h => vB_true (by unfold Rg.ok; simp only; omega)⟩
    · have hf := hN 0 (by omega)
      have hq := hN (l.length - 1) (by omega)
      have e2 : lastOf (ofRow l) = l[l.length - 1] := by
        rw [hA (l.length - 1) (by omega), lastOf, atOf, en, show ((l.length - 1 : Nat) : Int) = (l.length : Int) - 1 by omega]
      rw [← ofF_1 (by omega)] at hf
      rw [← e2] at hq
      by_cases hle : (ofRow l).f ≤ lastOf (ofRow l)
      · rw [canonOf_up (by omega) hle]
        exact ⟨fun h => by have h := vB_okS h; unfold Rg.ok at h; simp only at h; omega, fun h => vB_true (by unfold Rg.ok; simp only; omega)⟩
      · rw [canonOf_down (by omega) hle]
        exact ⟨fun h => by have h := vB_okS h; unfold Rg.ok at h; simp only at h; omega, fun h => vB_true (by unfold Rg.ok; simp only; omega)⟩
  cases hv : vB (canonOf (ofRow l))
  · obtain ⟨d1, d2⟩ := done_no hv
    refine .inr ⟨d2, of_no fun g => ?_⟩
    rw [key.2 ⟨g.1, g.2.1⟩] at hv; cases hv
  · obtain ⟨d1, d2⟩ := done_yes hv
    exact .inl ⟨d2, by rw [d1]; exact good (key.1 hv).1 (key.1 hv).2⟩
set_option maxHeartbeats 4000000 in
theorem rOfP_d (l : List Int) (hl : l.length ≤ 5000) : DC Try.prog 180 [rowI l] (.tup [rD (ofRes l).1, iD (ofRes l).2]) := by
  by_cases hN : ∀ j (h : j < l.length), -1000000 ≤ l[j] ∧ l[j] ≤ 1000000
  case neg =>
    by_cases c0 : l.length = 0
    · exact absurd (fun j h => absurd h (by omega)) hN
    have hpos : (0 : Int) < l.length := by omega
    rw [of_no (fun g => hN fun j h => (g.2.2.2 j h).1)]
    refine DC.of Try.func180 Try.ntmps180 Try.results180 rfl (by decide +kernel) rfl ?_
    repeat (first | refine Z1 ?_ | refine Z2 ?_ | (refine Z3 ?_; (repeat (first | (apply gS; first | refine go_no ?_ | refine go_f ?_ | refine gm ?_ | refine gp ?_) | (apply gZ; first | refine go_f ?_ | refine gm ?_))); refine T_nil ?_) | (apply ZR; refine C_dr mixed ?_; (repeat (first | (apply vS; first | refine vn ?_ | refine va ?_ | refine vp ?_ | refine vr ?_ | refine vt ?_) | (apply vZ; first | refine vs ?_))); refine W_e ?_) | (apply ZK; first | refine Z4 ?_ | refine Z5 ?_) | refine Z6 ?_ | refine Z7 ?_ | refine Z8 ?_ | refine Z9 ?_ | refine ZA ?_ | refine ZB ?_ | refine ZC ?_ | refine ZD ?_ | refine ZE ?_ | refine ZF ?_ | refine ZG ?_ | refine ZH ?_)
    refine C_count l.length (fun k => ∀ j (h : j < l.length), j < k → -1000000 ≤ l[j] ∧ l[j] ≤ 1000000) (fun k => ⟨2, 72, [(5, iD k), (4, .ptr 1 0), (3, iD 0), (2, .ptr 0 0), (0, rowI l)], [(0, some ⟨39, 3, 1, [iD 0, iD 0, iD 0]⟩), (1, some ⟨151, 3, 1, [iD (l[0]), iD 1, iD l.length]⟩)]⟩) ?_ (fun j _ h => absurd h (by omega)) ?_
    · exact Wk.go (fun b => b)
    · intro k hk hΦ
      by_cases hlt : k < l.length
      · by_cases hn : -1000000 ≤ l[k] ∧ l[k] ≤ 1000000
        · repeat (first | refine Z1 ?_ | refine Z2 ?_ | (refine Z3 ?_; (repeat (first | (apply gS; first | refine go_no ?_ | refine go_f ?_ | refine gm ?_ | refine gp ?_ | refine go_c rfl rfl (rWithin_t l[k] hn.1 hn.2) ?_) | (apply gZ; first | refine go_f ?_ | refine gm ?_))); refine T_nil ?_) | (apply ZR; refine C_dr mixed ?_; (repeat (first | (apply vS; first | refine vn ?_ | refine va ?_ | refine vp ?_ | refine vr ?_ | refine vt ?_ | refine vc (rWithin_t l[k] hn.1 hn.2) ?_) | (apply vZ; first | refine vs ?_))); refine W_e ?_) | (apply ZK; first | refine Z4 ?_ | refine Z5 ?_) | refine Z6 ?_ | refine Z7 ?_ | refine Z8 ?_ | refine Z9 ?_ | refine ZA ?_ | refine ZB ?_ | refine ZC ?_ | refine ZD ?_ | refine ZE ?_ | refine ZF ?_ | refine ZG ?_ | refine ZH ?_)
          refine kLoop_n ⟨hlt, fun j h hj => ?_, ?_⟩
          · by_cases e : j = k
            · subst e; exact hn
            · exact hΦ j h (by omega)
          · exact Wk.go (fun b => b)
        · repeat (first | refine Z1 ?_ | refine Z2 ?_ | (refine Z3 ?_; (repeat (first | (apply gS; first | refine go_no ?_ | refine go_f ?_ | refine gm ?_ | refine gp ?_ | refine go_c rfl rfl (rWithin_f l[k] (by omega)) ?_) | (apply gZ; first | refine go_f ?_ | refine gm ?_))); refine T_nil ?_) | (apply ZR; refine C_dr mixed ?_; (repeat (first | (apply vS; first | refine vn ?_ | refine va ?_ | refine vp ?_ | refine vr ?_ | refine vt ?_ | refine vc (rWithin_f l[k] (by omega)) ?_) | (apply vZ; first | refine vs ?_))); refine W_e ?_) | (apply ZK; first | refine Z4 ?_ | refine Z5 ?_) | refine Z6 ?_ | refine Z7 ?_ | refine Z8 ?_ | refine Z9 ?_ | refine ZA ?_ | refine ZB ?_ | refine ZC ?_ | refine ZD ?_ | refine ZE ?_ | refine ZF ?_ | refine ZG ?_ | refine ZH ?_)
          repeat (first | refine kEnd_m ?_ | refine kEnd_f ?_)
          refine kEnd_g ?_ (by first | exact .inl rfl | exact .inr rfl)
          exact Sub.eq rfl rfl
      · exact absurd (fun j h => hΦ j h (by omega)) hN
  by_cases c0 : l.length = 0
  · have es := ofS_1 (l := l) (by omega)
    have er : ofRow l = ⟨0, 1, l.length⟩ := by unfold ofRow; rw [es, ofF_0 c0]
    refine DC.of Try.func180 Try.ntmps180 Try.results180 rfl (by decide +kernel) rfl ?_
    repeat (first | refine Z1 ?_ | refine Z2 ?_ | (refine Z3 ?_; (repeat (first | (apply gS; first | refine go_no ?_ | refine go_f ?_ | refine gm ?_ | refine gp ?_) | (apply gZ; first | refine go_f ?_ | refine gm ?_))); refine T_nil ?_) | (apply ZR; refine C_dr mixed ?_; (repeat (first | (apply vS; first | refine vn ?_ | refine va ?_ | refine vp ?_ | refine vr ?_ | refine vt ?_) | (apply vZ; first | refine vs ?_))); refine W_e ?_) | (apply ZK; first | refine Z4 ?_ | refine Z5 ?_) | refine Z6 ?_ | refine Z7 ?_ | refine Z8 ?_ | refine Z9 ?_ | refine ZA ?_ | refine ZB ?_ | refine ZC ?_ | refine ZD ?_ | refine ZE ?_ | refine ZF ?_ | refine ZG ?_ | refine ZH ?_)
    refine C_count l.length (fun _ => True) (fun k => ⟨2, 72, [(5, iD k), (4, .ptr 1 0), (3, iD 0), (2, .ptr 0 0), (0, rowI l)], [(0, some ⟨39, 3, 1, [iD 0, iD 0, iD 0]⟩), (1, some ⟨151, 3, 1, [iD (0), iD 1, iD l.length]⟩)]⟩) ?_ trivial ?_
    · exact Wk.go (fun b => b)
    · intro k hk _
      by_cases hlt : k < l.length
      · have hnk := hN k hlt
        repeat (first | refine Z1 ?_ | refine Z2 ?_ | (refine Z3 ?_; (repeat (first | (apply gS; first | refine go_no ?_ | refine go_f ?_ | refine gm ?_ | refine gp ?_ | refine go_c rfl rfl (rWithin_t l[k] hnk.1 hnk.2) ?_) | (apply gZ; first | refine go_f ?_ | refine gm ?_))); refine T_nil ?_) | (apply ZR; refine C_dr mixed ?_; (repeat (first | (apply vS; first | refine vn ?_ | refine va ?_ | refine vp ?_ | refine vr ?_ | refine vt ?_ | refine vc (rWithin_t l[k] hnk.1 hnk.2) ?_) | (apply vZ; first | refine vs ?_))); refine W_e ?_) | (apply ZK; first | refine Z4 ?_ | refine Z5 ?_) | refine Z6 ?_ | refine Z7 ?_ | refine Z8 ?_ | refine Z9 ?_ | refine ZA ?_ | refine ZB ?_ | refine ZC ?_ | refine ZD ?_ | refine ZE ?_ | refine ZF ?_ | refine ZG ?_ | refine ZH ?_)
        refine kLoop_n ⟨hlt, trivial, ?_⟩
        exact Wk.go (fun b => b)
      · obtain rfl : k = l.length := by omega
        repeat (first | refine Z1 ?_ | refine Z2 ?_ | (refine Z3 ?_; (repeat (first | (apply gS; first | refine go_no ?_ | refine go_f ?_ | refine gm ?_ | refine gp ?_) | (apply gZ; first | refine go_f ?_ | refine gm ?_))); refine T_nil ?_) | (apply ZR; refine C_dr mixed ?_; (repeat (first | (apply vS; first | refine vn ?_ | refine va ?_ | refine vp ?_ | refine vr ?_ | refine vt ?_) | (apply vZ; first | refine vs ?_))); refine W_e ?_) | (apply ZK; first | refine Z4 ?_ | refine Z5 ?_) | refine Z6 ?_ | refine Z7 ?_ | refine Z8 ?_ | refine Z9 ?_ | refine ZA ?_ | refine ZB ?_ | refine ZC ?_ | refine ZD ?_ | refine ZE ?_ | refine ZF ?_ | refine ZG ?_ | refine ZH ?_)
        refine C_count l.length (fun k => ∀ j (h : j < l.length), j < k → l[j] = atOf ⟨0, 1, l.length⟩ j) (fun k => ⟨2, 72, [(6, iD k), (4, .ptr 1 0), (3, iD 0), (2, .ptr 0 0), (0, rowI l)], [(0, some ⟨39, 3, 1, [iD 0, iD 0, iD 0]⟩), (1, some ⟨151, 3, 1, [iD (0), iD (1), iD l.length]⟩)]⟩) ?_ (fun j _ h => absurd h (by omega)) ?_
        · exact Wk.go (fun b => b)
        · intro k hk hΦ
          by_cases hlt : k < l.length
          · exact absurd hlt (by omega)
          · obtain rfl : k = l.length := by omega
            have hD := of_done hl hN (by rw [er]; exact fun j h => hΦ j h h) (by rw [es]; omega)
            have hp := prod_small (a := 1) (b := (l.length : Int) - 1) (by omega) (by omega) (by omega) (by omega)
            rw [Int.mul_comm] at hp
            have M := rMade_g (ofRow l) (by rw [er]; simp only; omega) (by rw [er]; simp only; omega) (by rw [er]; exact rAt_d _ _ (by simp only; omega) (by simp only; omega) (by simp only; omega) (by simp only; omega))
            rcases hD with ⟨d1, d2⟩ | ⟨d1, d2⟩
            all_goals
              rw [d2]
              rw [d1, er] at M
              try rw [er]
              repeat (first | refine Z1 ?_ | refine Z2 ?_ | (refine Z3 ?_; (repeat (first | (apply gS; first | refine go_no ?_ | refine go_f ?_ | refine gm ?_ | refine gp ?_ | refine go_c rfl rfl (M) ?_) | (apply gZ; first | refine go_f ?_ | refine gm ?_))); refine T_nil ?_) | (apply ZR; refine C_dr mixed ?_; (repeat (first | (apply vS; first | refine vn ?_ | refine va ?_ | refine vp ?_ | refine vr ?_ | refine vt ?_ | refine vc (M) ?_) | (apply vZ; first | refine vs ?_))); refine W_e ?_) | (apply ZK; first | refine Z4 ?_ | refine Z5 ?_) | refine Z6 ?_ | refine Z7 ?_ | refine Z8 ?_ | refine Z9 ?_ | refine ZA ?_ | refine ZB ?_ | refine ZC ?_ | refine ZD ?_ | refine ZE ?_ | refine ZF ?_ | refine ZG ?_ | refine ZH ?_)
              repeat (first | refine kEnd_m ?_ | refine kEnd_f ?_)
              refine kEnd_g ?_ (by first | exact .inl rfl | exact .inr rfl)
              exact Sub.eq rfl rfl
  by_cases c1 : l.length = 1
  · have es := ofS_1 (l := l) (by omega)
    have er : ofRow l = ⟨l[0], 1, l.length⟩ := by unfold ofRow; rw [es, ofF_1 (by omega)]
    have n0 := hN 0 (by omega)
    refine DC.of Try.func180 Try.ntmps180 Try.results180 rfl (by decide +kernel) rfl ?_
    repeat (first | refine Z1 ?_ | refine Z2 ?_ | (refine Z3 ?_; (repeat (first | (apply gS; first | refine go_no ?_ | refine go_f ?_ | refine gm ?_ | refine gp ?_) | (apply gZ; first | refine go_f ?_ | refine gm ?_))); refine T_nil ?_) | (apply ZR; refine C_dr mixed ?_; (repeat (first | (apply vS; first | refine vn ?_ | refine va ?_ | refine vp ?_ | refine vr ?_ | refine vt ?_) | (apply vZ; first | refine vs ?_))); refine W_e ?_) | (apply ZK; first | refine Z4 ?_ | refine Z5 ?_) | refine Z6 ?_ | refine Z7 ?_ | refine Z8 ?_ | refine Z9 ?_ | refine ZA ?_ | refine ZB ?_ | refine ZC ?_ | refine ZD ?_ | refine ZE ?_ | refine ZF ?_ | refine ZG ?_ | refine ZH ?_)
    refine C_count l.length (fun _ => True) (fun k => ⟨2, 72, [(5, iD k), (4, .ptr 1 0), (3, iD 0), (2, .ptr 0 0), (0, rowI l)], [(0, some ⟨39, 3, 1, [iD 0, iD 0, iD 0]⟩), (1, some ⟨151, 3, 1, [iD (l[0]), iD 1, iD l.length]⟩)]⟩) ?_ trivial ?_
    · exact Wk.go (fun b => b)
    · intro k hk _
      by_cases hlt : k < l.length
      · have hnk := hN k hlt
        repeat (first | refine Z1 ?_ | refine Z2 ?_ | (refine Z3 ?_; (repeat (first | (apply gS; first | refine go_no ?_ | refine go_f ?_ | refine gm ?_ | refine gp ?_ | refine go_c rfl rfl (rWithin_t l[k] hnk.1 hnk.2) ?_) | (apply gZ; first | refine go_f ?_ | refine gm ?_))); refine T_nil ?_) | (apply ZR; refine C_dr mixed ?_; (repeat (first | (apply vS; first | refine vn ?_ | refine va ?_ | refine vp ?_ | refine vr ?_ | refine vt ?_ | refine vc (rWithin_t l[k] hnk.1 hnk.2) ?_) | (apply vZ; first | refine vs ?_))); refine W_e ?_) | (apply ZK; first | refine Z4 ?_ | refine Z5 ?_) | refine Z6 ?_ | refine Z7 ?_ | refine Z8 ?_ | refine Z9 ?_ | refine ZA ?_ | refine ZB ?_ | refine ZC ?_ | refine ZD ?_ | refine ZE ?_ | refine ZF ?_ | refine ZG ?_ | refine ZH ?_)
        refine kLoop_n ⟨hlt, trivial, ?_⟩
        exact Wk.go (fun b => b)
      · obtain rfl : k = l.length := by omega
        repeat (first | refine Z1 ?_ | refine Z2 ?_ | (refine Z3 ?_; (repeat (first | (apply gS; first | refine go_no ?_ | refine go_f ?_ | refine gm ?_ | refine gp ?_) | (apply gZ; first | refine go_f ?_ | refine gm ?_))); refine T_nil ?_) | (apply ZR; refine C_dr mixed ?_; (repeat (first | (apply vS; first | refine vn ?_ | refine va ?_ | refine vp ?_ | refine vr ?_ | refine vt ?_) | (apply vZ; first | refine vs ?_))); refine W_e ?_) | (apply ZK; first | refine Z4 ?_ | refine Z5 ?_) | refine Z6 ?_ | refine Z7 ?_ | refine Z8 ?_ | refine Z9 ?_ | refine ZA ?_ | refine ZB ?_ | refine ZC ?_ | refine ZD ?_ | refine ZE ?_ | refine ZF ?_ | refine ZG ?_ | refine ZH ?_)
        refine C_count l.length (fun k => ∀ j (h : j < l.length), j < k → l[j] = atOf ⟨l[0], 1, l.length⟩ j) (fun k => ⟨2, 72, [(6, iD k), (4, .ptr 1 0), (3, iD 0), (2, .ptr 0 0), (0, rowI l)], [(0, some ⟨39, 3, 1, [iD 0, iD 0, iD 0]⟩), (1, some ⟨151, 3, 1, [iD (l[0]), iD (1), iD l.length]⟩)]⟩) ?_ (fun j _ h => absurd h (by omega)) ?_
        · exact Wk.go (fun b => b)
        · intro k hk hΦ
          by_cases hlt : k < l.length
          · have hp := prod_small (a := 1) (b := (k : Int)) (by omega) (by omega) (by omega) (by omega)
            rw [Int.mul_comm] at hp
            have A := rAt_d ⟨l[0], 1, l.length⟩ k (by simp only; omega) (by simp only; omega) (by simp only; omega) (by simp only; omega)
            by_cases he : l[k] = atOf ⟨l[0], 1, l.length⟩ k
            · repeat (first | refine Z1 ?_ | refine Z2 ?_ | (refine Z3 ?_; (repeat (first | (apply gS; first | refine go_no ?_ | refine go_f ?_ | refine gm ?_ | refine gp ?_ | refine go_c rfl rfl (A) ?_) | (apply gZ; first | refine go_f ?_ | refine gm ?_))); refine T_nil ?_) | (apply ZR; refine C_dr mixed ?_; (repeat (first | (apply vS; first | refine vn ?_ | refine va ?_ | refine vp ?_ | refine vr ?_ | refine vt ?_ | refine vc (A) ?_) | (apply vZ; first | refine vs ?_))); refine W_e ?_) | (apply ZK; first | refine Z4 ?_ | refine Z5 ?_) | refine Z6 ?_ | refine Z7 ?_ | refine Z8 ?_ | refine Z9 ?_ | refine ZA ?_ | refine ZB ?_ | refine ZC ?_ | refine ZD ?_ | refine ZE ?_ | refine ZF ?_ | refine ZG ?_ | refine ZH ?_)
              refine kLoop_n ⟨hlt, fun j h hj => ?_, ?_⟩
              · by_cases e : j = k
                · subst e; exact he
                · exact hΦ j h (by omega)
              · exact Wk.go (fun b => b)
            · rw [of_no (fun g => he (by have := (g.2.2.2 k hlt).2; rwa [er] at this))]
              repeat (first | refine Z1 ?_ | refine Z2 ?_ | (refine Z3 ?_; (repeat (first | (apply gS; first | refine go_no ?_ | refine go_f ?_ | refine gm ?_ | refine gp ?_ | refine go_c rfl rfl (A) ?_) | (apply gZ; first | refine go_f ?_ | refine gm ?_))); refine T_nil ?_) | (apply ZR; refine C_dr mixed ?_; (repeat (first | (apply vS; first | refine vn ?_ | refine va ?_ | refine vp ?_ | refine vr ?_ | refine vt ?_ | refine vc (A) ?_) | (apply vZ; first | refine vs ?_))); refine W_e ?_) | (apply ZK; first | refine Z4 ?_ | refine Z5 ?_) | refine Z6 ?_ | refine Z7 ?_ | refine Z8 ?_ | refine Z9 ?_ | refine ZA ?_ | refine ZB ?_ | refine ZC ?_ | refine ZD ?_ | refine ZE ?_ | refine ZF ?_ | refine ZG ?_ | refine ZH ?_)
              repeat (first | refine kEnd_m ?_ | refine kEnd_f ?_)
              refine kEnd_g ?_ (by first | exact .inl rfl | exact .inr rfl)
              exact Sub.eq rfl rfl
          · obtain rfl : k = l.length := by omega
            have hD := of_done hl hN (by rw [er]; exact fun j h => hΦ j h h) (by rw [es]; omega)
            have hp := prod_small (a := 1) (b := (l.length : Int) - 1) (by omega) (by omega) (by omega) (by omega)
            rw [Int.mul_comm] at hp
            have M := rMade_g (ofRow l) (by rw [er]; simp only; omega) (by rw [er]; simp only; omega) (by rw [er]; exact rAt_d _ _ (by simp only; omega) (by simp only; omega) (by simp only; omega) (by simp only; omega))
            rcases hD with ⟨d1, d2⟩ | ⟨d1, d2⟩
            all_goals
              rw [d2]
              rw [d1, er] at M
              try rw [er]
              repeat (first | refine Z1 ?_ | refine Z2 ?_ | (refine Z3 ?_; (repeat (first | (apply gS; first | refine go_no ?_ | refine go_f ?_ | refine gm ?_ | refine gp ?_ | refine go_c rfl rfl (M) ?_) | (apply gZ; first | refine go_f ?_ | refine gm ?_))); refine T_nil ?_) | (apply ZR; refine C_dr mixed ?_; (repeat (first | (apply vS; first | refine vn ?_ | refine va ?_ | refine vp ?_ | refine vr ?_ | refine vt ?_ | refine vc (M) ?_) | (apply vZ; first | refine vs ?_))); refine W_e ?_) | (apply ZK; first | refine Z4 ?_ | refine Z5 ?_) | refine Z6 ?_ | refine Z7 ?_ | refine Z8 ?_ | refine Z9 ?_ | refine ZA ?_ | refine ZB ?_ | refine ZC ?_ | refine ZD ?_ | refine ZE ?_ | refine ZF ?_ | refine ZG ?_ | refine ZH ?_)
              repeat (first | refine kEnd_m ?_ | refine kEnd_f ?_)
              refine kEnd_g ?_ (by first | exact .inl rfl | exact .inr rfl)
              exact Sub.eq rfl rfl
  have es := ofS_2 (l := l) (by omega)
  have er : ofRow l = ⟨l[0], l[1] - l[0], l.length⟩ := by unfold ofRow; rw [es, ofF_1 (by omega)]
  have n0 := hN 0 (by omega)
  have n1 := hN 1 (by omega)
  by_cases z0 : l[1] - l[0] = 0
  · rw [of_no (fun g => by obtain ⟨g1, g2, g3, _⟩ := g; omega)]
    refine DC.of Try.func180 Try.ntmps180 Try.results180 rfl (by decide +kernel) rfl ?_
    repeat (first | refine Z1 ?_ | refine Z2 ?_ | (refine Z3 ?_; (repeat (first | (apply gS; first | refine go_no ?_ | refine go_f ?_ | refine gm ?_ | refine gp ?_) | (apply gZ; first | refine go_f ?_ | refine gm ?_))); refine T_nil ?_) | (apply ZR; refine C_dr mixed ?_; (repeat (first | (apply vS; first | refine vn ?_ | refine va ?_ | refine vp ?_ | refine vr ?_ | refine vt ?_) | (apply vZ; first | refine vs ?_))); refine W_e ?_) | (apply ZK; first | refine Z4 ?_ | refine Z5 ?_) | refine Z6 ?_ | refine Z7 ?_ | refine Z8 ?_ | refine Z9 ?_ | refine ZA ?_ | refine ZB ?_ | refine ZC ?_ | refine ZD ?_ | refine ZE ?_ | refine ZF ?_ | refine ZG ?_ | refine ZH ?_)
    refine C_count l.length (fun _ => True) (fun k => ⟨2, 72, [(5, iD k), (4, .ptr 1 0), (3, iD 0), (2, .ptr 0 0), (0, rowI l)], [(0, some ⟨39, 3, 1, [iD 0, iD 0, iD 0]⟩), (1, some ⟨151, 3, 1, [iD (l[0]), iD 1, iD l.length]⟩)]⟩) ?_ trivial ?_
    · exact Wk.go (fun b => b)
    · intro k hk _
      by_cases hlt : k < l.length
      · have hnk := hN k hlt
        repeat (first | refine Z1 ?_ | refine Z2 ?_ | (refine Z3 ?_; (repeat (first | (apply gS; first | refine go_no ?_ | refine go_f ?_ | refine gm ?_ | refine gp ?_ | refine go_c rfl rfl (rWithin_t l[k] hnk.1 hnk.2) ?_) | (apply gZ; first | refine go_f ?_ | refine gm ?_))); refine T_nil ?_) | (apply ZR; refine C_dr mixed ?_; (repeat (first | (apply vS; first | refine vn ?_ | refine va ?_ | refine vp ?_ | refine vr ?_ | refine vt ?_ | refine vc (rWithin_t l[k] hnk.1 hnk.2) ?_) | (apply vZ; first | refine vs ?_))); refine W_e ?_) | (apply ZK; first | refine Z4 ?_ | refine Z5 ?_) | refine Z6 ?_ | refine Z7 ?_ | refine Z8 ?_ | refine Z9 ?_ | refine ZA ?_ | refine ZB ?_ | refine ZC ?_ | refine ZD ?_ | refine ZE ?_ | refine ZF ?_ | refine ZG ?_ | refine ZH ?_)
        refine kLoop_n ⟨hlt, trivial, ?_⟩
        exact Wk.go (fun b => b)
      · obtain rfl : k = l.length := by omega
        repeat (first | refine Z1 ?_ | refine Z2 ?_ | (refine Z3 ?_; (repeat (first | (apply gS; first | refine go_no ?_ | refine go_f ?_ | refine gm ?_ | refine gp ?_) | (apply gZ; first | refine go_f ?_ | refine gm ?_))); refine T_nil ?_) | (apply ZR; refine C_dr mixed ?_; (repeat (first | (apply vS; first | refine vn ?_ | refine va ?_ | refine vp ?_ | refine vr ?_ | refine vt ?_) | (apply vZ; first | refine vs ?_))); refine W_e ?_) | (apply ZK; first | refine Z4 ?_ | refine Z5 ?_) | refine Z6 ?_ | refine Z7 ?_ | refine Z8 ?_ | refine Z9 ?_ | refine ZA ?_ | refine ZB ?_ | refine ZC ?_ | refine ZD ?_ | refine ZE ?_ | refine ZF ?_ | refine ZG ?_ | refine ZH ?_)
        refine C_count l.length (fun k => k = 0) (fun k => ⟨2, 72, [(6, iD k), (4, .ptr 1 0), (3, iD 0), (2, .ptr 0 0), (0, rowI l)], [(0, some ⟨39, 3, 1, [iD 0, iD 0, iD 0]⟩), (1, some ⟨151, 3, 1, [iD (l[0]), iD (l[1] - l[0]), iD l.length]⟩)]⟩) ?_ rfl ?_
        · exact Wk.go (fun b => b)
        · intro k hk hΦ
          subst hΦ
          repeat (first | refine Z1 ?_ | refine Z2 ?_ | (refine Z3 ?_; (repeat (first | (apply gS; first | refine go_no ?_ | refine go_f ?_ | refine gm ?_ | refine gp ?_) | (apply gZ; first | refine go_f ?_ | refine gm ?_))); refine T_nil ?_) | (apply ZR; refine C_dr mixed ?_; (repeat (first | (apply vS; first | refine vn ?_ | refine va ?_ | refine vp ?_ | refine vr ?_ | refine vt ?_) | (apply vZ; first | refine vs ?_))); refine W_e ?_) | (apply ZK; first | refine Z4 ?_ | refine Z5 ?_) | refine Z6 ?_ | refine Z7 ?_ | refine Z8 ?_ | refine Z9 ?_ | refine ZA ?_ | refine ZB ?_ | refine ZC ?_ | refine ZD ?_ | refine ZE ?_ | refine ZF ?_ | refine ZG ?_ | refine ZH ?_)
          repeat (first | refine kEnd_m ?_ | refine kEnd_f ?_)
          refine kEnd_g ?_ (by first | exact .inl rfl | exact .inr rfl)
          exact Sub.eq rfl rfl
  · refine DC.of Try.func180 Try.ntmps180 Try.results180 rfl (by decide +kernel) rfl ?_
    repeat (first | refine Z1 ?_ | refine Z2 ?_ | (refine Z3 ?_; (repeat (first | (apply gS; first | refine go_no ?_ | refine go_f ?_ | refine gm ?_ | refine gp ?_) | (apply gZ; first | refine go_f ?_ | refine gm ?_))); refine T_nil ?_) | (apply ZR; refine C_dr mixed ?_; (repeat (first | (apply vS; first | refine vn ?_ | refine va ?_ | refine vp ?_ | refine vr ?_ | refine vt ?_) | (apply vZ; first | refine vs ?_))); refine W_e ?_) | (apply ZK; first | refine Z4 ?_ | refine Z5 ?_) | refine Z6 ?_ | refine Z7 ?_ | refine Z8 ?_ | refine Z9 ?_ | refine ZA ?_ | refine ZB ?_ | refine ZC ?_ | refine ZD ?_ | refine ZE ?_ | refine ZF ?_ | refine ZG ?_ | refine ZH ?_)
    refine C_count l.length (fun _ => True) (fun k => ⟨2, 72, [(5, iD k), (4, .ptr 1 0), (3, iD 0), (2, .ptr 0 0), (0, rowI l)], [(0, some ⟨39, 3, 1, [iD 0, iD 0, iD 0]⟩), (1, some ⟨151, 3, 1, [iD (l[0]), iD 1, iD l.length]⟩)]⟩) ?_ trivial ?_
    · exact Wk.go (fun b => b)
    · intro k hk _
      by_cases hlt : k < l.length
      · have hnk := hN k hlt
        repeat (first | refine Z1 ?_ | refine Z2 ?_ | (refine Z3 ?_; (repeat (first | (apply gS; first | refine go_no ?_ | refine go_f ?_ | refine gm ?_ | refine gp ?_ | refine go_c rfl rfl (rWithin_t l[k] hnk.1 hnk.2) ?_) | (apply gZ; first | refine go_f ?_ | refine gm ?_))); refine T_nil ?_) | (apply ZR; refine C_dr mixed ?_; (repeat (first | (apply vS; first | refine vn ?_ | refine va ?_ | refine vp ?_ | refine vr ?_ | refine vt ?_ | refine vc (rWithin_t l[k] hnk.1 hnk.2) ?_) | (apply vZ; first | refine vs ?_))); refine W_e ?_) | (apply ZK; first | refine Z4 ?_ | refine Z5 ?_) | refine Z6 ?_ | refine Z7 ?_ | refine Z8 ?_ | refine Z9 ?_ | refine ZA ?_ | refine ZB ?_ | refine ZC ?_ | refine ZD ?_ | refine ZE ?_ | refine ZF ?_ | refine ZG ?_ | refine ZH ?_)
        refine kLoop_n ⟨hlt, trivial, ?_⟩
        exact Wk.go (fun b => b)
      · obtain rfl : k = l.length := by omega
        repeat (first | refine Z1 ?_ | refine Z2 ?_ | (refine Z3 ?_; (repeat (first | (apply gS; first | refine go_no ?_ | refine go_f ?_ | refine gm ?_ | refine gp ?_) | (apply gZ; first | refine go_f ?_ | refine gm ?_))); refine T_nil ?_) | (apply ZR; refine C_dr mixed ?_; (repeat (first | (apply vS; first | refine vn ?_ | refine va ?_ | refine vp ?_ | refine vr ?_ | refine vt ?_) | (apply vZ; first | refine vs ?_))); refine W_e ?_) | (apply ZK; first | refine Z4 ?_ | refine Z5 ?_) | refine Z6 ?_ | refine Z7 ?_ | refine Z8 ?_ | refine Z9 ?_ | refine ZA ?_ | refine ZB ?_ | refine ZC ?_ | refine ZD ?_ | refine ZE ?_ | refine ZF ?_ | refine ZG ?_ | refine ZH ?_)
        refine C_count l.length (fun k => ∀ j (h : j < l.length), j < k → l[j] = atOf ⟨l[0], l[1] - l[0], l.length⟩ j) (fun k => ⟨2, 72, [(6, iD k), (4, .ptr 1 0), (3, iD 0), (2, .ptr 0 0), (0, rowI l)], [(0, some ⟨39, 3, 1, [iD 0, iD 0, iD 0]⟩), (1, some ⟨151, 3, 1, [iD (l[0]), iD (l[1] - l[0]), iD l.length]⟩)]⟩) ?_ (fun j _ h => absurd h (by omega)) ?_
        · exact Wk.go (fun b => b)
        · intro k hk hΦ
          by_cases hlt : k < l.length
          · have hp := prod_small (a := l[1] - l[0]) (b := (k : Int)) (by omega) (by omega) (by omega) (by omega)
            rw [Int.mul_comm] at hp
            have A := rAt_d ⟨l[0], l[1] - l[0], l.length⟩ k (by simp only; omega) (by simp only; omega) (by simp only; omega) (by simp only; omega)
            by_cases he : l[k] = atOf ⟨l[0], l[1] - l[0], l.length⟩ k
            · repeat (first | refine Z1 ?_ | refine Z2 ?_ | (refine Z3 ?_; (repeat (first | (apply gS; first | refine go_no ?_ | refine go_f ?_ | refine gm ?_ | refine gp ?_ | refine go_c rfl rfl (A) ?_) | (apply gZ; first | refine go_f ?_ | refine gm ?_))); refine T_nil ?_) | (apply ZR; refine C_dr mixed ?_; (repeat (first | (apply vS; first | refine vn ?_ | refine va ?_ | refine vp ?_ | refine vr ?_ | refine vt ?_ | refine vc (A) ?_) | (apply vZ; first | refine vs ?_))); refine W_e ?_) | (apply ZK; first | refine Z4 ?_ | refine Z5 ?_) | refine Z6 ?_ | refine Z7 ?_ | refine Z8 ?_ | refine Z9 ?_ | refine ZA ?_ | refine ZB ?_ | refine ZC ?_ | refine ZD ?_ | refine ZE ?_ | refine ZF ?_ | refine ZG ?_ | refine ZH ?_)
              refine kLoop_n ⟨hlt, fun j h hj => ?_, ?_⟩
              · by_cases e : j = k
                · subst e; exact he
                · exact hΦ j h (by omega)
              · exact Wk.go (fun b => b)
            · rw [of_no (fun g => he (by have := (g.2.2.2 k hlt).2; rwa [er] at this))]
              repeat (first | refine Z1 ?_ | refine Z2 ?_ | (refine Z3 ?_; (repeat (first | (apply gS; first | refine go_no ?_ | refine go_f ?_ | refine gm ?_ | refine gp ?_ | refine go_c rfl rfl (A) ?_) | (apply gZ; first | refine go_f ?_ | refine gm ?_))); refine T_nil ?_) | (apply ZR; refine C_dr mixed ?_; (repeat (first | (apply vS; first | refine vn ?_ | refine va ?_ | refine vp ?_ | refine vr ?_ | refine vt ?_ | refine vc (A) ?_) | (apply vZ; first | refine vs ?_))); refine W_e ?_) | (apply ZK; first | refine Z4 ?_ | refine Z5 ?_) | refine Z6 ?_ | refine Z7 ?_ | refine Z8 ?_ | refine Z9 ?_ | refine ZA ?_ | refine ZB ?_ | refine ZC ?_ | refine ZD ?_ | refine ZE ?_ | refine ZF ?_ | refine ZG ?_ | refine ZH ?_)
              repeat (first | refine kEnd_m ?_ | refine kEnd_f ?_)
              refine kEnd_g ?_ (by first | exact .inl rfl | exact .inr rfl)
              exact Sub.eq rfl rfl
          · obtain rfl : k = l.length := by omega
            have hD := of_done hl hN (by rw [er]; exact fun j h => hΦ j h h) (by rw [es]; omega)
            have hp := prod_small (a := l[1] - l[0]) (b := (l.length : Int) - 1) (by omega) (by omega) (by omega) (by omega)
            rw [Int.mul_comm] at hp
            have M := rMade_g (ofRow l) (by rw [er]; simp only; omega) (by rw [er]; simp only; omega) (by rw [er]; exact rAt_d _ _ (by simp only; omega) (by simp only; omega) (by simp only; omega) (by simp only; omega))
            rcases hD with ⟨d1, d2⟩ | ⟨d1, d2⟩
            all_goals
              rw [d2]
              rw [d1, er] at M
              try rw [er]
              repeat (first | refine Z1 ?_ | refine Z2 ?_ | (refine Z3 ?_; (repeat (first | (apply gS; first | refine go_no ?_ | refine go_f ?_ | refine gm ?_ | refine gp ?_ | refine go_c rfl rfl (M) ?_) | (apply gZ; first | refine go_f ?_ | refine gm ?_))); refine T_nil ?_) | (apply ZR; refine C_dr mixed ?_; (repeat (first | (apply vS; first | refine vn ?_ | refine va ?_ | refine vp ?_ | refine vr ?_ | refine vt ?_ | refine vc (M) ?_) | (apply vZ; first | refine vs ?_))); refine W_e ?_) | (apply ZK; first | refine Z4 ?_ | refine Z5 ?_) | refine Z6 ?_ | refine Z7 ?_ | refine Z8 ?_ | refine Z9 ?_ | refine ZA ?_ | refine ZB ?_ | refine ZC ?_ | refine ZD ?_ | refine ZE ?_ | refine ZF ?_ | refine ZG ?_ | refine ZH ?_)
              repeat (first | refine kEnd_m ?_ | refine kEnd_f ?_)
              refine kEnd_g ?_ (by first | exact .inl rfl | exact .inr rfl)
              exact Sub.eq rfl rfl
end Go.Proofs.Ytifapodobhkdcaa
