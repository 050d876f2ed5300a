/- The law's frame, by the abstract machine; First. -/
import Derived.Test.YtifapodobhkdcaaS5
namespace Go.Proofs.Ytifapodobhkdcaa
open Go.RowKit
set_option linter.unusedVariables false
set_option maxHeartbeats 16000000
set_option linter.unusedSimpArgs false
set_option maxRecDepth 100000
inductive RCs (I : Nat → Prop) (w : World) : List D → List Value → Prop
  | nil : RCs I w [] []
  | cons {d : D} {v : Value} {ds : List D} {vs : List Value} (h : RC I w d v) (k : RCs I w ds vs) : RCs I w (d :: ds) (v :: vs)
theorem RCs.all {I : Nat → Prop} {w : World} {ds : List D} {vs : List Value} (h : RCs I w ds vs) : ds.length = vs.length ∧ ∀ (j : Nat) (d : D) (v : Value), ds[j]? = some d → vs[j]? = some v → RC I w d v := by
  induction h with
  | nil => exact ⟨rfl, fun j d v h => by simp at h⟩
  | cons h k ih =>
    refine ⟨by simp [ih.1], fun j d v h1 h2 => ?_⟩
    cases j with
    | zero => simp at h1 h2; subst h1; subst h2; exact h
    | succ j => exact ih.2 j d v (by simpa using h1) (by simpa using h2)
theorem RC.int (I : Nat → Prop) (w : World) (n : Int) : RC I w (iD n) (.int .i64 n) := .val _ rfl
theorem RC.rg (I : Nat → Prop) (w : World) (a b c : Int) : RC I w (.agg [iD a, iD b, iD c]) (.agg #[.int .i64 a, .int .i64 b, .int .i64 c]) :=
  .agg (us := [.int .i64 a, .int .i64 b, .int .i64 c]) rfl (fun u hu => by simp at hu; rcases hu with rfl | rfl | rfl <;> rfl) (RCs.all (.cons (.int I w a) (.cons (.int I w b) (.cons (.int I w c) .nil)))).2
theorem RC.ints {w : World} {v : Value} {l : List Int} (h : IntsIn w v l) : RC (fun b => b < w.heap.size) w (rowI l) v := by
  obtain ⟨ao, cap, b, off, rfl, hc, hm, ha, hcell, hok, hnil⟩ := h
  refine .row hc hm hnil (us := l.map (Value.int .i64)) (b := b) (off := off) (by simp) (fun h => ?_) (fun j u hu => ?_) (fun u hu => by simp at hu; obtain ⟨_, _, rfl⟩ := hu; rfl) (fun j d u h1 h2 => ?_)
  · have h0 : 0 < l.length := by simpa using h
    exact ⟨ha h0, World.block_lt_of_cell? w _ (hcell 0 h0)⟩
  · have hj : j < l.length := by have := (List.getElem?_eq_some_iff.1 hu).1; simpa using this
    rw [hcell j hj, at_eq l j hj]
    simpa [hj] using hu
  · rw [List.getElem?_map] at h1 h2
    cases hl : l[j]? with
    | none => rw [hl] at h1; cases h1
    | some n => rw [hl] at h1 h2; cases h1; cases h2; exact .int _ _ n
theorem DC.law {P : Program} {f : Nat} {ds : List D} {vs : List Value} {w : World} (h : DC P f ds (bD true)) (hv : RCs (fun b => b < w.heap.size) w ds vs) : Calls P f vs.toArray w fun e w' => e = .returned (.bool true) ∧ Below w.heap.size w w' := by
  obtain ⟨h1, h2⟩ := hv.all
  refine (h.calls w _ vs (fun b hb => hb) h1 h2).mono ?_
  rintro e w' ⟨v, rfl, hr, hl⟩
  cases hr
  exact ⟨rfl, hl⟩
theorem first_d : DC Try.prog 24 [] (bD true) := by
  have M := sMembers_d ⟨1, 10, -3⟩
  have e : membersRes ⟨1, 10, -3⟩ = ([10, 7, 4, 1], 0) := by decide
  rw [e] at M
  have S := sameInts_d [10, 7, 4, 1] [10, 7, 4, 1] (by decide)
  rw [decide_eq_true rfl] at S
  refine DC.of Try.func24 Try.ntmps24 Try.results24 rfl (by decide +kernel) rfl ?_
  repeat (first | refine Z1 ?_ | refine Z2 ?_ | (refine Z3 ?_; (repeat (first | (apply gS; first | refine go_no ?_ | refine go_f ?_ | refine gm ?_ | refine gp ?_ | refine go_c rfl rfl (M) ?_ | refine go_c rfl rfl (S) ?_))); refine T_nil ?_) | (apply ZK; first | refine Z4 ?_ | refine Z5 ?_) | refine Z6 ?_ | refine Z7 ?_)
  repeat (first | refine kEnd_m ?_ | refine kEnd_f ?_)
  refine kEnd_g ?_ (by first | exact .inl rfl | exact .inr rfl)
  exact Sub.eq rfl rfl
end Go.Proofs.Ytifapodobhkdcaa
