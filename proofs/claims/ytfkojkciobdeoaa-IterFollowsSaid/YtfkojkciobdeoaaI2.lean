/- Serial and At of package iter and of the reference, the law's Awake, by the abstract machine. -/
import Derived.Test.YtfkojkciobdeoaaI1
import Derived.Test.YtfkojkciobdeoaaR4
namespace Go.Proofs.Ytfkojkciobdeoaa
open Go.RowKit
set_option linter.unusedVariables false
set_option maxHeartbeats 16000000
set_option linter.unusedSimpArgs false
set_option maxRecDepth 100000
theorem awake8_d : DC Try.prog 30 [] (bD true) := by
  have Z := zip_d [[⟨1, 3, 1⟩], [⟨10, 30, 10⟩]] (by decide)
  rw [show zipRes [[⟨1, 3, 1⟩], [⟨10, 30, 10⟩]] = ([[[1], [10]], [[2], [20]], [[3], [30]]], 0) by decide] at Z
  refine DC.of Try.func30 Try.ntmps30 Try.results30 rfl (by decide +kernel) rfl ?_
  repeat (first | refine Z1 ?_ | refine Z2 ?_ | (refine Z3 ?_; (repeat (first | (apply gS; first | refine go_no ?_ | refine go_f ?_ | refine gm ?_ | refine gp ?_ | refine go_c rfl rfl (Z) ?_))); refine T_nil ?_) | (apply ZK; first | refine Z4 ?_ | refine Z5 ?_) | refine Z6 ?_ | refine Z7 ?_)
  repeat (first | refine kEnd_m ?_ | refine kEnd_f ?_)
  refine kEnd_g ?_ (by first | exact .inl rfl | exact .inr rfl)
  exact Sub.eq rfl rfl
theorem iSerial_d (rs : List Rg) : DC Try.prog 45 [domD rs] (.tup [rowL2 (dIndexesRes rs).1, iD (dIndexesRes rs).2]) := by
  have C := dIndexes_d rs
  refine DC.of Try.func45 Try.ntmps45 Try.results45 rfl (by decide +kernel) rfl ?_
  repeat (first | refine Z1 ?_ | refine Z2 ?_ | (refine Z3 ?_; (repeat (first | (apply gS; first | refine go_f ?_ | refine gm ?_ | refine gp ?_ | refine go_c rfl rfl (C) ?_))); refine T_nil ?_) | (apply ZK; first | refine Z4 ?_ | refine Z5 ?_) | refine Z6 ?_ | refine Z7 ?_)
  repeat (first | refine kEnd_m ?_ | refine kEnd_f ?_)
  refine kEnd_g ?_ (by first | exact .inl rfl | exact .inr rfl)
  exact Sub.eq rfl rfl
theorem riSerial_d (rs : List Rg) : DC Try.prog 46 [domD rs] (.tup [rowL2 (dIndexesRes rs).1, iD (dIndexesRes rs).2]) := by
  have C := rdIndexes_d rs
  refine DC.of Try.func46 Try.ntmps46 Try.results46 rfl (by decide +kernel) rfl ?_
  repeat (first | refine Z1 ?_ | refine Z2 ?_ | (refine Z3 ?_; (repeat (first | (apply gS; first | refine go_f ?_ | refine gm ?_ | refine gp ?_ | refine go_c rfl rfl (C) ?_))); refine T_nil ?_) | (apply ZK; first | refine Z4 ?_ | refine Z5 ?_) | refine Z6 ?_ | refine Z7 ?_)
  repeat (first | refine kEnd_m ?_ | refine kEnd_f ?_)
  refine kEnd_g ?_ (by first | exact .inl rfl | exact .inr rfl)
  exact Sub.eq rfl rfl
def atRes (rs : List Rg) (a b : Int) : List (List Int) × Int := if domB rs = true then (if 0 ≤ a ∧ a ≤ b ∧ b ≤ (idxs rs).length then (((idxs rs).drop a.toNat).take (b.toNat - a.toNat), 0) else ([], 2)) else ([], 40)
theorem at_cases {a b n : Int} : (0 ≤ a ∧ a ≤ b ∧ b ≤ n) ∨ (¬ (0 ≤ a ∧ a ≤ b ∧ b ≤ n) ∧ (a < 0 ∨ 0 ≤ a ∧ (b < a ∨ a ≤ b ∧ n < b))) := by omega
theorem iAt_d (rs : List Rg) (a b : Int) : DC Try.prog 47 [domD rs, iD a, iD b] (.tup [rowL2 (atRes rs a b).1, iD (atRes rs a b).2]) := by
  have C := dIndexes_d rs
  unfold atRes
  unfold dIndexesRes at C
  cases h : domB rs <;> rw [h] at C
  · refine DC.of Try.func47 Try.ntmps47 Try.results47 rfl (by decide +kernel) rfl ?_
    repeat (first | refine Z1 ?_ | refine Z2 ?_ | (refine Z3 ?_; (repeat (first | (apply gS; first | refine go_no ?_ | refine go_f ?_ | refine gm ?_ | refine gp ?_ | refine go_c rfl rfl (C) ?_))); refine T_nil ?_) | (apply ZK; first | refine Z4 ?_ | refine Z5 ?_) | refine Z6 ?_ | refine Z7 ?_ | refine Z8 ?_ | refine Z9 ?_ | refine ZA ?_ | refine ZB ?_ | refine ZC ?_ | refine ZF ?_)
    repeat (first | refine kEnd_m ?_ | refine kEnd_f ?_)
    refine kEnd_g ?_ (by first | exact .inl rfl | exact .inr rfl)
    exact Sub.tup (.cons Sub.nil (.cons (Sub.eq rfl rfl) .nil))
  · rw [if_pos rfl] at C ⊢
    have hp : (idxs rs).length ≤ 4096 := by rw [idxs_len]; exact (domB_iff.1 h).2.2
    dsimp only at C
    generalize idxs rs = l at *
    rcases at_cases (a := a) (b := b) (n := l.length) with ⟨h1, h2, h3⟩ | ⟨h0, h1⟩
    · rw [if_pos ⟨h1, h2, h3⟩]
      refine DC.of Try.func47 Try.ntmps47 Try.results47 rfl (by decide +kernel) rfl ?_
      repeat (first | refine Z1 ?_ | refine Z2 ?_ | (refine Z3 ?_; (repeat (first | (apply gS; first | refine go_no ?_ | refine go_f ?_ | refine gm ?_ | refine gp ?_ | refine go_c rfl rfl (C) ?_))); refine T_nil ?_) | (apply ZK; first | refine Z4 ?_ | refine Z5 ?_) | refine Z6 ?_ | refine Z7 ?_ | refine Z8 ?_ | refine Z9 ?_ | refine ZA ?_ | refine ZB ?_ | refine ZC ?_ | refine ZF ?_)
      repeat (first | refine kEnd_m ?_ | refine kEnd_f ?_)
      refine kEnd_g ?_ (by first | exact .inl rfl | exact .inr rfl)
      exact Sub.eq rfl rfl
    · rw [if_neg h0]
      clear h0
      rcases h1 with h1 | ⟨h1, h2 | ⟨h2, h3⟩⟩
      all_goals
        refine DC.of Try.func47 Try.ntmps47 Try.results47 rfl (by decide +kernel) rfl ?_
        repeat (first | refine Z1 ?_ | refine Z2 ?_ | (refine Z3 ?_; (repeat (first | (apply gS; first | refine go_no ?_ | refine go_f ?_ | refine gm ?_ | refine gp ?_ | refine go_c rfl rfl (C) ?_))); refine T_nil ?_) | (apply ZK; first | refine Z4 ?_ | refine Z5 ?_) | refine Z6 ?_ | refine Z7 ?_ | refine Z8 ?_ | refine Z9 ?_ | refine ZA ?_ | refine ZB ?_ | refine ZC ?_ | refine ZF ?_)
        repeat (first | refine kEnd_m ?_ | refine kEnd_f ?_)
        refine kEnd_g ?_ (by first | exact .inl rfl | exact .inr rfl)
        exact Sub.tup (.cons Sub.nil (.cons (Sub.eq rfl rfl) .nil))
theorem riAt_d (rs : List Rg) (a b : Int) : DC Try.prog 48 [domD rs, iD a, iD b] (.tup [rowL2 (atRes rs a b).1, iD (atRes rs a b).2]) := by
  have C := rdIndexes_d rs
  unfold atRes
  unfold dIndexesRes at C
  cases h : domB rs <;> rw [h] at C
  · refine DC.of Try.func48 Try.ntmps48 Try.results48 rfl (by decide +kernel) rfl ?_
    repeat (first | refine Z1 ?_ | refine Z2 ?_ | (refine Z3 ?_; (repeat (first | (apply gS; first | refine go_no ?_ | refine go_f ?_ | refine gm ?_ | refine gp ?_ | refine go_c rfl rfl (C) ?_))); refine T_nil ?_) | (apply ZK; first | refine Z4 ?_ | refine Z5 ?_) | refine Z6 ?_ | refine Z7 ?_ | refine Z8 ?_ | refine Z9 ?_ | refine ZA ?_ | refine ZB ?_ | refine ZC ?_ | refine ZF ?_)
    repeat (first | refine kEnd_m ?_ | refine kEnd_f ?_)
    refine kEnd_g ?_ (by first | exact .inl rfl | exact .inr rfl)
    exact Sub.tup (.cons Sub.nil (.cons (Sub.eq rfl rfl) .nil))
  · rw [if_pos rfl] at C ⊢
    have hp : (idxs rs).length ≤ 4096 := by rw [idxs_len]; exact (domB_iff.1 h).2.2
    dsimp only at C
    generalize idxs rs = l at *
    rcases at_cases (a := a) (b := b) (n := l.length) with ⟨h1, h2, h3⟩ | ⟨h0, h1⟩
    · rw [if_pos ⟨h1, h2, h3⟩]
      refine DC.of Try.func48 Try.ntmps48 Try.results48 rfl (by decide +kernel) rfl ?_
      repeat (first | refine Z1 ?_ | refine Z2 ?_ | (refine Z3 ?_; (repeat (first | (apply gS; first | refine go_no ?_ | refine go_f ?_ | refine gm ?_ | refine gp ?_ | refine go_c rfl rfl (C) ?_))); refine T_nil ?_) | (apply ZK; first | refine Z4 ?_ | refine Z5 ?_) | refine Z6 ?_ | refine Z7 ?_ | refine Z8 ?_ | refine Z9 ?_ | refine ZA ?_ | refine ZB ?_ | refine ZC ?_ | refine ZF ?_)
      repeat (first | refine kEnd_m ?_ | refine kEnd_f ?_)
      refine kEnd_g ?_ (by first | exact .inl rfl | exact .inr rfl)
      exact Sub.eq rfl rfl
    · rw [if_neg h0]
      clear h0
      rcases h1 with h1 | ⟨h1, h2 | ⟨h2, h3⟩⟩
      all_goals
        refine DC.of Try.func48 Try.ntmps48 Try.results48 rfl (by decide +kernel) rfl ?_
        repeat (first | refine Z1 ?_ | refine Z2 ?_ | (refine Z3 ?_; (repeat (first | (apply gS; first | refine go_no ?_ | refine go_f ?_ | refine gm ?_ | refine gp ?_ | refine go_c rfl rfl (C) ?_))); refine T_nil ?_) | (apply ZK; first | refine Z4 ?_ | refine Z5 ?_) | refine Z6 ?_ | refine Z7 ?_ | refine Z8 ?_ | refine Z9 ?_ | refine ZA ?_ | refine ZB ?_ | refine ZC ?_ | refine ZF ?_)
        repeat (first | refine kEnd_m ?_ | refine kEnd_f ?_)
        refine kEnd_g ?_ (by first | exact .inl rfl | exact .inr rfl)
        exact Sub.tup (.cons Sub.nil (.cons (Sub.eq rfl rfl) .nil))
end Go.Proofs.Ytfkojkciobdeoaa
