/- The law DomainKinds returns true for every input: Valid, Canon, Count, Indexes and Rank of the program are those of the reference. -/
import Derived.Test.YtfkojkciobdeoaaR4
import Derived.Test.YtfkojkciobdeoaaCameD
namespace Go.Proofs.Ytfkojkciobdeoaa.domainKinds
open Go.RowKit Go.Proofs.Ytfkojkciobdeoaa
set_option linter.unusedVariables false
set_option linter.unusedSimpArgs false
set_option maxRecDepth 100000
theorem awake_d : DC Try.prog 29 [] (bD true) := by
  have I := dIth_d [⟨1, 2, 1⟩, ⟨1, 3, 1⟩] 3
  rw [show dIthRes [⟨1, 2, 1⟩, ⟨1, 3, 1⟩] 3 = ([2, 1], 0) by decide] at I
  refine DC.of Try.func29 Try.ntmps29 Try.results29 rfl (by decide +kernel) rfl ?_
  repeat (first | refine C_seq ?_ | refine kSeq_n ?_ | (refine C_region (id := 0) ?_; refine go_p (P_assign rfl rfl) ?_; refine T_nil ?_) | (refine C_region (id := 1) ?_; refine go_p P_gB3 ?_; refine go_p P_gB3 ?_; (repeat refine go_f ?_); refine go_p (P_lit6 rfl rfl rfl rfl rfl) ?_; refine go_p P_gB1 ?_; refine go_m MS_Alloc ?_; refine go_m MS_StA ?_; refine T_nil ?_) | (refine C_region (id := 2) ?_; refine go_p (P_loadAgg1 rfl rfl rfl) ?_; (repeat refine go_f ?_); refine go_c (I) ?_; refine go_p (P_move rfl rfl) ?_; refine go_p (P_extract rfl rfl rfl) ?_; refine go_p (P_extract rfl rfl rfl) ?_; refine go_p (P_assign rfl rfl) ?_; refine go_p (P_assign rfl rfl) ?_; refine T_nil ?_) | (refine C_region (id := 3) ?_; refine go_p (P_move rfl rfl) ?_; refine go_p P_gEql ?_; refine go_p (P_move rfl rfl) ?_; (first | refine go_no ?_ | refine go_p (P_move rfl rfl) ?_); (first | refine go_no ?_ | refine go_p P_gLen ?_); (first | refine go_no ?_ | refine go_p P_gEql ?_); refine go_p P_gPick ?_; refine go_p (P_move rfl rfl) ?_; (first | refine go_no ?_ | refine go_p (P_move rfl rfl) ?_); (first | refine go_no ?_ | refine go_p P_gIdx1 ?_); (first | refine go_no ?_ | refine go_p (P_load rfl rfl rfl) ?_); (first | refine go_no ?_ | refine go_p P_gEql ?_); refine go_p P_gPick ?_; refine go_p (P_move rfl rfl) ?_; (first | refine go_no ?_ | refine go_p (P_move rfl rfl) ?_); (first | refine go_no ?_ | refine go_p P_gIdx1 ?_); (first | refine go_no ?_ | refine go_p (P_load rfl rfl rfl) ?_); (first | refine go_no ?_ | refine go_p P_gEql ?_); refine go_p P_gPick ?_; refine go_p (P_assign rfl rfl) ?_; refine T_nil ?_) | refine C_cond_t rfl ?_ | refine C_cond_f rfl ?_ | refine C_ret ?_ | refine kSeq_r ?_)
  repeat (first | refine kEnd_m ?_ | refine kEnd_f ?_)
  refine kEnd_g ?_ (by first | exact .inl rfl | exact .inr rfl)
  exact Sub.eq rfl rfl
set_option maxHeartbeats 8000000 in
theorem law_d (rs : List Rg) : DC Try.prog 6 [domD rs] (bD true) := by
  have C := dCanon_d rs
  have RC' := rdCanon_d rs
  have N := dCount_d rs
  have RN := rdCount_d rs
  have L := dIndexes_d rs
  have RL := rdIndexes_d rs
  have R := dRank_d rs
  have RR := rdRank_d rs
  have V := dValid_b rs (b := domB rs) rfl
  have RV := rdValid_b rs (b := domB rs) rfl
  have hc : (dCanonRes rs).1.length ≤ 9223372036854775806 := by
    unfold dCanonRes
    split
    · rename_i h; have := (domB_iff.1 h).1; simp [canonRs]; omega
    · simp
  have hi : (dIndexesRes rs).1.length ≤ 9223372036854775806 ∧ ∀ o ∈ (dIndexesRes rs).1, o.length ≤ 9223372036854775806 := by
    unfold dIndexesRes
    split
    · rename_i h
      have h3 := domB_iff.1 h
      exact ⟨by rw [idxs_len]; omega, fun o ho => by rw [idxs_each ho]; omega⟩
    · exact ⟨by simp, fun o ho => by simp at ho⟩
  have EQ := equal_d _ hc
  have LS := lists_d _ hi.1 hi.2
  clear hc hi
  generalize dCanonRes rs = c at *
  generalize dCountRes rs = n at *
  generalize dIndexesRes rs = l at *
  generalize dRankRes rs = r at *
  obtain ⟨c1, c2⟩ := c
  obtain ⟨n1, n2⟩ := n
  obtain ⟨l1, l2⟩ := l
  obtain ⟨r1, r2⟩ := r
  dsimp only at C RC' N RN L RL R RR EQ LS
  cases hb : domB rs <;> rw [hb] at V RV
  all_goals
    refine DC.of Try.func6 Try.ntmps6 Try.results6 rfl (by decide +kernel) rfl ?_
    repeat (first | refine C_seq ?_ | refine kSeq_n ?_ | (refine C_region (id := 0) ?_; refine go_m MS_BoxA ?_; refine go_p (P_assign rfl rfl) ?_; refine T_nil ?_) | (refine C_region (id := 1) ?_; refine go_p (P_loadAgg1 rfl rfl rfl) ?_; (repeat refine go_f ?_); (first | refine go_c (C) ?_ | refine go_c (RC') ?_); refine go_p (P_move rfl rfl) ?_; refine go_p (P_extract rfl rfl rfl) ?_; refine go_p (P_extract rfl rfl rfl) ?_; refine go_m MS_Alloc ?_; refine go_m MS_StA ?_; refine go_p (P_assign rfl rfl) ?_; refine T_nil ?_) | (refine C_region (id := 2) ?_; refine go_p (P_loadAgg1 rfl rfl rfl) ?_; (repeat refine go_f ?_); refine go_c (RC') ?_; refine go_p (P_move rfl rfl) ?_; refine go_p (P_extract rfl rfl rfl) ?_; refine go_p (P_extract rfl rfl rfl) ?_; refine go_m MS_Alloc ?_; refine go_m MS_StA ?_; refine go_p (P_assign rfl rfl) ?_; refine T_nil ?_) | (refine C_region (id := 3) ?_; refine go_p (P_loadAgg1 rfl rfl rfl) ?_; (repeat refine go_f ?_); (first | refine go_c (RC') ?_ | refine go_c (N) ?_); refine go_p (P_move rfl rfl) ?_; refine go_p (P_extract rfl rfl rfl) ?_; refine go_p (P_extract rfl rfl rfl) ?_; refine go_p (P_assign rfl rfl) ?_; refine go_p (P_assign rfl rfl) ?_; refine T_nil ?_) | (refine C_region (id := 4) ?_; refine go_p (P_loadAgg1 rfl rfl rfl) ?_; (repeat refine go_f ?_); (first | refine go_c (RC') ?_ | refine go_c (RN) ?_); refine go_p (P_move rfl rfl) ?_; refine go_p (P_extract rfl rfl rfl) ?_; refine go_p (P_extract rfl rfl rfl) ?_; refine go_p (P_assign rfl rfl) ?_; refine go_p (P_assign rfl rfl) ?_; refine T_nil ?_) | (refine C_region (id := 5) ?_; refine go_p (P_loadAgg1 rfl rfl rfl) ?_; (repeat refine go_f ?_); (first | refine go_c (RC') ?_ | refine go_c (L) ?_); refine go_p (P_move rfl rfl) ?_; refine go_p (P_extract rfl rfl rfl) ?_; refine go_p (P_extract rfl rfl rfl) ?_; refine go_p (P_assign rfl rfl) ?_; refine go_p (P_assign rfl rfl) ?_; refine T_nil ?_) | (refine C_region (id := 6) ?_; refine go_p (P_loadAgg1 rfl rfl rfl) ?_; (repeat refine go_f ?_); (first | refine go_c (RC') ?_ | refine go_c (RL) ?_); refine go_p (P_move rfl rfl) ?_; refine go_p (P_extract rfl rfl rfl) ?_; refine go_p (P_extract rfl rfl rfl) ?_; refine go_p (P_assign rfl rfl) ?_; refine go_p (P_assign rfl rfl) ?_; refine T_nil ?_) | (refine C_region (id := 7) ?_; refine go_p (P_loadAgg1 rfl rfl rfl) ?_; (repeat refine go_f ?_); (first | refine go_c (RC') ?_ | refine go_c (R) ?_); refine go_p (P_move rfl rfl) ?_; refine go_p (P_extract rfl rfl rfl) ?_; refine go_p (P_extract rfl rfl rfl) ?_; refine go_p (P_assign rfl rfl) ?_; refine go_p (P_assign rfl rfl) ?_; refine T_nil ?_) | (refine C_region (id := 8) ?_; refine go_p (P_loadAgg1 rfl rfl rfl) ?_; (repeat refine go_f ?_); (first | refine go_c (RC') ?_ | refine go_c (RR) ?_); refine go_p (P_move rfl rfl) ?_; refine go_p (P_extract rfl rfl rfl) ?_; refine go_p (P_extract rfl rfl rfl) ?_; refine go_p (P_assign rfl rfl) ?_; refine go_p (P_assign rfl rfl) ?_; refine T_nil ?_) | (refine C_dr (id := 9) mixed ?_; (first | refine W_p 1 (fun _ => P_loadAgg1 rfl rfl rfl) ?_ | refine W_r 1 ?_); (first | refine W_c 2 (RC') ?_ | refine W_c 2 (V) ?_); (first | refine W_p 3 (fun _ => P_loadAgg1 rfl rfl rfl) ?_ | refine W_r 3 ?_); (first | refine W_c 4 (RC') ?_ | refine W_c 4 (RV) ?_); refine W_p 5 (fun _ => P_gEqB) ?_; refine W_p 6 (fun _ => P_move rfl rfl) ?_; (first | refine W_no 7 ?_ | refine W_p 7 (fun _ => P_loadAgg1 rfl rfl rfl) ?_ | refine W_r 7 ?_); (first | refine W_no 8 ?_ | refine W_p 8 (fun _ => P_loadAgg1 rfl rfl rfl) ?_ | refine W_r 8 ?_); (first | refine W_no 9 ?_ | refine W_c 9 (RC') ?_ | refine W_c 9 (EQ) ?_); refine W_p 10 (fun _ => P_gPick) ?_; refine W_p 11 (fun _ => P_move rfl rfl) ?_; (first | refine W_no 12 ?_ | refine W_p 12 (fun _ => P_move rfl rfl) ?_); (first | refine W_no 13 ?_ | refine W_p 13 (fun _ => P_move rfl rfl) ?_); (first | refine W_no 14 ?_ | refine W_p 14 (fun _ => P_gEql) ?_); refine W_p 15 (fun _ => P_gPick) ?_; refine W_p 16 (fun _ => P_move rfl rfl) ?_; (first | refine W_no 17 ?_ | refine W_p 17 (fun _ => P_move rfl rfl) ?_); (first | refine W_no 18 ?_ | refine W_p 18 (fun _ => P_move rfl rfl) ?_); (first | refine W_no 19 ?_ | refine W_p 19 (fun _ => P_gEql) ?_); refine W_p 20 (fun _ => P_gPick) ?_; refine W_p 21 (fun _ => P_move rfl rfl) ?_; (first | refine W_no 22 ?_ | refine W_p 22 (fun _ => P_move rfl rfl) ?_); (first | refine W_no 23 ?_ | refine W_p 23 (fun _ => P_move rfl rfl) ?_); (first | refine W_no 24 ?_ | refine W_p 24 (fun _ => P_gEql) ?_); refine W_p 25 (fun _ => P_gPick) ?_; refine W_p 26 (fun _ => P_move rfl rfl) ?_; (first | refine W_no 27 ?_ | refine W_p 27 (fun _ => P_move rfl rfl) ?_); (first | refine W_no 28 ?_ | refine W_p 28 (fun _ => P_move rfl rfl) ?_); (first | refine W_no 29 ?_ | refine W_c 29 (RC') ?_ | refine W_c 29 (LS) ?_); refine W_p 30 (fun _ => P_gPick) ?_; refine W_p 31 (fun _ => P_move rfl rfl) ?_; (first | refine W_no 32 ?_ | refine W_p 32 (fun _ => P_move rfl rfl) ?_); (first | refine W_no 33 ?_ | refine W_p 33 (fun _ => P_move rfl rfl) ?_); (first | refine W_no 34 ?_ | refine W_p 34 (fun _ => P_gEql) ?_); refine W_p 35 (fun _ => P_gPick) ?_; refine W_p 36 (fun _ => P_move rfl rfl) ?_; (first | refine W_no 37 ?_ | refine W_p 37 (fun _ => P_move rfl rfl) ?_); (first | refine W_no 38 ?_ | refine W_p 38 (fun _ => P_move rfl rfl) ?_); (first | refine W_no 39 ?_ | refine W_p 39 (fun _ => P_gEql) ?_); refine W_p 40 (fun _ => P_gPick) ?_; refine W_p 41 (fun _ => P_move rfl rfl) ?_; (first | refine W_no 42 ?_ | refine W_p 42 (fun _ => P_move rfl rfl) ?_); (first | refine W_no 43 ?_ | refine W_p 43 (fun _ => P_move rfl rfl) ?_); (first | refine W_no 44 ?_ | refine W_p 44 (fun _ => P_gEql) ?_); refine W_p 45 (fun _ => P_gPick) ?_; refine W_p 46 (fun _ => P_move rfl rfl) ?_; (first | refine W_no 47 ?_ | refine W_c 47 (RC') ?_ | refine W_c 47 (awake_d) ?_); refine W_p 48 (fun _ => P_gPick) ?_; refine W_p 49 (fun _ => P_assign rfl rfl) ?_; refine W_e ?_) | refine C_cond_t rfl ?_ | refine C_cond_f rfl ?_ | refine C_ret ?_ | refine kSeq_r ?_)
    repeat (first | refine kEnd_m ?_ | refine kEnd_f ?_)
    refine kEnd_g ?_ (by first | exact .inl rfl | exact .inr rfl)
    exact Sub.eq rfl rfl
theorem walk {w : World} (v : Value) (rs : List Rg) (rc : RC (fun b => b < w.heap.size) w (domD rs) v) : Calls Try.prog 6 #[v] w fun e w' => e = .returned (.bool true) ∧ Below w.heap.size w w' :=
  DC.law (law_d rs) (.cons rc .nil)
end Go.Proofs.Ytfkojkciobdeoaa.domainKinds
