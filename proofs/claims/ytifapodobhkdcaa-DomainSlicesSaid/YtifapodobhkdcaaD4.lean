/- canon, Canon and done of package domain, by the abstract machine. -/
import Derived.Test.YtifapodobhkdcaaD3
namespace Go.Proofs.Ytifapodobhkdcaa
open Go.RowKit
set_option linter.unusedVariables false
set_option maxHeartbeats 16000000
set_option linter.unusedSimpArgs false
set_option maxRecDepth 100000
def canonRs (rs : List Rg) : List Rg := rs.map fun r => if prodN (cl rs) = 0 then ⟨1, 0, 1⟩ else canonOf (rowOf r)
theorem sCanon_ok {r : Rg} (h : vB r = true) : DC Try.prog 165 [rD r] (.tup [rD (canonOf (rowOf r)), iD 0]) := by
  have H := sCanonP_d r
  rwa [show canonRes r = (canonOf (rowOf r), 0) from if_pos h] at H
theorem flat_snoc {rs : List Rg} {f : Rg → Rg} {k : Nat} (h : k < rs.length) : ((rs.take (k + 1)).map f).flatMap rC = ((rs.take k).map f).flatMap rC ++ rC (f rs[k]) := by
  rw [List.take_succ_eq_append_getElem h, List.map_append, List.flatMap_append]; simp
set_option maxHeartbeats 4000000 in
theorem canon_d (rs : List Rg) (h : domB rs = true) : DC Try.prog 109 [domD rs] (domD (canonRs rs)) := by
  have C := counts_d rs
  unfold countsN countsL at C
  rw [h, if_pos rfl, if_pos rfl] at C
  obtain ⟨⟨hl1, hl3⟩, hv, hp⟩ := domB_iff.1 h
  have hlen : (canonRs rs).length = rs.length := by simp [canonRs]
  obtain ⟨f, hf⟩ : ∃ f : Rg → Rg, f = fun r => if prodN (cl rs) = 0 then ⟨1, 0, 1⟩ else canonOf (rowOf r) := ⟨_, rfl⟩
  have hr : domD (canonRs rs) = .agg [.row rs.length ((rs.map f).flatMap rC)] := by
    show D.agg [.row _ _] = _
    rw [hlen, hf]; rfl
  rw [hr]
  clear hr hlen
  have hsn : ∀ k (h : k < rs.length), ((rs.take (k + 1)).map f).flatMap rC = ((rs.take k).map f).flatMap rC ++ rC (f rs[k]) := fun k h => flat_snoc h
  by_cases hz : prodN (cl rs) = 0
  all_goals
    simp only [hz, if_true, if_false] at hf
    have hz' : (prodN (cl rs) : Int) = 0 ↔ prodN (cl rs) = 0 := by omega
    generalize prodN (cl rs) = P at *
    refine DC.of Try.func109 Try.ntmps109 Try.results109 rfl (by decide +kernel) rfl ?_
    repeat (first | refine Z1 ?_ | refine Z2 ?_ | (refine Z3 ?_; (repeat (first | (apply gS; first | refine go_f ?_ | refine gm ?_ | refine gp ?_ | refine go_c rfl rfl (C) ?_) | (apply gZ; first | refine go_f ?_ | refine gm ?_))); refine T_nil ?_) | (apply ZK; first | refine Z4 ?_ | refine Z5 ?_) | refine Z6 ?_ | refine Z7 ?_ | refine Z8 ?_ | refine Z9 ?_ | refine ZA ?_ | refine ZB ?_ | refine ZC ?_ | refine ZD ?_ | refine ZE ?_ | refine ZF ?_ | refine ZG ?_ | refine ZH ?_)
    refine C_count rs.length (fun _ => True) (fun k => ⟨4, 40, [(20, iD k), (19, iD rs.length), (18, rowR rs), (5, iD P), (3, .ptr 2 0), (2, .ptr 1 0)], [(2, some ⟨24, 1, 1, [.own 3 k]⟩), (1, some ⟨24, 1, 1, [.val (.slice none 0 0)]⟩), (3, some ⟨39, 3, k, ((rs.take k).map f).flatMap rC⟩)]⟩) ?_ trivial ?_
    · refine Wk.trans (Wk.adoptM 2 0 39 3 rfl rfl) ?_
      exact Wk.go (fun b => b)
    · intro k hk _
      by_cases hlt : k < rs.length
      · have N := sCanon_ok (hv _ (List.getElem_mem hlt))
        have en := hsn k hlt
        have ef : f rs[k] = _ := congrFun hf rs[k]
        rw [ef] at en
        clear hsn
        repeat (first | refine Z1 ?_ | refine Z2 ?_ | (refine Z3 ?_; (repeat (first | (apply gS; first | refine go_f ?_ | refine gm ?_ | refine gp ?_ | refine go_c rfl rfl (N) ?_) | (apply gZ; first | refine go_f ?_ | refine gm ?_))); refine T_nil ?_) | (apply ZK; first | refine Z4 ?_ | refine Z5 ?_) | refine Z6 ?_ | refine Z7 ?_ | refine Z8 ?_ | refine Z9 ?_ | refine ZA ?_ | refine ZB ?_ | refine ZC ?_ | refine ZD ?_ | refine ZE ?_ | refine ZF ?_ | refine ZG ?_ | refine ZH ?_)
        refine kLoop_n ⟨hlt, trivial, ?_⟩
        exact Wk.go (fun b => cond (Nat.beq b 3) 6 (b))
      · obtain rfl : k = rs.length := by omega
        rw [List.take_length]
        repeat (first | refine Z1 ?_ | refine Z2 ?_ | (refine Z3 ?_; (repeat (first | (apply gS; first | refine go_f ?_ | refine gm ?_ | refine gp ?_) | (apply gZ; first | refine go_f ?_ | refine gm ?_))); refine T_nil ?_) | (apply ZK; first | refine Z4 ?_ | refine Z5 ?_) | refine Z6 ?_ | refine Z7 ?_ | refine Z8 ?_ | refine Z9 ?_ | refine ZA ?_ | refine ZB ?_ | refine ZC ?_ | refine ZD ?_ | refine ZE ?_ | refine ZF ?_ | refine ZG ?_ | refine ZH ?_)
        repeat (first | refine kEnd_m ?_ | refine kEnd_f ?_)
        refine kEnd_g ?_ (by first | exact .inl rfl | exact .inr rfl)
        exact Sub.eq rfl rfl
def dCanonRes (rs : List Rg) : List Rg × Int := if domB rs = true then (canonRs rs, 0) else ([], 40)
theorem dCanon_d (rs : List Rg) : DC Try.prog 51 [domD rs] (.tup [domD (dCanonRes rs).1, iD (dCanonRes rs).2]) := by
  have V := dValid_b rs (b := domB rs) rfl
  unfold dCanonRes
  cases h : domB rs <;> rw [h] at V
  · refine DC.of Try.func51 Try.ntmps51 Try.results51 rfl (by decide +kernel) rfl ?_
    repeat (first | refine Z1 ?_ | refine Z2 ?_ | (refine Z3 ?_; (repeat (first | (apply gS; first | refine go_f ?_ | refine gm ?_ | refine gp ?_ | refine go_c rfl rfl (V) ?_) | (apply gZ; first | refine go_f ?_ | refine gm ?_))); refine T_nil ?_) | (apply ZK; first | refine Z4 ?_ | refine Z5 ?_) | refine Z6 ?_ | refine Z7 ?_ | refine ZF ?_)
    repeat (first | refine kEnd_m ?_ | refine kEnd_f ?_)
    refine kEnd_g ?_ (by first | exact .inl rfl | exact .inr rfl)
    exact Sub.tup (.cons (Sub.agg (.cons Sub.nil .nil)) (.cons (Sub.eq rfl rfl) .nil))
  · have C := canon_d rs h
    refine DC.of Try.func51 Try.ntmps51 Try.results51 rfl (by decide +kernel) rfl ?_
    repeat (first | refine Z1 ?_ | refine Z2 ?_ | (refine Z3 ?_; (repeat (first | (apply gS; first | refine go_f ?_ | refine gm ?_ | refine gp ?_ | refine go_c rfl rfl (V) ?_ | refine go_c rfl rfl (C) ?_) | (apply gZ; first | refine go_f ?_ | refine gm ?_))); refine T_nil ?_) | (apply ZK; first | refine Z4 ?_ | refine Z5 ?_) | refine Z6 ?_ | refine Z7 ?_ | refine ZF ?_)
    repeat (first | refine kEnd_m ?_ | refine kEnd_f ?_)
    refine kEnd_g ?_ (by first | exact .inl rfl | exact .inr rfl)
    exact Sub.eq rfl rfl
theorem dDone_d (rs : List Rg) : DC Try.prog 110 [rowR rs] (.tup [domD (dCanonRes rs).1, iD (dCanonRes rs).2]) := by
  have V := dValid_b rs (b := domB rs) rfl
  unfold dCanonRes
  cases h : domB rs <;> rw [h] at V
  · refine DC.of Try.func110 Try.ntmps110 Try.results110 rfl (by decide +kernel) rfl ?_
    repeat (first | refine Z1 ?_ | refine Z2 ?_ | (refine Z3 ?_; (repeat (first | (apply gS; first | refine go_f ?_ | refine gm ?_ | refine gp ?_ | refine go_c rfl rfl (V) ?_) | (apply gZ; first | refine go_f ?_ | refine gm ?_))); refine T_nil ?_) | (apply ZK; first | refine Z4 ?_ | refine Z5 ?_) | refine Z6 ?_ | refine Z7 ?_ | refine ZF ?_)
    repeat (first | refine kEnd_m ?_ | refine kEnd_f ?_)
    refine kEnd_g ?_ (by first | exact .inl rfl | exact .inr rfl)
    exact Sub.tup (.cons (Sub.agg (.cons Sub.nil .nil)) (.cons (Sub.eq rfl rfl) .nil))
  · have C := canon_d rs h
    refine DC.of Try.func110 Try.ntmps110 Try.results110 rfl (by decide +kernel) rfl ?_
    repeat (first | refine Z1 ?_ | refine Z2 ?_ | (refine Z3 ?_; (repeat (first | (apply gS; first | refine go_f ?_ | refine gm ?_ | refine gp ?_ | refine go_c rfl rfl (V) ?_ | refine go_c rfl rfl (C) ?_) | (apply gZ; first | refine go_f ?_ | refine gm ?_))); refine T_nil ?_) | (apply ZK; first | refine Z4 ?_ | refine Z5 ?_) | refine Z6 ?_ | refine Z7 ?_ | refine ZF ?_)
    repeat (first | refine kEnd_m ?_ | refine kEnd_f ?_)
    refine kEnd_g ?_ (by first | exact .inl rfl | exact .inr rfl)
    exact Sub.eq rfl rfl
end Go.Proofs.Ytifapodobhkdcaa
