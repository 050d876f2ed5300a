/- The reference's Canon of domains, by the abstract machine. -/
import Derived.Test.YtfkojkciobdeoaaR1
namespace Go.Proofs.Ytfkojkciobdeoaa
open Go.RowKit
set_option linter.unusedVariables false
set_option maxHeartbeats 16000000
set_option linter.unusedSimpArgs false
set_option maxRecDepth 100000
theorem putAt_app {α : Type} : ∀ (ys q p : List α) (off : Nat), putAt (p ++ q) (p.length + off) ys = p ++ putAt q off ys
  | [], _, _, _ => rfl
  | y :: ys, q, p, off => by
    show putAt ((p ++ q).set (p.length + off) y) (p.length + off + 1) ys = p ++ putAt (q.set off y) (off + 1) ys
    rw [List.set_append_right _ _ (by omega), show p.length + off - p.length = off by omega, Nat.add_assoc]
    exact putAt_app ys _ p (off + 1)
theorem put_flat (r : Rg) : ∀ (l : List Rg) (i : Nat), i < l.length → putAt (l.flatMap rC) (i * 3) (rC r) = (l.set i r).flatMap rC
  | [], i, h => by simp at h
  | a :: l, 0, _ => by
    show putAt ([iD a.lo, iD a.hi, iD a.st] ++ l.flatMap rC) 0 [iD r.lo, iD r.hi, iD r.st] = [iD r.lo, iD r.hi, iD r.st] ++ l.flatMap rC
    rfl
  | a :: l, i + 1, h => by
    rw [List.flatMap_cons, List.set_cons_succ, List.flatMap_cons, ← put_flat r l i (by simpa using h)]
    have := putAt_app (rC r) (l.flatMap rC) (rC a) (i * 3)
    rw [show (i + 1) * 3 = (rC a).length + i * 3 by show _ = 3 + i * 3; omega]
    exact this
def wash (cs : List Rg) (i : Nat) : List Rg := List.replicate i ⟨1, 0, 1⟩ ++ cs.drop i
theorem wash_set {cs : List Rg} {i : Nat} (h : i < cs.length) : (wash cs i).set i ⟨1, 0, 1⟩ = wash cs (i + 1) := by
  unfold wash
  rw [List.drop_eq_getElem_cons h, List.replicate_succ', List.append_assoc]
  exact set_mid _ _ _ _ (by simp)
theorem wash_len {cs : List Rg} {i : Nat} (h : i ≤ cs.length) : (wash cs i).length = cs.length := by simp [wash]; omega
theorem flatR_len (l : List Rg) : (l.flatMap rC).length = 3 * l.length := by rw [flat_len (m := 3) (fun _ => rfl)]; omega
theorem rCanon_ok {r : Rg} (h : vB r = true) : DC Try.prog 92 [rD r] (.tup [rD (canonOf (rowOf r)), iD 0]) := by
  have H := rCanonP_d r
  rwa [show canonRes r = (canonOf (rowOf r), 0) from if_pos h] at H
set_option maxHeartbeats 8000000 in
theorem rdCanon_d (rs : List Rg) : DC Try.prog 35 [domD rs] (.tup [domD (dCanonRes rs).1, iD (dCanonRes rs).2]) := by
  have V := rdValid_b rs (b := domB rs) rfl
  unfold dCanonRes
  cases h : domB rs <;> rw [h] at V
  · refine DC.of Try.func35 Try.ntmps35 Try.results35 rfl (by decide +kernel) rfl ?_
    repeat (first | refine Z1 ?_ | refine Z2 ?_ | (refine Z3 ?_; (repeat (first | (apply gS; first | refine go_no ?_ | refine go_f ?_ | refine gm ?_ | refine gp ?_ | refine go_c rfl rfl (V) ?_) | (apply gZ; first | refine go_f ?_ | refine gm ?_))); refine T_nil ?_) | (apply ZK; first | refine Z4 ?_ | refine Z5 ?_) | refine Z6 ?_ | refine Z7 ?_ | refine Z8 ?_ | refine Z9 ?_ | refine ZA ?_ | refine ZB ?_ | refine ZC ?_ | refine ZD ?_ | refine ZE ?_ | refine ZF ?_ | refine ZG ?_ | refine ZH ?_)
    repeat (first | refine kEnd_m ?_ | refine kEnd_f ?_)
    refine kEnd_g ?_ (by first | exact .inl rfl | exact .inr rfl)
    exact Sub.tup (.cons (Sub.agg (.cons Sub.nil .nil)) (.cons (Sub.eq rfl rfl) .nil))
  rw [if_pos rfl]
  obtain ⟨⟨hl1, hl3⟩, hv, hp⟩ := domB_iff.1 h
  have hsn : ∀ k (h : k < rs.length), ((rs.take (k + 1)).map fun r => canonOf (rowOf r)).flatMap rC = ((rs.take k).map fun r => canonOf (rowOf r)).flatMap rC ++ rC (canonOf (rowOf rs[k])) := fun k h => flat_snoc h
  obtain ⟨cs, hcs⟩ : ∃ cs, cs = rs.map fun r => canonOf (rowOf r) := ⟨_, rfl⟩
  have hcl : cs.length = rs.length := by rw [hcs]; simp
  have hres : (noneB (cl rs) = false ∧ canonRs rs = cs) ∨ (noneB (cl rs) = true ∧ canonRs rs = wash cs rs.length) := by
    cases hn : noneB (cl rs) with
    | false =>
      refine .inl ⟨rfl, ?_⟩
      have : ¬ prodN (cl rs) = 0 := fun e => by rw [noneB_prod.2 e] at hn; cases hn
      unfold canonRs
      simp only [this, if_false]
      exact hcs.symm
    | true =>
      refine .inr ⟨rfl, ?_⟩
      unfold canonRs wash
      simp only [noneB_prod.1 hn, if_true]
      rw [← hcl, List.drop_length, List.append_nil, hcl]
      exact List.map_const' ..
  have hflat0 : (rs.map fun r => canonOf (rowOf r)).flatMap rC = (wash cs 0).flatMap rC := by rw [hcs]; simp [wash]
  refine DC.of Try.func35 Try.ntmps35 Try.results35 rfl (by decide +kernel) rfl ?_
  repeat (first | refine Z1 ?_ | refine Z2 ?_ | (refine Z3 ?_; (repeat (first | (apply gS; first | refine go_no ?_ | refine go_f ?_ | refine gm ?_ | refine gp ?_ | refine go_c rfl rfl (V) ?_) | (apply gZ; first | refine go_f ?_ | refine gm ?_))); refine T_nil ?_) | (apply ZK; first | refine Z4 ?_ | refine Z5 ?_) | refine Z6 ?_ | refine Z7 ?_ | refine Z8 ?_ | refine Z9 ?_ | refine ZA ?_ | refine ZB ?_ | refine ZC ?_ | refine ZD ?_ | refine ZE ?_ | refine ZF ?_ | refine ZG ?_ | refine ZH ?_)
  refine C_count rs.length (fun _ => True) (fun k => ⟨4, 68, [(6, iD k), (5, bD (noneB (cl (rs.take k)))), (4, .ptr 2 0), (2, .ptr 1 0), (1, .ptr 0 0)], [(0, some ⟨24, 1, 1, [rowR rs]⟩), (2, some ⟨24, 1, 1, [.own 3 k]⟩), (1, some ⟨24, 1, 1, [.val (.slice none 0 0)]⟩), (3, some ⟨39, 3, k, ((rs.take k).map fun r => canonOf (rowOf r)).flatMap rC⟩)]⟩) ?_ trivial ?_
  · refine Wk.trans (Wk.adoptM 2 0 39 3 rfl rfl) ?_
    exact Wk.go (fun b => b)
  · intro k hk _
    by_cases hlt : k < rs.length
    · have hvk := hv _ (List.getElem_mem hlt)
      have C := rCount_ok hvk
      have N := rCanon_ok hvk
      have en := hsn k hlt
      have s2 := noneB_step (cl (rs.take k)) (cN rs[k])
      rw [← cl_snoc hlt] at s2
      clear hsn hres hflat0
      cases hn : noneB (cl (rs.take k)) <;> rw [hn] at s2
      · by_cases hc : cN rs[k] = 0
        · rw [decide_eq_true hc, Bool.or_true] at s2
          repeat (first | refine Z1 ?_ | refine Z2 ?_ | (refine Z3 ?_; (repeat (first | (apply gS; first | refine go_no ?_ | refine go_f ?_ | refine gm ?_ | refine gp ?_ | refine go_c rfl rfl (C) ?_ | refine go_c rfl rfl (N) ?_) | (apply gZ; first | refine go_f ?_ | refine gm ?_))); refine T_nil ?_) | (apply ZK; first | refine Z4 ?_ | refine Z5 ?_) | refine Z6 ?_ | refine Z7 ?_ | refine Z8 ?_ | refine Z9 ?_ | refine ZA ?_ | refine ZB ?_ | refine ZC ?_ | refine ZD ?_ | refine ZE ?_ | refine ZF ?_ | refine ZG ?_ | refine ZH ?_)
          refine kLoop_n ⟨hlt, trivial, ?_⟩
          rw [s2]
          exact Wk.go (fun b => cond (Nat.beq b 3) 5 (b))
        · rw [decide_eq_false hc, Bool.or_false] at s2
          repeat (first | refine Z1 ?_ | refine Z2 ?_ | (refine Z3 ?_; (repeat (first | (apply gS; first | refine go_no ?_ | refine go_f ?_ | refine gm ?_ | refine gp ?_ | refine go_c rfl rfl (C) ?_ | refine go_c rfl rfl (N) ?_) | (apply gZ; first | refine go_f ?_ | refine gm ?_))); refine T_nil ?_) | (apply ZK; first | refine Z4 ?_ | refine Z5 ?_) | refine Z6 ?_ | refine Z7 ?_ | refine Z8 ?_ | refine Z9 ?_ | refine ZA ?_ | refine ZB ?_ | refine ZC ?_ | refine ZD ?_ | refine ZE ?_ | refine ZF ?_ | refine ZG ?_ | refine ZH ?_)
          refine kLoop_n ⟨hlt, trivial, ?_⟩
          rw [s2]
          exact Wk.go (fun b => cond (Nat.beq b 3) 5 (b))
      · rw [Bool.true_or] at s2
        repeat (first | refine Z1 ?_ | refine Z2 ?_ | (refine Z3 ?_; (repeat (first | (apply gS; first | refine go_no ?_ | refine go_f ?_ | refine gm ?_ | refine gp ?_ | refine go_c rfl rfl (C) ?_ | refine go_c rfl rfl (N) ?_) | (apply gZ; first | refine go_f ?_ | refine gm ?_))); refine T_nil ?_) | (apply ZK; first | refine Z4 ?_ | refine Z5 ?_) | refine Z6 ?_ | refine Z7 ?_ | refine Z8 ?_ | refine Z9 ?_ | refine ZA ?_ | refine ZB ?_ | refine ZC ?_ | refine ZD ?_ | refine ZE ?_ | refine ZF ?_ | refine ZG ?_ | refine ZH ?_)
        refine kLoop_n ⟨hlt, trivial, ?_⟩
        rw [s2]
        exact Wk.go (fun b => cond (Nat.beq b 3) 5 (b))
    · obtain rfl : k = rs.length := by omega
      rw [List.take_length, hflat0]
      clear hsn hflat0 hcs
      rcases hres with ⟨h1, h2⟩ | ⟨h1, h2⟩
      · rw [h1, h2]
        repeat (first | refine Z1 ?_ | refine Z2 ?_ | (refine Z3 ?_; (repeat (first | (apply gS; first | refine go_no ?_ | refine go_f ?_ | refine gm ?_ | refine gp ?_) | (apply gZ; first | refine go_f ?_ | refine gm ?_))); refine T_nil ?_) | (apply ZK; first | refine Z4 ?_ | refine Z5 ?_) | refine Z6 ?_ | refine Z7 ?_ | refine Z8 ?_ | refine Z9 ?_ | refine ZA ?_ | refine ZB ?_ | refine ZC ?_ | refine ZD ?_ | refine ZE ?_ | refine ZF ?_ | refine ZG ?_ | refine ZH ?_)
        refine C_count 0 (fun _ => True) (fun i => ⟨4, 68, [(11, iD i), (5, bD false), (4, .ptr 2 0), (2, .ptr 1 0)], [(2, some ⟨24, 1, 1, [.own 3 rs.length]⟩), (1, some ⟨24, 1, 1, [.val (.slice none 0 0)]⟩), (3, some ⟨39, 3, rs.length, (wash cs i).flatMap rC⟩)]⟩) ?_ trivial ?_
        · exact Wk.go (fun b => b)
        · intro i hi _
          obtain rfl : i = 0 := by omega
          have e0 : wash cs 0 = cs := by simp [wash]
          rw [e0]
          repeat (first | refine Z1 ?_ | refine Z2 ?_ | (refine Z3 ?_; (repeat (first | (apply gS; first | refine go_no ?_ | refine go_f ?_ | refine gm ?_ | refine gp ?_) | (apply gZ; first | refine go_f ?_ | refine gm ?_))); refine T_nil ?_) | (apply ZK; first | refine Z4 ?_ | refine Z5 ?_) | refine Z6 ?_ | refine Z7 ?_ | refine Z8 ?_ | refine Z9 ?_ | refine ZA ?_ | refine ZB ?_ | refine ZC ?_ | refine ZD ?_ | refine ZE ?_ | refine ZF ?_ | refine ZG ?_ | refine ZH ?_)
          repeat (first | refine kEnd_m ?_ | refine kEnd_f ?_)
          refine kEnd_g ?_ (by first | exact .inl rfl | exact .inr rfl)
          exact Sub.eq (by rw [← hcl]; rfl) rfl
      · rw [h1, h2]
        have hw : (wash cs rs.length).length = rs.length := by rw [wash_len (by omega), hcl]
        repeat (first | refine Z1 ?_ | refine Z2 ?_ | (refine Z3 ?_; (repeat (first | (apply gS; first | refine go_no ?_ | refine go_f ?_ | refine gm ?_ | refine gp ?_) | (apply gZ; first | refine go_f ?_ | refine gm ?_))); refine T_nil ?_) | (apply ZK; first | refine Z4 ?_ | refine Z5 ?_) | refine Z6 ?_ | refine Z7 ?_ | refine Z8 ?_ | refine Z9 ?_ | refine ZA ?_ | refine ZB ?_ | refine ZC ?_ | refine ZD ?_ | refine ZE ?_ | refine ZF ?_ | refine ZG ?_ | refine ZH ?_)
        refine C_count rs.length (fun _ => True) (fun i => ⟨4, 68, [(11, iD i), (5, bD true), (4, .ptr 2 0), (2, .ptr 1 0)], [(2, some ⟨24, 1, 1, [.own 3 rs.length]⟩), (1, some ⟨24, 1, 1, [.val (.slice none 0 0)]⟩), (3, some ⟨39, 3, rs.length, (wash cs i).flatMap rC⟩)]⟩) ?_ trivial ?_
        · exact Wk.go (fun b => b)
        · intro i hi _
          by_cases hlt : i < rs.length
          · have en : (wash cs (i + 1)).flatMap rC = putAt ((wash cs i).flatMap rC) (((i : Nat) : Int).toNat * 3) [iD 1, iD 0, iD 1] := by
              rw [Int.toNat_natCast, ← wash_set (by omega)]
              exact (put_flat ⟨1, 0, 1⟩ _ _ (by rw [wash_len (by omega)]; omega)).symm
            have hl := flatR_len (wash cs i)
            rw [wash_len (by omega), hcl] at hl
            repeat (first | refine Z1 ?_ | refine Z2 ?_ | (refine Z3 ?_; (repeat (first | (apply gS; first | refine go_no ?_ | refine go_f ?_ | refine gm ?_ | refine gp ?_) | (apply gZ; first | refine go_f ?_ | refine gm ?_))); refine T_nil ?_) | (apply ZK; first | refine Z4 ?_ | refine Z5 ?_) | refine Z6 ?_ | refine Z7 ?_ | refine Z8 ?_ | refine Z9 ?_ | refine ZA ?_ | refine ZB ?_ | refine ZC ?_ | refine ZD ?_ | refine ZE ?_ | refine ZF ?_ | refine ZG ?_ | refine ZH ?_)
            refine kLoop_n ⟨hlt, trivial, ?_⟩
            exact Wk.go (fun b => b)
          · obtain rfl : i = rs.length := by omega
            repeat (first | refine Z1 ?_ | refine Z2 ?_ | (refine Z3 ?_; (repeat (first | (apply gS; first | refine go_no ?_ | refine go_f ?_ | refine gm ?_ | refine gp ?_) | (apply gZ; first | refine go_f ?_ | refine gm ?_))); refine T_nil ?_) | (apply ZK; first | refine Z4 ?_ | refine Z5 ?_) | refine Z6 ?_ | refine Z7 ?_ | refine Z8 ?_ | refine Z9 ?_ | refine ZA ?_ | refine ZB ?_ | refine ZC ?_ | refine ZD ?_ | refine ZE ?_ | refine ZF ?_ | refine ZG ?_ | refine ZH ?_)
            repeat (first | refine kEnd_m ?_ | refine kEnd_f ?_)
            refine kEnd_g ?_ (by first | exact .inl rfl | exact .inr rfl)
            exact Sub.eq (by show _ = D.tup [.agg [.row (wash cs rs.length).length _], _]; rw [hw]; rfl) rfl
end Go.Proofs.Ytfkojkciobdeoaa
