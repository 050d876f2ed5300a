/- index, Ith and Indexes of package domain, by the abstract machine. -/
import Derived.Test.YtifapodobhkdcaaFirst
namespace Go.Proofs.Ytifapodobhkdcaa
open Go.RowKit
set_option linter.unusedVariables false
set_option maxHeartbeats 16000000
set_option linter.unusedSimpArgs false
set_option maxRecDepth 100000
theorem dValid_b (rs : List Rg) {b : Bool} (h : domB rs = b) : DC Try.prog 50 [domD rs] (bD b) := by
  have C := counts_d rs
  rw [h] at C
  refine DC.of Try.func50 Try.ntmps50 Try.results50 rfl (by decide +kernel) rfl ?_
  repeat (first | refine Z1 ?_ | refine Z2 ?_ | (refine Z3 ?_; (repeat (first | (apply gS; first | refine go_f ?_ | refine gm ?_ | refine gp ?_ | refine go_c rfl rfl (C) ?_))); refine T_nil ?_) | (apply ZK; first | refine Z4 ?_ | refine Z5 ?_) | refine Z6 ?_ | refine Z7 ?_)
  repeat (first | refine kEnd_m ?_ | refine kEnd_f ?_)
  refine kEnd_g ?_ (by first | exact .inl rfl | exact .inr rfl)
  exact Sub.eq rfl rfl
def dCountRes (rs : List Rg) : Int × Int := if domB rs = true then (prodN (cl rs), 0) else (0, 40)
theorem dCount_d (rs : List Rg) : DC Try.prog 49 [domD rs] (.tup [iD (dCountRes rs).1, iD (dCountRes rs).2]) := by
  have C := counts_d rs
  unfold dCountRes
  unfold countsN at C
  cases h : domB rs <;> rw [h] at C
  all_goals
    refine DC.of Try.func49 Try.ntmps49 Try.results49 rfl (by decide +kernel) rfl ?_
    repeat (first | refine Z1 ?_ | refine Z2 ?_ | (refine Z3 ?_; (repeat (first | (apply gS; first | refine go_f ?_ | refine gm ?_ | refine gp ?_ | refine go_c rfl rfl (C) ?_))); refine T_nil ?_) | (apply ZK; first | refine Z4 ?_ | refine Z5 ?_) | refine Z6 ?_ | refine Z7 ?_ | refine ZF ?_)
    repeat (first | refine kEnd_m ?_ | refine kEnd_f ?_)
    refine kEnd_g ?_ (by first | exact .inl rfl | exact .inr rfl)
    exact Sub.eq rfl rfl
def dRankRes (rs : List Rg) : Int × Int := if domB rs = true then (rs.length, 0) else (0, 40)
theorem sIth_ok {r : Rg} (h : vB r = true) {i : Nat} (hi : i < cN r) : DC Try.prog 156 [rD r, iD i] (.tup [iD (atOf (rowOf r) i), iD 0]) := by
  have H := sIth_d r i
  have := cN_int h
  rwa [show ithRes r i = (atOf (rowOf r) i, 0) by rw [ithRes, if_pos h, if_pos ⟨by omega, by omega⟩]] at H
theorem set_mid {α : Type} (a : List α) (x y : α) (b : List α) {n : Nat} (hn : n = a.length) : (a ++ x :: b).set n y = a ++ y :: b := by
  subst hn
  rw [List.set_append_right _ _ (Nat.le_refl _), Nat.sub_self]; rfl
set_option maxHeartbeats 8000000 in
theorem index_d (rs : List Rg) (i : Nat) (hd : domB rs = true) (hi : i < prodN (cl rs)) : DC Try.prog 99 [domD rs, rowI (natsI (cl rs)), iD i] (rowI (ithX rs i)) := by
  obtain ⟨⟨hl1, hl3⟩, hv, hp⟩ := domB_iff.1 hd
  have hlc : (cl rs).length = rs.length := by simp [cl]
  have hln : (natsI (cl rs)).length = rs.length := by simp [natsI, hlc]
  have hz : 0 ∉ cl rs := fun h => by have := prodN_zero.2 h; omega
  have hget : ∀ k (h : k < rs.length), (natsI (cl rs))[k]'(by omega) = ((cN rs[k] : Nat) : Int) := fun k h => by simp [natsI, cl]
  have hcpos : ∀ k (h : k < rs.length), 1 ≤ cN rs[k] := fun k h => by
    rcases Nat.eq_zero_or_pos (cN rs[k]) with e | e
    · exact absurd (List.mem_map.2 ⟨rs[k], List.getElem_mem h, e⟩) hz
    · exact e
  rw [rowI_n hln]
  refine DC.of Try.func99 Try.ntmps99 Try.results99 rfl (by decide +kernel) rfl ?_
  repeat (first | refine Z1 ?_ | refine Z2 ?_ | (refine Z3 ?_; (repeat (first | (apply gS; first | refine go_f ?_ | refine gm ?_ | refine gp ?_) | (apply gZ; first | refine go_f ?_ | refine gm ?_))); refine T_nil ?_) | (apply ZR; refine C_dr mixed ?_; (repeat (first | (apply vS; first | refine va ?_ | refine vp ?_ | refine vr ?_ | refine vt ?_) | (apply vZ; first | refine vs ?_))); refine W_e ?_) | (apply ZK; first | refine Z4 ?_ | refine Z5 ?_) | refine Z6 ?_ | refine Z7 ?_ | refine Z8 ?_ | refine Z9 ?_ | refine ZA ?_ | refine ZB ?_ | refine ZC ?_ | refine ZD ?_ | refine ZE ?_ | refine ZF ?_ | refine ZG ?_ | refine ZH ?_)
  refine C_loop (σ := {k : Nat // k ≤ rs.length}) (fun k => ⟨2, 44, [(8, iD ((k.1 : Int) - 1)), (7, .own 1 rs.length), (3, .ptr 0 0), (2, iD (i / prodN (cl (rs.drop k.1)) : Nat)), (1, .row rs.length (intsD (natsI (cl rs))))], [(0, some ⟨24, 1, 1, [rowR rs]⟩), (1, some ⟨3, 1, rs.length, List.replicate k.1 (iD 0) ++ intsD (ithX (rs.drop k.1) (i % prodN (cl (rs.drop k.1))))⟩)]⟩) (fun k => k.1) ⟨rs.length, Nat.le_refl _⟩ ?_ ?_
  · have e1 : ithX (rs.drop rs.length) (i % prodN (cl (rs.drop rs.length))) = [] := by rw [List.drop_length]; rfl
    have e2 : i / prodN (cl (rs.drop rs.length)) = i := by rw [List.drop_length]; simp [cl, prodN]
    simp only [e1, e2]
    have e3 : List.replicate rs.length (iD 0) ++ intsD [] = List.replicate rs.length (iD 0) := by simp [intsD]
    rw [e3]
    exact Wk.go (fun b => b)
  · rintro ⟨k, hk⟩
    simp only
    cases k with
    | zero =>
      have e1 : ((0 : Nat) : Int) - 1 = -1 := by omega
      have e2 : List.replicate 0 (iD 0) ++ intsD (ithX (rs.drop 0) (i % prodN (cl (rs.drop 0)))) = intsD (ithX rs i) := by rw [List.drop_zero, Nat.mod_eq_of_lt hi]; rfl
      rw [e1, e2]
      repeat (first | refine Z1 ?_ | refine Z2 ?_ | (refine Z3 ?_; (repeat (first | (apply gS; first | refine go_f ?_ | refine gm ?_ | refine gp ?_) | (apply gZ; first | refine go_f ?_ | refine gm ?_))); refine T_nil ?_) | (apply ZR; refine C_dr mixed ?_; (repeat (first | (apply vS; first | refine va ?_ | refine vp ?_ | refine vr ?_ | refine vt ?_) | (apply vZ; first | refine vs ?_))); refine W_e ?_) | (apply ZK; first | refine Z4 ?_ | refine Z5 ?_) | refine Z6 ?_ | refine Z7 ?_ | refine Z8 ?_ | refine Z9 ?_ | refine ZA ?_ | refine ZB ?_ | refine ZC ?_ | refine ZD ?_ | refine ZE ?_ | refine ZF ?_ | refine ZG ?_ | refine ZH ?_)
      repeat (first | refine kEnd_m ?_ | refine kEnd_f ?_)
      refine kEnd_g ?_ (by first | exact .inl rfl | exact .inr rfl)
      exact Sub.eq (by rw [rowI_n (ithX_len rs i)]; rfl) rfl
    | succ m =>
      have hm : m < rs.length := by omega
      have e1 : ((m + 1 : Nat) : Int) - 1 = (m : Int) := by omega
      rw [e1]
      obtain ⟨s1, s2⟩ := ithX_step hm i
      have hQ : i / prodN (cl (rs.drop (m + 1))) ≤ 4096 := Nat.le_trans (Nat.div_le_self _ _) (by omega)
      generalize hqe : i / prodN (cl (rs.drop (m + 1))) = Q at *
      have g1 := hget m hm
      have g2 := hcpos m hm
      have I := sIth_ok (hv _ (List.getElem_mem hm)) (i := Q % cN rs[m]) (Nat.mod_lt _ g2)
      have hvm := hv _ (List.getElem_mem hm)
      have c1 := cN_le hvm
      rw [show ((Q % cN rs[m] : Nat) : Int) = ((Q : Nat) : Int).tmod ((natsI (cl rs))[m]'(by omega)) by rw [g1, ← Int.ofNat_tmod]] at I
      have q1 : ((Q : Nat) : Int).tdiv ((natsI (cl rs))[m]'(by omega)) = ((i / prodN (cl (rs.drop m)) : Nat) : Int) := by rw [g1, ← Int.ofNat_tdiv, s2]
      have en : List.replicate m (iD 0) ++ intsD (ithX (rs.drop m) (i % prodN (cl (rs.drop m)))) = (List.replicate (m + 1) (iD 0) ++ intsD (ithX (rs.drop (m + 1)) (i % prodN (cl (rs.drop (m + 1)))))).set (((m : Nat) : Int).toNat * 1) (iD (atOf (rowOf rs[m]) (((Q : Nat) : Int).tmod ((natsI (cl rs))[m]'(by omega))))) := by
        rw [s1, List.replicate_succ', List.append_assoc]
        show _ = (List.replicate m (iD 0) ++ iD 0 :: intsD _).set _ _
        rw [set_mid _ _ _ _ (by simp), g1, ← Int.ofNat_tmod]
        rfl
      repeat (first | refine Z1 ?_ | refine Z2 ?_ | (refine Z3 ?_; (repeat (first | (apply gS; first | refine go_f ?_ | refine gm ?_ | refine gp ?_ | refine go_c rfl rfl (I) ?_) | (apply gZ; first | refine go_f ?_ | refine gm ?_))); refine T_nil ?_) | (apply ZR; refine C_dr mixed ?_; (repeat (first | (apply vS; first | refine va ?_ | refine vp ?_ | refine vr ?_ | refine vt ?_ | refine vc (I) ?_) | (apply vZ; first | refine vs ?_))); refine W_e ?_) | (apply ZK; first | refine Z4 ?_ | refine Z5 ?_) | refine Z6 ?_ | refine Z7 ?_ | refine Z8 ?_ | refine Z9 ?_ | refine ZA ?_ | refine ZB ?_ | refine ZC ?_ | refine ZD ?_ | refine ZE ?_ | refine ZF ?_ | refine ZG ?_ | refine ZH ?_)
      refine kLoop_n ⟨⟨m, by omega⟩, Nat.lt_succ_self m, ?_⟩
      dsimp only
      exact Wk.go (fun b => b)
end Go.Proofs.Ytifapodobhkdcaa
