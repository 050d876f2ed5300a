/- Slice and Transpose of package domain and of the reference, by the abstract machine. -/
import Derived.Test.YtifapodobhkdcaaSlc
import Derived.Test.YtifapodobhkdcaaR4
import Derived.Test.YtifapodobhkdcaaS4
namespace Go.Proofs.Ytifapodobhkdcaa
open Go.RowKit
set_option linter.unusedVariables false
set_option maxHeartbeats 16000000
set_option linter.unusedSimpArgs false
set_option maxRecDepth 100000
theorem rDone4_d (rs : List Rg) : DC Try.prog 118 [rowR rs] (.tup [domD (dCanonRes rs).1, iD (dCanonRes rs).2]) := by
  have C := rdCanon_d rs
  refine DC.of Try.func118 Try.ntmps118 Try.results118 rfl (by decide +kernel) rfl ?_
  repeat (first | refine Z1 ?_ | refine Z2 ?_ | (refine Z3 ?_; (repeat (first | (apply gS; first | refine go_f ?_ | refine gx ?_ | refine gm ?_ | refine gp ?_ | refine go_c rfl rfl (C) ?_ | refine go_cF rfl rfl (C) ?_ | refine go_cA rfl rfl (C) ?_) | (apply gZ; first | refine go_f ?_ | refine gx ?_ | refine gm ?_))); refine T_nil ?_) | (apply ZK; first | refine Z4 ?_ | refine Z5 ?_) | refine Z6 ?_ | refine Z7 ?_)
  repeat (first | refine kEnd_m ?_ | refine kEnd_f ?_)
  refine kEnd_g ?_ (by first | exact .inl rfl | exact .inr rfl)
  exact Sub.eq rfl rfl
theorem sHas_b {r : Rg} (hv : vB r = true) (m : Int) {b : Bool} (h : placeB (rowOf r) m = b) : DC Try.prog 30 [rD r, iD m] (.tup [bD b, iD 0]) := by
  have H := sHas_d r m
  have hr := vB_ok' hv
  rcases has_memb hv m with ⟨e, hm⟩ | ⟨e, hm⟩
  · rw [e] at H
    rw [(memb_place hr m).1 hm] at h
    subst h; exact H
  · rw [e] at H
    cases b with
    | false => exact H
    | true => exact absurd ((memb_place hr m).2 h) hm
theorem rHas_b4 {r : Rg} (hv : vB r = true) (m : Int) {b : Bool} (h : placeB (rowOf r) m = b) : DC Try.prog 117 [rD r, iD m] (.tup [bD b, iD 0]) := by
  have H := rHas_d r m
  have hr := vB_ok' hv
  rcases has_memb hv m with ⟨e, hm⟩ | ⟨e, hm⟩
  · rw [e] at H
    rw [(memb_place hr m).1 hm] at h
    subst h; exact H
  · rw [e] at H
    cases b with
    | false => exact H
    | true => exact absurd ((memb_place hr m).2 h) hm
/-! ### Transpose -/
set_option maxHeartbeats 4000000 in
theorem canon_f (rs : List Rg) (h : domB rs = true) : DFA Try.prog 109 [domD rs] 39 3 rs.length ((canonRs rs).flatMap rC) := by
  have C := counts_d rs
  unfold countsN countsL at C
  rw [h, if_pos rfl, if_pos rfl] at C
  obtain ⟨⟨hl1, hl3⟩, hv, hp⟩ := domB_iff.1 h
  obtain ⟨f, hf⟩ : ∃ f : Rg → Rg, f = fun r => if prodN (cl rs) = 0 then ⟨1, 0, 1⟩ else canonOf (rowOf r) := ⟨_, rfl⟩
  have hr : canonRs rs = rs.map f := by rw [hf]; rfl
  rw [hr]
  clear hr
  have hsn : ∀ k (h : k < rs.length), ((rs.take (k + 1)).map f).flatMap rC = ((rs.take k).map f).flatMap rC ++ rC (f rs[k]) := fun k h => flat_snoc h
  by_cases hz : prodN (cl rs) = 0
  all_goals
    simp only [hz, if_true, if_false] at hf
    have hz' : (prodN (cl rs) : Int) = 0 ↔ prodN (cl rs) = 0 := by omega
    generalize prodN (cl rs) = P at *
    refine DFA.of Try.func109 Try.ntmps109 Try.results109 rfl (by decide +kernel) rfl ?_
    repeat (first | refine Z1 ?_ | refine Z2 ?_ | (refine Z3 ?_; (repeat (first | (apply gS; first | refine go_f ?_ | refine gx ?_ | refine gm ?_ | refine gp ?_ | refine go_c rfl rfl (C) ?_ | refine go_cF rfl rfl (C) ?_ | refine go_cA rfl rfl (C) ?_) | (apply gZ; first | refine go_f ?_ | refine gx ?_ | refine gm ?_))); refine T_nil ?_) | (apply ZK; first | refine Z4 ?_ | refine Z5 ?_) | refine Z6 ?_ | refine Z7 ?_ | refine Z8 ?_ | refine Z9 ?_ | refine ZA ?_ | refine ZB ?_ | refine ZC ?_ | refine ZD ?_ | refine ZE ?_ | refine ZF ?_ | refine ZG ?_ | refine ZH ?_)
    refine C_count rs.length (fun _ => True) (fun k => ⟨4, 40, [(20, iD k), (19, iD rs.length), (18, rowR rs), (5, iD P), (3, .ptr 2 0), (2, .ptr 1 0)], [(2, some ⟨24, 1, 1, [.own 3 k]⟩), (1, some ⟨24, 1, 1, [.val (.slice none 0 0)]⟩), (3, some ⟨39, 3, k, ((rs.take k).map f).flatMap rC⟩)]⟩) ?_ trivial ?_
    · refine Wk.trans (Wk.adoptM 2 0 39 3 rfl rfl) ?_
      exact Wk.gx (fun b => b)
    · intro k hk _
      by_cases hlt : k < rs.length
      · have N := sCanon_ok (hv _ (List.getElem_mem hlt))
        have en := hsn k hlt
        have ef : f rs[k] = _ := congrFun hf rs[k]
        rw [ef] at en
        clear hsn
        repeat (first | refine Z1 ?_ | refine Z2 ?_ | (refine Z3 ?_; (repeat (first | (apply gS; first | refine go_f ?_ | refine gx ?_ | refine gm ?_ | refine gp ?_ | refine go_c rfl rfl (N) ?_ | refine go_cF rfl rfl (N) ?_ | refine go_cA rfl rfl (N) ?_) | (apply gZ; first | refine go_f ?_ | refine gx ?_ | refine gm ?_))); refine T_nil ?_) | (apply ZK; first | refine Z4 ?_ | refine Z5 ?_) | refine Z6 ?_ | refine Z7 ?_ | refine Z8 ?_ | refine Z9 ?_ | refine ZA ?_ | refine ZB ?_ | refine ZC ?_ | refine ZD ?_ | refine ZE ?_ | refine ZF ?_ | refine ZG ?_ | refine ZH ?_)
        refine kLoop_n ⟨hlt, trivial, ?_⟩
        exact Wk.gx (fun b => cond (Nat.beq b 3) 6 (b))
      · obtain rfl : k = rs.length := by omega
        rw [List.take_length]
        repeat (first | refine Z1 ?_ | refine Z2 ?_ | (refine Z3 ?_; (repeat (first | (apply gS; first | refine go_f ?_ | refine gx ?_ | refine gm ?_ | refine gp ?_) | (apply gZ; first | refine go_f ?_ | refine gx ?_ | refine gm ?_))); refine T_nil ?_) | (apply ZK; first | refine Z4 ?_ | refine Z5 ?_) | refine Z6 ?_ | refine Z7 ?_ | refine Z8 ?_ | refine Z9 ?_ | refine ZA ?_ | refine ZB ?_ | refine ZC ?_ | refine ZD ?_ | refine ZE ?_ | refine ZF ?_ | refine ZG ?_ | refine ZH ?_)
        refine kEndA_g (by first | exact .inl rfl | exact .inr rfl) (by repeat (first | exact ResV.nil | (apply ResV.tmp; rfl) | (apply ResV.agg1; rfl; rfl))) rfl (by repeat (first | rfl | exact idsL_map (fun _ => rfl) _ | exact idsL_flat (fun _ => rfl) _ | refine idsL_append ?_ ?_))
def tspRes (rs : List Rg) : List Rg × Int := if domB rs = true then ((canonRs rs).reverse, 0) else ([], 40)
theorem dTranspose_d (rs : List Rg) : DC Try.prog 42 [domD rs] (.tup [domD (tspRes rs).1, iD (tspRes rs).2]) := by
  have V := dValid_b rs (b := domB rs) rfl
  unfold tspRes
  cases h : domB rs <;> rw [h] at V
  · refine DC.of Try.func42 Try.ntmps42 Try.results42 rfl (by decide +kernel) rfl ?_
    repeat (first | refine Z1 ?_ | refine Z2 ?_ | (refine Z3 ?_; (repeat (first | (apply gS; first | refine go_f ?_ | refine gx ?_ | refine gm ?_ | refine gp ?_ | refine go_c rfl rfl (V) ?_ | refine go_cF rfl rfl (V) ?_ | refine go_cA rfl rfl (V) ?_) | (apply gZ; first | refine go_f ?_ | refine gx ?_ | refine gm ?_))); refine T_nil ?_) | (apply ZK; first | refine Z4 ?_ | refine Z5 ?_) | refine Z6 ?_ | refine Z7 ?_ | refine ZF ?_)
    repeat (first | refine kEnd_m ?_ | refine kEnd_f ?_)
    refine kEnd_g ?_ (by first | exact .inl rfl | exact .inr rfl)
    exact Sub.tup (.cons (Sub.agg (.cons Sub.nil .nil)) (.cons (Sub.eq rfl rfl) .nil))
  · have C := canon_f rs h
    have hl : (canonRs rs).length = rs.length := by simp [canonRs]
    have hb := (domB_iff.1 h).1
    rw [← hl] at C
    rw [if_pos rfl]
    generalize canonRs rs = cs at *
    have R := revR_d cs (by omega)
    have e1 : domD cs.reverse = .agg [.row cs.length (cs.reverse.flatMap rC)] := by show D.agg [.row _ _] = _; rw [List.length_reverse]
    dsimp only
    rw [e1]
    refine DC.of Try.func42 Try.ntmps42 Try.results42 rfl (by decide +kernel) rfl ?_
    repeat (first | refine Z1 ?_ | refine Z2 ?_ | (refine Z3 ?_; (repeat (first | (apply gS; first | refine go_rev (R) ?_ | refine go_f ?_ | refine gx ?_ | refine gm ?_ | refine gp ?_ | refine go_c rfl rfl (V) ?_ | refine go_cF rfl rfl (V) ?_ | refine go_cA rfl rfl (V) ?_ | refine go_c rfl rfl (C) ?_ | refine go_cF rfl rfl (C) ?_ | refine go_cA rfl rfl (C) ?_) | (apply gZ; first | refine go_f ?_ | refine gx ?_ | refine gm ?_))); refine T_nil ?_) | (apply ZK; first | refine Z4 ?_ | refine Z5 ?_) | refine Z6 ?_ | refine Z7 ?_ | refine ZF ?_)
    repeat (first | refine kEnd_m ?_ | refine kEnd_f ?_)
    refine kEnd_g ?_ (by first | exact .inl rfl | exact .inr rfl)
    exact Sub.eq rfl rfl
theorem prodN_perm : ∀ (l : List Nat), prodN l.reverse = prodN l
  | [] => rfl
  | n :: l => by rw [List.reverse_cons, prodN_append, prodN_perm l, Nat.mul_comm]; simp [prodN]
theorem domB_rev (rs : List Rg) : domB rs.reverse = domB rs := by
  have h1 : prodN (cl rs.reverse) = prodN (cl rs) := by
    have : cl rs.reverse = (cl rs).reverse := by simp [cl]
    rw [this, prodN_perm]
  have h2 : rs.reverse.all vB = rs.all vB := by rw [Bool.eq_iff_iff, List.all_eq_true, List.all_eq_true]; simp
  unfold domB
  rw [h1, h2, List.length_reverse]
theorem canonRs_rev (rs : List Rg) : canonRs rs.reverse = (canonRs rs).reverse := by
  have h1 : prodN (cl rs.reverse) = prodN (cl rs) := by
    have : cl rs.reverse = (cl rs).reverse := by simp [cl]
    rw [this, prodN_perm]
  unfold canonRs
  rw [h1, List.map_reverse]
theorem tsp_rev {rs : List Rg} (h : domB rs = true) : dCanonRes rs.reverse = ((canonRs rs).reverse, 0) := by
  rw [dCanonRes, domB_rev, if_pos h, canonRs_rev]
theorem rTranspose_d (rs : List Rg) : DC Try.prog 43 [domD rs] (.tup [domD (tspRes rs).1, iD (tspRes rs).2]) := by
  have V := rdValid_b rs (b := domB rs) rfl
  unfold tspRes
  cases h : domB rs <;> rw [h] at V
  · refine DC.of Try.func43 Try.ntmps43 Try.results43 rfl (by decide +kernel) rfl ?_
    repeat (first | refine Z1 ?_ | refine Z2 ?_ | (refine Z3 ?_; (repeat (first | (apply gS; first | refine go_f ?_ | refine gx ?_ | refine gm ?_ | refine gp ?_ | refine go_c rfl rfl (V) ?_ | refine go_cF rfl rfl (V) ?_ | refine go_cA rfl rfl (V) ?_) | (apply gZ; first | refine go_f ?_ | refine gx ?_ | refine gm ?_))); refine T_nil ?_) | (apply ZK; first | refine Z4 ?_ | refine Z5 ?_) | refine Z6 ?_ | refine Z7 ?_ | refine Z8 ?_ | refine Z9 ?_ | refine ZA ?_ | refine ZB ?_ | refine ZC ?_ | refine ZD ?_ | refine ZE ?_ | refine ZF ?_ | refine ZG ?_ | refine ZH ?_)
    repeat (first | refine kEnd_m ?_ | refine kEnd_f ?_)
    refine kEnd_g ?_ (by first | exact .inl rfl | exact .inr rfl)
    exact Sub.tup (.cons (Sub.agg (.cons Sub.nil .nil)) (.cons (Sub.eq rfl rfl) .nil))
  · rw [if_pos rfl, ← tsp_rev h]
    have DN := rDone4_d rs.reverse
    have hb := (domB_iff.1 h).1
    have e1 : rowR rs.reverse = .row rs.length (rs.reverse.flatMap rC) := by show D.row _ _ = _; rw [List.length_reverse]
    rw [e1] at DN
    generalize dCanonRes rs.reverse = c at *
    refine DC.of Try.func43 Try.ntmps43 Try.results43 rfl (by decide +kernel) rfl ?_
    repeat (first | refine Z1 ?_ | refine Z2 ?_ | (refine Z3 ?_; (repeat (first | (apply gS; first | refine go_f ?_ | refine gx ?_ | refine gm ?_ | refine gp ?_ | refine go_c rfl rfl (V) ?_ | refine go_cF rfl rfl (V) ?_ | refine go_cA rfl rfl (V) ?_) | (apply gZ; first | refine go_f ?_ | refine gx ?_ | refine gm ?_))); refine T_nil ?_) | (apply ZK; first | refine Z4 ?_ | refine Z5 ?_) | refine Z6 ?_ | refine Z7 ?_ | refine Z8 ?_ | refine Z9 ?_ | refine ZA ?_ | refine ZB ?_ | refine ZC ?_ | refine ZD ?_ | refine ZE ?_ | refine ZF ?_ | refine ZG ?_ | refine ZH ?_)
    refine C_loop (σ := {k : Nat // k ≤ rs.length}) (fun k => ⟨4, 30, [(5, iD ((k.1 : Int) - 1)), (4, .own 3 (rs.length - k.1)), (3, iD 0), (2, .ptr 1 0), (1, .ptr 0 0)], [(0, some ⟨24, 1, 1, [rowR rs]⟩), (1, some ⟨24, 1, 1, [.val (.slice none 0 0)]⟩), (3, some ⟨39, 3, rs.length - k.1, (rs.reverse.take (rs.length - k.1)).flatMap rC⟩)]⟩) (fun k => k.1) ⟨rs.length, Nat.le_refl _⟩ ?_ ?_
    · dsimp only
      rw [Nat.sub_self]
      refine Wk.trans (Wk.adoptT 4 39 3 rfl) ?_
      exact Wk.gx (fun b => cond (Nat.beq b 3) 2 (b))
    · intro ⟨k, hk⟩
      dsimp only
      by_cases h0 : k = 0
      · subst h0
        rw [Nat.sub_zero, show rs.reverse.take rs.length = rs.reverse by rw [← List.length_reverse, List.take_length]]
        repeat (first | refine Z1 ?_ | refine Z2 ?_ | (refine Z3 ?_; (repeat (first | (apply gS; first | refine go_f ?_ | refine gx ?_ | refine gm ?_ | refine gp ?_ | refine go_c rfl rfl (DN) ?_ | refine go_cF rfl rfl (DN) ?_ | refine go_cA rfl rfl (DN) ?_) | (apply gZ; first | refine go_f ?_ | refine gx ?_ | refine gm ?_))); refine T_nil ?_) | (apply ZK; first | refine Z4 ?_ | refine Z5 ?_) | refine Z6 ?_ | refine Z7 ?_ | refine Z8 ?_ | refine Z9 ?_ | refine ZA ?_ | refine ZB ?_ | refine ZC ?_ | refine ZD ?_ | refine ZE ?_ | refine ZF ?_ | refine ZG ?_ | refine ZH ?_)
        repeat (first | refine kEnd_m ?_ | refine kEnd_f ?_)
        refine kEnd_g ?_ (by first | exact .inl rfl | exact .inr rfl)
        exact Sub.eq rfl rfl
      · have hq : ((k : Int) - 1).toNat < rs.length := by omega
        have e2 : (rs.reverse.take (rs.length - (k - 1))).flatMap rC = (rs.reverse.take (rs.length - k)).flatMap rC ++ rC rs[((k : Int) - 1).toNat] := by
          have hlt : rs.length - k < rs.reverse.length := by rw [List.length_reverse]; omega
          rw [show rs.length - (k - 1) = rs.length - k + 1 by omega, List.take_succ_eq_append_getElem hlt, List.flatMap_append, List.getElem_reverse]
          have e3 : rs.length - 1 - (rs.length - k) = ((k : Int) - 1).toNat := by omega
          simp only [e3, List.flatMap_cons, List.flatMap_nil, List.append_nil]
        have e4 : rs.length - k + 1 = rs.length - (k - 1) := by omega
        have e5 : ((k : Int) - 1) - 1 = ((k - 1 : Nat) : Int) - 1 := by omega
        repeat (first | refine Z1 ?_ | refine Z2 ?_ | (refine Z3 ?_; (repeat (first | (apply gS; first | refine go_f ?_ | refine gx ?_ | refine gm ?_ | refine gp ?_) | (apply gZ; first | refine go_f ?_ | refine gx ?_ | refine gm ?_))); refine T_nil ?_) | (apply ZK; first | refine Z4 ?_ | refine Z5 ?_) | refine Z6 ?_ | refine Z7 ?_ | refine Z8 ?_ | refine Z9 ?_ | refine ZA ?_ | refine ZB ?_ | refine ZC ?_ | refine ZD ?_ | refine ZE ?_ | refine ZF ?_ | refine ZG ?_ | refine ZH ?_)
        refine kLoop_n ⟨⟨k - 1, by omega⟩, by show k - 1 < k; omega, ?_⟩
        dsimp only
        exact Wk.gx (fun b => cond (Nat.beq b 3) 4 (b))
/-! ### Slice -/
def slRest (rs : List Rg) (k : Nat) (at' : Int) (b : Bool) : List Rg := if b = true then rs.take k ++ rs.drop (k + 1) else (rs.take k ++ rs.drop (k + 1)).set 0 ⟨1, 0, 1⟩
def slRes (rs : List Rg) (dim at' : Int) : List Rg × Int := if domB rs = true then (if 0 ≤ dim ∧ dim < rs.length ∧ rs.length ≠ 1 then dCanonRes (slRest rs dim.toNat at' (placeB (rowOf (rs.getD dim.toNat ⟨1, 0, 1⟩)) at')) else ([], 2)) else ([], 40)
theorem sl_cases {a n : Int} : (0 ≤ a ∧ a < n ∧ n ≠ 1) ∨ (¬ (0 ≤ a ∧ a < n ∧ n ≠ 1) ∧ (a < 0 ∨ 0 ≤ a ∧ (n ≤ a ∨ a < n ∧ n = 1))) := by omega
theorem put_first {r x : Rg} {l : List Rg} : putAt ((r :: l).flatMap rC) 0 (rC x) = (x :: l).flatMap rC := rfl
theorem set_first {l : List Rg} (h : 0 < l.length) (x : Rg) : putAt (l.flatMap rC) (Int.toNat 0 * 3) (rC x) = (l.set 0 x).flatMap rC := by
  cases l with
  | nil => simp at h
  | cons r l => exact put_first
set_option maxHeartbeats 4000000 in
theorem dSlice_d (rs : List Rg) (dim at' : Int) : DC Try.prog 40 [domD rs, iD dim, iD at'] (.tup [domD (slRes rs dim at').1, iD (slRes rs dim at').2]) := by
  have V := dValid_b rs (b := domB rs) rfl
  unfold slRes
  cases h : domB rs <;> rw [h] at V
  · refine DC.of Try.func40 Try.ntmps40 Try.results40 rfl (by decide +kernel) rfl ?_
    repeat (first | refine Z1 ?_ | refine Z2 ?_ | (refine Z3 ?_; (repeat (first | (apply gS; first | refine go_no ?_ | refine go_f ?_ | refine gx ?_ | refine gm ?_ | refine gp ?_ | refine go_c rfl rfl (V) ?_ | refine go_cF rfl rfl (V) ?_ | refine go_cA rfl rfl (V) ?_) | (apply gZ; first | refine go_f ?_ | refine gx ?_ | refine gm ?_))); refine T_nil ?_) | (apply ZR; (try dsimp only [List.map_cons, List.map_nil]); refine C_dr mixed ?_; (repeat (first | (apply vS; first | refine vn ?_ | refine va ?_ | refine vp ?_ | refine vr ?_ | refine vt ?_ | refine vc (V) ?_ | refine vcF (V) ?_) | (apply vZ; first | refine vs ?_ | refine vw ?_))); refine W_e ?_) | (apply ZK; first | refine Z4 ?_ | refine Z5 ?_) | refine Z6 ?_ | refine Z7 ?_ | refine Z8 ?_ | refine Z9 ?_ | refine ZA ?_ | refine ZB ?_ | refine ZC ?_ | refine ZF ?_)
    repeat (first | refine kEnd_m ?_ | refine kEnd_f ?_)
    refine kEnd_g ?_ (by first | exact .inl rfl | exact .inr rfl)
    exact Sub.tup (.cons (Sub.agg (.cons Sub.nil .nil)) (.cons (Sub.eq rfl rfl) .nil))
  · rw [if_pos rfl]
    obtain ⟨hb, hv, hp⟩ := domB_iff.1 h
    rcases sl_cases (a := dim) (n := rs.length) with ⟨h1, h2, h3⟩ | ⟨h0, h1⟩
    · rw [if_pos ⟨h1, h2, fun e => h3 (by omega)⟩]
      obtain ⟨k, rfl⟩ : ∃ k : Nat, dim = (k : Int) := ⟨dim.toNat, by omega⟩
      have hk : k < rs.length := by omega
      have eg : rs.getD k ⟨1, 0, 1⟩ = rs[k] := by simp [hk]
      rw [Int.toNat_natCast, eg]
      have H := sHas_b (hv _ (List.getElem_mem hk)) at' rfl
      have CC := sConcat_d [rs.take k, rs.drop (k + 1)] (by simp) (by simp; omega)
      have ef : [rs.take k, rs.drop (k + 1)].flatten = rs.take k ++ rs.drop (k + 1) := by simp
      rw [ef] at CC
      have el : (rs.take k ++ rs.drop (k + 1)).length = rs.length - 1 := by simp; omega
      have DN := dDone_d (slRest rs k at' (placeB (rowOf rs[k]) at'))
      have el2 : (slRest rs k at' (placeB (rowOf rs[k]) at')).length = rs.length - 1 := by unfold slRest; split <;> simp <;> omega
      have hz : 0 < (rs.take k ++ rs.drop (k + 1)).length := by omega
      have hp := set_first hz ⟨1, 0, 1⟩
      have hL := rC_len (rs.take k ++ rs.drop (k + 1))
      have e1 : (rs.drop 0).take ((k : Int).toNat - 0) = rs.take k := by simp
      have e2 : (rs.drop ((k : Int) + 1).toNat).take (rs.length - ((k : Int) + 1).toNat) = rs.drop (k + 1) := by
        rw [show ((k : Int) + 1).toNat = k + 1 by omega, List.take_of_length_le (by simp)]
      have e3 : rowR (slRest rs k at' (placeB (rowOf rs[k]) at')) = .row (rs.length - 1) ((slRest rs k at' (placeB (rowOf rs[k]) at')).flatMap rC) := by show D.row _ _ = _; rw [el2]
      rw [e3] at DN
      rw [el] at CC hL hz
      unfold slRest at DN ⊢
      generalize dCanonRes (if placeB (rowOf rs[k]) at' = true then rs.take k ++ rs.drop (k + 1) else (rs.take k ++ rs.drop (k + 1)).set 0 ⟨1, 0, 1⟩) = c at *
      cases hpb : placeB (rowOf rs[k]) at' <;> rw [hpb] at H DN
      · rw [if_neg (by decide)] at DN
        generalize (rs.take k ++ rs.drop (k + 1)) = E at *
        generalize rs.take k = A at *
        generalize rs.drop (k + 1) = B at *
        refine DC.of Try.func40 Try.ntmps40 Try.results40 rfl (by decide +kernel) rfl ?_
        repeat (first | refine Z1 ?_ | refine Z2 ?_ | (refine Z3 ?_; (repeat (first | (apply gS; first | refine go_no ?_ | refine go_f ?_ | refine gx ?_ | refine gm ?_ | refine gp ?_ | refine go_c rfl rfl (V) ?_ | refine go_cF rfl rfl (V) ?_ | refine go_cA rfl rfl (V) ?_ | refine go_c rfl rfl (CC) ?_ | refine go_cF rfl rfl (CC) ?_ | refine go_cA rfl rfl (CC) ?_ | refine go_c rfl rfl (H) ?_ | refine go_cF rfl rfl (H) ?_ | refine go_cA rfl rfl (H) ?_ | refine go_c rfl rfl (DN) ?_ | refine go_cF rfl rfl (DN) ?_ | refine go_cA rfl rfl (DN) ?_) | (apply gZ; first | refine go_f ?_ | refine gx ?_ | refine gm ?_))); refine T_nil ?_) | (apply ZR; (try dsimp only [List.map_cons, List.map_nil]); refine C_dr mixed ?_; (repeat (first | (apply vS; first | refine vn ?_ | refine va ?_ | refine vp ?_ | refine vr ?_ | refine vt ?_ | refine vc (V) ?_ | refine vcF (V) ?_ | refine vc (CC) ?_ | refine vcF (CC) ?_ | refine vc (H) ?_ | refine vcF (H) ?_ | refine vc (DN) ?_ | refine vcF (DN) ?_) | (apply vZ; first | refine vs ?_ | refine vw ?_))); refine W_e ?_) | (apply ZK; first | refine Z4 ?_ | refine Z5 ?_) | refine Z6 ?_ | refine Z7 ?_ | refine Z8 ?_ | refine Z9 ?_ | refine ZA ?_ | refine ZB ?_ | refine ZC ?_ | refine ZF ?_)
        repeat (first | refine kEnd_m ?_ | refine kEnd_f ?_)
        refine kEnd_g ?_ (by first | exact .inl rfl | exact .inr rfl)
        exact Sub.eq rfl rfl
      · rw [if_pos rfl] at DN
        clear hp
        generalize (rs.take k ++ rs.drop (k + 1)) = E at *
        generalize rs.take k = A at *
        generalize rs.drop (k + 1) = B at *
        refine DC.of Try.func40 Try.ntmps40 Try.results40 rfl (by decide +kernel) rfl ?_
        repeat (first | refine Z1 ?_ | refine Z2 ?_ | (refine Z3 ?_; (repeat (first | (apply gS; first | refine go_no ?_ | refine go_f ?_ | refine gx ?_ | refine gm ?_ | refine gp ?_ | refine go_c rfl rfl (V) ?_ | refine go_cF rfl rfl (V) ?_ | refine go_cA rfl rfl (V) ?_ | refine go_c rfl rfl (CC) ?_ | refine go_cF rfl rfl (CC) ?_ | refine go_cA rfl rfl (CC) ?_ | refine go_c rfl rfl (H) ?_ | refine go_cF rfl rfl (H) ?_ | refine go_cA rfl rfl (H) ?_ | refine go_c rfl rfl (DN) ?_ | refine go_cF rfl rfl (DN) ?_ | refine go_cA rfl rfl (DN) ?_) | (apply gZ; first | refine go_f ?_ | refine gx ?_ | refine gm ?_))); refine T_nil ?_) | (apply ZR; (try dsimp only [List.map_cons, List.map_nil]); refine C_dr mixed ?_; (repeat (first | (apply vS; first | refine vn ?_ | refine va ?_ | refine vp ?_ | refine vr ?_ | refine vt ?_ | refine vc (V) ?_ | refine vcF (V) ?_ | refine vc (CC) ?_ | refine vcF (CC) ?_ | refine vc (H) ?_ | refine vcF (H) ?_ | refine vc (DN) ?_ | refine vcF (DN) ?_) | (apply vZ; first | refine vs ?_ | refine vw ?_))); refine W_e ?_) | (apply ZK; first | refine Z4 ?_ | refine Z5 ?_) | refine Z6 ?_ | refine Z7 ?_ | refine Z8 ?_ | refine Z9 ?_ | refine ZA ?_ | refine ZB ?_ | refine ZC ?_ | refine ZF ?_)
        repeat (first | refine kEnd_m ?_ | refine kEnd_f ?_)
        refine kEnd_g ?_ (by first | exact .inl rfl | exact .inr rfl)
        exact Sub.eq rfl rfl
    · rw [if_neg (fun g => h0 ⟨g.1, g.2.1, fun e => g.2.2 (by omega)⟩)]
      clear h0
      rcases h1 with h1 | ⟨h1, h2 | ⟨h2, h3⟩⟩
      all_goals
        refine DC.of Try.func40 Try.ntmps40 Try.results40 rfl (by decide +kernel) rfl ?_
        repeat (first | refine Z1 ?_ | refine Z2 ?_ | (refine Z3 ?_; (repeat (first | (apply gS; first | refine go_no ?_ | refine go_f ?_ | refine gx ?_ | refine gm ?_ | refine gp ?_ | refine go_c rfl rfl (V) ?_ | refine go_cF rfl rfl (V) ?_ | refine go_cA rfl rfl (V) ?_) | (apply gZ; first | refine go_f ?_ | refine gx ?_ | refine gm ?_))); refine T_nil ?_) | (apply ZR; (try dsimp only [List.map_cons, List.map_nil]); refine C_dr mixed ?_; (repeat (first | (apply vS; first | refine vn ?_ | refine va ?_ | refine vp ?_ | refine vr ?_ | refine vt ?_ | refine vc (V) ?_ | refine vcF (V) ?_) | (apply vZ; first | refine vs ?_ | refine vw ?_))); refine W_e ?_) | (apply ZK; first | refine Z4 ?_ | refine Z5 ?_) | refine Z6 ?_ | refine Z7 ?_ | refine Z8 ?_ | refine Z9 ?_ | refine ZA ?_ | refine ZB ?_ | refine ZC ?_ | refine ZF ?_)
        repeat (first | refine kEnd_m ?_ | refine kEnd_f ?_)
        refine kEnd_g ?_ (by first | exact .inl rfl | exact .inr rfl)
        exact Sub.tup (.cons (Sub.agg (.cons Sub.nil .nil)) (.cons (Sub.eq rfl rfl) .nil))
def skipL (rs : List Rg) (d k : Nat) : List Rg := if k ≤ d then rs.take k else rs.take d ++ (rs.drop (d + 1)).take (k - d - 1)
theorem skipL_0 (rs : List Rg) (d : Nat) : skipL rs d 0 = [] := by simp [skipL]
theorem skipL_len {rs : List Rg} {d k : Nat} (hd : d < rs.length) (hk : k ≤ rs.length) : (skipL rs d k).length = if k ≤ d then k else k - 1 := by
  unfold skipL
  split
  · rw [List.length_take]; omega
  · rw [List.length_append, List.length_take, List.length_take, List.length_drop]; omega
theorem skipL_at (rs : List Rg) (d : Nat) : skipL rs d (d + 1) = skipL rs d d := by
  unfold skipL
  rw [if_neg (by omega), if_pos (Nat.le_refl _)]; simp
theorem skipL_step {rs : List Rg} {d k : Nat} (hk : k < rs.length) (hd : d < rs.length) (hne : k ≠ d) : skipL rs d (k + 1) = skipL rs d k ++ [rs[k]] := by
  unfold skipL
  by_cases h : k < d
  · rw [if_pos (by omega), if_pos (by omega), List.take_succ_eq_append_getElem hk]
  · rw [if_neg (by omega), if_neg (by omega), List.append_assoc]
    congr 1
    have hlt : k - d - 1 < (rs.drop (d + 1)).length := by rw [List.length_drop]; omega
    rw [show k + 1 - d - 1 = k - d - 1 + 1 by omega, List.take_succ_eq_append_getElem hlt, List.getElem_drop]
    simp only [show d + 1 + (k - d - 1) = k by omega]
theorem skipL_end {rs : List Rg} {d : Nat} (hd : d < rs.length) : skipL rs d rs.length = rs.take d ++ rs.drop (d + 1) := by
  unfold skipL
  rw [if_neg (by omega)]
  congr 1
  exact List.take_of_length_le (by rw [List.length_drop]; omega)
set_option maxHeartbeats 4000000 in
theorem rSlice_d (rs : List Rg) (dim at' : Int) : DC Try.prog 41 [domD rs, iD dim, iD at'] (.tup [domD (slRes rs dim at').1, iD (slRes rs dim at').2]) := by
  have V := rdValid_b rs (b := domB rs) rfl
  unfold slRes
  cases h : domB rs <;> rw [h] at V
  · refine DC.of Try.func41 Try.ntmps41 Try.results41 rfl (by decide +kernel) rfl ?_
    repeat (first | refine Z1 ?_ | refine Z2 ?_ | (refine Z3 ?_; (repeat (first | (apply gS; first | refine go_no ?_ | refine go_f ?_ | refine gx ?_ | refine gm ?_ | refine gp ?_ | refine go_c rfl rfl (V) ?_ | refine go_cF rfl rfl (V) ?_ | refine go_cA rfl rfl (V) ?_) | (apply gZ; first | refine go_f ?_ | refine gx ?_ | refine gm ?_))); refine T_nil ?_) | (apply ZK; first | refine Z4 ?_ | refine Z5 ?_) | refine Z6 ?_ | refine Z7 ?_ | refine Z8 ?_ | refine Z9 ?_ | refine ZA ?_ | refine ZB ?_ | refine ZC ?_ | refine ZD ?_ | refine ZE ?_ | refine ZF ?_ | refine ZG ?_ | refine ZH ?_)
    repeat (first | refine kEnd_m ?_ | refine kEnd_f ?_)
    refine kEnd_g ?_ (by first | exact .inl rfl | exact .inr rfl)
    exact Sub.tup (.cons (Sub.agg (.cons Sub.nil .nil)) (.cons (Sub.eq rfl rfl) .nil))
  · rw [if_pos rfl]
    obtain ⟨hb, hv, hp⟩ := domB_iff.1 h
    rcases sl_cases (a := dim) (n := rs.length) with ⟨h1, h2, h3⟩ | ⟨h0, h1⟩
    · rw [if_pos ⟨h1, h2, fun e => h3 (by omega)⟩]
      obtain ⟨d, rfl⟩ : ∃ k : Nat, dim = (k : Int) := ⟨dim.toNat, by omega⟩
      have hd : d < rs.length := by omega
      have eg : rs.getD d ⟨1, 0, 1⟩ = rs[d] := by simp [hd]
      rw [Int.toNat_natCast, eg]
      have H := rHas_b4 (hv _ (List.getElem_mem hd)) at' rfl
      have DN := rDone4_d (slRest rs d at' (placeB (rowOf rs[d]) at'))
      have el2 : (slRest rs d at' (placeB (rowOf rs[d]) at')).length = (skipL rs d rs.length).length := by unfold slRest; rw [skipL_end hd]; split <;> simp
      have e3 : rowR (slRest rs d at' (placeB (rowOf rs[d]) at')) = .row (skipL rs d rs.length).length ((slRest rs d at' (placeB (rowOf rs[d]) at')).flatMap rC) := by show D.row _ _ = _; rw [el2]
      rw [e3] at DN
      clear e3 el2 eg
      unfold slRest at DN ⊢
      generalize dCanonRes (if placeB (rowOf rs[d]) at' = true then rs.take d ++ rs.drop (d + 1) else (rs.take d ++ rs.drop (d + 1)).set 0 ⟨1, 0, 1⟩) = c at *
      rw [← skipL_end hd] at DN
      have hz : 0 < (skipL rs d rs.length).length := by rw [skipL_len hd (Nat.le_refl _)]; split <;> omega
      have hpp := set_first hz ⟨1, 0, 1⟩
      have hL := rC_len (skipL rs d rs.length)
      have s0 := skipL_0 rs d
      have sA : ∀ k, k = d → (skipL rs d (k + 1)).length = (skipL rs d k).length := fun k e => by rw [e, skipL_at]
      have sB : ∀ k, k = d → (skipL rs d (k + 1)).flatMap rC = (skipL rs d k).flatMap rC := fun k e => by rw [e, skipL_at]
      have sC : ∀ k (hk : k < rs.length), k ≠ d → (skipL rs d (k + 1)).length = (skipL rs d k).length + 1 := fun k hk hne => by rw [skipL_step hk hd hne]; simp
      have sD : ∀ k (hk : k < rs.length), k ≠ d → (skipL rs d (k + 1)).flatMap rC = (skipL rs d k).flatMap rC ++ rC rs[k] := fun k hk hne => by rw [skipL_step hk hd hne, List.flatMap_append]; simp
      have sE : ∀ k, k ≤ rs.length → (skipL rs d k).length ≤ 3 := fun k hk => by rw [skipL_len hd hk]; split <;> omega
      generalize hf : skipL rs d = f at *
      have s0' : (f 0).length = 0 := by rw [s0]; rfl
      have s0'' : (f 0).flatMap rC = [] := by rw [s0]; rfl
      clear s0 hf
      refine DC.of Try.func41 Try.ntmps41 Try.results41 rfl (by decide +kernel) rfl ?_
      repeat (first | refine Z1 ?_ | refine Z2 ?_ | (refine Z3 ?_; (repeat (first | (apply gS; first | refine go_no ?_ | refine go_f ?_ | refine gx ?_ | refine gm ?_ | refine gp ?_ | refine go_c rfl rfl (V) ?_ | refine go_cF rfl rfl (V) ?_ | refine go_cA rfl rfl (V) ?_) | (apply gZ; first | refine go_f ?_ | refine gx ?_ | refine gm ?_))); refine T_nil ?_) | (apply ZK; first | refine Z4 ?_ | refine Z5 ?_) | refine Z6 ?_ | refine Z7 ?_ | refine Z8 ?_ | refine Z9 ?_ | refine ZA ?_ | refine ZB ?_ | refine ZC ?_ | refine ZD ?_ | refine ZE ?_ | refine ZF ?_ | refine ZG ?_ | refine ZH ?_)
      refine C_count rs.length (fun _ => True) (fun k => ⟨4, 71, [(9, iD k), (8, .own 3 (f k).length), (7, iD 0), (6, .ptr 1 0), (3, .ptr 0 0), (1, iD d), (2, iD at')], [(0, some ⟨24, 1, 1, [rowR rs]⟩), (1, some ⟨24, 1, 1, [.val (.slice none 0 0)]⟩), (3, some ⟨39, 3, (f k).length, (f k).flatMap rC⟩)]⟩) ?_ trivial ?_
      · rw [s0', s0'']
        refine Wk.trans (Wk.adoptT 8 39 3 rfl) ?_
        exact Wk.gx (fun b => cond (Nat.beq b 3) 2 (b))
      · intro k hk _
        have q := sE k hk
        by_cases hlt : k < rs.length
        · by_cases hkd : k = d
          · have qa := sA k hkd
            have qb := sB k hkd
            clear sA sB sC sD sE
            repeat (first | refine Z1 ?_ | refine Z2 ?_ | (refine Z3 ?_; (repeat (first | (apply gS; first | refine go_no ?_ | refine go_f ?_ | refine gx ?_ | refine gm ?_ | refine gp ?_) | (apply gZ; first | refine go_f ?_ | refine gx ?_ | refine gm ?_))); refine T_nil ?_) | (apply ZK; first | refine Z4 ?_ | refine Z5 ?_) | refine Z6 ?_ | refine Z7 ?_ | refine Z8 ?_ | refine Z9 ?_ | refine ZA ?_ | refine ZB ?_ | refine ZC ?_ | refine ZD ?_ | refine ZE ?_ | refine ZF ?_ | refine ZG ?_ | refine ZH ?_)
            refine kLoop_n ⟨hlt, trivial, ?_⟩
            exact Wk.gx (fun b => b)
          · have qa := sC k hlt hkd
            have qb := sD k hlt hkd
            clear sA sB sC sD sE
            repeat (first | refine Z1 ?_ | refine Z2 ?_ | (refine Z3 ?_; (repeat (first | (apply gS; first | refine go_no ?_ | refine go_f ?_ | refine gx ?_ | refine gm ?_ | refine gp ?_) | (apply gZ; first | refine go_f ?_ | refine gx ?_ | refine gm ?_))); refine T_nil ?_) | (apply ZK; first | refine Z4 ?_ | refine Z5 ?_) | refine Z6 ?_ | refine Z7 ?_ | refine Z8 ?_ | refine Z9 ?_ | refine ZA ?_ | refine ZB ?_ | refine ZC ?_ | refine ZD ?_ | refine ZE ?_ | refine ZF ?_ | refine ZG ?_ | refine ZH ?_)
            refine kLoop_n ⟨hlt, trivial, ?_⟩
            exact Wk.gx (fun b => cond (Nat.beq b 3) 4 (b))
        · obtain rfl : k = rs.length := by omega
          clear sA sB sC sD sE
          cases hpb : placeB (rowOf rs[d]) at' <;> rw [hpb] at H DN
          · rw [if_neg (by decide)] at DN
            repeat (first | refine Z1 ?_ | refine Z2 ?_ | (refine Z3 ?_; (repeat (first | (apply gS; first | refine go_no ?_ | refine go_f ?_ | refine gx ?_ | refine gm ?_ | refine gp ?_ | refine go_c rfl rfl (H) ?_ | refine go_cF rfl rfl (H) ?_ | refine go_cA rfl rfl (H) ?_ | refine go_c rfl rfl (DN) ?_ | refine go_cF rfl rfl (DN) ?_ | refine go_cA rfl rfl (DN) ?_) | (apply gZ; first | refine go_f ?_ | refine gx ?_ | refine gm ?_))); refine T_nil ?_) | (apply ZK; first | refine Z4 ?_ | refine Z5 ?_) | refine Z6 ?_ | refine Z7 ?_ | refine Z8 ?_ | refine Z9 ?_ | refine ZA ?_ | refine ZB ?_ | refine ZC ?_ | refine ZD ?_ | refine ZE ?_ | refine ZF ?_ | refine ZG ?_ | refine ZH ?_)
            repeat (first | refine kEnd_m ?_ | refine kEnd_f ?_)
            refine kEnd_g ?_ (by first | exact .inl rfl | exact .inr rfl)
            exact Sub.eq rfl rfl
          · rw [if_pos rfl] at DN
            clear hpp
            repeat (first | refine Z1 ?_ | refine Z2 ?_ | (refine Z3 ?_; (repeat (first | (apply gS; first | refine go_no ?_ | refine go_f ?_ | refine gx ?_ | refine gm ?_ | refine gp ?_ | refine go_c rfl rfl (H) ?_ | refine go_cF rfl rfl (H) ?_ | refine go_cA rfl rfl (H) ?_ | refine go_c rfl rfl (DN) ?_ | refine go_cF rfl rfl (DN) ?_ | refine go_cA rfl rfl (DN) ?_) | (apply gZ; first | refine go_f ?_ | refine gx ?_ | refine gm ?_))); refine T_nil ?_) | (apply ZK; first | refine Z4 ?_ | refine Z5 ?_) | refine Z6 ?_ | refine Z7 ?_ | refine Z8 ?_ | refine Z9 ?_ | refine ZA ?_ | refine ZB ?_ | refine ZC ?_ | refine ZD ?_ | refine ZE ?_ | refine ZF ?_ | refine ZG ?_ | refine ZH ?_)
            repeat (first | refine kEnd_m ?_ | refine kEnd_f ?_)
            refine kEnd_g ?_ (by first | exact .inl rfl | exact .inr rfl)
            exact Sub.eq rfl rfl
    · rw [if_neg (fun g => h0 ⟨g.1, g.2.1, fun e => g.2.2 (by omega)⟩)]
      clear h0
      rcases h1 with h1 | ⟨h1, h2 | ⟨h2, h3⟩⟩
      all_goals
        refine DC.of Try.func41 Try.ntmps41 Try.results41 rfl (by decide +kernel) rfl ?_
        repeat (first | refine Z1 ?_ | refine Z2 ?_ | (refine Z3 ?_; (repeat (first | (apply gS; first | refine go_no ?_ | refine go_f ?_ | refine gx ?_ | refine gm ?_ | refine gp ?_ | refine go_c rfl rfl (V) ?_ | refine go_cF rfl rfl (V) ?_ | refine go_cA rfl rfl (V) ?_) | (apply gZ; first | refine go_f ?_ | refine gx ?_ | refine gm ?_))); refine T_nil ?_) | (apply ZK; first | refine Z4 ?_ | refine Z5 ?_) | refine Z6 ?_ | refine Z7 ?_ | refine Z8 ?_ | refine Z9 ?_ | refine ZA ?_ | refine ZB ?_ | refine ZC ?_ | refine ZD ?_ | refine ZE ?_ | refine ZF ?_ | refine ZG ?_ | refine ZH ?_)
        repeat (first | refine kEnd_m ?_ | refine kEnd_f ?_)
        refine kEnd_g ?_ (by first | exact .inl rfl | exact .inr rfl)
        exact Sub.tup (.cons (Sub.agg (.cons Sub.nil .nil)) (.cons (Sub.eq rfl rfl) .nil))
end Go.Proofs.Ytifapodobhkdcaa
