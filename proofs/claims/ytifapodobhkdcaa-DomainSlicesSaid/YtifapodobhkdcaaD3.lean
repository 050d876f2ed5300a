/- Ith, Indexes, Place and Has of package domain, by the abstract machine. -/
import Derived.Test.YtifapodobhkdcaaD2
namespace Go.Proofs.Ytifapodobhkdcaa
open Go.RowKit
set_option linter.unusedVariables false
set_option maxHeartbeats 16000000
set_option linter.unusedSimpArgs false
set_option maxRecDepth 100000
abbrev rowL2 (ls : List (List Int)) : D := .row ls.length (ls.map rowI)
def dIthRes (rs : List Rg) (i : Int) : List Int × Int := if domB rs = true then (if 0 ≤ i ∧ i < prodN (cl rs) then (ithX rs i.toNat, 0) else ([], 2)) else ([], 40)
theorem dIth_d (rs : List Rg) (i : Int) : DC Try.prog 27 [domD rs, iD i] (.tup [rowI (dIthRes rs i).1, iD (dIthRes rs i).2]) := by
  have C := counts_d rs
  unfold dIthRes
  unfold countsN countsL at C
  cases h : domB rs <;> rw [h] at C
  · refine DC.of Try.func27 Try.ntmps27 Try.results27 rfl (by decide +kernel) rfl ?_
    repeat (first | refine Z1 ?_ | refine Z2 ?_ | (refine Z3 ?_; (repeat (first | (apply gS; first | refine go_no ?_ | refine go_f ?_ | refine gm ?_ | refine gp ?_ | refine go_c rfl rfl (C) ?_))); refine T_nil ?_) | (apply ZK; first | refine Z4 ?_ | refine Z5 ?_) | refine Z6 ?_ | refine Z7 ?_ | refine Z8 ?_ | refine Z9 ?_ | refine ZA ?_ | refine ZB ?_ | refine ZC ?_ | refine ZF ?_)
    repeat (first | refine kEnd_m ?_ | refine kEnd_f ?_)
    refine kEnd_g ?_ (by first | exact .inl rfl | exact .inr rfl)
    exact Sub.tup (.cons Sub.nil (.cons (Sub.eq rfl rfl) .nil))
  · rw [if_pos rfl] at C ⊢
    rw [if_pos rfl] at C
    by_cases hi : 0 ≤ i ∧ i < prodN (cl rs)
    · rw [if_pos hi]
      have I := index_d rs i.toNat h (by omega)
      rw [show ((i.toNat : Nat) : Int) = i by omega] at I
      refine DC.of Try.func27 Try.ntmps27 Try.results27 rfl (by decide +kernel) rfl ?_
      repeat (first | refine Z1 ?_ | refine Z2 ?_ | (refine Z3 ?_; (repeat (first | (apply gS; first | refine go_no ?_ | refine go_f ?_ | refine gm ?_ | refine gp ?_ | refine go_c rfl rfl (C) ?_ | refine go_c rfl rfl (I) ?_))); refine T_nil ?_) | (apply ZK; first | refine Z4 ?_ | refine Z5 ?_) | refine Z6 ?_ | refine Z7 ?_ | refine Z8 ?_ | refine Z9 ?_ | refine ZA ?_ | refine ZB ?_ | refine ZC ?_ | refine ZF ?_)
      repeat (first | refine kEnd_m ?_ | refine kEnd_f ?_)
      refine kEnd_g ?_ (by first | exact .inl rfl | exact .inr rfl)
      exact Sub.eq rfl rfl
    · rw [if_neg hi]
      by_cases h0 : i < 0
      · refine DC.of Try.func27 Try.ntmps27 Try.results27 rfl (by decide +kernel) rfl ?_
        repeat (first | refine Z1 ?_ | refine Z2 ?_ | (refine Z3 ?_; (repeat (first | (apply gS; first | refine go_no ?_ | refine go_f ?_ | refine gm ?_ | refine gp ?_ | refine go_c rfl rfl (C) ?_))); refine T_nil ?_) | (apply ZK; first | refine Z4 ?_ | refine Z5 ?_) | refine Z6 ?_ | refine Z7 ?_ | refine Z8 ?_ | refine Z9 ?_ | refine ZA ?_ | refine ZB ?_ | refine ZC ?_ | refine ZF ?_)
        repeat (first | refine kEnd_m ?_ | refine kEnd_f ?_)
        refine kEnd_g ?_ (by first | exact .inl rfl | exact .inr rfl)
        exact Sub.tup (.cons Sub.nil (.cons (Sub.eq rfl rfl) .nil))
      · have h1 : (prodN (cl rs) : Int) ≤ i := by omega
        clear hi
        refine DC.of Try.func27 Try.ntmps27 Try.results27 rfl (by decide +kernel) rfl ?_
        repeat (first | refine Z1 ?_ | refine Z2 ?_ | (refine Z3 ?_; (repeat (first | (apply gS; first | refine go_no ?_ | refine go_f ?_ | refine gm ?_ | refine gp ?_ | refine go_c rfl rfl (C) ?_))); refine T_nil ?_) | (apply ZK; first | refine Z4 ?_ | refine Z5 ?_) | refine Z6 ?_ | refine Z7 ?_ | refine Z8 ?_ | refine Z9 ?_ | refine ZA ?_ | refine ZB ?_ | refine ZC ?_ | refine ZF ?_)
        repeat (first | refine kEnd_m ?_ | refine kEnd_f ?_)
        refine kEnd_g ?_ (by first | exact .inl rfl | exact .inr rfl)
        exact Sub.tup (.cons Sub.nil (.cons (Sub.eq rfl rfl) .nil))
def dIndexesRes (rs : List Rg) : List (List Int) × Int := if domB rs = true then (idxs rs, 0) else ([], 40)
theorem range_snoc (f : Nat → List Int) (k : Nat) : ((List.range (k + 1)).map f).map rowI = ((List.range k).map f).map rowI ++ [rowI (f k)] := by simp only [List.range_succ, List.map_append, List.map_cons, List.map_nil]
theorem dIndexes_d (rs : List Rg) : DC Try.prog 25 [domD rs] (.tup [rowL2 (dIndexesRes rs).1, iD (dIndexesRes rs).2]) := by
  have C := counts_d rs
  unfold dIndexesRes
  unfold countsN countsL at C
  cases h : domB rs <;> rw [h] at C
  · refine DC.of Try.func25 Try.ntmps25 Try.results25 rfl (by decide +kernel) rfl ?_
    repeat (first | refine Z1 ?_ | refine Z2 ?_ | (refine Z3 ?_; (repeat (first | (apply gS; first | refine go_f ?_ | refine gm ?_ | refine gp ?_ | refine go_c rfl rfl (C) ?_))); refine T_nil ?_) | (apply ZK; first | refine Z4 ?_ | refine Z5 ?_) | refine Z6 ?_ | refine Z7 ?_ | refine Z8 ?_ | refine Z9 ?_ | refine ZA ?_ | refine ZB ?_ | refine ZC ?_ | refine ZD ?_ | refine ZE ?_ | refine ZF ?_ | refine ZG ?_ | refine ZH ?_)
    repeat (first | refine kEnd_m ?_ | refine kEnd_f ?_)
    refine kEnd_g ?_ (by first | exact .inl rfl | exact .inr rfl)
    exact Sub.tup (.cons Sub.nil (.cons (Sub.eq rfl rfl) .nil))
  · rw [if_pos rfl] at C ⊢
    rw [if_pos rfl] at C
    have hp := (domB_iff.1 h).2.2
    refine DC.of Try.func25 Try.ntmps25 Try.results25 rfl (by decide +kernel) rfl ?_
    repeat (first | refine Z1 ?_ | refine Z2 ?_ | (refine Z3 ?_; (repeat (first | (apply gS; first | refine go_f ?_ | refine gm ?_ | refine gp ?_ | refine go_c rfl rfl (C) ?_))); refine T_nil ?_) | (apply ZK; first | refine Z4 ?_ | refine Z5 ?_) | refine Z6 ?_ | refine Z7 ?_ | refine Z8 ?_ | refine Z9 ?_ | refine ZA ?_ | refine ZB ?_ | refine ZC ?_ | refine ZD ?_ | refine ZE ?_ | refine ZF ?_ | refine ZG ?_ | refine ZH ?_)
    refine C_count (prodN (cl rs)) (fun _ => True) (fun k => ⟨2, 30, [(18, iD k), (17, iD (prodN (cl rs) : Nat)), (7, .own 1 k), (4, rowI (natsI (cl rs))), (1, .ptr 0 0)], [(0, some ⟨24, 1, 1, [rowR rs]⟩), (1, some ⟨25, 1, k, ((List.range k).map (ithX rs)).map rowI⟩)]⟩) ?_ trivial ?_
    · refine Wk.trans (Wk.adoptT 7 25 1 rfl) ?_
      exact Wk.go (fun b => b)
    · intro k hk _
      by_cases hlt : k < prodN (cl rs)
      · have I := index_d rs k h hlt
        have en := range_snoc (ithX rs) k
        repeat (first | refine Z1 ?_ | refine Z2 ?_ | (refine Z3 ?_; (repeat (first | (apply gS; first | refine go_f ?_ | refine gm ?_ | refine gp ?_ | refine go_c rfl rfl (I) ?_))); refine T_nil ?_) | (apply ZK; first | refine Z4 ?_ | refine Z5 ?_) | refine Z6 ?_ | refine Z7 ?_ | refine Z8 ?_ | refine Z9 ?_ | refine ZA ?_ | refine ZB ?_ | refine ZC ?_ | refine ZD ?_ | refine ZE ?_ | refine ZF ?_ | refine ZG ?_ | refine ZH ?_)
        refine kLoop_n ⟨hlt, trivial, ?_⟩
        exact Wk.go (fun b => cond (Nat.beq b 1) 2 (b))
      · obtain rfl : k = prodN (cl rs) := by omega
        repeat (first | refine Z1 ?_ | refine Z2 ?_ | (refine Z3 ?_; (repeat (first | (apply gS; first | refine go_f ?_ | refine gm ?_ | refine gp ?_))); refine T_nil ?_) | (apply ZK; first | refine Z4 ?_ | refine Z5 ?_) | refine Z6 ?_ | refine Z7 ?_ | refine Z8 ?_ | refine Z9 ?_ | refine ZA ?_ | refine ZB ?_ | refine ZC ?_ | refine ZD ?_ | refine ZE ?_ | refine ZF ?_ | refine ZG ?_ | refine ZH ?_)
        repeat (first | refine kEnd_m ?_ | refine kEnd_f ?_)
        refine kEnd_g ?_ (by first | exact .inl rfl | exact .inr rfl)
        refine Sub.tup (.cons (Sub.eq ?_ ?_) (.cons (Sub.eq rfl rfl) .nil))
        · rw [idxs_eq]; simp [frz2, frz1]
        · rfl
theorem prod_cap : ∀ {rs : List Rg}, (∀ r ∈ rs, vB r = true) → prodN (cl rs) ≤ 2000001 ^ rs.length
  | [], _ => by simp [cl, prodN]
  | r :: rs, h => by
    show cN r * prodN (cl rs) ≤ _
    rw [List.length_cons, Nat.pow_succ, Nat.mul_comm]
    exact Nat.mul_le_mul (prod_cap fun r hr => h r (by simp [hr])) (cN_le (h r (by simp)))
theorem sPlace_ok {r : Rg} {x : Int} (h : vB r = true) (hp : placeB (rowOf r) x = true) : DC Try.prog 100 [rD r, iD x] (.tup [iD ((placeI (rowOf r) x).toNat : Nat), iD 0]) := by
  have H := sPlaceP_d r x
  obtain ⟨i, hi, hx⟩ := (memb_place (vB_ok' h) x).2 hp
  have hn := at_near (vB_ok' h) (i := i) (by omega) hi
  rw [hx] at hn
  rw [show placeRes r x = (placeI (rowOf r) x, 0) by rw [placeRes, if_pos h, if_pos hn, if_pos hp]] at H
  rw [show (((placeI (rowOf r) x).toNat : Nat) : Int) = placeI (rowOf r) x by have := (at_place hp).1; omega]
  exact H
theorem sPlace_no {r : Rg} {x : Int} (h : vB r = true) (hp : placeB (rowOf r) x = false) : DC Try.prog 100 [rD r, iD x] (.tup [iD 0, iD 5]) := by
  have H := sPlaceP_d r x
  rw [show placeRes r x = (0, 5) by rw [placeRes, if_pos h, hp]; split <;> rfl] at H
  exact H
theorem inB_iff : ∀ {rs : List Rg} {xs : List Int}, xs.length = rs.length → (inB rs xs = true ↔ ∀ k (h1 : k < rs.length) (h2 : k < xs.length), placeB (rowOf rs[k]) xs[k] = true)
  | [], [], _ => by simp [inB]
  | [], _ :: _, h => by simp at h
  | _ :: _, [], h => by simp at h
  | r :: rs, x :: xs, h => by
    simp only [inB, Bool.and_eq_true]
    rw [inB_iff (rs := rs) (xs := xs) (by simpa using h)]
    constructor
    · rintro ⟨h1, h2⟩ k k1 k2
      cases k with
      | zero => exact h1
      | succ k => exact h2 k (by simpa using k1) (by simpa using k2)
    · intro h1
      exact ⟨h1 0 (by simp) (by simp), fun k k1 k2 => h1 (k + 1) (by simpa using k1) (by simpa using k2)⟩
theorem placeV_snoc : ∀ {rs : List Rg} {xs : List Int} (a : Nat) (r : Rg) (x : Int), xs.length = rs.length → placeV (rs ++ [r]) (xs ++ [x]) a = placeV rs xs a * cN r + (placeI (rowOf r) x).toNat
  | [], [], a, r, x, _ => rfl
  | [], _ :: _, _, _, _, h => by simp at h
  | _ :: _, [], _, _, _, h => by simp at h
  | s :: rs, y :: xs, a, r, x, h => placeV_snoc (a * cN s + (placeI (rowOf s) y).toNat) r x (by simpa using h)
def dPlaceRes (rs : List Rg) (x : List Int) : Int × Int := if domB rs = true then (if x.length = rs.length then (if inB rs x = true then ((placeV rs x 0 : Nat), 0) else (0, 5)) else (0, 2)) else (0, 40)
set_option maxHeartbeats 8000000 in
theorem dPlace_d (rs : List Rg) (x : List Int) : DC Try.prog 26 [domD rs, rowI x] (.tup [iD (dPlaceRes rs x).1, iD (dPlaceRes rs x).2]) := by
  have C := counts_d rs
  unfold dPlaceRes
  unfold countsN countsL at C
  cases h : domB rs <;> rw [h] at C
  · refine DC.of Try.func26 Try.ntmps26 Try.results26 rfl (by decide +kernel) rfl ?_
    repeat (first | refine Z1 ?_ | refine Z2 ?_ | (refine Z3 ?_; (repeat (first | (apply gS; first | refine go_f ?_ | refine gm ?_ | refine gp ?_ | refine go_c rfl rfl (C) ?_) | (apply gZ; first | refine go_f ?_ | refine gm ?_))); refine T_nil ?_) | (apply ZR; refine C_dr mixed ?_; (repeat (first | (apply vS; first | refine va ?_ | refine vp ?_ | refine vr ?_ | refine vt ?_ | refine vc (C) ?_) | (apply vZ; first | refine vs ?_))); refine W_e ?_) | (apply ZK; first | refine Z4 ?_ | refine Z5 ?_) | refine Z6 ?_ | refine Z7 ?_ | refine Z8 ?_ | refine Z9 ?_ | refine ZA ?_ | refine ZB ?_ | refine ZC ?_ | refine ZD ?_ | refine ZE ?_ | refine ZF ?_ | refine ZG ?_ | refine ZH ?_)
    repeat (first | refine kEnd_m ?_ | refine kEnd_f ?_)
    refine kEnd_g ?_ (by first | exact .inl rfl | exact .inr rfl)
    exact Sub.eq rfl rfl
  rw [if_pos rfl] at C ⊢
  rw [if_pos rfl] at C
  have hln : (natsI (cl rs)).length = rs.length := by simp [natsI, cl]
  rw [rowI_n hln] at C
  by_cases hl : x.length = rs.length
  case neg =>
    rw [if_neg hl]
    have hl' : ¬ (x.length : Int) = rs.length := by omega
    refine DC.of Try.func26 Try.ntmps26 Try.results26 rfl (by decide +kernel) rfl ?_
    repeat (first | refine Z1 ?_ | refine Z2 ?_ | (refine Z3 ?_; (repeat (first | (apply gS; first | refine go_f ?_ | refine gm ?_ | refine gp ?_ | refine go_c rfl rfl (C) ?_) | (apply gZ; first | refine go_f ?_ | refine gm ?_))); refine T_nil ?_) | (apply ZR; refine C_dr mixed ?_; (repeat (first | (apply vS; first | refine va ?_ | refine vp ?_ | refine vr ?_ | refine vt ?_ | refine vc (C) ?_) | (apply vZ; first | refine vs ?_))); refine W_e ?_) | (apply ZK; first | refine Z4 ?_ | refine Z5 ?_) | refine Z6 ?_ | refine Z7 ?_ | refine Z8 ?_ | refine Z9 ?_ | refine ZA ?_ | refine ZB ?_ | refine ZC ?_ | refine ZD ?_ | refine ZE ?_ | refine ZF ?_ | refine ZG ?_ | refine ZH ?_)
    repeat (first | refine kEnd_m ?_ | refine kEnd_f ?_)
    refine kEnd_g ?_ (by first | exact .inl rfl | exact .inr rfl)
    exact Sub.eq rfl rfl
  rw [if_pos hl]
  have hl' : (x.length : Int) = rs.length := by omega
  obtain ⟨⟨hl1, hl3⟩, hv, hp⟩ := domB_iff.1 h
  have hget : ∀ k (h : k < rs.length), (natsI (cl rs))[k]'(by omega) = ((cN rs[k] : Nat) : Int) := fun k h => by simp [natsI, cl]
  have hcap : ∀ k, prodN (cl (rs.take k)) ≤ 8000012000006000001 := fun k => by
    refine Nat.le_trans (prod_cap fun r hr => hv r (List.mem_of_mem_take hr)) ?_
    refine Nat.le_trans (Nat.pow_le_pow_right (by decide) (show (rs.take k).length ≤ 3 by rw [List.length_take]; omega)) (by decide)
  have hstep : ∀ k (h1 : k < rs.length) (h2 : k < x.length), placeV (rs.take (k + 1)) (x.take (k + 1)) 0 = placeV (rs.take k) (x.take k) 0 * cN rs[k] + (placeI (rowOf rs[k]) x[k]).toNat := fun k h1 h2 => by
    rw [List.take_succ_eq_append_getElem h1, List.take_succ_eq_append_getElem h2, placeV_snoc _ _ _ (by rw [List.length_take, List.length_take]; omega)]
  have hlt : ∀ q, (∀ j (h1 : j < rs.length) (h2 : j < x.length), j < q → placeB (rowOf rs[j]) x[j] = true) → placeV (rs.take q) (x.take q) 0 ≤ 8000012000006000001 := fun q hq => by
    have hin : inB (rs.take q) (x.take q) = true := (inB_iff (by rw [List.length_take, List.length_take]; omega)).2 fun k k1 k2 => by
      rw [List.getElem_take, List.getElem_take]
      rw [List.length_take] at k1
      exact hq k (by omega) (by omega) (by omega)
    obtain ⟨v, e1, e2, _⟩ := placeV_ok 0 (fun r hr => hv r (List.mem_of_mem_take hr)) hin
    have := hcap q
    omega
  by_cases hin : inB rs x = true
  · rw [if_pos hin]
    have hall := (inB_iff hl).1 hin
    refine DC.of Try.func26 Try.ntmps26 Try.results26 rfl (by decide +kernel) rfl ?_
    repeat (first | refine Z1 ?_ | refine Z2 ?_ | (refine Z3 ?_; (repeat (first | (apply gS; first | refine go_f ?_ | refine gm ?_ | refine gp ?_ | refine go_c rfl rfl (C) ?_) | (apply gZ; first | refine go_f ?_ | refine gm ?_))); refine T_nil ?_) | (apply ZR; refine C_dr mixed ?_; (repeat (first | (apply vS; first | refine va ?_ | refine vp ?_ | refine vr ?_ | refine vt ?_ | refine vc (C) ?_) | (apply vZ; first | refine vs ?_))); refine W_e ?_) | (apply ZK; first | refine Z4 ?_ | refine Z5 ?_) | refine Z6 ?_ | refine Z7 ?_ | refine Z8 ?_ | refine Z9 ?_ | refine ZA ?_ | refine ZB ?_ | refine ZC ?_ | refine ZD ?_ | refine ZE ?_ | refine ZF ?_ | refine ZG ?_ | refine ZH ?_)
    refine C_count rs.length (fun _ => True) (fun k => ⟨1, 58, [(32, iD k), (31, iD rs.length), (30, rowR rs), (9, iD (placeV (rs.take k) (x.take k) 0 : Nat)), (6, .row rs.length (intsD (natsI (cl rs)))), (1, rowI x)], []⟩) ?_ trivial ?_
    · have e0 : placeV (rs.take 0) (x.take 0) 0 = 0 := rfl
      exact Wk.go (fun b => b)
    · intro k hk _
      by_cases hk' : k < rs.length
      · have hkx : k < x.length := by omega
        have P := sPlace_ok (hv _ (List.getElem_mem hk')) (hall k hk' hkx)
        have g1 := hget k hk'
        have b1 := hlt (k + 1) (fun j h1 h2 _ => hall j h1 h2)
        rw [hstep k hk' hkx] at b1
        have b2 := Int.natCast_mul (placeV (rs.take k) (x.take k) 0) (cN rs[k])
        have s1 := hstep k hk' hkx
        rw [← g1] at b2
        repeat (first | refine Z1 ?_ | refine Z2 ?_ | (refine Z3 ?_; (repeat (first | (apply gS; first | refine go_f ?_ | refine gm ?_ | refine gp ?_ | refine go_c rfl rfl (P) ?_) | (apply gZ; first | refine go_f ?_ | refine gm ?_))); refine T_nil ?_) | (apply ZR; refine C_dr mixed ?_; (repeat (first | (apply vS; first | refine va ?_ | refine vp ?_ | refine vr ?_ | refine vt ?_ | refine vc (P) ?_) | (apply vZ; first | refine vs ?_))); refine W_e ?_) | (apply ZK; first | refine Z4 ?_ | refine Z5 ?_) | refine Z6 ?_ | refine Z7 ?_ | refine Z8 ?_ | refine Z9 ?_ | refine ZA ?_ | refine ZB ?_ | refine ZC ?_ | refine ZD ?_ | refine ZE ?_ | refine ZF ?_ | refine ZG ?_ | refine ZH ?_)
        refine kLoop_n ⟨hk', trivial, ?_⟩
        exact Wk.go (fun b => b)
      · obtain rfl : k = rs.length := by omega
        repeat (first | refine Z1 ?_ | refine Z2 ?_ | (refine Z3 ?_; (repeat (first | (apply gS; first | refine go_f ?_ | refine gm ?_ | refine gp ?_) | (apply gZ; first | refine go_f ?_ | refine gm ?_))); refine T_nil ?_) | (apply ZR; refine C_dr mixed ?_; (repeat (first | (apply vS; first | refine va ?_ | refine vp ?_ | refine vr ?_ | refine vt ?_) | (apply vZ; first | refine vs ?_))); refine W_e ?_) | (apply ZK; first | refine Z4 ?_ | refine Z5 ?_) | refine Z6 ?_ | refine Z7 ?_ | refine Z8 ?_ | refine Z9 ?_ | refine ZA ?_ | refine ZB ?_ | refine ZC ?_ | refine ZD ?_ | refine ZE ?_ | refine ZF ?_ | refine ZG ?_ | refine ZH ?_)
        repeat (first | refine kEnd_m ?_ | refine kEnd_f ?_)
        refine kEnd_g ?_ (by first | exact .inl rfl | exact .inr rfl)
        refine Sub.eq (by rw [List.take_length, ← hl, List.take_length]; rfl) rfl
  · rw [if_neg hin]
    have hex : ∃ k, ∃ h1 : k < rs.length, ∃ h2 : k < x.length, placeB (rowOf rs[k]) x[k] = false := by
      apply Classical.byContradiction
      intro hno
      exact hin ((inB_iff hl).2 fun k k1 k2 => by
        cases hb : placeB (rowOf rs[k]) x[k] with
        | true => rfl
        | false => exact absurd ⟨k, k1, k2, hb⟩ hno)
    obtain ⟨q0, hq0⟩ := hex
    obtain ⟨q, ⟨q1, q2, q3⟩, hmin⟩ := leastN (p := fun k => ∃ h1 : k < rs.length, ∃ h2 : k < x.length, placeB (rowOf rs[k]) x[k] = false) hq0
    have hall : ∀ j (h1 : j < rs.length) (h2 : j < x.length), j < q → placeB (rowOf rs[j]) x[j] = true := fun j h1 h2 hj => by
      cases hb : placeB (rowOf rs[j]) x[j] with
      | true => rfl
      | false => exact absurd ⟨h1, h2, hb⟩ (hmin j hj)
    clear hq0 hmin hin
    refine DC.of Try.func26 Try.ntmps26 Try.results26 rfl (by decide +kernel) rfl ?_
    repeat (first | refine Z1 ?_ | refine Z2 ?_ | (refine Z3 ?_; (repeat (first | (apply gS; first | refine go_f ?_ | refine gm ?_ | refine gp ?_ | refine go_c rfl rfl (C) ?_) | (apply gZ; first | refine go_f ?_ | refine gm ?_))); refine T_nil ?_) | (apply ZR; refine C_dr mixed ?_; (repeat (first | (apply vS; first | refine va ?_ | refine vp ?_ | refine vr ?_ | refine vt ?_ | refine vc (C) ?_) | (apply vZ; first | refine vs ?_))); refine W_e ?_) | (apply ZK; first | refine Z4 ?_ | refine Z5 ?_) | refine Z6 ?_ | refine Z7 ?_ | refine Z8 ?_ | refine Z9 ?_ | refine ZA ?_ | refine ZB ?_ | refine ZC ?_ | refine ZD ?_ | refine ZE ?_ | refine ZF ?_ | refine ZG ?_ | refine ZH ?_)
    refine C_count q (fun _ => True) (fun k => ⟨1, 58, [(32, iD k), (31, iD rs.length), (30, rowR rs), (9, iD (placeV (rs.take k) (x.take k) 0 : Nat)), (6, .row rs.length (intsD (natsI (cl rs)))), (1, rowI x)], []⟩) ?_ trivial ?_
    · have e0 : placeV (rs.take 0) (x.take 0) 0 = 0 := rfl
      exact Wk.go (fun b => b)
    · intro k hk _
      have hk' : k < rs.length := by omega
      have hkx : k < x.length := by omega
      by_cases hkq : k < q
      · have P := sPlace_ok (hv _ (List.getElem_mem hk')) (hall k hk' hkx hkq)
        have g1 := hget k hk'
        have b1 := hlt (k + 1) (fun j h1 h2 hj => hall j h1 h2 (by omega))
        rw [hstep k hk' hkx] at b1
        have b2 := Int.natCast_mul (placeV (rs.take k) (x.take k) 0) (cN rs[k])
        have s1 := hstep k hk' hkx
        rw [← g1] at b2
        repeat (first | refine Z1 ?_ | refine Z2 ?_ | (refine Z3 ?_; (repeat (first | (apply gS; first | refine go_f ?_ | refine gm ?_ | refine gp ?_ | refine go_c rfl rfl (P) ?_) | (apply gZ; first | refine go_f ?_ | refine gm ?_))); refine T_nil ?_) | (apply ZR; refine C_dr mixed ?_; (repeat (first | (apply vS; first | refine va ?_ | refine vp ?_ | refine vr ?_ | refine vt ?_ | refine vc (P) ?_) | (apply vZ; first | refine vs ?_))); refine W_e ?_) | (apply ZK; first | refine Z4 ?_ | refine Z5 ?_) | refine Z6 ?_ | refine Z7 ?_ | refine Z8 ?_ | refine Z9 ?_ | refine ZA ?_ | refine ZB ?_ | refine ZC ?_ | refine ZD ?_ | refine ZE ?_ | refine ZF ?_ | refine ZG ?_ | refine ZH ?_)
        refine kLoop_n ⟨hkq, trivial, ?_⟩
        exact Wk.go (fun b => b)
      · obtain rfl : k = q := by omega
        have P := sPlace_no (hv _ (List.getElem_mem hk')) q3
        repeat (first | refine Z1 ?_ | refine Z2 ?_ | (refine Z3 ?_; (repeat (first | (apply gS; first | refine go_f ?_ | refine gm ?_ | refine gp ?_ | refine go_c rfl rfl (P) ?_) | (apply gZ; first | refine go_f ?_ | refine gm ?_))); refine T_nil ?_) | (apply ZR; refine C_dr mixed ?_; (repeat (first | (apply vS; first | refine va ?_ | refine vp ?_ | refine vr ?_ | refine vt ?_ | refine vc (P) ?_) | (apply vZ; first | refine vs ?_))); refine W_e ?_) | (apply ZK; first | refine Z4 ?_ | refine Z5 ?_) | refine Z6 ?_ | refine Z7 ?_ | refine Z8 ?_ | refine Z9 ?_ | refine ZA ?_ | refine ZB ?_ | refine ZC ?_ | refine ZD ?_ | refine ZE ?_ | refine ZF ?_ | refine ZG ?_ | refine ZH ?_)
        repeat (first | refine kEnd_m ?_ | refine kEnd_f ?_)
        refine kEnd_g ?_ (by first | exact .inl rfl | exact .inr rfl)
        exact Sub.eq rfl rfl
def dHasRes (rs : List Rg) (x : List Int) : Bool × Int := if domB rs = true then (if x.length = rs.length then (inB rs x, 0) else (false, 2)) else (false, 40)
theorem dHas_d (rs : List Rg) (x : List Int) : DC Try.prog 33 [domD rs, rowI x] (.tup [bD (dHasRes rs x).1, iD (dHasRes rs x).2]) := by
  have P := dPlace_d rs x
  unfold dHasRes
  unfold dPlaceRes at P
  cases h : domB rs <;> rw [h] at P
  · refine DC.of Try.func33 Try.ntmps33 Try.results33 rfl (by decide +kernel) rfl ?_
    repeat (first | refine Z1 ?_ | refine Z2 ?_ | (refine Z3 ?_; (repeat (first | (apply gS; first | refine go_f ?_ | refine gm ?_ | refine gp ?_ | refine go_c rfl rfl (P) ?_))); refine T_nil ?_) | (apply ZK; first | refine Z4 ?_ | refine Z5 ?_) | refine Z6 ?_ | refine Z7 ?_ | refine ZF ?_)
    repeat (first | refine kEnd_m ?_ | refine kEnd_f ?_)
    refine kEnd_g ?_ (by first | exact .inl rfl | exact .inr rfl)
    exact Sub.eq rfl rfl
  rw [if_pos rfl] at P ⊢
  by_cases hl : x.length = rs.length
  · rw [if_pos hl] at P ⊢
    cases hb : inB rs x <;> rw [hb] at P
    all_goals
      refine DC.of Try.func33 Try.ntmps33 Try.results33 rfl (by decide +kernel) rfl ?_
      repeat (first | refine Z1 ?_ | refine Z2 ?_ | (refine Z3 ?_; (repeat (first | (apply gS; first | refine go_f ?_ | refine gm ?_ | refine gp ?_ | refine go_c rfl rfl (P) ?_))); refine T_nil ?_) | (apply ZK; first | refine Z4 ?_ | refine Z5 ?_) | refine Z6 ?_ | refine Z7 ?_ | refine ZF ?_)
      repeat (first | refine kEnd_m ?_ | refine kEnd_f ?_)
      refine kEnd_g ?_ (by first | exact .inl rfl | exact .inr rfl)
      exact Sub.eq rfl rfl
  · rw [if_neg hl] at P ⊢
    refine DC.of Try.func33 Try.ntmps33 Try.results33 rfl (by decide +kernel) rfl ?_
    repeat (first | refine Z1 ?_ | refine Z2 ?_ | (refine Z3 ?_; (repeat (first | (apply gS; first | refine go_f ?_ | refine gm ?_ | refine gp ?_ | refine go_c rfl rfl (P) ?_))); refine T_nil ?_) | (apply ZK; first | refine Z4 ?_ | refine Z5 ?_) | refine Z6 ?_ | refine Z7 ?_ | refine ZF ?_)
    repeat (first | refine kEnd_m ?_ | refine kEnd_f ?_)
    refine kEnd_g ?_ (by first | exact .inl rfl | exact .inr rfl)
    exact Sub.eq rfl rfl
end Go.Proofs.Ytifapodobhkdcaa
