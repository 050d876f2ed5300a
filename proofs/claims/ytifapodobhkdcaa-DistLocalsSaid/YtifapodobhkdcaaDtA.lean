/- The reference of layer 7: Local, Global, Load, by the abstract machine. -/
import Derived.Test.YtifapodobhkdcaaDs9
import Derived.Test.YtifapodobhkdcaaPcAt
namespace Go.Proofs.Ytifapodobhkdcaa
open Go.RowKit
set_option linter.unusedVariables false
set_option maxHeartbeats 16000000
set_option linter.unusedSimpArgs false
set_option maxRecDepth 100000
theorem rInd7_ok {k : Kd} {n o : Nat} (hk : OkDs k n o) {c0 : Rg} {ct : List Rg} (hs : SpOk c0 ct) (p : Nat) : DC Try.prog 75 [domsD (partsOf k n o c0 ct p)] (rowL2 (plX c0 ct (ow k n o (cN c0) p))) := by
  obtain ⟨x1, x2⟩ := partsOf_X hk hs p
  have := rIndexes7_d (partsOf k n o c0 ct p) (by have := parts_few hs k n o p; omega) x2
  rwa [x1] at this
/-! ### Load -/
def rldL (L : Nat → Nat) (o j : Nat) : List Int := (List.range o).map fun p => if p < j then ((L p : Nat) : Int) else 0
theorem rldL_len (L : Nat → Nat) (o j : Nat) : (intsD (rldL L o j)).length = o := by simp [intsD, rldL]
theorem rldL_step (L : Nat → Nat) {o j : Nat} (h : j < o) : intsD (rldL L o (j + 1)) = (intsD (rldL L o j)).set ((((j : Nat) : Int).toNat) * 1) (iD ((L j : Nat) : Int)) := by
  rw [Int.toNat_natCast, Nat.mul_one]
  have e := set_range (g := fun p => if p < j then ((L p : Nat) : Int) else 0) (g' := fun p => if p < j + 1 then ((L p : Nat) : Int) else 0) h (fun p hp hne => by
    by_cases h1 : p < j
    · rw [if_pos h1, if_pos (by omega)]
    · rw [if_neg h1, if_neg (by omega)])
  have e2 : rldL L o (j + 1) = (rldL L o j).set j (if j < j + 1 then ((L j : Nat) : Int) else 0) := e
  rw [e2, if_pos (Nat.lt_succ_self j)]
  unfold intsD
  rw [List.map_set]
theorem rldL_0 (L : Nat → Nat) (o : Nat) : intsD (rldL L o 0) = List.replicate o (iD 0) := by
  unfold rldL intsD
  rw [List.map_map, List.eq_replicate_iff]
  refine ⟨by simp, fun d hd => ?_⟩
  obtain ⟨i, _, rfl⟩ := List.mem_map.1 hd
  simp
theorem rldL_end (k : Kd) (n o : Nat) (c0 : Rg) (ct : List Rg) : rldL (fun p => (plX c0 ct (ow k n o (cN c0) p)).length) o o = loadsL k n o (cN c0) (iN c0 ct) := by
  unfold rldL loadsL loadJ
  refine List.map_congr_left fun p hp => ?_
  rw [if_pos (List.mem_range.1 hp)]
  dsimp only
  rw [pl_len, ow_cnt]
theorem rLoad7_bad {s : ByteArray} {n o : Int} {rs : List Rg} (h : errD s n o rs ≠ 0) : DC Try.prog 62 [dsD s n o, domD rs] (.tup [rowI [], iD (errD s n o rs)]) := by
  have B := rvalid7_d s n o rs
  generalize errD s n o rs = e at *
  refine DC.of Try.func62 Try.ntmps62 Try.results62 rfl (by decide +kernel) rfl ?_
  repeat (first | refine Z1 ?_ | refine Z2 ?_ | (refine Z3 ?_; (repeat (first | (apply gS; first | refine go_f ?_ | refine gx ?_ | refine gm ?_ | refine gp ?_ | refine go_c rfl rfl (B) ?_ | refine go_cF rfl rfl (B) ?_ | refine go_cA rfl rfl (B) ?_) | (apply gZ; first | refine go_f ?_ | refine gx ?_ | refine gm ?_))); refine T_nil ?_) | (apply ZK; first | refine Z4 ?_ | refine Z5 ?_) | refine Z6 ?_ | refine Z7 ?_ | refine Z8 ?_ | refine Z9 ?_ | refine ZA ?_ | refine ZB ?_ | refine ZC ?_ | refine ZD ?_ | refine ZE ?_ | refine ZF ?_ | refine ZG ?_ | refine ZH ?_)
  repeat (first | refine kEnd_m ?_ | refine kEnd_f ?_)
  refine kEnd_g ?_ (by first | exact .inl rfl | exact .inr rfl)
  exact Sub.tup (.cons Sub.nil (.cons (Sub.eq rfl rfl) .nil))
theorem rLoad7_ok {s : ByteArray} {k : Kd} {n o : Nat} (hk : Okd s k n o) {rs : List Rg} {c0 : Rg} {ct : List Rg} (hd : domB rs = true) (hc : canonRs rs = c0 :: ct) (hs : SpOk c0 ct) :
    DC Try.prog 62 [dsD s n o, domD rs] (.tup [rowI (loadsL k n o (cN c0) (iN c0 ct)), iD 0]) := by
  have B := rvalid7_d s n o rs
  rw [errD_0 hk hd] at B
  have h8 := hk.ok.o8
  have h1 := hk.ok.o1
  have hch : ∀ (p : Int) (ps : List (List Rg)), chD p ps = .agg [iD p, domsD ps] := fun _ _ => rfl
  have PS := fun p => rpiece7_d hk hd hc hs p
  have IX := fun p => rInd7_ok hk.ok hs p
  have hfew := fun p => pl_few hs k n o p
  have hE := rldL_end k n o c0 ct
  have hL : (loadsL k n o (cN c0) (iN c0 ct)).length = o := loadJ_len _ _ _ _ _ _
  rw [show rowI (loadsL k n o (cN c0) (iN c0 ct)) = .row o (intsD (loadsL k n o (cN c0) (iN c0 ct))) by show D.row _ _ = _; rw [hL], ← hE]
  obtain ⟨L, hLe⟩ : ∃ L : Nat → Nat, ∀ p, L p = (plX c0 ct (ow k n o (cN c0) p)).length := ⟨_, fun _ => rfl⟩
  rw [show (fun p => (plX c0 ct (ow k n o (cN c0) p)).length) = L from (funext hLe).symm]
  have hS := fun j (h : j < o) => rldL_step L h
  have hl := fun j => rldL_len L o j
  have h0 := rldL_0 L o
  simp only [hch] at PS
  clear hE hL hch
  generalize partsOf k n o c0 ct = P at *
  obtain ⟨X, hX⟩ : ∃ X : Nat → List (List Int), ∀ p, X p = plX c0 ct (ow k n o (cN c0) p) := ⟨_, fun _ => rfl⟩
  simp only [← hX] at IX hfew hLe
  clear hX
  refine DC.of Try.func62 Try.ntmps62 Try.results62 rfl (by decide +kernel) rfl ?_
  repeat (first | refine Z1 ?_ | refine Z2 ?_ | (refine Z3 ?_; (repeat (first | (apply gS; first | refine go_f ?_ | refine gx ?_ | refine gm ?_ | refine gp ?_ | refine go_c rfl rfl (B) ?_ | refine go_cF rfl rfl (B) ?_ | refine go_cA rfl rfl (B) ?_) | (apply gZ; first | refine go_f ?_ | refine gx ?_ | refine gm ?_))); refine T_nil ?_) | (apply ZK; first | refine Z4 ?_ | refine Z5 ?_) | refine Z6 ?_ | refine Z7 ?_ | refine Z8 ?_ | refine Z9 ?_ | refine ZA ?_ | refine ZB ?_ | refine ZC ?_ | refine ZD ?_ | refine ZE ?_ | refine ZF ?_ | refine ZG ?_ | refine ZH ?_)
  refine C_count o (fun _ => True) (fun m => ⟨3, 35, [(8, iD m), (7, .own 2 o), (2, .ptr 0 0), (3, .ptr 1 0)], [(0, some ⟨63, 3, 1, [sD s, iD n, iD o]⟩), (1, some ⟨24, 1, 1, [rowR rs]⟩), (2, some ⟨3, 1, o, intsD (rldL L o m)⟩)]⟩) ?_ trivial ?_
  · rw [h0]
    exact Wk.gx (fun b => b)
  · intro m hm _
    by_cases hlt : m < o
    · have C := PS m
      have I := IX m
      have en := hS m hlt
      have e1 := hl m
      have e2 := hLe m
      have e3 := hfew m
      rw [e2] at en
      clear hS PS IX hLe hl hfew h0
      generalize P m = ps at *
      generalize X m = xs at *
      repeat (first | refine Z1 ?_ | refine Z2 ?_ | (refine Z3 ?_; (repeat (first | (apply gS; first | refine go_f ?_ | refine gx ?_ | refine gm ?_ | refine gp ?_ | refine go_c rfl rfl (C) ?_ | refine go_cF rfl rfl (C) ?_ | refine go_cA rfl rfl (C) ?_ | refine go_c rfl rfl (I) ?_ | refine go_cF rfl rfl (I) ?_ | refine go_cA rfl rfl (I) ?_) | (apply gZ; first | refine go_f ?_ | refine gx ?_ | refine gm ?_))); refine T_nil ?_) | (apply ZK; first | refine Z4 ?_ | refine Z5 ?_) | refine Z6 ?_ | refine Z7 ?_ | refine Z8 ?_ | refine Z9 ?_ | refine ZA ?_ | refine ZB ?_ | refine ZC ?_ | refine ZD ?_ | refine ZE ?_ | refine ZF ?_ | refine ZG ?_ | refine ZH ?_)
      refine kLoop_n ⟨hlt, trivial, ?_⟩
      exact Wk.gx (fun b => b)
    · obtain rfl : m = o := by omega
      have e1 := hl m
      clear hS PS IX hLe hl hfew h0
      repeat (first | refine Z1 ?_ | refine Z2 ?_ | (refine Z3 ?_; (repeat (first | (apply gS; first | refine go_f ?_ | refine gx ?_ | refine gm ?_ | refine gp ?_) | (apply gZ; first | refine go_f ?_ | refine gx ?_ | refine gm ?_))); refine T_nil ?_) | (apply ZK; first | refine Z4 ?_ | refine Z5 ?_) | refine Z6 ?_ | refine Z7 ?_ | refine Z8 ?_ | refine Z9 ?_ | refine ZA ?_ | refine ZB ?_ | refine ZC ?_ | refine ZD ?_ | refine ZE ?_ | refine ZF ?_ | refine ZG ?_ | refine ZH ?_)
      repeat (first | refine kEnd_m ?_ | refine kEnd_f ?_)
      refine kEnd_g ?_ (by first | exact .inl rfl | exact .inr rfl)
      exact Sub.eq rfl rfl
/-! ### Local -/
theorem rLocal7_bad {s : ByteArray} {n o : Int} {rs : List Rg} (h : errD s n o rs ≠ 0) (x : List Int) : DC Try.prog 66 [dsD s n o, domD rs, rowI x] (.tup [iD 0, iD (errD s n o rs)]) := by
  have B := rOwner7_bad h x
  generalize errD s n o rs = e at *
  refine DC.of Try.func66 Try.ntmps66 Try.results66 rfl (by decide +kernel) rfl ?_
  repeat (first | refine Z1 ?_ | refine Z2 ?_ | (refine Z3 ?_; (repeat (first | (apply gS; first | refine go_f ?_ | refine gx ?_ | refine gm ?_ | refine gp ?_ | refine go_c rfl rfl (B) ?_ | refine go_cF rfl rfl (B) ?_ | refine go_cA rfl rfl (B) ?_))); refine T_nil ?_) | (apply ZK; first | refine Z4 ?_ | refine Z5 ?_) | refine Z6 ?_ | refine Z7 ?_ | refine Z8 ?_ | refine Z9 ?_ | refine ZA ?_ | refine ZB ?_ | refine ZC ?_ | refine ZD ?_ | refine ZE ?_ | refine ZF ?_ | refine ZG ?_ | refine ZH ?_)
  repeat (first | refine kEnd_m ?_ | refine kEnd_f ?_)
  refine kEnd_g ?_ (by first | exact .inl rfl | exact .inr rfl)
  exact Sub.eq rfl rfl
theorem rLocal7_d {s : ByteArray} {k : Kd} {n o : Nat} (hk : Okd s k n o) {rs : List Rg} {c0 : Rg} {ct : List Rg} (hd : domB rs = true) (hc : canonRs rs = c0 :: ct) (hs : SpOk c0 ct) (x : List Int) :
    DC Try.prog 66 [dsD s n o, domD rs, rowI x] (.tup [iD (locV k n o c0 ct x), iD (findRes c0 ct x).2]) := by
  have O := rOwner7_d hk hd hc hs x
  by_cases hf : (findRes c0 ct x).2 = 0
  · obtain ⟨f1, f2, f3, f4⟩ := find_lt hs hf
    obtain ⟨b1, b2, b3⟩ := place_bd hs f3
    have hx : ithX (c0 :: ct) (placeV (c0 :: ct) x 0) = x := ((place_iff (domB_iff.1 hs.dom).2.1).1 f3).2
    have hv : ownV k n o c0 ct x = own k n o (cN c0) (placeV (c0 :: ct) x 0 / iN c0 ct) := by unfold ownV; rw [if_pos hf, f4]
    obtain ⟨p1, p2, p3⟩ := at_piece hk.ok hs b1 hv.symm
    unfold locN at p1 p2 p3
    simp only [hx] at p1 p2 p3
    rw [hf] at O ⊢
    have hfew := pl_few hs k n o (ownV k n o c0 ct x)
    have PS := rpiece7_d hk hd hc hs (ownV k n o c0 ct x)
    have IX := rInd7_ok hk.ok hs (ownV k n o c0 ct x)
    have hch : ∀ (p : Int) (ps : List (List Rg)), chD p ps = .agg [iD p, domsD ps] := fun _ _ => rfl
    rw [hch] at PS
    have hlx : x.length ≤ 10 := by rw [f2]; have := (domB_iff.1 hs.dom).1.2; omega
    have SI := fun r (hr : r < (plX c0 ct (ow k n o (cN c0) (ownV k n o c0 ct x))).length) => sameInts_d (plX c0 ct (ow k n o (cN c0) (ownV k n o c0 ct x)))[r] x (by
      obtain ⟨a, a1, a2, a3, a4⟩ := piece_at hk.ok hs hr
      rw [a2, (at_find hs a1).1]
      have := (domB_iff.1 hs.dom).1.2
      omega)
    obtain ⟨q, hq, p1, p2, p3⟩ : ∃ q, q = locV k n o c0 ct x ∧ ∃ h : q < (plX c0 ct (ow k n o (cN c0) (ownV k n o c0 ct x))).length, (plX c0 ct (ow k n o (cN c0) (ownV k n o c0 ct x)))[q] = x ∧
        ∀ r (hr : r < (plX c0 ct (ow k n o (cN c0) (ownV k n o c0 ct x))).length), r < q → (plX c0 ct (ow k n o (cN c0) (ownV k n o c0 ct x)))[r] ≠ x := ⟨_, rfl, p1, p2, p3⟩
    rw [← hq]
    clear hv f4 hf hch hq
    generalize partsOf k n o c0 ct (ownV k n o c0 ct x) = ps at *
    generalize plX c0 ct (ow k n o (cN c0) (ownV k n o c0 ct x)) = X at *
    generalize ownV k n o c0 ct x = p at *
    refine DC.of Try.func66 Try.ntmps66 Try.results66 rfl (by decide +kernel) rfl ?_
    repeat (first | refine Z1 ?_ | refine Z2 ?_ | (refine Z3 ?_; (repeat (first | (apply gS; first | refine go_f ?_ | refine gx ?_ | refine gm ?_ | refine gp ?_ | refine go_c rfl rfl (O) ?_ | refine go_cF rfl rfl (O) ?_ | refine go_cA rfl rfl (O) ?_ | refine go_c rfl rfl (PS) ?_ | refine go_cF rfl rfl (PS) ?_ | refine go_cA rfl rfl (PS) ?_ | refine go_c rfl rfl (IX) ?_ | refine go_cF rfl rfl (IX) ?_ | refine go_cA rfl rfl (IX) ?_))); refine T_nil ?_) | (apply ZK; first | refine Z4 ?_ | refine Z5 ?_) | refine Z6 ?_ | refine Z7 ?_ | refine Z8 ?_ | refine Z9 ?_ | refine ZA ?_ | refine ZB ?_ | refine ZC ?_ | refine ZD ?_ | refine ZE ?_ | refine ZF ?_ | refine ZG ?_ | refine ZH ?_)
    refine C_count q (fun _ => True) (fun m => ⟨2, 41, [(11, iD m), (10, rowL2 X), (2, rowI x), (3, .ptr 0 0), (4, .ptr 1 0)], [(0, some ⟨63, 3, 1, [sD s, iD n, iD o]⟩), (1, some ⟨24, 1, 1, [rowR rs]⟩)]⟩) ?_ trivial ?_
    · exact Wk.gx (fun b => b)
    · intro m hm _
      by_cases hlt : m < q
      · have S := SI m (by omega)
        rw [decide_eq_false (p3 m (by omega) hlt)] at S
        clear SI p3
        repeat (first | refine Z1 ?_ | refine Z2 ?_ | (refine Z3 ?_; (repeat (first | (apply gS; first | refine go_f ?_ | refine gx ?_ | refine gm ?_ | refine gp ?_ | refine go_c rfl rfl (S) ?_ | refine go_cF rfl rfl (S) ?_ | refine go_cA rfl rfl (S) ?_))); refine T_nil ?_) | (apply ZK; first | refine Z4 ?_ | refine Z5 ?_) | refine Z6 ?_ | refine Z7 ?_ | refine Z8 ?_ | refine Z9 ?_ | refine ZA ?_ | refine ZB ?_ | refine ZC ?_ | refine ZD ?_ | refine ZE ?_ | refine ZF ?_ | refine ZG ?_ | refine ZH ?_)
        refine kLoop_n ⟨hlt, trivial, ?_⟩
        exact Wk.gx (fun b => b)
      · obtain rfl : m = q := by omega
        have S := SI m p1
        rw [decide_eq_true p2] at S
        clear SI p3
        repeat (first | refine Z1 ?_ | refine Z2 ?_ | (refine Z3 ?_; (repeat (first | (apply gS; first | refine go_f ?_ | refine gx ?_ | refine gm ?_ | refine gp ?_ | refine go_c rfl rfl (S) ?_ | refine go_cF rfl rfl (S) ?_ | refine go_cA rfl rfl (S) ?_))); refine T_nil ?_) | (apply ZK; first | refine Z4 ?_ | refine Z5 ?_) | refine Z6 ?_ | refine Z7 ?_ | refine Z8 ?_ | refine Z9 ?_ | refine ZA ?_ | refine ZB ?_ | refine ZC ?_ | refine ZD ?_ | refine ZE ?_ | refine ZF ?_ | refine ZG ?_ | refine ZH ?_)
        repeat (first | refine kEnd_m ?_ | refine kEnd_f ?_)
        refine kEnd_g ?_ (by first | exact .inl rfl | exact .inr rfl)
        exact Sub.eq rfl rfl
  · have hv : locV k n o c0 ct x = 0 := by unfold locV; rw [if_neg hf]
    rw [hv]
    generalize ownV k n o c0 ct x = w at *
    generalize (findRes c0 ct x).2 = e at *
    refine DC.of Try.func66 Try.ntmps66 Try.results66 rfl (by decide +kernel) rfl ?_
    repeat (first | refine Z1 ?_ | refine Z2 ?_ | (refine Z3 ?_; (repeat (first | (apply gS; first | refine go_f ?_ | refine gx ?_ | refine gm ?_ | refine gp ?_ | refine go_c rfl rfl (O) ?_ | refine go_cF rfl rfl (O) ?_ | refine go_cA rfl rfl (O) ?_))); refine T_nil ?_) | (apply ZK; first | refine Z4 ?_ | refine Z5 ?_) | refine Z6 ?_ | refine Z7 ?_ | refine Z8 ?_ | refine Z9 ?_ | refine ZA ?_ | refine ZB ?_ | refine ZC ?_ | refine ZD ?_ | refine ZE ?_ | refine ZF ?_ | refine ZG ?_ | refine ZH ?_)
    repeat (first | refine kEnd_m ?_ | refine kEnd_f ?_)
    refine kEnd_g ?_ (by first | exact .inl rfl | exact .inr rfl)
    exact Sub.eq rfl rfl
/-! ### Global -/
theorem rGlobal7_bad {s : ByteArray} {n o : Int} {rs : List Rg} (h : errD s n o rs ≠ 0) (p q : Int) : DC Try.prog 68 [dsD s n o, domD rs, iD p, iD q] (.tup [rowI [], iD (errD s n o rs)]) := by
  have B := rvalid7_d s n o rs
  generalize errD s n o rs = e at *
  refine DC.of Try.func68 Try.ntmps68 Try.results68 rfl (by decide +kernel) rfl ?_
  repeat (first | refine Z1 ?_ | refine Z2 ?_ | (refine Z3 ?_; (repeat (first | (apply gS; first | refine go_no ?_ | refine go_f ?_ | refine gx ?_ | refine gm ?_ | refine gp ?_ | refine go_c rfl rfl (B) ?_ | refine go_cF rfl rfl (B) ?_ | refine go_cA rfl rfl (B) ?_))); refine T_nil ?_) | (apply ZK; first | refine Z4 ?_ | refine Z5 ?_) | refine Z6 ?_ | refine Z7 ?_ | refine ZF ?_)
  repeat (first | refine kEnd_m ?_ | refine kEnd_f ?_)
  refine kEnd_g ?_ (by first | exact .inl rfl | exact .inr rfl)
  exact Sub.tup (.cons Sub.nil (.cons (Sub.eq rfl rfl) .nil))
theorem rGlobal7_no {s : ByteArray} {k : Kd} {n o : Nat} (hk : Okd s k n o) {rs : List Rg} (hd : domB rs = true) (p q : Int) (hp : ¬ (0 ≤ p ∧ p < o ∧ 0 ≤ q)) :
    DC Try.prog 68 [dsD s n o, domD rs, iD p, iD q] (.tup [rowI [], iD 2]) := by
  have B := rvalid7_d s n o rs
  rw [errD_0 hk hd] at B
  by_cases h0 : p < 0
  · refine DC.of Try.func68 Try.ntmps68 Try.results68 rfl (by decide +kernel) rfl ?_
    repeat (first | refine Z1 ?_ | refine Z2 ?_ | (refine Z3 ?_; (repeat (first | (apply gS; first | refine go_no ?_ | refine go_f ?_ | refine gx ?_ | refine gm ?_ | refine gp ?_ | refine go_c rfl rfl (B) ?_ | refine go_cF rfl rfl (B) ?_ | refine go_cA rfl rfl (B) ?_))); refine T_nil ?_) | (apply ZK; first | refine Z4 ?_ | refine Z5 ?_) | refine Z6 ?_ | refine Z7 ?_ | refine ZF ?_)
    repeat (first | refine kEnd_m ?_ | refine kEnd_f ?_)
    refine kEnd_g ?_ (by first | exact .inl rfl | exact .inr rfl)
    exact Sub.tup (.cons Sub.nil (.cons (Sub.eq rfl rfl) .nil))
  by_cases h1 : (o : Int) ≤ p
  · refine DC.of Try.func68 Try.ntmps68 Try.results68 rfl (by decide +kernel) rfl ?_
    repeat (first | refine Z1 ?_ | refine Z2 ?_ | (refine Z3 ?_; (repeat (first | (apply gS; first | refine go_no ?_ | refine go_f ?_ | refine gx ?_ | refine gm ?_ | refine gp ?_ | refine go_c rfl rfl (B) ?_ | refine go_cF rfl rfl (B) ?_ | refine go_cA rfl rfl (B) ?_))); refine T_nil ?_) | (apply ZK; first | refine Z4 ?_ | refine Z5 ?_) | refine Z6 ?_ | refine Z7 ?_ | refine ZF ?_)
    repeat (first | refine kEnd_m ?_ | refine kEnd_f ?_)
    refine kEnd_g ?_ (by first | exact .inl rfl | exact .inr rfl)
    exact Sub.tup (.cons Sub.nil (.cons (Sub.eq rfl rfl) .nil))
  · have h2 : q < 0 := by omega
    refine DC.of Try.func68 Try.ntmps68 Try.results68 rfl (by decide +kernel) rfl ?_
    repeat (first | refine Z1 ?_ | refine Z2 ?_ | (refine Z3 ?_; (repeat (first | (apply gS; first | refine go_no ?_ | refine go_f ?_ | refine gx ?_ | refine gm ?_ | refine gp ?_ | refine go_c rfl rfl (B) ?_ | refine go_cF rfl rfl (B) ?_ | refine go_cA rfl rfl (B) ?_))); refine T_nil ?_) | (apply ZK; first | refine Z4 ?_ | refine Z5 ?_) | refine Z6 ?_ | refine Z7 ?_ | refine ZF ?_)
    repeat (first | refine kEnd_m ?_ | refine kEnd_f ?_)
    refine kEnd_g ?_ (by first | exact .inl rfl | exact .inr rfl)
    exact Sub.tup (.cons Sub.nil (.cons (Sub.eq rfl rfl) .nil))
theorem rGlobal7_none {s : ByteArray} {k : Kd} {n o : Nat} (hk : Okd s k n o) {rs : List Rg} {c0 : Rg} {ct : List Rg} (hd : domB rs = true) (hc : canonRs rs = c0 :: ct) (hs : SpOk c0 ct) (p q : Nat) (hp : p < o) (hq : (plX c0 ct (ow k n o (cN c0) p)).length ≤ q) :
    DC Try.prog 68 [dsD s n o, domD rs, iD p, iD q] (.tup [rowI [], iD 5]) := by
  have B := rvalid7_d s n o rs
  rw [errD_0 hk hd] at B
  have PS := rpiece7_d hk hd hc hs p
  have IX := rInd7_ok hk.ok hs p
  have hch : ∀ (p : Int) (ps : List (List Rg)), chD p ps = .agg [iD p, domsD ps] := fun _ _ => rfl
  rw [hch] at PS
  clear hch
  generalize partsOf k n o c0 ct p = ps at *
  generalize plX c0 ct (ow k n o (cN c0) p) = X at *
  refine DC.of Try.func68 Try.ntmps68 Try.results68 rfl (by decide +kernel) rfl ?_
  repeat (first | refine Z1 ?_ | refine Z2 ?_ | (refine Z3 ?_; (repeat (first | (apply gS; first | refine go_no ?_ | refine go_f ?_ | refine gx ?_ | refine gm ?_ | refine gp ?_ | refine go_c rfl rfl (B) ?_ | refine go_cF rfl rfl (B) ?_ | refine go_cA rfl rfl (B) ?_ | refine go_c rfl rfl (PS) ?_ | refine go_cF rfl rfl (PS) ?_ | refine go_cA rfl rfl (PS) ?_ | refine go_c rfl rfl (IX) ?_ | refine go_cF rfl rfl (IX) ?_ | refine go_cA rfl rfl (IX) ?_))); refine T_nil ?_) | (apply ZK; first | refine Z4 ?_ | refine Z5 ?_) | refine Z6 ?_ | refine Z7 ?_ | refine ZF ?_)
  repeat (first | refine kEnd_m ?_ | refine kEnd_f ?_)
  refine kEnd_g ?_ (by first | exact .inl rfl | exact .inr rfl)
  exact Sub.tup (.cons Sub.nil (.cons (Sub.eq rfl rfl) .nil))
theorem rGlobal7_ok {s : ByteArray} {k : Kd} {n o : Nat} (hk : Okd s k n o) {rs : List Rg} {c0 : Rg} {ct : List Rg} (hd : domB rs = true) (hc : canonRs rs = c0 :: ct) (hs : SpOk c0 ct) (p q : Nat) (hp : p < o) (hq : q < (plX c0 ct (ow k n o (cN c0) p)).length) :
    DC Try.prog 68 [dsD s n o, domD rs, iD p, iD q] (.tup [rowI (plX c0 ct (ow k n o (cN c0) p))[q], iD 0]) := by
  have B := rvalid7_d s n o rs
  rw [errD_0 hk hd] at B
  have PS := rpiece7_d hk hd hc hs p
  have IX := rInd7_ok hk.ok hs p
  have hfew := pl_few hs k n o p
  have hch : ∀ (p : Int) (ps : List (List Rg)), chD p ps = .agg [iD p, domsD ps] := fun _ _ => rfl
  rw [hch] at PS
  clear hch
  generalize partsOf k n o c0 ct p = ps at *
  generalize plX c0 ct (ow k n o (cN c0) p) = X at *
  refine DC.of Try.func68 Try.ntmps68 Try.results68 rfl (by decide +kernel) rfl ?_
  repeat (first | refine Z1 ?_ | refine Z2 ?_ | (refine Z3 ?_; (repeat (first | (apply gS; first | refine go_no ?_ | refine go_f ?_ | refine gx ?_ | refine gm ?_ | refine gp ?_ | refine go_c rfl rfl (B) ?_ | refine go_cF rfl rfl (B) ?_ | refine go_cA rfl rfl (B) ?_ | refine go_c rfl rfl (PS) ?_ | refine go_cF rfl rfl (PS) ?_ | refine go_cA rfl rfl (PS) ?_ | refine go_c rfl rfl (IX) ?_ | refine go_cF rfl rfl (IX) ?_ | refine go_cA rfl rfl (IX) ?_))); refine T_nil ?_) | (apply ZK; first | refine Z4 ?_ | refine Z5 ?_) | refine Z6 ?_ | refine Z7 ?_ | refine ZF ?_)
  repeat (first | refine kEnd_m ?_ | refine kEnd_f ?_)
  refine kEnd_g ?_ (by first | exact .inl rfl | exact .inr rfl)
  exact Sub.eq rfl rfl
/-- what the program's Global finds is the index of the piece -/
theorem glob_pl {k : Kd} {n o : Nat} (hk : OkDs k n o) {c0 : Rg} {ct : List Rg} (hs : SpOk c0 ct) (p q : Nat) : (globB k n o c0 ct p q ↔ q < (plX c0 ct (ow k n o (cN c0) p)).length) ∧ ∀ h : q < (plX c0 ct (ow k n o (cN c0) p)).length, (plX c0 ct (ow k n o (cN c0) p))[q] = globX k n o c0 ct p q := by
  have hiff : globB k n o c0 ct p q ↔ q < (plX c0 ct (ow k n o (cN c0) p)).length := by
    rw [pl_len]
    unfold globB
    constructor
    · rintro ⟨h1, h2⟩
      exact (Nat.div_lt_iff_lt_mul (Nat.pos_of_ne_zero h1)).1 h2
    · intro h
      have h0 : iN c0 ct ≠ 0 := fun e => by rw [e, Nat.mul_zero] at h; omega
      exact ⟨h0, (Nat.div_lt_iff_lt_mul (Nat.pos_of_ne_zero h0)).2 h⟩
  refine ⟨hiff, fun h => ?_⟩
  obtain ⟨h0, h1⟩ := hiff.2 h
  have hlt : ∀ j ∈ ow k n o (cN c0) p, j < cN c0 := fun j hj => ow_lt j hj
  have hz : cN c0 ≠ 0 := fun e => by have := hlt _ (List.getElem_mem h1); omega
  have e : iN c0 ct = prodN (cl ct) := by unfold iN; rw [if_neg hz]
  have hW : 0 < prodN (cl ct) := by omega
  have hm := Nat.mod_lt q hW
  have h1' : q / prodN (cl ct) < (ow k n o (cN c0) p).length := by rw [← e]; exact h1
  have g := plX_get hlt h1' hm
  have hdm : q / prodN (cl ct) * prodN (cl ct) + q % prodN (cl ct) = q := by rw [Nat.mul_comm]; exact Nat.div_add_mod _ _
  rw [hdm] at g
  unfold globX
  rw [e, getD_at h1']
  exact (List.getElem?_eq_some_iff.1 g).2
end Go.Proofs.Ytifapodobhkdcaa
