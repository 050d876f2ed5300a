/- The law StreamFills returns true for every input: the numbers for all indexes of a domain, and for those that a place owns. -/
import Derived.Test.YtifapodobhkdcaaStE
import Derived.Test.YtifapodobhkdcaaDs9
import Derived.Test.YtifapodobhkdcaaCameA
namespace Go.Proofs.Ytifapodobhkdcaa.streamFills
open Go.RowKit Go.Proofs.Ytifapodobhkdcaa
set_option linter.unusedVariables false
set_option maxHeartbeats 16000000
set_option linter.unusedSimpArgs false
set_option maxRecDepth 100000
theorem rbelow_d (seed n m : Int) (h1 : 1 ≤ m) (h2 : m ≤ 2147483648) : DC Try.prog 153 [iD seed, iD n, iD m] (iD (belowV seed n m)) :=
  DC.int3 ⟨Try.f153, by kernel_rfl, by kernel_rfl, by kernel_rfl⟩ rfl (fun w => refBelow0_calls seed n m h1 h2 w)
/-! ### Fill -/
theorem rFill_bad (seed m : Int) {rs : List Rg} (h : domB rs = false) : DC Try.prog 92 [iD seed, domD rs, iD m] (.tup [rowI [], iD 40]) := by
  have V := rdValid_b rs (b := domB rs) rfl
  rw [h] at V
  refine DC.of Try.func92 Try.ntmps92 Try.results92 rfl (by decide +kernel) rfl ?_
  repeat (first | refine Z1 ?_ | refine Z2 ?_ | (refine Z3 ?_; (repeat (first | (apply gS; first | refine go_no ?_ | refine go_f ?_ | refine gx ?_ | refine gm ?_ | refine gp ?_ | refine go_c rfl rfl (V) ?_ | refine go_cF rfl rfl (V) ?_ | refine go_cA rfl rfl (V) ?_))); refine T_nil ?_) | (apply ZK; first | refine Z4 ?_ | refine Z5 ?_) | refine Z6 ?_ | refine Z7 ?_ | refine Z8 ?_ | refine Z9 ?_ | refine ZA ?_ | refine ZB ?_ | refine ZC ?_ | refine ZD ?_ | refine ZE ?_ | refine ZF ?_ | refine ZG ?_ | refine ZH ?_)
  repeat (first | refine kEnd_m ?_ | refine kEnd_f ?_)
  refine kEnd_g ?_ (by first | exact .inl rfl | exact .inr rfl)
  exact Sub.tup (.cons Sub.nil (.cons (Sub.eq rfl rfl) .nil))
theorem rFill_no (seed m : Int) {rs : List Rg} (h : domB rs = true) (hm : ¬ mOk m) : DC Try.prog 92 [iD seed, domD rs, iD m] (.tup [rowI [], iD 2]) := by
  have V := rdValid_b rs (b := domB rs) rfl
  rw [h] at V
  unfold mOk at hm
  by_cases h1 : m < 1
  all_goals
    refine DC.of Try.func92 Try.ntmps92 Try.results92 rfl (by decide +kernel) rfl ?_
    repeat (first | refine Z1 ?_ | refine Z2 ?_ | (refine Z3 ?_; (repeat (first | (apply gS; first | refine go_no ?_ | refine go_f ?_ | refine gx ?_ | refine gm ?_ | refine gp ?_ | refine go_c rfl rfl (V) ?_ | refine go_cF rfl rfl (V) ?_ | refine go_cA rfl rfl (V) ?_))); refine T_nil ?_) | (apply ZK; first | refine Z4 ?_ | refine Z5 ?_) | refine Z6 ?_ | refine Z7 ?_ | refine Z8 ?_ | refine Z9 ?_ | refine ZA ?_ | refine ZB ?_ | refine ZC ?_ | refine ZD ?_ | refine ZE ?_ | refine ZF ?_ | refine ZG ?_ | refine ZH ?_)
    repeat (first | refine kEnd_m ?_ | refine kEnd_f ?_)
    refine kEnd_g ?_ (by first | exact .inl rfl | exact .inr rfl)
    exact Sub.tup (.cons Sub.nil (.cons (Sub.eq rfl rfl) .nil))
theorem rFill_ok (seed m : Int) {rs : List Rg} (h : domB rs = true) (hm : mOk m) : DC Try.prog 92 [iD seed, domD rs, iD m] (.tup [rowI (fillL seed m (cnt rs)), iD 0]) := by
  have V := rdValid_b rs (b := domB rs) rfl
  rw [h] at V
  have C := rdCount_d rs
  rw [show dCountRes rs = (((cnt rs : Nat) : Int), 0) from if_pos h] at C
  dsimp only at C
  obtain ⟨m1, m2⟩ := hm
  have hB := fun i => rbelow_d seed i m m1 m2
  have hc : cnt rs ≤ 4096 := (domB_iff.1 h).2.2
  have eo : rowI (fillL seed m (cnt rs)) = .row (cnt rs) (intsD (fillL seed m (cnt rs))) := by show D.row _ _ = _; rw [fillL_len]
  have hS : ∀ i, intsD (fillL seed m (i + 1)) = intsD (fillL seed m i) ++ [iD (belowV seed (i : Nat) m)] := fun i => by
    unfold fillL
    rw [List.range_succ]; simp [intsD]
  have h0 : intsD (fillL seed m 0) = [] := rfl
  rw [eo]
  generalize cnt rs = N at *
  refine DC.of Try.func92 Try.ntmps92 Try.results92 rfl (by decide +kernel) rfl ?_
  repeat (first | refine Z1 ?_ | refine Z2 ?_ | (refine Z3 ?_; (repeat (first | (apply gS; first | refine go_no ?_ | refine go_f ?_ | refine gx ?_ | refine gm ?_ | refine gp ?_ | refine go_c rfl rfl (V) ?_ | refine go_cF rfl rfl (V) ?_ | refine go_cA rfl rfl (V) ?_ | refine go_c rfl rfl (C) ?_ | refine go_cF rfl rfl (C) ?_ | refine go_cA rfl rfl (C) ?_))); refine T_nil ?_) | (apply ZK; first | refine Z4 ?_ | refine Z5 ?_) | refine Z6 ?_ | refine Z7 ?_ | refine Z8 ?_ | refine Z9 ?_ | refine ZA ?_ | refine ZB ?_ | refine ZC ?_ | refine ZD ?_ | refine ZE ?_ | refine ZF ?_ | refine ZG ?_ | refine ZH ?_)
  refine C_count N (fun _ => True) (fun i => ⟨2, 41, [(11, iD i), (8, iD N), (10, .own 1 i), (0, iD seed), (2, iD m)], [(1, some ⟨3, 1, i, intsD (fillL seed m i)⟩)]⟩) ?_ trivial ?_
  · rw [h0]
    refine Wk.trans (Wk.adoptT 10 3 1 rfl) ?_
    exact Wk.gx (fun b => b)
  · intro i hi _
    by_cases hlt : i < N
    · have B := hB (i : Nat)
      have s := hS i
      clear hS hB
      generalize belowV seed (i : Nat) m = v at *
      repeat (first | refine Z1 ?_ | refine Z2 ?_ | (refine Z3 ?_; (repeat (first | (apply gS; first | refine go_no ?_ | refine go_f ?_ | refine gx ?_ | refine gm ?_ | refine gp ?_ | refine go_c rfl rfl (B) ?_ | refine go_cF rfl rfl (B) ?_ | refine go_cA rfl rfl (B) ?_))); refine T_nil ?_) | (apply ZK; first | refine Z4 ?_ | refine Z5 ?_) | refine Z6 ?_ | refine Z7 ?_ | refine Z8 ?_ | refine Z9 ?_ | refine ZA ?_ | refine ZB ?_ | refine ZC ?_ | refine ZD ?_ | refine ZE ?_ | refine ZF ?_ | refine ZG ?_ | refine ZH ?_)
      refine kLoop_n ⟨hlt, trivial, ?_⟩
      exact Wk.gx (fun b => cond (Nat.beq b 1) 2 (b))
    · obtain rfl : i = N := by omega
      repeat (first | refine Z1 ?_ | refine Z2 ?_ | (refine Z3 ?_; (repeat (first | (apply gS; first | refine go_no ?_ | refine go_f ?_ | refine gx ?_ | refine gm ?_ | refine gp ?_))); refine T_nil ?_) | (apply ZK; first | refine Z4 ?_ | refine Z5 ?_) | refine Z6 ?_ | refine Z7 ?_ | refine Z8 ?_ | refine Z9 ?_ | refine ZA ?_ | refine ZB ?_ | refine ZC ?_ | refine ZD ?_ | refine ZE ?_ | refine ZF ?_ | refine ZG ?_ | refine ZH ?_)
      repeat (first | refine kEnd_m ?_ | refine kEnd_f ?_)
      refine kEnd_g ?_ (by first | exact .inl rfl | exact .inr rfl)
      exact Sub.eq rfl rfl
/-! ### FillAt -/
theorem rFillAt_bad (seed m : Int) {s : ByteArray} {n o : Int} {rs : List Rg} (h : errD s n o rs ≠ 0) (p : Int) : DC Try.prog 93 [iD seed, dsD s n o, domD rs, iD p, iD m] (.tup [rowI [], iD (errD s n o rs)]) := by
  have V := rValid7_d s n o
  have W := rdValid_b rs (b := domB rs) rfl
  unfold errD at h ⊢
  cases hv : vdB s n o
  · rw [hv] at V
    rw [if_neg (by decide)]
    refine DC.of Try.func93 Try.ntmps93 Try.results93 rfl (by decide +kernel) rfl ?_
    repeat (first | refine Z1 ?_ | refine Z2 ?_ | (refine Z3 ?_; (repeat (first | (apply gS; first | refine go_no ?_ | refine go_f ?_ | refine gx ?_ | refine gm ?_ | refine gp ?_ | refine go_c rfl rfl (V) ?_ | refine go_cF rfl rfl (V) ?_ | refine go_cA rfl rfl (V) ?_) | (apply gZ; first | refine go_f ?_ | refine gx ?_ | refine gm ?_))); refine T_nil ?_) | (apply ZR; (try dsimp only [List.map_cons, List.map_nil]); refine C_dr mixed ?_; (repeat (first | (apply vS; first | refine vn ?_ | refine va ?_ | refine vp ?_ | refine vr ?_ | refine vt ?_ | refine vc (V) ?_ | refine vcF (V) ?_) | (apply vZ; first | refine vs ?_ | refine vw ?_))); refine W_e ?_) | (apply ZK; first | refine Z4 ?_ | refine Z5 ?_) | refine Z6 ?_ | refine Z7 ?_ | refine Z8 ?_ | refine Z9 ?_ | refine ZA ?_ | refine ZB ?_ | refine ZC ?_ | refine ZD ?_ | refine ZE ?_ | refine ZF ?_ | refine ZG ?_ | refine ZH ?_)
    repeat (first | refine kEnd_m ?_ | refine kEnd_f ?_)
    refine kEnd_g ?_ (by first | exact .inl rfl | exact .inr rfl)
    exact Sub.tup (.cons Sub.nil (.cons (Sub.eq rfl rfl) .nil))
  · rw [hv] at V
    cases hd : domB rs
    · rw [hd] at W
      rw [if_pos rfl, if_neg (by decide)]
      refine DC.of Try.func93 Try.ntmps93 Try.results93 rfl (by decide +kernel) rfl ?_
      repeat (first | refine Z1 ?_ | refine Z2 ?_ | (refine Z3 ?_; (repeat (first | (apply gS; first | refine go_no ?_ | refine go_f ?_ | refine gx ?_ | refine gm ?_ | refine gp ?_ | refine go_c rfl rfl (V) ?_ | refine go_cF rfl rfl (V) ?_ | refine go_cA rfl rfl (V) ?_ | refine go_c rfl rfl (W) ?_ | refine go_cF rfl rfl (W) ?_ | refine go_cA rfl rfl (W) ?_) | (apply gZ; first | refine go_f ?_ | refine gx ?_ | refine gm ?_))); refine T_nil ?_) | (apply ZR; (try dsimp only [List.map_cons, List.map_nil]); refine C_dr mixed ?_; (repeat (first | (apply vS; first | refine vn ?_ | refine va ?_ | refine vp ?_ | refine vr ?_ | refine vt ?_ | refine vc (V) ?_ | refine vcF (V) ?_ | refine vc (W) ?_ | refine vcF (W) ?_) | (apply vZ; first | refine vs ?_ | refine vw ?_))); refine W_e ?_) | (apply ZK; first | refine Z4 ?_ | refine Z5 ?_) | refine Z6 ?_ | refine Z7 ?_ | refine Z8 ?_ | refine Z9 ?_ | refine ZA ?_ | refine ZB ?_ | refine ZC ?_ | refine ZD ?_ | refine ZE ?_ | refine ZF ?_ | refine ZG ?_ | refine ZH ?_)
      repeat (first | refine kEnd_m ?_ | refine kEnd_f ?_)
      refine kEnd_g ?_ (by first | exact .inl rfl | exact .inr rfl)
      exact Sub.tup (.cons Sub.nil (.cons (Sub.eq rfl rfl) .nil))
    · rw [hv, hd] at h
      exact absurd rfl h
theorem rFillAt_no (seed m : Int) {s : ByteArray} {k : Kd} {n o : Nat} (hk : Okd s k n o) {rs : List Rg} (hd : domB rs = true) (p : Int) (hp : ¬ (0 ≤ p ∧ p < o ∧ mOk m)) :
    DC Try.prog 93 [iD seed, dsD s n o, domD rs, iD p, iD m] (.tup [rowI [], iD 2]) := by
  have V := rValid7_d s n o
  have W := rdValid_b rs (b := domB rs) rfl
  rw [okd_v hk] at V
  rw [hd] at W
  unfold mOk at hp
  rcases (show p < 0 ∨ (0 ≤ p ∧ (o : Int) ≤ p) ∨ (0 ≤ p ∧ p < o ∧ m < 1) ∨ (0 ≤ p ∧ p < o ∧ 1 ≤ m ∧ 2147483648 < m) by omega) with h | ⟨h1, h2⟩ | ⟨h1, h2, h3⟩ | ⟨h1, h2, h3, h4⟩
  all_goals
    clear hp
    refine DC.of Try.func93 Try.ntmps93 Try.results93 rfl (by decide +kernel) rfl ?_
    repeat (first | refine Z1 ?_ | refine Z2 ?_ | (refine Z3 ?_; (repeat (first | (apply gS; first | refine go_no ?_ | refine go_f ?_ | refine gx ?_ | refine gm ?_ | refine gp ?_ | refine go_c rfl rfl (V) ?_ | refine go_cF rfl rfl (V) ?_ | refine go_cA rfl rfl (V) ?_ | refine go_c rfl rfl (W) ?_ | refine go_cF rfl rfl (W) ?_ | refine go_cA rfl rfl (W) ?_) | (apply gZ; first | refine go_f ?_ | refine gx ?_ | refine gm ?_))); refine T_nil ?_) | (apply ZR; (try dsimp only [List.map_cons, List.map_nil]); refine C_dr mixed ?_; (repeat (first | (apply vS; first | refine vn ?_ | refine va ?_ | refine vp ?_ | refine vr ?_ | refine vt ?_ | refine vc (V) ?_ | refine vcF (V) ?_ | refine vc (W) ?_ | refine vcF (W) ?_) | (apply vZ; first | refine vs ?_ | refine vw ?_))); refine W_e ?_) | (apply ZK; first | refine Z4 ?_ | refine Z5 ?_) | refine Z6 ?_ | refine Z7 ?_ | refine Z8 ?_ | refine Z9 ?_ | refine ZA ?_ | refine ZB ?_ | refine ZC ?_ | refine ZD ?_ | refine ZE ?_ | refine ZF ?_ | refine ZG ?_ | refine ZH ?_)
    repeat (first | refine kEnd_m ?_ | refine kEnd_f ?_)
    refine kEnd_g ?_ (by first | exact .inl rfl | exact .inr rfl)
    exact Sub.tup (.cons Sub.nil (.cons (Sub.eq rfl rfl) .nil))
set_option maxHeartbeats 16000000 in
theorem rFillAt_ok (seed m : Int) {s : ByteArray} {k : Kd} {n o : Nat} (hk : Okd s k n o) {rs : List Rg} {c0 : Rg} {ct : List Rg} (hd : domB rs = true) (hc : canonRs rs = c0 :: ct) (hs : SpOk c0 ct) (p : Nat) (hp : p < o) (hm : mOk m) :
    DC Try.prog 93 [iD seed, dsD s n o, domD rs, iD p, iD m] (.tup [rowI (fatL seed m rs (plX c0 ct (ow k n o (cN c0) p))), iD 0]) := by
  have V := rValid7_d s n o
  have W := rdValid_b rs (b := domB rs) rfl
  rw [okd_v hk] at V
  rw [hd] at W
  have B := rPiece7_ok hk hd hc hs p hp
  obtain ⟨m1, m2⟩ := hm
  have hB := fun i => rbelow_d seed i m m1 m2
  obtain ⟨x1, x2⟩ := partsOf_X hk.ok hs p
  have hlt : ∀ j ∈ ow k n o (cN c0) p, j < cN c0 := fun j hj => ow_lt j hj
  have hX : ∀ x ∈ allX (partsOf k n o c0 ct p), dPlaceRes rs x = (((placeV rs x 0 : Nat) : Int), 0) := fun x hx => by
    rw [x1] at hx
    obtain ⟨i, hi, rfl⟩ := plX_mem hlt hx
    have hz : cN c0 ≠ 0 := fun e => by rw [e, Nat.zero_mul] at hi; omega
    rw [← iN_eq hz] at hi
    obtain ⟨a, b⟩ := pl_place hd hc hs hi
    rw [a, b]
  have hlen : (allX (partsOf k n o c0 ct p)).length ≤ 4096 := by
    rw [x1, plX_len]
    have h1 := Nat.mul_le_mul_right (prodN (cl ct)) (ow_len k n o (cN c0) p)
    have h2 : cN c0 * prodN (cl ct) ≤ 4096 := (domB_iff.1 hs.dom).2.2
    omega
  rw [← x1]
  have hpl := parts_few hs k n o p
  have hch : ∀ (p : Int) (ps : List (List Rg)), chD p ps = .agg [iD p, domsD ps] := fun _ _ => rfl
  rw [hch] at B
  generalize partsOf k n o c0 ct p = ps at *
  have hP : ∀ x ∈ allX ps, DC Try.prog 96 [domD rs, rowI x] (.tup [iD ((placeV rs x 0 : Nat) : Int), iD 0]) := fun x hx => by
    have H := rdPlace_d rs x
    rwa [hX x hx] at H
  have hcut := fun k j (hk : k < ps.length) (hj : j < (idxs ps[k]).length) => allX_cut hk hj
  have hstep : ∀ r (h : r < (allX ps).length), intsD (fatL seed m rs ((allX ps).take (r + 1))) = intsD (fatL seed m rs ((allX ps).take r)) ++ [iD (belowV seed ((placeV rs (allX ps)[r] 0 : Nat) : Int) m)] := fun r h => by
    rw [List.take_succ_eq_append_getElem h]
    unfold fatL intsD
    rw [List.map_append, List.map_append]; rfl
  have hsn := fun k (hk : k < ps.length) => (allX_snoc hk).1
  have hend : (allX (ps.take ps.length)).length = (allX ps).length := by rw [List.take_length]
  have hz : (allX (ps.take 0)).length = 0 := rfl
  have h0 : intsD (fatL seed m rs ((allX ps).take 0)) = [] := rfl
  have hfin : (allX ps).take (allX ps).length = allX ps := List.take_length
  have hle : ∀ k, (allX (ps.take k)).length ≤ (allX ps).length := fun k => by
    have e2 : allX ps = allX (ps.take k) ++ allX (ps.drop k) := by
      unfold allX
      rw [← List.flatMap_append, List.take_append_drop]
    rw [e2, List.length_append]; omega
  have eo : rowI (fatL seed m rs (allX ps)) = .row (allX ps).length (intsD (fatL seed m rs (allX ps))) := by show D.row _ _ = _; rw [fatL_len]
  rw [eo]
  have hI := fun k (hk : k < ps.length) => rIndexes_ok (x2 _ (List.getElem_mem hk))
  clear hc hs hX x1 x2 hlt hd hch hk
  generalize allX ps = X at *
  obtain ⟨C, hC⟩ : ∃ C : Nat → Nat, ∀ k, C k = (allX (ps.take k)).length := ⟨_, fun _ => rfl⟩
  simp only [← hC] at hcut hsn hend hz hle
  clear hC
  obtain ⟨V', hV⟩ : ∃ V : Nat → List Int, ∀ r, V r = fatL seed m rs (X.take r) := ⟨_, fun _ => rfl⟩
  simp only [← hV] at hstep h0
  rw [show fatL seed m rs X = V' X.length by rw [hV, hfin]]
  clear hV hfin
  refine DC.of Try.func93 Try.ntmps93 Try.results93 rfl (by decide +kernel) rfl ?_
  repeat (first | refine Z1 ?_ | refine Z2 ?_ | (refine Z3 ?_; (repeat (first | (apply gS; first | refine go_no ?_ | refine go_f ?_ | refine gx ?_ | refine gm ?_ | refine gp ?_ | refine go_c rfl rfl (B) ?_ | refine go_cF rfl rfl (B) ?_ | refine go_cA rfl rfl (B) ?_ | refine go_c rfl rfl (W) ?_ | refine go_cF rfl rfl (W) ?_ | refine go_cA rfl rfl (W) ?_ | refine go_c rfl rfl (V) ?_ | refine go_cF rfl rfl (V) ?_ | refine go_cA rfl rfl (V) ?_) | (apply gZ; first | refine go_f ?_ | refine gx ?_ | refine gm ?_))); refine T_nil ?_) | (apply ZR; (try dsimp only [List.map_cons, List.map_nil]); refine C_dr mixed ?_; (repeat (first | (apply vS; first | refine vn ?_ | refine va ?_ | refine vp ?_ | refine vr ?_ | refine vt ?_ | refine vc (B) ?_ | refine vcF (B) ?_ | refine vc (W) ?_ | refine vcF (W) ?_ | refine vc (V) ?_ | refine vcF (V) ?_) | (apply vZ; first | refine vs ?_ | refine vw ?_))); refine W_e ?_) | (apply ZK; first | refine Z4 ?_ | refine Z5 ?_) | refine Z6 ?_ | refine Z7 ?_ | refine Z8 ?_ | refine Z9 ?_ | refine ZA ?_ | refine ZB ?_ | refine ZC ?_ | refine ZD ?_ | refine ZE ?_ | refine ZF ?_ | refine ZG ?_ | refine ZH ?_)
  refine C_count ps.length (fun _ => True) (fun q => ⟨4, 92, [(15, iD q), (12, .ptr 2 0), (14, .own 3 (C q)), (0, iD seed), (4, iD m), (7, .ptr 1 0)], [(1, some ⟨24, 1, 1, [rowR rs]⟩), (2, some ⟨90, 2, 1, [iD p, domsD ps]⟩), (3, some ⟨3, 1, C q, intsD (V' (C q))⟩)]⟩) ?_ trivial ?_
  · rw [hz, h0]
    refine Wk.trans (Wk.adoptT 14 3 1 rfl) ?_
    exact Wk.gx (fun b => b)
  · intro q hq _
    have t0 := hle q
    by_cases hlt : q < ps.length
    · have I := hI q hlt
      have t1 := hsn q hlt
      have hcq := fun j => hcut q j hlt
      clear hI hsn hcut
      generalize idxs ps[q] = Y at *
      repeat (first | refine Z1 ?_ | refine Z2 ?_ | (refine Z3 ?_; (repeat (first | (apply gS; first | refine go_no ?_ | refine go_f ?_ | refine gx ?_ | refine gm ?_ | refine gp ?_ | refine go_c rfl rfl (I) ?_ | refine go_cF rfl rfl (I) ?_ | refine go_cA rfl rfl (I) ?_) | (apply gZ; first | refine go_f ?_ | refine gx ?_ | refine gm ?_))); refine T_nil ?_) | (apply ZR; (try dsimp only [List.map_cons, List.map_nil]); refine C_dr mixed ?_; (repeat (first | (apply vS; first | refine vn ?_ | refine va ?_ | refine vp ?_ | refine vr ?_ | refine vt ?_ | refine vc (I) ?_ | refine vcF (I) ?_) | (apply vZ; first | refine vs ?_ | refine vw ?_))); refine W_e ?_) | (apply ZK; first | refine Z4 ?_ | refine Z5 ?_) | refine Z6 ?_ | refine Z7 ?_ | refine Z8 ?_ | refine Z9 ?_ | refine ZA ?_ | refine ZB ?_ | refine ZC ?_ | refine ZD ?_ | refine ZE ?_ | refine ZF ?_ | refine ZG ?_ | refine ZH ?_)
      refine C_count Y.length (fun _ => True) (fun j => ⟨4, 92, [(18, iD j), (16, rowL2 Y), (15, iD q), (12, .ptr 2 0), (14, .own 3 (C q + j)), (0, iD seed), (4, iD m), (7, .ptr 1 0)], [(1, some ⟨24, 1, 1, [rowR rs]⟩), (2, some ⟨90, 2, 1, [iD p, domsD ps]⟩), (3, some ⟨3, 1, C q + j, intsD (V' (C q + j))⟩)]⟩) ?_ trivial ?_
      · rw [Nat.add_zero]
        exact Wk.gx (fun b => b)
      · intro j hj _
        by_cases hjl : j < Y.length
        · obtain ⟨u1, u2⟩ := hcq j hjl
          rw [List.getElem?_eq_getElem u1] at u2
          have u3 : X[C q + j] = Y[j] := Option.some.inj u2
          have PL := hP X[C q + j] (List.getElem_mem u1)
          have st := hstep (C q + j) u1
          rw [u3] at PL st
          have BL := hB ((placeV rs Y[j] 0 : Nat) : Int)
          rw [Nat.add_assoc] at st
          clear hcq hstep hP hB u2 u3
          generalize belowV seed ((placeV rs Y[j] 0 : Nat) : Int) m = v at *
          generalize placeV rs Y[j] 0 = at' at *
          repeat (first | refine Z1 ?_ | refine Z2 ?_ | (refine Z3 ?_; (repeat (first | (apply gS; first | refine go_no ?_ | refine go_f ?_ | refine gx ?_ | refine gm ?_ | refine gp ?_ | refine go_c rfl rfl (PL) ?_ | refine go_cF rfl rfl (PL) ?_ | refine go_cA rfl rfl (PL) ?_ | refine go_c rfl rfl (BL) ?_ | refine go_cF rfl rfl (BL) ?_ | refine go_cA rfl rfl (BL) ?_) | (apply gZ; first | refine go_f ?_ | refine gx ?_ | refine gm ?_))); refine T_nil ?_) | (apply ZR; (try dsimp only [List.map_cons, List.map_nil]); refine C_dr mixed ?_; (repeat (first | (apply vS; first | refine vn ?_ | refine va ?_ | refine vp ?_ | refine vr ?_ | refine vt ?_ | refine vc (PL) ?_ | refine vcF (PL) ?_ | refine vc (BL) ?_ | refine vcF (BL) ?_) | (apply vZ; first | refine vs ?_ | refine vw ?_))); refine W_e ?_) | (apply ZK; first | refine Z4 ?_ | refine Z5 ?_) | refine Z6 ?_ | refine Z7 ?_ | refine Z8 ?_ | refine Z9 ?_ | refine ZA ?_ | refine ZB ?_ | refine ZC ?_ | refine ZD ?_ | refine ZE ?_ | refine ZF ?_ | refine ZG ?_ | refine ZH ?_)
          refine kLoop_n ⟨hjl, trivial, ?_⟩
          exact Wk.gx (fun b => cond (Nat.beq b 3) 4 (b))
        · obtain rfl : j = Y.length := by omega
          rw [← t1]
          clear hcq hstep hP hB
          repeat (first | refine Z1 ?_ | refine Z2 ?_ | (refine Z3 ?_; (repeat (first | (apply gS; first | refine go_no ?_ | refine go_f ?_ | refine gx ?_ | refine gm ?_ | refine gp ?_) | (apply gZ; first | refine go_f ?_ | refine gx ?_ | refine gm ?_))); refine T_nil ?_) | (apply ZR; (try dsimp only [List.map_cons, List.map_nil]); refine C_dr mixed ?_; (repeat (first | (apply vS; first | refine vn ?_ | refine va ?_ | refine vp ?_ | refine vr ?_ | refine vt ?_) | (apply vZ; first | refine vs ?_ | refine vw ?_))); refine W_e ?_) | (apply ZK; first | refine Z4 ?_ | refine Z5 ?_) | refine Z6 ?_ | refine Z7 ?_ | refine Z8 ?_ | refine Z9 ?_ | refine ZA ?_ | refine ZB ?_ | refine ZC ?_ | refine ZD ?_ | refine ZE ?_ | refine ZF ?_ | refine ZG ?_ | refine ZH ?_)
          refine kLoop_n ⟨hlt, trivial, ?_⟩
          exact Wk.gx (fun b => b)
    · obtain rfl : q = ps.length := by omega
      rw [hend]
      clear hcut hI hP hB hsn hstep
      repeat (first | refine Z1 ?_ | refine Z2 ?_ | (refine Z3 ?_; (repeat (first | (apply gS; first | refine go_no ?_ | refine go_f ?_ | refine gx ?_ | refine gm ?_ | refine gp ?_) | (apply gZ; first | refine go_f ?_ | refine gx ?_ | refine gm ?_))); refine T_nil ?_) | (apply ZR; (try dsimp only [List.map_cons, List.map_nil]); refine C_dr mixed ?_; (repeat (first | (apply vS; first | refine vn ?_ | refine va ?_ | refine vp ?_ | refine vr ?_ | refine vt ?_) | (apply vZ; first | refine vs ?_ | refine vw ?_))); refine W_e ?_) | (apply ZK; first | refine Z4 ?_ | refine Z5 ?_) | refine Z6 ?_ | refine Z7 ?_ | refine Z8 ?_ | refine Z9 ?_ | refine ZA ?_ | refine ZB ?_ | refine ZC ?_ | refine ZD ?_ | refine ZE ?_ | refine ZF ?_ | refine ZG ?_ | refine ZH ?_)
      repeat (first | refine kEnd_m ?_ | refine kEnd_f ?_)
      refine kEnd_g ?_ (by first | exact .inl rfl | exact .inr rfl)
      exact Sub.eq rfl rfl
theorem law_d (seed : Int) (s : ByteArray) (n o : Int) (rs : List Rg) (p m : Int) : DC Try.prog 19 [iD seed, dsD s n o, domD rs, .agg [iD p, iD m]] (bD true) := by
  obtain ⟨bl, L7⟩ := large25_d rs
  cases bl
  case true =>
    refine DC.of Try.func19 Try.ntmps19 Try.results19 rfl (by decide +kernel) rfl ?_
    repeat (first | refine Z1 ?_ | refine Z2 ?_ | (refine Z3 ?_; (repeat (first | (apply gS; first | refine go_no ?_ | refine go_f ?_ | refine gx ?_ | refine gm ?_ | refine gp ?_ | refine go_c rfl rfl (L7) ?_ | refine go_cF rfl rfl (L7) ?_ | refine go_cA rfl rfl (L7) ?_ | refine go_c rfl rfl (first25_d) ?_ | refine go_cF rfl rfl (first25_d) ?_ | refine go_cA rfl rfl (first25_d) ?_))); refine T_nil ?_) | (apply ZK; first | refine Z4 ?_ | refine Z5 ?_) | refine Z6 ?_ | refine Z7 ?_ | refine ZF ?_)
    repeat (first | refine kEnd_m ?_ | refine kEnd_f ?_)
    refine kEnd_g ?_ (by first | exact .inl rfl | exact .inr rfl)
    exact Sub.eq rfl rfl
  have SN := sameInts_d [] [] (by simp)
  rw [decide_eq_true rfl] at SN
  have K1 : ∃ (X : List Int) (e : Int), DC Try.prog 91 [iD seed, domD rs, iD m] (.tup [rowI X, iD e]) ∧ DC Try.prog 92 [iD seed, domD rs, iD m] (.tup [rowI X, iD e]) ∧ DC Try.prog 28 [rowI X, rowI X] (bD true) := by
    cases hd : domB rs
    · exact ⟨_, _, Fill_bad seed m hd, rFill_bad seed m hd, SN⟩
    · by_cases hm : mOk m
      · have SI := sameInts_d (fillL seed m (cnt rs)) (fillL seed m (cnt rs)) (by rw [fillL_len]; have : cnt rs ≤ 4096 := (domB_iff.1 hd).2.2; omega)
        rw [decide_eq_true rfl] at SI
        exact ⟨_, _, Fill_ok seed m hd hm, rFill_ok seed m hd hm, SI⟩
      · exact ⟨_, _, Fill_no seed m hd hm, rFill_no seed m hd hm, SN⟩
  have K2 : ∃ (X : List Int) (e : Int), DC Try.prog 57 [iD seed, dsD s n o, domD rs, iD p, iD m] (.tup [rowI X, iD e]) ∧ DC Try.prog 93 [iD seed, dsD s n o, domD rs, iD p, iD m] (.tup [rowI X, iD e]) ∧ DC Try.prog 28 [rowI X, rowI X] (bD true) := by
    by_cases he : errD s n o rs = 0
    case neg => exact ⟨_, _, FillAt_bad seed m he p, rFillAt_bad seed m he p, SN⟩
    obtain ⟨hv, hd⟩ := errD_ok he
    obtain ⟨k, n, o, rfl, rfl, hk⟩ := vdB_ok hv
    obtain ⟨c0, ct, hc, hs⟩ := canon_sp hd
    by_cases hp : 0 ≤ p ∧ p < o ∧ mOk m
    · obtain ⟨h1, h2, hm⟩ := hp
      obtain ⟨p, rfl⟩ : ∃ z : Nat, p = z := ⟨p.toNat, by omega⟩
      have hlen : (fatL seed m rs (plX c0 ct (ow k n o (cN c0) p))).length ≤ 4096 := by
        rw [fatL_len, plX_len]
        have h1 := Nat.mul_le_mul_right (prodN (cl ct)) (ow_len k n o (cN c0) p)
        have h2 : cN c0 * prodN (cl ct) ≤ 4096 := (domB_iff.1 hs.dom).2.2
        omega
      have SI := sameInts_d (fatL seed m rs (plX c0 ct (ow k n o (cN c0) p))) (fatL seed m rs (plX c0 ct (ow k n o (cN c0) p))) (by omega)
      rw [decide_eq_true rfl] at SI
      exact ⟨_, _, FillAt_ok seed m hk hd hc hs p (by omega) hm, rFillAt_ok seed m hk hd hc hs p (by omega) hm, SI⟩
    · refine ⟨_, _, FillAt_no seed m hk hd hc hs p ?_, rFillAt_no seed m hk hd p hp, SN⟩
      by_cases hm : mOk m
      · have hp' : ¬ (0 ≤ p ∧ p < o) := fun h => hp ⟨h.1, h.2, hm⟩
        exact .inl (by omega)
      · exact .inr hm
  obtain ⟨X, e, A1, A2, A3⟩ := K1
  obtain ⟨Y, f, B1, B2, B3⟩ := K2
  refine DC.of Try.func19 Try.ntmps19 Try.results19 rfl (by decide +kernel) rfl ?_
  repeat (first | refine Z1 ?_ | refine Z2 ?_ | (refine Z3 ?_; (repeat (first | (apply gS; first | refine go_no ?_ | refine go_f ?_ | refine gx ?_ | refine gm ?_ | refine gp ?_ | refine go_c rfl rfl (L7) ?_ | refine go_cF rfl rfl (L7) ?_ | refine go_cA rfl rfl (L7) ?_ | refine go_c rfl rfl (A1) ?_ | refine go_cF rfl rfl (A1) ?_ | refine go_cA rfl rfl (A1) ?_ | refine go_c rfl rfl (A2) ?_ | refine go_cF rfl rfl (A2) ?_ | refine go_cA rfl rfl (A2) ?_ | refine go_c rfl rfl (B1) ?_ | refine go_cF rfl rfl (B1) ?_ | refine go_cA rfl rfl (B1) ?_ | refine go_c rfl rfl (B2) ?_ | refine go_cF rfl rfl (B2) ?_ | refine go_cA rfl rfl (B2) ?_ | refine go_c rfl rfl (A3) ?_ | refine go_cF rfl rfl (A3) ?_ | refine go_cA rfl rfl (A3) ?_ | refine go_c rfl rfl (B3) ?_ | refine go_cF rfl rfl (B3) ?_ | refine go_cA rfl rfl (B3) ?_ | refine go_c rfl rfl (first25_d) ?_ | refine go_cF rfl rfl (first25_d) ?_ | refine go_cA rfl rfl (first25_d) ?_))); refine T_nil ?_) | (apply ZK; first | refine Z4 ?_ | refine Z5 ?_) | refine Z6 ?_ | refine Z7 ?_ | refine ZF ?_)
  repeat (first | refine kEnd_m ?_ | refine kEnd_f ?_)
  refine kEnd_g ?_ (by first | exact .inl rfl | exact .inr rfl)
  exact Sub.eq rfl rfl
theorem walk {w : World} (seed : Int) (v : Value) (t : ByteArray × Int × Int) (tc : RC (fun b => b < w.heap.size) w (dsD t.1 t.2.1 t.2.2) v) (u : Value) (rs : List Rg) (rc : RC (fun b => b < w.heap.size) w (domD rs) u) (y : Value) (xy : {n : Int // okI n} × {n : Int // okI n}) (yc : RC (fun b => b < w.heap.size) w (.agg [iD xy.1.1, iD xy.2.1]) y) : Calls Try.prog 19 #[.int .i64 seed, v, u, y] w fun e w' => e = .returned (.bool true) ∧ Below w.heap.size w w' :=
  DC.law (law_d seed t.1 t.2.1 t.2.2 rs xy.1.1 xy.2.1) (.cons (.int _ _ seed) (.cons tc (.cons rc (.cons yc .nil))))
end Go.Proofs.Ytifapodobhkdcaa.streamFills
