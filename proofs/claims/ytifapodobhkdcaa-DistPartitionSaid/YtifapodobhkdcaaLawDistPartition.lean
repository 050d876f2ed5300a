/- The law DistPartition returns true for every input: each index is at its owner, at the offset that Local says, Global finds it there, and Load counts just these. -/
import Derived.Test.YtifapodobhkdcaaDs5
import Derived.Test.YtifapodobhkdcaaCameT
namespace Go.Proofs.Ytifapodobhkdcaa.distPartition
open Go.RowKit Go.Proofs.Ytifapodobhkdcaa
set_option linter.unusedVariables false
set_option maxHeartbeats 16000000
set_option linter.unusedSimpArgs false
set_option maxRecDepth 100000
def seenJ (f : Nat → Nat) (o j : Nat) : List Int := (List.range o).map fun p => ((cntF f j p : Nat) : Int)
theorem seenJ_step {f : Nat → Nat} {o j : Nat} (h : f j < o) : (intsD (seenJ f o j))[(((f j : Nat) : Int).toNat) * 1]? = some (iD ((cntF f j (f j) : Nat) : Int)) ∧
    intsD (seenJ f o (j + 1)) = (intsD (seenJ f o j)).set ((((f j : Nat) : Int).toNat) * 1) (iD (((cntF f j (f j) : Nat) : Int) + 1)) := by
  rw [Int.toNat_natCast, Nat.mul_one]
  generalize hw : f j = w at *
  constructor
  · unfold seenJ intsD
    simp [h]
  · have e := set_range (g := fun p => ((cntF f j p : Nat) : Int)) (g' := fun p => ((cntF f (j + 1) p : Nat) : Int)) h (fun p hp hne => by
      rw [cntF_succ, if_neg (by rw [hw]; exact fun e => hne e.symm), Nat.add_zero])
    have e2 : seenJ f o (j + 1) = (seenJ f o j).set w ((cntF f (j + 1) w : Nat) : Int) := e
    rw [e2]
    unfold intsD
    rw [List.map_set]
    congr 2
    rw [cntF_succ, if_pos hw]; omega
theorem seenJ_len (f : Nat → Nat) (o j : Nat) : (intsD (seenJ f o j)).length = o := by simp [intsD, seenJ]
theorem seenJ_0 (f : Nat → Nat) (o : Nat) : intsD (seenJ f o 0) = List.replicate o (iD 0) := by
  unfold seenJ intsD
  simp only [cntF_0, List.map_map]
  rw [List.eq_replicate_iff]
  refine ⟨by simp, fun d hd => ?_⟩
  obtain ⟨i, _, rfl⟩ := List.mem_map.1 hd
  rfl
theorem seen_end (k : Kd) (n o R W : Nat) : seenJ (fun i => own k n o R (i / W)) o (R * W) = loadsL k n o R W := by
  unfold seenJ loadsL loadJ
  refine List.map_congr_left fun p _ => ?_
  rw [cntF_mul]
theorem law_d (s : ByteArray) (n o : Int) (rs : List Rg) : DC Try.prog 14 [dsD s n o, domD rs] (bD true) := by
  obtain ⟨bl, L7⟩ := large7_d rs
  have IX := dIndexes_d rs
  by_cases he : errD s n o rs = 0
  case neg =>
    have L := Load_bad he
    generalize errD s n o rs = e at *
    generalize dIndexesRes rs = r at *
    obtain ⟨r1, r2⟩ := r
    dsimp only at IX
    by_cases h2 : r2 = 0
    all_goals
      cases bl
      all_goals
        refine DC.of Try.func14 Try.ntmps14 Try.results14 rfl (by decide +kernel) rfl ?_
        repeat (first | refine Z1 ?_ | refine Z2 ?_ | (refine Z3 ?_; (repeat (first | (apply gS; first | refine go_no ?_ | refine go_f ?_ | refine gx ?_ | refine gm ?_ | refine gp ?_ | refine go_c rfl rfl (IX) ?_ | refine go_cF rfl rfl (IX) ?_ | refine go_cA rfl rfl (IX) ?_ | refine go_c rfl rfl (L) ?_ | refine go_cF rfl rfl (L) ?_ | refine go_cA rfl rfl (L) ?_ | refine go_c rfl rfl (L7) ?_ | refine go_cF rfl rfl (L7) ?_ | refine go_cA rfl rfl (L7) ?_ | refine go_c rfl rfl (first7_d) ?_ | refine go_cF rfl rfl (first7_d) ?_ | refine go_cA rfl rfl (first7_d) ?_) | (apply gZ; first | refine go_f ?_ | refine gx ?_ | refine gm ?_))); refine T_nil ?_) | (apply ZR; (try dsimp only [List.map_cons, List.map_nil]); refine C_dr mixed ?_; (repeat (first | (apply vS; first | refine vn ?_ | refine va ?_ | refine vp ?_ | refine vr ?_ | refine vt ?_ | refine vc (IX) ?_ | refine vcF (IX) ?_ | refine vc (L) ?_ | refine vcF (L) ?_ | refine vc (L7) ?_ | refine vcF (L7) ?_ | refine vc (first7_d) ?_ | refine vcF (first7_d) ?_) | (apply vZ; first | refine vs ?_ | refine vw ?_))); refine W_e ?_) | (apply ZK; first | refine Z4 ?_ | refine Z5 ?_) | refine Z6 ?_ | refine Z7 ?_ | refine Z8 ?_ | refine Z9 ?_ | refine ZA ?_ | refine ZB ?_ | refine ZC ?_ | refine ZD ?_ | refine ZE ?_ | refine ZF ?_ | refine ZG ?_ | refine ZH ?_)
        repeat (first | refine kEnd_m ?_ | refine kEnd_f ?_)
        refine kEnd_g ?_ (by first | exact .inl rfl | exact .inr rfl)
        exact Sub.eq rfl rfl
  obtain ⟨hv, hd⟩ := errD_ok he
  obtain ⟨k, n, o, rfl, rfl, hok⟩ := vdB_ok hv
  obtain ⟨c0, ct, hc, hs⟩ := canon_sp hd
  have L := Load_ok hok hd hc hs
  rw [show dIndexesRes rs = (idxs rs, 0) from if_pos hd] at IX
  dsimp only at IX
  obtain ⟨i1, i2, i3⟩ := canon_cnt hd hc
  have hlen : (idxs rs).length = cN c0 * iN c0 ct := by rw [idxs_len, i2]
  have hget : ∀ i (h : i < (idxs rs).length), (idxs rs)[i] = ithX (c0 :: ct) i := fun i h => by
    have h2 : i < cN c0 * iN c0 ct := by rw [← hlen]; exact h
    rw [← ith_can hd hc h2]
    have := idxs_get rs i (by rw [i2]; exact h2)
    rw [List.getElem?_eq_getElem h] at this
    exact Option.some.inj this
  have h1 := hok.ok.o1
  have h8 := hok.ok.o8
  have hP : cN c0 * iN c0 ct ≤ 4096 := by rw [iN_mul]; exact (domB_iff.1 hs.dom).2.2
  have hll : (loadsL k n o (cN c0) (iN c0 ct)).length = o := loadJ_len _ _ _ _ _ _
  have hlg : ∀ p (h : p < (loadsL k n o (cN c0) (iN c0 ct)).length), (loadsL k n o (cN c0) (iN c0 ct))[p] = (((ow k n o (cN c0) p).length * iN c0 ct : Nat) : Int) := fun p h => by simp [loadsL, loadJ, ow_cnt]
  have hc3 : (c0 :: ct).length ≤ 3 := (domB_iff.1 hs.dom).1.2
  -- each index
  have key : ∀ i (h : i < (idxs rs).length), ∃ w m : Nat, w < o ∧ (∀ hw : w < (loadsL k n o (cN c0) (iN c0 ct)).length, (m : Int) < (loadsL k n o (cN c0) (iN c0 ct))[w]) ∧
      DC Try.prog 55 [dsD s n o, domD rs, rowI (idxs rs)[i]] (.tup [iD w, iD 0]) ∧ DC Try.prog 56 [dsD s n o, domD rs, rowI (idxs rs)[i]] (.tup [iD m, iD 0]) ∧
      DC Try.prog 67 [dsD s n o, domD rs, iD w, iD m] (.tup [rowI (idxs rs)[i], iD 0]) ∧ DC Try.prog 28 [rowI (idxs rs)[i], rowI (idxs rs)[i]] (bD true) ∧
      w = own k n o (cN c0) (i / iN c0 ct) := fun i h => by
    have hi : i < cN c0 * iN c0 ct := by rw [← hlen]; exact h
    rw [hget i h]
    obtain ⟨f1, f2, f3, f4⟩ := at_find hs hi
    obtain ⟨a1, a2, a3, a4, a5, a6⟩ := own_at hok.ok hs hi
    obtain ⟨b1, b2, b3⟩ := loc_at hok.ok hs hi
    refine ⟨own k n o (cN c0) (i / iN c0 ct), locV k n o c0 ct (ithX (c0 :: ct) i), a4, fun hw => ?_, ?_, ?_, ?_, ?_, rfl⟩
    · rw [hlg]; exact Int.ofNat_lt.2 b1
    · have := Owner_d hok hd hc hs (ithX (c0 :: ct) i)
      rwa [a3, f4] at this
    · have := Local_d hok hd hc hs (ithX (c0 :: ct) i)
      rwa [f4] at this
    · have := Global_ok hok hd hc hs _ _ a4 b2
      rwa [b3] at this
    · have := sameInts_d (ithX (c0 :: ct) i) (ithX (c0 :: ct) i) (by rw [f1]; omega)
      rwa [decide_eq_true rfl] at this
  have hsum : ∃ S : Nat → Int, S 0 = 0 ∧ (∀ p (h : p < (loadsL k n o (cN c0) (iN c0 ct)).length), S (p + 1) = S p + (loadsL k n o (cN c0) (iN c0 ct))[p] ∧ 0 ≤ S p ∧ S p ≤ 32768 ∧ 0 ≤ (loadsL k n o (cN c0) (iN c0 ct))[p] ∧ (loadsL k n o (cN c0) (iN c0 ct))[p] ≤ 4096) ∧ S o = ((cN c0 * iN c0 ct : Nat) : Int) := by
    refine ⟨fun p => ((sumL (fun p => cntF (own k n o (cN c0)) (cN c0) p * iN c0 ct) p : Nat) : Int), rfl, fun p h => ?_, ?_⟩
    · have hb : ∀ p, cntF (own k n o (cN c0)) (cN c0) p * iN c0 ct ≤ 4096 := fun p => Nat.le_trans (Nat.mul_le_mul_right _ (cntF_le _ _ _)) hP
      have hS : ∀ p, sumL (fun p => cntF (own k n o (cN c0)) (cN c0) p * iN c0 ct) p ≤ p * 4096 := fun p => by
        induction p with
        | zero => simp [sumL]
        | succ p ih => rw [sumL_succ]; have := hb p; omega
      have h2 := hS p
      rw [hlg p h, ow_cnt]
      simp only
      rw [sumL_succ]
      have := hb p
      omega
    · show ((sumL (fun p => cntF (own k n o (cN c0)) (cN c0) p * iN c0 ct) o : Nat) : Int) = _
      rw [sumL_mul, sum_cnt (fun i hi => own_lt hok.ok hi)]
  obtain ⟨S, s0, s1, s2⟩ := hsum
  have hfs := fun j (hj : j < cN c0 * iN c0 ct) => seenJ_step (f := fun i => own k n o (cN c0) (i / iN c0 ct)) (o := o) (j := j) (own_at hok.ok hs hj).2.2.2.1
  have hJl := fun j => seenJ_len (fun i => own k n o (cN c0) (i / iN c0 ct)) o j
  have hf0 := seenJ_0 (fun i => own k n o (cN c0) (i / iN c0 ct)) o
  have hfe := seen_end k n o (cN c0) (iN c0 ct)
  have hcb : ∀ j p, cntF (fun i => own k n o (cN c0) (i / iN c0 ct)) j p ≤ j := fun j p => cntF_le _ _ _
  have SM := sameInts_d (loadsL k n o (cN c0) (iN c0 ct)) (loadsL k n o (cN c0) (iN c0 ct)) (by omega)
  rw [decide_eq_true rfl] at SM
  clear hget i2 hlg he hv hd hc hs hok
  rw [← hlen] at hfe hfs s2 hP
  generalize idxs rs = l at *
  generalize hF : (fun i => own k n o (cN c0) (i / iN c0 ct)) = F at *
  have hFi : ∀ i, own k n o (cN c0) (i / iN c0 ct) = F i := fun i => by rw [← hF]
  simp only [hFi] at key hfs
  clear hF hFi
  generalize loadsL k n o (cN c0) (iN c0 ct) = LL at *
  subst hll
  clear i1 i3 hlen hc3
  generalize hJ : seenJ F LL.length = J at *
  cases bl
  case true =>
    refine DC.of Try.func14 Try.ntmps14 Try.results14 rfl (by decide +kernel) rfl ?_
    repeat (first | refine Z1 ?_ | refine Z2 ?_ | (refine Z3 ?_; (repeat (first | (apply gS; first | refine go_no ?_ | refine go_f ?_ | refine gx ?_ | refine gm ?_ | refine gp ?_ | refine go_c rfl rfl (IX) ?_ | refine go_cF rfl rfl (IX) ?_ | refine go_cA rfl rfl (IX) ?_ | refine go_c rfl rfl (L) ?_ | refine go_cF rfl rfl (L) ?_ | refine go_cA rfl rfl (L) ?_ | refine go_c rfl rfl (L7) ?_ | refine go_cF rfl rfl (L7) ?_ | refine go_cA rfl rfl (L7) ?_ | refine go_c rfl rfl (first7_d) ?_ | refine go_cF rfl rfl (first7_d) ?_ | refine go_cA rfl rfl (first7_d) ?_) | (apply gZ; first | refine go_f ?_ | refine gx ?_ | refine gm ?_))); refine T_nil ?_) | (apply ZR; (try dsimp only [List.map_cons, List.map_nil]); refine C_dr mixed ?_; (repeat (first | (apply vS; first | refine vn ?_ | refine va ?_ | refine vp ?_ | refine vr ?_ | refine vt ?_ | refine vc (IX) ?_ | refine vcF (IX) ?_ | refine vc (L) ?_ | refine vcF (L) ?_ | refine vc (L7) ?_ | refine vcF (L7) ?_ | refine vc (first7_d) ?_ | refine vcF (first7_d) ?_) | (apply vZ; first | refine vs ?_ | refine vw ?_))); refine W_e ?_) | (apply ZK; first | refine Z4 ?_ | refine Z5 ?_) | refine Z6 ?_ | refine Z7 ?_ | refine Z8 ?_ | refine Z9 ?_ | refine ZA ?_ | refine ZB ?_ | refine ZC ?_ | refine ZD ?_ | refine ZE ?_ | refine ZF ?_ | refine ZG ?_ | refine ZH ?_)
    repeat (first | refine kEnd_m ?_ | refine kEnd_f ?_)
    refine kEnd_g ?_ (by first | exact .inl rfl | exact .inr rfl)
    exact Sub.eq rfl rfl
  refine DC.of Try.func14 Try.ntmps14 Try.results14 rfl (by decide +kernel) rfl ?_
  repeat (first | refine Z1 ?_ | refine Z2 ?_ | (refine Z3 ?_; (repeat (first | (apply gS; first | refine go_no ?_ | refine go_f ?_ | refine gx ?_ | refine gm ?_ | refine gp ?_ | refine go_c rfl rfl (IX) ?_ | refine go_cF rfl rfl (IX) ?_ | refine go_cA rfl rfl (IX) ?_ | refine go_c rfl rfl (L) ?_ | refine go_cF rfl rfl (L) ?_ | refine go_cA rfl rfl (L) ?_ | refine go_c rfl rfl (L7) ?_ | refine go_cF rfl rfl (L7) ?_ | refine go_cA rfl rfl (L7) ?_ | refine go_c rfl rfl (first7_d) ?_ | refine go_cF rfl rfl (first7_d) ?_ | refine go_cA rfl rfl (first7_d) ?_) | (apply gZ; first | refine go_f ?_ | refine gx ?_ | refine gm ?_))); refine T_nil ?_) | (apply ZR; (try dsimp only [List.map_cons, List.map_nil]); refine C_dr mixed ?_; (repeat (first | (apply vS; first | refine vn ?_ | refine va ?_ | refine vp ?_ | refine vr ?_ | refine vt ?_ | refine vc (IX) ?_ | refine vcF (IX) ?_ | refine vc (L) ?_ | refine vcF (L) ?_ | refine vc (L7) ?_ | refine vcF (L7) ?_ | refine vc (first7_d) ?_ | refine vcF (first7_d) ?_) | (apply vZ; first | refine vs ?_ | refine vw ?_))); refine W_e ?_) | (apply ZK; first | refine Z4 ?_ | refine Z5 ?_) | refine Z6 ?_ | refine Z7 ?_ | refine Z8 ?_ | refine Z9 ?_ | refine ZA ?_ | refine ZB ?_ | refine ZC ?_ | refine ZD ?_ | refine ZE ?_ | refine ZF ?_ | refine ZG ?_ | refine ZH ?_)
  refine C_count LL.length (fun _ => True) (fun p => ⟨3, 146, [(11, iD p), (9, iD (S p)), (7, rowI LL), (5, rowL2 l), (10, .own 2 LL.length), (2, .ptr 0 0), (3, .ptr 1 0)], [(0, some ⟨63, 3, 1, [sD s, iD n, iD LL.length]⟩), (1, some ⟨24, 1, 1, [rowR rs]⟩), (2, some ⟨3, 1, LL.length, intsD (J 0)⟩)]⟩) ?_ trivial ?_
  · rw [s0, hf0]
    exact Wk.gx (fun b => b)
  · intro p hp _
    by_cases hlt : p < LL.length
    · obtain ⟨t1, t2, t3, t4, t5⟩ := s1 p hlt
      clear s1 hfs key
      repeat (first | refine Z1 ?_ | refine Z2 ?_ | (refine Z3 ?_; (repeat (first | (apply gS; first | refine go_no ?_ | refine go_f ?_ | refine gx ?_ | refine gm ?_ | refine gp ?_) | (apply gZ; first | refine go_f ?_ | refine gx ?_ | refine gm ?_))); refine T_nil ?_) | (apply ZR; (try dsimp only [List.map_cons, List.map_nil]); refine C_dr mixed ?_; (repeat (first | (apply vS; first | refine vn ?_ | refine va ?_ | refine vp ?_ | refine vr ?_ | refine vt ?_) | (apply vZ; first | refine vs ?_ | refine vw ?_))); refine W_e ?_) | (apply ZK; first | refine Z4 ?_ | refine Z5 ?_) | refine Z6 ?_ | refine Z7 ?_ | refine Z8 ?_ | refine Z9 ?_ | refine ZA ?_ | refine ZB ?_ | refine ZC ?_ | refine ZD ?_ | refine ZE ?_ | refine ZF ?_ | refine ZG ?_ | refine ZH ?_)
      refine kLoop_n ⟨hlt, trivial, ?_⟩
      exact Wk.gx (fun b => b)
    · obtain rfl : p = LL.length := by omega
      rw [s2]
      clear s1
      repeat (first | refine Z1 ?_ | refine Z2 ?_ | (refine Z3 ?_; (repeat (first | (apply gS; first | refine go_no ?_ | refine go_f ?_ | refine gx ?_ | refine gm ?_ | refine gp ?_) | (apply gZ; first | refine go_f ?_ | refine gx ?_ | refine gm ?_))); refine T_nil ?_) | (apply ZR; (try dsimp only [List.map_cons, List.map_nil]); refine C_dr mixed ?_; (repeat (first | (apply vS; first | refine vn ?_ | refine va ?_ | refine vp ?_ | refine vr ?_ | refine vt ?_) | (apply vZ; first | refine vs ?_ | refine vw ?_))); refine W_e ?_) | (apply ZK; first | refine Z4 ?_ | refine Z5 ?_) | refine Z6 ?_ | refine Z7 ?_ | refine Z8 ?_ | refine Z9 ?_ | refine ZA ?_ | refine ZB ?_ | refine ZC ?_ | refine ZD ?_ | refine ZE ?_ | refine ZF ?_ | refine ZG ?_ | refine ZH ?_)
      refine C_count l.length (fun _ => True) (fun i => ⟨3, 146, [(12, iD i), (9, iD l.length), (7, rowI LL), (5, rowL2 l), (10, .own 2 LL.length), (2, .ptr 0 0), (3, .ptr 1 0)], [(0, some ⟨63, 3, 1, [sD s, iD n, iD LL.length]⟩), (1, some ⟨24, 1, 1, [rowR rs]⟩), (2, some ⟨3, 1, LL.length, intsD (J i)⟩)]⟩) ?_ trivial ?_
      · exact Wk.gx (fun b => b)
      · intro i hi _
        by_cases hil : i < l.length
        · obtain ⟨w, m, k1, k2, k3, k4, k5, k6, k7⟩ := key i hil
          have k2 := k2 k1
          obtain ⟨e1, e2⟩ := hfs i hil
          have hb := hcb i (F i)
          rw [← k7] at e1 e2 hb
          have b3 := hJl i
          clear hfs key hcb hJl
          generalize cntF F i w = cc at *
          repeat (first | refine Z1 ?_ | refine Z2 ?_ | (refine Z3 ?_; (repeat (first | (apply gS; first | refine go_no ?_ | refine go_f ?_ | refine gx ?_ | refine gm ?_ | refine gp ?_ | refine go_c rfl rfl (k3) ?_ | refine go_cF rfl rfl (k3) ?_ | refine go_cA rfl rfl (k3) ?_ | refine go_c rfl rfl (k4) ?_ | refine go_cF rfl rfl (k4) ?_ | refine go_cA rfl rfl (k4) ?_ | refine go_c rfl rfl (k5) ?_ | refine go_cF rfl rfl (k5) ?_ | refine go_cA rfl rfl (k5) ?_ | refine go_c rfl rfl (k6) ?_ | refine go_cF rfl rfl (k6) ?_ | refine go_cA rfl rfl (k6) ?_) | (apply gZ; first | refine go_f ?_ | refine gx ?_ | refine gm ?_))); refine T_nil ?_) | (apply ZR; (try dsimp only [List.map_cons, List.map_nil]); refine C_dr mixed ?_; (repeat (first | (apply vS; first | refine vn ?_ | refine va ?_ | refine vp ?_ | refine vr ?_ | refine vt ?_ | refine vc (k3) ?_ | refine vcF (k3) ?_ | refine vc (k4) ?_ | refine vcF (k4) ?_ | refine vc (k5) ?_ | refine vcF (k5) ?_ | refine vc (k6) ?_ | refine vcF (k6) ?_) | (apply vZ; first | refine vs ?_ | refine vw ?_))); refine W_e ?_) | (apply ZK; first | refine Z4 ?_ | refine Z5 ?_) | refine Z6 ?_ | refine Z7 ?_ | refine Z8 ?_ | refine Z9 ?_ | refine ZA ?_ | refine ZB ?_ | refine ZC ?_ | refine ZD ?_ | refine ZE ?_ | refine ZF ?_ | refine ZG ?_ | refine ZH ?_)
          refine kLoop_n ⟨hil, trivial, ?_⟩
          exact Wk.gx (fun b => b)
        · obtain rfl : i = l.length := by omega
          rw [hfe]
          repeat (first | refine Z1 ?_ | refine Z2 ?_ | (refine Z3 ?_; (repeat (first | (apply gS; first | refine go_no ?_ | refine go_f ?_ | refine gx ?_ | refine gm ?_ | refine gp ?_ | refine go_c rfl rfl (SM) ?_ | refine go_cF rfl rfl (SM) ?_ | refine go_cA rfl rfl (SM) ?_ | refine go_c rfl rfl (first7_d) ?_ | refine go_cF rfl rfl (first7_d) ?_ | refine go_cA rfl rfl (first7_d) ?_) | (apply gZ; first | refine go_f ?_ | refine gx ?_ | refine gm ?_))); refine T_nil ?_) | (apply ZR; (try dsimp only [List.map_cons, List.map_nil]); refine C_dr mixed ?_; (repeat (first | (apply vS; first | refine vn ?_ | refine va ?_ | refine vp ?_ | refine vr ?_ | refine vt ?_ | refine vc (SM) ?_ | refine vcF (SM) ?_ | refine vc (first7_d) ?_ | refine vcF (first7_d) ?_) | (apply vZ; first | refine vs ?_ | refine vw ?_))); refine W_e ?_) | (apply ZK; first | refine Z4 ?_ | refine Z5 ?_) | refine Z6 ?_ | refine Z7 ?_ | refine Z8 ?_ | refine Z9 ?_ | refine ZA ?_ | refine ZB ?_ | refine ZC ?_ | refine ZD ?_ | refine ZE ?_ | refine ZF ?_ | refine ZG ?_ | refine ZH ?_)
          repeat (first | refine kEnd_m ?_ | refine kEnd_f ?_)
          refine kEnd_g ?_ (by first | exact .inl rfl | exact .inr rfl)
          exact Sub.eq rfl rfl
theorem walk {w : World} (v : Value) (t : ByteArray × Int × Int) (tc : RC (fun b => b < w.heap.size) w (dsD t.1 t.2.1 t.2.2) v) (u : Value) (rs : List Rg) (rc : RC (fun b => b < w.heap.size) w (domD rs) u) : Calls Try.prog 14 #[v, u] w fun e w' => e = .returned (.bool true) ∧ Below w.heap.size w w' :=
  DC.law (law_d t.1 t.2.1 t.2.2 rs) (.cons tc (.cons rc .nil))
end Go.Proofs.Ytifapodobhkdcaa.distPartition
