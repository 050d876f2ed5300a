/- The law TopPartition returns true for every input: the chunks of a leader have each index once, at its owner, Load counts them, and what moves are the indexes whose owner changes. -/
import Derived.Test.YtifapodobhkdcaaLdr
import Derived.Test.YtifapodobhkdcaaDsA
import Derived.Test.YtifapodobhkdcaaPcAt
import Derived.Test.YtifapodobhkdcaaCameT
namespace Go.Proofs.Ytifapodobhkdcaa.topPartition
open Go.RowKit Go.Proofs.Ytifapodobhkdcaa
set_option linter.unusedVariables false
set_option maxHeartbeats 16000000
set_option linter.unusedSimpArgs false
set_option maxRecDepth 100000
theorem few_d (d : List Rg) : ∃ b, DC Try.prog 23 [domD d] (bD b) := by
  have C := rdCount_d d
  generalize dCountRes d = c at *
  obtain ⟨n, e⟩ := c
  dsimp only at C
  by_cases h0 : 10 < d.length
  · refine ⟨false, ?_⟩
    refine DC.of Try.func23 Try.ntmps23 Try.results23 rfl (by decide +kernel) rfl ?_
    repeat (first | refine Z1 ?_ | refine Z2 ?_ | (refine Z3 ?_; (repeat (first | (apply gS; first | refine go_no ?_ | refine go_f ?_ | refine gx ?_ | refine gm ?_ | refine gp ?_ | refine go_c rfl rfl (C) ?_ | refine go_cF rfl rfl (C) ?_ | refine go_cA rfl rfl (C) ?_))); refine T_nil ?_) | (apply ZK; first | refine Z4 ?_ | refine Z5 ?_) | refine Z6 ?_ | refine Z7 ?_ | refine ZF ?_)
    repeat (first | refine kEnd_m ?_ | refine kEnd_f ?_)
    refine kEnd_g ?_ (by first | exact .inl rfl | exact .inr rfl)
    exact Sub.eq rfl rfl
  by_cases h1 : e = 0
  · by_cases h : 150 < n
    · refine ⟨false, ?_⟩
      refine DC.of Try.func23 Try.ntmps23 Try.results23 rfl (by decide +kernel) rfl ?_
      repeat (first | refine Z1 ?_ | refine Z2 ?_ | (refine Z3 ?_; (repeat (first | (apply gS; first | refine go_no ?_ | refine go_f ?_ | refine gx ?_ | refine gm ?_ | refine gp ?_ | refine go_c rfl rfl (C) ?_ | refine go_cF rfl rfl (C) ?_ | refine go_cA rfl rfl (C) ?_))); refine T_nil ?_) | (apply ZK; first | refine Z4 ?_ | refine Z5 ?_) | refine Z6 ?_ | refine Z7 ?_ | refine ZF ?_)
      repeat (first | refine kEnd_m ?_ | refine kEnd_f ?_)
      refine kEnd_g ?_ (by first | exact .inl rfl | exact .inr rfl)
      exact Sub.eq rfl rfl
    · refine ⟨true, ?_⟩
      refine DC.of Try.func23 Try.ntmps23 Try.results23 rfl (by decide +kernel) rfl ?_
      repeat (first | refine Z1 ?_ | refine Z2 ?_ | (refine Z3 ?_; (repeat (first | (apply gS; first | refine go_no ?_ | refine go_f ?_ | refine gx ?_ | refine gm ?_ | refine gp ?_ | refine go_c rfl rfl (C) ?_ | refine go_cF rfl rfl (C) ?_ | refine go_cA rfl rfl (C) ?_))); refine T_nil ?_) | (apply ZK; first | refine Z4 ?_ | refine Z5 ?_) | refine Z6 ?_ | refine Z7 ?_ | refine ZF ?_)
      repeat (first | refine kEnd_m ?_ | refine kEnd_f ?_)
      refine kEnd_g ?_ (by first | exact .inl rfl | exact .inr rfl)
      exact Sub.eq rfl rfl
  · refine ⟨true, ?_⟩
    refine DC.of Try.func23 Try.ntmps23 Try.results23 rfl (by decide +kernel) rfl ?_
    repeat (first | refine Z1 ?_ | refine Z2 ?_ | (refine Z3 ?_; (repeat (first | (apply gS; first | refine go_no ?_ | refine go_f ?_ | refine gx ?_ | refine gm ?_ | refine gp ?_ | refine go_c rfl rfl (C) ?_ | refine go_cF rfl rfl (C) ?_ | refine go_cA rfl rfl (C) ?_))); refine T_nil ?_) | (apply ZK; first | refine Z4 ?_ | refine Z5 ?_) | refine Z6 ?_ | refine Z7 ?_ | refine ZF ?_)
    repeat (first | refine kEnd_m ?_ | refine kEnd_f ?_)
    refine kEnd_g ?_ (by first | exact .inl rfl | exact .inr rfl)
    exact Sub.eq rfl rfl
/-! ### the chunks -/
def placesQ (k : Kd) (n o : Nat) (c0 : Rg) (ct : List Rg) : List Nat := (List.range o).filter fun p => decide (0 < (partsOf k n o c0 ct p).length)
theorem lead_eq (k : Kd) (n o : Nat) (c0 : Rg) (ct : List Rg) : leadL k n o c0 ct o = (placesQ k n o c0 ct).map fun p : Nat => ((p : Int), partsOf k n o c0 ct p) := by
  unfold leadL piecesL placesQ
  rw [List.filter_map]; rfl
theorem placesQ_nodup (k : Kd) (n o : Nat) (c0 : Rg) (ct : List Rg) : (placesQ k n o c0 ct).Nodup := List.nodup_range.filter _
/-! ### what has been seen -/
def seenF (f lo : Nat → Nat) (Q : List Nat) (i r j : Nat) : Int := if f j ∈ Q.take i ∨ ∃ h : i < Q.length, f j = Q[i] ∧ lo j < r then 1 else 0
def seenL (f lo : Nat → Nat) (Q : List Nat) (N i r : Nat) : List Int := (List.range N).map fun j => seenF f lo Q i r j
theorem seenL_len (f lo : Nat → Nat) (Q : List Nat) (N i r : Nat) : (intsD (seenL f lo Q N i r)).length = N := by simp [seenL, intsD]
theorem seen_step {f lo : Nat → Nat} {Q : List Nat} (hQ : Q.Nodup) {N i r a : Nat} (hi : i < Q.length) (ha : a < N) (h1 : f a = Q[i]) (h2 : lo a = r) (hinj : ∀ j, j < N → f j = Q[i] → lo j = r → j = a) :
    (intsD (seenL f lo Q N i r))[(((a : Nat) : Int).toNat) * 1]? = some (iD 0) ∧ intsD (seenL f lo Q N i (r + 1)) = (intsD (seenL f lo Q N i r)).set ((((a : Nat) : Int).toNat) * 1) (iD (0 + 1)) := by
  rw [Int.toNat_natCast, Nat.mul_one]
  have hnot : f a ∉ Q.take i := fun h => by
    obtain ⟨q, hq, e⟩ := List.mem_iff_getElem.1 h
    rw [List.length_take] at hq
    rw [List.getElem_take, h1] at e
    exact List.pairwise_iff_getElem.1 (List.nodup_iff_pairwise_ne.1 hQ) q i (by omega) hi (by omega) e
  have e0 : seenF f lo Q i r a = 0 := if_neg (fun h => by
    rcases h with h | ⟨_, _, h⟩
    · exact hnot h
    · omega)
  have e1 : seenF f lo Q i (r + 1) a = 1 := if_pos (.inr ⟨hi, h1, by omega⟩)
  constructor
  · unfold seenL intsD
    simp [ha, e0]
  · have e := set_range (g := fun j => seenF f lo Q i r j) (g' := fun j => seenF f lo Q i (r + 1) j) ha (fun j hj hne => by
      unfold seenF
      by_cases hm : f j ∈ Q.take i
      · rw [if_pos (.inl hm), if_pos (.inl hm)]
      · have hiff : (f j ∈ Q.take i ∨ ∃ h : i < Q.length, f j = Q[i] ∧ lo j < r + 1) ↔ (f j ∈ Q.take i ∨ ∃ h : i < Q.length, f j = Q[i] ∧ lo j < r) := by
          constructor
          · rintro (h | ⟨h, h3, h4⟩)
            · exact .inl h
            · refine .inr ⟨h, h3, ?_⟩
              have : lo j ≠ r := fun e => hne (hinj j hj h3 e)
              omega
          · rintro (h | ⟨h, h3, h4⟩)
            · exact .inl h
            · exact .inr ⟨h, h3, by omega⟩
        simp only [hiff])
    have e2 : seenL f lo Q N i (r + 1) = (seenL f lo Q N i r).set a (seenF f lo Q i (r + 1) a) := e
    rw [e2, e1]
    unfold intsD
    rw [List.map_set]; rfl
theorem seen_next {f lo : Nat → Nat} {Q : List Nat} {N i m : Nat} (hi : i < Q.length) (hb : ∀ j, j < N → f j = Q[i] → lo j < m) : seenL f lo Q N i m = seenL f lo Q N (i + 1) 0 := by
  unfold seenL
  refine List.map_congr_left fun j hj => ?_
  have hj := List.mem_range.1 hj
  unfold seenF
  have hiff : (f j ∈ Q.take i ∨ ∃ h : i < Q.length, f j = Q[i] ∧ lo j < m) ↔ (f j ∈ Q.take (i + 1) ∨ ∃ h : i + 1 < Q.length, f j = Q[i + 1] ∧ lo j < 0) := by
    rw [List.take_succ_eq_append_getElem hi, List.mem_append, List.mem_singleton]
    constructor
    · rintro (h | ⟨_, h, _⟩)
      · exact .inl (.inl h)
      · exact .inl (.inr h)
    · rintro ((h | h) | ⟨_, _, h⟩)
      · exact .inl h
      · exact .inr ⟨hi, h, hb j hj h⟩
      · omega
  simp only [hiff]
theorem seen_0 (f lo : Nat → Nat) (Q : List Nat) (N : Nat) : intsD (seenL f lo Q N 0 0) = List.replicate N (iD 0) := by
  unfold seenL intsD
  rw [List.map_map, List.eq_replicate_iff]
  refine ⟨by simp, fun d hd => ?_⟩
  obtain ⟨j, _, rfl⟩ := List.mem_map.1 hd
  show iD (seenF f lo Q 0 0 j) = iD 0
  have : seenF f lo Q 0 0 j = 0 := if_neg (fun h => by
    rcases h with h | ⟨_, _, h⟩
    · simp at h
    · omega)
  rw [this]
theorem seen_end {f lo : Nat → Nat} {Q : List Nat} {N : Nat} (h : ∀ j, j < N → f j ∈ Q) : seenL f lo Q N Q.length 0 = List.replicate N 1 := by
  rw [List.eq_replicate_iff]
  refine ⟨by simp [seenL], fun d hd => ?_⟩
  obtain ⟨j, hj, rfl⟩ := List.mem_map.1 (show d ∈ (List.range N).map _ from hd)
  have hj := List.mem_range.1 hj
  exact if_pos (.inl (by rw [List.take_length]; exact h j hj))
/-! ### what moves -/
theorem sum_all {g : Nat → Bool} {f : Nat → Nat} : ∀ m, (∀ i, i < m → g i = true → f i < 64) → ((List.range 64).map fun c => cntB g f m c).sum = (((List.range m).filter g).length : Nat)
  | 0, _ => by
    rw [cntB_0]
    show ((List.range 64).map fun _ => (0 : Int)).sum = 0
    decide
  | m + 1, hf => by
    have ih := sum_all m (fun i hi => hf i (by omega))
    cases hg : g m with
    | false =>
      rw [cntB_no hg, ih, List.range_succ, List.filter_append]
      simp [hg]
    | true =>
      rw [cntB_yes hg]
      have key : ∀ (F : Nat → Int) (a : Nat) (q : Nat), ((List.range q).map fun c => updF F a (F a + 1) c).sum = ((List.range q).map F).sum + if a < q then 1 else 0 := fun F a q => by
        induction q with
        | zero => simp
        | succ q ihq =>
          rw [List.range_succ, List.map_append, List.sum_append, ihq, List.map_append, List.sum_append]
          simp only [List.map_cons, List.map_nil, List.sum_cons, List.sum_nil]
          unfold updF
          by_cases h1 : q = a
          · subst h1; rw [if_pos rfl, if_neg (by omega), if_pos (by omega)]; omega
          · rw [if_neg h1]
            by_cases h2 : a < q
            · rw [if_pos h2, if_pos (by omega)]; omega
            · rw [if_neg h2, if_neg (by omega)]; omega
      have k2 := key (cntB g f m) (f m) 64
      have e1 : (fun c => updF (cntB g f m) (f m) (cntB g f m (f m) + 1) c) = updF (cntB g f m) (f m) (cntB g f m (f m) + 1) := rfl
      rw [k2, if_pos (hf m (by omega) hg)]
      have e2 : ((List.range 64).map (cntB g f m)).sum = (((List.range m).filter g).length : Nat) := ih
      rw [e2, List.range_succ, List.filter_append]
      simp [hg]
theorem sum_ents (F : Nat → Int) (h0 : ∀ c, 0 ≤ F c) : ∀ q, (((List.range q).filter fun c => decide (0 < F c)).map F).sum = ((List.range q).map F).sum
  | 0 => rfl
  | q + 1 => by
    rw [List.range_succ, List.filter_append, List.map_append, List.sum_append, sum_ents F h0 q, List.map_append, List.sum_append]
    by_cases h : 0 < F q
    · simp [h]
    · have := h0 q
      have e : F q = 0 := by omega
      simp [e]
theorem mvE_self {s : ByteArray} {n o : Int} {rs : List Rg} (h : errD s n o rs = 0) (s' : ByteArray) (n' o' : Int) : mvE s n o rs s' n' o' rs = if vdB s' n' o' = true then 0 else 70 := by
  unfold mvE
  cases hv : vdB s' n' o'
  · rfl
  · rw [if_pos rfl, if_pos h, if_pos rfl]
    have : errD s' n' o' rs = 0 := by unfold errD; rw [if_pos hv, if_pos (errD_ok h).2]
    rw [if_pos this, if_pos rfl]
set_option maxHeartbeats 16000000 in
theorem law_d (s : ByteArray) (n o : Int) (s' : ByteArray) (n' o' : Int) (rs : List Rg) : DC Try.prog 22 [dsD s n o, dsD s' n' o', domD rs] (bD true) := by
  obtain ⟨bf, FW⟩ := few_d rs
  have IX := dIndexes_d rs
  by_cases he : errD s n o rs = 0
  case neg =>
    have LB := Leader_bad he
    generalize errD s n o rs = e at *
    generalize dIndexesRes rs = r at *
    obtain ⟨r1, r2⟩ := r
    dsimp only at IX
    cases bf
    all_goals
      refine DC.of Try.func22 Try.ntmps22 Try.results22 rfl (by decide +kernel) rfl ?_
      repeat (first | refine Z1 ?_ | refine Z2 ?_ | (refine Z3 ?_; (repeat (first | (apply gS; first | refine go_no ?_ | refine go_f ?_ | refine gx ?_ | refine gm ?_ | refine gp ?_ | refine go_c rfl rfl (LB) ?_ | refine go_cF rfl rfl (LB) ?_ | refine go_cA rfl rfl (LB) ?_ | refine go_c rfl rfl (IX) ?_ | refine go_cF rfl rfl (IX) ?_ | refine go_cA rfl rfl (IX) ?_ | refine go_c rfl rfl (FW) ?_ | refine go_cF rfl rfl (FW) ?_ | refine go_cA rfl rfl (FW) ?_ | refine go_c rfl rfl (first7_d) ?_ | refine go_cF rfl rfl (first7_d) ?_ | refine go_cA rfl rfl (first7_d) ?_) | (apply gZ; first | refine go_f ?_ | refine gx ?_ | refine gm ?_))); refine T_nil ?_) | (apply ZR; (try dsimp only [List.map_cons, List.map_nil]); refine C_dr mixed ?_; (repeat (first | (apply vS; first | refine vn ?_ | refine va ?_ | refine vp ?_ | refine vr ?_ | refine vt ?_ | refine vc (LB) ?_ | refine vcF (LB) ?_ | refine vc (IX) ?_ | refine vcF (IX) ?_ | refine vc (FW) ?_ | refine vcF (FW) ?_ | refine vc (first7_d) ?_ | refine vcF (first7_d) ?_) | (apply vZ; first | refine vs ?_ | refine vw ?_))); refine W_e ?_) | (apply ZK; first | refine Z4 ?_ | refine Z5 ?_) | refine Z6 ?_ | refine Z7 ?_ | refine Z8 ?_ | refine Z9 ?_ | refine ZA ?_ | refine ZB ?_ | refine ZC ?_ | refine ZD ?_ | refine ZE ?_ | refine ZF ?_ | refine ZG ?_ | refine ZH ?_)
      repeat (first | refine kEnd_m ?_ | refine kEnd_f ?_)
      refine kEnd_g ?_ (by first | exact .inl rfl | exact .inr rfl)
      exact Sub.eq rfl rfl
  obtain ⟨hv, hd⟩ := errD_ok he
  have hmE := mvE_self he s' n' o'
  have V2 := tValid_d s' n' o'
  obtain ⟨k, n, o, rfl, rfl, hk⟩ := vdB_ok hv
  obtain ⟨c0, ct, hc, hs⟩ := canon_sp hd
  have LB := Leader_ok hk hd hc hs
  rw [show dIndexesRes rs = (idxs rs, 0) from if_pos hd] at IX
  dsimp only at IX
  have LO := Load_ok hk hd hc hs
  have hlead := lead_eq k n o c0 ct
  have hQn := placesQ_nodup k n o c0 ct
  have hQm : ∀ p, p ∈ placesQ k n o c0 ct ↔ p < o ∧ 0 < (partsOf k n o c0 ct p).length := fun p => by simp [placesQ]
  have h8 := hk.ok.o8
  obtain ⟨i1, i2, i3⟩ := canon_cnt hd hc
  have hlen : (idxs rs).length = cN c0 * iN c0 ct := by rw [idxs_len, i2]
  have hP : cN c0 * iN c0 ct ≤ 4096 := by rw [iN_mul]; exact (domB_iff.1 hs.dom).2.2
  have hget : ∀ i (h : i < (idxs rs).length), (idxs rs)[i] = ithX (c0 :: ct) i := fun i h => by
    have h2 : i < cN c0 * iN c0 ct := by rw [← hlen]; exact h
    rw [← ith_can hd hc h2]
    have := idxs_get rs i (by rw [i2]; exact h2)
    rw [List.getElem?_eq_getElem h] at this
    exact Option.some.inj this
  cases bf
  case false =>
    clear hQm hQn hlead
    generalize leadL k n o c0 ct o = ld at *
    generalize idxs rs = l at *
    refine DC.of Try.func22 Try.ntmps22 Try.results22 rfl (by decide +kernel) rfl ?_
    repeat (first | refine Z1 ?_ | refine Z2 ?_ | (refine Z3 ?_; (repeat (first | (apply gS; first | refine go_no ?_ | refine go_f ?_ | refine gx ?_ | refine gm ?_ | refine gp ?_ | refine go_c rfl rfl (LB) ?_ | refine go_cF rfl rfl (LB) ?_ | refine go_cA rfl rfl (LB) ?_ | refine go_c rfl rfl (IX) ?_ | refine go_cF rfl rfl (IX) ?_ | refine go_cA rfl rfl (IX) ?_ | refine go_c rfl rfl (FW) ?_ | refine go_cF rfl rfl (FW) ?_ | refine go_cA rfl rfl (FW) ?_ | refine go_c rfl rfl (first7_d) ?_ | refine go_cF rfl rfl (first7_d) ?_ | refine go_cA rfl rfl (first7_d) ?_) | (apply gZ; first | refine go_f ?_ | refine gx ?_ | refine gm ?_))); refine T_nil ?_) | (apply ZR; (try dsimp only [List.map_cons, List.map_nil]); refine C_dr mixed ?_; (repeat (first | (apply vS; first | refine vn ?_ | refine va ?_ | refine vp ?_ | refine vr ?_ | refine vt ?_ | refine vc (LB) ?_ | refine vcF (LB) ?_ | refine vc (IX) ?_ | refine vcF (IX) ?_ | refine vc (FW) ?_ | refine vcF (FW) ?_ | refine vc (first7_d) ?_ | refine vcF (first7_d) ?_) | (apply vZ; first | refine vs ?_ | refine vw ?_))); refine W_e ?_) | (apply ZK; first | refine Z4 ?_ | refine Z5 ?_) | refine Z6 ?_ | refine Z7 ?_ | refine Z8 ?_ | refine Z9 ?_ | refine ZA ?_ | refine ZB ?_ | refine ZC ?_ | refine ZD ?_ | refine ZE ?_ | refine ZF ?_ | refine ZG ?_ | refine ZH ?_)
    repeat (first | refine kEnd_m ?_ | refine kEnd_f ?_)
    refine kEnd_g ?_ (by first | exact .inl rfl | exact .inr rfl)
    exact Sub.eq rfl rfl
  have hll : (loadsL k n o (cN c0) (iN c0 ct)).length = o := loadJ_len _ _ _ _ _ _
  have hlg : ∀ p (h : p < (loadsL k n o (cN c0) (iN c0 ct)).length), (loadsL k n o (cN c0) (iN c0 ct))[p] = (((ow k n o (cN c0) p).length * iN c0 ct : Nat) : Int) := fun p h => by simp [loadsL, loadJ, ow_cnt]
  obtain ⟨fO, hfO⟩ : ∃ fO : Nat → Nat, ∀ j, fO j = own k n o (cN c0) (j / iN c0 ct) := ⟨_, fun _ => rfl⟩
  obtain ⟨lO, hlO⟩ : ∃ lO : Nat → Nat, ∀ j, lO j = locN k n o c0 ct j := ⟨_, fun _ => rfl⟩
  -- a chunk
  have chunk : ∀ i (hi : i < (leadL k n o c0 ct o).length) (hq : i < (placesQ k n o c0 ct).length), ∃ xs : List (List Int), (leadL k n o c0 ct o)[i].1 = (((placesQ k n o c0 ct)[i] : Nat) : Int) ∧ (placesQ k n o c0 ct)[i] < o ∧
      DC Try.prog 86 [chD (leadL k n o c0 ct o)[i].1 (leadL k n o c0 ct o)[i].2] (.tup [rowL2 xs, iD 0]) ∧ (∀ hp : (placesQ k n o c0 ct)[i] < (loadsL k n o (cN c0) (iN c0 ct)).length, (loadsL k n o (cN c0) (iN c0 ct))[(placesQ k n o c0 ct)[i]] = (xs.length : Int)) ∧ xs.length ≤ 4096 ∧
      (∀ r (hr : r < xs.length), ∃ a : Nat, a < (idxs rs).length ∧ DC Try.prog 55 [dsD s n o, domD rs, rowI xs[r]] (.tup [iD ((placesQ k n o c0 ct)[i] : Nat), iD 0]) ∧ DC Try.prog 26 [domD rs, rowI xs[r]] (.tup [iD a, iD 0]) ∧
        fO a = (placesQ k n o c0 ct)[i] ∧ lO a = r ∧ ∀ j, j < (idxs rs).length → fO j = (placesQ k n o c0 ct)[i] → lO j = r → j = a) ∧
      (∀ j, j < (idxs rs).length → fO j = (placesQ k n o c0 ct)[i] → lO j < xs.length) := fun i hi hq => by
    have e : (leadL k n o c0 ct o)[i] = (((placesQ k n o c0 ct)[i] : Int), partsOf k n o c0 ct (placesQ k n o c0 ct)[i]) := by simp only [hlead, List.getElem_map]
    rw [e]
    obtain ⟨hpo, hpl⟩ := (hQm _).1 (List.getElem_mem hq)
    generalize (placesQ k n o c0 ct)[i] = p at *
    obtain ⟨x1, x2⟩ := partsOf_X hk.ok hs p
    have hchB : chB p (partsOf k n o c0 ct p) = true := by
      unfold chB
      rw [Bool.and_eq_true, Bool.and_eq_true]
      exact ⟨List.all_eq_true.2 x2, decide_eq_true (by omega), decide_eq_true (by omega)⟩
    have hXl : (plX c0 ct (ow k n o (cN c0) p)).length = (ow k n o (cN c0) p).length * iN c0 ct := by
      rw [plX_len]
      by_cases hz : cN c0 = 0
      · have : ow k n o (cN c0) p = [] := by rw [hz]; rfl
        rw [this]; simp
      · have : iN c0 ct = prodN (cl ct) := by unfold iN; rw [if_neg hz]
        rw [this]
    have hXb : (plX c0 ct (ow k n o (cN c0) p)).length ≤ 4096 := by
      rw [hXl]
      exact Nat.le_trans (Nat.mul_le_mul_right _ (ow_len k n o (cN c0) p)) hP
    have hpsl : (partsOf k n o c0 ct p).length ≤ 1000000000 := by
      unfold partsOf
      rw [List.length_map]
      have hr := runsOf_S k n o c0 p
      have hg := hr.get
      have key : ∀ q, q ≤ (runsOf k n o c0 p).length → q ≤ cutAt (runsOf k n o c0 p) q := fun q => by
        induction q with
        | zero => intro _; omega
        | succ q ih =>
          intro hq
          have := ih (by omega)
          rw [cutAt_succ (show q < (runsOf k n o c0 p).length by omega)]
          have := (hg q (by omega)).1
          omega
      have h1 := key _ (Nat.le_refl _)
      have h2 := cutAt_le (runsOf k n o c0 p) (runsOf k n o c0 p).length
      rw [hr.flat] at h2
      have h3 := ow_len k n o (cN c0) p
      have h4 := hs.few
      omega
    have IN := iIndexes_ok (p : Nat) (partsOf k n o c0 ct p) hpsl hchB
    rw [x1] at IN
    refine ⟨_, rfl, hpo, IN, fun hp => by rw [hlg, hXl], hXb, fun r hr => ?_, fun j hj hf => ?_⟩
    · obtain ⟨a, a1, a2, a3, a4⟩ := piece_at hk.ok hs hr
      rw [a2]
      have O := Owner_d hk hd hc hs (ithX (c0 :: ct) a)
      obtain ⟨w1, w2, w3, w4, w5, w6⟩ := own_at hk.ok hs a1
      obtain ⟨f1, f2, f3, f4⟩ := at_find hs a1
      rw [w3, f4, a3] at O
      have P := dPlace_d rs (ithX (c0 :: ct) a)
      have hpp : dPlaceRes rs (ithX (c0 :: ct) a) = (((a : Nat) : Int), 0) := by
        have hai : a < (idxs rs).length := by rw [hlen]; exact a1
        obtain ⟨_, hvv, _⟩ := domB_iff.1 hd
        rw [← ith_can hd hc a1]
        obtain ⟨q1, q2⟩ := ithX_in hvv (show a < prodN (cl rs) by rw [i2]; exact a1)
        unfold dPlaceRes
        rw [if_pos hd, if_pos (ithX_len rs a), if_pos q1, q2 0, Nat.zero_mul, Nat.zero_add]
      rw [hpp] at P
      refine ⟨a, by rw [hlen]; exact a1, O, P, by rw [hfO]; exact a3, by rw [hlO]; exact a4, fun j hj hf hl => ?_⟩
      rw [hlen] at hj
      rw [hfO] at hf
      rw [hlO] at hl
      exact loc_inj hk.ok hs hj a1 (by rw [hf, a3]) (by rw [hl, a4])
    · rw [hlen] at hj
      rw [hfO] at hf
      rw [hlO, hXl]
      have := (loc_at hk.ok hs hj).1
      rw [hf] at this
      exact this
  have hall : ∀ j, j < (idxs rs).length → fO j ∈ placesQ k n o c0 ct := fun j hj => by
    rw [hlen] at hj
    obtain ⟨w1, w2, w3, w4, w5, w6⟩ := own_at hk.ok hs hj
    rw [hfO, hQm]
    refine ⟨w4, ?_⟩
    unfold partsOf
    rw [List.length_map]
    refine Nat.pos_of_ne_zero fun e => ?_
    have hr := (runsOf_S k n o c0 (own k n o (cN c0) (j / iN c0 ct))).flat
    rw [List.eq_nil_of_length_eq_zero e] at hr
    rw [← hr] at w5
    simp at w5
  -- what moves
  have hOw : ∀ i (h : i < (idxs rs).length), DC Try.prog 55 [dsD s n o, domD rs, rowI (idxs rs)[i]] (.tup [iD (own k n o (cN c0) (i / iN c0 ct) : Nat), iD 0]) := fun i h => by
    have hi : i < cN c0 * iN c0 ct := by rw [← hlen]; exact h
    have O := Owner_d hk hd hc hs (ithX (c0 :: ct) i)
    obtain ⟨w1, w2, w3, w4, w5, w6⟩ := own_at hk.ok hs hi
    obtain ⟨f1, f2, f3, f4⟩ := at_find hs hi
    rw [w3, f4] at O
    rw [hget i h]; exact O
  have MV : (vdB s' n' o' = false ∧ DC Try.prog 69 [dsD s n o, domD rs, dsD s' n' o', domD rs] (.tup [.row 0 [], iD 70])) ∨ (vdB s' n' o' = true ∧ ∃ (F : Nat → Int) (g : Nat → Bool), DC Try.prog 69 [dsD s n o, domD rs, dsD s' n' o', domD rs] (.tup [cntsD kdMove F, iD 0]) ∧ (∀ c, 0 ≤ F c ∧ F c ≤ 4096) ∧
      ((List.range 64).map F).sum = (((List.range (idxs rs).length).filter g).length : Nat) ∧ ∀ i (h : i < (idxs rs).length), ∃ (a b : Nat) (e : Int), DC Try.prog 55 [dsD s n o, domD rs, rowI (idxs rs)[i]] (.tup [iD a, iD 0]) ∧ DC Try.prog 55 [dsD s' n' o', domD rs, rowI (idxs rs)[i]] (.tup [iD b, iD e]) ∧ (g i = true ↔ a ≠ b)) := by
    cases hv2 : vdB s' n' o'
    · refine .inl ⟨rfl, ?_⟩
      have hne : mvE s n o rs s' n' o' rs = 70 := by rw [hmE, hv2]; rfl
      have B := Moves_bad (s := s) (n := n) (o := o) (rs := rs) (s' := s') (n' := n') (o' := o') (es := rs) (by rw [hne]; decide)
      rwa [hne] at B
    · refine .inr ⟨rfl, ?_⟩
      obtain ⟨k', n', o', rfl, rfl, hk'⟩ := vdB_ok hv2
      refine ⟨_, mvB k n o c0 ct k' n' o' c0 ct, Moves_ok hk hd hc hs hk' hd hc hs rfl, fun c => ?_, ?_, fun i h => ?_⟩
      · have := cntB_le (mvB k n o c0 ct k' n' o' c0 ct) (mvC k n o c0 ct k' n' o' c0 ct) (cN c0 * iN c0 ct) c
        unfold mvF
        omega
      · rw [hlen]
        refine sum_all _ (fun i hi2 hi => ?_)
        unfold mvC
        have q1 := ownV_lt hk'.ok hs (ithX (c0 :: ct) i)
        have q2 : own k n o (cN c0) (i / iN c0 ct) < o := (own_at hk.ok hs hi2).2.2.2.1
        have := hk'.ok.o8
        omega
      · have hi : i < cN c0 * iN c0 ct := by rw [← hlen]; exact h
        obtain ⟨w1, w2, w3, w4, w5, w6⟩ := own_at hk.ok hs hi
        obtain ⟨f1, f2, f3, f4⟩ := at_find hs hi
        have O2 := Owner_d hk' hd hc hs (ithX (c0 :: ct) i)
        refine ⟨_, _, _, hOw i h, by rw [hget i h]; exact O2, ?_⟩
        unfold mvB
        rw [decide_eq_true_iff, f4]
        exact ⟨fun h => h.2, fun h => ⟨rfl, h⟩⟩
  have hQ := hQn
  have hseen := fun (i r a : Nat) (hi : i < (placesQ k n o c0 ct).length) (ha : a < (idxs rs).length) (h1 : fO a = (placesQ k n o c0 ct)[i]) (h2 : lO a = r) (h3 : ∀ j, j < (idxs rs).length → fO j = (placesQ k n o c0 ct)[i] → lO j = r → j = a) => seen_step (f := fO) (lo := lO) hQ hi ha h1 h2 h3
  have hnext := fun (i m : Nat) (hi : i < (placesQ k n o c0 ct).length) (hb : ∀ j, j < (idxs rs).length → fO j = (placesQ k n o c0 ct)[i] → lO j < m) => seen_next (f := fO) (lo := lO) (N := (idxs rs).length) hi hb
  have hs0 := seen_0 fO lO (placesQ k n o c0 ct) (idxs rs).length
  have hsE := seen_end (f := fO) (lo := lO) hall
  have hsl := fun i r => seenL_len fO lO (placesQ k n o c0 ct) (idxs rs).length i r
  have hsb : ∀ i r j, 0 ≤ seenF fO lO (placesQ k n o c0 ct) i r j ∧ seenF fO lO (placesQ k n o c0 ct) i r j ≤ 1 := fun i r j => by unfold seenF; split <;> omega
  have hLQ : (leadL k n o c0 ct o).length = (placesQ k n o c0 ct).length := by rw [hlead, List.length_map]
  have hQl : (placesQ k n o c0 ct).length ≤ 8 := by
    have := List.length_filter_le (fun p => decide (0 < (partsOf k n o c0 ct p).length)) (List.range o)
    rw [List.length_range] at this
    have h : (placesQ k n o c0 ct).length = _ := rfl
    unfold placesQ at h ⊢
    omega
  have hNb : (idxs rs).length ≤ 4096 := by omega
  obtain ⟨SL, hSL⟩ : ∃ SL : Nat → Nat → List Int, ∀ i r, SL i r = seenL fO lO (placesQ k n o c0 ct) (idxs rs).length i r := ⟨_, fun _ _ => rfl⟩
  simp only [← hSL] at hseen hnext hs0 hsE hsl
  clear hSL hsb hall hQm hQn hQ hlead hlg hget hlO hfO hmE hP i1 i2 i3
  generalize leadL k n o c0 ct o = ld at *
  generalize placesQ k n o c0 ct = Q at *
  generalize loadsL k n o (cN c0) (iN c0 ct) = LL at *
  subst hll
  clear hlen
  -- what the marks are
  obtain ⟨W, hW⟩ : ∃ W : Nat → Nat, W 0 = 0 ∧ True := ⟨fun _ => 0, rfl, trivial⟩
  clear hW W
  have hE1 : ∀ i (h : i < (SL Q.length 0).length), (SL Q.length 0)[i] = 1 := fun i h => by
    have h1 : (SL Q.length 0)[i] ∈ SL Q.length 0 := List.getElem_mem h
    have h2 : ∀ L : List Int, L = List.replicate (idxs rs).length 1 → ∀ x ∈ L, x = 1 := fun L e x hx => by rw [e] at hx; exact List.eq_of_mem_replicate hx
    exact h2 _ hsE _ h1
  have hEl : (SL Q.length 0).length = (idxs rs).length := by have := hsl Q.length 0; simpa [intsD] using this
  clear hsE
  generalize idxs rs = l at *
  refine DC.of Try.func22 Try.ntmps22 Try.results22 rfl (by decide +kernel) rfl ?_
  repeat (first | refine Z1 ?_ | refine Z2 ?_ | (refine Z3 ?_; (repeat (first | (apply gS; first | refine go_no ?_ | refine go_f ?_ | refine gx ?_ | refine gm ?_ | refine gp ?_ | refine go_c rfl rfl (LB) ?_ | refine go_cF rfl rfl (LB) ?_ | refine go_cA rfl rfl (LB) ?_ | refine go_c rfl rfl (IX) ?_ | refine go_cF rfl rfl (IX) ?_ | refine go_cA rfl rfl (IX) ?_ | refine go_c rfl rfl (FW) ?_ | refine go_cF rfl rfl (FW) ?_ | refine go_cA rfl rfl (FW) ?_ | refine go_c rfl rfl (LO) ?_ | refine go_cF rfl rfl (LO) ?_ | refine go_cA rfl rfl (LO) ?_ | refine go_c rfl rfl (first7_d) ?_ | refine go_cF rfl rfl (first7_d) ?_ | refine go_cA rfl rfl (first7_d) ?_) | (apply gZ; first | refine go_f ?_ | refine gx ?_ | refine gm ?_))); refine T_nil ?_) | (apply ZR; (try dsimp only [List.map_cons, List.map_nil]); refine C_dr mixed ?_; (repeat (first | (apply vS; first | refine vn ?_ | refine va ?_ | refine vp ?_ | refine vr ?_ | refine vt ?_ | refine vc (LB) ?_ | refine vcF (LB) ?_ | refine vc (IX) ?_ | refine vcF (IX) ?_ | refine vc (FW) ?_ | refine vcF (FW) ?_ | refine vc (LO) ?_ | refine vcF (LO) ?_ | refine vc (first7_d) ?_ | refine vcF (first7_d) ?_) | (apply vZ; first | refine vs ?_ | refine vw ?_))); refine W_e ?_) | (apply ZK; first | refine Z4 ?_ | refine Z5 ?_) | refine Z6 ?_ | refine Z7 ?_ | refine Z8 ?_ | refine Z9 ?_ | refine ZA ?_ | refine ZB ?_ | refine ZC ?_ | refine ZD ?_ | refine ZE ?_ | refine ZF ?_ | refine ZG ?_ | refine ZH ?_)
  refine C_count ld.length (fun _ => True) (fun i => ⟨4, 235, [(13, iD i), (7, chsD ld), (9, rowL2 l), (11, .own 3 l.length), (12, rowI LL), (3, .ptr 0 0), (4, .ptr 1 0), (5, .ptr 2 0)], [(0, some ⟨63, 3, 1, [sD s, iD n, iD LL.length]⟩), (1, some ⟨63, 3, 1, [sD s', iD n', iD o']⟩), (2, some ⟨24, 1, 1, [rowR rs]⟩), (3, some ⟨3, 1, l.length, intsD (SL i 0)⟩)]⟩) ?_ trivial ?_
  · rw [hs0]
    exact Wk.gx (fun b => b)
  · intro i hi _
    by_cases hil : i < ld.length
    · have hiQ : i < Q.length := by omega
      obtain ⟨xs, c1, c2, c3, c4, c5, c6, c7⟩ := chunk i hil hiQ
      have d1 : (ld[i].1).toNat = Q[i] := by rw [c1]; simp
      have c8 : ∀ hp : (ld[i].1).toNat < LL.length, LL[(ld[i].1).toNat] = (xs.length : Int) := fun hp => by
        have := c4 (by omega)
        simp only [d1]; exact this
      have c9 := c8 (by omega)
      have hn := hnext i xs.length hiQ c7
      have hsd := fun r a => hseen i r a hiQ
      clear chunk c8 c4 c7 hseen hnext hE1 hEl MV hOw hs0
      repeat (first | refine Z1 ?_ | refine Z2 ?_ | (refine Z3 ?_; (repeat (first | (apply gS; first | refine go_no ?_ | refine go_f ?_ | refine gx ?_ | refine gm ?_ | refine gp ?_ | refine go_c rfl rfl (c3) ?_ | refine go_cF rfl rfl (c3) ?_ | refine go_cA rfl rfl (c3) ?_) | (apply gZ; first | refine go_f ?_ | refine gx ?_ | refine gm ?_))); refine T_nil ?_) | (apply ZR; (try dsimp only [List.map_cons, List.map_nil]); refine C_dr mixed ?_; (repeat (first | (apply vS; first | refine vn ?_ | refine va ?_ | refine vp ?_ | refine vr ?_ | refine vt ?_ | refine vc (c3) ?_ | refine vcF (c3) ?_) | (apply vZ; first | refine vs ?_ | refine vw ?_))); refine W_e ?_) | (apply ZK; first | refine Z4 ?_ | refine Z5 ?_) | refine Z6 ?_ | refine Z7 ?_ | refine Z8 ?_ | refine Z9 ?_ | refine ZA ?_ | refine ZB ?_ | refine ZC ?_ | refine ZD ?_ | refine ZE ?_ | refine ZF ?_ | refine ZG ?_ | refine ZH ?_)
      refine C_count xs.length (fun _ => True) (fun r => ⟨4, 235, [(17, iD r), (14, rowL2 xs), (16, iD ld[i].1), (13, iD i), (7, chsD ld), (9, rowL2 l), (11, .own 3 l.length), (12, rowI LL), (3, .ptr 0 0), (4, .ptr 1 0), (5, .ptr 2 0)], [(0, some ⟨63, 3, 1, [sD s, iD n, iD LL.length]⟩), (1, some ⟨63, 3, 1, [sD s', iD n', iD o']⟩), (2, some ⟨24, 1, 1, [rowR rs]⟩), (3, some ⟨3, 1, l.length, intsD (SL i r)⟩)]⟩) ?_ trivial ?_
      · exact Wk.gx (fun b => b)
      · intro r hr _
        by_cases hrl : r < xs.length
        · obtain ⟨a, e1, e2, e3, e4, e5, e6⟩ := c6 r hrl
          obtain ⟨g1, g2⟩ := hsd r a e1 e4 e5 e6
          have g3 := hsl i r
          clear c6 hsd e6
          have c1' : ((Q[i] : Nat) : Int) = ld[i].1 := c1.symm
          rw [c1'] at e2
          clear c1'
          repeat (first | refine Z1 ?_ | refine Z2 ?_ | (refine Z3 ?_; (repeat (first | (apply gS; first | refine go_no ?_ | refine go_f ?_ | refine gx ?_ | refine gm ?_ | refine gp ?_ | refine go_c rfl rfl (e2) ?_ | refine go_cF rfl rfl (e2) ?_ | refine go_cA rfl rfl (e2) ?_ | refine go_c rfl rfl (e3) ?_ | refine go_cF rfl rfl (e3) ?_ | refine go_cA rfl rfl (e3) ?_) | (apply gZ; first | refine go_f ?_ | refine gx ?_ | refine gm ?_))); refine T_nil ?_) | (apply ZR; (try dsimp only [List.map_cons, List.map_nil]); refine C_dr mixed ?_; (repeat (first | (apply vS; first | refine vn ?_ | refine va ?_ | refine vp ?_ | refine vr ?_ | refine vt ?_ | refine vc (e2) ?_ | refine vcF (e2) ?_ | refine vc (e3) ?_ | refine vcF (e3) ?_) | (apply vZ; first | refine vs ?_ | refine vw ?_))); refine W_e ?_) | (apply ZK; first | refine Z4 ?_ | refine Z5 ?_) | refine Z6 ?_ | refine Z7 ?_ | refine Z8 ?_ | refine Z9 ?_ | refine ZA ?_ | refine ZB ?_ | refine ZC ?_ | refine ZD ?_ | refine ZE ?_ | refine ZF ?_ | refine ZG ?_ | refine ZH ?_)
          refine kLoop_n ⟨hrl, trivial, ?_⟩
          exact Wk.gx (fun b => b)
        · obtain rfl : r = xs.length := by omega
          rw [hn]
          clear c6 hsd
          repeat (first | refine Z1 ?_ | refine Z2 ?_ | (refine Z3 ?_; (repeat (first | (apply gS; first | refine go_no ?_ | refine go_f ?_ | refine gx ?_ | refine gm ?_ | refine gp ?_) | (apply gZ; first | refine go_f ?_ | refine gx ?_ | refine gm ?_))); refine T_nil ?_) | (apply ZR; (try dsimp only [List.map_cons, List.map_nil]); refine C_dr mixed ?_; (repeat (first | (apply vS; first | refine vn ?_ | refine va ?_ | refine vp ?_ | refine vr ?_ | refine vt ?_) | (apply vZ; first | refine vs ?_ | refine vw ?_))); refine W_e ?_) | (apply ZK; first | refine Z4 ?_ | refine Z5 ?_) | refine Z6 ?_ | refine Z7 ?_ | refine Z8 ?_ | refine Z9 ?_ | refine ZA ?_ | refine ZB ?_ | refine ZC ?_ | refine ZD ?_ | refine ZE ?_ | refine ZF ?_ | refine ZG ?_ | refine ZH ?_)
          refine kLoop_n ⟨hil, trivial, ?_⟩
          exact Wk.gx (fun b => b)
    · obtain rfl : i = ld.length := by omega
      rw [hLQ]
      have g3 := hsl Q.length 0
      clear chunk hseen hnext hs0 hsl
      generalize SL Q.length 0 = S1 at *
      repeat (first | refine Z1 ?_ | refine Z2 ?_ | (refine Z3 ?_; (repeat (first | (apply gS; first | refine go_no ?_ | refine go_f ?_ | refine gx ?_ | refine gm ?_ | refine gp ?_) | (apply gZ; first | refine go_f ?_ | refine gx ?_ | refine gm ?_))); refine T_nil ?_) | (apply ZR; (try dsimp only [List.map_cons, List.map_nil]); refine C_dr mixed ?_; (repeat (first | (apply vS; first | refine vn ?_ | refine va ?_ | refine vp ?_ | refine vr ?_ | refine vt ?_) | (apply vZ; first | refine vs ?_ | refine vw ?_))); refine W_e ?_) | (apply ZK; first | refine Z4 ?_ | refine Z5 ?_) | refine Z6 ?_ | refine Z7 ?_ | refine Z8 ?_ | refine Z9 ?_ | refine ZA ?_ | refine ZB ?_ | refine ZC ?_ | refine ZD ?_ | refine ZE ?_ | refine ZF ?_ | refine ZG ?_ | refine ZH ?_)
      refine C_count l.length (fun _ => True) (fun i => ⟨4, 235, [(22, iD i), (9, rowL2 l), (11, .own 3 l.length), (3, .ptr 0 0), (4, .ptr 1 0), (5, .ptr 2 0)], [(0, some ⟨63, 3, 1, [sD s, iD n, iD LL.length]⟩), (1, some ⟨63, 3, 1, [sD s', iD n', iD o']⟩), (2, some ⟨24, 1, 1, [rowR rs]⟩), (3, some ⟨3, 1, l.length, intsD S1⟩)]⟩) ?_ trivial ?_
      · exact Wk.gx (fun b => b)
      · intro i hi _
        by_cases hil : i < l.length
        · have u1 := hE1 i (by omega)
          have u2 : (intsD S1)[(((i : Nat) : Int).toNat) * 1]? = some (iD 1) := by
            rw [Int.toNat_natCast, Nat.mul_one, List.getElem?_map, List.getElem?_eq_getElem (by omega), u1]; rfl
          clear hE1 MV hOw
          repeat (first | refine Z1 ?_ | refine Z2 ?_ | (refine Z3 ?_; (repeat (first | (apply gS; first | refine go_no ?_ | refine go_f ?_ | refine gx ?_ | refine gm ?_ | refine gp ?_) | (apply gZ; first | refine go_f ?_ | refine gx ?_ | refine gm ?_))); refine T_nil ?_) | (apply ZR; (try dsimp only [List.map_cons, List.map_nil]); refine C_dr mixed ?_; (repeat (first | (apply vS; first | refine vn ?_ | refine va ?_ | refine vp ?_ | refine vr ?_ | refine vt ?_) | (apply vZ; first | refine vs ?_ | refine vw ?_))); refine W_e ?_) | (apply ZK; first | refine Z4 ?_ | refine Z5 ?_) | refine Z6 ?_ | refine Z7 ?_ | refine Z8 ?_ | refine Z9 ?_ | refine ZA ?_ | refine ZB ?_ | refine ZC ?_ | refine ZD ?_ | refine ZE ?_ | refine ZF ?_ | refine ZG ?_ | refine ZH ?_)
          refine kLoop_n ⟨hil, trivial, ?_⟩
          exact Wk.gx (fun b => b)
        · obtain rfl : i = l.length := by omega
          clear hE1
          rcases MV with ⟨v0, M0⟩ | ⟨v1, F, gg, M1, hF, hsum, hgg⟩
          · rw [v0] at V2
            clear hOw
            repeat (first | refine Z1 ?_ | refine Z2 ?_ | (refine Z3 ?_; (repeat (first | (apply gS; first | refine go_no ?_ | refine go_f ?_ | refine gx ?_ | refine gm ?_ | refine gp ?_ | refine go_c rfl rfl (M0) ?_ | refine go_cF rfl rfl (M0) ?_ | refine go_cA rfl rfl (M0) ?_ | refine go_c rfl rfl (V2) ?_ | refine go_cF rfl rfl (V2) ?_ | refine go_cA rfl rfl (V2) ?_ | refine go_c rfl rfl (first7_d) ?_ | refine go_cF rfl rfl (first7_d) ?_ | refine go_cA rfl rfl (first7_d) ?_) | (apply gZ; first | refine go_f ?_ | refine gx ?_ | refine gm ?_))); refine T_nil ?_) | (apply ZR; (try dsimp only [List.map_cons, List.map_nil]); refine C_dr mixed ?_; (repeat (first | (apply vS; first | refine vn ?_ | refine va ?_ | refine vp ?_ | refine vr ?_ | refine vt ?_ | refine vc (M0) ?_ | refine vcF (M0) ?_ | refine vc (V2) ?_ | refine vcF (V2) ?_ | refine vc (first7_d) ?_ | refine vcF (first7_d) ?_) | (apply vZ; first | refine vs ?_ | refine vw ?_))); refine W_e ?_) | (apply ZK; first | refine Z4 ?_ | refine Z5 ?_) | refine Z6 ?_ | refine Z7 ?_ | refine Z8 ?_ | refine Z9 ?_ | refine ZA ?_ | refine ZB ?_ | refine ZC ?_ | refine ZD ?_ | refine ZE ?_ | refine ZF ?_ | refine ZG ?_ | refine ZH ?_)
            repeat (first | refine kEnd_m ?_ | refine kEnd_f ?_)
            refine kEnd_g ?_ (by first | exact .inl rfl | exact .inr rfl)
            exact Sub.eq rfl rfl
          · have hEn := ents_le F 64
            have hS2 : (((ents F 64).map F).sum) = (((List.range l.length).filter gg).length : Nat) := by
              rw [← hsum]
              exact sum_ents F (fun c => (hF c).1) 64
            obtain ⟨N, hN⟩ : ∃ N : Nat → Int, N 0 = 0 ∧ (∀ m (h : m < (ents F 64).length), N (m + 1) = N m + F (ents F 64)[m] ∧ 0 ≤ N m ∧ N m ≤ m * 4096 ∧ 0 ≤ F (ents F 64)[m] ∧ F (ents F 64)[m] ≤ 4096) ∧ N (ents F 64).length = ((ents F 64).map F).sum := by
              refine ⟨fun m => (((ents F 64).take m).map F).sum, rfl, fun m h => ?_, by simp only [List.take_length]⟩
              have hb : ∀ m, m ≤ (ents F 64).length → 0 ≤ (((ents F 64).take m).map F).sum ∧ (((ents F 64).take m).map F).sum ≤ m * 4096 := fun m => by
                induction m with
                | zero => intro _; simp
                | succ m ih =>
                  intro h
                  have := ih (by omega)
                  have := hF (ents F 64)[m]
                  rw [List.take_succ_eq_append_getElem (by omega), List.map_append, List.sum_append]
                  simp only [List.map_cons, List.map_nil, List.sum_cons, List.sum_nil]
                  omega
              refine ⟨?_, (hb m (by omega)).1, (hb m (by omega)).2, (hF _).1, (hF _).2⟩
              simp only
              rw [List.take_succ_eq_append_getElem h, List.map_append, List.sum_append]
              simp
            obtain ⟨n0, n1, n2⟩ := hN
            rw [hS2] at n2
            obtain ⟨G, hG⟩ : ∃ G : Nat → Nat, G 0 = 0 ∧ (∀ m, G (m + 1) = G m + if gg m = true then 1 else 0) ∧ (∀ m, G m ≤ m) ∧ G l.length = ((List.range l.length).filter gg).length := by
              refine ⟨fun m => ((List.range m).filter gg).length, rfl, fun m => ?_, fun m => ?_, rfl⟩
              · simp only
                rw [List.range_succ, List.filter_append]
                cases hh : gg m <;> simp [hh]
              · have := List.length_filter_le gg (List.range m)
                rwa [List.length_range] at this
            obtain ⟨G0, G1, G2, G3⟩ := hG
            rw [← G3] at n2
            clear hsum hS2 hF G3 g3 hEl
            dsimp only [cntsD, entsC] at M1
            generalize ents F 64 = E at *
            repeat (first | refine Z1 ?_ | refine Z2 ?_ | (refine Z3 ?_; (repeat (first | (apply gS; first | refine go_no ?_ | refine go_f ?_ | refine gx ?_ | refine gm ?_ | refine gp ?_ | refine go_c rfl rfl (M1) ?_ | refine go_cF rfl rfl (M1) ?_ | refine go_cA rfl rfl (M1) ?_) | (apply gZ; first | refine go_f ?_ | refine gx ?_ | refine gm ?_))); refine T_nil ?_) | (apply ZR; (try dsimp only [List.map_cons, List.map_nil]); refine C_dr mixed ?_; (repeat (first | (apply vS; first | refine vn ?_ | refine va ?_ | refine vp ?_ | refine vr ?_ | refine vt ?_ | refine vc (M1) ?_ | refine vcF (M1) ?_) | (apply vZ; first | refine vs ?_ | refine vw ?_))); refine W_e ?_) | (apply ZK; first | refine Z4 ?_ | refine Z5 ?_) | refine Z6 ?_ | refine Z7 ?_ | refine Z8 ?_ | refine Z9 ?_ | refine ZA ?_ | refine ZB ?_ | refine ZC ?_ | refine ZD ?_ | refine ZE ?_ | refine ZF ?_ | refine ZG ?_ | refine ZH ?_)
            refine C_count E.length (fun _ => True) (fun m => ⟨4, 235, [(26, iD m), (24, iD (N m)), (25, iD 0), (23, .row E.length (E.flatMap (entC kdMove F))), (9, rowL2 l), (3, .ptr 0 0), (4, .ptr 1 0), (5, .ptr 2 0)], [(0, some ⟨63, 3, 1, [sD s, iD n, iD LL.length]⟩), (1, some ⟨63, 3, 1, [sD s', iD n', iD o']⟩), (2, some ⟨24, 1, 1, [rowR rs]⟩)]⟩) ?_ trivial ?_
            · rw [n0]
              exact Wk.gx (fun b => b)
            · intro m hm _
              by_cases hml : m < E.length
              · obtain ⟨t1, t2, t3, t4, t5⟩ := n1 m hml
                clear n1 hgg hOw
                repeat (first | refine Z1 ?_ | refine Z2 ?_ | (refine Z3 ?_; (repeat (first | (apply gS; first | refine go_no ?_ | refine go_f ?_ | refine gx ?_ | refine gm ?_ | refine gp ?_) | (apply gZ; first | refine go_f ?_ | refine gx ?_ | refine gm ?_))); refine T_nil ?_) | (apply ZR; (try dsimp only [List.map_cons, List.map_nil]); refine C_dr mixed ?_; (repeat (first | (apply vS; first | refine vn ?_ | refine va ?_ | refine vp ?_ | refine vr ?_ | refine vt ?_) | (apply vZ; first | refine vs ?_ | refine vw ?_))); refine W_e ?_) | (apply ZK; first | refine Z4 ?_ | refine Z5 ?_) | refine Z6 ?_ | refine Z7 ?_ | refine Z8 ?_ | refine Z9 ?_ | refine ZA ?_ | refine ZB ?_ | refine ZC ?_ | refine ZD ?_ | refine ZE ?_ | refine ZF ?_ | refine ZG ?_ | refine ZH ?_)
                refine kLoop_n ⟨hml, trivial, ?_⟩
                exact Wk.gx (fun b => b)
              · obtain rfl : m = E.length := by omega
                rw [n2]
                clear n1
                repeat (first | refine Z1 ?_ | refine Z2 ?_ | (refine Z3 ?_; (repeat (first | (apply gS; first | refine go_no ?_ | refine go_f ?_ | refine gx ?_ | refine gm ?_ | refine gp ?_) | (apply gZ; first | refine go_f ?_ | refine gx ?_ | refine gm ?_))); refine T_nil ?_) | (apply ZR; (try dsimp only [List.map_cons, List.map_nil]); refine C_dr mixed ?_; (repeat (first | (apply vS; first | refine vn ?_ | refine va ?_ | refine vp ?_ | refine vr ?_ | refine vt ?_) | (apply vZ; first | refine vs ?_ | refine vw ?_))); refine W_e ?_) | (apply ZK; first | refine Z4 ?_ | refine Z5 ?_) | refine Z6 ?_ | refine Z7 ?_ | refine Z8 ?_ | refine Z9 ?_ | refine ZA ?_ | refine ZB ?_ | refine ZC ?_ | refine ZD ?_ | refine ZE ?_ | refine ZF ?_ | refine ZG ?_ | refine ZH ?_)
                refine C_count l.length (fun _ => True) (fun q => ⟨4, 235, [(27, iD q), (24, iD ((G l.length : Nat) : Int)), (25, iD ((G q : Nat) : Int)), (9, rowL2 l), (3, .ptr 0 0), (4, .ptr 1 0), (5, .ptr 2 0)], [(0, some ⟨63, 3, 1, [sD s, iD n, iD LL.length]⟩), (1, some ⟨63, 3, 1, [sD s', iD n', iD o']⟩), (2, some ⟨24, 1, 1, [rowR rs]⟩)]⟩) ?_ trivial ?_
                · rw [G0]
                  exact Wk.gx (fun b => b)
                · intro q hq _
                  by_cases hql : q < l.length
                  · obtain ⟨a, b, e, o1, o2, o3⟩ := hgg q hql
                    have x1 := G1 q
                    have x2 := G2 q
                    clear hgg G1 G2 hOw
                    by_cases hab : a = b
                    · have x3 : gg q ≠ true := fun h => o3.1 h hab
                      rw [if_neg x3] at x1
                      subst hab
                      rw [Nat.add_zero] at x1
                      repeat (first | refine Z1 ?_ | refine Z2 ?_ | (refine Z3 ?_; (repeat (first | (apply gS; first | refine go_no ?_ | refine go_f ?_ | refine gx ?_ | refine gm ?_ | refine gp ?_ | refine go_c rfl rfl (o1) ?_ | refine go_cF rfl rfl (o1) ?_ | refine go_cA rfl rfl (o1) ?_ | refine go_c rfl rfl (o2) ?_ | refine go_cF rfl rfl (o2) ?_ | refine go_cA rfl rfl (o2) ?_) | (apply gZ; first | refine go_f ?_ | refine gx ?_ | refine gm ?_))); refine T_nil ?_) | (apply ZR; (try dsimp only [List.map_cons, List.map_nil]); refine C_dr mixed ?_; (repeat (first | (apply vS; first | refine vn ?_ | refine va ?_ | refine vp ?_ | refine vr ?_ | refine vt ?_ | refine vc (o1) ?_ | refine vcF (o1) ?_ | refine vc (o2) ?_ | refine vcF (o2) ?_) | (apply vZ; first | refine vs ?_ | refine vw ?_))); refine W_e ?_) | (apply ZK; first | refine Z4 ?_ | refine Z5 ?_) | refine Z6 ?_ | refine Z7 ?_ | refine Z8 ?_ | refine Z9 ?_ | refine ZA ?_ | refine ZB ?_ | refine ZC ?_ | refine ZD ?_ | refine ZE ?_ | refine ZF ?_ | refine ZG ?_ | refine ZH ?_)
                      refine kLoop_n ⟨hql, trivial, ?_⟩
                      rw [x1]
                      exact Wk.gx (fun b => b)
                    · rw [if_pos (o3.2 hab)] at x1
                      have hab' : ¬ (a : Int) = b := by omega
                      repeat (first | refine Z1 ?_ | refine Z2 ?_ | (refine Z3 ?_; (repeat (first | (apply gS; first | refine go_no ?_ | refine go_f ?_ | refine gx ?_ | refine gm ?_ | refine gp ?_ | refine go_c rfl rfl (o1) ?_ | refine go_cF rfl rfl (o1) ?_ | refine go_cA rfl rfl (o1) ?_ | refine go_c rfl rfl (o2) ?_ | refine go_cF rfl rfl (o2) ?_ | refine go_cA rfl rfl (o2) ?_) | (apply gZ; first | refine go_f ?_ | refine gx ?_ | refine gm ?_))); refine T_nil ?_) | (apply ZR; (try dsimp only [List.map_cons, List.map_nil]); refine C_dr mixed ?_; (repeat (first | (apply vS; first | refine vn ?_ | refine va ?_ | refine vp ?_ | refine vr ?_ | refine vt ?_ | refine vc (o1) ?_ | refine vcF (o1) ?_ | refine vc (o2) ?_ | refine vcF (o2) ?_) | (apply vZ; first | refine vs ?_ | refine vw ?_))); refine W_e ?_) | (apply ZK; first | refine Z4 ?_ | refine Z5 ?_) | refine Z6 ?_ | refine Z7 ?_ | refine Z8 ?_ | refine Z9 ?_ | refine ZA ?_ | refine ZB ?_ | refine ZC ?_ | refine ZD ?_ | refine ZE ?_ | refine ZF ?_ | refine ZG ?_ | refine ZH ?_)
                      refine kLoop_n ⟨hql, trivial, ?_⟩
                      exact Wk.gx (fun b => b)
                  · obtain rfl : q = l.length := by omega
                    clear hgg G1 G2 hOw
                    repeat (first | refine Z1 ?_ | refine Z2 ?_ | (refine Z3 ?_; (repeat (first | (apply gS; first | refine go_no ?_ | refine go_f ?_ | refine gx ?_ | refine gm ?_ | refine gp ?_ | refine go_c rfl rfl (first7_d) ?_ | refine go_cF rfl rfl (first7_d) ?_ | refine go_cA rfl rfl (first7_d) ?_) | (apply gZ; first | refine go_f ?_ | refine gx ?_ | refine gm ?_))); refine T_nil ?_) | (apply ZR; (try dsimp only [List.map_cons, List.map_nil]); refine C_dr mixed ?_; (repeat (first | (apply vS; first | refine vn ?_ | refine va ?_ | refine vp ?_ | refine vr ?_ | refine vt ?_ | refine vc (first7_d) ?_ | refine vcF (first7_d) ?_) | (apply vZ; first | refine vs ?_ | refine vw ?_))); refine W_e ?_) | (apply ZK; first | refine Z4 ?_ | refine Z5 ?_) | refine Z6 ?_ | refine Z7 ?_ | refine Z8 ?_ | refine Z9 ?_ | refine ZA ?_ | refine ZB ?_ | refine ZC ?_ | refine ZD ?_ | refine ZE ?_ | refine ZF ?_ | refine ZG ?_ | refine ZH ?_)
                    repeat (first | refine kEnd_m ?_ | refine kEnd_f ?_)
                    refine kEnd_g ?_ (by first | exact .inl rfl | exact .inr rfl)
                    exact Sub.eq rfl rfl
theorem walk {w : World} (v : Value) (t : ByteArray × Int × Int) (tc : RC (fun b => b < w.heap.size) w (dsD t.1 t.2.1 t.2.2) v) (v' : Value) (t' : ByteArray × Int × Int) (tc' : RC (fun b => b < w.heap.size) w (dsD t'.1 t'.2.1 t'.2.2) v') (u : Value) (rs : List Rg) (rc : RC (fun b => b < w.heap.size) w (domD rs) u) : Calls Try.prog 22 #[v, v', u] w fun e w' => e = .returned (.bool true) ∧ Below w.heap.size w w' :=
  DC.law (law_d t.1 t.2.1 t.2.2 t'.1 t'.2.1 t'.2.2 rs) (.cons tc (.cons tc' (.cons rc .nil)))
end Go.Proofs.Ytifapodobhkdcaa.topPartition
