/- The law DistBeside returns true for every input: no index of a halo is the place's own, all are of the domain, and a wider halo has all of them. -/
import Derived.Test.YtifapodobhkdcaaHalR
import Derived.Test.YtifapodobhkdcaaCameT
namespace Go.Proofs.Ytifapodobhkdcaa.distBeside
open Go.RowKit Go.Proofs.Ytifapodobhkdcaa
set_option linter.unusedVariables false
set_option maxHeartbeats 16000000
set_option linter.unusedSimpArgs false
set_option maxRecDepth 100000
theorem large7_ok {rs : List Rg} (hd : domB rs = true) : DC Try.prog 58 [domD rs] (bD (decide (300 < cnt rs))) := by
  have C := rdCount_d rs
  rw [show dCountRes rs = (((cnt rs : Nat) : Int), 0) from if_pos hd] at C
  dsimp only at C
  have hl := (domB_iff.1 hd).1.2
  generalize cnt rs = N at *
  by_cases h : 300 < N
  · rw [decide_eq_true h]
    refine DC.of Try.func58 Try.ntmps58 Try.results58 rfl (by decide +kernel) rfl ?_
    repeat (first | refine Z1 ?_ | refine Z2 ?_ | (refine Z3 ?_; (repeat (first | (apply gS; first | refine go_no ?_ | refine go_f ?_ | refine gx ?_ | refine gm ?_ | refine gp ?_ | refine go_c rfl rfl (C) ?_ | refine go_cF rfl rfl (C) ?_ | refine go_cA rfl rfl (C) ?_))); refine T_nil ?_) | (apply ZK; first | refine Z4 ?_ | refine Z5 ?_) | refine Z6 ?_ | refine Z7 ?_ | refine ZF ?_)
    repeat (first | refine kEnd_m ?_ | refine kEnd_f ?_)
    refine kEnd_g ?_ (by first | exact .inl rfl | exact .inr rfl)
    exact Sub.eq rfl rfl
  · rw [decide_eq_false h]
    refine DC.of Try.func58 Try.ntmps58 Try.results58 rfl (by decide +kernel) rfl ?_
    repeat (first | refine Z1 ?_ | refine Z2 ?_ | (refine Z3 ?_; (repeat (first | (apply gS; first | refine go_no ?_ | refine go_f ?_ | refine gx ?_ | refine gm ?_ | refine gp ?_ | refine go_c rfl rfl (C) ?_ | refine go_cF rfl rfl (C) ?_ | refine go_cA rfl rfl (C) ?_))); refine T_nil ?_) | (apply ZK; first | refine Z4 ?_ | refine Z5 ?_) | refine Z6 ?_ | refine Z7 ?_ | refine ZF ?_)
    repeat (first | refine kEnd_m ?_ | refine kEnd_f ?_)
    refine kEnd_g ?_ (by first | exact .inl rfl | exact .inr rfl)
    exact Sub.eq rfl rfl
/-- the r-th index of some members: where it stands -/
theorem pl_at {c0 : Rg} {ct : List Rg} {l : List Nat} (hlt : ∀ j ∈ l, j < cN c0) {r : Nat} (hr : r < (plX c0 ct l).length) : ∃ a, ∃ q, ∃ hq : q < l.length, a < cN c0 * iN c0 ct ∧ (plX c0 ct l)[r] = ithX (c0 :: ct) a ∧ a / iN c0 ct = l[q] := by
  have hr2 : r < l.length * prodN (cl ct) := by rw [plX_len] at hr; exact hr
  have hne : 0 < l.length := Nat.pos_of_ne_zero fun e => by rw [e, Nat.zero_mul] at hr2; omega
  have hz : cN c0 ≠ 0 := fun e => by have := hlt _ (List.getElem_mem hne); omega
  have e : iN c0 ct = prodN (cl ct) := by unfold iN; rw [if_neg hz]
  have hW : 0 < prodN (cl ct) := Nat.pos_of_ne_zero fun e => by rw [e, Nat.mul_zero] at hr2; omega
  have hq : r / prodN (cl ct) < l.length := Nat.div_lt_of_lt_mul (by rwa [Nat.mul_comm])
  have hm := Nat.mod_lt r hW
  have g := plX_get hlt hq hm
  have hdm : r / prodN (cl ct) * prodN (cl ct) + r % prodN (cl ct) = r := by rw [Nat.mul_comm]; exact Nat.div_add_mod _ _
  rw [hdm] at g
  have hlq := hlt _ (List.getElem_mem hq)
  have h2 := Nat.mul_le_mul_right (prodN (cl ct)) (show l[r / prodN (cl ct)] + 1 ≤ cN c0 by omega)
  rw [Nat.add_mul, Nat.one_mul] at h2
  refine ⟨_, _, hq, by rw [e]; omega, (List.getElem?_eq_some_iff.1 g).2, ?_⟩
  rw [e, Nat.mul_comm, Nat.mul_add_div hW, Nat.div_eq_of_lt hm, Nat.add_zero]
theorem pl_sub {c0 : Rg} {ct : List Rg} {l l' : List Nat} (h : ∀ j ∈ l, j ∈ l') {x : List Int} (hx : x ∈ plX c0 ct l) : x ∈ plX c0 ct l' := by
  unfold plX at hx ⊢
  obtain ⟨y, hy, hz⟩ := List.mem_flatMap.1 hx
  refine List.mem_flatMap.2 ⟨y, ?_, hz⟩
  unfold gM at hy ⊢
  obtain ⟨j, hj, rfl⟩ := List.mem_map.1 hy
  exact List.mem_map.2 ⟨j, h j hj, rfl⟩
theorem hal_sub {k : Kd} {n o R p h h' : Nat} (hh : h ≤ h') : ∀ j ∈ hal k n o R p h, j ∈ hal k n o R p h' := fun j hj => by
  unfold hal at hj ⊢
  obtain ⟨a, b, i, c, d, e, f⟩ := halF_mem.1 hj
  exact halF_mem.2 ⟨a, b, i, c, d, by omega, by omega⟩
set_option maxHeartbeats 16000000 in
theorem law_d (s : ByteArray) (n o : Int) (rs : List Rg) (p q : Int) : DC Try.prog 15 [dsD s n o, domD rs, iD p, iD q] (bD true) := by
  by_cases he : errD s n o rs = 0
  case neg =>
    obtain ⟨bl, L7⟩ := large7_d rs
    have A := Halo_bad he p q
    generalize errD s n o rs = e at *
    cases bl
    all_goals
      refine DC.of Try.func15 Try.ntmps15 Try.results15 rfl (by decide +kernel) rfl ?_
      repeat (first | refine Z1 ?_ | refine Z2 ?_ | (refine Z3 ?_; (repeat (first | (apply gS; first | refine go_no ?_ | refine go_f ?_ | refine gx ?_ | refine gm ?_ | refine gp ?_ | refine go_c rfl rfl (A) ?_ | refine go_cF rfl rfl (A) ?_ | refine go_cA rfl rfl (A) ?_ | refine go_c rfl rfl (L7) ?_ | refine go_cF rfl rfl (L7) ?_ | refine go_cA rfl rfl (L7) ?_ | refine go_c rfl rfl (first7_d) ?_ | refine go_cF rfl rfl (first7_d) ?_ | refine go_cA rfl rfl (first7_d) ?_) | (apply gZ; first | refine go_f ?_ | refine gx ?_ | refine gm ?_))); refine T_nil ?_) | (apply ZR; (try dsimp only [List.map_cons, List.map_nil]); refine C_dr mixed ?_; (repeat (first | (apply vS; first | refine vn ?_ | refine va ?_ | refine vp ?_ | refine vr ?_ | refine vt ?_ | refine vc (A) ?_ | refine vcF (A) ?_ | refine vc (L7) ?_ | refine vcF (L7) ?_ | refine vc (first7_d) ?_ | refine vcF (first7_d) ?_) | (apply vZ; first | refine vs ?_ | refine vw ?_))); refine W_e ?_) | (apply ZK; first | refine Z4 ?_ | refine Z5 ?_) | refine Z6 ?_ | refine Z7 ?_ | refine Z8 ?_ | refine Z9 ?_ | refine ZA ?_ | refine ZB ?_ | refine ZC ?_ | refine ZD ?_ | refine ZE ?_ | refine ZF ?_ | refine ZG ?_ | refine ZH ?_)
      repeat (first | refine kEnd_m ?_ | refine kEnd_f ?_)
      refine kEnd_g ?_ (by first | exact .inl rfl | exact .inr rfl)
      exact Sub.eq rfl rfl
  obtain ⟨hv, hd⟩ := errD_ok he
  obtain ⟨k, n, o, rfl, rfl, hk⟩ := vdB_ok hv
  obtain ⟨c0, ct, hc, hs⟩ := canon_sp hd
  have L7 := large7_ok hd
  by_cases hp : 0 ≤ p ∧ p < o ∧ 0 ≤ q ∧ q ≤ 4096
  case neg =>
    have A := Halo_no hk hd hc hs p q hp
    generalize decide (300 < cnt rs) = bl at *
    cases bl
    all_goals
      refine DC.of Try.func15 Try.ntmps15 Try.results15 rfl (by decide +kernel) rfl ?_
      repeat (first | refine Z1 ?_ | refine Z2 ?_ | (refine Z3 ?_; (repeat (first | (apply gS; first | refine go_no ?_ | refine go_f ?_ | refine gx ?_ | refine gm ?_ | refine gp ?_ | refine go_c rfl rfl (A) ?_ | refine go_cF rfl rfl (A) ?_ | refine go_cA rfl rfl (A) ?_ | refine go_c rfl rfl (L7) ?_ | refine go_cF rfl rfl (L7) ?_ | refine go_cA rfl rfl (L7) ?_ | refine go_c rfl rfl (first7_d) ?_ | refine go_cF rfl rfl (first7_d) ?_ | refine go_cA rfl rfl (first7_d) ?_) | (apply gZ; first | refine go_f ?_ | refine gx ?_ | refine gm ?_))); refine T_nil ?_) | (apply ZR; (try dsimp only [List.map_cons, List.map_nil]); refine C_dr mixed ?_; (repeat (first | (apply vS; first | refine vn ?_ | refine va ?_ | refine vp ?_ | refine vr ?_ | refine vt ?_ | refine vc (A) ?_ | refine vcF (A) ?_ | refine vc (L7) ?_ | refine vcF (L7) ?_ | refine vc (first7_d) ?_ | refine vcF (first7_d) ?_) | (apply vZ; first | refine vs ?_ | refine vw ?_))); refine W_e ?_) | (apply ZK; first | refine Z4 ?_ | refine Z5 ?_) | refine Z6 ?_ | refine Z7 ?_ | refine Z8 ?_ | refine Z9 ?_ | refine ZA ?_ | refine ZB ?_ | refine ZC ?_ | refine ZD ?_ | refine ZE ?_ | refine ZF ?_ | refine ZG ?_ | refine ZH ?_)
      repeat (first | refine kEnd_m ?_ | refine kEnd_f ?_)
      refine kEnd_g ?_ (by first | exact .inl rfl | exact .inr rfl)
      exact Sub.eq rfl rfl
  obtain ⟨p, rfl⟩ : ∃ z : Nat, p = z := ⟨p.toNat, by omega⟩
  obtain ⟨q, rfl⟩ : ∃ z : Nat, q = z := ⟨q.toNat, by omega⟩
  have A := Halo_ok hk hd hc hs p q (by omega) (by omega)
  have hch : ∀ (p : Int) (ps : List (List Rg)), chD p ps = .agg [iD p, domsD ps] := fun _ _ => rfl
  by_cases hlg : 300 < cnt rs
  · rw [decide_eq_true hlg] at L7
    generalize hpartsOf k n o c0 ct p q = ps at *
    rw [hch] at A
    refine DC.of Try.func15 Try.ntmps15 Try.results15 rfl (by decide +kernel) rfl ?_
    repeat (first | refine Z1 ?_ | refine Z2 ?_ | (refine Z3 ?_; (repeat (first | (apply gS; first | refine go_no ?_ | refine go_f ?_ | refine gx ?_ | refine gm ?_ | refine gp ?_ | refine go_c rfl rfl (A) ?_ | refine go_cF rfl rfl (A) ?_ | refine go_cA rfl rfl (A) ?_ | refine go_c rfl rfl (L7) ?_ | refine go_cF rfl rfl (L7) ?_ | refine go_cA rfl rfl (L7) ?_ | refine go_c rfl rfl (first7_d) ?_ | refine go_cF rfl rfl (first7_d) ?_ | refine go_cA rfl rfl (first7_d) ?_) | (apply gZ; first | refine go_f ?_ | refine gx ?_ | refine gm ?_))); refine T_nil ?_) | (apply ZR; (try dsimp only [List.map_cons, List.map_nil]); refine C_dr mixed ?_; (repeat (first | (apply vS; first | refine vn ?_ | refine va ?_ | refine vp ?_ | refine vr ?_ | refine vt ?_ | refine vc (A) ?_ | refine vcF (A) ?_ | refine vc (L7) ?_ | refine vcF (L7) ?_ | refine vc (first7_d) ?_ | refine vcF (first7_d) ?_) | (apply vZ; first | refine vs ?_ | refine vw ?_))); refine W_e ?_) | (apply ZK; first | refine Z4 ?_ | refine Z5 ?_) | refine Z6 ?_ | refine Z7 ?_ | refine Z8 ?_ | refine Z9 ?_ | refine ZA ?_ | refine ZB ?_ | refine ZC ?_ | refine ZD ?_ | refine ZE ?_ | refine ZF ?_ | refine ZG ?_ | refine ZH ?_)
    repeat (first | refine kEnd_m ?_ | refine kEnd_f ?_)
    refine kEnd_g ?_ (by first | exact .inl rfl | exact .inr rfl)
    exact Sub.eq rfl rfl
  rw [decide_eq_false hlg] at L7
  obtain ⟨e1, e2⟩ := cnt_can hd hc hs
  have hR : cN c0 ≤ 300 := by
    by_cases hz : cN c0 = 0
    · omega
    · have := hs.pos hz
      have : cN c0 * 1 ≤ cN c0 * iN c0 ct := Nat.mul_le_mul_left _ (by unfold iN; rw [if_neg hz]; omega)
      omega
  have hfewp : ∀ h, (hpartsOf k n o c0 ct p h).length ≤ 300 := fun h => by
    unfold hpartsOf
    rw [List.length_map]
    have h1 := runs_few (hrunsOf_S k n o (cN c0) p h)
    have h2 := hal_len k n o (cN c0) p h
    omega
  have IX : ∀ h, DC Try.prog 75 [domsD (hpartsOf k n o c0 ct p h)] (rowL2 (plX c0 ct (hal k n o (cN c0) p h))) := fun h => by
    obtain ⟨x1, x2⟩ := hparts_X hs k n o p h
    have := rIndexes7_d (hpartsOf k n o c0 ct p h) (by have := hfewp h; omega) x2
    rwa [x1] at this
  have hlt := fun h => hal_lt (k := k) (n := n) (o := o) (R := cN c0) (p := p) (h := h)
  have hXl : ∀ h r (hr : r < (plX c0 ct (hal k n o (cN c0) p h)).length), (plX c0 ct (hal k n o (cN c0) p h))[r].length ≤ 10 := fun h r hr => by
    obtain ⟨a, _, _, a1, a2, _⟩ := pl_at (hlt h) hr
    rw [a2, (at_find hs a1).1]
    have := (domB_iff.1 hs.dom).1.2
    omega
  have hPl : ∀ h, (plX c0 ct (hal k n o (cN c0) p h)).length ≤ 4096 := fun h => by
    rw [plX_len]
    have h1 := Nat.mul_le_mul_right (prodN (cl ct)) (hal_len k n o (cN c0) p h)
    have h2 : cN c0 * prodN (cl ct) ≤ 4096 := (domB_iff.1 hs.dom).2.2
    omega
  have OW : ∀ r (hr : r < (plX c0 ct (hal k n o (cN c0) p q)).length), ∃ w : Nat, w ≠ p ∧ DC Try.prog 55 [dsD s n o, domD rs, rowI (plX c0 ct (hal k n o (cN c0) p q))[r]] (.tup [iD w, iD 0]) := fun r hr => by
    obtain ⟨a, i, hi, a1, a2, a3⟩ := pl_at (hlt q) hr
    rw [a2]
    have O := Owner_d hk hd hc hs (ithX (c0 :: ct) a)
    obtain ⟨w1, w2, w3, w4, w5, w6⟩ := own_at hk.ok hs a1
    obtain ⟨f1, f2, f3, f4⟩ := at_find hs a1
    rw [w3, f4] at O
    refine ⟨_, ?_, O⟩
    rw [a3]
    have := (halF_mem.1 (List.getElem_mem hi)).2.1
    exact of_decide_eq_false this
  obtain ⟨q', hq', hq2, hmn⟩ : ∃ q' : Nat, q ≤ q' ∧ q' ≤ 4096 ∧ ((q < 4096 ∧ q' = q + 1) ∨ (q = 4096 ∧ q' = 4096)) := by
    by_cases h : q < 4096
    · exact ⟨q + 1, by omega, by omega, .inl ⟨h, rfl⟩⟩
    · exact ⟨4096, by omega, by omega, .inr ⟨by omega, rfl⟩⟩
  have A2 := Halo_ok hk hd hc hs p q' (by omega) hq2
  have hin : ∀ r (hr : r < (plX c0 ct (hal k n o (cN c0) p q)).length), (plX c0 ct (hal k n o (cN c0) p q')).any (fun y => decide (y = (plX c0 ct (hal k n o (cN c0) p q))[r])) = true := fun r hr =>
    List.any_eq_true.2 ⟨_, pl_sub (hal_sub hq') (List.getElem_mem hr), decide_eq_true rfl⟩
  have I1 := IX q
  have I2 := IX q'
  have f1 := hfewp q
  have f2 := hfewp q'
  have l2 := hXl q'
  have g1 := hPl q
  have g2 := hPl q'
  rw [hch] at A A2
  have hAS : ∀ (x : List Int) (m : Nat) (hm : m < (plX c0 ct (hal k n o (cN c0) p q')).length), ((plX c0 ct (hal k n o (cN c0) p q')).take (m + 1)).any (fun y => decide (y = x)) = (((plX c0 ct (hal k n o (cN c0) p q')).take m).any (fun y => decide (y = x)) || decide ((plX c0 ct (hal k n o (cN c0) p q'))[m] = x)) := fun x m hm => by
    rw [List.take_succ_eq_append_getElem hm, List.any_append]; simp
  clear hXl hPl IX hfewp hlt hR e1 e2 he hv hch
  generalize hpartsOf k n o c0 ct p q = ps at *
  generalize hpartsOf k n o c0 ct p q' = ps' at *
  generalize plX c0 ct (hal k n o (cN c0) p q) = X at *
  generalize plX c0 ct (hal k n o (cN c0) p q') = Y at *
  have SI := fun (x : List Int) m (hm : m < Y.length) => sameInts_d Y[m] x (by have := l2 m hm; omega)
  clear l2 hd hc hs hk hlg
  obtain ⟨Av, hAv⟩ : ∃ Av : List Int → Nat → Bool, ∀ x m, Av x m = (Y.take m).any (fun y => decide (y = x)) := ⟨_, fun _ _ => rfl⟩
  have hA0 : ∀ x, Av x 0 = false := fun x => by rw [hAv]; rfl
  have hAE : ∀ r (hr : r < X.length), Av X[r] Y.length = true := fun r hr => by rw [hAv, List.take_length]; exact hin r hr
  simp only [← hAv] at hAS
  clear hin hAv
  have hcast : ((q' : Nat) : Int) = (q : Int) + 1 ∧ (q : Int) + 1 ≤ 4096 ∨ ((q' : Nat) : Int) = 4096 ∧ 4096 < (q : Int) + 1 := by omega
  rcases hcast with ⟨hc1, hc2⟩ | ⟨hc1, hc2⟩
  all_goals
    rw [hc1] at A2
    clear hmn hq2 hq' hc1
    refine DC.of Try.func15 Try.ntmps15 Try.results15 rfl (by decide +kernel) rfl ?_
    repeat (first | refine Z1 ?_ | refine Z2 ?_ | (refine Z3 ?_; (repeat (first | (apply gS; first | refine go_no ?_ | refine go_f ?_ | refine gx ?_ | refine gm ?_ | refine gp ?_ | refine go_c rfl rfl (A) ?_ | refine go_cF rfl rfl (A) ?_ | refine go_cA rfl rfl (A) ?_ | refine go_c rfl rfl (L7) ?_ | refine go_cF rfl rfl (L7) ?_ | refine go_cA rfl rfl (L7) ?_ | refine go_c rfl rfl (A2) ?_ | refine go_cF rfl rfl (A2) ?_ | refine go_cA rfl rfl (A2) ?_ | refine go_c rfl rfl (I1) ?_ | refine go_cF rfl rfl (I1) ?_ | refine go_cA rfl rfl (I1) ?_ | refine go_c rfl rfl (I2) ?_ | refine go_cF rfl rfl (I2) ?_ | refine go_cA rfl rfl (I2) ?_ | refine go_c rfl rfl (first7_d) ?_ | refine go_cF rfl rfl (first7_d) ?_ | refine go_cA rfl rfl (first7_d) ?_) | (apply gZ; first | refine go_f ?_ | refine gx ?_ | refine gm ?_))); refine T_nil ?_) | (apply ZR; (try dsimp only [List.map_cons, List.map_nil]); refine C_dr mixed ?_; (repeat (first | (apply vS; first | refine vn ?_ | refine va ?_ | refine vp ?_ | refine vr ?_ | refine vt ?_ | refine vc (A) ?_ | refine vcF (A) ?_ | refine vc (L7) ?_ | refine vcF (L7) ?_ | refine vc (A2) ?_ | refine vcF (A2) ?_ | refine vc (I1) ?_ | refine vcF (I1) ?_ | refine vc (I2) ?_ | refine vcF (I2) ?_ | refine vc (first7_d) ?_ | refine vcF (first7_d) ?_) | (apply vZ; first | refine vs ?_ | refine vw ?_))); refine W_e ?_) | (apply ZK; first | refine Z4 ?_ | refine Z5 ?_) | refine Z6 ?_ | refine Z7 ?_ | refine Z8 ?_ | refine Z9 ?_ | refine ZA ?_ | refine ZB ?_ | refine ZC ?_ | refine ZD ?_ | refine ZE ?_ | refine ZF ?_ | refine ZG ?_ | refine ZH ?_)
    refine C_count X.length (fun _ => True) (fun r => ⟨4, 109, [(15, iD r), (14, rowL2 X), (13, rowL2 Y), (2, iD p), (4, .ptr 0 0), (5, .ptr 1 0)], [(0, some ⟨63, 3, 1, [sD s, iD n, iD o]⟩), (1, some ⟨24, 1, 1, [rowR rs]⟩)]⟩) ?_ trivial ?_
    · exact Wk.gx (fun b => b)
    · intro r hr _
      by_cases hrl : r < X.length
      · obtain ⟨w, w1, O⟩ := OW r hrl
        have ae := hAE r hrl
        have a0 := hA0 X[r]
        have asx := hAS X[r]
        have si := SI X[r]
        have w1' : ¬ (w : Int) = p := by omega
        clear OW hAE hA0 hAS SI
        repeat (first | refine Z1 ?_ | refine Z2 ?_ | (refine Z3 ?_; (repeat (first | (apply gS; first | refine go_no ?_ | refine go_f ?_ | refine gx ?_ | refine gm ?_ | refine gp ?_ | refine go_c rfl rfl (O) ?_ | refine go_cF rfl rfl (O) ?_ | refine go_cA rfl rfl (O) ?_) | (apply gZ; first | refine go_f ?_ | refine gx ?_ | refine gm ?_))); refine T_nil ?_) | (apply ZR; (try dsimp only [List.map_cons, List.map_nil]); refine C_dr mixed ?_; (repeat (first | (apply vS; first | refine vn ?_ | refine va ?_ | refine vp ?_ | refine vr ?_ | refine vt ?_ | refine vc (O) ?_ | refine vcF (O) ?_) | (apply vZ; first | refine vs ?_ | refine vw ?_))); refine W_e ?_) | (apply ZK; first | refine Z4 ?_ | refine Z5 ?_) | refine Z6 ?_ | refine Z7 ?_ | refine Z8 ?_ | refine Z9 ?_ | refine ZA ?_ | refine ZB ?_ | refine ZC ?_ | refine ZD ?_ | refine ZE ?_ | refine ZF ?_ | refine ZG ?_ | refine ZH ?_)
        refine C_count Y.length (fun _ => True) (fun m => ⟨4, 109, [(19, iD m), (18, bD (Av X[r] m)), (15, iD r), (14, rowL2 X), (13, rowL2 Y), (2, iD p), (4, .ptr 0 0), (5, .ptr 1 0)], [(0, some ⟨63, 3, 1, [sD s, iD n, iD o]⟩), (1, some ⟨24, 1, 1, [rowR rs]⟩)]⟩) ?_ trivial ?_
        · rw [a0]
          exact Wk.gx (fun b => b)
        · intro m hm _
          by_cases hml : m < Y.length
          · have en := asx m hml
            have S := si m hml
            clear asx si a0 ae O
            cases hv : Av X[r] m with
            | true =>
              rw [hv, Bool.true_or] at en
              repeat (first | refine Z1 ?_ | refine Z2 ?_ | (refine Z3 ?_; (repeat (first | (apply gS; first | refine go_no ?_ | refine go_f ?_ | refine gx ?_ | refine gm ?_ | refine gp ?_) | (apply gZ; first | refine go_f ?_ | refine gx ?_ | refine gm ?_))); refine T_nil ?_) | (apply ZR; (try dsimp only [List.map_cons, List.map_nil]); refine C_dr mixed ?_; (repeat (first | (apply vS; first | refine vn ?_ | refine va ?_ | refine vp ?_ | refine vr ?_ | refine vt ?_) | (apply vZ; first | refine vs ?_ | refine vw ?_))); refine W_e ?_) | (apply ZK; first | refine Z4 ?_ | refine Z5 ?_) | refine Z6 ?_ | refine Z7 ?_ | refine Z8 ?_ | refine Z9 ?_ | refine ZA ?_ | refine ZB ?_ | refine ZC ?_ | refine ZD ?_ | refine ZE ?_ | refine ZF ?_ | refine ZG ?_ | refine ZH ?_)
              refine kLoop_n ⟨hml, trivial, ?_⟩
              rw [en]
              exact Wk.gx (fun b => b)
            | false =>
              rw [hv, Bool.false_or] at en
              rw [← en] at S
              generalize Av X[r] (m + 1) = z at *
              repeat (first | refine Z1 ?_ | refine Z2 ?_ | (refine Z3 ?_; (repeat (first | (apply gS; first | refine go_no ?_ | refine go_f ?_ | refine gx ?_ | refine gm ?_ | refine gp ?_ | refine go_c rfl rfl (S) ?_ | refine go_cF rfl rfl (S) ?_ | refine go_cA rfl rfl (S) ?_) | (apply gZ; first | refine go_f ?_ | refine gx ?_ | refine gm ?_))); refine T_nil ?_) | (apply ZR; (try dsimp only [List.map_cons, List.map_nil]); refine C_dr mixed ?_; (repeat (first | (apply vS; first | refine vn ?_ | refine va ?_ | refine vp ?_ | refine vr ?_ | refine vt ?_ | refine vc (S) ?_ | refine vcF (S) ?_) | (apply vZ; first | refine vs ?_ | refine vw ?_))); refine W_e ?_) | (apply ZK; first | refine Z4 ?_ | refine Z5 ?_) | refine Z6 ?_ | refine Z7 ?_ | refine Z8 ?_ | refine Z9 ?_ | refine ZA ?_ | refine ZB ?_ | refine ZC ?_ | refine ZD ?_ | refine ZE ?_ | refine ZF ?_ | refine ZG ?_ | refine ZH ?_)
              refine kLoop_n ⟨hml, trivial, ?_⟩
              exact Wk.gx (fun b => b)
          · obtain rfl : m = Y.length := by omega
            rw [ae]
            clear asx si a0 ae O
            repeat (first | refine Z1 ?_ | refine Z2 ?_ | (refine Z3 ?_; (repeat (first | (apply gS; first | refine go_no ?_ | refine go_f ?_ | refine gx ?_ | refine gm ?_ | refine gp ?_) | (apply gZ; first | refine go_f ?_ | refine gx ?_ | refine gm ?_))); refine T_nil ?_) | (apply ZR; (try dsimp only [List.map_cons, List.map_nil]); refine C_dr mixed ?_; (repeat (first | (apply vS; first | refine vn ?_ | refine va ?_ | refine vp ?_ | refine vr ?_ | refine vt ?_) | (apply vZ; first | refine vs ?_ | refine vw ?_))); refine W_e ?_) | (apply ZK; first | refine Z4 ?_ | refine Z5 ?_) | refine Z6 ?_ | refine Z7 ?_ | refine Z8 ?_ | refine Z9 ?_ | refine ZA ?_ | refine ZB ?_ | refine ZC ?_ | refine ZD ?_ | refine ZE ?_ | refine ZF ?_ | refine ZG ?_ | refine ZH ?_)
            refine kLoop_n ⟨hrl, trivial, ?_⟩
            exact Wk.gx (fun b => b)
      · obtain rfl : r = X.length := by omega
        clear OW hAE hA0 hAS SI
        repeat (first | refine Z1 ?_ | refine Z2 ?_ | (refine Z3 ?_; (repeat (first | (apply gS; first | refine go_no ?_ | refine go_f ?_ | refine gx ?_ | refine gm ?_ | refine gp ?_ | refine go_c rfl rfl (first7_d) ?_ | refine go_cF rfl rfl (first7_d) ?_ | refine go_cA rfl rfl (first7_d) ?_) | (apply gZ; first | refine go_f ?_ | refine gx ?_ | refine gm ?_))); refine T_nil ?_) | (apply ZR; (try dsimp only [List.map_cons, List.map_nil]); refine C_dr mixed ?_; (repeat (first | (apply vS; first | refine vn ?_ | refine va ?_ | refine vp ?_ | refine vr ?_ | refine vt ?_ | refine vc (first7_d) ?_ | refine vcF (first7_d) ?_) | (apply vZ; first | refine vs ?_ | refine vw ?_))); refine W_e ?_) | (apply ZK; first | refine Z4 ?_ | refine Z5 ?_) | refine Z6 ?_ | refine Z7 ?_ | refine Z8 ?_ | refine Z9 ?_ | refine ZA ?_ | refine ZB ?_ | refine ZC ?_ | refine ZD ?_ | refine ZE ?_ | refine ZF ?_ | refine ZG ?_ | refine ZH ?_)
        repeat (first | refine kEnd_m ?_ | refine kEnd_f ?_)
        refine kEnd_g ?_ (by first | exact .inl rfl | exact .inr rfl)
        exact Sub.eq rfl rfl
theorem walk {w : World} (v : Value) (t : ByteArray × Int × Int) (tc : RC (fun b => b < w.heap.size) w (dsD t.1 t.2.1 t.2.2) v) (u : Value) (rs : List Rg) (rc : RC (fun b => b < w.heap.size) w (domD rs) u) (p q : Int) : Calls Try.prog 15 #[v, u, .int .i64 p, .int .i64 q] w fun e w' => e = .returned (.bool true) ∧ Below w.heap.size w w' :=
  DC.law (law_d t.1 t.2.1 t.2.2 rs p q) (.cons tc (.cons rc (.cons (.int _ _ p) (.cons (.int _ _ q) .nil))))
end Go.Proofs.Ytifapodobhkdcaa.distBeside
