/- The reference of layer 7: halo, Halo, wide, Updates, by the abstract machine. -/
import Derived.Test.YtifapodobhkdcaaHalP
import Derived.Test.YtifapodobhkdcaaDs9
namespace Go.Proofs.Ytifapodobhkdcaa
open Go.RowKit
set_option linter.unusedVariables false
set_option maxHeartbeats 16000000
set_option linter.unusedSimpArgs false
set_option maxRecDepth 100000
set_option maxHeartbeats 16000000 in
theorem rhalo7_d {s : ByteArray} {k : Kd} {n o : Nat} (hk : Okd s k n o) {rs : List Rg} {c0 : Rg} {ct : List Rg} (hd : domB rs = true) (hc : canonRs rs = c0 :: ct) (hs : SpOk c0 ct) (p h : Nat) (hh : h ≤ 4096) : DC Try.prog 147 [dsD s n o, domD rs, iD p, iD h] (rowI (natsI (hal k n o (cN c0) p h))) := by
  have RW := rrows7_d hd hc hs
  have OW := rowned7_d hk hd hc hs p
  have hl := hs.few
  have O := fun i (hi : i < cN c0) => rowner7_d hk hi hl
  have hlt := ow_lt (k := k) (n := n) (o := o) (R := cN c0) (p := p)
  have hle := ow_len k n o (cN c0) p
  have hN := fun i => hal_near k n o (cN c0) p h i
  obtain ⟨nf, hnf⟩ : ∃ nf : Nat → Bool, ∀ i, nf i = nearF (fun j => decide (own k n o (cN c0) j = p)) (cN c0) h i := ⟨_, fun _ => rfl⟩
  simp only [← hnf] at hN
  obtain ⟨g, hg⟩ : ∃ g : Nat → List Nat, ∀ m, g m = (List.range m).filter (fun i => !decide (own k n o (cN c0) i = p) && nf i) := ⟨_, fun _ => rfl⟩
  have hE : hal k n o (cN c0) p h = g (cN c0) := by
    rw [hg]
    unfold hal halF
    refine List.filter_congr fun i _ => ?_
    rw [hnf]
  have hS : ∀ i, g (i + 1) = g i ++ if own k n o (cN c0) i ≠ p ∧ nf i = true then [i] else [] := fun i => by
    rw [hg, hg, List.range_succ, List.filter_append]
    congr 1
    by_cases h1 : own k n o (cN c0) i = p <;> cases h2 : nf i <;> simp [h1, h2]
  have hB : ∀ i, (g i).length ≤ i := fun i => by
    rw [hg]
    have := List.length_filter_le (fun i => !decide (own k n o (cN c0) i = p) && nf i) (List.range i)
    rwa [List.length_range] at this
  have h0 : (g 0).length = 0 := by rw [hg]; rfl
  have h0' : intsD (natsI (g 0)) = [] := by rw [hg]; rfl
  have hpl : (natsI (ow k n o (cN c0) p)).length = (ow k n o (cN c0) p).length := by simp [natsI]
  have er : rowI (natsI (ow k n o (cN c0) p)) = .row (ow k n o (cN c0) p).length (intsD (natsI (ow k n o (cN c0) p))) := by show D.row _ _ = _; rw [hpl]
  rw [er] at OW
  rw [hE]
  have eo : rowI (natsI (g (cN c0))) = .row (g (cN c0)).length (intsD (natsI (g (cN c0)))) := by show D.row _ _ = _; rw [natsI, List.length_map]
  rw [eo]
  have hA0 : ∀ i : Nat, ((ow k n o (cN c0) p).take 0).any (fun j => decide (i ≤ j + h ∧ j ≤ i + h)) = false := fun _ => rfl
  have hAS : ∀ (i m : Nat) (hm : m < (ow k n o (cN c0) p).length), ((ow k n o (cN c0) p).take (m + 1)).any (fun j => decide (i ≤ j + h ∧ j ≤ i + h)) = (((ow k n o (cN c0) p).take m).any (fun j => decide (i ≤ j + h ∧ j ≤ i + h)) || decide (i ≤ (ow k n o (cN c0) p)[m] + h ∧ (ow k n o (cN c0) p)[m] ≤ i + h)) := fun i m hm => by
    rw [List.take_succ_eq_append_getElem hm, List.any_append]; simp
  have hAE : ∀ i, ((ow k n o (cN c0) p).take (ow k n o (cN c0) p).length).any (fun j => decide (i ≤ j + h ∧ j ≤ i + h)) = nf i := fun i => by rw [List.take_length, hN]
  obtain ⟨Av, hAv⟩ : ∃ Av : Nat → Nat → Bool, ∀ i m, Av i m = ((ow k n o (cN c0) p).take m).any (fun j => decide (i ≤ j + h ∧ j ≤ i + h)) := ⟨_, fun _ _ => rfl⟩
  simp only [← hAv] at hA0 hAS hAE
  clear hN hnf hg hE hd hc hs er eo hAv hk
  generalize own k n o (cN c0) = wO at *
  generalize ow k n o (cN c0) p = l at *
  generalize cN c0 = R at *
  have hlm : ∀ m (hm : m < l.length), l[m] < R := fun m hm => hlt _ (List.getElem_mem hm)
  clear hlt
  refine DC.of Try.func147 Try.ntmps147 Try.results147 rfl (by decide +kernel) rfl ?_
  repeat (first | refine Z1 ?_ | refine Z2 ?_ | (refine Z3 ?_; (repeat (first | (apply gS; first | refine go_no ?_ | refine go_f ?_ | refine gx ?_ | refine gm ?_ | refine gp ?_ | refine go_c rfl rfl (RW) ?_ | refine go_cF rfl rfl (RW) ?_ | refine go_cA rfl rfl (RW) ?_ | refine go_c rfl rfl (OW) ?_ | refine go_cF rfl rfl (OW) ?_ | refine go_cA rfl rfl (OW) ?_))); refine T_nil ?_) | (apply ZK; first | refine Z4 ?_ | refine Z5 ?_) | refine Z6 ?_ | refine Z7 ?_ | refine Z8 ?_ | refine Z9 ?_ | refine ZA ?_ | refine ZB ?_ | refine ZC ?_ | refine ZD ?_ | refine ZE ?_ | refine ZF ?_ | refine ZG ?_ | refine ZH ?_)
  refine C_count R (fun _ => True) (fun i => ⟨3, 67, [(12, iD i), (11, .own 2 (g i).length), (10, .row l.length (intsD (natsI l))), (9, iD R), (2, iD p), (3, iD h), (4, .ptr 0 0), (5, .ptr 1 0)], [(0, some ⟨63, 3, 1, [sD s, iD n, iD o]⟩), (1, some ⟨24, 1, 1, [rowR rs]⟩), (2, some ⟨3, 1, (g i).length, intsD (natsI (g i))⟩)]⟩) ?_ trivial ?_
  · rw [h0, h0']
    refine Wk.trans (Wk.adoptT 11 3 1 rfl) ?_
    exact Wk.gx (fun b => b)
  · intro i hi _
    have q := hB i
    by_cases hil : i < R
    · have C := O i hil
      have bs := hS i
      have a0 := hA0 i
      have asx := hAS i
      have ae := hAE i
      clear hS hB O hA0 hAS hAE h0 h0'
      repeat (first | refine Z1 ?_ | refine Z2 ?_ | (refine Z3 ?_; (repeat (first | (apply gS; first | refine go_no ?_ | refine go_f ?_ | refine gx ?_ | refine gm ?_ | refine gp ?_))); refine T_nil ?_) | (apply ZK; first | refine Z4 ?_ | refine Z5 ?_) | refine Z6 ?_ | refine Z7 ?_ | refine Z8 ?_ | refine Z9 ?_ | refine ZA ?_ | refine ZB ?_ | refine ZC ?_ | refine ZD ?_ | refine ZE ?_ | refine ZF ?_ | refine ZG ?_ | refine ZH ?_)
      refine C_count l.length (fun _ => True) (fun m => ⟨3, 67, [(14, iD m), (13, bD (Av i m)), (12, iD i), (11, .own 2 (g i).length), (10, .row l.length (intsD (natsI l))), (9, iD R), (2, iD p), (3, iD h), (4, .ptr 0 0), (5, .ptr 1 0)], [(0, some ⟨63, 3, 1, [sD s, iD n, iD o]⟩), (1, some ⟨24, 1, 1, [rowR rs]⟩), (2, some ⟨3, 1, (g i).length, intsD (natsI (g i))⟩)]⟩) ?_ trivial ?_
      · rw [a0]
        exact Wk.gx (fun b => b)
      · intro m hm _
        by_cases hml : m < l.length
        · have en := asx m hml
          have w1 := hlm m hml
          have gl : (natsI l)[m]'(by omega) = ((l[m] : Nat) : Int) := by simp [natsI]
          clear asx ae a0 bs hlm C
          cases hv : Av i m with
          | true =>
            rw [hv, Bool.true_or] at en
            repeat (first | refine Z1 ?_ | refine Z2 ?_ | (refine Z3 ?_; (repeat (first | (apply gS; first | refine go_no ?_ | refine go_f ?_ | refine gx ?_ | refine gm ?_ | refine gp ?_))); refine T_nil ?_) | (apply ZK; first | refine Z4 ?_ | refine Z5 ?_) | refine Z6 ?_ | refine Z7 ?_ | refine Z8 ?_ | refine Z9 ?_ | refine ZA ?_ | refine ZB ?_ | refine ZC ?_ | refine ZD ?_ | refine ZE ?_ | refine ZF ?_ | refine ZG ?_ | refine ZH ?_)
            refine kLoop_n ⟨hml, trivial, ?_⟩
            rw [en]
            exact Wk.gx (fun b => b)
          | false =>
            rw [hv, Bool.false_or] at en
            by_cases x1 : (i : Int) - (natsI l)[m]'(by omega) ≤ h
            · by_cases x2 : (natsI l)[m]'(by omega) - (i : Int) ≤ h
              · rw [decide_eq_true (by omega)] at en
                repeat (first | refine Z1 ?_ | refine Z2 ?_ | (refine Z3 ?_; (repeat (first | (apply gS; first | refine go_no ?_ | refine go_f ?_ | refine gx ?_ | refine gm ?_ | refine gp ?_))); refine T_nil ?_) | (apply ZK; first | refine Z4 ?_ | refine Z5 ?_) | refine Z6 ?_ | refine Z7 ?_ | refine Z8 ?_ | refine Z9 ?_ | refine ZA ?_ | refine ZB ?_ | refine ZC ?_ | refine ZD ?_ | refine ZE ?_ | refine ZF ?_ | refine ZG ?_ | refine ZH ?_)
                refine kLoop_n ⟨hml, trivial, ?_⟩
                rw [en]
                exact Wk.gx (fun b => b)
              · rw [decide_eq_false (by omega)] at en
                repeat (first | refine Z1 ?_ | refine Z2 ?_ | (refine Z3 ?_; (repeat (first | (apply gS; first | refine go_no ?_ | refine go_f ?_ | refine gx ?_ | refine gm ?_ | refine gp ?_))); refine T_nil ?_) | (apply ZK; first | refine Z4 ?_ | refine Z5 ?_) | refine Z6 ?_ | refine Z7 ?_ | refine Z8 ?_ | refine Z9 ?_ | refine ZA ?_ | refine ZB ?_ | refine ZC ?_ | refine ZD ?_ | refine ZE ?_ | refine ZF ?_ | refine ZG ?_ | refine ZH ?_)
                refine kLoop_n ⟨hml, trivial, ?_⟩
                rw [en]
                exact Wk.gx (fun b => b)
            · rw [decide_eq_false (by omega)] at en
              repeat (first | refine Z1 ?_ | refine Z2 ?_ | (refine Z3 ?_; (repeat (first | (apply gS; first | refine go_no ?_ | refine go_f ?_ | refine gx ?_ | refine gm ?_ | refine gp ?_))); refine T_nil ?_) | (apply ZK; first | refine Z4 ?_ | refine Z5 ?_) | refine Z6 ?_ | refine Z7 ?_ | refine Z8 ?_ | refine Z9 ?_ | refine ZA ?_ | refine ZB ?_ | refine ZC ?_ | refine ZD ?_ | refine ZE ?_ | refine ZF ?_ | refine ZG ?_ | refine ZH ?_)
              refine kLoop_n ⟨hml, trivial, ?_⟩
              rw [en]
              exact Wk.gx (fun b => b)
        · obtain rfl : m = l.length := by omega
          rw [ae]
          clear asx ae a0 hlm
          cases hv : nf i with
          | false =>
            rw [if_neg (by rw [hv]; simp), List.append_nil] at bs
            repeat (first | refine Z1 ?_ | refine Z2 ?_ | (refine Z3 ?_; (repeat (first | (apply gS; first | refine go_no ?_ | refine go_f ?_ | refine gx ?_ | refine gm ?_ | refine gp ?_))); refine T_nil ?_) | (apply ZK; first | refine Z4 ?_ | refine Z5 ?_) | refine Z6 ?_ | refine Z7 ?_ | refine Z8 ?_ | refine Z9 ?_ | refine ZA ?_ | refine ZB ?_ | refine ZC ?_ | refine ZD ?_ | refine ZE ?_ | refine ZF ?_ | refine ZG ?_ | refine ZH ?_)
            refine kLoop_n ⟨hil, trivial, ?_⟩
            rw [bs]
            exact Wk.gx (fun b => b)
          | true =>
            generalize wO i = w at *
            by_cases hw : w = p
            · rw [if_neg (fun h => h.1 hw), List.append_nil] at bs
              subst hw
              repeat (first | refine Z1 ?_ | refine Z2 ?_ | (refine Z3 ?_; (repeat (first | (apply gS; first | refine go_no ?_ | refine go_f ?_ | refine gx ?_ | refine gm ?_ | refine gp ?_ | refine go_c rfl rfl (C) ?_ | refine go_cF rfl rfl (C) ?_ | refine go_cA rfl rfl (C) ?_))); refine T_nil ?_) | (apply ZK; first | refine Z4 ?_ | refine Z5 ?_) | refine Z6 ?_ | refine Z7 ?_ | refine Z8 ?_ | refine Z9 ?_ | refine ZA ?_ | refine ZB ?_ | refine ZC ?_ | refine ZD ?_ | refine ZE ?_ | refine ZF ?_ | refine ZG ?_ | refine ZH ?_)
              refine kLoop_n ⟨hil, trivial, ?_⟩
              rw [bs]
              exact Wk.gx (fun b => b)
            · rw [if_pos ⟨hw, hv⟩] at bs
              have e1 : (g (i + 1)).length = (g i).length + 1 := by rw [bs]; simp
              have e2 : intsD (natsI (g (i + 1))) = intsD (natsI (g i)) ++ [iD i] := by rw [bs]; simp [intsD, natsI]
              have hw' : ¬ (w : Int) = p := by omega
              clear bs
              repeat (first | refine Z1 ?_ | refine Z2 ?_ | (refine Z3 ?_; (repeat (first | (apply gS; first | refine go_no ?_ | refine go_f ?_ | refine gx ?_ | refine gm ?_ | refine gp ?_ | refine go_c rfl rfl (C) ?_ | refine go_cF rfl rfl (C) ?_ | refine go_cA rfl rfl (C) ?_))); refine T_nil ?_) | (apply ZK; first | refine Z4 ?_ | refine Z5 ?_) | refine Z6 ?_ | refine Z7 ?_ | refine Z8 ?_ | refine Z9 ?_ | refine ZA ?_ | refine ZB ?_ | refine ZC ?_ | refine ZD ?_ | refine ZE ?_ | refine ZF ?_ | refine ZG ?_ | refine ZH ?_)
              refine kLoop_n ⟨hil, trivial, ?_⟩
              exact Wk.gx (fun b => cond (Nat.beq b 2) 3 (b))
    · obtain rfl : i = R := by omega
      clear hS hB O hA0 hAS hAE h0 h0' hlm
      repeat (first | refine Z1 ?_ | refine Z2 ?_ | (refine Z3 ?_; (repeat (first | (apply gS; first | refine go_no ?_ | refine go_f ?_ | refine gx ?_ | refine gm ?_ | refine gp ?_))); refine T_nil ?_) | (apply ZK; first | refine Z4 ?_ | refine Z5 ?_) | refine Z6 ?_ | refine Z7 ?_ | refine Z8 ?_ | refine Z9 ?_ | refine ZA ?_ | refine ZB ?_ | refine ZC ?_ | refine ZD ?_ | refine ZE ?_ | refine ZF ?_ | refine ZG ?_ | refine ZH ?_)
      repeat (first | refine kEnd_m ?_ | refine kEnd_f ?_)
      refine kEnd_g ?_ (by first | exact .inl rfl | exact .inr rfl)
      exact Sub.eq rfl rfl
/-! ### Halo -/
theorem rHalo7_bad {s : ByteArray} {n o : Int} {rs : List Rg} (h : errD s n o rs ≠ 0) (p q : Int) : DC Try.prog 81 [dsD s n o, domD rs, iD p, iD q] (.tup [chD 0 [], iD (errD s n o rs)]) := by
  have B := rvalid7_d s n o rs
  generalize errD s n o rs = e at *
  refine DC.of Try.func81 Try.ntmps81 Try.results81 rfl (by decide +kernel) rfl ?_
  repeat (first | refine Z1 ?_ | refine Z2 ?_ | (refine Z3 ?_; (repeat (first | (apply gS; first | refine go_no ?_ | refine go_f ?_ | refine gx ?_ | refine gm ?_ | refine gp ?_ | refine go_c rfl rfl (B) ?_ | refine go_cF rfl rfl (B) ?_ | refine go_cA rfl rfl (B) ?_) | (apply gZ; first | refine go_f ?_ | refine gx ?_ | refine gm ?_))); refine T_nil ?_) | (apply ZR; (try dsimp only [List.map_cons, List.map_nil]); refine C_dr mixed ?_; (repeat (first | (apply vS; first | refine vn ?_ | refine va ?_ | refine vp ?_ | refine vr ?_ | refine vt ?_ | refine vc (B) ?_ | refine vcF (B) ?_) | (apply vZ; first | refine vs ?_ | refine vw ?_))); refine W_e ?_) | (apply ZK; first | refine Z4 ?_ | refine Z5 ?_) | refine Z6 ?_ | refine Z7 ?_ | refine Z8 ?_ | refine Z9 ?_ | refine ZA ?_ | refine ZB ?_ | refine ZC ?_ | refine ZD ?_ | refine ZE ?_ | refine ZF ?_ | refine ZG ?_ | refine ZH ?_)
  repeat (first | refine kEnd_m ?_ | refine kEnd_f ?_)
  refine kEnd_g ?_ (by first | exact .inl rfl | exact .inr rfl)
  exact Sub.tup (.cons (Sub.agg (.cons (Sub.eq rfl rfl) (.cons Sub.nil .nil))) (.cons (Sub.eq rfl rfl) .nil))
theorem rHalo7_no {s : ByteArray} {k : Kd} {n o : Nat} (hk : Okd s k n o) {rs : List Rg} (hd : domB rs = true) (p q : Int) (hp : ¬ (0 ≤ p ∧ p < o ∧ 0 ≤ q ∧ q ≤ 4096)) :
    DC Try.prog 81 [dsD s n o, domD rs, iD p, iD q] (.tup [chD 0 [], iD 2]) := by
  have B := rvalid7_d s n o rs
  rw [errD_0 hk hd] at B
  rcases (show p < 0 ∨ (0 ≤ p ∧ (o : Int) ≤ p) ∨ (0 ≤ p ∧ p < o ∧ q < 0) ∨ (0 ≤ p ∧ p < o ∧ 0 ≤ q ∧ 4096 < q) by omega) with h | ⟨h1, h2⟩ | ⟨h1, h2, h3⟩ | ⟨h1, h2, h3, h4⟩
  all_goals
    clear hp
    refine DC.of Try.func81 Try.ntmps81 Try.results81 rfl (by decide +kernel) rfl ?_
    repeat (first | refine Z1 ?_ | refine Z2 ?_ | (refine Z3 ?_; (repeat (first | (apply gS; first | refine go_no ?_ | refine go_f ?_ | refine gx ?_ | refine gm ?_ | refine gp ?_ | refine go_c rfl rfl (B) ?_ | refine go_cF rfl rfl (B) ?_ | refine go_cA rfl rfl (B) ?_) | (apply gZ; first | refine go_f ?_ | refine gx ?_ | refine gm ?_))); refine T_nil ?_) | (apply ZR; (try dsimp only [List.map_cons, List.map_nil]); refine C_dr mixed ?_; (repeat (first | (apply vS; first | refine vn ?_ | refine va ?_ | refine vp ?_ | refine vr ?_ | refine vt ?_ | refine vc (B) ?_ | refine vcF (B) ?_) | (apply vZ; first | refine vs ?_ | refine vw ?_))); refine W_e ?_) | (apply ZK; first | refine Z4 ?_ | refine Z5 ?_) | refine Z6 ?_ | refine Z7 ?_ | refine Z8 ?_ | refine Z9 ?_ | refine ZA ?_ | refine ZB ?_ | refine ZC ?_ | refine ZD ?_ | refine ZE ?_ | refine ZF ?_ | refine ZG ?_ | refine ZH ?_)
    repeat (first | refine kEnd_m ?_ | refine kEnd_f ?_)
    refine kEnd_g ?_ (by first | exact .inl rfl | exact .inr rfl)
    exact Sub.tup (.cons (Sub.agg (.cons (Sub.eq rfl rfl) (.cons Sub.nil .nil))) (.cons (Sub.eq rfl rfl) .nil))
set_option maxHeartbeats 16000000 in
theorem rHalo7_ok {s : ByteArray} {k : Kd} {n o : Nat} (hk : Okd s k n o) {rs : List Rg} {c0 : Rg} {ct : List Rg} (hd : domB rs = true) (hc : canonRs rs = c0 :: ct) (hs : SpOk c0 ct) (p h : Nat) (hp : p < o) (hh : h ≤ 4096) :
    DC Try.prog 81 [dsD s n o, domD rs, iD p, iD h] (.tup [chD p (hpartsOf k n o c0 ct p h), iD 0]) := by
  have B := rvalid7_d s n o rs
  rw [errD_0 hk hd] at B
  obtain ⟨r0, rt, rfl⟩ := rs_cons hd
  have HL := rhalo7_d hk hd hc hs p h hh
  have hlt := hal_lt (k := k) (n := n) (o := o) (R := cN c0) (p := p) (h := h)
  have hle := hal_len k n o (cN c0) p h
  have hgd := hruns_good hs k n o p h
  have hfew := hs.few
  have hr := hrunsOf_S k n o (cN c0) p h
  have hch : ∀ ps : List (List Rg), chD p ps = .agg [iD p, domsD ps] := fun _ => rfl
  have eo : domsD ((hrunsOf k n o (cN c0) p h).map (partC ct (memN c0))) = .row (hrunsOf k n o (cN c0) p h).length (((hrunsOf k n o (cN c0) p h).map (partC ct (memN c0))).map rowR) := by show D.row _ _ = _; rw [List.length_map]
  show DC _ _ _ (.tup [chD p ((hrunsOf k n o (cN c0) p h).map (partC ct (memN c0))), iD 0])
  rw [hch, eo]
  clear hch eo
  generalize hrunsOf k n o (cN c0) p h = gs at *
  generalize hal k n o (cN c0) p h = l at *
  have hflat := hr.flat
  have hget := hr.get
  have hcut : ∀ k, cutAt gs k ≤ l.length := fun k => by rw [← hflat]; exact cutAt_le gs k
  have hend : cutAt gs gs.length = l.length := by rw [cutAt_all, hflat]
  have hgl := runs_few hr
  have z0 : cutAt gs 0 = 0 := cutAt_0 gs
  have PT : ∀ q (hq : q < gs.length), DC Try.prog 148 [domD (r0 :: rt), rowI (natsI gs[q])] (.row 1 [rowR (partC ct (memN c0) gs[q])]) := fun q hq => by
    obtain ⟨g1, g2, g3⟩ := hgd _ (List.getElem_mem hq)
    exact rparts7_ok hd hc hs (fun j hj => hlt j (by rw [← hflat]; exact List.mem_flatten.2 ⟨_, List.getElem_mem hq, hj⟩)) g2 (run_one g1 g3) (fun g hg => by rw [List.mem_singleton] at hg; rw [hg]; exact g3)
  have hpl : (natsI l).length = l.length := by simp [natsI]
  have er : rowI (natsI l) = .row l.length (intsD (natsI l)) := by show D.row _ _ = _; rw [hpl]
  have hlm : ∀ i (h : i < l.length), l[i] < 4096 := fun i h => by have := hlt _ (List.getElem_mem h); omega
  have hdv : ∀ q (hq : q < gs.length) j (hj : j < gs[q].length - 1), ∃ (h1 : cutAt gs q + 1 + j < l.length) (h0 : cutAt gs q + j < l.length), l[cutAt gs q + 1 + j] = l[cutAt gs q + j] + 1 := fun q hq j hj => by
    obtain ⟨g1, g2, g3⟩ := hget q hq
    have c1 := cut_le hq
    rw [hflat] at c1
    have e1 := cut_get hq (show 1 + j < gs[q].length by omega)
    have e0 := cut_get hq (show j < gs[q].length by omega)
    simp only [hflat, ← Nat.add_assoc] at e1 e0
    refine ⟨by omega, by omega, ?_⟩
    rw [e1, e0]
    have := of_decide_eq_true (g2 (1 + j) (by omega) (by omega))
    rw [List.length_take, Nat.min_eq_left (by omega), Nat.add_sub_cancel_left, getD_at (by rw [List.length_take]; omega), List.getElem_take] at this
    exact this
  have hst : ∀ q (hq : q < gs.length) (h1 : cutAt gs q + gs[q].length < l.length), ∃ (h0 : cutAt gs q + (gs[q].length - 1) < l.length), l[cutAt gs q + gs[q].length] ≠ l[cutAt gs q + (gs[q].length - 1)] + 1 := fun q hq h1 => by
    obtain ⟨g1, g2, g3⟩ := hget q hq
    have e0 := cut_get hq (show gs[q].length - 1 < gs[q].length by omega)
    simp only [hflat] at e0
    refine ⟨by omega, ?_⟩
    have := of_decide_eq_false (g3 l[cutAt gs q + gs[q].length] (by rw [cutAt_succ hq]; exact List.getElem?_eq_getElem h1))
    rw [getD_at (by omega)] at this
    rw [e0]
    exact this
  have hsnoc : ∀ q (hq : q < gs.length), ((gs.take (q + 1)).map (partC ct (memN c0))).map rowR = ((gs.take q).map (partC ct (memN c0))).map rowR ++ [rowR (partC ct (memN c0) gs[q])] := fun q hq => by
    rw [List.take_succ_eq_append_getElem hq, List.map_append, List.map_append]; rfl
  have hcutp : ∀ q (hq : q < gs.length), ((natsI l).drop ((cutAt gs q : Nat) : Int).toNat).take (((cutAt gs q + gs[q].length : Nat) : Int).toNat - ((cutAt gs q : Nat) : Int).toNat) = natsI gs[q] := fun q hq => by
    rw [Int.toNat_natCast, Int.toNat_natCast, show cutAt gs q + gs[q].length - cutAt gs q = gs[q].length by omega, natsI, ← List.map_drop, ← List.map_take, ← hflat, cut_part hq (Nat.le_refl _), List.take_length]
  rw [er] at HL
  have hl4 : l.length ≤ 4096 := by omega
  clear hr hgd hlt hle hflat hk hd hc er
  generalize partC ct (memN c0) = pC at *
  refine DC.of Try.func81 Try.ntmps81 Try.results81 rfl (by decide +kernel) rfl ?_
  repeat (first | refine Z1 ?_ | refine Z2 ?_ | (refine Z3 ?_; (repeat (first | (apply gS; first | refine go_no ?_ | refine go_f ?_ | refine gx ?_ | refine gm ?_ | refine gp ?_ | refine go_c rfl rfl (B) ?_ | refine go_cF rfl rfl (B) ?_ | refine go_cA rfl rfl (B) ?_ | refine go_c rfl rfl (HL) ?_ | refine go_cF rfl rfl (HL) ?_ | refine go_cA rfl rfl (HL) ?_) | (apply gZ; first | refine go_f ?_ | refine gx ?_ | refine gm ?_))); refine T_nil ?_) | (apply ZR; (try dsimp only [List.map_cons, List.map_nil]); refine C_dr mixed ?_; (repeat (first | (apply vS; first | refine vn ?_ | refine va ?_ | refine vp ?_ | refine vr ?_ | refine vt ?_ | refine vc (B) ?_ | refine vcF (B) ?_ | refine vc (HL) ?_ | refine vcF (HL) ?_) | (apply vZ; first | refine vs ?_ | refine vw ?_))); refine W_e ?_) | (apply ZK; first | refine Z4 ?_ | refine Z5 ?_) | refine Z6 ?_ | refine Z7 ?_ | refine Z8 ?_ | refine Z9 ?_ | refine ZA ?_ | refine ZB ?_ | refine ZC ?_ | refine ZD ?_ | refine ZE ?_ | refine ZF ?_ | refine ZG ?_ | refine ZH ?_)
  refine C_count gs.length (fun _ => True) (fun q => ⟨5, 83, [(13, iD (cutAt gs q)), (12, .row l.length (intsD (natsI l))), (11, .ptr 3 0), (8, .ptr 2 0), (5, .ptr 1 0), (4, .ptr 0 0)], [(0, some ⟨63, 3, 1, [sD s, iD n, iD o]⟩), (1, some ⟨24, 1, 1, [rowR (r0 :: rt)]⟩), (2, some ⟨90, 2, 1, [iD 0, .val (.slice none 0 0)]⟩), (3, some ⟨90, 2, 1, [iD p, .own 4 q]⟩), (4, some ⟨24, 1, q, ((gs.take q).map pC).map rowR⟩)]⟩) ?_ trivial ?_
  · rw [z0]
    refine Wk.trans (Wk.adoptM 3 1 24 1 rfl rfl) ?_
    exact Wk.gy (fun b => b)
  · intro q hq _
    have q0 := hcut q
    by_cases hlt : q < gs.length
    · obtain ⟨g1, g2, g3⟩ := hget q hlt
      have q1 := cutAt_succ hlt
      have q2 := hcut (q + 1)
      have q3 : cutAt gs q < l.length := by omega
      repeat (first | refine Z1 ?_ | refine Z2 ?_ | (refine Z3 ?_; (repeat (first | (apply gS; first | refine go_no ?_ | refine go_f ?_ | refine gx ?_ | refine gm ?_ | refine gp ?_) | (apply gZ; first | refine go_f ?_ | refine gx ?_ | refine gm ?_))); refine T_nil ?_) | (apply ZR; (try dsimp only [List.map_cons, List.map_nil]); refine C_dr mixed ?_; (repeat (first | (apply vS; first | refine vn ?_ | refine va ?_ | refine vp ?_ | refine vr ?_ | refine vt ?_) | (apply vZ; first | refine vs ?_ | refine vw ?_))); refine W_e ?_) | (apply ZK; first | refine Z4 ?_ | refine Z5 ?_) | refine Z6 ?_ | refine Z7 ?_ | refine Z8 ?_ | refine Z9 ?_ | refine ZA ?_ | refine ZB ?_ | refine ZC ?_ | refine ZD ?_ | refine ZE ?_ | refine ZF ?_ | refine ZG ?_ | refine ZH ?_)
      refine C_count (gs[q].length - 1) (fun _ => True) (fun j => ⟨5, 83, [(14, iD ((cutAt gs q + 1 + j : Nat) : Int)), (13, iD (cutAt gs q)), (12, .row l.length (intsD (natsI l))), (11, .ptr 3 0), (8, .ptr 2 0), (5, .ptr 1 0), (4, .ptr 0 0)], [(0, some ⟨63, 3, 1, [sD s, iD n, iD o]⟩), (1, some ⟨24, 1, 1, [rowR (r0 :: rt)]⟩), (2, some ⟨90, 2, 1, [iD 0, .val (.slice none 0 0)]⟩), (3, some ⟨90, 2, 1, [iD p, .own 4 q]⟩), (4, some ⟨24, 1, q, ((gs.take q).map pC).map rowR⟩)]⟩) ?_ trivial ?_
      · rw [Nat.add_zero]
        exact Wk.gy (fun b => b)
      · intro j hj _
        by_cases hjl : j < gs[q].length - 1
        · obtain ⟨d1, d0, d2⟩ := hdv q hlt j hjl
          have gl1 : (natsI l)[cutAt gs q + 1 + j]'(by omega) = ((l[cutAt gs q + 1 + j] : Nat) : Int) := by simp [natsI]
          have gi : ((((cutAt gs q + 1 + j : Nat) : Int)) - 1).toNat = cutAt gs q + j := by omega
          have gl0 : (natsI l)[((((cutAt gs q + 1 + j : Nat) : Int)) - 1).toNat]'(by omega) = ((l[cutAt gs q + j] : Nat) : Int) := by simp only [gi]; simp [natsI]
          have q5 := hlm _ d1
          have q6 := hlm _ d0
          clear hdv hst hget hcut hcutp PT hsnoc hlm
          repeat (first | refine Z1 ?_ | refine Z2 ?_ | (refine Z3 ?_; (repeat (first | (apply gS; first | refine go_no ?_ | refine go_f ?_ | refine gx ?_ | refine gm ?_ | refine gp ?_) | (apply gZ; first | refine go_f ?_ | refine gx ?_ | refine gm ?_))); refine T_nil ?_) | (apply ZR; (try dsimp only [List.map_cons, List.map_nil]); refine C_dr mixed ?_; (repeat (first | (apply vS; first | refine vn ?_ | refine va ?_ | refine vp ?_ | refine vr ?_ | refine vt ?_) | (apply vZ; first | refine vs ?_ | refine vw ?_))); refine W_e ?_) | (apply ZK; first | refine Z4 ?_ | refine Z5 ?_) | refine Z6 ?_ | refine Z7 ?_ | refine Z8 ?_ | refine Z9 ?_ | refine ZA ?_ | refine ZB ?_ | refine ZC ?_ | refine ZD ?_ | refine ZE ?_ | refine ZF ?_ | refine ZG ?_ | refine ZH ?_)
          refine kLoop_n ⟨hjl, trivial, ?_⟩
          exact Wk.gy (fun b => b)
        · have hj2 : cutAt gs q + 1 + j = cutAt gs q + gs[q].length := by omega
          rw [hj2]
          have P1 := PT q hlt
          have en := hsnoc q hlt
          have s1 := hcutp q hlt
          have sp1 : (natsI gs[q]).length = gs[q].length := by simp [natsI]
          by_cases hin : cutAt gs q + gs[q].length < l.length
          · obtain ⟨d0, d2⟩ := hst q hlt hin
            have gl1 : (natsI l)[cutAt gs q + gs[q].length]'(by omega) = ((l[cutAt gs q + gs[q].length] : Nat) : Int) := by simp [natsI]
            have gi : ((((cutAt gs q + gs[q].length : Nat) : Int)) - 1).toNat = cutAt gs q + (gs[q].length - 1) := by omega
            have gl0 : (natsI l)[((((cutAt gs q + gs[q].length : Nat) : Int)) - 1).toNat]'(by omega) = ((l[cutAt gs q + (gs[q].length - 1)] : Nat) : Int) := by simp only [gi]; simp [natsI]
            have q5 := hlm _ hin
            have q6 := hlm _ d0
            clear hdv hst hget hcut hcutp PT hsnoc hlm
            generalize pC gs[q] = pc at *
            repeat (first | refine Z1 ?_ | refine Z2 ?_ | (refine Z3 ?_; (repeat (first | (apply gS; first | refine go_no ?_ | refine go_f ?_ | refine gx ?_ | refine gm ?_ | refine gp ?_ | refine go_c rfl rfl (P1) ?_ | refine go_cF rfl rfl (P1) ?_ | refine go_cA rfl rfl (P1) ?_) | (apply gZ; first | refine go_f ?_ | refine gx ?_ | refine gm ?_))); refine T_nil ?_) | (apply ZR; (try dsimp only [List.map_cons, List.map_nil]); refine C_dr mixed ?_; (repeat (first | (apply vS; first | refine vn ?_ | refine va ?_ | refine vp ?_ | refine vr ?_ | refine vt ?_ | refine vc (P1) ?_ | refine vcF (P1) ?_) | (apply vZ; first | refine vs ?_ | refine vw ?_))); refine W_e ?_) | (apply ZK; first | refine Z4 ?_ | refine Z5 ?_) | refine Z6 ?_ | refine Z7 ?_ | refine Z8 ?_ | refine Z9 ?_ | refine ZA ?_ | refine ZB ?_ | refine ZC ?_ | refine ZD ?_ | refine ZE ?_ | refine ZF ?_ | refine ZG ?_ | refine ZH ?_)
            refine kLoop_n ⟨hlt, trivial, ?_⟩
            exact Wk.gy (fun b => cond (Nat.beq b 4) 5 (b))
          · clear hdv hst hget hcut hcutp PT hsnoc hlm
            generalize pC gs[q] = pc at *
            repeat (first | refine Z1 ?_ | refine Z2 ?_ | (refine Z3 ?_; (repeat (first | (apply gS; first | refine go_no ?_ | refine go_f ?_ | refine gx ?_ | refine gm ?_ | refine gp ?_ | refine go_c rfl rfl (P1) ?_ | refine go_cF rfl rfl (P1) ?_ | refine go_cA rfl rfl (P1) ?_) | (apply gZ; first | refine go_f ?_ | refine gx ?_ | refine gm ?_))); refine T_nil ?_) | (apply ZR; (try dsimp only [List.map_cons, List.map_nil]); refine C_dr mixed ?_; (repeat (first | (apply vS; first | refine vn ?_ | refine va ?_ | refine vp ?_ | refine vr ?_ | refine vt ?_ | refine vc (P1) ?_ | refine vcF (P1) ?_) | (apply vZ; first | refine vs ?_ | refine vw ?_))); refine W_e ?_) | (apply ZK; first | refine Z4 ?_ | refine Z5 ?_) | refine Z6 ?_ | refine Z7 ?_ | refine Z8 ?_ | refine Z9 ?_ | refine ZA ?_ | refine ZB ?_ | refine ZC ?_ | refine ZD ?_ | refine ZE ?_ | refine ZF ?_ | refine ZG ?_ | refine ZH ?_)
            refine kLoop_n ⟨hlt, trivial, ?_⟩
            exact Wk.gy (fun b => cond (Nat.beq b 4) 5 (b))
    · obtain rfl : q = gs.length := by omega
      rw [List.take_length]
      clear hdv hst hget hcut hcutp PT hsnoc hlm
      repeat (first | refine Z1 ?_ | refine Z2 ?_ | (refine Z3 ?_; (repeat (first | (apply gS; first | refine go_no ?_ | refine go_f ?_ | refine gx ?_ | refine gm ?_ | refine gp ?_) | (apply gZ; first | refine go_f ?_ | refine gx ?_ | refine gm ?_))); refine T_nil ?_) | (apply ZR; (try dsimp only [List.map_cons, List.map_nil]); refine C_dr mixed ?_; (repeat (first | (apply vS; first | refine vn ?_ | refine va ?_ | refine vp ?_ | refine vr ?_ | refine vt ?_) | (apply vZ; first | refine vs ?_ | refine vw ?_))); refine W_e ?_) | (apply ZK; first | refine Z4 ?_ | refine Z5 ?_) | refine Z6 ?_ | refine Z7 ?_ | refine Z8 ?_ | refine Z9 ?_ | refine ZA ?_ | refine ZB ?_ | refine ZC ?_ | refine ZD ?_ | refine ZE ?_ | refine ZF ?_ | refine ZG ?_ | refine ZH ?_)
      repeat (first | refine kEnd_m ?_ | refine kEnd_f ?_)
      refine kEnd_g ?_ (by first | exact .inl rfl | exact .inr rfl)
      exact Sub.eq rfl rfl
/-! ### Updates -/
theorem rwide7_d {rs : List Rg} {c0 : Rg} {ct : List Rg} (hd : domB rs = true) (hc : canonRs rs = c0 :: ct) (hs : SpOk c0 ct) : DC Try.prog 149 [domD rs] (iD (iN c0 ct)) := by
  have RC := rdCount_d rs
  rw [show dCountRes rs = (((cnt rs : Nat) : Int), 0) from if_pos hd] at RC
  dsimp only at RC
  have RW := rrows7_d hd hc hs
  obtain ⟨e1, e2⟩ := cnt_can hd hc hs
  have hP : cN c0 * iN c0 ct ≤ 4096 := by rw [iN_mul]; exact (domB_iff.1 hs.dom).2.2
  by_cases hz : cnt rs = 0
  · have : iN c0 ct = 0 := by unfold iN; rw [if_pos (e2.1 hz)]
    rw [this]
    rw [hz] at RC
    refine DC.of Try.func149 Try.ntmps149 Try.results149 rfl (by decide +kernel) rfl ?_
    repeat (first | refine Z1 ?_ | refine Z2 ?_ | (refine Z3 ?_; (repeat (first | (apply gS; first | refine go_f ?_ | refine gx ?_ | refine gm ?_ | refine gp ?_ | refine go_c rfl rfl (RC) ?_ | refine go_cF rfl rfl (RC) ?_ | refine go_cA rfl rfl (RC) ?_))); refine T_nil ?_) | (apply ZK; first | refine Z4 ?_ | refine Z5 ?_) | refine Z6 ?_ | refine Z7 ?_ | refine ZF ?_)
    repeat (first | refine kEnd_m ?_ | refine kEnd_f ?_)
    refine kEnd_g ?_ (by first | exact .inl rfl | exact .inr rfl)
    exact Sub.eq rfl rfl
  · have hz2 : cN c0 ≠ 0 := fun h => hz (e2.2 h)
    have e : ((cnt rs : Nat) : Int).tdiv (cN c0 : Nat) = ((iN c0 ct : Nat) : Int) := by
      rw [← Int.ofNat_tdiv, e1, Nat.mul_comm, Nat.mul_div_cancel _ (Nat.pos_of_ne_zero hz2)]
    rw [← e1] at hP
    rw [← e]
    clear e e1 e2 hc hs
    generalize cnt rs = N at *
    generalize cN c0 = R at *
    refine DC.of Try.func149 Try.ntmps149 Try.results149 rfl (by decide +kernel) rfl ?_
    repeat (first | refine Z1 ?_ | refine Z2 ?_ | (refine Z3 ?_; (repeat (first | (apply gS; first | refine go_f ?_ | refine gx ?_ | refine gm ?_ | refine gp ?_ | refine go_c rfl rfl (RC) ?_ | refine go_cF rfl rfl (RC) ?_ | refine go_cA rfl rfl (RC) ?_ | refine go_c rfl rfl (RW) ?_ | refine go_cF rfl rfl (RW) ?_ | refine go_cA rfl rfl (RW) ?_))); refine T_nil ?_) | (apply ZK; first | refine Z4 ?_ | refine Z5 ?_) | refine Z6 ?_ | refine Z7 ?_ | refine ZF ?_)
    repeat (first | refine kEnd_m ?_ | refine kEnd_f ?_)
    refine kEnd_g ?_ (by first | exact .inl rfl | exact .inr rfl)
    exact Sub.eq rfl rfl
theorem rUpdates7_bad {s : ByteArray} {n o : Int} {rs : List Rg} (h : errD s n o rs ≠ 0) (q : Int) : DC Try.prog 83 [dsD s n o, domD rs, iD q] (.tup [.row 0 [], iD (errD s n o rs)]) := by
  have B := rvalid7_d s n o rs
  generalize errD s n o rs = e at *
  refine DC.of Try.func83 Try.ntmps83 Try.results83 rfl (by decide +kernel) rfl ?_
  repeat (first | refine Z1 ?_ | refine Z2 ?_ | (refine Z3 ?_; (repeat (first | (apply gS; first | refine go_no ?_ | refine go_f ?_ | refine gx ?_ | refine gm ?_ | refine gp ?_ | refine go_c rfl rfl (B) ?_ | refine go_cF rfl rfl (B) ?_ | refine go_cA rfl rfl (B) ?_) | (apply gZ; first | refine go_f ?_ | refine gx ?_ | refine gm ?_))); refine T_nil ?_) | (apply ZR; (try dsimp only [List.map_cons, List.map_nil]); refine C_dr mixed ?_; (repeat (first | (apply vS; first | refine vn ?_ | refine va ?_ | refine vp ?_ | refine vr ?_ | refine vt ?_ | refine vc (B) ?_ | refine vcF (B) ?_) | (apply vZ; first | refine vs ?_ | refine vw ?_))); refine W_e ?_) | (apply ZK; first | refine Z4 ?_ | refine Z5 ?_) | refine Z6 ?_ | refine Z7 ?_ | refine Z8 ?_ | refine Z9 ?_ | refine ZA ?_ | refine ZB ?_ | refine ZC ?_ | refine ZD ?_ | refine ZE ?_ | refine ZF ?_ | refine ZG ?_ | refine ZH ?_)
  repeat (first | refine kEnd_m ?_ | refine kEnd_f ?_)
  refine kEnd_g ?_ (by first | exact .inl rfl | exact .inr rfl)
  exact Sub.tup (.cons Sub.nil (.cons (Sub.eq rfl rfl) .nil))
theorem rUpdates7_no {s : ByteArray} {k : Kd} {n o : Nat} (hk : Okd s k n o) {rs : List Rg} (hd : domB rs = true) (q : Int) (hp : ¬ (0 ≤ q ∧ q ≤ 4096)) :
    DC Try.prog 83 [dsD s n o, domD rs, iD q] (.tup [.row 0 [], iD 2]) := by
  have B := rvalid7_d s n o rs
  rw [errD_0 hk hd] at B
  by_cases h0 : q < 0
  all_goals
    refine DC.of Try.func83 Try.ntmps83 Try.results83 rfl (by decide +kernel) rfl ?_
    repeat (first | refine Z1 ?_ | refine Z2 ?_ | (refine Z3 ?_; (repeat (first | (apply gS; first | refine go_no ?_ | refine go_f ?_ | refine gx ?_ | refine gm ?_ | refine gp ?_ | refine go_c rfl rfl (B) ?_ | refine go_cF rfl rfl (B) ?_ | refine go_cA rfl rfl (B) ?_) | (apply gZ; first | refine go_f ?_ | refine gx ?_ | refine gm ?_))); refine T_nil ?_) | (apply ZR; (try dsimp only [List.map_cons, List.map_nil]); refine C_dr mixed ?_; (repeat (first | (apply vS; first | refine vn ?_ | refine va ?_ | refine vp ?_ | refine vr ?_ | refine vt ?_ | refine vc (B) ?_ | refine vcF (B) ?_) | (apply vZ; first | refine vs ?_ | refine vw ?_))); refine W_e ?_) | (apply ZK; first | refine Z4 ?_ | refine Z5 ?_) | refine Z6 ?_ | refine Z7 ?_ | refine Z8 ?_ | refine Z9 ?_ | refine ZA ?_ | refine ZB ?_ | refine ZC ?_ | refine ZD ?_ | refine ZE ?_ | refine ZF ?_ | refine ZG ?_ | refine ZH ?_)
    repeat (first | refine kEnd_m ?_ | refine kEnd_f ?_)
    refine kEnd_g ?_ (by first | exact .inl rfl | exact .inr rfl)
    exact Sub.tup (.cons Sub.nil (.cons (Sub.eq rfl rfl) .nil))
set_option maxHeartbeats 16000000 in
theorem rUpdates7_ok {s : ByteArray} {k : Kd} {n o : Nat} (hk : Okd s k n o) {rs : List Rg} {c0 : Rg} {ct : List Rg} (hd : domB rs = true) (hc : canonRs rs = c0 :: ct) (hs : SpOk c0 ct) (h : Nat) (hq : h ≤ 4096) :
    DC Try.prog 83 [dsD s n o, domD rs, iD h] (.tup [cntsD kdHalo (upT k n o c0 ct h), iD 0]) := by
  have B := rvalid7_d s n o rs
  rw [errD_0 hk hd] at B
  have HL := fun p : Nat => rhalo7_d hk hd hc hs p h hq
  have RW := rrows7_d hd hc hs
  have WD := rwide7_d hd hc hs
  have hlt := fun p => hal_lt (k := k) (n := n) (o := o) (R := cN c0) (p := p) (h := h)
  have hle := fun p => hal_len k n o (cN c0) p h
  have hfew := hs.few
  have hO := fun i (hi : i < cN c0) => rowner7_d hk hi hfew
  have hoL := fun i (hi : i < cN c0) => own_lt hk.ok hi
  have h8 := hk.ok.o8
  have h1 := hk.ok.o1
  have hW : iN c0 ct ≤ 4096 := by
    have hP : cN c0 * iN c0 ct ≤ 4096 := by rw [iN_mul]; exact (domB_iff.1 hs.dom).2.2
    by_cases hz : cN c0 = 0
    · have : iN c0 ct = 0 := by unfold iN; rw [if_pos hz]
      omega
    · exact Nat.le_trans (Nat.le_mul_of_pos_left _ (Nat.pos_of_ne_zero hz)) hP
  have CT := rcounts_d (upT k n o c0 ct h) kdHalo
  unfold upT at CT ⊢
  obtain ⟨H, hH⟩ : ∃ H : Nat → List Nat, H = fun b => hal k n o (cN c0) b h := ⟨_, rfl⟩
  have hH2 : ∀ b, hal k n o (cN c0) b h = H b := fun b => by rw [hH]
  rw [← hH] at CT ⊢
  simp only [hH2] at HL hlt hle
  clear hH hH2
  generalize own k n o (cN c0) = wO at *
  have hU0 := upF_0 wO H (iN c0 ct)
  have hUn := fun b => upF_next wO H (iN c0 ct) b
  have hUs := fun b q (hq : q < (H b).length) => upF_step wO H (iN c0 ct) b hq
  have hUb := fun b q (hb : b ≤ 8) => upF_bd wO H (W := iN c0 ct) (q := q) hb (fun b => Nat.le_trans (hle b) hfew) hW
  generalize upF wO H (iN c0 ct) = U at *
  have hT := fun b q => tabD_len (U b q)
  have hA := fun b q a (ha : a < 8) (hb : b < 8) => tab_at (U b q) ha hb
  have hZ : tabD (U 0 0) = List.replicate 64 (iD 0) := by rw [hU0]; rfl
  have hTl := hT o 0
  have hTk : (List.drop 0 (tabD (U o 0))).take 64 = tabD (U o 0) := by rw [List.drop_zero, List.take_of_length_le (by rw [hTl]; exact Nat.le_refl _)]
  clear hU0 hk hd hc hs
  generalize iN c0 ct = W at *
  generalize cN c0 = R at *
  refine DC.of Try.func83 Try.ntmps83 Try.results83 rfl (by decide +kernel) rfl ?_
  repeat (first | refine Z1 ?_ | refine Z2 ?_ | (refine Z3 ?_; (repeat (first | (apply gS; first | refine go_no ?_ | refine go_f ?_ | refine gx ?_ | refine gm ?_ | refine gp ?_ | refine go_c rfl rfl (B) ?_ | refine go_cF rfl rfl (B) ?_ | refine go_cA rfl rfl (B) ?_) | (apply gZ; first | refine go_f ?_ | refine gx ?_ | refine gm ?_))); refine T_nil ?_) | (apply ZR; (try dsimp only [List.map_cons, List.map_nil]); refine C_dr mixed ?_; (repeat (first | (apply vS; first | refine vn ?_ | refine va ?_ | refine vp ?_ | refine vr ?_ | refine vt ?_ | refine vc (B) ?_ | refine vcF (B) ?_) | (apply vZ; first | refine vs ?_ | refine vw ?_))); refine W_e ?_) | (apply ZK; first | refine Z4 ?_ | refine Z5 ?_) | refine Z6 ?_ | refine Z7 ?_ | refine Z8 ?_ | refine Z9 ?_ | refine ZA ?_ | refine ZB ?_ | refine ZC ?_ | refine ZD ?_ | refine ZE ?_ | refine ZF ?_ | refine ZG ?_ | refine ZH ?_)
  refine C_count o (fun _ => True) (fun b => ⟨3, 61, [(10, iD b), (9, .ptr 2 0), (2, iD h), (3, .ptr 0 0), (4, .ptr 1 0)], [(0, some ⟨63, 3, 1, [sD s, iD n, iD o]⟩), (1, some ⟨24, 1, 1, [rowR rs]⟩), (2, some ⟨155, 64, 1, tabD (U b 0)⟩)]⟩) ?_ trivial ?_
  · rw [hZ]
    exact Wk.gx (fun b => b)
  · intro b hb _
    by_cases hbl : b < o
    · have C1 := HL b
      have hnx := hUn b
      have l1 := hle b
      have l2 := hlt b
      have us := hUs b
      have ub := fun q => hUb b q (by omega)
      have tA := fun q a ha => hA b q a ha (by omega)
      have tT := hT b
      have hnl : (natsI (H b)).length = (H b).length := by simp [natsI]
      have er : rowI (natsI (H b)) = .row (H b).length (intsD (natsI (H b))) := by show D.row _ _ = _; rw [hnl]
      rw [er] at C1
      clear HL hUn hle hlt hUs hUb hA hT CT er hZ hTl hTk
      generalize H b = l at *
      repeat (first | refine Z1 ?_ | refine Z2 ?_ | (refine Z3 ?_; (repeat (first | (apply gS; first | refine go_no ?_ | refine go_f ?_ | refine gx ?_ | refine gm ?_ | refine gp ?_ | refine go_c rfl rfl (C1) ?_ | refine go_cF rfl rfl (C1) ?_ | refine go_cA rfl rfl (C1) ?_) | (apply gZ; first | refine go_f ?_ | refine gx ?_ | refine gm ?_))); refine T_nil ?_) | (apply ZR; (try dsimp only [List.map_cons, List.map_nil]); refine C_dr mixed ?_; (repeat (first | (apply vS; first | refine vn ?_ | refine va ?_ | refine vp ?_ | refine vr ?_ | refine vt ?_ | refine vc (C1) ?_ | refine vcF (C1) ?_) | (apply vZ; first | refine vs ?_ | refine vw ?_))); refine W_e ?_) | (apply ZK; first | refine Z4 ?_ | refine Z5 ?_) | refine Z6 ?_ | refine Z7 ?_ | refine Z8 ?_ | refine Z9 ?_ | refine ZA ?_ | refine ZB ?_ | refine ZC ?_ | refine ZD ?_ | refine ZE ?_ | refine ZF ?_ | refine ZG ?_ | refine ZH ?_)
      refine C_count l.length (fun _ => True) (fun q => ⟨3, 61, [(12, iD q), (11, .row l.length (intsD (natsI l))), (10, iD b), (9, .ptr 2 0), (2, iD h), (3, .ptr 0 0), (4, .ptr 1 0)], [(0, some ⟨63, 3, 1, [sD s, iD n, iD o]⟩), (1, some ⟨24, 1, 1, [rowR rs]⟩), (2, some ⟨155, 64, 1, tabD (U b q)⟩)]⟩) ?_ trivial ?_
      · exact Wk.gx (fun b => b)
      · intro q hq' _
        by_cases hql : q < l.length
        · have hi := l2 _ (List.getElem_mem hql)
          have C2 := hO _ hi
          have w8 := hoL _ hi
          have gl : (natsI l)[q]'(by omega) = ((l[q] : Nat) : Int) := by simp [natsI]
          rw [← gl] at C2
          have y6 := us q hql
          have y1 := tT q
          have y2 := tA q (wO l[q]) (by omega)
          have y3 := (ub q (wO l[q] * 8 + b)).1
          have y4 := (ub q (wO l[q] * 8 + b)).2
          have y7 := tab_set (U b q) (a := wO l[q]) (b := b) (by omega) (by omega) (U b q (wO l[q] * 8 + b) + W)
          rw [← y6] at y7
          clear hO hoL us tT tA ub l2 hnx y6
          generalize U b q (wO l[q] * 8 + b) = v at *
          generalize wO l[q] = a at *
          repeat (first | refine Z1 ?_ | refine Z2 ?_ | (refine Z3 ?_; (repeat (first | (apply gS; first | refine go_no ?_ | refine go_f ?_ | refine gx ?_ | refine gm ?_ | refine gp ?_ | refine go_c rfl rfl (C2) ?_ | refine go_cF rfl rfl (C2) ?_ | refine go_cA rfl rfl (C2) ?_ | refine go_c rfl rfl (RW) ?_ | refine go_cF rfl rfl (RW) ?_ | refine go_cA rfl rfl (RW) ?_ | refine go_c rfl rfl (WD) ?_ | refine go_cF rfl rfl (WD) ?_ | refine go_cA rfl rfl (WD) ?_) | (apply gZ; first | refine go_f ?_ | refine gx ?_ | refine gm ?_))); refine T_nil ?_) | (apply ZR; (try dsimp only [List.map_cons, List.map_nil]); refine C_dr mixed ?_; (repeat (first | (apply vS; first | refine vn ?_ | refine va ?_ | refine vp ?_ | refine vr ?_ | refine vt ?_ | refine vc (C2) ?_ | refine vcF (C2) ?_ | refine vc (RW) ?_ | refine vcF (RW) ?_ | refine vc (WD) ?_ | refine vcF (WD) ?_) | (apply vZ; first | refine vs ?_ | refine vw ?_))); refine W_e ?_) | (apply ZK; first | refine Z4 ?_ | refine Z5 ?_) | refine Z6 ?_ | refine Z7 ?_ | refine Z8 ?_ | refine Z9 ?_ | refine ZA ?_ | refine ZB ?_ | refine ZC ?_ | refine ZD ?_ | refine ZE ?_ | refine ZF ?_ | refine ZG ?_ | refine ZH ?_)
          refine kLoop_n ⟨hql, trivial, ?_⟩
          exact Wk.gx (fun b => b)
        · obtain rfl : q = l.length := by omega
          rw [hnx]
          clear hO hoL us tT tA ub l2 hnx
          repeat (first | refine Z1 ?_ | refine Z2 ?_ | (refine Z3 ?_; (repeat (first | (apply gS; first | refine go_no ?_ | refine go_f ?_ | refine gx ?_ | refine gm ?_ | refine gp ?_) | (apply gZ; first | refine go_f ?_ | refine gx ?_ | refine gm ?_))); refine T_nil ?_) | (apply ZR; (try dsimp only [List.map_cons, List.map_nil]); refine C_dr mixed ?_; (repeat (first | (apply vS; first | refine vn ?_ | refine va ?_ | refine vp ?_ | refine vr ?_ | refine vt ?_) | (apply vZ; first | refine vs ?_ | refine vw ?_))); refine W_e ?_) | (apply ZK; first | refine Z4 ?_ | refine Z5 ?_) | refine Z6 ?_ | refine Z7 ?_ | refine Z8 ?_ | refine Z9 ?_ | refine ZA ?_ | refine ZB ?_ | refine ZC ?_ | refine ZD ?_ | refine ZE ?_ | refine ZF ?_ | refine ZG ?_ | refine ZH ?_)
          refine kLoop_n ⟨hbl, trivial, ?_⟩
          exact Wk.gx (fun b => b)
    · obtain rfl : b = o := by omega
      clear hO hoL HL hUn hle hlt hUs hUb hA hT hZ
      repeat (first | refine Z1 ?_ | refine Z2 ?_ | (refine Z3 ?_; (repeat (first | (apply gS; first | refine go_no ?_ | refine go_f ?_ | refine gx ?_ | refine gm ?_ | refine gp ?_ | refine go_c rfl rfl (CT) ?_ | refine go_cF rfl rfl (CT) ?_ | refine go_cA rfl rfl (CT) ?_) | (apply gZ; first | refine go_f ?_ | refine gx ?_ | refine gm ?_))); refine T_nil ?_) | (apply ZR; (try dsimp only [List.map_cons, List.map_nil]); refine C_dr mixed ?_; (repeat (first | (apply vS; first | refine vn ?_ | refine va ?_ | refine vp ?_ | refine vr ?_ | refine vt ?_ | refine vc (CT) ?_ | refine vcF (CT) ?_) | (apply vZ; first | refine vs ?_ | refine vw ?_))); refine W_e ?_) | (apply ZK; first | refine Z4 ?_ | refine Z5 ?_) | refine Z6 ?_ | refine Z7 ?_ | refine Z8 ?_ | refine Z9 ?_ | refine ZA ?_ | refine ZB ?_ | refine ZC ?_ | refine ZD ?_ | refine ZE ?_ | refine ZF ?_ | refine ZG ?_ | refine ZH ?_)
      repeat (first | refine kEnd_m ?_ | refine kEnd_f ?_)
      refine kEnd_g ?_ (by first | exact .inl rfl | exact .inr rfl)
      exact Sub.eq rfl rfl
end Go.Proofs.Ytifapodobhkdcaa
