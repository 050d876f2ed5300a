/- The reference of layer 7: parts and piece, by the abstract machine. -/
import Derived.Test.YtifapodobhkdcaaDs6
import Derived.Test.YtifapodobhkdcaaLit
namespace Go.Proofs.Ytifapodobhkdcaa
open Go.RowKit
set_option linter.unusedVariables false
set_option maxHeartbeats 16000000
set_option linter.unusedSimpArgs false
set_option maxRecDepth 100000
theorem rpart7_d (r0 : Rg) (rt : List Rg) (r : Rg) (h3 : rt.length ≤ 10) : DC Try.prog 181 [domD (r0 :: rt), rD r] (domD (dCanonRes (r :: rt)).1) := by
  have CN := rdCanon_d (r :: rt)
  rw [show domD (r :: rt) = .agg [.row (1 + rt.length) (rC r ++ rt.flatMap rC)] by
    show D.agg [D.row (rt.length + 1) _] = _
    rw [Nat.add_comm]; rfl] at CN
  have e2 : ((r0 :: rt).drop (Int.toNat 1)).take ((r0 :: rt).length - Int.toNat 1) = rt := by
    show rt.take _ = rt
    exact List.take_of_length_le (by simp)
  have hc1 : 1 ≤ (r0 :: rt).length := by simp
  have hrl : (rt.flatMap rC).length = rt.length * 3 := rC_len rt
  generalize dCanonRes (r :: rt) = c at *
  refine DC.of Try.func181 Try.ntmps181 Try.results181 rfl (by decide +kernel) rfl ?_
  repeat (first | refine Z1 ?_ | refine Z2 ?_ | (refine Z3 ?_; (repeat (first | (apply gS; first | refine go_f ?_ | refine gx ?_ | refine gm ?_ | refine gp ?_ | refine go_c rfl rfl (CN) ?_ | refine go_cF rfl rfl (CN) ?_ | refine go_cA rfl rfl (CN) ?_) | (apply gZ; first | refine go_f ?_ | refine gx ?_ | refine gm ?_))); refine T_nil ?_) | (apply ZR; (try dsimp only [List.map_cons, List.map_nil]); refine C_dr mixed ?_; (repeat (first | (apply vS; first | refine vp ?_ (QA_all (fun nb => ⟨P_litE (r := [_, _, _]) rfl rfl rfl rfl rfl⟩)) | refine vp ?_ (QA_all (fun nb => ⟨P_appLit rfl rfl rfl rfl rfl (by assumption) (by omega) (by omega) (by repeat (first | rfl | exact idsL_map (fun _ => rfl) _ | exact idsL_flat (fun _ => rfl) _ | refine idsL_append ?_ ?_))⟩)) | refine vl 9 ?_ | refine va ?_ | refine vp ?_ | refine vr ?_ | refine vt ?_ | refine vc (CN) ?_ | refine vcF (CN) ?_) | (apply vZ; first | refine vs ?_ | refine vw ?_))); refine W_e ?_) | (apply ZK; first | refine Z4 ?_ | refine Z5 ?_) | refine Z6 ?_ | refine Z7 ?_)
  repeat (first | refine kEnd_m ?_ | refine kEnd_f ?_)
  refine kEnd_g ?_ (by first | exact .inl rfl | exact .inr rfl)
  exact Sub.eq rfl rfl
/-- the last range of a run in the making -/
def lastRg (ml : List Int) (g : List Nat) (j : Nat) : Rg := if j = 0 then ⟨0, 0, 0⟩ else (ofRes (gM ml (g.take j))).1
theorem of_e {l : List Int} : (ofRes l).2 = 0 ↔ ofGood l := by
  by_cases h : ofGood l
  · rw [of_yes h]; exact ⟨fun _ => h, fun _ => rfl⟩
  · rw [of_no h]; exact ⟨fun e => absurd e (by decide), fun k => absurd k h⟩
theorem gM_take {ml : List Int} {g : List Nat} {j : Nat} (h : j < g.length) : gM ml (g.take (j + 1)) = gM ml (g.take j) ++ [ml.getD g[j] 0] := gM_snoc h
theorem rIth_ok {r : Rg} (h : vB r = true) {i : Nat} (hi : i < cN r) : DC Try.prog 179 [rD r, iD i] (.tup [iD (atOf (rowOf r) i), iD 0]) := by
  have H := rIth_d r i
  have hn := cN_int h
  rwa [show ithRes r i = (atOf (rowOf r) i, 0) by unfold ithRes; rw [if_pos h, if_pos ⟨by omega, by omega⟩]] at H
set_option maxHeartbeats 16000000 in
theorem rparts7_d {r0 : Rg} {rt : List Rg} {c0 : Rg} {ct : List Rg} (hd : domB (r0 :: rt) = true) (hs : SpOk c0 ct) (hcc : cN c0 ≠ 0 → memN r0 = memN c0 ∧ rt.map (fun r => canonOf (rowOf r)) = ct ∧ prodN (cl rt) = prodN (cl ct)) (l : List Nat) (hl : ∀ j ∈ l, j < (memN c0).length) (hn : l.length ≤ cN c0)
    (gs : List (List Nat)) (hr : Runs (tgR (memN c0)) l gs) (hgd : ∀ g ∈ gs, ofGood (gM (memN c0) g)) :
    DC Try.prog 148 [domD (r0 :: rt), rowI (natsI l)] (domsD (gs.map (partC ct (memN c0)))) := by
  have hflat := hr.flat
  have hget := hr.get
  have hfew := hs.few
  have hpl : (natsI l).length = l.length := by simp [natsI]
  have er : rowI (natsI l) = .row l.length (intsD (natsI l)) := by show D.row _ _ = _; rw [hpl]
  have eo : domsD (gs.map (partC ct (memN c0))) = .row gs.length ((gs.map (partC ct (memN c0))).map rowR) := by show D.row _ _ = _; rw [List.length_map]
  have hcut : ∀ k, cutAt gs k ≤ l.length := fun k => by rw [← hflat]; exact cutAt_le gs k
  have hend : cutAt gs gs.length = l.length := by rw [cutAt_all, hflat]
  have hv0 := (domB_iff.1 hd).2.1 r0 (by simp)
  have h3 : rt.length ≤ 10 := by have := (domB_iff.1 hd).1.2; simp at this; omega
  have hml := memN_len c0
  have hmb := mem_bd hs
  -- the members
  have hI : ∀ i (h : i < (memN c0).length), DC Try.prog 179 [rD r0, iD i] (.tup [iD (memN c0)[i], iD 0]) := fun i h => by
    obtain ⟨hm, hrt, hpt⟩ := hcc (by rw [← memN_len]; omega)
    have hi : i < cN r0 := by rw [← memN_len, hm]; exact h
    have := rIth_ok hv0 hi
    have e : atOf (rowOf r0) (i : Int) = (memN c0)[i] := by
      have h2 : i < (memN r0).length := by rw [memN_len]; exact hi
      have e3 : (memN r0)[i] = atOf (rowOf r0) (i : Int) := rowL_get h2
      rw [← e3]; simp only [hm]
    rwa [e] at this
  -- a run
  have hP : ∀ k (hk : k < gs.length), DC Try.prog 181 [domD (r0 :: rt), rD (lastRg (memN c0) gs[k] gs[k].length)] (domD (partC ct (memN c0) gs[k])) := fun k hk => by
    obtain ⟨g1, g2, g3⟩ := hget k hk
    have hgk := hgd _ (List.getElem_mem hk)
    have hle : gs[k].length ≤ cN c0 := by have := cut_le hk; rw [hflat] at this; omega
    obtain ⟨hm, hrt, hpt⟩ := hcc (by omega)
    have := rpart7_d r0 rt (lastRg (memN c0) gs[k] gs[k].length) h3
    have e : (dCanonRes (lastRg (memN c0) gs[k] gs[k].length :: rt)).1 = partC ct (memN c0) gs[k] := by
      have e1 : lastRg (memN c0) gs[k] gs[k].length = (ofRes (gM (memN c0) gs[k])).1 := by unfold lastRg; rw [if_neg (by omega), List.take_length]
      have hne : gs[k] ≠ [] := List.length_pos_iff.1 g1
      obtain ⟨p1, p2, p3⟩ := partC_eq hs hne hle hgk
      rw [e1, p1, of_yes hgk]
      have hgn : gM (memN c0) gs[k] ≠ [] := by intro e; have := gM_len (memN c0) gs[k]; rw [e] at this; simp at this; omega
      have hvr := good_canon hgk hgn
      have hcr := good_c hgk
      rw [gM_len] at hcr
      have hag := good_again hgk
      rw [p1] at p2
      simp only
      generalize canonOf (ofRow (gM (memN c0) gs[k])) = r at *
      have hdr : domB (r :: rt) = true := by
        rw [domB_iff]
        refine ⟨(domB_iff.1 hd).1, fun q hq => ?_, ?_⟩
        · rcases List.mem_cons.1 hq with rfl | hq
          · exact hvr
          · exact (domB_iff.1 hd).2.1 q (by simp [hq])
        · show cN r * prodN (cl rt) ≤ 4096
          rw [hpt]; exact (domB_iff.1 p2).2.2
      have hz : prodN (cl (r :: rt)) ≠ 0 := by
        show cN r * prodN (cl rt) ≠ 0
        rw [hpt]
        exact Nat.mul_ne_zero (by omega) (by have := (can_tail hs (show cN c0 ≠ 0 by omega)).2; omega)
      rw [dCanonRes, if_pos hdr]
      unfold canonRs
      simp only [hz, if_false, List.map_cons]
      rw [hag, hrt]
    rwa [e] at this
  -- one more
  have hO : ∀ k (hk : k < gs.length) j (hj : j ≤ gs[k].length) i (hi : i < (memN c0).length), DC Try.prog 180 [.row (j + 1) (intsD (gM (memN c0) (gs[k].take j)) ++ [iD (memN c0)[i]])] (.tup [rD (ofRes (gM (memN c0) (gs[k].take j) ++ [(memN c0)[i]])).1, iD (ofRes (gM (memN c0) (gs[k].take j) ++ [(memN c0)[i]])).2]) := fun k hk j hj i hi => by
    have hle : gs[k].length ≤ cN c0 := by have := cut_le hk; rw [hflat] at this; omega
    have hlj : (gM (memN c0) (gs[k].take j)).length = j := by rw [gM_len, List.length_take]; omega
    have := rOfP_d (gM (memN c0) (gs[k].take j) ++ [(memN c0)[i]]) (by rw [List.length_append, hlj]; simp; omega)
    have e : rowI (gM (memN c0) (gs[k].take j) ++ [(memN c0)[i]]) = .row (j + 1) (intsD (gM (memN c0) (gs[k].take j)) ++ [iD (memN c0)[i]]) := by
      show D.row _ (intsD _) = _
      rw [List.length_append, hlj]
      simp [intsD]
    rwa [e] at this
  have hlast : ∀ k (hk : k < gs.length) j (hj : j < gs[k].length), gs[k][j] < (memN c0).length ∧ ofRes (gM (memN c0) (gs[k].take j) ++ [(memN c0).getD gs[k][j] 0]) = (lastRg (memN c0) gs[k] (j + 1), 0) ∧ intsD (gM (memN c0) (gs[k].take (j + 1))) = intsD (gM (memN c0) (gs[k].take j)) ++ [iD ((memN c0).getD gs[k][j] 0)] := fun k hk j hj => by
    obtain ⟨g1, g2, g3⟩ := hget k hk
    have hin : gs[k][j] < (memN c0).length := hl _ (by rw [← hflat]; exact List.mem_flatten.2 ⟨gs[k], List.getElem_mem hk, List.getElem_mem hj⟩)
    have et := gM_take (ml := memN c0) hj
    refine ⟨hin, ?_, ?_⟩
    · rw [← et]
      have hgood : ofGood (gM (memN c0) (gs[k].take (j + 1))) := by
        rcases Nat.eq_zero_or_pos j with e | e
        · subst e
          rw [et, List.take_zero]
          show ofGood ([] ++ [_])
          rw [List.nil_append, getD_at hin]
          exact good_one (hmb _ hin)
        · have := g2 j hj e
          have := of_decide_eq_true this
          rw [gM_app] at this
          rw [et]; exact this
      have e1 : lastRg (memN c0) gs[k] (j + 1) = (ofRes (gM (memN c0) (gs[k].take (j + 1)))).1 := by unfold lastRg; rw [if_neg (by omega)]
      rw [e1]
      exact Prod.ext rfl (of_e.2 hgood)
    · rw [et]; simp [intsD]
  have hstop : ∀ k (hk : k < gs.length) (h : cutAt gs (k + 1) < l.length), (ofRes (gM (memN c0) gs[k] ++ [(memN c0).getD l[cutAt gs (k + 1)] 0])).2 = 5 := fun k hk h => by
    obtain ⟨g1, g2, g3⟩ := hget k hk
    have := g3 l[cutAt gs (k + 1)] (List.getElem?_eq_getElem h)
    have := of_decide_eq_false this
    rw [gM_app] at this
    rw [of_no this]
  have hsnoc : ∀ k (hk : k < gs.length), ((gs.take (k + 1)).map (partC ct (memN c0))).map rowR = ((gs.take k).map (partC ct (memN c0))).map rowR ++ [rowR (partC ct (memN c0) gs[k])] := fun k hk => by
    rw [List.take_succ_eq_append_getElem hk, List.map_append, List.map_append]; rfl
  have hgll : ∀ k, k ≤ gs.length → k ≤ cutAt gs k := fun k => by
    induction k with
    | zero => intro _; omega
    | succ k ih =>
      intro hk
      have := ih (by omega)
      rw [cutAt_succ (show k < gs.length by omega)]
      have := (hget k (by omega)).1
      omega
  have hgl := hgll gs.length (Nat.le_refl _)
  have z0 : cutAt gs 0 = 0 := cutAt_0 gs
  have hlm : ∀ i (h : i < l.length), l[i] < (memN c0).length := fun i h => hl _ (List.getElem_mem h)
  have hlen0 : 0 < (r0 :: rt).length := by simp
  have hl0 : ∀ g, lastRg (memN c0) g 0 = ⟨0, 0, 0⟩ := fun g => if_pos rfl
  have hm0 : ∀ g : List Nat, intsD (gM (memN c0) (g.take 0)) = [] := fun g => rfl
  clear hs hcc hgd hr hmb hd hgll hl
  generalize memN c0 = ml at *
  generalize partC ct ml = pC at *
  clear hml
  rw [eo, er]
  refine DC.of Try.func148 Try.ntmps148 Try.results148 rfl (by decide +kernel) rfl ?_
  repeat (first | refine Z1 ?_ | refine Z2 ?_ | (refine Z3 ?_; (repeat (first | (apply gS; first | refine go_f ?_ | refine gx ?_ | refine gm ?_ | refine gp ?_) | (apply gZ; first | refine go_f ?_ | refine gx ?_ | refine gm ?_))); refine T_nil ?_) | (apply ZR; (try dsimp only [List.map_cons, List.map_nil]); refine C_dr mixed ?_; (repeat (first | (apply vS; first | refine va ?_ | refine vp ?_ | refine vr ?_ | refine vt ?_) | (apply vZ; first | refine vs ?_ | refine vw ?_))); refine W_e ?_) | (apply ZK; first | refine Z4 ?_ | refine Z5 ?_) | refine Z6 ?_ | refine Z7 ?_ | refine Z8 ?_ | refine Z9 ?_ | refine ZA ?_ | refine ZB ?_ | refine ZC ?_ | refine ZD ?_ | refine ZE ?_ | refine ZF ?_ | refine ZG ?_ | refine ZH ?_)
  refine C_count gs.length (fun _ => True) (fun k => ⟨2, 62, [(6, iD (cutAt gs k)), (5, .own 1 k), (2, .ptr 0 0), (1, .row l.length (intsD (natsI l)))], [(0, some ⟨24, 1, 1, [rowR (r0 :: rt)]⟩), (1, some ⟨24, 1, k, ((gs.take k).map pC).map rowR⟩)]⟩) ?_ trivial ?_
  · rw [z0]
    refine Wk.trans (Wk.adoptT 5 24 1 rfl) ?_
    exact Wk.gx (fun b => b)
  · intro k hk _
    have q0 := hcut k
    by_cases hlt : k < gs.length
    · obtain ⟨g1, g2, g3⟩ := hget k hlt
      have q1 := cutAt_succ hlt
      have q2 := hcut (k + 1)
      have q3 : cutAt gs k < l.length := by omega
      have y0 := hl0 gs[k]
      have y1 := hm0 gs[k]
      repeat (first | refine Z1 ?_ | refine Z2 ?_ | (refine Z3 ?_; (repeat (first | (apply gS; first | refine go_f ?_ | refine gx ?_ | refine gm ?_ | refine gp ?_) | (apply gZ; first | refine go_f ?_ | refine gx ?_ | refine gm ?_))); refine T_nil ?_) | (apply ZR; (try dsimp only [List.map_cons, List.map_nil]); refine C_dr mixed ?_; (repeat (first | (apply vS; first | refine va ?_ | refine vp ?_ | refine vr ?_ | refine vt ?_) | (apply vZ; first | refine vs ?_ | refine vw ?_))); refine W_e ?_) | (apply ZK; first | refine Z4 ?_ | refine Z5 ?_) | refine Z6 ?_ | refine Z7 ?_ | refine Z8 ?_ | refine Z9 ?_ | refine ZA ?_ | refine ZB ?_ | refine ZC ?_ | refine ZD ?_ | refine ZE ?_ | refine ZF ?_ | refine ZG ?_ | refine ZH ?_)
      refine C_count gs[k].length (fun _ => True) (fun j => ⟨4, 62, [(6, iD ((cutAt gs k + j : Nat) : Int)), (7, .own 3 j), (8, .ptr 2 0), (5, .own 1 k), (2, .ptr 0 0), (1, .row l.length (intsD (natsI l)))], [(0, some ⟨24, 1, 1, [rowR (r0 :: rt)]⟩), (1, some ⟨24, 1, k, ((gs.take k).map pC).map rowR⟩), (2, some ⟨39, 3, 1, rC (lastRg ml gs[k] j)⟩), (3, some ⟨3, 1, j, intsD (gM ml (gs[k].take j))⟩)]⟩) ?_ trivial ?_
      · rw [y0, y1]
        refine Wk.trans (Wk.adoptT 7 3 1 rfl) ?_
        exact Wk.gx (fun b => b)
      · intro j hj _
        by_cases hin : cutAt gs k + j < l.length
        · have gl : (natsI l)[cutAt gs k + j]'(by omega) = ((l[cutAt gs k + j] : Nat) : Int) := by simp [natsI]
          have w1 := hlm _ hin
          have D1 := hI _ w1
          have D2 := hO k hlt j hj _ w1
          rw [← gl] at D1
          have hjb : j ≤ 4096 := by omega
          by_cases hjl : j < gs[k].length
          · obtain ⟨u1, u2, u3⟩ := hlast k hlt j hjl
            have e2 := cut_get hlt hjl
            simp only [hflat] at e2
            rw [← e2] at u1 u2 u3
            rw [getD_at u1] at u2 u3
            rw [u2] at D2
            have e1 : rC (lastRg ml gs[k] (j + 1)) = rC (lastRg ml gs[k] (j + 1)) := rfl
            clear hlast hget hcut hI hO hstop hlm hP hsnoc hl0 hm0 u2 e2
            generalize lastRg ml gs[k] (j + 1) = nr at *
            generalize lastRg ml gs[k] j = pr at *
            generalize ml[l[cutAt gs k + j]] = xx at *
            generalize gM ml (gs[k].take j) = gml at *
            repeat (first | refine Z1 ?_ | refine Z2 ?_ | (refine Z3 ?_; (repeat (first | (apply gS; first | refine T_cutApp ?_ (fun v => P_move rfl rfl) (fun v => P_lit1 rfl rfl rfl rfl rfl) | refine go_f ?_ | refine gx ?_ | refine gm ?_ | refine gp ?_ | refine go_c rfl rfl (D1) ?_ | refine go_cF rfl rfl (D1) ?_ | refine go_cA rfl rfl (D1) ?_ | refine go_c rfl rfl (D2) ?_ | refine go_cF rfl rfl (D2) ?_ | refine go_cA rfl rfl (D2) ?_) | (apply gZ; first | refine go_f ?_ | refine gx ?_ | refine gm ?_))); refine T_nil ?_) | (apply ZR; (try dsimp only [List.map_cons, List.map_nil]); refine C_dr mixed ?_; (repeat (first | (apply vS; first | refine va ?_ | refine vp ?_ | refine vr ?_ | refine vt ?_ | refine vc (D1) ?_ | refine vcF (D1) ?_ | refine vc (D2) ?_ | refine vcF (D2) ?_) | (apply vZ; first | refine vs ?_ | refine vw ?_))); refine W_e ?_) | (apply ZK; first | refine Z4 ?_ | refine Z5 ?_) | refine Z6 ?_ | refine Z7 ?_ | refine Z8 ?_ | refine Z9 ?_ | refine ZA ?_ | refine ZB ?_ | refine ZC ?_ | refine ZD ?_ | refine ZE ?_ | refine ZF ?_ | refine ZG ?_ | refine ZH ?_)
            refine kLoop_n ⟨hjl, trivial, ?_⟩
            exact Wk.gx (fun b => cond (Nat.beq b 3) 6 (b))
          · have hj2 : j = gs[k].length := by omega
            subst hj2
            have u5 := hstop k hlt (by rw [q1]; exact hin)
            simp only [q1] at u5
            rw [getD_at w1] at u5
            rw [List.take_length, u5] at D2
            have PT := hP k hlt
            have en := hsnoc k hlt
            rw [List.take_length]
            clear hlast hget hcut hI hO hstop hlm hP hsnoc hl0 hm0 u5
            generalize (ofRes (gM ml gs[k] ++ [ml[l[cutAt gs k + gs[k].length]]])).1 = zz at *
            generalize lastRg ml gs[k] gs[k].length = pr at *
            generalize ml[l[cutAt gs k + gs[k].length]] = xx at *
            generalize gM ml gs[k] = gml at *
            repeat (first | refine Z1 ?_ | refine Z2 ?_ | (refine Z3 ?_; (repeat (first | (apply gS; first | refine T_cutApp ?_ (fun v => P_move rfl rfl) (fun v => P_lit1 rfl rfl rfl rfl rfl) | refine go_f ?_ | refine gx ?_ | refine gm ?_ | refine gp ?_ | refine go_c rfl rfl (D1) ?_ | refine go_cF rfl rfl (D1) ?_ | refine go_cA rfl rfl (D1) ?_ | refine go_c rfl rfl (D2) ?_ | refine go_cF rfl rfl (D2) ?_ | refine go_cA rfl rfl (D2) ?_ | refine go_c rfl rfl (PT) ?_ | refine go_cF rfl rfl (PT) ?_ | refine go_cA rfl rfl (PT) ?_) | (apply gZ; first | refine go_f ?_ | refine gx ?_ | refine gm ?_))); refine T_nil ?_) | (apply ZR; (try dsimp only [List.map_cons, List.map_nil]); refine C_dr mixed ?_; (repeat (first | (apply vS; first | refine va ?_ | refine vp ?_ | refine vr ?_ | refine vt ?_ | refine vc (D1) ?_ | refine vcF (D1) ?_ | refine vc (D2) ?_ | refine vcF (D2) ?_ | refine vc (PT) ?_ | refine vcF (PT) ?_) | (apply vZ; first | refine vs ?_ | refine vw ?_))); refine W_e ?_) | (apply ZK; first | refine Z4 ?_ | refine Z5 ?_) | refine Z6 ?_ | refine Z7 ?_ | refine Z8 ?_ | refine Z9 ?_ | refine ZA ?_ | refine ZB ?_ | refine ZC ?_ | refine ZD ?_ | refine ZE ?_ | refine ZF ?_ | refine ZG ?_ | refine ZH ?_)
            refine kLoop_n ⟨hlt, trivial, ?_⟩
            exact Wk.gx (fun b => cond (Nat.beq b 1) 6 (b))
        · have hj2 : j = gs[k].length := by omega
          subst hj2
          have PT := hP k hlt
          have en := hsnoc k hlt
          clear hlast hget hcut hI hO hstop hlm hP hsnoc hl0 hm0
          generalize lastRg ml gs[k] gs[k].length = pr at *
          repeat (first | refine Z1 ?_ | refine Z2 ?_ | (refine Z3 ?_; (repeat (first | (apply gS; first | refine go_f ?_ | refine gx ?_ | refine gm ?_ | refine gp ?_ | refine go_c rfl rfl (PT) ?_ | refine go_cF rfl rfl (PT) ?_ | refine go_cA rfl rfl (PT) ?_) | (apply gZ; first | refine go_f ?_ | refine gx ?_ | refine gm ?_))); refine T_nil ?_) | (apply ZR; (try dsimp only [List.map_cons, List.map_nil]); refine C_dr mixed ?_; (repeat (first | (apply vS; first | refine va ?_ | refine vp ?_ | refine vr ?_ | refine vt ?_ | refine vc (PT) ?_ | refine vcF (PT) ?_) | (apply vZ; first | refine vs ?_ | refine vw ?_))); refine W_e ?_) | (apply ZK; first | refine Z4 ?_ | refine Z5 ?_) | refine Z6 ?_ | refine Z7 ?_ | refine Z8 ?_ | refine Z9 ?_ | refine ZA ?_ | refine ZB ?_ | refine ZC ?_ | refine ZD ?_ | refine ZE ?_ | refine ZF ?_ | refine ZG ?_ | refine ZH ?_)
          refine kLoop_n ⟨hlt, trivial, ?_⟩
          exact Wk.gx (fun b => cond (Nat.beq b 1) 4 (b))
    · obtain rfl : k = gs.length := by omega
      rw [List.take_length]
      clear hget hcut hI hO hstop hlm hP hsnoc hl0 hm0 hlast
      repeat (first | refine Z1 ?_ | refine Z2 ?_ | (refine Z3 ?_; (repeat (first | (apply gS; first | refine go_f ?_ | refine gx ?_ | refine gm ?_ | refine gp ?_) | (apply gZ; first | refine go_f ?_ | refine gx ?_ | refine gm ?_))); refine T_nil ?_) | (apply ZR; (try dsimp only [List.map_cons, List.map_nil]); refine C_dr mixed ?_; (repeat (first | (apply vS; first | refine va ?_ | refine vp ?_ | refine vr ?_ | refine vt ?_) | (apply vZ; first | refine vs ?_ | refine vw ?_))); refine W_e ?_) | (apply ZK; first | refine Z4 ?_ | refine Z5 ?_) | refine Z6 ?_ | refine Z7 ?_ | refine Z8 ?_ | refine Z9 ?_ | refine ZA ?_ | refine ZB ?_ | refine ZC ?_ | refine ZD ?_ | refine ZE ?_ | refine ZF ?_ | refine ZG ?_ | refine ZH ?_)
      repeat (first | refine kEnd_m ?_ | refine kEnd_f ?_)
      refine kEnd_g ?_ (by first | exact .inl rfl | exact .inr rfl)
      exact Sub.eq rfl rfl
end Go.Proofs.Ytifapodobhkdcaa
