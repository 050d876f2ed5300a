/- The reference of layer 7: Owner, piece, Piece, Pieces, Local, Global, Load, SameChunk, by the abstract machine. -/
import Derived.Test.YtifapodobhkdcaaDs7
import Derived.Test.YtifapodobhkdcaaDsO
namespace Go.Proofs.Ytifapodobhkdcaa
open Go.RowKit
set_option linter.unusedVariables false
set_option maxHeartbeats 16000000
set_option linter.unusedSimpArgs false
set_option maxRecDepth 100000
section
variable {nb sz : Nat} {tmp : List (Nat × D)} {mem : List (Nat × Option M)}
/-- as Wk.gx, for a struct of a number and a row of the call's own -/
theorem Wk.gy (σ : Nat → Nat) {nb' : Nat} {tmp' : List (Nat × D)} {mem' : List (Nat × Option M)} (h1 : WkT σ nb' tmp tmp' := by
    repeat (first | exact WkT.nil | refine WkT.cons rfl (Ren.im rfl) ?_ | refine WkT.cons rfl (Ren.own rfl rfl rfl) ?_ | refine WkT.cons rfl (Ren.ptr rfl rfl rfl) ?_ | (refine wkt_im rfl ?_ ?_; · assumption) | refine WkT.cons rfl (Ren.int (by omega)) ?_ | refine WkT.cons rfl (Ren.own rfl rfl (by omega)) ?_ | refine WkT.cons rfl (Ren.eq (by assumption) rfl) ?_))
    (h2 : WkM σ nb' mem mem' := by
    repeat (first | exact WkM.nil | refine WkM.cons rfl rfl rfl (RenL.im rfl rfl) ?_ | refine WkM.cons rfl rfl rfl (RenL.cons (Ren.own rfl rfl rfl) RenL.nil) ?_ | refine WkM.cons rfl rfl rfl (RenL.cons (Ren.own rfl rfl (by omega)) RenL.nil) ?_ | refine WkM.cons rfl rfl rfl (RenL.cons (Ren.im rfl) (RenL.cons (Ren.own rfl rfl rfl) RenL.nil)) ?_ | refine WkM.cons rfl rfl rfl (RenL.cons (Ren.im rfl) (RenL.cons (Ren.own rfl rfl (by omega)) RenL.nil)) ?_ | refine WkM.cons rfl rfl rfl (RenL.im rfl (by repeat (first | rfl | exact idsL_map (fun _ => rfl) _ | exact idsL_flat (fun _ => rfl) _ | exact idsL_rep rfl _ | refine idsL_append ?_ ?_))) ?_ | refine WkM.cons rfl rfl (by omega) (RenL.im (by assumption) (by repeat (first | rfl | exact idsL_map (fun _ => rfl) _ | exact idsL_flat (fun _ => rfl) _ | exact idsL_rep rfl _ | refine idsL_append ?_ ?_))) ?_ | refine WkM.cons rfl rfl (by omega) (RenL.im rfl (by repeat (first | rfl | exact idsL_map (fun _ => rfl) _ | exact idsL_flat (fun _ => rfl) _ | exact idsL_rep rfl _ | refine idsL_append ?_ ?_))) ?_))
    (h3 : nodupB (mem'.map fun e => σ e.1) = true := by rfl) : Wk ⟨nb, sz, tmp, mem⟩ ⟨nb', sz, tmp', mem'⟩ := Wk.mk σ h1 h2 h3
end
/-! ### piece -/
theorem Runs.self {α : Type} {tg : List α → α → Bool} {g : List α} (h0 : g ≠ []) (h : ∀ j (h : j < g.length), 1 ≤ j → tg (g.take j) g[j] = true) : Runs tg g [g] := by
  have := Runs.cons (tg := tg) (rest := []) h0 h (fun x hx => by simp at hx) .nil
  rwa [List.append_nil] at this
theorem good_take {ml : List Int} : ∀ {g : List Nat}, ofGood (gM ml g) → ∀ j, 1 ≤ j → j ≤ g.length → ofGood (gM ml (g.take j)) := by
  intro g hg j h1 hj
  obtain ⟨d, hd⟩ : ∃ d, d = g.length - j := ⟨_, rfl⟩
  induction d generalizing j with
  | zero =>
    have : j = g.length := by omega
    subst this
    rwa [List.take_length]
  | succ d ih =>
    have h2 := ih (j + 1) (by omega) (by omega) (by omega)
    rw [gM_take (show j < g.length by omega)] at h2
    refine good_sub ?_ h2
    intro e
    have := gM_len ml (g.take j)
    rw [e, List.length_take] at this
    simp at this
    omega
theorem run_one {ml : List Int} {g : List Nat} (h0 : g ≠ []) (hg : ofGood (gM ml g)) : Runs (tgR ml) g [g] :=
  Runs.self h0 fun j hj h1 => by
    have := good_take hg (j + 1) (by omega) (by omega)
    refine decide_eq_true ?_
    rw [gM_app]
    rw [gM_take hj] at this
    exact this
theorem empty_ow {k : Kd} {n o p : Nat} : ow k n o 0 p = [] := rfl
/-- parts of a list of members -/
theorem rparts7_ok {r0 : Rg} {rt : List Rg} {c0 : Rg} {ct : List Rg} (hd : domB (r0 :: rt) = true) (hc : canonRs (r0 :: rt) = c0 :: ct) (hs : SpOk c0 ct) {l : List Nat} (hl : ∀ j ∈ l, j < cN c0) (hn : l.length ≤ cN c0)
    {gs : List (List Nat)} (hr : Runs (tgR (memN c0)) l gs) (hgd : ∀ g ∈ gs, ofGood (gM (memN c0) g)) :
    DC Try.prog 148 [domD (r0 :: rt), rowI (natsI l)] (domsD (gs.map (partC ct (memN c0)))) :=
  rparts7_d hd hs (fun hz => by obtain ⟨_, c2, c3, c4⟩ := cn_first hd hc hz; exact ⟨c2, c3, c4⟩) l (fun j hj => by rw [memN_len]; exact hl j hj) hn gs hr hgd
theorem runs_few {α : Type} {tg : List α → α → Bool} {l : List α} {gs : List (List α)} (hr : Runs tg l gs) : gs.length ≤ l.length := by
  have hg := hr.get
  have key : ∀ q, q ≤ gs.length → q ≤ cutAt gs q := fun q => by
    induction q with
    | zero => intro _; omega
    | succ q ih =>
      intro hq
      have := ih (by omega)
      rw [cutAt_succ (show q < gs.length by omega)]
      have := (hg q (by omega)).1
      omega
  have h1 := key _ (Nat.le_refl _)
  have h2 := cutAt_le gs gs.length
  rw [hr.flat] at h2
  omega
theorem parts_few {c0 : Rg} {ct : List Rg} (hs : SpOk c0 ct) (k : Kd) (n o p : Nat) : (partsOf k n o c0 ct p).length ≤ 4096 := by
  have h1 := runs_few (runsOf_S k n o c0 p)
  have h2 := ow_len k n o (cN c0) p
  have h3 := hs.few
  unfold partsOf
  rw [List.length_map]
  omega
set_option maxHeartbeats 16000000 in
theorem rpiece7_d {s : ByteArray} {k : Kd} {n o : Nat} (hk : Okd s k n o) {rs : List Rg} {c0 : Rg} {ct : List Rg} (hd : domB rs = true) (hc : canonRs rs = c0 :: ct) (hs : SpOk c0 ct) (p : Nat) : DC Try.prog 136 [dsD s n o, domD rs, iD p] (chD p (partsOf k n o c0 ct p)) := by
  obtain ⟨r0, rt, rfl⟩ := rs_cons hd
  have OW := rowned7_d hk hd hc hs p
  have hlt := ow_lt (k := k) (n := n) (o := o) (R := cN c0) (p := p)
  have hle := ow_len k n o (cN c0) p
  have hgd := runsOf_good hk.ok hs p
  have hfew := hs.few
  by_cases hkb : k = .blocks
  · have hq : s.toList = (kb .blocks).toList := by rw [hk.eq, hkb]
    have hn := hk.ok.n1 hkb
    have hr := (runsOf_ok hk.ok hs p).1
    rw [tgOf, if_pos hkb] at hr
    show DC _ _ _ (chD p ((runsOf k n o c0 p).map (partC ct (memN c0))))
    generalize runsOf k n o c0 p = gs at *
    generalize ow k n o (cN c0) p = l at *
    have hflat := hr.flat
    have hget := hr.get
    have hcut : ∀ k, cutAt gs k ≤ l.length := fun k => by rw [← hflat]; exact cutAt_le gs k
    have hend : cutAt gs gs.length = l.length := by rw [cutAt_all, hflat]
    have hgl := runs_few hr
    have z0 : cutAt gs 0 = 0 := cutAt_0 gs
    have PT : ∀ q (hq : q < gs.length), DC Try.prog 148 [domD (r0 :: rt), rowI (natsI gs[q])] (.row 1 [rowR (partC ct (memN c0) gs[q])]) := fun q hq => by
      obtain ⟨g1, g2, g3⟩ := hgd _ (List.getElem_mem hq)
      exact rparts7_ok hd hc hs (fun j hj => hlt j (by rw [← hflat]; exact List.mem_flatten.2 ⟨_, List.getElem_mem hq, hj⟩)) g2 (run_one g1 g3) (fun g hg => by rw [List.mem_singleton] at hg; rw [hg]; exact g3)
    have hpl : (natsI l).length = l.length := by simp [natsI]
    have er : rowI (natsI l) = .row l.length (intsD (natsI l)) := by show D.row _ _ = _; rw [hpl]
    have eo : domsD (gs.map (partC ct (memN c0))) = .row gs.length ((gs.map (partC ct (memN c0))).map rowR) := by show D.row _ _ = _; rw [List.length_map]
    have hlm : ∀ i (h : i < l.length), l[i] < 4096 := fun i h => by have := hlt _ (List.getElem_mem h); omega
    -- the first of a run, and another one
    have hdv : ∀ q (hq : q < gs.length) j (hj : j < gs[q].length), ∃ (h1 : cutAt gs q + j < l.length) (h0 : cutAt gs q < l.length), l[cutAt gs q + j] / n = l[cutAt gs q] / n := fun q hq j hj => by
      obtain ⟨g1, g2, g3⟩ := hget q hq
      have c1 := cut_le hq
      rw [hflat] at c1
      have e1 := cut_get hq hj
      have e0 := cut_get hq g1
      simp only [hflat, Nat.add_zero] at e1 e0
      refine ⟨by omega, by omega, ?_⟩
      rw [e1, e0]
      rcases Nat.eq_zero_or_pos j with h | h
      · subst h; rfl
      · have := of_decide_eq_true (g2 j hj h)
        rw [getD_at (by rw [List.length_take]; omega), List.getElem_take] at this
        exact this.symm
    have hst : ∀ q (hq : q < gs.length) (h1 : cutAt gs q + gs[q].length < l.length), ∃ (h0 : cutAt gs q < l.length), l[cutAt gs q + gs[q].length] / n ≠ l[cutAt gs q] / n := fun q hq h1 => by
      obtain ⟨g1, g2, g3⟩ := hget q hq
      have e0 := cut_get hq g1
      simp only [hflat, Nat.add_zero] at e0
      refine ⟨by omega, ?_⟩
      have := of_decide_eq_false (g3 l[cutAt gs q + gs[q].length] (by rw [cutAt_succ hq]; exact List.getElem?_eq_getElem h1))
      rw [getD_at g1] at this
      rw [e0]
      exact fun e => this e.symm
    have hsnoc : ∀ q (hq : q < gs.length), ((gs.take (q + 1)).map (partC ct (memN c0))).map rowR = ((gs.take q).map (partC ct (memN c0))).map rowR ++ [rowR (partC ct (memN c0) gs[q])] := fun q hq => by
      rw [List.take_succ_eq_append_getElem hq, List.map_append, List.map_append]; rfl
    have hcutp : ∀ q (hq : q < gs.length), ((natsI l).drop ((cutAt gs q : Nat) : Int).toNat).take (((cutAt gs q + gs[q].length : Nat) : Int).toNat - ((cutAt gs q : Nat) : Int).toNat) = natsI gs[q] := fun q hq => by
      rw [Int.toNat_natCast, Int.toNat_natCast, show cutAt gs q + gs[q].length - cutAt gs q = gs[q].length by omega, natsI, ← List.map_drop, ← List.map_take, ← hflat, cut_part hq (Nat.le_refl _), List.take_length]
    have hch : ∀ ps : List (List Rg), chD p ps = .agg [iD p, domsD ps] := fun _ => rfl
    rw [hch, eo]
    rw [er] at OW
    have hl4 : l.length ≤ 4096 := by omega
    clear hr hgd hlt hle hflat hkb hk hd hc er eo
    generalize partC ct (memN c0) = pC at *
    refine DC.of Try.func136 Try.ntmps136 Try.results136 rfl (by decide +kernel) rfl ?_
    repeat (first | refine Z1 ?_ | refine Z2 ?_ | (refine Z3 ?_; (repeat (first | (apply gS; first | refine go_no ?_ | refine go_f ?_ | refine gx ?_ | refine gm ?_ | refine gp ?_ | refine go_c rfl rfl (OW) ?_ | refine go_cF rfl rfl (OW) ?_ | refine go_cA rfl rfl (OW) ?_) | (apply gZ; first | refine go_f ?_ | refine gx ?_ | refine gm ?_))); refine T_nil ?_) | (apply ZR; (try dsimp only [List.map_cons, List.map_nil]); refine C_dr mixed ?_; (repeat (first | (apply vS; first | refine vn ?_ | refine va ?_ | refine vp ?_ | refine vr ?_ | refine vt ?_ | refine vc (OW) ?_ | refine vcF (OW) ?_) | (apply vZ; first | refine vs ?_ | refine vw ?_))); refine W_e ?_) | (apply ZK; first | refine Z4 ?_ | refine Z5 ?_) | refine Z6 ?_ | refine Z7 ?_ | refine Z8 ?_ | refine Z9 ?_ | refine ZA ?_ | refine ZB ?_ | refine ZC ?_ | refine ZD ?_ | refine ZE ?_ | refine ZF ?_ | refine ZG ?_ | refine ZH ?_)
    refine C_count gs.length (fun _ => True) (fun q => ⟨5, 65, [(9, iD (cutAt gs q)), (8, .row l.length (intsD (natsI l))), (2, iD p), (7, .ptr 3 0), (6, .ptr 2 0), (4, .ptr 1 0), (3, .ptr 0 0)], [(0, some ⟨63, 3, 1, [sD s, iD n, iD o]⟩), (1, some ⟨24, 1, 1, [rowR (r0 :: rt)]⟩), (2, some ⟨90, 2, 1, [iD 0, .val (.slice none 0 0)]⟩), (3, some ⟨90, 2, 1, [iD p, .own 4 q]⟩), (4, some ⟨24, 1, q, ((gs.take q).map pC).map rowR⟩)]⟩) ?_ trivial ?_
    · rw [z0]
      refine Wk.trans (Wk.adoptM 3 1 24 1 rfl rfl) ?_
      exact Wk.gy (fun b => b)
    · intro q hq _
      have q0 := hcut q
      by_cases hlt : q < gs.length
      · obtain ⟨g1, g2, g3⟩ := hget q hlt
        have q1 := cutAt_succ hlt
        have q2 := hcut (q + 1)
        have q3 : cutAt gs q < l.length := by omega
        have q4 := hlm _ q3
        have gl0 : (natsI l)[cutAt gs q]'(by omega) = ((l[cutAt gs q] : Nat) : Int) := by simp [natsI]
        have gv0 : ((natsI l)[cutAt gs q]'(by omega)).tdiv (n : Int) = ((l[cutAt gs q] / n : Nat) : Int) := by rw [gl0, ← Int.ofNat_tdiv]
        repeat (first | refine Z1 ?_ | refine Z2 ?_ | (refine Z3 ?_; (repeat (first | (apply gS; first | refine go_no ?_ | refine go_f ?_ | refine gx ?_ | refine gm ?_ | refine gp ?_) | (apply gZ; first | refine go_f ?_ | refine gx ?_ | refine gm ?_))); refine T_nil ?_) | (apply ZR; (try dsimp only [List.map_cons, List.map_nil]); refine C_dr mixed ?_; (repeat (first | (apply vS; first | refine vn ?_ | refine va ?_ | refine vp ?_ | refine vr ?_ | refine vt ?_) | (apply vZ; first | refine vs ?_ | refine vw ?_))); refine W_e ?_) | (apply ZK; first | refine Z4 ?_ | refine Z5 ?_) | refine Z6 ?_ | refine Z7 ?_ | refine Z8 ?_ | refine Z9 ?_ | refine ZA ?_ | refine ZB ?_ | refine ZC ?_ | refine ZD ?_ | refine ZE ?_ | refine ZF ?_ | refine ZG ?_ | refine ZH ?_)
        refine C_count gs[q].length (fun _ => True) (fun j => ⟨5, 65, [(10, iD ((cutAt gs q + j : Nat) : Int)), (9, iD (cutAt gs q)), (8, .row l.length (intsD (natsI l))), (2, iD p), (7, .ptr 3 0), (6, .ptr 2 0), (4, .ptr 1 0), (3, .ptr 0 0)], [(0, some ⟨63, 3, 1, [sD s, iD n, iD o]⟩), (1, some ⟨24, 1, 1, [rowR (r0 :: rt)]⟩), (2, some ⟨90, 2, 1, [iD 0, .val (.slice none 0 0)]⟩), (3, some ⟨90, 2, 1, [iD p, .own 4 q]⟩), (4, some ⟨24, 1, q, ((gs.take q).map pC).map rowR⟩)]⟩) ?_ trivial ?_
        · rw [Nat.add_zero]
          exact Wk.gy (fun b => b)
        · intro j hj _
          by_cases hjl : j < gs[q].length
          · obtain ⟨d1, d0, d2⟩ := hdv q hlt j hjl
            have gl1 : (natsI l)[cutAt gs q + j]'(by omega) = ((l[cutAt gs q + j] : Nat) : Int) := by simp [natsI]
            have gv1 : ((natsI l)[cutAt gs q + j]'(by omega)).tdiv (n : Int) = ((l[cutAt gs q + j] / n : Nat) : Int) := by rw [gl1, ← Int.ofNat_tdiv]
            have q5 := hlm _ d1
            rw [d2, ← gv0] at gv1
            clear hdv hst hget hcut hcutp PT hsnoc hlm gv0
            repeat (first | refine Z1 ?_ | refine Z2 ?_ | (refine Z3 ?_; (repeat (first | (apply gS; first | refine go_no ?_ | refine go_f ?_ | refine gx ?_ | refine gm ?_ | refine gp ?_) | (apply gZ; first | refine go_f ?_ | refine gx ?_ | refine gm ?_))); refine T_nil ?_) | (apply ZR; (try dsimp only [List.map_cons, List.map_nil]); refine C_dr mixed ?_; (repeat (first | (apply vS; first | refine vn ?_ | refine va ?_ | refine vp ?_ | refine vr ?_ | refine vt ?_) | (apply vZ; first | refine vs ?_ | refine vw ?_))); refine W_e ?_) | (apply ZK; first | refine Z4 ?_ | refine Z5 ?_) | refine Z6 ?_ | refine Z7 ?_ | refine Z8 ?_ | refine Z9 ?_ | refine ZA ?_ | refine ZB ?_ | refine ZC ?_ | refine ZD ?_ | refine ZE ?_ | refine ZF ?_ | refine ZG ?_ | refine ZH ?_)
            refine kLoop_n ⟨hjl, trivial, ?_⟩
            exact Wk.gy (fun b => b)
          · have hj2 : j = gs[q].length := by omega
            subst hj2
            have P1 := PT q hlt
            have en := hsnoc q hlt
            have s1 := hcutp q hlt
            have sp1 : (natsI gs[q]).length = gs[q].length := by simp [natsI]
            by_cases hin : cutAt gs q + gs[q].length < l.length
            · obtain ⟨d0, d2⟩ := hst q hlt hin
              have gl1 : (natsI l)[cutAt gs q + gs[q].length]'(by omega) = ((l[cutAt gs q + gs[q].length] : Nat) : Int) := by simp [natsI]
              have gv1 : ((natsI l)[cutAt gs q + gs[q].length]'(by omega)).tdiv (n : Int) = ((l[cutAt gs q + gs[q].length] / n : Nat) : Int) := by rw [gl1, ← Int.ofNat_tdiv]
              have q5 := hlm _ hin
              have d3 : ¬ ((natsI l)[cutAt gs q + gs[q].length]'(by omega)).tdiv (n : Int) = ((natsI l)[cutAt gs q]'(by omega)).tdiv (n : Int) := by rw [gv1, gv0]; omega
              clear hdv hst hget hcut hcutp PT hsnoc hlm gv0 gv1 d2
              generalize pC gs[q] = pc at *
              repeat (first | refine Z1 ?_ | refine Z2 ?_ | (refine Z3 ?_; (repeat (first | (apply gS; first | refine go_no ?_ | refine go_f ?_ | refine gx ?_ | refine gm ?_ | refine gp ?_ | refine go_c rfl rfl (P1) ?_ | refine go_cF rfl rfl (P1) ?_ | refine go_cA rfl rfl (P1) ?_) | (apply gZ; first | refine go_f ?_ | refine gx ?_ | refine gm ?_))); refine T_nil ?_) | (apply ZR; (try dsimp only [List.map_cons, List.map_nil]); refine C_dr mixed ?_; (repeat (first | (apply vS; first | refine vn ?_ | refine va ?_ | refine vp ?_ | refine vr ?_ | refine vt ?_ | refine vc (P1) ?_ | refine vcF (P1) ?_) | (apply vZ; first | refine vs ?_ | refine vw ?_))); refine W_e ?_) | (apply ZK; first | refine Z4 ?_ | refine Z5 ?_) | refine Z6 ?_ | refine Z7 ?_ | refine Z8 ?_ | refine Z9 ?_ | refine ZA ?_ | refine ZB ?_ | refine ZC ?_ | refine ZD ?_ | refine ZE ?_ | refine ZF ?_ | refine ZG ?_ | refine ZH ?_)
              refine kLoop_n ⟨hlt, trivial, ?_⟩
              exact Wk.gy (fun b => cond (Nat.beq b 4) 5 (b))
            · clear hdv hst hget hcut hcutp PT hsnoc hlm gv0
              generalize pC gs[q] = pc at *
              repeat (first | refine Z1 ?_ | refine Z2 ?_ | (refine Z3 ?_; (repeat (first | (apply gS; first | refine go_no ?_ | refine go_f ?_ | refine gx ?_ | refine gm ?_ | refine gp ?_ | refine go_c rfl rfl (P1) ?_ | refine go_cF rfl rfl (P1) ?_ | refine go_cA rfl rfl (P1) ?_) | (apply gZ; first | refine go_f ?_ | refine gx ?_ | refine gm ?_))); refine T_nil ?_) | (apply ZR; (try dsimp only [List.map_cons, List.map_nil]); refine C_dr mixed ?_; (repeat (first | (apply vS; first | refine vn ?_ | refine va ?_ | refine vp ?_ | refine vr ?_ | refine vt ?_ | refine vc (P1) ?_ | refine vcF (P1) ?_) | (apply vZ; first | refine vs ?_ | refine vw ?_))); refine W_e ?_) | (apply ZK; first | refine Z4 ?_ | refine Z5 ?_) | refine Z6 ?_ | refine Z7 ?_ | refine Z8 ?_ | refine Z9 ?_ | refine ZA ?_ | refine ZB ?_ | refine ZC ?_ | refine ZD ?_ | refine ZE ?_ | refine ZF ?_ | refine ZG ?_ | refine ZH ?_)
              refine kLoop_n ⟨hlt, trivial, ?_⟩
              exact Wk.gy (fun b => cond (Nat.beq b 4) 5 (b))
      · obtain rfl : q = gs.length := by omega
        rw [List.take_length]
        clear hdv hst hget hcut hcutp PT hsnoc hlm
        repeat (first | refine Z1 ?_ | refine Z2 ?_ | (refine Z3 ?_; (repeat (first | (apply gS; first | refine go_no ?_ | refine go_f ?_ | refine gx ?_ | refine gm ?_ | refine gp ?_) | (apply gZ; first | refine go_f ?_ | refine gx ?_ | refine gm ?_))); refine T_nil ?_) | (apply ZR; (try dsimp only [List.map_cons, List.map_nil]); refine C_dr mixed ?_; (repeat (first | (apply vS; first | refine vn ?_ | refine va ?_ | refine vp ?_ | refine vr ?_ | refine vt ?_) | (apply vZ; first | refine vs ?_ | refine vw ?_))); refine W_e ?_) | (apply ZK; first | refine Z4 ?_ | refine Z5 ?_) | refine Z6 ?_ | refine Z7 ?_ | refine Z8 ?_ | refine Z9 ?_ | refine ZA ?_ | refine ZB ?_ | refine ZC ?_ | refine ZD ?_ | refine ZE ?_ | refine ZF ?_ | refine ZG ?_ | refine ZH ?_)
        repeat (first | refine kEnd_m ?_ | refine kEnd_f ?_)
        refine kEnd_g ?_ (by first | exact .inl rfl | exact .inr rfl)
        exact Sub.eq rfl rfl
  · have hq := (okd_ne hk).2.2.2 hkb
    have hr := runsOf_S k n o c0 p
    rw [tgS, if_neg hkb] at hr
    have PS := rparts7_ok hd hc hs hlt hle hr (fun g hg => (hgd g hg).2.2)
    rw [show (runsOf k n o c0 p).map (partC ct (memN c0)) = partsOf k n o c0 ct p from rfl] at PS
    generalize partsOf k n o c0 ct p = ps at *
    generalize ow k n o (cN c0) p = l at *
    refine DC.of Try.func136 Try.ntmps136 Try.results136 rfl (by decide +kernel) rfl ?_
    repeat (first | refine Z1 ?_ | refine Z2 ?_ | (refine Z3 ?_; (repeat (first | (apply gS; first | refine go_no ?_ | refine go_f ?_ | refine gx ?_ | refine gm ?_ | refine gp ?_ | refine go_c rfl rfl (OW) ?_ | refine go_cF rfl rfl (OW) ?_ | refine go_cA rfl rfl (OW) ?_ | refine go_c rfl rfl (PS) ?_ | refine go_cF rfl rfl (PS) ?_ | refine go_cA rfl rfl (PS) ?_) | (apply gZ; first | refine go_f ?_ | refine gx ?_ | refine gm ?_))); refine T_nil ?_) | (apply ZR; (try dsimp only [List.map_cons, List.map_nil]); refine C_dr mixed ?_; (repeat (first | (apply vS; first | refine vn ?_ | refine va ?_ | refine vp ?_ | refine vr ?_ | refine vt ?_ | refine vc (OW) ?_ | refine vcF (OW) ?_ | refine vc (PS) ?_ | refine vcF (PS) ?_) | (apply vZ; first | refine vs ?_ | refine vw ?_))); refine W_e ?_) | (apply ZK; first | refine Z4 ?_ | refine Z5 ?_) | refine Z6 ?_ | refine Z7 ?_ | refine Z8 ?_ | refine Z9 ?_ | refine ZA ?_ | refine ZB ?_ | refine ZC ?_ | refine ZD ?_ | refine ZE ?_ | refine ZF ?_ | refine ZG ?_ | refine ZH ?_)
    repeat (first | refine kEnd_m ?_ | refine kEnd_f ?_)
    refine kEnd_g ?_ (by first | exact .inl rfl | exact .inr rfl)
    exact Sub.eq rfl rfl
theorem rPiece7_bad {s : ByteArray} {n o : Int} {rs : List Rg} (h : errD s n o rs ≠ 0) (p : Int) : DC Try.prog 77 [dsD s n o, domD rs, iD p] (.tup [chD 0 [], iD (errD s n o rs)]) := by
  have B := rvalid7_d s n o rs
  generalize errD s n o rs = e at *
  refine DC.of Try.func77 Try.ntmps77 Try.results77 rfl (by decide +kernel) rfl ?_
  repeat (first | refine Z1 ?_ | refine Z2 ?_ | (refine Z3 ?_; (repeat (first | (apply gS; first | refine go_no ?_ | refine go_f ?_ | refine gx ?_ | refine gm ?_ | refine gp ?_ | refine go_c rfl rfl (B) ?_ | refine go_cF rfl rfl (B) ?_ | refine go_cA rfl rfl (B) ?_) | (apply gZ; first | refine go_f ?_ | refine gx ?_ | refine gm ?_))); refine T_nil ?_) | (apply ZK; first | refine Z4 ?_ | refine Z5 ?_) | refine Z6 ?_ | refine Z7 ?_ | refine ZF ?_)
  repeat (first | refine kEnd_m ?_ | refine kEnd_f ?_)
  refine kEnd_g ?_ (by first | exact .inl rfl | exact .inr rfl)
  exact Sub.tup (.cons (Sub.agg (.cons (Sub.eq rfl rfl) (.cons Sub.nil .nil))) (.cons (Sub.eq rfl rfl) .nil))
theorem rPiece7_no {s : ByteArray} {k : Kd} {n o : Nat} (hk : Okd s k n o) {rs : List Rg} (hd : domB rs = true) (p : Int) (hp : p < 0 ∨ 0 ≤ p ∧ (o : Int) ≤ p) :
    DC Try.prog 77 [dsD s n o, domD rs, iD p] (.tup [chD 0 [], iD 2]) := by
  have B := rvalid7_d s n o rs
  rw [errD_0 hk hd] at B
  by_cases h0 : p < 0
  all_goals
    refine DC.of Try.func77 Try.ntmps77 Try.results77 rfl (by decide +kernel) rfl ?_
    repeat (first | refine Z1 ?_ | refine Z2 ?_ | (refine Z3 ?_; (repeat (first | (apply gS; first | refine go_no ?_ | refine go_f ?_ | refine gx ?_ | refine gm ?_ | refine gp ?_ | refine go_c rfl rfl (B) ?_ | refine go_cF rfl rfl (B) ?_ | refine go_cA rfl rfl (B) ?_) | (apply gZ; first | refine go_f ?_ | refine gx ?_ | refine gm ?_))); refine T_nil ?_) | (apply ZK; first | refine Z4 ?_ | refine Z5 ?_) | refine Z6 ?_ | refine Z7 ?_ | refine ZF ?_)
    repeat (first | refine kEnd_m ?_ | refine kEnd_f ?_)
    refine kEnd_g ?_ (by first | exact .inl rfl | exact .inr rfl)
    exact Sub.tup (.cons (Sub.agg (.cons (Sub.eq rfl rfl) (.cons Sub.nil .nil))) (.cons (Sub.eq rfl rfl) .nil))
theorem rPiece7_ok {s : ByteArray} {k : Kd} {n o : Nat} (hk : Okd s k n o) {rs : List Rg} {c0 : Rg} {ct : List Rg} (hd : domB rs = true) (hc : canonRs rs = c0 :: ct) (hs : SpOk c0 ct) (p : Nat) (hp : p < o) :
    DC Try.prog 77 [dsD s n o, domD rs, iD p] (.tup [chD p (partsOf k n o c0 ct p), iD 0]) := by
  have B := rvalid7_d s n o rs
  rw [errD_0 hk hd] at B
  have PS := rpiece7_d hk hd hc hs p
  generalize partsOf k n o c0 ct p = out at *
  refine DC.of Try.func77 Try.ntmps77 Try.results77 rfl (by decide +kernel) rfl ?_
  repeat (first | refine Z1 ?_ | refine Z2 ?_ | (refine Z3 ?_; (repeat (first | (apply gS; first | refine go_no ?_ | refine go_f ?_ | refine gx ?_ | refine gm ?_ | refine gp ?_ | refine go_c rfl rfl (B) ?_ | refine go_cF rfl rfl (B) ?_ | refine go_cA rfl rfl (B) ?_ | refine go_c rfl rfl (PS) ?_ | refine go_cF rfl rfl (PS) ?_ | refine go_cA rfl rfl (PS) ?_) | (apply gZ; first | refine go_f ?_ | refine gx ?_ | refine gm ?_))); refine T_nil ?_) | (apply ZK; first | refine Z4 ?_ | refine Z5 ?_) | refine Z6 ?_ | refine Z7 ?_ | refine ZF ?_)
  repeat (first | refine kEnd_m ?_ | refine kEnd_f ?_)
  refine kEnd_g ?_ (by first | exact .inl rfl | exact .inr rfl)
  exact Sub.eq rfl rfl
theorem rPieces7_bad {s : ByteArray} {n o : Int} {rs : List Rg} (h : errD s n o rs ≠ 0) : DC Try.prog 80 [dsD s n o, domD rs] (.tup [chsD [], iD (errD s n o rs)]) := by
  have B := rvalid7_d s n o rs
  generalize errD s n o rs = e at *
  refine DC.of Try.func80 Try.ntmps80 Try.results80 rfl (by decide +kernel) rfl ?_
  repeat (first | refine Z1 ?_ | refine Z2 ?_ | (refine Z3 ?_; (repeat (first | (apply gS; first | refine go_f ?_ | refine gx ?_ | refine gm ?_ | refine gp ?_ | refine go_c rfl rfl (B) ?_ | refine go_cF rfl rfl (B) ?_ | refine go_cA rfl rfl (B) ?_))); refine T_nil ?_) | (apply ZK; first | refine Z4 ?_ | refine Z5 ?_) | refine Z6 ?_ | refine Z7 ?_ | refine Z8 ?_ | refine Z9 ?_ | refine ZA ?_ | refine ZB ?_ | refine ZC ?_ | refine ZD ?_ | refine ZE ?_ | refine ZF ?_ | refine ZG ?_ | refine ZH ?_)
  repeat (first | refine kEnd_m ?_ | refine kEnd_f ?_)
  refine kEnd_g ?_ (by first | exact .inl rfl | exact .inr rfl)
  exact Sub.tup (.cons Sub.nil (.cons (Sub.eq rfl rfl) .nil))
theorem rPieces7_ok {s : ByteArray} {k : Kd} {n o : Nat} (hk : Okd s k n o) {rs : List Rg} {c0 : Rg} {ct : List Rg} (hd : domB rs = true) (hc : canonRs rs = c0 :: ct) (hs : SpOk c0 ct) :
    DC Try.prog 80 [dsD s n o, domD rs] (.tup [chsD (piecesL k n o c0 ct o), iD 0]) := by
  have B := rvalid7_d s n o rs
  rw [errD_0 hk hd] at B
  have PS := rpiece7_d hk hd hc hs
  have h8 := hk.ok.o8
  have hS : ∀ m, (piecesL k n o c0 ct (m + 1)).flatMap chC = (piecesL k n o c0 ct m).flatMap chC ++ [iD m, domsD (partsOf k n o c0 ct m)] := fun m => by
    unfold piecesL
    rw [List.range_succ, List.map_append, List.flatMap_append]; rfl
  have hL : (piecesL k n o c0 ct o).length = o := by simp [piecesL]
  have h0 : (piecesL k n o c0 ct 0).flatMap chC = [] := rfl
  rw [show chsD (piecesL k n o c0 ct o) = .row o ((piecesL k n o c0 ct o).flatMap chC) by show D.row _ _ = _; rw [hL]]
  clear hL
  generalize partsOf k n o c0 ct = P at *
  generalize piecesL k n o c0 ct = L at *
  refine DC.of Try.func80 Try.ntmps80 Try.results80 rfl (by decide +kernel) rfl ?_
  repeat (first | refine Z1 ?_ | refine Z2 ?_ | (refine Z3 ?_; (repeat (first | (apply gS; first | refine go_f ?_ | refine gx ?_ | refine gm ?_ | refine gp ?_ | refine go_c rfl rfl (B) ?_ | refine go_cF rfl rfl (B) ?_ | refine go_cA rfl rfl (B) ?_))); refine T_nil ?_) | (apply ZK; first | refine Z4 ?_ | refine Z5 ?_) | refine Z6 ?_ | refine Z7 ?_ | refine Z8 ?_ | refine Z9 ?_ | refine ZA ?_ | refine ZB ?_ | refine ZC ?_ | refine ZD ?_ | refine ZE ?_ | refine ZF ?_ | refine ZG ?_ | refine ZH ?_)
  refine C_count o (fun _ => True) (fun m => ⟨3, 29, [(8, iD m), (7, .own 2 m), (2, .ptr 0 0), (3, .ptr 1 0)], [(0, some ⟨63, 3, 1, [sD s, iD n, iD o]⟩), (1, some ⟨24, 1, 1, [rowR rs]⟩), (2, some ⟨90, 2, m, (L m).flatMap chC⟩)]⟩) ?_ trivial ?_
  · rw [h0]
    refine Wk.trans (Wk.adoptT 7 90 2 rfl) ?_
    exact Wk.gx (fun b => b)
  · intro m hm _
    by_cases hlt : m < o
    · have C := PS m
      have en := hS m
      clear hS PS
      repeat (first | refine Z1 ?_ | refine Z2 ?_ | (refine Z3 ?_; (repeat (first | (apply gS; first | refine go_f ?_ | refine gx ?_ | refine gm ?_ | refine gp ?_ | refine go_c rfl rfl (C) ?_ | refine go_cF rfl rfl (C) ?_ | refine go_cA rfl rfl (C) ?_))); refine T_nil ?_) | (apply ZK; first | refine Z4 ?_ | refine Z5 ?_) | refine Z6 ?_ | refine Z7 ?_ | refine Z8 ?_ | refine Z9 ?_ | refine ZA ?_ | refine ZB ?_ | refine ZC ?_ | refine ZD ?_ | refine ZE ?_ | refine ZF ?_ | refine ZG ?_ | refine ZH ?_)
      refine kLoop_n ⟨hlt, trivial, ?_⟩
      exact Wk.gx (fun b => cond (Nat.beq b 2) 3 (b))
    · obtain rfl : m = o := by omega
      repeat (first | refine Z1 ?_ | refine Z2 ?_ | (refine Z3 ?_; (repeat (first | (apply gS; first | refine go_f ?_ | refine gx ?_ | refine gm ?_ | refine gp ?_))); refine T_nil ?_) | (apply ZK; first | refine Z4 ?_ | refine Z5 ?_) | refine Z6 ?_ | refine Z7 ?_ | refine Z8 ?_ | refine Z9 ?_ | refine ZA ?_ | refine ZB ?_ | refine ZC ?_ | refine ZD ?_ | refine ZE ?_ | refine ZF ?_ | refine ZG ?_ | refine ZH ?_)
      repeat (first | refine kEnd_m ?_ | refine kEnd_f ?_)
      refine kEnd_g ?_ (by first | exact .inl rfl | exact .inr rfl)
      exact Sub.eq rfl rfl
/-! ### chunks, compared -/
theorem sameDom7_d (a : List Rg) (ha : a.length ≤ 1000000000) : DC Try.prog 146 [domD a, domD a] (bD true) := by
  refine DC.of Try.func146 Try.ntmps146 Try.results146 rfl (by decide +kernel) rfl ?_
  repeat (first | refine Z1 ?_ | refine Z2 ?_ | (refine Z3 ?_; (repeat (first | (apply gS; first | refine go_f ?_ | refine gx ?_ | refine gm ?_ | refine gp ?_))); refine T_nil ?_) | (apply ZR; (try dsimp only [List.map_cons, List.map_nil]); refine C_dr mixed ?_; (repeat (first | (apply vS; first | refine va ?_ | refine vp ?_ | refine vr ?_ | refine vt ?_))); refine W_e ?_) | (apply ZK; first | refine Z4 ?_ | refine Z5 ?_) | refine Z6 ?_ | refine Z7 ?_ | refine Z8 ?_ | refine Z9 ?_ | refine ZA ?_ | refine ZB ?_ | refine ZC ?_ | refine ZD ?_ | refine ZE ?_ | refine ZF ?_ | refine ZG ?_ | refine ZH ?_)
  refine C_count a.length (fun _ => True) (fun m => ⟨2, 31, [(5, iD m), (2, .ptr 0 0), (3, .ptr 1 0)], [(0, some ⟨24, 1, 1, [rowR a]⟩), (1, some ⟨24, 1, 1, [rowR a]⟩)]⟩) ?_ trivial ?_
  · exact Wk.gx (fun b => b)
  · intro m hm _
    by_cases hlt : m < a.length
    · repeat (first | refine Z1 ?_ | refine Z2 ?_ | (refine Z3 ?_; (repeat (first | (apply gS; first | refine go_f ?_ | refine gx ?_ | refine gm ?_ | refine gp ?_))); refine T_nil ?_) | (apply ZR; (try dsimp only [List.map_cons, List.map_nil]); refine C_dr mixed ?_; (repeat (first | (apply vS; first | refine va ?_ | refine vp ?_ | refine vr ?_ | refine vt ?_))); refine W_e ?_) | (apply ZK; first | refine Z4 ?_ | refine Z5 ?_) | refine Z6 ?_ | refine Z7 ?_ | refine Z8 ?_ | refine Z9 ?_ | refine ZA ?_ | refine ZB ?_ | refine ZC ?_ | refine ZD ?_ | refine ZE ?_ | refine ZF ?_ | refine ZG ?_ | refine ZH ?_)
      refine kLoop_n ⟨hlt, trivial, ?_⟩
      exact Wk.gx (fun b => b)
    · obtain rfl : m = a.length := by omega
      repeat (first | refine Z1 ?_ | refine Z2 ?_ | (refine Z3 ?_; (repeat (first | (apply gS; first | refine go_f ?_ | refine gx ?_ | refine gm ?_ | refine gp ?_))); refine T_nil ?_) | (apply ZR; (try dsimp only [List.map_cons, List.map_nil]); refine C_dr mixed ?_; (repeat (first | (apply vS; first | refine va ?_ | refine vp ?_ | refine vr ?_ | refine vt ?_))); refine W_e ?_) | (apply ZK; first | refine Z4 ?_ | refine Z5 ?_) | refine Z6 ?_ | refine Z7 ?_ | refine Z8 ?_ | refine Z9 ?_ | refine ZA ?_ | refine ZB ?_ | refine ZC ?_ | refine ZD ?_ | refine ZE ?_ | refine ZF ?_ | refine ZG ?_ | refine ZH ?_)
      repeat (first | refine kEnd_m ?_ | refine kEnd_f ?_)
      refine kEnd_g ?_ (by first | exact .inl rfl | exact .inr rfl)
      exact Sub.eq rfl rfl
theorem sameChunk7_d (p : Int) (ps : List (List Rg)) (hl : ps.length ≤ 1000000000) (hall : ∀ d ∈ ps, domB d = true) : DC Try.prog 78 [chD p ps, chD p ps] (bD true) := by
  have hch : chD p ps = .agg [iD p, domsD ps] := rfl
  rw [hch]
  clear hch
  refine DC.of Try.func78 Try.ntmps78 Try.results78 rfl (by decide +kernel) rfl ?_
  repeat (first | refine Z1 ?_ | refine Z2 ?_ | (refine Z3 ?_; (repeat (first | (apply gS; first | refine go_no ?_ | refine go_f ?_ | refine gx ?_ | refine gm ?_ | refine gp ?_))); refine T_nil ?_) | (apply ZR; (try dsimp only [List.map_cons, List.map_nil]); refine C_dr mixed ?_; (repeat (first | (apply vS; first | refine vn ?_ | refine va ?_ | refine vp ?_ | refine vr ?_ | refine vt ?_))); refine W_e ?_) | (apply ZK; first | refine Z4 ?_ | refine Z5 ?_) | refine Z6 ?_ | refine Z7 ?_ | refine Z8 ?_ | refine Z9 ?_ | refine ZA ?_ | refine ZB ?_ | refine ZC ?_ | refine ZD ?_ | refine ZE ?_ | refine ZF ?_ | refine ZG ?_ | refine ZH ?_)
  refine C_count ps.length (fun _ => True) (fun m => ⟨2, 39, [(5, iD m), (2, .ptr 0 0), (3, .ptr 1 0)], [(0, some ⟨90, 2, 1, [iD p, domsD ps]⟩), (1, some ⟨90, 2, 1, [iD p, domsD ps]⟩)]⟩) ?_ trivial ?_
  · exact Wk.gx (fun b => b)
  · intro m hm _
    by_cases hlt : m < ps.length
    · have C := sameDom7_d ps[m] (by have := (domB_iff.1 (hall _ (List.getElem_mem hlt))).1.2; omega)
      clear hall
      repeat (first | refine Z1 ?_ | refine Z2 ?_ | (refine Z3 ?_; (repeat (first | (apply gS; first | refine go_no ?_ | refine go_f ?_ | refine gx ?_ | refine gm ?_ | refine gp ?_ | refine go_c rfl rfl (C) ?_ | refine go_cF rfl rfl (C) ?_ | refine go_cA rfl rfl (C) ?_))); refine T_nil ?_) | (apply ZR; (try dsimp only [List.map_cons, List.map_nil]); refine C_dr mixed ?_; (repeat (first | (apply vS; first | refine vn ?_ | refine va ?_ | refine vp ?_ | refine vr ?_ | refine vt ?_ | refine vc (C) ?_ | refine vcF (C) ?_))); refine W_e ?_) | (apply ZK; first | refine Z4 ?_ | refine Z5 ?_) | refine Z6 ?_ | refine Z7 ?_ | refine Z8 ?_ | refine Z9 ?_ | refine ZA ?_ | refine ZB ?_ | refine ZC ?_ | refine ZD ?_ | refine ZE ?_ | refine ZF ?_ | refine ZG ?_ | refine ZH ?_)
      refine kLoop_n ⟨hlt, trivial, ?_⟩
      exact Wk.gx (fun b => b)
    · obtain rfl : m = ps.length := by omega
      clear hall
      repeat (first | refine Z1 ?_ | refine Z2 ?_ | (refine Z3 ?_; (repeat (first | (apply gS; first | refine go_no ?_ | refine go_f ?_ | refine gx ?_ | refine gm ?_ | refine gp ?_))); refine T_nil ?_) | (apply ZR; (try dsimp only [List.map_cons, List.map_nil]); refine C_dr mixed ?_; (repeat (first | (apply vS; first | refine vn ?_ | refine va ?_ | refine vp ?_ | refine vr ?_ | refine vt ?_))); refine W_e ?_) | (apply ZK; first | refine Z4 ?_ | refine Z5 ?_) | refine Z6 ?_ | refine Z7 ?_ | refine Z8 ?_ | refine Z9 ?_ | refine ZA ?_ | refine ZB ?_ | refine ZC ?_ | refine ZD ?_ | refine ZE ?_ | refine ZF ?_ | refine ZG ?_ | refine ZH ?_)
      repeat (first | refine kEnd_m ?_ | refine kEnd_f ?_)
      refine kEnd_g ?_ (by first | exact .inl rfl | exact .inr rfl)
      exact Sub.eq rfl rfl
end Go.Proofs.Ytifapodobhkdcaa
