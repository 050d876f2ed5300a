/- Follow of package iter and of the reference, by the abstract machine. -/
import Derived.Test.YtifapodobhkdcaaF3
namespace Go.Proofs.Ytifapodobhkdcaa
open Go.RowKit
set_option linter.unusedVariables false
set_option maxHeartbeats 16000000
set_option linter.unusedSimpArgs false
set_option maxRecDepth 100000
def okPart (d x : List Rg) : Bool := decide (twoRes x d = 0) && withinX x d
def folL (d e : List Rg) (X : List (List Int)) : List (List Int) := X.map fun x => ithX e (placeV d x 0)
def folRes (d : List Rg) (p : Int) (ps : List (List Rg)) (e : List Rg) : List (List Int) × Int :=
  if domB d = true ∧ domB e = true ∧ chB p ps = true then (if ps.all (okPart d) = true then (if cnt d = cnt e then (folL d e (allX ps), 0) else ([], 80)) else ([], 2)) else ([], 40)
theorem okPart_res {d x : List Rg} : (okPart d x = true → dWithinRes x d = (true, 0)) ∧ (okPart d x = false → ∃ b n, dWithinRes x d = (b, n) ∧ (n ≠ 0 ∨ n = 0 ∧ b = false)) := by
  unfold okPart dWithinRes
  by_cases h : twoRes x d = 0
  · rw [decide_eq_true h, if_pos h, Bool.true_and]
    exact ⟨fun h1 => by rw [h1], fun h1 => ⟨_, _, rfl, .inr ⟨rfl, h1⟩⟩⟩
  · rw [decide_eq_false h, if_neg h, Bool.false_and]
    exact ⟨fun h1 => (by cases h1), fun _ => ⟨_, _, rfl, .inl h⟩⟩
theorem folL_snoc {d e : List Rg} {X : List (List Int)} {k : Nat} (h : k < X.length) : (folL d e (X.take (k + 1))).map rowI = (folL d e (X.take k)).map rowI ++ [rowI (ithX e (placeV d X[k] 0))] := by
  unfold folL
  rw [List.take_succ_eq_append_getElem h, List.map_append, List.map_append]; rfl
theorem folL_len (d e : List Rg) (X : List (List Int)) : (folL d e X).length = X.length := by simp [folL]
/-- every index of good parts has a place -/
theorem all_in {d : List Rg} (hd : domB d = true) {ps : List (List Rg)} (hok : ps.all (okPart d) = true) : ∀ x ∈ allX ps, x.length = d.length ∧ inB d x = true ∧ placeV d x 0 < cnt d := fun x hx => by
  unfold allX at hx
  obtain ⟨q, hq, hx⟩ := List.mem_flatMap.1 hx
  have h := List.all_eq_true.1 hok q hq
  unfold okPart at h
  rw [Bool.and_eq_true] at h
  obtain ⟨_, _, hl⟩ := twoRes_0.1 (of_decide_eq_true h.1)
  have hw : ∀ x ∈ idxs q, inB d x = true := of_decide_eq_true h.2
  refine ⟨by rw [idxs_each hx, hl], hw x hx, ?_⟩
  exact ((place_iff (domB_iff.1 hd).2.1).1 (hw x hx)).1
theorem place_ok {d : List Rg} (hd : domB d = true) {x : List Int} (hl : x.length = d.length) (hin : inB d x = true) : dPlaceRes d x = (((placeV d x 0 : Nat) : Int), 0) := by
  unfold dPlaceRes
  rw [if_pos hd, if_pos hl, if_pos hin]
theorem follow_d (d : List Rg) (p : Int) (ps : List (List Rg)) (e : List Rg) (hn : ps.length ≤ 1000000000) : DC Try.prog 95 [domD d, chD p ps, domD e] (.tup [rowL2 (folRes d p ps e).1, iD (folRes d p ps e).2]) := by
  have VD := dValid_b d (b := domB d) rfl
  have VE := dValid_b e (b := domB e) rfl
  have VC := iValid_d p ps (by omega)
  unfold folRes
  by_cases h : domB d = true ∧ domB e = true ∧ chB p ps = true
  case neg =>
    rw [if_neg h]
    cases h1 : domB d
    · rw [h1] at VD
      refine DC.of Try.func95 Try.ntmps95 Try.results95 rfl (by decide +kernel) rfl ?_
      repeat (first | refine Z1 ?_ | refine Z2 ?_ | (refine Z3 ?_; (repeat (first | (apply gS; first | refine go_no ?_ | refine go_f ?_ | refine gx ?_ | refine gm ?_ | refine gp ?_ | refine go_c rfl rfl (VD) ?_ | refine go_cF rfl rfl (VD) ?_ | refine go_cA rfl rfl (VD) ?_) | (apply gZ; first | refine go_f ?_ | refine gx ?_ | refine gm ?_))); refine T_nil ?_) | (apply ZK; first | refine Z4 ?_ | refine Z5 ?_) | refine Z6 ?_ | refine Z7 ?_ | refine Z8 ?_ | refine Z9 ?_ | refine ZA ?_ | refine ZB ?_ | refine ZC ?_ | refine ZD ?_ | refine ZE ?_ | refine ZF ?_ | refine ZG ?_ | refine ZH ?_)
      repeat (first | refine kEnd_m ?_ | refine kEnd_f ?_)
      refine kEnd_g ?_ (by first | exact .inl rfl | exact .inr rfl)
      exact Sub.tup (.cons Sub.nil (.cons (Sub.eq rfl rfl) .nil))
    cases h2 : domB e
    · rw [h1] at VD; rw [h2] at VE
      refine DC.of Try.func95 Try.ntmps95 Try.results95 rfl (by decide +kernel) rfl ?_
      repeat (first | refine Z1 ?_ | refine Z2 ?_ | (refine Z3 ?_; (repeat (first | (apply gS; first | refine go_no ?_ | refine go_f ?_ | refine gx ?_ | refine gm ?_ | refine gp ?_ | refine go_c rfl rfl (VD) ?_ | refine go_cF rfl rfl (VD) ?_ | refine go_cA rfl rfl (VD) ?_ | refine go_c rfl rfl (VE) ?_ | refine go_cF rfl rfl (VE) ?_ | refine go_cA rfl rfl (VE) ?_) | (apply gZ; first | refine go_f ?_ | refine gx ?_ | refine gm ?_))); refine T_nil ?_) | (apply ZK; first | refine Z4 ?_ | refine Z5 ?_) | refine Z6 ?_ | refine Z7 ?_ | refine Z8 ?_ | refine Z9 ?_ | refine ZA ?_ | refine ZB ?_ | refine ZC ?_ | refine ZD ?_ | refine ZE ?_ | refine ZF ?_ | refine ZG ?_ | refine ZH ?_)
      repeat (first | refine kEnd_m ?_ | refine kEnd_f ?_)
      refine kEnd_g ?_ (by first | exact .inl rfl | exact .inr rfl)
      exact Sub.tup (.cons Sub.nil (.cons (Sub.eq rfl rfl) .nil))
    cases h3 : chB p ps
    · rw [h1] at VD; rw [h2] at VE; rw [h3] at VC
      refine DC.of Try.func95 Try.ntmps95 Try.results95 rfl (by decide +kernel) rfl ?_
      repeat (first | refine Z1 ?_ | refine Z2 ?_ | (refine Z3 ?_; (repeat (first | (apply gS; first | refine go_no ?_ | refine go_f ?_ | refine gx ?_ | refine gm ?_ | refine gp ?_ | refine go_c rfl rfl (VD) ?_ | refine go_cF rfl rfl (VD) ?_ | refine go_cA rfl rfl (VD) ?_ | refine go_c rfl rfl (VE) ?_ | refine go_cF rfl rfl (VE) ?_ | refine go_cA rfl rfl (VE) ?_ | refine go_c rfl rfl (VC) ?_ | refine go_cF rfl rfl (VC) ?_ | refine go_cA rfl rfl (VC) ?_) | (apply gZ; first | refine go_f ?_ | refine gx ?_ | refine gm ?_))); refine T_nil ?_) | (apply ZK; first | refine Z4 ?_ | refine Z5 ?_) | refine Z6 ?_ | refine Z7 ?_ | refine Z8 ?_ | refine Z9 ?_ | refine ZA ?_ | refine ZB ?_ | refine ZC ?_ | refine ZD ?_ | refine ZE ?_ | refine ZF ?_ | refine ZG ?_ | refine ZH ?_)
      repeat (first | refine kEnd_m ?_ | refine kEnd_f ?_)
      refine kEnd_g ?_ (by first | exact .inl rfl | exact .inr rfl)
      exact Sub.tup (.cons Sub.nil (.cons (Sub.eq rfl rfl) .nil))
    exact absurd ⟨h1, h2, h3⟩ h
  rw [if_pos h]
  obtain ⟨hd, he, hc⟩ := h
  rw [hd] at VD; rw [he] at VE; rw [hc] at VC
  have hall : ∀ q ∈ ps, domB q = true := by
    unfold chB at hc
    rw [Bool.and_eq_true] at hc
    exact List.all_eq_true.1 hc.1
  clear hc
  rcases first_bad (okPart d) ps with hs | ⟨q, hq, hbad, hmin⟩
  case inr =>
    rw [if_neg (by rw [all_no hq hbad]; decide)]
    refine DC.of Try.func95 Try.ntmps95 Try.results95 rfl (by decide +kernel) rfl ?_
    repeat (first | refine Z1 ?_ | refine Z2 ?_ | (refine Z3 ?_; (repeat (first | (apply gS; first | refine go_no ?_ | refine go_f ?_ | refine gx ?_ | refine gm ?_ | refine gp ?_ | refine go_c rfl rfl (VD) ?_ | refine go_cF rfl rfl (VD) ?_ | refine go_cA rfl rfl (VD) ?_ | refine go_c rfl rfl (VE) ?_ | refine go_cF rfl rfl (VE) ?_ | refine go_cA rfl rfl (VE) ?_ | refine go_c rfl rfl (VC) ?_ | refine go_cF rfl rfl (VC) ?_ | refine go_cA rfl rfl (VC) ?_) | (apply gZ; first | refine go_f ?_ | refine gx ?_ | refine gm ?_))); refine T_nil ?_) | (apply ZK; first | refine Z4 ?_ | refine Z5 ?_) | refine Z6 ?_ | refine Z7 ?_ | refine Z8 ?_ | refine Z9 ?_ | refine ZA ?_ | refine ZB ?_ | refine ZC ?_ | refine ZD ?_ | refine ZE ?_ | refine ZF ?_ | refine ZG ?_ | refine ZH ?_)
    refine C_count q (fun _ => True) (fun k => ⟨3, 82, [(35, iD k), (34, iD ps.length), (33, domsD ps), (3, .ptr 0 0)], [(0, some ⟨24, 1, 1, [rowR d]⟩)]⟩) ?_ trivial ?_
    · exact Wk.gx (fun b => b)
    · intro k hk _
      have hkl : k < ps.length := by omega
      have W := dWithin_d ps[k] d
      by_cases hlt : k < q
      · rw [okPart_res.1 (hmin k hkl hlt)] at W
        repeat (first | refine Z1 ?_ | refine Z2 ?_ | (refine Z3 ?_; (repeat (first | (apply gS; first | refine go_no ?_ | refine go_f ?_ | refine gx ?_ | refine gm ?_ | refine gp ?_ | refine go_c rfl rfl (W) ?_ | refine go_cF rfl rfl (W) ?_ | refine go_cA rfl rfl (W) ?_) | (apply gZ; first | refine go_f ?_ | refine gx ?_ | refine gm ?_))); refine T_nil ?_) | (apply ZK; first | refine Z4 ?_ | refine Z5 ?_) | refine Z6 ?_ | refine Z7 ?_ | refine Z8 ?_ | refine Z9 ?_ | refine ZA ?_ | refine ZB ?_ | refine ZC ?_ | refine ZD ?_ | refine ZE ?_ | refine ZF ?_ | refine ZG ?_ | refine ZH ?_)
        refine kLoop_n ⟨hlt, trivial, ?_⟩
        exact Wk.gx (fun b => b)
      · obtain rfl : k = q := by omega
        obtain ⟨b, n, e1, e2⟩ := okPart_res.2 hbad
        rw [e1] at W
        dsimp only at W
        rcases e2 with e2 | ⟨rfl, rfl⟩
        all_goals
          repeat (first | refine Z1 ?_ | refine Z2 ?_ | (refine Z3 ?_; (repeat (first | (apply gS; first | refine go_no ?_ | refine go_f ?_ | refine gx ?_ | refine gm ?_ | refine gp ?_ | refine go_c rfl rfl (W) ?_ | refine go_cF rfl rfl (W) ?_ | refine go_cA rfl rfl (W) ?_) | (apply gZ; first | refine go_f ?_ | refine gx ?_ | refine gm ?_))); refine T_nil ?_) | (apply ZK; first | refine Z4 ?_ | refine Z5 ?_) | refine Z6 ?_ | refine Z7 ?_ | refine Z8 ?_ | refine Z9 ?_ | refine ZA ?_ | refine ZB ?_ | refine ZC ?_ | refine ZD ?_ | refine ZE ?_ | refine ZF ?_ | refine ZG ?_ | refine ZH ?_)
          repeat (first | refine kEnd_m ?_ | refine kEnd_f ?_)
          refine kEnd_g ?_ (by first | exact .inl rfl | exact .inr rfl)
          exact Sub.tup (.cons Sub.nil (.cons (Sub.eq rfl rfl) .nil))
  have hok := all_yes hs
  rw [if_pos hok]
  have AL := alike_d [d, e] (by simp) (by simp) (fun j hj => by
    match j, hj with
    | 0, _ => exact hd
    | 1, _ => exact he)
  rw [show alikeB [d, e] (cnt ([d, e][0]'(by simp))) = decide (cnt d = cnt e) by
    show (decide (cnt d = cnt d) && (decide (cnt e = cnt d) && true)) = _
    rw [decide_eq_true rfl, Bool.true_and, Bool.and_true]
    by_cases h : cnt d = cnt e <;> simp [h]
    exact fun h' => h h'.symm] at AL
  have I := iIndexes_d p ps hn hall
  have cap := allX_cap hall
  have hin := all_in hd hok
  by_cases hcn : cnt d = cnt e
  case neg =>
    rw [if_neg hcn]
    rw [decide_eq_false hcn] at AL
    refine DC.of Try.func95 Try.ntmps95 Try.results95 rfl (by decide +kernel) rfl ?_
    repeat (first | refine Z1 ?_ | refine Z2 ?_ | (refine Z3 ?_; (repeat (first | (apply gS; first | refine go_no ?_ | refine go_f ?_ | refine gx ?_ | refine gm ?_ | refine gp ?_ | refine go_c rfl rfl (VD) ?_ | refine go_cF rfl rfl (VD) ?_ | refine go_cA rfl rfl (VD) ?_ | refine go_c rfl rfl (VE) ?_ | refine go_cF rfl rfl (VE) ?_ | refine go_cA rfl rfl (VE) ?_ | refine go_c rfl rfl (VC) ?_ | refine go_cF rfl rfl (VC) ?_ | refine go_cA rfl rfl (VC) ?_) | (apply gZ; first | refine go_f ?_ | refine gx ?_ | refine gm ?_))); refine T_nil ?_) | (apply ZK; first | refine Z4 ?_ | refine Z5 ?_) | refine Z6 ?_ | refine Z7 ?_ | refine Z8 ?_ | refine Z9 ?_ | refine ZA ?_ | refine ZB ?_ | refine ZC ?_ | refine ZD ?_ | refine ZE ?_ | refine ZF ?_ | refine ZG ?_ | refine ZH ?_)
    refine C_count ps.length (fun _ => True) (fun k => ⟨3, 82, [(35, iD k), (34, iD ps.length), (33, domsD ps), (3, .ptr 0 0), (5, .ptr 2 0)], [(0, some ⟨24, 1, 1, [rowR d]⟩), (2, some ⟨24, 1, 1, [rowR e]⟩)]⟩) ?_ trivial ?_
    · exact Wk.gx (fun b => b)
    · intro k hk _
      by_cases hlt : k < ps.length
      · have W := dWithin_d ps[k] d
        rw [okPart_res.1 (hs k hlt)] at W
        repeat (first | refine Z1 ?_ | refine Z2 ?_ | (refine Z3 ?_; (repeat (first | (apply gS; first | refine go_no ?_ | refine go_f ?_ | refine gx ?_ | refine gm ?_ | refine gp ?_ | refine go_c rfl rfl (W) ?_ | refine go_cF rfl rfl (W) ?_ | refine go_cA rfl rfl (W) ?_) | (apply gZ; first | refine go_f ?_ | refine gx ?_ | refine gm ?_))); refine T_nil ?_) | (apply ZK; first | refine Z4 ?_ | refine Z5 ?_) | refine Z6 ?_ | refine Z7 ?_ | refine Z8 ?_ | refine Z9 ?_ | refine ZA ?_ | refine ZB ?_ | refine ZC ?_ | refine ZD ?_ | refine ZE ?_ | refine ZF ?_ | refine ZG ?_ | refine ZH ?_)
        refine kLoop_n ⟨hlt, trivial, ?_⟩
        exact Wk.gx (fun b => b)
      · repeat (first | refine Z1 ?_ | refine Z2 ?_ | (refine Z3 ?_; (repeat (first | (apply gS; first | refine go_no ?_ | refine go_f ?_ | refine gx ?_ | refine gm ?_ | refine gp ?_ | refine go_c rfl rfl (AL) ?_ | refine go_cF rfl rfl (AL) ?_ | refine go_cA rfl rfl (AL) ?_) | (apply gZ; first | refine go_f ?_ | refine gx ?_ | refine gm ?_))); refine T_nil ?_) | (apply ZK; first | refine Z4 ?_ | refine Z5 ?_) | refine Z6 ?_ | refine Z7 ?_ | refine Z8 ?_ | refine Z9 ?_ | refine ZA ?_ | refine ZB ?_ | refine ZC ?_ | refine ZD ?_ | refine ZE ?_ | refine ZF ?_ | refine ZG ?_ | refine ZH ?_)
        repeat (first | refine kEnd_m ?_ | refine kEnd_f ?_)
        refine kEnd_g ?_ (by first | exact .inl rfl | exact .inr rfl)
        exact Sub.tup (.cons Sub.nil (.cons (Sub.eq rfl rfl) .nil))
  rw [if_pos hcn]
  rw [decide_eq_true hcn] at AL
  refine DC.of Try.func95 Try.ntmps95 Try.results95 rfl (by decide +kernel) rfl ?_
  repeat (first | refine Z1 ?_ | refine Z2 ?_ | (refine Z3 ?_; (repeat (first | (apply gS; first | refine go_no ?_ | refine go_f ?_ | refine gx ?_ | refine gm ?_ | refine gp ?_ | refine go_c rfl rfl (VD) ?_ | refine go_cF rfl rfl (VD) ?_ | refine go_cA rfl rfl (VD) ?_ | refine go_c rfl rfl (VE) ?_ | refine go_cF rfl rfl (VE) ?_ | refine go_cA rfl rfl (VE) ?_ | refine go_c rfl rfl (VC) ?_ | refine go_cF rfl rfl (VC) ?_ | refine go_cA rfl rfl (VC) ?_) | (apply gZ; first | refine go_f ?_ | refine gx ?_ | refine gm ?_))); refine T_nil ?_) | (apply ZK; first | refine Z4 ?_ | refine Z5 ?_) | refine Z6 ?_ | refine Z7 ?_ | refine Z8 ?_ | refine Z9 ?_ | refine ZA ?_ | refine ZB ?_ | refine ZC ?_ | refine ZD ?_ | refine ZE ?_ | refine ZF ?_ | refine ZG ?_ | refine ZH ?_)
  refine C_count ps.length (fun _ => True) (fun k => ⟨3, 82, [(35, iD k), (34, iD ps.length), (33, domsD ps), (3, .ptr 0 0), (4, .ptr 1 0), (5, .ptr 2 0)], [(0, some ⟨24, 1, 1, [rowR d]⟩), (1, some ⟨90, 2, 1, [iD p, domsD ps]⟩), (2, some ⟨24, 1, 1, [rowR e]⟩)]⟩) ?_ trivial ?_
  · exact Wk.gx (fun b => b)
  · intro k hk _
    by_cases hlt : k < ps.length
    · have W := dWithin_d ps[k] d
      rw [okPart_res.1 (hs k hlt)] at W
      repeat (first | refine Z1 ?_ | refine Z2 ?_ | (refine Z3 ?_; (repeat (first | (apply gS; first | refine go_no ?_ | refine go_f ?_ | refine gx ?_ | refine gm ?_ | refine gp ?_ | refine go_c rfl rfl (W) ?_ | refine go_cF rfl rfl (W) ?_ | refine go_cA rfl rfl (W) ?_) | (apply gZ; first | refine go_f ?_ | refine gx ?_ | refine gm ?_))); refine T_nil ?_) | (apply ZK; first | refine Z4 ?_ | refine Z5 ?_) | refine Z6 ?_ | refine Z7 ?_ | refine Z8 ?_ | refine Z9 ?_ | refine ZA ?_ | refine ZB ?_ | refine ZC ?_ | refine ZD ?_ | refine ZE ?_ | refine ZF ?_ | refine ZG ?_ | refine ZH ?_)
      refine kLoop_n ⟨hlt, trivial, ?_⟩
      exact Wk.gx (fun b => b)
    · clear hs
      generalize allX ps = X at *
      repeat (first | refine Z1 ?_ | refine Z2 ?_ | (refine Z3 ?_; (repeat (first | (apply gS; first | refine go_no ?_ | refine go_f ?_ | refine gx ?_ | refine gm ?_ | refine gp ?_ | refine go_c rfl rfl (AL) ?_ | refine go_cF rfl rfl (AL) ?_ | refine go_cA rfl rfl (AL) ?_ | refine go_c rfl rfl (I) ?_ | refine go_cF rfl rfl (I) ?_ | refine go_cA rfl rfl (I) ?_) | (apply gZ; first | refine go_f ?_ | refine gx ?_ | refine gm ?_))); refine T_nil ?_) | (apply ZK; first | refine Z4 ?_ | refine Z5 ?_) | refine Z6 ?_ | refine Z7 ?_ | refine Z8 ?_ | refine Z9 ?_ | refine ZA ?_ | refine ZB ?_ | refine ZC ?_ | refine ZD ?_ | refine ZE ?_ | refine ZF ?_ | refine ZG ?_ | refine ZH ?_)
      refine C_count X.length (fun _ => True) (fun k => ⟨4, 82, [(60, iD k), (59, iD X.length), (58, rowL2 X), (12, .own 3 k), (3, .ptr 0 0), (5, .ptr 2 0)], [(0, some ⟨24, 1, 1, [rowR d]⟩), (2, some ⟨24, 1, 1, [rowR e]⟩), (3, some ⟨25, 1, k, (folL d e (X.take k)).map rowI⟩)]⟩) ?_ trivial ?_
      · refine Wk.trans (Wk.adoptT 12 25 1 rfl) ?_
        exact Wk.gx (fun b => b)
      · intro j hj _
        by_cases hjl : j < X.length
        · obtain ⟨x1, x2, x3⟩ := hin _ (List.getElem_mem hjl)
          have P := dPlace_d d X[j]
          rw [place_ok hd x1 x2] at P
          have T := dIth_ok he (i := placeV d X[j] 0) (by omega)
          have en := folL_snoc (d := d) (e := e) hjl
          dsimp only at P
          repeat (first | refine Z1 ?_ | refine Z2 ?_ | (refine Z3 ?_; (repeat (first | (apply gS; first | refine go_no ?_ | refine go_f ?_ | refine gx ?_ | refine gm ?_ | refine gp ?_ | refine go_c rfl rfl (P) ?_ | refine go_cF rfl rfl (P) ?_ | refine go_cA rfl rfl (P) ?_ | refine go_c rfl rfl (T) ?_ | refine go_cF rfl rfl (T) ?_ | refine go_cA rfl rfl (T) ?_) | (apply gZ; first | refine go_f ?_ | refine gx ?_ | refine gm ?_))); refine T_nil ?_) | (apply ZK; first | refine Z4 ?_ | refine Z5 ?_) | refine Z6 ?_ | refine Z7 ?_ | refine Z8 ?_ | refine Z9 ?_ | refine ZA ?_ | refine ZB ?_ | refine ZC ?_ | refine ZD ?_ | refine ZE ?_ | refine ZF ?_ | refine ZG ?_ | refine ZH ?_)
          refine kLoop_n ⟨hjl, trivial, ?_⟩
          exact Wk.gx (fun b => cond (Nat.beq b 3) 4 (b))
        · obtain rfl : j = X.length := by omega
          rw [List.take_length]
          repeat (first | refine Z1 ?_ | refine Z2 ?_ | (refine Z3 ?_; (repeat (first | (apply gS; first | refine go_no ?_ | refine go_f ?_ | refine gx ?_ | refine gm ?_ | refine gp ?_) | (apply gZ; first | refine go_f ?_ | refine gx ?_ | refine gm ?_))); refine T_nil ?_) | (apply ZK; first | refine Z4 ?_ | refine Z5 ?_) | refine Z6 ?_ | refine Z7 ?_ | refine Z8 ?_ | refine Z9 ?_ | refine ZA ?_ | refine ZB ?_ | refine ZC ?_ | refine ZD ?_ | refine ZE ?_ | refine ZF ?_ | refine ZG ?_ | refine ZH ?_)
          repeat (first | refine kEnd_m ?_ | refine kEnd_f ?_)
          refine kEnd_g ?_ (by first | exact .inl rfl | exact .inr rfl)
          exact Sub.tup (.cons (Sub.eq (by show D.row X.length _ = D.row (folL d e X).length _; rw [folL_len]) rfl) (.cons (Sub.eq rfl rfl) .nil))
end Go.Proofs.Ytifapodobhkdcaa
