/- The law TopQuiet returns true for every input: quiescence is told exactly when all is over, and soon. -/
import Derived.Test.YtpomhnmfkdgafaaTq
namespace Go.Proofs.Ytpomhnmfkdgafaa.topQuiet
open Go.RowKit Go.Proofs.Ytpomhnmfkdgafaa
set_option linter.unusedVariables false
set_option maxHeartbeats 16000000
set_option linter.unusedSimpArgs false
set_option maxRecDepth 100000
theorem law_bad (n : Int) (l : List (Int × Int × Int)) (h : n < 1 ∨ 8 < n) : DC Try.prog 3 [iD n, .row l.length (actD l)] (bD true) := by
  have H1 := begin_bad n h
  have hl := act_len l
  by_cases h0 : l.length ≤ 150
  all_goals
    refine DC.of Try.func3 Try.ntmps3 Try.results3 rfl (by decide +kernel) rfl ?_
    repeat (first | refine Z1 ?_ | refine Z2 ?_ | (refine Z3 ?_; (repeat (first | (apply gS; first | refine go_newN H1 ?_ | refine go_eqN ?_ | refine go_no ?_ | refine go_f ?_ | refine gx ?_ | refine gm ?_ | refine gp ?_ | refine go_c rfl rfl (first_d) ?_ | refine go_cF rfl rfl (first_d) ?_ | refine go_cA rfl rfl (first_d) ?_))); refine T_nil ?_) | (apply ZK; first | refine Z4 ?_ | refine Z5 ?_) | refine Z6 ?_ | refine Z7 ?_ | refine Z8 ?_ | refine Z9 ?_ | refine ZA ?_ | refine ZB ?_ | refine ZC ?_ | refine ZD ?_ | refine ZE ?_ | refine ZF ?_ | refine ZG ?_ | refine ZH ?_)
    repeat (first | refine kEnd_m ?_ | refine kEnd_f ?_)
    refine kEnd_g ?_ (by first | exact .inl rfl | exact .inr rfl)
    exact Sub.eq rfl rfl
theorem law_long (n : Nat) (l : List (Int × Int × Int)) (h0 : 0 < n) (h8 : n ≤ 8) (hb : 150 < l.length) : DC Try.prog 3 [iD n, .row l.length (actD l)] (bD true) := by
  have H1 := begin_ok n h0 h8
  have hl := act_len l
  refine DC.of Try.func3 Try.ntmps3 Try.results3 rfl (by decide +kernel) rfl ?_
  repeat (first | refine Z1 ?_ | refine Z2 ?_ | (refine Z3 ?_; (repeat (first | (apply gS; first | refine go_newP H1 ?_ | refine go_eqP ?_ | refine go_no ?_ | refine go_f ?_ | refine gx ?_ | refine gm ?_ | refine gp ?_ | refine go_c rfl rfl (first_d) ?_ | refine go_cF rfl rfl (first_d) ?_ | refine go_cA rfl rfl (first_d) ?_))); refine T_nil ?_) | (apply ZK; first | refine Z4 ?_ | refine Z5 ?_) | refine Z6 ?_ | refine Z7 ?_ | refine Z8 ?_ | refine Z9 ?_ | refine ZA ?_ | refine ZB ?_ | refine ZC ?_ | refine ZD ?_ | refine ZE ?_ | refine ZF ?_ | refine ZG ?_ | refine ZH ?_)
  repeat (first | refine kEnd_m ?_ | refine kEnd_f ?_)
  refine kEnd_g ?_ (by first | exact .inl rfl | exact .inr rfl)
  exact Sub.eq rfl rfl
theorem law_run (n : Nat) (l : List (Int × Int × Int)) (h0 : 0 < n) (h8 : n ≤ 8) (hb : l.length ≤ 150) : DC Try.prog 3 [iD n, .row l.length (actD l)] (bD true) := by
  have H1 := begin_ok n h0 h8
  have hl := act_len l
  refine DC.of Try.func3 Try.ntmps3 Try.results3 rfl (by decide +kernel) rfl ?_
  repeat (first | refine Z1 ?_ | refine Z2 ?_ | (refine Z3 ?_; (repeat (first | (apply gS; first | refine go_newP H1 ?_ | refine go_eqP ?_ | refine go_no ?_ | refine go_f ?_ | refine gx ?_ | refine gm ?_ | refine gp ?_ | refine go_c rfl rfl (first_d) ?_ | refine go_cF rfl rfl (first_d) ?_ | refine go_cA rfl rfl (first_d) ?_))); refine T_nil ?_) | (apply ZK; first | refine Z4 ?_ | refine Z5 ?_) | refine Z6 ?_ | refine Z7 ?_ | refine Z8 ?_ | refine Z9 ?_ | refine ZA ?_ | refine ZB ?_ | refine ZC ?_ | refine ZD ?_ | refine ZE ?_ | refine ZF ?_ | refine ZG ?_ | refine ZH ?_)
  refine C_count l.length (fun k => TopInv n k (stN n l k)) (fun k => ⟨9, 112, [(8, iD k), (7, iD (stN n l k).2), (5, .ptr 0 0), (1, .row l.length (actD l)), (0, iD n)], pairM (stN n l k).1 (stN n l k).1⟩) ?_ (TopInv.zero h0 h8) ?_
  · exact Wk.mk (sgQ 1 2 3 4 5 6 7 8) (.cons rfl (Ren.im rfl) (.cons rfl (Ren.im rfl) (.cons rfl (Ren.ptr rfl rfl rfl) (.cons rfl (Ren.im rfl) (.cons rfl (Ren.im rfl) .nil))))) (WkM.pairQ rfl rfl rfl rfl rfl rfl rfl rfl rfl) rfl
  intro k hk h
  by_cases hlt : k < l.length
  · have A := h.step (by omega) l[k]
    have e := stN_succ (n := n) hlt
    have g0 := act_el hlt
    have hla := h.late
    generalize stN n l k = s at *
    generalize l[k] = a at *
    obtain ⟨r, late⟩ := s
    obtain ⟨d, x, y⟩ := a
    obtain ⟨f0, f1, ht, hp, he, hl2, hn⟩ := A
    unfold topStep at hn e
    dsimp only at f0 f1 ht hp he hl2 hn e g0 hla
    have HD : ∀ B q, _ := fun B q => do_dm B q r f0 d x y
    generalize doR r d x y = r1 at *
    have HP : ∀ B q, _ := fun B q => pass_dm B q r1 f1
    have HS : ∀ B q, _ := fun B q => passS_dm B q r1 f1
    generalize passR r1 = r2 at *
    have FL := flying_d r1 f1.1 f1.2.2.2.2.2.2.1
    have AC := active_d r1 f1.1 f1.2.1
    have OV := over_d r1 f1.1 f1.2.1
    have TO := told_d r1 f1.1
    clear h f0 f1 H1
    by_cases hov : overB r1 = true
    · have hE := he hov
      have hoo := of_decide_eq_true hov
      have o1 := hoo.1
      have o2 := hoo.2
      rw [if_pos hov] at hn e
      rw [hov] at OV
      rw [hE] at HP HS
      clear hoo he hE
      cases hT : passT r1 with
      | true =>
        rw [hT] at HP HS
        by_cases hbig : (late : Int) + 1 > 3 * (n : Int) + 3
        all_goals
          cases hto : r1.told
          all_goals
            rw [hto] at TO
            clear ht hp hl2 hT hto
            repeat (first | refine Z1 ?_ | refine Z2 ?_ | (refine Z3 ?_; (repeat (first | (apply gS; first | refine go_ixE g0 ?_ | refine T_P (s := 31) HD rfl (fun _ _ => rfl) (fun _ _ => rfl) rfl (fun _ => rfl) rfl (fun _ _ => rfl) rfl ?_ | refine go_w FL ?_ | refine go_w AC ?_ | refine go_w OV ?_ | refine go_w TO ?_ | refine go_lenSz ?_ | refine T_R (s := 75) HP rfl (fun _ _ => rfl) (fun _ _ => rfl) rfl rfl rfl rfl rfl rfl (fun _ => rfl) rfl (fun _ _ => rfl) rfl ?_ | refine T_S (s := 105) HS rfl (fun _ _ => rfl) (fun _ _ => rfl) rfl rfl rfl rfl rfl rfl rfl rfl (fun _ => rfl) rfl (fun _ _ => rfl) rfl ?_ | refine go_no ?_ | refine go_f ?_ | refine gx ?_ | refine gm ?_ | refine gp ?_))); refine T_nil ?_) | (apply ZK; first | refine Z4 ?_ | refine Z5 ?_) | refine Z6 ?_ | refine Z7 ?_ | refine Z8 ?_ | refine Z9 ?_ | refine ZA ?_ | refine ZB ?_ | refine ZC ?_ | refine ZD ?_ | refine ZE ?_ | refine ZF ?_ | refine ZG ?_ | refine ZH ?_)
            refine kLoop_n ⟨hlt, by rw [e]; exact hn, ?_⟩
            rw [e]
            exact Wk.mk (sgQ 10 19 20 13 22 23 24 25) (.cons rfl (Ren.int (by omega)) (.cons rfl (Ren.int (by dsimp only; omega)) (.cons rfl (Ren.ptr rfl rfl rfl) (.cons rfl (Ren.im rfl) (.cons rfl (Ren.im rfl) .nil))))) (WkM.pairQ rfl rfl rfl rfl rfl rfl rfl rfl rfl) rfl
      | false =>
        have hsm := hl2 hov hT
        rw [hT] at HP HS
        cases hto : r1.told
        all_goals
          rw [hto] at TO
          clear ht hp hl2 hT hto
          repeat (first | refine Z1 ?_ | refine Z2 ?_ | (refine Z3 ?_; (repeat (first | (apply gS; first | refine go_ixE g0 ?_ | refine T_P (s := 31) HD rfl (fun _ _ => rfl) (fun _ _ => rfl) rfl (fun _ => rfl) rfl (fun _ _ => rfl) rfl ?_ | refine go_w FL ?_ | refine go_w AC ?_ | refine go_w OV ?_ | refine go_w TO ?_ | refine go_lenSz ?_ | refine T_R (s := 75) HP rfl (fun _ _ => rfl) (fun _ _ => rfl) rfl rfl rfl rfl rfl rfl (fun _ => rfl) rfl (fun _ _ => rfl) rfl ?_ | refine T_S (s := 105) HS rfl (fun _ _ => rfl) (fun _ _ => rfl) rfl rfl rfl rfl rfl rfl rfl rfl (fun _ => rfl) rfl (fun _ _ => rfl) rfl ?_ | refine go_no ?_ | refine go_f ?_ | refine gx ?_ | refine gm ?_ | refine gp ?_))); refine T_nil ?_) | (apply ZK; first | refine Z4 ?_ | refine Z5 ?_) | refine Z6 ?_ | refine Z7 ?_ | refine Z8 ?_ | refine Z9 ?_ | refine ZA ?_ | refine ZB ?_ | refine ZC ?_ | refine ZD ?_ | refine ZE ?_ | refine ZF ?_ | refine ZG ?_ | refine ZH ?_)
          refine kLoop_n ⟨hlt, by rw [e]; exact hn, ?_⟩
          rw [e]
          exact Wk.mk (sgQ 10 19 20 13 22 23 24 25) (.cons rfl (Ren.int (by omega)) (.cons rfl (Ren.int (by dsimp only; omega)) (.cons rfl (Ren.ptr rfl rfl rfl) (.cons rfl (Ren.im rfl) (.cons rfl (Ren.im rfl) .nil))))) (WkM.pairQ rfl rfl rfl rfl rfl rfl rfl rfl rfl) rfl
    · have hov' : overB r1 = false := by simpa using hov
      have hT : passT r1 = false := by
        cases hh : passT r1 with
        | false => rfl
        | true => exact absurd (hp hh) hov
      have hto : r1.told = false := by
        cases hh : r1.told with
        | false => rfl
        | true => exact absurd (ht hh) hov
      have hoo := of_decide_eq_false hov'
      rw [if_neg hov] at hn e
      rw [hov'] at OV
      rw [hT] at HP HS
      rw [hto] at TO
      clear ht hp hl2 hT hto he
      by_cases hfl : r1.fly.length = 0
      · have hac : ¬ (actL r1.act r1.n).length = 0 := fun h => hoo ⟨h, hfl⟩
        clear hoo
        repeat (first | refine Z1 ?_ | refine Z2 ?_ | (refine Z3 ?_; (repeat (first | (apply gS; first | refine go_ixE g0 ?_ | refine T_P (s := 31) HD rfl (fun _ _ => rfl) (fun _ _ => rfl) rfl (fun _ => rfl) rfl (fun _ _ => rfl) rfl ?_ | refine go_w FL ?_ | refine go_w AC ?_ | refine go_w OV ?_ | refine go_w TO ?_ | refine go_lenSz ?_ | refine T_R (s := 75) HP rfl (fun _ _ => rfl) (fun _ _ => rfl) rfl rfl rfl rfl rfl rfl (fun _ => rfl) rfl (fun _ _ => rfl) rfl ?_ | refine T_S (s := 105) HS rfl (fun _ _ => rfl) (fun _ _ => rfl) rfl rfl rfl rfl rfl rfl rfl rfl (fun _ => rfl) rfl (fun _ _ => rfl) rfl ?_ | refine go_no ?_ | refine go_f ?_ | refine gx ?_ | refine gm ?_ | refine gp ?_))); refine T_nil ?_) | (apply ZK; first | refine Z4 ?_ | refine Z5 ?_) | refine Z6 ?_ | refine Z7 ?_ | refine Z8 ?_ | refine Z9 ?_ | refine ZA ?_ | refine ZB ?_ | refine ZC ?_ | refine ZD ?_ | refine ZE ?_ | refine ZF ?_ | refine ZG ?_ | refine ZH ?_)
        refine kLoop_n ⟨hlt, by rw [e]; exact hn, ?_⟩
        rw [e]
        exact Wk.mk (sgQ 10 19 20 13 22 23 24 25) (.cons rfl (Ren.int (by omega)) (.cons rfl (Ren.int (by dsimp only; omega)) (.cons rfl (Ren.ptr rfl rfl rfl) (.cons rfl (Ren.im rfl) (.cons rfl (Ren.im rfl) .nil))))) (WkM.pairQ rfl rfl rfl rfl rfl rfl rfl rfl rfl) rfl
      · clear hoo
        repeat (first | refine Z1 ?_ | refine Z2 ?_ | (refine Z3 ?_; (repeat (first | (apply gS; first | refine go_ixE g0 ?_ | refine T_P (s := 31) HD rfl (fun _ _ => rfl) (fun _ _ => rfl) rfl (fun _ => rfl) rfl (fun _ _ => rfl) rfl ?_ | refine go_w FL ?_ | refine go_w AC ?_ | refine go_w OV ?_ | refine go_w TO ?_ | refine go_lenSz ?_ | refine T_R (s := 75) HP rfl (fun _ _ => rfl) (fun _ _ => rfl) rfl rfl rfl rfl rfl rfl (fun _ => rfl) rfl (fun _ _ => rfl) rfl ?_ | refine T_S (s := 105) HS rfl (fun _ _ => rfl) (fun _ _ => rfl) rfl rfl rfl rfl rfl rfl rfl rfl (fun _ => rfl) rfl (fun _ _ => rfl) rfl ?_ | refine go_no ?_ | refine go_f ?_ | refine gx ?_ | refine gm ?_ | refine gp ?_))); refine T_nil ?_) | (apply ZK; first | refine Z4 ?_ | refine Z5 ?_) | refine Z6 ?_ | refine Z7 ?_ | refine Z8 ?_ | refine Z9 ?_ | refine ZA ?_ | refine ZB ?_ | refine ZC ?_ | refine ZD ?_ | refine ZE ?_ | refine ZF ?_ | refine ZG ?_ | refine ZH ?_)
        refine kLoop_n ⟨hlt, by rw [e]; exact hn, ?_⟩
        rw [e]
        exact Wk.mk (sgQ 10 19 20 13 22 23 24 25) (.cons rfl (Ren.int (by omega)) (.cons rfl (Ren.int (by dsimp only; omega)) (.cons rfl (Ren.ptr rfl rfl rfl) (.cons rfl (Ren.im rfl) (.cons rfl (Ren.im rfl) .nil))))) (WkM.pairQ rfl rfl rfl rfl rfl rfl rfl rfl rfl) rfl
  · obtain rfl : k = l.length := by omega
    have F := h.bnd.few (by omega)
    clear h H1
    generalize stN n l l.length = s at *
    obtain ⟨r, late⟩ := s
    dsimp only at F ⊢
    have AL := alike_rings r F
    clear F
    repeat (first | refine Z1 ?_ | refine Z2 ?_ | (refine Z3 ?_; (repeat (first | (apply gS; first | refine go_w AL ?_ | refine go_no ?_ | refine go_f ?_ | refine gx ?_ | refine gm ?_ | refine gp ?_ | refine go_c rfl rfl (first_d) ?_ | refine go_cF rfl rfl (first_d) ?_ | refine go_cA rfl rfl (first_d) ?_))); refine T_nil ?_) | (apply ZK; first | refine Z4 ?_ | refine Z5 ?_) | refine Z6 ?_ | refine Z7 ?_ | refine Z8 ?_ | refine Z9 ?_ | refine ZA ?_ | refine ZB ?_ | refine ZC ?_ | refine ZD ?_ | refine ZE ?_ | refine ZF ?_ | refine ZG ?_ | refine ZH ?_)
    repeat (first | refine kEnd_m ?_ | refine kEnd_f ?_)
    refine kEnd_g ?_ (by first | exact .inl rfl | exact .inr rfl)
    exact Sub.eq rfl rfl
theorem law_d (n : Int) (l : List (Int × Int × Int)) : DC Try.prog 3 [iD n, .row l.length (actD l)] (bD true) := by
  by_cases h : n < 1 ∨ 8 < n
  · exact law_bad n l h
  · obtain ⟨m, rfl⟩ := Int.eq_ofNat_of_zero_le (show 0 ≤ n by omega)
    by_cases hb : l.length ≤ 150
    · exact law_run m l (by omega) (by omega) hb
    · exact law_long m l (by omega) (by omega) (by omega)
theorem walk {w : World} (n : Int) (v : Value) (l : List (Int × Int × Int)) (rc : RC (fun b => b < w.heap.size) w (.row l.length (actD l)) v) : Calls Try.prog 3 #[.int .i64 n, v] w fun e w' => e = .returned (.bool true) ∧ Below w.heap.size w w' :=
  DC.law (law_d n l) (.cons (.val _ rfl) (.cons rc .nil))
end Go.Proofs.Ytpomhnmfkdgafaa.topQuiet
