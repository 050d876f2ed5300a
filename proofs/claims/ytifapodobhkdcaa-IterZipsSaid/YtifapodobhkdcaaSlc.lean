/- Grow, Concat and Reverse of package slices, as contracts of the abstract machine. -/
import Derived.Test.YtifapodobhkdcaaD4
import Derived.Test.YtifapodobhkdcaaCutA
import Derived.Shelf.Spec.SlicesGrow
import Derived.Shelf.SlicesQ.Reverse
import Derived.Shelf.SlicesG.Reverse
namespace Go.Proofs.Ytifapodobhkdcaa
open Go.RowKit
set_option linter.unusedVariables false
set_option maxHeartbeats 16000000
set_option linter.unusedSimpArgs false
set_option maxRecDepth 100000
abbrev domsD (ls : List (List Rg)) : D := .row ls.length (ls.map rowR)
abbrev rowL3 (l : List (List (List Int))) : D := .row l.length (l.map rowL2)
def askedR (ls : List (List Rg)) : Int := if ls.all domB = true then (if ls.length = 0 then 2 else 0) else 40
theorem asked_d (ls : List (List Rg)) (hl : ls.length ≤ 9223372036854775806) : DC Try.prog 111 [domsD ls] (iD (askedR ls)) := by
  rcases first_bad domB ls with hall | ⟨q, hq, hb, hmin⟩
  · rw [askedR, if_pos (all_yes hall)]
    by_cases h0 : ls.length = 0
    all_goals
      (first | rw [if_pos h0] | rw [if_neg h0])
      refine DC.of Try.func111 Try.ntmps111 Try.results111 rfl (by decide +kernel) rfl ?_
      repeat (first | refine Z1 ?_ | refine Z2 ?_ | (refine Z3 ?_; (repeat (first | (apply gS; first | refine go_f ?_ | refine gx ?_ | refine gm ?_ | refine gp ?_) | (apply gZ; first | refine go_f ?_ | refine gx ?_ | refine gm ?_))); refine T_nil ?_) | (apply ZK; first | refine Z4 ?_ | refine Z5 ?_) | refine Z6 ?_ | refine Z7 ?_ | refine Z8 ?_ | refine Z9 ?_ | refine ZA ?_ | refine ZB ?_ | refine ZC ?_ | refine ZD ?_ | refine ZE ?_ | refine ZF ?_ | refine ZG ?_ | refine ZH ?_)
      refine C_count ls.length (fun _ => True) (fun k => ⟨0, 18, [(7, iD k), (6, iD ls.length), (5, domsD ls), (0, domsD ls)], []⟩) ?_ trivial ?_
      · exact Wk.gx (fun b => b)
      · intro k hk _
        by_cases hlt : k < ls.length
        · have V := dValid_b ls[k] (hall k hlt)
          repeat (first | refine Z1 ?_ | refine Z2 ?_ | (refine Z3 ?_; (repeat (first | (apply gS; first | refine go_f ?_ | refine gx ?_ | refine gm ?_ | refine gp ?_ | refine go_c rfl rfl (V) ?_ | refine go_cF rfl rfl (V) ?_ | refine go_cA rfl rfl (V) ?_) | (apply gZ; first | refine go_f ?_ | refine gx ?_ | refine gm ?_))); refine T_nil ?_) | (apply ZK; first | refine Z4 ?_ | refine Z5 ?_) | refine Z6 ?_ | refine Z7 ?_ | refine Z8 ?_ | refine Z9 ?_ | refine ZA ?_ | refine ZB ?_ | refine ZC ?_ | refine ZD ?_ | refine ZE ?_ | refine ZF ?_ | refine ZG ?_ | refine ZH ?_)
          refine kLoop_n ⟨hlt, trivial, ?_⟩
          exact Wk.gx (fun b => b)
        · repeat (first | refine Z1 ?_ | refine Z2 ?_ | (refine Z3 ?_; (repeat (first | (apply gS; first | refine go_f ?_ | refine gx ?_ | refine gm ?_ | refine gp ?_) | (apply gZ; first | refine go_f ?_ | refine gx ?_ | refine gm ?_))); refine T_nil ?_) | (apply ZK; first | refine Z4 ?_ | refine Z5 ?_) | refine Z6 ?_ | refine Z7 ?_ | refine Z8 ?_ | refine Z9 ?_ | refine ZA ?_ | refine ZB ?_ | refine ZC ?_ | refine ZD ?_ | refine ZE ?_ | refine ZF ?_ | refine ZG ?_ | refine ZH ?_)
          repeat (first | refine kEnd_m ?_ | refine kEnd_f ?_)
          refine kEnd_g ?_ (by first | exact .inl rfl | exact .inr rfl)
          exact Sub.eq rfl rfl
  · rw [askedR, if_neg (by rw [all_no hq hb]; decide)]
    refine DC.of Try.func111 Try.ntmps111 Try.results111 rfl (by decide +kernel) rfl ?_
    repeat (first | refine Z1 ?_ | refine Z2 ?_ | (refine Z3 ?_; (repeat (first | (apply gS; first | refine go_f ?_ | refine gx ?_ | refine gm ?_ | refine gp ?_) | (apply gZ; first | refine go_f ?_ | refine gx ?_ | refine gm ?_))); refine T_nil ?_) | (apply ZK; first | refine Z4 ?_ | refine Z5 ?_) | refine Z6 ?_ | refine Z7 ?_ | refine Z8 ?_ | refine Z9 ?_ | refine ZA ?_ | refine ZB ?_ | refine ZC ?_ | refine ZD ?_ | refine ZE ?_ | refine ZF ?_ | refine ZG ?_ | refine ZH ?_)
    refine C_count q (fun _ => True) (fun k => ⟨0, 18, [(7, iD k), (6, iD ls.length), (5, domsD ls), (0, domsD ls)], []⟩) ?_ trivial ?_
    · exact Wk.gx (fun b => b)
    · intro k hk _
      have hkl : k < ls.length := by omega
      by_cases hlt : k < q
      · have V := dValid_b ls[k] (hmin k hkl hlt)
        repeat (first | refine Z1 ?_ | refine Z2 ?_ | (refine Z3 ?_; (repeat (first | (apply gS; first | refine go_f ?_ | refine gx ?_ | refine gm ?_ | refine gp ?_ | refine go_c rfl rfl (V) ?_ | refine go_cF rfl rfl (V) ?_ | refine go_cA rfl rfl (V) ?_) | (apply gZ; first | refine go_f ?_ | refine gx ?_ | refine gm ?_))); refine T_nil ?_) | (apply ZK; first | refine Z4 ?_ | refine Z5 ?_) | refine Z6 ?_ | refine Z7 ?_ | refine Z8 ?_ | refine Z9 ?_ | refine ZA ?_ | refine ZB ?_ | refine ZC ?_ | refine ZD ?_ | refine ZE ?_ | refine ZF ?_ | refine ZG ?_ | refine ZH ?_)
        refine kLoop_n ⟨hlt, trivial, ?_⟩
        exact Wk.gx (fun b => b)
      · obtain rfl : k = q := by omega
        have V := dValid_b ls[k] hb
        repeat (first | refine Z1 ?_ | refine Z2 ?_ | (refine Z3 ?_; (repeat (first | (apply gS; first | refine go_f ?_ | refine gx ?_ | refine gm ?_ | refine gp ?_ | refine go_c rfl rfl (V) ?_ | refine go_cF rfl rfl (V) ?_ | refine go_cA rfl rfl (V) ?_) | (apply gZ; first | refine go_f ?_ | refine gx ?_ | refine gm ?_))); refine T_nil ?_) | (apply ZK; first | refine Z4 ?_ | refine Z5 ?_) | refine Z6 ?_ | refine Z7 ?_ | refine Z8 ?_ | refine Z9 ?_ | refine ZA ?_ | refine ZB ?_ | refine ZC ?_ | refine ZD ?_ | refine ZE ?_ | refine ZF ?_ | refine ZG ?_ | refine ZH ?_)
        repeat (first | refine kEnd_m ?_ | refine kEnd_f ?_)
        refine kEnd_g ?_ (by first | exact .inl rfl | exact .inr rfl)
        exact Sub.eq rfl rfl
def cnt (d : List Rg) : Nat := prodN (cl d)
theorem dCount_ok {d : List Rg} (h : domB d = true) : DC Try.prog 49 [domD d] (.tup [iD (cnt d), iD 0]) := by
  have H := dCount_d d
  rwa [show dCountRes d = (((cnt d : Nat) : Int), 0) from if_pos h] at H
def alikeB (ls : List (List Rg)) (n : Nat) : Bool := ls.all fun d => decide (cnt d = n)
theorem alike_d (ls : List (List Rg)) (hl : ls.length ≤ 9223372036854775806) (h0 : 0 < ls.length) (hall : ∀ j (h : j < ls.length), domB ls[j] = true) : DC Try.prog 112 [domsD ls] (bD (alikeB ls (cnt ls[0]))) := by
  have C0 := dCount_ok (hall 0 h0)
  generalize hn : cnt ls[0] = n at *
  unfold alikeB
  rcases first_bad (fun d => decide (cnt d = n)) ls with hs | ⟨q, hq, hb, hmin⟩
  · rw [all_yes hs]
    refine DC.of Try.func112 Try.ntmps112 Try.results112 rfl (by decide +kernel) rfl ?_
    repeat (first | refine Z1 ?_ | refine Z2 ?_ | (refine Z3 ?_; (repeat (first | (apply gS; first | refine go_f ?_ | refine gx ?_ | refine gm ?_ | refine gp ?_ | refine go_c rfl rfl (C0) ?_ | refine go_cF rfl rfl (C0) ?_ | refine go_cA rfl rfl (C0) ?_) | (apply gZ; first | refine go_f ?_ | refine gx ?_ | refine gm ?_))); refine T_nil ?_) | (apply ZK; first | refine Z4 ?_ | refine Z5 ?_) | refine Z6 ?_ | refine Z7 ?_ | refine Z8 ?_ | refine Z9 ?_ | refine ZA ?_ | refine ZB ?_ | refine ZC ?_ | refine ZD ?_ | refine ZE ?_ | refine ZF ?_ | refine ZG ?_ | refine ZH ?_)
    refine C_count ls.length (fun _ => True) (fun k => ⟨0, 31, [(18, iD k), (17, iD ls.length), (16, domsD ls), (3, iD n)], []⟩) ?_ trivial ?_
    · exact Wk.gx (fun b => b)
    · intro k hk _
      by_cases hlt : k < ls.length
      · have V := dCount_ok (hall k hlt)
        have e := of_decide_eq_true (hs k hlt)
        rw [e] at V
        repeat (first | refine Z1 ?_ | refine Z2 ?_ | (refine Z3 ?_; (repeat (first | (apply gS; first | refine go_f ?_ | refine gx ?_ | refine gm ?_ | refine gp ?_ | refine go_c rfl rfl (V) ?_ | refine go_cF rfl rfl (V) ?_ | refine go_cA rfl rfl (V) ?_) | (apply gZ; first | refine go_f ?_ | refine gx ?_ | refine gm ?_))); refine T_nil ?_) | (apply ZK; first | refine Z4 ?_ | refine Z5 ?_) | refine Z6 ?_ | refine Z7 ?_ | refine Z8 ?_ | refine Z9 ?_ | refine ZA ?_ | refine ZB ?_ | refine ZC ?_ | refine ZD ?_ | refine ZE ?_ | refine ZF ?_ | refine ZG ?_ | refine ZH ?_)
        refine kLoop_n ⟨hlt, trivial, ?_⟩
        exact Wk.gx (fun b => b)
      · repeat (first | refine Z1 ?_ | refine Z2 ?_ | (refine Z3 ?_; (repeat (first | (apply gS; first | refine go_f ?_ | refine gx ?_ | refine gm ?_ | refine gp ?_) | (apply gZ; first | refine go_f ?_ | refine gx ?_ | refine gm ?_))); refine T_nil ?_) | (apply ZK; first | refine Z4 ?_ | refine Z5 ?_) | refine Z6 ?_ | refine Z7 ?_ | refine Z8 ?_ | refine Z9 ?_ | refine ZA ?_ | refine ZB ?_ | refine ZC ?_ | refine ZD ?_ | refine ZE ?_ | refine ZF ?_ | refine ZG ?_ | refine ZH ?_)
        repeat (first | refine kEnd_m ?_ | refine kEnd_f ?_)
        refine kEnd_g ?_ (by first | exact .inl rfl | exact .inr rfl)
        exact Sub.eq rfl rfl
  · rw [all_no (p := fun d => decide (cnt d = n)) hq hb]
    refine DC.of Try.func112 Try.ntmps112 Try.results112 rfl (by decide +kernel) rfl ?_
    repeat (first | refine Z1 ?_ | refine Z2 ?_ | (refine Z3 ?_; (repeat (first | (apply gS; first | refine go_f ?_ | refine gx ?_ | refine gm ?_ | refine gp ?_ | refine go_c rfl rfl (C0) ?_ | refine go_cF rfl rfl (C0) ?_ | refine go_cA rfl rfl (C0) ?_) | (apply gZ; first | refine go_f ?_ | refine gx ?_ | refine gm ?_))); refine T_nil ?_) | (apply ZK; first | refine Z4 ?_ | refine Z5 ?_) | refine Z6 ?_ | refine Z7 ?_ | refine Z8 ?_ | refine Z9 ?_ | refine ZA ?_ | refine ZB ?_ | refine ZC ?_ | refine ZD ?_ | refine ZE ?_ | refine ZF ?_ | refine ZG ?_ | refine ZH ?_)
    refine C_count q (fun _ => True) (fun k => ⟨0, 31, [(18, iD k), (17, iD ls.length), (16, domsD ls), (3, iD n)], []⟩) ?_ trivial ?_
    · exact Wk.gx (fun b => b)
    · intro k hk _
      have hkl : k < ls.length := by omega
      by_cases hlt : k < q
      · have V := dCount_ok (hall k hkl)
        have e := of_decide_eq_true (hmin k hkl hlt)
        rw [e] at V
        repeat (first | refine Z1 ?_ | refine Z2 ?_ | (refine Z3 ?_; (repeat (first | (apply gS; first | refine go_f ?_ | refine gx ?_ | refine gm ?_ | refine gp ?_ | refine go_c rfl rfl (V) ?_ | refine go_cF rfl rfl (V) ?_ | refine go_cA rfl rfl (V) ?_) | (apply gZ; first | refine go_f ?_ | refine gx ?_ | refine gm ?_))); refine T_nil ?_) | (apply ZK; first | refine Z4 ?_ | refine Z5 ?_) | refine Z6 ?_ | refine Z7 ?_ | refine Z8 ?_ | refine Z9 ?_ | refine ZA ?_ | refine ZB ?_ | refine ZC ?_ | refine ZD ?_ | refine ZE ?_ | refine ZF ?_ | refine ZG ?_ | refine ZH ?_)
        refine kLoop_n ⟨hlt, trivial, ?_⟩
        exact Wk.gx (fun b => b)
      · obtain rfl : k = q := by omega
        have V := dCount_ok (hall k hkl)
        have e := of_decide_eq_false hb
        repeat (first | refine Z1 ?_ | refine Z2 ?_ | (refine Z3 ?_; (repeat (first | (apply gS; first | refine go_f ?_ | refine gx ?_ | refine gm ?_ | refine gp ?_ | refine go_c rfl rfl (V) ?_ | refine go_cF rfl rfl (V) ?_ | refine go_cA rfl rfl (V) ?_) | (apply gZ; first | refine go_f ?_ | refine gx ?_ | refine gm ?_))); refine T_nil ?_) | (apply ZK; first | refine Z4 ?_ | refine Z5 ?_) | refine Z6 ?_ | refine Z7 ?_ | refine Z8 ?_ | refine Z9 ?_ | refine ZA ?_ | refine ZB ?_ | refine ZC ?_ | refine ZD ?_ | refine ZE ?_ | refine ZF ?_ | refine ZG ?_ | refine ZH ?_)
        repeat (first | refine kEnd_m ?_ | refine kEnd_f ?_)
        refine kEnd_g ?_ (by first | exact .inl rfl | exact .inr rfl)
        exact Sub.eq rfl rfl
theorem dIth_ok {d : List Rg} (h : domB d = true) {i : Nat} (hi : i < cnt d) : DC Try.prog 27 [domD d, iD i] (.tup [rowI (ithX d i), iD 0]) := by
  have H := dIth_d d i
  rwa [show dIthRes d i = (ithX d i, 0) by rw [dIthRes, if_pos h, if_pos ⟨by omega, by have : i < prodN (cl d) := hi; omega⟩, Int.toNat_natCast]] at H
def zipL (ls : List (List Rg)) (n : Nat) : List (List (List Int)) := (List.range n).map fun i => ls.map fun d => ithX d i
def zipRes (ls : List (List Rg)) : List (List (List Int)) × Int := if ls.all domB = true then (match ls with
  | [] => ([], 2)
  | d :: _ => if alikeB ls (cnt d) = true then (zipL ls (cnt d), 0) else ([], 80)) else ([], 40)
theorem zipL_snoc (ls : List (List Rg)) (k : Nat) : (zipL ls (k + 1)).map rowL2 = (zipL ls k).map rowL2 ++ [rowL2 (ls.map fun d => ithX d k)] := by simp [zipL, List.range_succ]
theorem zipL_len (ls : List (List Rg)) (k : Nat) : (zipL ls k).length = k := by simp [zipL]
theorem ith_snoc {ls : List (List Rg)} {j : Nat} (h : j < ls.length) (k : Nat) : ((ls.take (j + 1)).map fun d => ithX d k).map rowI = ((ls.take j).map fun d => ithX d k).map rowI ++ [rowI (ithX ls[j] k)] := by
  rw [List.take_succ_eq_append_getElem h, List.map_append, List.map_append]; rfl
theorem zip_d (ls : List (List Rg)) (hl : ls.length ≤ 1000000) : DC Try.prog 35 [domsD ls] (.tup [rowL3 (zipRes ls).1, iD (zipRes ls).2]) := by
  have A := asked_d ls (by omega)
  unfold askedR at A
  unfold zipRes
  cases hv : ls.all domB with
  | false =>
    rw [hv] at A
    refine DC.of Try.func35 Try.ntmps35 Try.results35 rfl (by decide +kernel) rfl ?_
    repeat (first | refine Z1 ?_ | refine Z2 ?_ | (refine Z3 ?_; (repeat (first | (apply gS; first | refine go_f ?_ | refine gx ?_ | refine gm ?_ | refine gp ?_ | refine go_c rfl rfl (A) ?_ | refine go_cF rfl rfl (A) ?_ | refine go_cA rfl rfl (A) ?_) | (apply gZ; first | refine go_f ?_ | refine gx ?_ | refine gm ?_))); refine T_nil ?_) | (apply ZK; first | refine Z4 ?_ | refine Z5 ?_) | refine Z6 ?_ | refine Z7 ?_ | refine Z8 ?_ | refine Z9 ?_ | refine ZA ?_ | refine ZB ?_ | refine ZC ?_ | refine ZD ?_ | refine ZE ?_ | refine ZF ?_ | refine ZG ?_ | refine ZH ?_)
    repeat (first | refine kEnd_m ?_ | refine kEnd_f ?_)
    refine kEnd_g ?_ (by first | exact .inl rfl | exact .inr rfl)
    exact Sub.tup (.cons Sub.nil (.cons (Sub.eq rfl rfl) .nil))
  | true =>
  rw [hv] at A
  rw [if_pos rfl] at A ⊢
  have hall : ∀ j (h : j < ls.length), domB ls[j] = true := fun j h => List.all_eq_true.1 hv _ (List.getElem_mem h)
  cases ls with
  | nil =>
    refine DC.of Try.func35 Try.ntmps35 Try.results35 rfl (by decide +kernel) rfl ?_
    repeat (first | refine Z1 ?_ | refine Z2 ?_ | (refine Z3 ?_; (repeat (first | (apply gS; first | refine go_f ?_ | refine gx ?_ | refine gm ?_ | refine gp ?_ | refine go_c rfl rfl (A) ?_ | refine go_cF rfl rfl (A) ?_ | refine go_cA rfl rfl (A) ?_) | (apply gZ; first | refine go_f ?_ | refine gx ?_ | refine gm ?_))); refine T_nil ?_) | (apply ZK; first | refine Z4 ?_ | refine Z5 ?_) | refine Z6 ?_ | refine Z7 ?_ | refine Z8 ?_ | refine Z9 ?_ | refine ZA ?_ | refine ZB ?_ | refine ZC ?_ | refine ZD ?_ | refine ZE ?_ | refine ZF ?_ | refine ZG ?_ | refine ZH ?_)
    repeat (first | refine kEnd_m ?_ | refine kEnd_f ?_)
    refine kEnd_g ?_ (by first | exact .inl rfl | exact .inr rfl)
    exact Sub.tup (.cons Sub.nil (.cons (Sub.eq rfl rfl) .nil))
  | cons d0 l0 =>
  rw [if_neg (by simp)] at A
  have L := alike_d (d0 :: l0) (by omega) (by simp) hall
  have C0 := dCount_ok (hall 0 (by simp))
  have h0 : 0 < (d0 :: l0).length := by simp
  rw [List.getElem_cons_zero] at L C0
  dsimp only
  have e0 : (d0 :: l0)[0]'h0 = d0 := rfl
  have hcap : cnt d0 ≤ 4096 := (domB_iff.1 (hall 0 (by simp))).2.2
  generalize hn : cnt d0 = n at *
  generalize hls : d0 :: l0 = ls at *
  clear hls
  cases hs : alikeB ls n with
  | false =>
    rw [hs] at L
    refine DC.of Try.func35 Try.ntmps35 Try.results35 rfl (by decide +kernel) rfl ?_
    repeat (first | refine Z1 ?_ | refine Z2 ?_ | (refine Z3 ?_; (repeat (first | (apply gS; first | refine go_f ?_ | refine gx ?_ | refine gm ?_ | refine gp ?_ | refine go_c rfl rfl (A) ?_ | refine go_cF rfl rfl (A) ?_ | refine go_cA rfl rfl (A) ?_ | refine go_c rfl rfl (L) ?_ | refine go_cF rfl rfl (L) ?_ | refine go_cA rfl rfl (L) ?_) | (apply gZ; first | refine go_f ?_ | refine gx ?_ | refine gm ?_))); refine T_nil ?_) | (apply ZK; first | refine Z4 ?_ | refine Z5 ?_) | refine Z6 ?_ | refine Z7 ?_ | refine Z8 ?_ | refine Z9 ?_ | refine ZA ?_ | refine ZB ?_ | refine ZC ?_ | refine ZD ?_ | refine ZE ?_ | refine ZF ?_ | refine ZG ?_ | refine ZH ?_)
    repeat (first | refine kEnd_m ?_ | refine kEnd_f ?_)
    refine kEnd_g ?_ (by first | exact .inl rfl | exact .inr rfl)
    exact Sub.tup (.cons Sub.nil (.cons (Sub.eq rfl rfl) .nil))
  | true =>
    rw [hs] at L
    rw [if_pos rfl]
    have hsm : ∀ j (h : j < ls.length), cnt ls[j] = n := fun j h => by
      have := List.all_eq_true.1 hs _ (List.getElem_mem h)
      exact of_decide_eq_true this
    subst e0
    refine DC.of Try.func35 Try.ntmps35 Try.results35 rfl (by decide +kernel) rfl ?_
    repeat (first | refine Z1 ?_ | refine Z2 ?_ | (refine Z3 ?_; (repeat (first | (apply gS; first | refine go_f ?_ | refine gx ?_ | refine gm ?_ | refine gp ?_ | refine go_c rfl rfl (A) ?_ | refine go_cF rfl rfl (A) ?_ | refine go_cA rfl rfl (A) ?_ | refine go_c rfl rfl (L) ?_ | refine go_cF rfl rfl (L) ?_ | refine go_cA rfl rfl (L) ?_ | refine go_c rfl rfl (C0) ?_ | refine go_cF rfl rfl (C0) ?_ | refine go_cA rfl rfl (C0) ?_) | (apply gZ; first | refine go_f ?_ | refine gx ?_ | refine gm ?_))); refine T_nil ?_) | (apply ZK; first | refine Z4 ?_ | refine Z5 ?_) | refine Z6 ?_ | refine Z7 ?_ | refine Z8 ?_ | refine Z9 ?_ | refine ZA ?_ | refine ZB ?_ | refine ZC ?_ | refine ZD ?_ | refine ZE ?_ | refine ZF ?_ | refine ZG ?_ | refine ZH ?_)
    refine C_count n (fun _ => True) (fun k => ⟨1, 56, [(30, iD k), (29, iD n), (7, .own 0 k), (0, domsD ls)], [(0, some ⟨28, 1, k, (zipL ls k).map rowL2⟩)]⟩) ?_ trivial ?_
    · refine Wk.trans (Wk.adoptT 7 28 1 rfl) ?_
      exact Wk.gx (fun b => b)
    · intro k hk _
      by_cases hlt : k < n
      · have en := zipL_snoc ls k
        repeat (first | refine Z1 ?_ | refine Z2 ?_ | (refine Z3 ?_; (repeat (first | (apply gS; first | refine go_f ?_ | refine gx ?_ | refine gm ?_ | refine gp ?_) | (apply gZ; first | refine go_f ?_ | refine gx ?_ | refine gm ?_))); refine T_nil ?_) | (apply ZK; first | refine Z4 ?_ | refine Z5 ?_) | refine Z6 ?_ | refine Z7 ?_ | refine Z8 ?_ | refine Z9 ?_ | refine ZA ?_ | refine ZB ?_ | refine ZC ?_ | refine ZD ?_ | refine ZE ?_ | refine ZF ?_ | refine ZG ?_ | refine ZH ?_)
        refine C_count ls.length (fun _ => True) (fun j => ⟨2, 56, [(35, iD j), (34, iD ls.length), (33, domsD ls), (9, .own 1 j), (8, iD k), (30, iD k), (29, iD n), (7, .own 0 k), (0, domsD ls)], [(0, some ⟨28, 1, k, (zipL ls k).map rowL2⟩), (1, some ⟨25, 1, j, ((ls.take j).map fun d => ithX d k).map rowI⟩)]⟩) ?_ trivial ?_
        · refine Wk.trans (Wk.adoptT 9 25 1 rfl) ?_
          exact Wk.gx (fun b => b)
        · intro j hj _
          by_cases hjl : j < ls.length
          · have I := dIth_ok (hall j hjl) (i := k) (by rw [hsm j hjl]; exact hlt)
            have ej := ith_snoc hjl k
            repeat (first | refine Z1 ?_ | refine Z2 ?_ | (refine Z3 ?_; (repeat (first | (apply gS; first | refine go_f ?_ | refine gx ?_ | refine gm ?_ | refine gp ?_ | refine go_c rfl rfl (I) ?_ | refine go_cF rfl rfl (I) ?_ | refine go_cA rfl rfl (I) ?_) | (apply gZ; first | refine go_f ?_ | refine gx ?_ | refine gm ?_))); refine T_nil ?_) | (apply ZK; first | refine Z4 ?_ | refine Z5 ?_) | refine Z6 ?_ | refine Z7 ?_ | refine Z8 ?_ | refine Z9 ?_ | refine ZA ?_ | refine ZB ?_ | refine ZC ?_ | refine ZD ?_ | refine ZE ?_ | refine ZF ?_ | refine ZG ?_ | refine ZH ?_)
            refine kLoop_n ⟨hjl, trivial, ?_⟩
            exact Wk.gx (fun b => cond (Nat.beq b 1) 3 (b))
          · obtain rfl : j = ls.length := by omega
            rw [List.take_length]
            have er : rowL2 (ls.map fun d => ithX d k) = .row ls.length ((ls.map fun d => ithX d k).map rowI) := by
              show D.row _ _ = _
              rw [List.length_map]
            rw [er] at en
            repeat (first | refine Z1 ?_ | refine Z2 ?_ | (refine Z3 ?_; (repeat (first | (apply gS; first | refine go_f ?_ | refine gx ?_ | refine gm ?_ | refine gp ?_) | (apply gZ; first | refine go_f ?_ | refine gx ?_ | refine gm ?_))); refine T_nil ?_) | (apply ZK; first | refine Z4 ?_ | refine Z5 ?_) | refine Z6 ?_ | refine Z7 ?_ | refine Z8 ?_ | refine Z9 ?_ | refine ZA ?_ | refine ZB ?_ | refine ZC ?_ | refine ZD ?_ | refine ZE ?_ | refine ZF ?_ | refine ZG ?_ | refine ZH ?_)
            refine kLoop_n ⟨hlt, trivial, ?_⟩
            exact Wk.gx (fun b => cond (Nat.beq b 0) 2 (b))
      · obtain rfl : k = n := by omega
        repeat (first | refine Z1 ?_ | refine Z2 ?_ | (refine Z3 ?_; (repeat (first | (apply gS; first | refine go_f ?_ | refine gx ?_ | refine gm ?_ | refine gp ?_) | (apply gZ; first | refine go_f ?_ | refine gx ?_ | refine gm ?_))); refine T_nil ?_) | (apply ZK; first | refine Z4 ?_ | refine Z5 ?_) | refine Z6 ?_ | refine Z7 ?_ | refine Z8 ?_ | refine Z9 ?_ | refine ZA ?_ | refine ZB ?_ | refine ZC ?_ | refine ZD ?_ | refine ZE ?_ | refine ZF ?_ | refine ZG ?_ | refine ZH ?_)
        repeat (first | refine kEnd_m ?_ | refine kEnd_f ?_)
        refine kEnd_g ?_ (by first | exact .inl rfl | exact .inr rfl)
        exact Sub.tup (.cons (Sub.eq (by show D.row k _ = D.row (zipL ls k).length _; rw [zipL_len]) rfl) (.cons (Sub.eq rfl rfl) .nil))
end Go.Proofs.Ytifapodobhkdcaa
namespace Go.Proofs.Ytifapodobhkdcaa
open Go.RowKit Go.Shelf
set_option linter.unusedVariables false
set_option maxHeartbeats 16000000
set_option linter.unusedSimpArgs false
set_option maxRecDepth 100000
section
variable {P : Program} {t : TypeId}
theorem lay_a {d : TypeDesc} (h : P.underlying t = some d) (hd : aggDesc d = false) (w : World) : (isAgg t).run P w = .ok false w := by
  unfold isAgg
  rw [Sem.run_bind, run_underlying h w]
  cases d <;> simp_all [aggDesc]
theorem lay_z (h : (P.info? t).map (·.size) = some 1) (w : World) : (Go.sizeOf t).run P w = .ok 1 w := run_sizeOf' h
theorem lay_v {z : Value} (h : (P.info? t).map (·.zero) = some (some z)) (w : World) : (zeroValue t).run P w = .ok z w := by
  cases hi : P.info? t with
  | none => rw [hi] at h; cases h
  | some i =>
    rw [hi] at h
    simp only [Option.map_some, Option.some.injEq] at h
    simp [zeroValue, typeInfo, hi, h]
end
def rnG : Go.Shelf.Ren := ⟨fun | 4 => 168 | n => n, fun | 0 => 0 | 3 => 3 | 4 => 4 | 9 => 9 | 20 => 20 | 22 => 22 | 25 => 39 | n => n, fun n => n⟩
theorem layG : Lays8.n4 Try.prog rnG :=
  { mixed := mixed, f4 := ⟨(Try.f168).name, by kernel_rfl, by kernel_rfl⟩,
    t0 := by kernel_rfl, a0 := lay_a (d := .tuple #[]) (by kernel_rfl) rfl, z0 := lay_z (by kernel_rfl), v0 := lay_v (by kernel_rfl),
    t3 := by kernel_rfl, a3 := lay_a (d := .int .i64) (by kernel_rfl) rfl, z3 := lay_z (by kernel_rfl), v3 := lay_v (by kernel_rfl),
    t4 := by kernel_rfl, a4 := lay_a (d := .bool) (by kernel_rfl) rfl, z4 := lay_z (by kernel_rfl), v4 := lay_v (by kernel_rfl),
    t9 := by kernel_rfl, a9 := lay_a (d := .string) (by kernel_rfl) rfl, z9 := lay_z (by kernel_rfl), v9 := lay_v (by kernel_rfl),
    t20 := by kernel_rfl, a20 := lay_a (d := .interface #[]) (by kernel_rfl) rfl, z20 := lay_z (by kernel_rfl), v20 := lay_v (by kernel_rfl),
    t22 := by kernel_rfl, a22 := lay_a (d := .slice 39) (by kernel_rfl) rfl, z22 := lay_z (by kernel_rfl), v22 := lay_v (by kernel_rfl) }
theorem zeroCells_size (z : Array Value) (n : Nat) : (Builtin.zeroCells z n).size = n * z.size := size_zeroCells z n
theorem owns_made {base : Nat} {w : World} {e : TypeId} {size : Nat} {cs : Array Value} {cap : Nat} (hb : base ≤ w.heap.size) (hm : cap ≤ maxLen) (hs : cs.size = cap * size) : (w.alloc (.cells cs e)).ownsRow base e size (.slice (some ⟨w.heap.size, 0, none⟩) 0 cap) 0 [] := by
  refine ⟨by simp, .inr ⟨w.heap.size, cap, cs, rfl, hb, ?_, Nat.zero_le _, hm, hs, by simp⟩⟩
  exact Array.getElem?_push_size
/-- Grow of the nil slice: an empty row, new -/
theorem sGrow_d (n : Nat) (hn : n ≤ 1000000) : DF Try.prog 168 [.val (.slice none 0 0), iD n] 39 3 0 [] := by
  refine ⟨⟨Try.f168, by kernel_rfl, by kernel_rfl, by kernel_rfl⟩, fun w I vs hI hl hv => ?_⟩
  obtain ⟨v1, v2, rfl⟩ : ∃ v1 v2, vs = [v1, v2] := by
    match vs, hl with
    | [v1, v2], _ => exact ⟨v1, v2, rfl⟩
  have h1 := hv 0 _ _ rfl rfl
  have h2 := hv 1 _ _ rfl rfl
  cases h1
  cases h2
  by_cases h0 : n = 0
  · subst h0
    refine (Any8.slices_Grow_room layG none 0 0 0 w (Nat.le_refl _) (by omega) (by omega) (by omega)).mono ?_
    rintro e' w' ⟨rfl, rfl⟩
    exact ⟨none, [], I, rfl, Ext.refl I _, World.ownsRow_nil _ _ _ _, ⟨rfl, fun u hu => by simp at hu, fun j d u hj => by simp at hj⟩, fun g c h => by cases h⟩
  · obtain ⟨i0, z, hi, hz, hs, hb, hzs⟩ := (inferInstance : TySlice Try.prog 22 39 3 24).info
    refine (Any8.slices_Grow_grow layG i0 z hi hz (by rw [hs]; decide) none 0 0 n [] w (Nat.le_refl _) (by omega) (by rw [hb]; omega) (by omega) (by simp) (fun _ => rfl) (fun a h => by cases h)).mono ?_
    rintro e' w' ⟨rfl, rfl⟩
    have hle : n ≤ grownCap w (0 + n) 0 39 := by have := grownCap_ge w (0 + n) 0 39; omega
    refine ⟨some (w.heap.size, _), [], I, rfl, Ext.same ?_, owns_made (w := w.drew) (Nat.le_refl _) (grownCap_le_maxLen w _ _ _ (by unfold maxLen; omega)) ?_, ⟨rfl, fun u hu => by simp at hu, fun j d u hj => by simp at hj⟩, fun g c h hI' => ?_⟩
    · exact ((Later.refl w).drew).alloc _
    · rw [Array.size_append, Array.size_append, zeroCells_size, zeroCells_size, hzs]
      show 0 + (0 + n - 0) * 3 + (grownCap w (0 + n) 0 39 - (0 + n)) * 3 = _
      show 0 + (0 + n - 0) * 3 + (grownCap w (0 + n) 0 39 - (0 + n)) * 3 = grownCap w (0 + n) 0 39 * 3
      omega
    · cases h
      have := hI _ hI'
      omega
theorem flat_take {ls : List (List Rg)} {k : Nat} (h : k < ls.length) : (ls.take (k + 1)).flatten = (ls.take k).flatten ++ ls[k] := by
  rw [List.take_succ_eq_append_getElem h, List.flatten_append, List.flatten_cons, List.flatten_nil, List.append_nil]
theorem flat_take_le (ls : List (List Rg)) (k : Nat) : (ls.take k).flatten.length ≤ ls.flatten.length := by
  have e : ls.flatten = (ls.take k).flatten ++ (ls.drop k).flatten := by rw [← List.flatten_append, List.take_append_drop]
  rw [e, List.length_append]; omega
theorem rC_len (l : List Rg) : (l.flatMap rC).length = l.length * 3 := flat_len (m := 3) (fun _ => rfl) l
theorem sConcat_d (ls : List (List Rg)) (h1 : ls.length ≤ 1000) (h2 : ls.flatten.length ≤ 1000) : DF Try.prog 115 [domsD ls] 39 3 ls.flatten.length (ls.flatten.flatMap rC) := by
  refine DF.of Try.func115 Try.ntmps115 Try.results115 rfl (by decide +kernel) rfl ?_
  repeat (first | refine Z1 ?_ | refine Z2 ?_ | (refine Z3 ?_; (repeat (first | (apply gS; first | refine go_f ?_ | refine gx ?_ | refine gm ?_ | refine gp ?_) | (apply gZ; first | refine go_f ?_ | refine gx ?_ | refine gm ?_))); refine T_nil ?_) | (apply ZK; first | refine Z4 ?_ | refine Z5 ?_) | refine Z6 ?_ | refine Z7 ?_ | refine Z8 ?_ | refine Z9 ?_ | refine ZA ?_ | refine ZB ?_ | refine ZC ?_ | refine ZD ?_ | refine ZE ?_ | refine ZF ?_ | refine ZG ?_ | refine ZH ?_)
  refine C_count ls.length (fun _ => True) (fun k => ⟨0, 36, [(11, iD k), (10, iD ls.length), (9, domsD ls), (3, iD (ls.take k).flatten.length), (0, domsD ls)], []⟩) ?_ trivial ?_
  · exact Wk.gx (fun b => b)
  · intro k hk _
    have q1 := flat_take_le ls k
    by_cases hlt : k < ls.length
    · have q2 := flat_take_le ls (k + 1)
      have q3 := flat_take hlt
      have q4 : (ls.take (k + 1)).flatten.length = (ls.take k).flatten.length + ls[k].length := by rw [q3, List.length_append]
      repeat (first | refine Z1 ?_ | refine Z2 ?_ | (refine Z3 ?_; (repeat (first | (apply gS; first | refine go_f ?_ | refine gx ?_ | refine gm ?_ | refine gp ?_) | (apply gZ; first | refine go_f ?_ | refine gx ?_ | refine gm ?_))); refine T_nil ?_) | (apply ZK; first | refine Z4 ?_ | refine Z5 ?_) | refine Z6 ?_ | refine Z7 ?_ | refine Z8 ?_ | refine Z9 ?_ | refine ZA ?_ | refine ZB ?_ | refine ZC ?_ | refine ZD ?_ | refine ZE ?_ | refine ZF ?_ | refine ZG ?_ | refine ZH ?_)
      refine kLoop_n ⟨hlt, trivial, ?_⟩
      exact Wk.gx (fun b => b)
    · obtain rfl : k = ls.length := by omega
      rw [List.take_length] at q1 ⊢
      have G := sGrow_d ls.flatten.length (by omega)
      repeat (first | refine Z1 ?_ | refine Z2 ?_ | (refine Z3 ?_; (repeat (first | (apply gS; first | refine go_f ?_ | refine gx ?_ | refine gm ?_ | refine gp ?_ | refine go_c rfl rfl (G) ?_ | refine go_cF rfl rfl (G) ?_ | refine go_cA rfl rfl (G) ?_) | (apply gZ; first | refine go_f ?_ | refine gx ?_ | refine gm ?_))); refine T_nil ?_) | (apply ZK; first | refine Z4 ?_ | refine Z5 ?_) | refine Z6 ?_ | refine Z7 ?_ | refine Z8 ?_ | refine Z9 ?_ | refine ZA ?_ | refine ZB ?_ | refine ZC ?_ | refine ZD ?_ | refine ZE ?_ | refine ZF ?_ | refine ZG ?_ | refine ZH ?_)
      refine C_count ls.length (fun _ => True) (fun k => ⟨1, 36, [(27, iD k), (26, iD ls.length), (25, domsD ls), (6, .own 0 (ls.take k).flatten.length)], [(0, some ⟨39, 3, (ls.take k).flatten.length, (ls.take k).flatten.flatMap rC⟩)]⟩) ?_ trivial ?_
      · exact Wk.gx (fun b => b)
      · intro k hk _
        have q1 := flat_take_le ls k
        by_cases hlt : k < ls.length
        · have q2 := flat_take_le ls (k + 1)
          have q3 := flat_take hlt
          have q4 : (ls.take (k + 1)).flatten.length = (ls.take k).flatten.length + ls[k].length := by rw [q3, List.length_append]
          have q5 := rC_len ls[k]
          have q6 : (ls.take (k + 1)).flatten.flatMap rC = (ls.take k).flatten.flatMap rC ++ ls[k].flatMap rC := by rw [q3, List.flatMap_append]
          clear q3
          repeat (first | refine Z1 ?_ | refine Z2 ?_ | (refine Z3 ?_; (repeat (first | (apply gS; first | refine go_f ?_ | refine gx ?_ | refine gm ?_ | refine gp ?_) | (apply gZ; first | refine go_f ?_ | refine gx ?_ | refine gm ?_))); refine T_nil ?_) | (apply ZK; first | refine Z4 ?_ | refine Z5 ?_) | refine Z6 ?_ | refine Z7 ?_ | refine Z8 ?_ | refine Z9 ?_ | refine ZA ?_ | refine ZB ?_ | refine ZC ?_ | refine ZD ?_ | refine ZE ?_ | refine ZF ?_ | refine ZG ?_ | refine ZH ?_)
          refine kLoop_n ⟨hlt, trivial, ?_⟩
          exact Wk.gx (fun b => cond (Nat.beq b 0) 1 (b))
        · obtain rfl : k = ls.length := by omega
          rw [List.take_length] at q1 ⊢
          repeat (first | refine Z1 ?_ | refine Z2 ?_ | (refine Z3 ?_; (repeat (first | (apply gS; first | refine go_f ?_ | refine gx ?_ | refine gm ?_ | refine gp ?_) | (apply gZ; first | refine go_f ?_ | refine gx ?_ | refine gm ?_))); refine T_nil ?_) | (apply ZK; first | refine Z4 ?_ | refine Z5 ?_) | refine Z6 ?_ | refine Z7 ?_ | refine Z8 ?_ | refine Z9 ?_ | refine ZA ?_ | refine ZB ?_ | refine ZC ?_ | refine ZD ?_ | refine ZE ?_ | refine ZF ?_ | refine ZG ?_ | refine ZH ?_)
          first | refine kEndF_r (Wk.refl _) rfl rfl (by repeat (first | rfl | exact idsL_map (fun _ => rfl) _ | exact idsL_flat (fun _ => rfl) _ | refine idsL_append ?_ ?_)) | refine kEndF_n (Wk.refl _) rfl rfl (by repeat (first | rfl | exact idsL_map (fun _ => rfl) _ | exact idsL_flat (fun _ => rfl) _ | refine idsL_append ?_ ?_))
/-! ### Reverse -/
section
open Go.Sort
theorem put_owns {α : Type} [Inhabited α] {base : Nat} {w : World} {e : TypeId} {size n g cap : Nat} {us : List Value} (enc : α → Value) (d : Array α) (m : Nat) (h : w.ownsRow base e size (sv (some (g, cap)) n) n us) (hd : d.size = us.length) :
    (putRow enc (Sort.ahead w m) g 0 d).ownsRow base e size (sv (some (g, cap)) n) n (d.toList.map enc) ∧ w.grownBy (putRow enc (Sort.ahead w m) g 0 d) (some g) := by
  have hg := (h.lt g rfl).2
  refine ⟨⟨by rw [List.length_map, Array.length_toList, hd]; exact h.1, ?_⟩, ⟨rfl, rfl, rfl, ?_, fun k hk hne => ?_⟩⟩
  · rcases h.2 with ⟨h', _⟩ | ⟨g', cap', cur, h', hbg, hcell, hnc, hcm, hcs, htake⟩
    · simp [sv] at h'
    · simp only [sv, Value.slice.injEq, Option.some.injEq, Addr.mk.injEq, and_true, true_and] at h'
      obtain ⟨rfl, rfl⟩ := h'
      refine .inr ⟨g, cap, putCells enc 0 d cur, rfl, hbg, ?_, hnc, hcm, by simp [putCells, hcs], ?_⟩
      · show (w.heap.modify g (onCells (putCells enc 0 d)))[g]? = _
        rw [Array.getElem?_modify, if_pos rfl, hcell]
        rfl
      · have hl : us.length = n * size := h.1
        have hle : n * size ≤ cur.size := by rw [hcs]; exact Nat.mul_le_mul_right _ hnc
        refine List.ext_getElem? fun j => ?_
        by_cases hj : j < n * size
        · rw [List.getElem?_take, if_pos hj]
          have hjd : j < d.size := by omega
          simp [putCells, show j < cur.size by omega, hjd]
        · rw [List.getElem?_take, if_neg hj, List.getElem?_eq_none (by rw [List.length_map, Array.length_toList]; omega)]
  · show w.heap.size ≤ (w.heap.modify g _).size
    rw [Array.size_modify]; exact Nat.le_refl _
  · show (w.heap.modify g _)[k]? = _
    rw [Array.getElem?_modify, if_neg (fun e => hne (by rw [e]))]
theorem owns_holds {base : Nat} {w : World} {e : TypeId} {size n g cap : Nat} {us : List Value} (h : w.ownsRow base e size (sv (some (g, cap)) n) n us) {α : Type} [Inhabited α] (enc : α → Value) (d : Array α) (hd : us = d.toList.map enc) : Holds enc w g 0 d := fun j hj => by
  have h1 := ownsRow_lies h j (enc d[j]!) (by rw [hd]; simp [hj])
  rw [Nat.zero_add] at h1
  refine ⟨by rw [Nat.zero_add]; exact h1, ?_⟩
  have := h.frozenAt j
  rw [Nat.zero_add]; exact this
end
def rnI : Go.Shelf.Ren := ⟨fun | 35 => 176 | n => n, fun | 0 => 0 | 3 => 3 | 4 => 4 | 22 => 25 | 23 => 3 | n => n, fun n => n⟩
theorem layI : SlLaysN.n35 Try.prog rnI :=
  { mixed := mixed, f35 := ⟨(Try.f176).name, by kernel_rfl, by kernel_rfl⟩,
    t0 := by kernel_rfl, a0 := lay_a (d := .tuple #[]) (by kernel_rfl) rfl, z0 := lay_z (by kernel_rfl), v0 := lay_v (by kernel_rfl),
    t3 := by kernel_rfl, a3 := lay_a (d := .int .i64) (by kernel_rfl) rfl, z3 := lay_z (by kernel_rfl), v3 := lay_v (by kernel_rfl),
    t4 := by kernel_rfl, a4 := lay_a (d := .bool) (by kernel_rfl) rfl, z4 := lay_z (by kernel_rfl), v4 := lay_v (by kernel_rfl),
    t22 := by kernel_rfl, a22 := lay_a (d := .slice 3) (by kernel_rfl) rfl, z22 := lay_z (by kernel_rfl), v22 := lay_v (by kernel_rfl),
    t23 := by kernel_rfl, a23 := lay_a (d := .int .i64) (by kernel_rfl) rfl, z23 := lay_z (by kernel_rfl), v23 := lay_v (by kernel_rfl) }
theorem revI_d (l : List Int) (hl : l.length ≤ 9223372036854775807) : DR Try.prog 176 3 1 l.length (intsD l) (intsD l.reverse) := by
  refine ⟨⟨Try.f176, by kernel_rfl, by kernel_rfl, by kernel_rfl⟩, l.map (Value.int .i64), l.reverse.map (Value.int .i64), by simp [intsD], by simp [intsD], fun v hv => by simp at hv; obtain ⟨_, _, rfl⟩ := hv; rfl, by simp, fun base w pl ho => ?_⟩
  cases pl with
  | none =>
    have h0 : l = [] := by
      rcases ho.2 with ⟨_, h0⟩ | ⟨g', cap', cur, h', _⟩
      · exact List.eq_nil_of_length_eq_zero h0
      · simp [sv] at h'
    subst h0
    refine (AnyG.slices_Reverse_int_empty layI none 0 w).mono ?_
    rintro e' w' ⟨rfl, rfl⟩
    exact ⟨rfl, ho, grown_refl _ _⟩
  | some gc =>
    obtain ⟨g, cap⟩ := gc
    refine (AnyG.slices_Reverse_int layI g 0 cap l w (owns_holds ho (Value.int .i64) l.toArray (by simp)) hl).mono ?_
    rintro e' w' ⟨rfl, m, rfl⟩
    have := put_owns (Value.int .i64) l.reverse.toArray m ho (by simp)
    exact ⟨rfl, by simpa using this.1, this.2⟩
def rnR : Go.Shelf.Ren := ⟨fun | 35 => 119 | n => n, fun | 0 => 0 | 3 => 3 | 4 => 4 | 22 => 22 | 23 => 39 | n => n, fun n => n⟩
theorem layR : SlLaysE0.n35 Try.prog rnR :=
  { mixed := mixed, f35 := ⟨(Try.f119).name, by kernel_rfl, by kernel_rfl⟩,
    t0 := by kernel_rfl, a0 := lay_a (d := .tuple #[]) (by kernel_rfl) rfl, z0 := lay_z (by kernel_rfl), v0 := lay_v (by kernel_rfl),
    t3 := by kernel_rfl, a3 := lay_a (d := .int .i64) (by kernel_rfl) rfl, z3 := lay_z (by kernel_rfl), v3 := lay_v (by kernel_rfl),
    t4 := by kernel_rfl, a4 := lay_a (d := .bool) (by kernel_rfl) rfl, z4 := lay_z (by kernel_rfl), v4 := lay_v (by kernel_rfl),
    t22 := by kernel_rfl, a22 := lay_a (d := .slice 39) (by kernel_rfl) rfl, z22 := lay_z (by kernel_rfl), v22 := lay_v (by kernel_rfl) }
instance : Inhabited Rg := ⟨⟨0, 0, 0⟩⟩
def encR (r : Rg) : List Value := [.int .i64 r.lo, .int .i64 r.hi, .int .i64 r.st]
theorem flatK_list (rs : List Rg) : (Sort.flatK encR 3 rs.toArray).toList = rs.flatMap encR := by
  have h1 : (Sort.flatK encR 3 rs.toArray).toList.length = rs.length * 3 := by rw [Array.length_toList, Sort.size_flatK]; rfl
  refine List.ext_getElem? fun j => ?_
  by_cases hj : j < rs.length * 3
  · have hk : j / 3 < rs.length := Nat.div_lt_of_lt_mul (by omega)
    have e := flat_at (f := encR) (m := 3) (fun _ => rfl) hk (Nat.mod_lt j (by decide))
    rw [show j / 3 * 3 + j % 3 = j by omega] at e
    rw [e]
    have hs : j < (Sort.flatK encR 3 rs.toArray).size := by rw [Sort.size_flatK]; exact hj
    have g := Sort.get_flatK encR 3 rs.toArray j hj
    rw [getElem!_pos _ j hs] at g
    rw [Array.getElem?_toList, Array.getElem?_eq_getElem hs, g]
    have hm : j % 3 < 3 := Nat.mod_lt _ (by decide)
    have e2 : rs.toArray[j / 3]! = rs[j / 3] := by simp [hk]
    rw [e2]
    rw [getElem!_pos (encR rs[j / 3]) (j % 3) hm, List.getElem?_eq_getElem hm]
  · rw [List.getElem?_eq_none (by omega), List.getElem?_eq_none (by rw [flat_len (m := 3) (fun _ => rfl)]; omega)]
theorem rC_vals (rs : List Rg) : rs.flatMap rC = (rs.flatMap encR).map D.val := by
  rw [List.map_flatMap]; rfl
theorem encR_one (r : Rg) : ∀ v ∈ encR r, v.oneCell' = true := fun v hv => by
  simp [encR] at hv
  rcases hv with rfl | rfl | rfl <;> rfl
theorem revR_d (rs : List Rg) (hl : rs.length ≤ 9223372036854775807) : DR Try.prog 119 39 3 rs.length (rs.flatMap rC) (rs.reverse.flatMap rC) := by
  refine ⟨⟨Try.f119, by kernel_rfl, by kernel_rfl, by kernel_rfl⟩, rs.flatMap encR, rs.reverse.flatMap encR, rC_vals _, rC_vals _, fun v hv => ?_, ?_, fun base w pl ho => ?_⟩
  · obtain ⟨r, _, h⟩ := List.mem_flatMap.1 hv
    exact encR_one r v h
  · rw [flat_len (m := 3) (fun _ => rfl), flat_len (m := 3) (fun _ => rfl), List.length_reverse]
  · cases pl with
    | none =>
      have h0 : rs = [] := by
        rcases ho.2 with ⟨_, h0⟩ | ⟨g', cap', cur, h', _⟩
        · exact List.eq_nil_of_length_eq_zero h0
        · simp [sv] at h'
      subst h0
      refine (AnyQ.slices_Reverse_empty layR none 0 w).mono ?_
      rintro e' w' ⟨rfl, rfl⟩
      exact ⟨rfl, ho, grown_refl _ _⟩
    | some gc =>
      obtain ⟨g, cap⟩ := gc
      have hd := (inferInstance : TyAgg Try.prog 39 3)
      obtain ⟨dd, hd1, hd2⟩ := hd.desc
      have aE : ∀ w, (isAgg (rnR.t 23)).run Try.prog w = .ok true w := fun w => by
        unfold isAgg
        rw [Sem.run_bind, show rnR.t 23 = 39 from rfl, run_underlying hd1 w]
        cases dd <;> simp_all [aggDesc]
      have zE : ∀ w, (Go.sizeOf (rnR.t 23)).run Try.prog w = .ok 3 w := fun w => run_sizeOf' hd.size
      refine (AnyQ.slices_Reverse layR 3 aE zE encR (fun _ => rfl) encR_one g 0 cap rs.toArray w (owns_holds ho id _ (by rw [flatK_list]; simp)) (by simpa using hl)).mono ?_
      rintro e' w' ⟨rfl, m, rfl⟩
      have := put_owns id (Sort.flatK encR 3 rs.toArray.reverse) m ho (by rw [Sort.size_flatK, flat_len (m := 3) (fun _ => rfl)]; simp)
      have e : (Sort.flatK encR 3 rs.toArray.reverse).toList.map id = rs.reverse.flatMap encR := by
        rw [List.map_id, show rs.toArray.reverse = rs.reverse.toArray by simp, flatK_list]
      rw [e] at this
      exact ⟨rfl, this.1, this.2⟩
end Go.Proofs.Ytifapodobhkdcaa
