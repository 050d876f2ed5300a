/- asked, alike and Zip of package iter, Serial and At, the law's Awake, by the abstract machine. -/
import Derived.Test.YtifapodobhkdcaaD3
import Derived.Test.YtifapodobhkdcaaFirst
namespace Go.Proofs.Ytifapodobhkdcaa
open Go.RowKit
set_option linter.unusedVariables false
set_option maxHeartbeats 16000000
set_option linter.unusedSimpArgs false
set_option maxRecDepth 100000
abbrev domsD (ls : List (List Rg)) : D := .row ls.length (ls.map rowR)
abbrev rowL3 (l : List (List (List Int))) : D := .row l.length (l.map rowL2)
def askedR (ls : List (List Rg)) : Int := if ls.all domB = true then (if ls.length = 0 then 2 else 0) else 40
theorem asked_d (ls : List (List Rg)) (hl : ls.length ≤ 9223372036854775806) : DC Try.prog 111 [domsD ls] (iD (askedR ls)) := by
  rcases first_bad domB ls with hall | ⟨q, hq, hb, hmin⟩
  · rw [askedR, if_pos (all_yes hall)]
    by_cases h0 : ls.length = 0
    all_goals
      (first | rw [if_pos h0] | rw [if_neg h0])
      refine DC.of Try.func111 Try.ntmps111 Try.results111 rfl (by decide +kernel) rfl ?_
      repeat (first | refine Z1 ?_ | refine Z2 ?_ | (refine Z3 ?_; (repeat (first | (apply gS; first | refine go_f ?_ | refine gm ?_ | refine gp ?_) | (apply gZ; first | refine go_f ?_ | refine gm ?_))); refine T_nil ?_) | (apply ZK; first | refine Z4 ?_ | refine Z5 ?_) | refine Z6 ?_ | refine Z7 ?_ | refine Z8 ?_ | refine Z9 ?_ | refine ZA ?_ | refine ZB ?_ | refine ZC ?_ | refine ZD ?_ | refine ZE ?_ | refine ZF ?_ | refine ZG ?_ | refine ZH ?_)
      refine C_count ls.length (fun _ => True) (fun k => ⟨0, 18, [(7, iD k), (6, iD ls.length), (5, domsD ls), (0, domsD ls)], []⟩) ?_ trivial ?_
      · exact Wk.go (fun b => b)
      · intro k hk _
        by_cases hlt : k < ls.length
        · have V := dValid_b ls[k] (hall k hlt)
          repeat (first | refine Z1 ?_ | refine Z2 ?_ | (refine Z3 ?_; (repeat (first | (apply gS; first | refine go_f ?_ | refine gm ?_ | refine gp ?_ | refine go_c rfl rfl (V) ?_) | (apply gZ; first | refine go_f ?_ | refine gm ?_))); refine T_nil ?_) | (apply ZK; first | refine Z4 ?_ | refine Z5 ?_) | refine Z6 ?_ | refine Z7 ?_ | refine Z8 ?_ | refine Z9 ?_ | refine ZA ?_ | refine ZB ?_ | refine ZC ?_ | refine ZD ?_ | refine ZE ?_ | refine ZF ?_ | refine ZG ?_ | refine ZH ?_)
          refine kLoop_n ⟨hlt, trivial, ?_⟩
          exact Wk.go (fun b => b)
        · repeat (first | refine Z1 ?_ | refine Z2 ?_ | (refine Z3 ?_; (repeat (first | (apply gS; first | refine go_f ?_ | refine gm ?_ | refine gp ?_) | (apply gZ; first | refine go_f ?_ | refine gm ?_))); refine T_nil ?_) | (apply ZK; first | refine Z4 ?_ | refine Z5 ?_) | refine Z6 ?_ | refine Z7 ?_ | refine Z8 ?_ | refine Z9 ?_ | refine ZA ?_ | refine ZB ?_ | refine ZC ?_ | refine ZD ?_ | refine ZE ?_ | refine ZF ?_ | refine ZG ?_ | refine ZH ?_)
          repeat (first | refine kEnd_m ?_ | refine kEnd_f ?_)
          refine kEnd_g ?_ (by first | exact .inl rfl | exact .inr rfl)
          exact Sub.eq rfl rfl
  · rw [askedR, if_neg (by rw [all_no hq hb]; decide)]
    refine DC.of Try.func111 Try.ntmps111 Try.results111 rfl (by decide +kernel) rfl ?_
    repeat (first | refine Z1 ?_ | refine Z2 ?_ | (refine Z3 ?_; (repeat (first | (apply gS; first | refine go_f ?_ | refine gm ?_ | refine gp ?_) | (apply gZ; first | refine go_f ?_ | refine gm ?_))); refine T_nil ?_) | (apply ZK; first | refine Z4 ?_ | refine Z5 ?_) | refine Z6 ?_ | refine Z7 ?_ | refine Z8 ?_ | refine Z9 ?_ | refine ZA ?_ | refine ZB ?_ | refine ZC ?_ | refine ZD ?_ | refine ZE ?_ | refine ZF ?_ | refine ZG ?_ | refine ZH ?_)
    refine C_count q (fun _ => True) (fun k => ⟨0, 18, [(7, iD k), (6, iD ls.length), (5, domsD ls), (0, domsD ls)], []⟩) ?_ trivial ?_
    · exact Wk.go (fun b => b)
    · intro k hk _
      have hkl : k < ls.length := by omega
      by_cases hlt : k < q
      · have V := dValid_b ls[k] (hmin k hkl hlt)
        repeat (first | refine Z1 ?_ | refine Z2 ?_ | (refine Z3 ?_; (repeat (first | (apply gS; first | refine go_f ?_ | refine gm ?_ | refine gp ?_ | refine go_c rfl rfl (V) ?_) | (apply gZ; first | refine go_f ?_ | refine gm ?_))); refine T_nil ?_) | (apply ZK; first | refine Z4 ?_ | refine Z5 ?_) | refine Z6 ?_ | refine Z7 ?_ | refine Z8 ?_ | refine Z9 ?_ | refine ZA ?_ | refine ZB ?_ | refine ZC ?_ | refine ZD ?_ | refine ZE ?_ | refine ZF ?_ | refine ZG ?_ | refine ZH ?_)
        refine kLoop_n ⟨hlt, trivial, ?_⟩
        exact Wk.go (fun b => b)
      · obtain rfl : k = q := by omega
        have V := dValid_b ls[k] hb
        repeat (first | refine Z1 ?_ | refine Z2 ?_ | (refine Z3 ?_; (repeat (first | (apply gS; first | refine go_f ?_ | refine gm ?_ | refine gp ?_ | refine go_c rfl rfl (V) ?_) | (apply gZ; first | refine go_f ?_ | refine gm ?_))); refine T_nil ?_) | (apply ZK; first | refine Z4 ?_ | refine Z5 ?_) | refine Z6 ?_ | refine Z7 ?_ | refine Z8 ?_ | refine Z9 ?_ | refine ZA ?_ | refine ZB ?_ | refine ZC ?_ | refine ZD ?_ | refine ZE ?_ | refine ZF ?_ | refine ZG ?_ | refine ZH ?_)
        repeat (first | refine kEnd_m ?_ | refine kEnd_f ?_)
        refine kEnd_g ?_ (by first | exact .inl rfl | exact .inr rfl)
        exact Sub.eq rfl rfl
def cnt (d : List Rg) : Nat := prodN (cl d)
theorem dCount_ok {d : List Rg} (h : domB d = true) : DC Try.prog 49 [domD d] (.tup [iD (cnt d), iD 0]) := by
  have H := dCount_d d
  rwa [show dCountRes d = (((cnt d : Nat) : Int), 0) from if_pos h] at H
def alikeB (ls : List (List Rg)) (n : Nat) : Bool := ls.all fun d => decide (cnt d = n)
theorem alike_d (ls : List (List Rg)) (hl : ls.length ≤ 9223372036854775806) (h0 : 0 < ls.length) (hall : ∀ j (h : j < ls.length), domB ls[j] = true) : DC Try.prog 112 [domsD ls] (bD (alikeB ls (cnt ls[0]))) := by
  have C0 := dCount_ok (hall 0 h0)
  generalize hn : cnt ls[0] = n at *
  unfold alikeB
  rcases first_bad (fun d => decide (cnt d = n)) ls with hs | ⟨q, hq, hb, hmin⟩
  · rw [all_yes hs]
    refine DC.of Try.func112 Try.ntmps112 Try.results112 rfl (by decide +kernel) rfl ?_
    repeat (first | refine Z1 ?_ | refine Z2 ?_ | (refine Z3 ?_; (repeat (first | (apply gS; first | refine go_f ?_ | refine gm ?_ | refine gp ?_ | refine go_c rfl rfl (C0) ?_) | (apply gZ; first | refine go_f ?_ | refine gm ?_))); refine T_nil ?_) | (apply ZK; first | refine Z4 ?_ | refine Z5 ?_) | refine Z6 ?_ | refine Z7 ?_ | refine Z8 ?_ | refine Z9 ?_ | refine ZA ?_ | refine ZB ?_ | refine ZC ?_ | refine ZD ?_ | refine ZE ?_ | refine ZF ?_ | refine ZG ?_ | refine ZH ?_)
    refine C_count ls.length (fun _ => True) (fun k => ⟨0, 31, [(18, iD k), (17, iD ls.length), (16, domsD ls), (3, iD n)], []⟩) ?_ trivial ?_
    · exact Wk.go (fun b => b)
    · intro k hk _
      by_cases hlt : k < ls.length
      · have V := dCount_ok (hall k hlt)
        have e := of_decide_eq_true (hs k hlt)
        rw [e] at V
        repeat (first | refine Z1 ?_ | refine Z2 ?_ | (refine Z3 ?_; (repeat (first | (apply gS; first | refine go_f ?_ | refine gm ?_ | refine gp ?_ | refine go_c rfl rfl (V) ?_) | (apply gZ; first | refine go_f ?_ | refine gm ?_))); refine T_nil ?_) | (apply ZK; first | refine Z4 ?_ | refine Z5 ?_) | refine Z6 ?_ | refine Z7 ?_ | refine Z8 ?_ | refine Z9 ?_ | refine ZA ?_ | refine ZB ?_ | refine ZC ?_ | refine ZD ?_ | refine ZE ?_ | refine ZF ?_ | refine ZG ?_ | refine ZH ?_)
        refine kLoop_n ⟨hlt, trivial, ?_⟩
        exact Wk.go (fun b => b)
      · repeat (first | refine Z1 ?_ | refine Z2 ?_ | (refine Z3 ?_; (repeat (first | (apply gS; first | refine go_f ?_ | refine gm ?_ | refine gp ?_) | (apply gZ; first | refine go_f ?_ | refine gm ?_))); refine T_nil ?_) | (apply ZK; first | refine Z4 ?_ | refine Z5 ?_) | refine Z6 ?_ | refine Z7 ?_ | refine Z8 ?_ | refine Z9 ?_ | refine ZA ?_ | refine ZB ?_ | refine ZC ?_ | refine ZD ?_ | refine ZE ?_ | refine ZF ?_ | refine ZG ?_ | refine ZH ?_)
        repeat (first | refine kEnd_m ?_ | refine kEnd_f ?_)
        refine kEnd_g ?_ (by first | exact .inl rfl | exact .inr rfl)
        exact Sub.eq rfl rfl
  · rw [all_no (p := fun d => decide (cnt d = n)) hq hb]
    refine DC.of Try.func112 Try.ntmps112 Try.results112 rfl (by decide +kernel) rfl ?_
    repeat (first | refine Z1 ?_ | refine Z2 ?_ | (refine Z3 ?_; (repeat (first | (apply gS; first | refine go_f ?_ | refine gm ?_ | refine gp ?_ | refine go_c rfl rfl (C0) ?_) | (apply gZ; first | refine go_f ?_ | refine gm ?_))); refine T_nil ?_) | (apply ZK; first | refine Z4 ?_ | refine Z5 ?_) | refine Z6 ?_ | refine Z7 ?_ | refine Z8 ?_ | refine Z9 ?_ | refine ZA ?_ | refine ZB ?_ | refine ZC ?_ | refine ZD ?_ | refine ZE ?_ | refine ZF ?_ | refine ZG ?_ | refine ZH ?_)
    refine C_count q (fun _ => True) (fun k => ⟨0, 31, [(18, iD k), (17, iD ls.length), (16, domsD ls), (3, iD n)], []⟩) ?_ trivial ?_
    · exact Wk.go (fun b => b)
    · intro k hk _
      have hkl : k < ls.length := by omega
      by_cases hlt : k < q
      · have V := dCount_ok (hall k hkl)
        have e := of_decide_eq_true (hmin k hkl hlt)
        rw [e] at V
        repeat (first | refine Z1 ?_ | refine Z2 ?_ | (refine Z3 ?_; (repeat (first | (apply gS; first | refine go_f ?_ | refine gm ?_ | refine gp ?_ | refine go_c rfl rfl (V) ?_) | (apply gZ; first | refine go_f ?_ | refine gm ?_))); refine T_nil ?_) | (apply ZK; first | refine Z4 ?_ | refine Z5 ?_) | refine Z6 ?_ | refine Z7 ?_ | refine Z8 ?_ | refine Z9 ?_ | refine ZA ?_ | refine ZB ?_ | refine ZC ?_ | refine ZD ?_ | refine ZE ?_ | refine ZF ?_ | refine ZG ?_ | refine ZH ?_)
        refine kLoop_n ⟨hlt, trivial, ?_⟩
        exact Wk.go (fun b => b)
      · obtain rfl : k = q := by omega
        have V := dCount_ok (hall k hkl)
        have e := of_decide_eq_false hb
        repeat (first | refine Z1 ?_ | refine Z2 ?_ | (refine Z3 ?_; (repeat (first | (apply gS; first | refine go_f ?_ | refine gm ?_ | refine gp ?_ | refine go_c rfl rfl (V) ?_) | (apply gZ; first | refine go_f ?_ | refine gm ?_))); refine T_nil ?_) | (apply ZK; first | refine Z4 ?_ | refine Z5 ?_) | refine Z6 ?_ | refine Z7 ?_ | refine Z8 ?_ | refine Z9 ?_ | refine ZA ?_ | refine ZB ?_ | refine ZC ?_ | refine ZD ?_ | refine ZE ?_ | refine ZF ?_ | refine ZG ?_ | refine ZH ?_)
        repeat (first | refine kEnd_m ?_ | refine kEnd_f ?_)
        refine kEnd_g ?_ (by first | exact .inl rfl | exact .inr rfl)
        exact Sub.eq rfl rfl
theorem dIth_ok {d : List Rg} (h : domB d = true) {i : Nat} (hi : i < cnt d) : DC Try.prog 27 [domD d, iD i] (.tup [rowI (ithX d i), iD 0]) := by
  have H := dIth_d d i
  rwa [show dIthRes d i = (ithX d i, 0) by rw [dIthRes, if_pos h, if_pos ⟨by omega, by have : i < prodN (cl d) := hi; omega⟩, Int.toNat_natCast]] at H
def zipL (ls : List (List Rg)) (n : Nat) : List (List (List Int)) := (List.range n).map fun i => ls.map fun d => ithX d i
def zipRes (ls : List (List Rg)) : List (List (List Int)) × Int := if ls.all domB = true then (match ls with
  | [] => ([], 2)
  | d :: _ => if alikeB ls (cnt d) = true then (zipL ls (cnt d), 0) else ([], 80)) else ([], 40)
theorem zipL_snoc (ls : List (List Rg)) (k : Nat) : (zipL ls (k + 1)).map rowL2 = (zipL ls k).map rowL2 ++ [rowL2 (ls.map fun d => ithX d k)] := by simp [zipL, List.range_succ]
theorem zipL_len (ls : List (List Rg)) (k : Nat) : (zipL ls k).length = k := by simp [zipL]
theorem ith_snoc {ls : List (List Rg)} {j : Nat} (h : j < ls.length) (k : Nat) : ((ls.take (j + 1)).map fun d => ithX d k).map rowI = ((ls.take j).map fun d => ithX d k).map rowI ++ [rowI (ithX ls[j] k)] := by
  rw [List.take_succ_eq_append_getElem h, List.map_append, List.map_append]; rfl
theorem zip_d (ls : List (List Rg)) (hl : ls.length ≤ 1000000) : DC Try.prog 35 [domsD ls] (.tup [rowL3 (zipRes ls).1, iD (zipRes ls).2]) := by
  have A := asked_d ls (by omega)
  unfold askedR at A
  unfold zipRes
  cases hv : ls.all domB with
  | false =>
    rw [hv] at A
    refine DC.of Try.func35 Try.ntmps35 Try.results35 rfl (by decide +kernel) rfl ?_
    repeat (first | refine Z1 ?_ | refine Z2 ?_ | (refine Z3 ?_; (repeat (first | (apply gS; first | refine go_f ?_ | refine gm ?_ | refine gp ?_ | refine go_c rfl rfl (A) ?_) | (apply gZ; first | refine go_f ?_ | refine gm ?_))); refine T_nil ?_) | (apply ZK; first | refine Z4 ?_ | refine Z5 ?_) | refine Z6 ?_ | refine Z7 ?_ | refine Z8 ?_ | refine Z9 ?_ | refine ZA ?_ | refine ZB ?_ | refine ZC ?_ | refine ZD ?_ | refine ZE ?_ | refine ZF ?_ | refine ZG ?_ | refine ZH ?_)
    repeat (first | refine kEnd_m ?_ | refine kEnd_f ?_)
    refine kEnd_g ?_ (by first | exact .inl rfl | exact .inr rfl)
    exact Sub.tup (.cons Sub.nil (.cons (Sub.eq rfl rfl) .nil))
  | true =>
  rw [hv] at A
  rw [if_pos rfl] at A ⊢
  have hall : ∀ j (h : j < ls.length), domB ls[j] = true := fun j h => List.all_eq_true.1 hv _ (List.getElem_mem h)
  cases ls with
  | nil =>
    refine DC.of Try.func35 Try.ntmps35 Try.results35 rfl (by decide +kernel) rfl ?_
    repeat (first | refine Z1 ?_ | refine Z2 ?_ | (refine Z3 ?_; (repeat (first | (apply gS; first | refine go_f ?_ | refine gm ?_ | refine gp ?_ | refine go_c rfl rfl (A) ?_) | (apply gZ; first | refine go_f ?_ | refine gm ?_))); refine T_nil ?_) | (apply ZK; first | refine Z4 ?_ | refine Z5 ?_) | refine Z6 ?_ | refine Z7 ?_ | refine Z8 ?_ | refine Z9 ?_ | refine ZA ?_ | refine ZB ?_ | refine ZC ?_ | refine ZD ?_ | refine ZE ?_ | refine ZF ?_ | refine ZG ?_ | refine ZH ?_)
    repeat (first | refine kEnd_m ?_ | refine kEnd_f ?_)
    refine kEnd_g ?_ (by first | exact .inl rfl | exact .inr rfl)
    exact Sub.tup (.cons Sub.nil (.cons (Sub.eq rfl rfl) .nil))
  | cons d0 l0 =>
  rw [if_neg (by simp)] at A
  have L := alike_d (d0 :: l0) (by omega) (by simp) hall
  have C0 := dCount_ok (hall 0 (by simp))
  have h0 : 0 < (d0 :: l0).length := by simp
  rw [List.getElem_cons_zero] at L C0
  dsimp only
  have e0 : (d0 :: l0)[0]'h0 = d0 := rfl
  have hcap : cnt d0 ≤ 4096 := (domB_iff.1 (hall 0 (by simp))).2.2
  generalize hn : cnt d0 = n at *
  generalize hls : d0 :: l0 = ls at *
  clear hls
  cases hs : alikeB ls n with
  | false =>
    rw [hs] at L
    refine DC.of Try.func35 Try.ntmps35 Try.results35 rfl (by decide +kernel) rfl ?_
    repeat (first | refine Z1 ?_ | refine Z2 ?_ | (refine Z3 ?_; (repeat (first | (apply gS; first | refine go_f ?_ | refine gm ?_ | refine gp ?_ | refine go_c rfl rfl (A) ?_ | refine go_c rfl rfl (L) ?_) | (apply gZ; first | refine go_f ?_ | refine gm ?_))); refine T_nil ?_) | (apply ZK; first | refine Z4 ?_ | refine Z5 ?_) | refine Z6 ?_ | refine Z7 ?_ | refine Z8 ?_ | refine Z9 ?_ | refine ZA ?_ | refine ZB ?_ | refine ZC ?_ | refine ZD ?_ | refine ZE ?_ | refine ZF ?_ | refine ZG ?_ | refine ZH ?_)
    repeat (first | refine kEnd_m ?_ | refine kEnd_f ?_)
    refine kEnd_g ?_ (by first | exact .inl rfl | exact .inr rfl)
    exact Sub.tup (.cons Sub.nil (.cons (Sub.eq rfl rfl) .nil))
  | true =>
    rw [hs] at L
    rw [if_pos rfl]
    have hsm : ∀ j (h : j < ls.length), cnt ls[j] = n := fun j h => by
      have := List.all_eq_true.1 hs _ (List.getElem_mem h)
      exact of_decide_eq_true this
    subst e0
    refine DC.of Try.func35 Try.ntmps35 Try.results35 rfl (by decide +kernel) rfl ?_
    repeat (first | refine Z1 ?_ | refine Z2 ?_ | (refine Z3 ?_; (repeat (first | (apply gS; first | refine go_f ?_ | refine gm ?_ | refine gp ?_ | refine go_c rfl rfl (A) ?_ | refine go_c rfl rfl (L) ?_ | refine go_c rfl rfl (C0) ?_) | (apply gZ; first | refine go_f ?_ | refine gm ?_))); refine T_nil ?_) | (apply ZK; first | refine Z4 ?_ | refine Z5 ?_) | refine Z6 ?_ | refine Z7 ?_ | refine Z8 ?_ | refine Z9 ?_ | refine ZA ?_ | refine ZB ?_ | refine ZC ?_ | refine ZD ?_ | refine ZE ?_ | refine ZF ?_ | refine ZG ?_ | refine ZH ?_)
    refine C_count n (fun _ => True) (fun k => ⟨1, 56, [(30, iD k), (29, iD n), (7, .own 0 k), (0, domsD ls)], [(0, some ⟨28, 1, k, (zipL ls k).map rowL2⟩)]⟩) ?_ trivial ?_
    · refine Wk.trans (Wk.adoptT 7 28 1 rfl) ?_
      exact Wk.go (fun b => b)
    · intro k hk _
      by_cases hlt : k < n
      · have en := zipL_snoc ls k
        repeat (first | refine Z1 ?_ | refine Z2 ?_ | (refine Z3 ?_; (repeat (first | (apply gS; first | refine go_f ?_ | refine gm ?_ | refine gp ?_) | (apply gZ; first | refine go_f ?_ | refine gm ?_))); refine T_nil ?_) | (apply ZK; first | refine Z4 ?_ | refine Z5 ?_) | refine Z6 ?_ | refine Z7 ?_ | refine Z8 ?_ | refine Z9 ?_ | refine ZA ?_ | refine ZB ?_ | refine ZC ?_ | refine ZD ?_ | refine ZE ?_ | refine ZF ?_ | refine ZG ?_ | refine ZH ?_)
        refine C_count ls.length (fun _ => True) (fun j => ⟨2, 56, [(35, iD j), (34, iD ls.length), (33, domsD ls), (9, .own 1 j), (8, iD k), (30, iD k), (29, iD n), (7, .own 0 k), (0, domsD ls)], [(0, some ⟨28, 1, k, (zipL ls k).map rowL2⟩), (1, some ⟨25, 1, j, ((ls.take j).map fun d => ithX d k).map rowI⟩)]⟩) ?_ trivial ?_
        · refine Wk.trans (Wk.adoptT 9 25 1 rfl) ?_
          exact Wk.go (fun b => b)
        · intro j hj _
          by_cases hjl : j < ls.length
          · have I := dIth_ok (hall j hjl) (i := k) (by rw [hsm j hjl]; exact hlt)
            have ej := ith_snoc hjl k
            repeat (first | refine Z1 ?_ | refine Z2 ?_ | (refine Z3 ?_; (repeat (first | (apply gS; first | refine go_f ?_ | refine gm ?_ | refine gp ?_ | refine go_c rfl rfl (I) ?_) | (apply gZ; first | refine go_f ?_ | refine gm ?_))); refine T_nil ?_) | (apply ZK; first | refine Z4 ?_ | refine Z5 ?_) | refine Z6 ?_ | refine Z7 ?_ | refine Z8 ?_ | refine Z9 ?_ | refine ZA ?_ | refine ZB ?_ | refine ZC ?_ | refine ZD ?_ | refine ZE ?_ | refine ZF ?_ | refine ZG ?_ | refine ZH ?_)
            refine kLoop_n ⟨hjl, trivial, ?_⟩
            exact Wk.go (fun b => cond (Nat.beq b 1) 3 (b))
          · obtain rfl : j = ls.length := by omega
            rw [List.take_length]
            have er : rowL2 (ls.map fun d => ithX d k) = .row ls.length ((ls.map fun d => ithX d k).map rowI) := by
              show D.row _ _ = _
              rw [List.length_map]
            rw [er] at en
            repeat (first | refine Z1 ?_ | refine Z2 ?_ | (refine Z3 ?_; (repeat (first | (apply gS; first | refine go_f ?_ | refine gm ?_ | refine gp ?_) | (apply gZ; first | refine go_f ?_ | refine gm ?_))); refine T_nil ?_) | (apply ZK; first | refine Z4 ?_ | refine Z5 ?_) | refine Z6 ?_ | refine Z7 ?_ | refine Z8 ?_ | refine Z9 ?_ | refine ZA ?_ | refine ZB ?_ | refine ZC ?_ | refine ZD ?_ | refine ZE ?_ | refine ZF ?_ | refine ZG ?_ | refine ZH ?_)
            refine kLoop_n ⟨hlt, trivial, ?_⟩
            exact Wk.go (fun b => cond (Nat.beq b 0) 2 (b))
      · obtain rfl : k = n := by omega
        repeat (first | refine Z1 ?_ | refine Z2 ?_ | (refine Z3 ?_; (repeat (first | (apply gS; first | refine go_f ?_ | refine gm ?_ | refine gp ?_) | (apply gZ; first | refine go_f ?_ | refine gm ?_))); refine T_nil ?_) | (apply ZK; first | refine Z4 ?_ | refine Z5 ?_) | refine Z6 ?_ | refine Z7 ?_ | refine Z8 ?_ | refine Z9 ?_ | refine ZA ?_ | refine ZB ?_ | refine ZC ?_ | refine ZD ?_ | refine ZE ?_ | refine ZF ?_ | refine ZG ?_ | refine ZH ?_)
        repeat (first | refine kEnd_m ?_ | refine kEnd_f ?_)
        refine kEnd_g ?_ (by first | exact .inl rfl | exact .inr rfl)
        exact Sub.tup (.cons (Sub.eq (by show D.row k _ = D.row (zipL ls k).length _; rw [zipL_len]) rfl) (.cons (Sub.eq rfl rfl) .nil))
end Go.Proofs.Ytifapodobhkdcaa
