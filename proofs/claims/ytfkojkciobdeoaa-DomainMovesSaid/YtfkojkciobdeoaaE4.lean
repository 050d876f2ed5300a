/- each of package domain, and Shift, Expand, Interior and Exterior, by the abstract machine. -/
import Derived.Test.YtfkojkciobdeoaaEMath
import Derived.Test.YtfkojkciobdeoaaFirst
namespace Go.Proofs.Ytfkojkciobdeoaa
open Go.RowKit
set_option linter.unusedVariables false
set_option maxHeartbeats 16000000
set_option linter.unusedSimpArgs false
set_option maxRecDepth 100000
def askedD (rs : List Rg) (b : List Int) : Int := if domB rs = true then (if b.length = rs.length then 0 else 2) else 40
theorem askedD_d (rs : List Rg) (b : List Int) : DC Try.prog 115 [domD rs, rowI b] (iD (askedD rs b)) := by
  have V := dValid_b rs (b := domB rs) rfl
  unfold askedD
  cases h : domB rs <;> rw [h] at V
  · refine DC.of Try.func115 Try.ntmps115 Try.results115 rfl (by decide +kernel) rfl ?_
    repeat (first | refine Z1 ?_ | refine Z2 ?_ | (refine Z3 ?_; (repeat (first | (apply gS; first | refine go_f ?_ | refine gm ?_ | refine gp ?_ | refine go_c rfl rfl (V) ?_))); refine T_nil ?_) | (apply ZK; first | refine Z4 ?_ | refine Z5 ?_) | refine Z6 ?_ | refine Z7 ?_ | refine Z8 ?_ | refine Z9 ?_ | refine ZA ?_ | refine ZB ?_ | refine ZC ?_ | refine ZF ?_)
    repeat (first | refine kEnd_m ?_ | refine kEnd_f ?_)
    refine kEnd_g ?_ (by first | exact .inl rfl | exact .inr rfl)
    exact Sub.eq rfl rfl
  · rw [if_pos rfl]
    by_cases hl : b.length = rs.length
    · rw [if_pos hl]
      have hl' : (b.length : Int) = rs.length := by omega
      refine DC.of Try.func115 Try.ntmps115 Try.results115 rfl (by decide +kernel) rfl ?_
      repeat (first | refine Z1 ?_ | refine Z2 ?_ | (refine Z3 ?_; (repeat (first | (apply gS; first | refine go_f ?_ | refine gm ?_ | refine gp ?_ | refine go_c rfl rfl (V) ?_))); refine T_nil ?_) | (apply ZK; first | refine Z4 ?_ | refine Z5 ?_) | refine Z6 ?_ | refine Z7 ?_ | refine Z8 ?_ | refine Z9 ?_ | refine ZA ?_ | refine ZB ?_ | refine ZC ?_ | refine ZF ?_)
      repeat (first | refine kEnd_m ?_ | refine kEnd_f ?_)
      refine kEnd_g ?_ (by first | exact .inl rfl | exact .inr rfl)
      exact Sub.eq rfl rfl
    · rw [if_neg hl]
      have hl' : ¬ (b.length : Int) = rs.length := by omega
      refine DC.of Try.func115 Try.ntmps115 Try.results115 rfl (by decide +kernel) rfl ?_
      repeat (first | refine Z1 ?_ | refine Z2 ?_ | (refine Z3 ?_; (repeat (first | (apply gS; first | refine go_f ?_ | refine gm ?_ | refine gp ?_ | refine go_c rfl rfl (V) ?_))); refine T_nil ?_) | (apply ZK; first | refine Z4 ?_ | refine Z5 ?_) | refine Z6 ?_ | refine Z7 ?_ | refine Z8 ?_ | refine Z9 ?_ | refine ZA ?_ | refine ZB ?_ | refine ZC ?_ | refine ZF ?_)
      repeat (first | refine kEnd_m ?_ | refine kEnd_f ?_)
      refine kEnd_g ?_ (by first | exact .inl rfl | exact .inr rfl)
      exact Sub.eq rfl rfl
def overB (L : List (Rg × Int)) : Bool := L.any fun p => decide (p.2 ≠ 0)
theorem overB_snoc {L : List (Rg × Int)} {k : Nat} (h : k < L.length) : overB (L.take (k + 1)) = (overB (L.take k) || decide (L[k].2 ≠ 0)) := by
  unfold overB
  rw [List.take_succ_eq_append_getElem h, List.any_append]; simp
theorem outs_snoc {L : List (Rg × Int)} {k : Nat} (h : k < L.length) : ((L.take (k + 1)).map (·.1)).flatMap rC = ((L.take k).map (·.1)).flatMap rC ++ rC L[k].1 := by
  rw [List.take_succ_eq_append_getElem h, List.map_append, List.flatMap_append]; simp
theorem any_yes {α : Type} {p : α → Bool} {l : List α} {q : Nat} (hq : q < l.length) (h : p l[q] = true) : l.any p = true := List.any_eq_true.2 ⟨_, List.getElem_mem hq, h⟩
theorem any_not {α : Type} {p : α → Bool} {l : List α} (h : ∀ j (h : j < l.length), p l[j] = false) : l.any p = false := by
  cases ha : l.any p with
  | false => rfl
  | true =>
    obtain ⟨x, hx, hp⟩ := List.any_eq_true.1 ha
    obtain ⟨j, hj, rfl⟩ := List.getElem_of_mem hx
    rw [h j hj] at hp; cases hp
theorem each_d (f : Nat) (rs : List Rg) (b : List Int) (L : List (Rg × Int)) (hd : domB rs = true) (hb : b.length = rs.length) (hL : L.length = rs.length)
    (hF : ∀ j (h1 : j < (canonRs rs).length) (h2 : j < b.length) (h3 : j < L.length), DC Try.prog f [rD (canonRs rs)[j], iD b[j]] (.tup [rD L[j].1, iD L[j].2])) :
    DC Try.prog 80 [domD rs, rowI b, .fn f [] []] (.tup [domD (eachRes L).1, iD (eachRes L).2]) := by
  have A := askedD_d rs b
  rw [show askedD rs b = 0 by rw [askedD, if_pos hd, if_pos hb]] at A
  have N := canon_d rs hd
  have DN := dDone_d (L.map (·.1))
  have hl3 := (domB_iff.1 hd).1
  have hcl : (canonRs rs).length = rs.length := by simp [canonRs]
  generalize canonRs rs = cs at *
  rw [show rowR (L.map (·.1)) = .row L.length ((L.map (·.1)).flatMap rC) by show D.row _ _ = _; rw [List.length_map]] at DN
  rcases first_bad (fun p : Rg × Int => decide (p.2 ≠ 2)) L with hno | ⟨q, hq, hbad, hmin⟩
  · have e1 : (L.any fun p => decide (p.2 = 2)) = false := any_not fun j hj => by have := of_decide_eq_true (hno j hj); simp [this]
    unfold eachRes
    rw [e1, if_neg (by decide), show (L.any fun p => decide (p.2 ≠ 0)) = overB L from rfl]
    generalize hres : dCanonRes (L.map (·.1)) = res at *
    cases ho : overB L
    all_goals
      simp only [if_true, if_false, Bool.false_eq_true]
      refine DC.of Try.func80 Try.ntmps80 Try.results80 rfl (by decide +kernel) rfl ?_
      repeat (first | refine Z1 ?_ | refine Z2 ?_ | (refine Z3 ?_; (repeat (first | (apply gS; first | refine go_no ?_ | refine go_f ?_ | refine gm ?_ | refine gp ?_ | refine go_c rfl rfl (A) ?_ | refine go_c rfl rfl (N) ?_) | (apply gZ; first | refine go_f ?_ | refine gm ?_))); refine T_nil ?_) | (apply ZR; refine C_dr mixed ?_; (repeat (first | (apply vS; first | refine vn ?_ | refine va ?_ | refine vp ?_ | refine vr ?_ | refine vt ?_ | refine vc (A) ?_ | refine vc (N) ?_) | (apply vZ; refine vs ?_))); refine W_e ?_) | (apply ZK; first | refine Z4 ?_ | refine Z5 ?_) | refine Z6 ?_ | refine Z7 ?_ | refine Z8 ?_ | refine Z9 ?_ | refine ZA ?_ | refine ZB ?_ | refine ZC ?_ | refine ZD ?_ | refine ZE ?_ | refine ZF ?_ | refine ZG ?_ | refine ZH ?_)
      refine C_count L.length (fun _ => True) (fun k => ⟨3, 61, [(26, iD k), (25, iD cs.length), (24, rowR cs), (10, bD (overB (L.take k))), (9, .own 2 k), (6, .ptr 1 0), (1, rowI b), (2, .fn f [] [])], [(1, some ⟨24, 1, 1, [.val (.slice none 0 0)]⟩), (2, some ⟨39, 3, k, ((L.take k).map (·.1)).flatMap rC⟩)]⟩) ?_ trivial ?_
      · have e0 : overB (L.take 0) = false := rfl
        rw [e0]
        refine Wk.trans (Wk.adoptT 9 39 3 rfl) ?_
        exact Wk.go (fun b => b)
      · intro k hk _
        by_cases hlt : k < L.length
        · have F := hF k (by omega) (by omega) hlt
          have hk1 : k < cs.length := by omega
          have hk2 : k < b.length := by omega
          have en := outs_snoc hlt
          have s2 := overB_snoc hlt
          have n2 := of_decide_eq_true (hno k hlt)
          by_cases hz : L[k].2 = 0
          all_goals
            cases hov : overB (L.take k) <;> rw [hov] at s2
            all_goals
              simp only [hz, ne_eq, not_true_eq_false, not_false_eq_true, decide_true, decide_false, Bool.or_false, Bool.or_true, Bool.true_or] at s2
              repeat (first | refine Z1 ?_ | refine Z2 ?_ | (refine Z3 ?_; (repeat (first | (apply gS; first | refine go_no ?_ | refine go_f ?_ | refine gm ?_ | refine gp ?_ | refine go_c rfl rfl (F) ?_) | (apply gZ; first | refine go_f ?_ | refine gm ?_))); refine T_nil ?_) | (apply ZR; refine C_dr mixed ?_; (repeat (first | (apply vS; first | refine vn ?_ | refine va ?_ | refine vp ?_ | refine vr ?_ | refine vt ?_ | refine vc (F) ?_) | (apply vZ; refine vs ?_))); refine W_e ?_) | (apply ZK; first | refine Z4 ?_ | refine Z5 ?_) | refine Z6 ?_ | refine Z7 ?_ | refine Z8 ?_ | refine Z9 ?_ | refine ZA ?_ | refine ZB ?_ | refine ZC ?_ | refine ZD ?_ | refine ZE ?_ | refine ZF ?_ | refine ZG ?_ | refine ZH ?_)
              refine kLoop_n ⟨hlt, trivial, ?_⟩
              rw [s2]
              exact Wk.go (fun b => cond (Nat.beq b 2) 5 (b))
        · obtain rfl : k = L.length := by omega
          rw [List.take_length, ho]
          repeat (first | refine Z1 ?_ | refine Z2 ?_ | (refine Z3 ?_; (repeat (first | (apply gS; first | refine go_no ?_ | refine go_f ?_ | refine gm ?_ | refine gp ?_ | refine go_c rfl rfl (DN) ?_) | (apply gZ; first | refine go_f ?_ | refine gm ?_))); refine T_nil ?_) | (apply ZR; refine C_dr mixed ?_; (repeat (first | (apply vS; first | refine vn ?_ | refine va ?_ | refine vp ?_ | refine vr ?_ | refine vt ?_ | refine vc (DN) ?_) | (apply vZ; refine vs ?_))); refine W_e ?_) | (apply ZK; first | refine Z4 ?_ | refine Z5 ?_) | refine Z6 ?_ | refine Z7 ?_ | refine Z8 ?_ | refine Z9 ?_ | refine ZA ?_ | refine ZB ?_ | refine ZC ?_ | refine ZD ?_ | refine ZE ?_ | refine ZF ?_ | refine ZG ?_ | refine ZH ?_)
          repeat (first | refine kEnd_m ?_ | refine kEnd_f ?_)
          refine kEnd_g ?_ (by first | exact .inl rfl | exact .inr rfl)
          first | exact Sub.eq rfl rfl | exact Sub.tup (.cons (Sub.agg (.cons Sub.nil .nil)) (.cons (Sub.eq rfl rfl) .nil))
  · have hbad' : L[q].2 = 2 := by have := of_decide_eq_false hbad; omega
    unfold eachRes
    rw [if_pos (any_yes hq (by simp [hbad']))]
    clear DN
    refine DC.of Try.func80 Try.ntmps80 Try.results80 rfl (by decide +kernel) rfl ?_
    repeat (first | refine Z1 ?_ | refine Z2 ?_ | (refine Z3 ?_; (repeat (first | (apply gS; first | refine go_no ?_ | refine go_f ?_ | refine gm ?_ | refine gp ?_ | refine go_c rfl rfl (A) ?_ | refine go_c rfl rfl (N) ?_) | (apply gZ; first | refine go_f ?_ | refine gm ?_))); refine T_nil ?_) | (apply ZR; refine C_dr mixed ?_; (repeat (first | (apply vS; first | refine vn ?_ | refine va ?_ | refine vp ?_ | refine vr ?_ | refine vt ?_ | refine vc (A) ?_ | refine vc (N) ?_) | (apply vZ; refine vs ?_))); refine W_e ?_) | (apply ZK; first | refine Z4 ?_ | refine Z5 ?_) | refine Z6 ?_ | refine Z7 ?_ | refine Z8 ?_ | refine Z9 ?_ | refine ZA ?_ | refine ZB ?_ | refine ZC ?_ | refine ZD ?_ | refine ZE ?_ | refine ZF ?_ | refine ZG ?_ | refine ZH ?_)
    refine C_count q (fun _ => True) (fun k => ⟨3, 61, [(26, iD k), (25, iD cs.length), (24, rowR cs), (10, bD (overB (L.take k))), (9, .own 2 k), (6, .ptr 1 0), (1, rowI b), (2, .fn f [] [])], [(1, some ⟨24, 1, 1, [.val (.slice none 0 0)]⟩), (2, some ⟨39, 3, k, ((L.take k).map (·.1)).flatMap rC⟩)]⟩) ?_ trivial ?_
    · have e0 : overB (L.take 0) = false := rfl
      rw [e0]
      refine Wk.trans (Wk.adoptT 9 39 3 rfl) ?_
      exact Wk.go (fun b => b)
    · intro k hk _
      have hkl : k < L.length := by omega
      have F := hF k (by omega) (by omega) hkl
      have hk1 : k < cs.length := by omega
      have hk2 : k < b.length := by omega
      by_cases hlt : k < q
      · have en := outs_snoc hkl
        have s2 := overB_snoc hkl
        have n2 := of_decide_eq_true (hmin k hkl hlt)
        by_cases hz : L[k].2 = 0
        all_goals
          cases hov : overB (L.take k) <;> rw [hov] at s2
          all_goals
            simp only [hz, ne_eq, not_true_eq_false, not_false_eq_true, decide_true, decide_false, Bool.or_false, Bool.or_true, Bool.true_or] at s2
            repeat (first | refine Z1 ?_ | refine Z2 ?_ | (refine Z3 ?_; (repeat (first | (apply gS; first | refine go_no ?_ | refine go_f ?_ | refine gm ?_ | refine gp ?_ | refine go_c rfl rfl (F) ?_) | (apply gZ; first | refine go_f ?_ | refine gm ?_))); refine T_nil ?_) | (apply ZR; refine C_dr mixed ?_; (repeat (first | (apply vS; first | refine vn ?_ | refine va ?_ | refine vp ?_ | refine vr ?_ | refine vt ?_ | refine vc (F) ?_) | (apply vZ; refine vs ?_))); refine W_e ?_) | (apply ZK; first | refine Z4 ?_ | refine Z5 ?_) | refine Z6 ?_ | refine Z7 ?_ | refine Z8 ?_ | refine Z9 ?_ | refine ZA ?_ | refine ZB ?_ | refine ZC ?_ | refine ZD ?_ | refine ZE ?_ | refine ZF ?_ | refine ZG ?_ | refine ZH ?_)
            refine kLoop_n ⟨hlt, trivial, ?_⟩
            rw [s2]
            exact Wk.go (fun b => cond (Nat.beq b 2) 5 (b))
      · obtain rfl : k = q := by omega
        repeat (first | refine Z1 ?_ | refine Z2 ?_ | (refine Z3 ?_; (repeat (first | (apply gS; first | refine go_no ?_ | refine go_f ?_ | refine gm ?_ | refine gp ?_ | refine go_c rfl rfl (F) ?_) | (apply gZ; first | refine go_f ?_ | refine gm ?_))); refine T_nil ?_) | (apply ZR; refine C_dr mixed ?_; (repeat (first | (apply vS; first | refine vn ?_ | refine va ?_ | refine vp ?_ | refine vr ?_ | refine vt ?_ | refine vc (F) ?_) | (apply vZ; refine vs ?_))); refine W_e ?_) | (apply ZK; first | refine Z4 ?_ | refine Z5 ?_) | refine Z6 ?_ | refine Z7 ?_ | refine Z8 ?_ | refine Z9 ?_ | refine ZA ?_ | refine ZB ?_ | refine ZC ?_ | refine ZD ?_ | refine ZE ?_ | refine ZF ?_ | refine ZG ?_ | refine ZH ?_)
        repeat (first | refine kEnd_m ?_ | refine kEnd_f ?_)
        refine kEnd_g ?_ (by first | exact .inl rfl | exact .inr rfl)
        exact Sub.tup (.cons (Sub.agg (.cons Sub.nil .nil)) (.cons (Sub.eq (by rw [hbad']) rfl) .nil))
theorem each_bad (f : Nat) (rs : List Rg) (b : List Int) (h : ¬ (domB rs = true ∧ b.length = rs.length)) : DC Try.prog 80 [domD rs, rowI b, .fn f [] []] (.tup [domD [], iD (askedD rs b)]) := by
  have A := askedD_d rs b
  have hne : askedD rs b ≠ 0 := by
    unfold askedD
    split
    · rename_i h1
      rw [if_neg fun h2 => h ⟨h1, h2⟩]; decide
    · decide
  generalize askedD rs b = e at *
  clear h
  refine DC.of Try.func80 Try.ntmps80 Try.results80 rfl (by decide +kernel) rfl ?_
  repeat (first | refine Z1 ?_ | refine Z2 ?_ | (refine Z3 ?_; (repeat (first | (apply gS; first | refine go_no ?_ | refine go_f ?_ | refine gm ?_ | refine gp ?_ | refine go_c rfl rfl (A) ?_) | (apply gZ; first | refine go_f ?_ | refine gm ?_))); refine T_nil ?_) | (apply ZR; refine C_dr mixed ?_; (repeat (first | (apply vS; first | refine vn ?_ | refine va ?_ | refine vp ?_ | refine vr ?_ | refine vt ?_ | refine vc (A) ?_) | (apply vZ; refine vs ?_))); refine W_e ?_) | (apply ZK; first | refine Z4 ?_ | refine Z5 ?_) | refine Z6 ?_ | refine Z7 ?_ | refine Z8 ?_ | refine Z9 ?_ | refine ZA ?_ | refine ZB ?_ | refine ZC ?_ | refine ZD ?_ | refine ZE ?_ | refine ZF ?_ | refine ZG ?_ | refine ZH ?_)
  repeat (first | refine kEnd_m ?_ | refine kEnd_f ?_)
  refine kEnd_g ?_ (by first | exact .inl rfl | exact .inr rfl)
  exact Sub.tup (.cons (Sub.agg (.cons Sub.nil .nil)) (.cons (Sub.eq rfl rfl) .nil))
end Go.Proofs.Ytfkojkciobdeoaa
