/- each of the reference of domains, by the abstract machine. -/
import Derived.Test.YtfkojkciobdeoaaE4
namespace Go.Proofs.Ytfkojkciobdeoaa
open Go.RowKit
set_option linter.unusedVariables false
set_option maxHeartbeats 16000000
set_option linter.unusedSimpArgs false
set_option maxRecDepth 100000
def lateI (b : Bool) : Int := if b = true then 40 else 0
theorem rEach_s (rs : List Rg) (b : List Int) (L : List (Rg × Int)) (hd : domB rs = true) (hb : b.length = rs.length) (hL : L.length = rs.length)
    (hF : ∀ j (h1 : j < (canonRs rs).length) (h2 : j < b.length) (h3 : j < L.length), DC Try.prog 128 [rD (canonRs rs)[j], iD b[j]] (.tup [rD L[j].1, iD L[j].2])) :
    DC Try.prog 99 [.val (.int .u8 115), domD rs, rowI b] (.tup [domD (eachRes L).1, iD (eachRes L).2]) := by
  have V := rdValid_b rs hd
  have N := rdCanon_d rs
  rw [show dCanonRes rs = (canonRs rs, 0) from if_pos hd] at N
  have M := rEmpty_d rs hd
  have DN := rDone_d (L.map (·.1))
  have hl3 := (domB_iff.1 hd).1
  have hb' : (b.length : Int) = rs.length := by omega
  have hcl : (canonRs rs).length = rs.length := by simp [canonRs]
  generalize hnn : decide (prodN (cl rs) = 0) = nn at *
  generalize canonRs rs = cs at *
  dsimp only at N
  rw [show rowR (L.map (·.1)) = .row L.length ((L.map (·.1)).flatMap rC) by show D.row _ _ = _; rw [List.length_map]] at DN
  have e0 : overB (L.take 0) = false := rfl
  rcases first_bad (fun p : Rg × Int => decide (p.2 ≠ 2)) L with hno | ⟨q, hq, hbad, hmin⟩
  · have e1 : (L.any fun p => decide (p.2 = 2)) = false := any_not fun j hj => by have := of_decide_eq_true (hno j hj); simp [this]
    unfold eachRes
    rw [e1, if_neg (by decide), show (L.any fun p => decide (p.2 ≠ 0)) = overB L from rfl]
    generalize hres : dCanonRes (L.map (·.1)) = res at *
    cases ho : overB L
    all_goals
      simp only [if_true, if_false, Bool.false_eq_true]
      refine DC.of Try.func99 Try.ntmps99 Try.results99 rfl (by decide +kernel) rfl ?_
      repeat (first | refine Z1 ?_ | refine Z2 ?_ | (refine Z3 ?_; (repeat (first | (apply gS; first | refine go_no ?_ | refine go_f ?_ | refine gm ?_ | refine gp ?_ | refine go_c rfl rfl (V) ?_ | refine go_c rfl rfl (N) ?_ | refine go_c rfl rfl (M) ?_) | (apply gZ; first | refine go_f ?_ | refine gm ?_))); refine T_nil ?_) | (apply ZR; refine C_dr mixed ?_; (repeat (first | (apply vS; first | refine vn ?_ | refine va ?_ | refine vp ?_ | refine vr ?_ | refine vt ?_ | refine vc (V) ?_ | refine vc (N) ?_ | refine vc (M) ?_) | (apply vZ; refine vs ?_))); refine W_e ?_) | (apply ZK; first | refine Z4 ?_ | refine Z5 ?_) | refine Z6 ?_ | refine Z7 ?_ | refine Z8 ?_ | refine Z9 ?_ | refine ZA ?_ | refine ZB ?_ | refine ZC ?_ | refine ZD ?_ | refine ZE ?_ | refine ZF ?_ | refine ZG ?_ | refine ZH ?_)
      refine C_count L.length (fun _ => True) (fun k => ⟨4, 166, [(13, iD k), (12, .own 3 k), (11, iD (lateI (overB (L.take k)))), (10, bD nn), (8, .ptr 2 0), (6, .ptr 1 0), (2, rowI b), (0, .val (.int .u8 115))], [(1, some ⟨24, 1, 1, [.val (.slice none 0 0)]⟩), (2, some ⟨24, 1, 1, [rowR cs]⟩), (3, some ⟨39, 3, k, ((L.take k).map (·.1)).flatMap rC⟩)]⟩) ?_ trivial ?_
      · rw [e0, show lateI false = 0 from rfl]
        refine Wk.trans (Wk.adoptT 12 39 3 rfl) ?_
        exact Wk.go (fun b => b)
      · intro k hk _
        by_cases hlt : k < L.length
        · have hk1 : k < cs.length := by omega
          have hk2 : k < b.length := by omega
          have en := outs_snoc hlt
          have s2 := overB_snoc hlt
          have n2 := of_decide_eq_true (hno k hlt)
          by_cases hz : L[k].2 = 0
          all_goals
            cases hov : overB (L.take k) <;> rw [hov] at s2
            all_goals
              simp only [hz, ne_eq, not_true_eq_false, not_false_eq_true, decide_true, decide_false, Bool.or_false, Bool.or_true, Bool.true_or] at s2
              rw [lateI]
              simp only [if_true, if_false, Bool.false_eq_true]
              have F := hF k hk1 hk2 hlt
              repeat (first | refine Z1 ?_ | refine Z2 ?_ | (refine Z3 ?_; (repeat (first | (apply gS; first | refine go_no ?_ | refine go_f ?_ | refine gm ?_ | refine gp ?_ | refine go_c rfl rfl (F) ?_) | (apply gZ; first | refine go_f ?_ | refine gm ?_))); refine T_nil ?_) | (apply ZR; refine C_dr mixed ?_; (repeat (first | (apply vS; first | refine vn ?_ | refine va ?_ | refine vp ?_ | refine vr ?_ | refine vt ?_ | refine vc (F) ?_) | (apply vZ; refine vs ?_))); refine W_e ?_) | (apply ZK; first | refine Z4 ?_ | refine Z5 ?_) | refine Z6 ?_ | refine Z7 ?_ | refine Z8 ?_ | refine Z9 ?_ | refine ZA ?_ | refine ZB ?_ | refine ZC ?_ | refine ZD ?_ | refine ZE ?_ | refine ZF ?_ | refine ZG ?_ | refine ZH ?_)
              refine kLoop_n ⟨hlt, trivial, ?_⟩
              rw [s2]
              first | rw [show lateI true = 40 from rfl] | rw [show lateI false = 0 from rfl]
              exact Wk.go (fun b => cond (Nat.beq b 3) 5 (b))
        · obtain rfl : k = L.length := by omega
          rw [List.take_length, ho]
          rw [lateI]
          simp only [if_true, if_false, Bool.false_eq_true]
          repeat (first | refine Z1 ?_ | refine Z2 ?_ | (refine Z3 ?_; (repeat (first | (apply gS; first | refine go_no ?_ | refine go_f ?_ | refine gm ?_ | refine gp ?_ | refine go_c rfl rfl (DN) ?_) | (apply gZ; first | refine go_f ?_ | refine gm ?_))); refine T_nil ?_) | (apply ZR; refine C_dr mixed ?_; (repeat (first | (apply vS; first | refine vn ?_ | refine va ?_ | refine vp ?_ | refine vr ?_ | refine vt ?_ | refine vc (DN) ?_) | (apply vZ; refine vs ?_))); refine W_e ?_) | (apply ZK; first | refine Z4 ?_ | refine Z5 ?_) | refine Z6 ?_ | refine Z7 ?_ | refine Z8 ?_ | refine Z9 ?_ | refine ZA ?_ | refine ZB ?_ | refine ZC ?_ | refine ZD ?_ | refine ZE ?_ | refine ZF ?_ | refine ZG ?_ | refine ZH ?_)
          repeat (first | refine kEnd_m ?_ | refine kEnd_f ?_)
          refine kEnd_g ?_ (by first | exact .inl rfl | exact .inr rfl)
          first | exact Sub.eq rfl rfl | exact Sub.tup (.cons (Sub.agg (.cons Sub.nil .nil)) (.cons (Sub.eq rfl rfl) .nil))
  · have hbad' : L[q].2 = 2 := by have := of_decide_eq_false hbad; omega
    unfold eachRes
    rw [if_pos (any_yes hq (by simp [hbad']))]
    clear DN
    refine DC.of Try.func99 Try.ntmps99 Try.results99 rfl (by decide +kernel) rfl ?_
    repeat (first | refine Z1 ?_ | refine Z2 ?_ | (refine Z3 ?_; (repeat (first | (apply gS; first | refine go_no ?_ | refine go_f ?_ | refine gm ?_ | refine gp ?_ | refine go_c rfl rfl (V) ?_ | refine go_c rfl rfl (N) ?_ | refine go_c rfl rfl (M) ?_) | (apply gZ; first | refine go_f ?_ | refine gm ?_))); refine T_nil ?_) | (apply ZR; refine C_dr mixed ?_; (repeat (first | (apply vS; first | refine vn ?_ | refine va ?_ | refine vp ?_ | refine vr ?_ | refine vt ?_ | refine vc (V) ?_ | refine vc (N) ?_ | refine vc (M) ?_) | (apply vZ; refine vs ?_))); refine W_e ?_) | (apply ZK; first | refine Z4 ?_ | refine Z5 ?_) | refine Z6 ?_ | refine Z7 ?_ | refine Z8 ?_ | refine Z9 ?_ | refine ZA ?_ | refine ZB ?_ | refine ZC ?_ | refine ZD ?_ | refine ZE ?_ | refine ZF ?_ | refine ZG ?_ | refine ZH ?_)
    refine C_count q (fun _ => True) (fun k => ⟨4, 166, [(13, iD k), (12, .own 3 k), (11, iD (lateI (overB (L.take k)))), (10, bD nn), (8, .ptr 2 0), (6, .ptr 1 0), (2, rowI b), (0, .val (.int .u8 115))], [(1, some ⟨24, 1, 1, [.val (.slice none 0 0)]⟩), (2, some ⟨24, 1, 1, [rowR cs]⟩), (3, some ⟨39, 3, k, ((L.take k).map (·.1)).flatMap rC⟩)]⟩) ?_ trivial ?_
    · rw [e0, show lateI false = 0 from rfl]
      refine Wk.trans (Wk.adoptT 12 39 3 rfl) ?_
      exact Wk.go (fun b => b)
    · intro k hk _
      have hkl : k < L.length := by omega
      have hk1 : k < cs.length := by omega
      have hk2 : k < b.length := by omega
      by_cases hlt : k < q
      · have en := outs_snoc hkl
        have s2 := overB_snoc hkl
        have n2 := of_decide_eq_true (hmin k hkl hlt)
        by_cases hz : L[k].2 = 0
        all_goals
          cases hov : overB (L.take k) <;> rw [hov] at s2
          all_goals
            simp only [hz, ne_eq, not_true_eq_false, not_false_eq_true, decide_true, decide_false, Bool.or_false, Bool.or_true, Bool.true_or] at s2
            rw [lateI]
            simp only [if_true, if_false, Bool.false_eq_true]
            have F := hF k hk1 hk2 hkl
            repeat (first | refine Z1 ?_ | refine Z2 ?_ | (refine Z3 ?_; (repeat (first | (apply gS; first | refine go_no ?_ | refine go_f ?_ | refine gm ?_ | refine gp ?_ | refine go_c rfl rfl (F) ?_) | (apply gZ; first | refine go_f ?_ | refine gm ?_))); refine T_nil ?_) | (apply ZR; refine C_dr mixed ?_; (repeat (first | (apply vS; first | refine vn ?_ | refine va ?_ | refine vp ?_ | refine vr ?_ | refine vt ?_ | refine vc (F) ?_) | (apply vZ; refine vs ?_))); refine W_e ?_) | (apply ZK; first | refine Z4 ?_ | refine Z5 ?_) | refine Z6 ?_ | refine Z7 ?_ | refine Z8 ?_ | refine Z9 ?_ | refine ZA ?_ | refine ZB ?_ | refine ZC ?_ | refine ZD ?_ | refine ZE ?_ | refine ZF ?_ | refine ZG ?_ | refine ZH ?_)
            refine kLoop_n ⟨hlt, trivial, ?_⟩
            rw [s2]
            first | rw [show lateI true = 40 from rfl] | rw [show lateI false = 0 from rfl]
            exact Wk.go (fun b => cond (Nat.beq b 3) 5 (b))
      · obtain rfl : k = q := by omega
        have F := hF k hk1 hk2 hkl
        repeat (first | refine Z1 ?_ | refine Z2 ?_ | (refine Z3 ?_; (repeat (first | (apply gS; first | refine go_no ?_ | refine go_f ?_ | refine gm ?_ | refine gp ?_ | refine go_c rfl rfl (F) ?_) | (apply gZ; first | refine go_f ?_ | refine gm ?_))); refine T_nil ?_) | (apply ZR; refine C_dr mixed ?_; (repeat (first | (apply vS; first | refine vn ?_ | refine va ?_ | refine vp ?_ | refine vr ?_ | refine vt ?_ | refine vc (F) ?_) | (apply vZ; refine vs ?_))); refine W_e ?_) | (apply ZK; first | refine Z4 ?_ | refine Z5 ?_) | refine Z6 ?_ | refine Z7 ?_ | refine Z8 ?_ | refine Z9 ?_ | refine ZA ?_ | refine ZB ?_ | refine ZC ?_ | refine ZD ?_ | refine ZE ?_ | refine ZF ?_ | refine ZG ?_ | refine ZH ?_)
        repeat (first | refine kEnd_m ?_ | refine kEnd_f ?_)
        refine kEnd_g ?_ (by first | exact .inl rfl | exact .inr rfl)
        exact Sub.tup (.cons (Sub.agg (.cons Sub.nil .nil)) (.cons (Sub.eq (by first | rfl | rw [hbad']) rfl) .nil))
theorem rEach_e (rs : List Rg) (b : List Int) (L : List (Rg × Int)) (hd : domB rs = true) (hb : b.length = rs.length) (hL : L.length = rs.length)
    (hF : ∀ j (h1 : j < (canonRs rs).length) (h2 : j < b.length) (h3 : j < L.length), DC Try.prog 129 [rD (canonRs rs)[j], iD b[j]] (.tup [rD L[j].1, iD L[j].2])) :
    DC Try.prog 99 [.val (.int .u8 101), domD rs, rowI b] (.tup [domD (eachRes L).1, iD (eachRes L).2]) := by
  have V := rdValid_b rs hd
  have N := rdCanon_d rs
  rw [show dCanonRes rs = (canonRs rs, 0) from if_pos hd] at N
  have M := rEmpty_d rs hd
  have DN := rDone_d (L.map (·.1))
  have hl3 := (domB_iff.1 hd).1
  have hb' : (b.length : Int) = rs.length := by omega
  have hcl : (canonRs rs).length = rs.length := by simp [canonRs]
  generalize hnn : decide (prodN (cl rs) = 0) = nn at *
  generalize canonRs rs = cs at *
  dsimp only at N
  rw [show rowR (L.map (·.1)) = .row L.length ((L.map (·.1)).flatMap rC) by show D.row _ _ = _; rw [List.length_map]] at DN
  have e0 : overB (L.take 0) = false := rfl
  rcases first_bad (fun p : Rg × Int => decide (p.2 ≠ 2)) L with hno | ⟨q, hq, hbad, hmin⟩
  · have e1 : (L.any fun p => decide (p.2 = 2)) = false := any_not fun j hj => by have := of_decide_eq_true (hno j hj); simp [this]
    unfold eachRes
    rw [e1, if_neg (by decide), show (L.any fun p => decide (p.2 ≠ 0)) = overB L from rfl]
    generalize hres : dCanonRes (L.map (·.1)) = res at *
    cases ho : overB L
    all_goals
      simp only [if_true, if_false, Bool.false_eq_true]
      refine DC.of Try.func99 Try.ntmps99 Try.results99 rfl (by decide +kernel) rfl ?_
      repeat (first | refine Z1 ?_ | refine Z2 ?_ | (refine Z3 ?_; (repeat (first | (apply gS; first | refine go_no ?_ | refine go_f ?_ | refine gm ?_ | refine gp ?_ | refine go_c rfl rfl (V) ?_ | refine go_c rfl rfl (N) ?_ | refine go_c rfl rfl (M) ?_) | (apply gZ; first | refine go_f ?_ | refine gm ?_))); refine T_nil ?_) | (apply ZR; refine C_dr mixed ?_; (repeat (first | (apply vS; first | refine vn ?_ | refine va ?_ | refine vp ?_ | refine vr ?_ | refine vt ?_ | refine vc (V) ?_ | refine vc (N) ?_ | refine vc (M) ?_) | (apply vZ; refine vs ?_))); refine W_e ?_) | (apply ZK; first | refine Z4 ?_ | refine Z5 ?_) | refine Z6 ?_ | refine Z7 ?_ | refine Z8 ?_ | refine Z9 ?_ | refine ZA ?_ | refine ZB ?_ | refine ZC ?_ | refine ZD ?_ | refine ZE ?_ | refine ZF ?_ | refine ZG ?_ | refine ZH ?_)
      refine C_count L.length (fun _ => True) (fun k => ⟨4, 166, [(13, iD k), (12, .own 3 k), (11, iD (lateI (overB (L.take k)))), (10, bD nn), (8, .ptr 2 0), (6, .ptr 1 0), (2, rowI b), (0, .val (.int .u8 101))], [(1, some ⟨24, 1, 1, [.val (.slice none 0 0)]⟩), (2, some ⟨24, 1, 1, [rowR cs]⟩), (3, some ⟨39, 3, k, ((L.take k).map (·.1)).flatMap rC⟩)]⟩) ?_ trivial ?_
      · rw [e0, show lateI false = 0 from rfl]
        refine Wk.trans (Wk.adoptT 12 39 3 rfl) ?_
        exact Wk.go (fun b => b)
      · intro k hk _
        by_cases hlt : k < L.length
        · have hk1 : k < cs.length := by omega
          have hk2 : k < b.length := by omega
          have en := outs_snoc hlt
          have s2 := overB_snoc hlt
          have n2 := of_decide_eq_true (hno k hlt)
          by_cases hz : L[k].2 = 0
          all_goals
            cases hov : overB (L.take k) <;> rw [hov] at s2
            all_goals
              simp only [hz, ne_eq, not_true_eq_false, not_false_eq_true, decide_true, decide_false, Bool.or_false, Bool.or_true, Bool.true_or] at s2
              rw [lateI]
              simp only [if_true, if_false, Bool.false_eq_true]
              have F := hF k hk1 hk2 hlt
              repeat (first | refine Z1 ?_ | refine Z2 ?_ | (refine Z3 ?_; (repeat (first | (apply gS; first | refine go_no ?_ | refine go_f ?_ | refine gm ?_ | refine gp ?_ | refine go_c rfl rfl (F) ?_) | (apply gZ; first | refine go_f ?_ | refine gm ?_))); refine T_nil ?_) | (apply ZR; refine C_dr mixed ?_; (repeat (first | (apply vS; first | refine vn ?_ | refine va ?_ | refine vp ?_ | refine vr ?_ | refine vt ?_ | refine vc (F) ?_) | (apply vZ; refine vs ?_))); refine W_e ?_) | (apply ZK; first | refine Z4 ?_ | refine Z5 ?_) | refine Z6 ?_ | refine Z7 ?_ | refine Z8 ?_ | refine Z9 ?_ | refine ZA ?_ | refine ZB ?_ | refine ZC ?_ | refine ZD ?_ | refine ZE ?_ | refine ZF ?_ | refine ZG ?_ | refine ZH ?_)
              refine kLoop_n ⟨hlt, trivial, ?_⟩
              rw [s2]
              first | rw [show lateI true = 40 from rfl] | rw [show lateI false = 0 from rfl]
              exact Wk.go (fun b => cond (Nat.beq b 3) 5 (b))
        · obtain rfl : k = L.length := by omega
          rw [List.take_length, ho]
          rw [lateI]
          simp only [if_true, if_false, Bool.false_eq_true]
          repeat (first | refine Z1 ?_ | refine Z2 ?_ | (refine Z3 ?_; (repeat (first | (apply gS; first | refine go_no ?_ | refine go_f ?_ | refine gm ?_ | refine gp ?_ | refine go_c rfl rfl (DN) ?_) | (apply gZ; first | refine go_f ?_ | refine gm ?_))); refine T_nil ?_) | (apply ZR; refine C_dr mixed ?_; (repeat (first | (apply vS; first | refine vn ?_ | refine va ?_ | refine vp ?_ | refine vr ?_ | refine vt ?_ | refine vc (DN) ?_) | (apply vZ; refine vs ?_))); refine W_e ?_) | (apply ZK; first | refine Z4 ?_ | refine Z5 ?_) | refine Z6 ?_ | refine Z7 ?_ | refine Z8 ?_ | refine Z9 ?_ | refine ZA ?_ | refine ZB ?_ | refine ZC ?_ | refine ZD ?_ | refine ZE ?_ | refine ZF ?_ | refine ZG ?_ | refine ZH ?_)
          repeat (first | refine kEnd_m ?_ | refine kEnd_f ?_)
          refine kEnd_g ?_ (by first | exact .inl rfl | exact .inr rfl)
          first | exact Sub.eq rfl rfl | exact Sub.tup (.cons (Sub.agg (.cons Sub.nil .nil)) (.cons (Sub.eq rfl rfl) .nil))
  · have hbad' : L[q].2 = 2 := by have := of_decide_eq_false hbad; omega
    unfold eachRes
    rw [if_pos (any_yes hq (by simp [hbad']))]
    clear DN
    refine DC.of Try.func99 Try.ntmps99 Try.results99 rfl (by decide +kernel) rfl ?_
    repeat (first | refine Z1 ?_ | refine Z2 ?_ | (refine Z3 ?_; (repeat (first | (apply gS; first | refine go_no ?_ | refine go_f ?_ | refine gm ?_ | refine gp ?_ | refine go_c rfl rfl (V) ?_ | refine go_c rfl rfl (N) ?_ | refine go_c rfl rfl (M) ?_) | (apply gZ; first | refine go_f ?_ | refine gm ?_))); refine T_nil ?_) | (apply ZR; refine C_dr mixed ?_; (repeat (first | (apply vS; first | refine vn ?_ | refine va ?_ | refine vp ?_ | refine vr ?_ | refine vt ?_ | refine vc (V) ?_ | refine vc (N) ?_ | refine vc (M) ?_) | (apply vZ; refine vs ?_))); refine W_e ?_) | (apply ZK; first | refine Z4 ?_ | refine Z5 ?_) | refine Z6 ?_ | refine Z7 ?_ | refine Z8 ?_ | refine Z9 ?_ | refine ZA ?_ | refine ZB ?_ | refine ZC ?_ | refine ZD ?_ | refine ZE ?_ | refine ZF ?_ | refine ZG ?_ | refine ZH ?_)
    refine C_count q (fun _ => True) (fun k => ⟨4, 166, [(13, iD k), (12, .own 3 k), (11, iD (lateI (overB (L.take k)))), (10, bD nn), (8, .ptr 2 0), (6, .ptr 1 0), (2, rowI b), (0, .val (.int .u8 101))], [(1, some ⟨24, 1, 1, [.val (.slice none 0 0)]⟩), (2, some ⟨24, 1, 1, [rowR cs]⟩), (3, some ⟨39, 3, k, ((L.take k).map (·.1)).flatMap rC⟩)]⟩) ?_ trivial ?_
    · rw [e0, show lateI false = 0 from rfl]
      refine Wk.trans (Wk.adoptT 12 39 3 rfl) ?_
      exact Wk.go (fun b => b)
    · intro k hk _
      have hkl : k < L.length := by omega
      have hk1 : k < cs.length := by omega
      have hk2 : k < b.length := by omega
      by_cases hlt : k < q
      · have en := outs_snoc hkl
        have s2 := overB_snoc hkl
        have n2 := of_decide_eq_true (hmin k hkl hlt)
        by_cases hz : L[k].2 = 0
        all_goals
          cases hov : overB (L.take k) <;> rw [hov] at s2
          all_goals
            simp only [hz, ne_eq, not_true_eq_false, not_false_eq_true, decide_true, decide_false, Bool.or_false, Bool.or_true, Bool.true_or] at s2
            rw [lateI]
            simp only [if_true, if_false, Bool.false_eq_true]
            have F := hF k hk1 hk2 hkl
            repeat (first | refine Z1 ?_ | refine Z2 ?_ | (refine Z3 ?_; (repeat (first | (apply gS; first | refine go_no ?_ | refine go_f ?_ | refine gm ?_ | refine gp ?_ | refine go_c rfl rfl (F) ?_) | (apply gZ; first | refine go_f ?_ | refine gm ?_))); refine T_nil ?_) | (apply ZR; refine C_dr mixed ?_; (repeat (first | (apply vS; first | refine vn ?_ | refine va ?_ | refine vp ?_ | refine vr ?_ | refine vt ?_ | refine vc (F) ?_) | (apply vZ; refine vs ?_))); refine W_e ?_) | (apply ZK; first | refine Z4 ?_ | refine Z5 ?_) | refine Z6 ?_ | refine Z7 ?_ | refine Z8 ?_ | refine Z9 ?_ | refine ZA ?_ | refine ZB ?_ | refine ZC ?_ | refine ZD ?_ | refine ZE ?_ | refine ZF ?_ | refine ZG ?_ | refine ZH ?_)
            refine kLoop_n ⟨hlt, trivial, ?_⟩
            rw [s2]
            first | rw [show lateI true = 40 from rfl] | rw [show lateI false = 0 from rfl]
            exact Wk.go (fun b => cond (Nat.beq b 3) 5 (b))
      · obtain rfl : k = q := by omega
        have F := hF k hk1 hk2 hkl
        repeat (first | refine Z1 ?_ | refine Z2 ?_ | (refine Z3 ?_; (repeat (first | (apply gS; first | refine go_no ?_ | refine go_f ?_ | refine gm ?_ | refine gp ?_ | refine go_c rfl rfl (F) ?_) | (apply gZ; first | refine go_f ?_ | refine gm ?_))); refine T_nil ?_) | (apply ZR; refine C_dr mixed ?_; (repeat (first | (apply vS; first | refine vn ?_ | refine va ?_ | refine vp ?_ | refine vr ?_ | refine vt ?_ | refine vc (F) ?_) | (apply vZ; refine vs ?_))); refine W_e ?_) | (apply ZK; first | refine Z4 ?_ | refine Z5 ?_) | refine Z6 ?_ | refine Z7 ?_ | refine Z8 ?_ | refine Z9 ?_ | refine ZA ?_ | refine ZB ?_ | refine ZC ?_ | refine ZD ?_ | refine ZE ?_ | refine ZF ?_ | refine ZG ?_ | refine ZH ?_)
        repeat (first | refine kEnd_m ?_ | refine kEnd_f ?_)
        refine kEnd_g ?_ (by first | exact .inl rfl | exact .inr rfl)
        exact Sub.tup (.cons (Sub.agg (.cons Sub.nil .nil)) (.cons (Sub.eq (by first | rfl | rw [hbad']) rfl) .nil))
theorem rEach_bad (c : Int) (rs : List Rg) (b : List Int) (h : ¬ (domB rs = true ∧ b.length = rs.length)) : DC Try.prog 99 [.val (.int .u8 c), domD rs, rowI b] (.tup [domD [], iD (askedD rs b)]) := by
  have V := rdValid_b rs (b := domB rs) rfl
  unfold askedD
  cases hd : domB rs <;> rw [hd] at V h
  · clear h
    refine DC.of Try.func99 Try.ntmps99 Try.results99 rfl (by decide +kernel) rfl ?_
    repeat (first | refine Z1 ?_ | refine Z2 ?_ | (refine Z3 ?_; (repeat (first | (apply gS; first | refine go_no ?_ | refine go_f ?_ | refine gm ?_ | refine gp ?_ | refine go_c rfl rfl (V) ?_) | (apply gZ; first | refine go_f ?_ | refine gm ?_))); refine T_nil ?_) | (apply ZR; refine C_dr mixed ?_; (repeat (first | (apply vS; first | refine vn ?_ | refine va ?_ | refine vp ?_ | refine vr ?_ | refine vt ?_ | refine vc (V) ?_) | (apply vZ; refine vs ?_))); refine W_e ?_) | (apply ZK; first | refine Z4 ?_ | refine Z5 ?_) | refine Z6 ?_ | refine Z7 ?_ | refine Z8 ?_ | refine Z9 ?_ | refine ZA ?_ | refine ZB ?_ | refine ZC ?_ | refine ZD ?_ | refine ZE ?_ | refine ZF ?_ | refine ZG ?_ | refine ZH ?_)
    repeat (first | refine kEnd_m ?_ | refine kEnd_f ?_)
    refine kEnd_g ?_ (by first | exact .inl rfl | exact .inr rfl)
    exact Sub.tup (.cons (Sub.agg (.cons Sub.nil .nil)) (.cons (Sub.eq rfl rfl) .nil))
  · have hb : ¬ b.length = rs.length := fun e => h ⟨rfl, e⟩
    have hb' : ¬ (b.length : Int) = rs.length := by omega
    rw [if_pos rfl, if_neg hb]
    clear h
    refine DC.of Try.func99 Try.ntmps99 Try.results99 rfl (by decide +kernel) rfl ?_
    repeat (first | refine Z1 ?_ | refine Z2 ?_ | (refine Z3 ?_; (repeat (first | (apply gS; first | refine go_no ?_ | refine go_f ?_ | refine gm ?_ | refine gp ?_ | refine go_c rfl rfl (V) ?_) | (apply gZ; first | refine go_f ?_ | refine gm ?_))); refine T_nil ?_) | (apply ZR; refine C_dr mixed ?_; (repeat (first | (apply vS; first | refine vn ?_ | refine va ?_ | refine vp ?_ | refine vr ?_ | refine vt ?_ | refine vc (V) ?_) | (apply vZ; refine vs ?_))); refine W_e ?_) | (apply ZK; first | refine Z4 ?_ | refine Z5 ?_) | refine Z6 ?_ | refine Z7 ?_ | refine Z8 ?_ | refine Z9 ?_ | refine ZA ?_ | refine ZB ?_ | refine ZC ?_ | refine ZD ?_ | refine ZE ?_ | refine ZF ?_ | refine ZG ?_ | refine ZH ?_)
    repeat (first | refine kEnd_m ?_ | refine kEnd_f ?_)
    refine kEnd_g ?_ (by first | exact .inl rfl | exact .inr rfl)
    exact Sub.tup (.cons (Sub.agg (.cons Sub.nil .nil)) (.cons (Sub.eq rfl rfl) .nil))
end Go.Proofs.Ytfkojkciobdeoaa
