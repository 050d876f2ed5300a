/- The law IterTensors returns true for every input: which lists of indexes come out of all indexes of several domains. -/
import Derived.Test.YtifapodobhkdcaaTen
import Derived.Test.YtifapodobhkdcaaCameT
namespace Go.Proofs.Ytifapodobhkdcaa.iterTensors
open Go.RowKit Go.Proofs.Ytifapodobhkdcaa
set_option linter.unusedVariables false
set_option maxHeartbeats 16000000
set_option linter.unusedSimpArgs false
set_option maxRecDepth 100000
theorem rvalid8_d (ls : List (List Rg)) (hl : ls.length ≤ 1000000) : DC Try.prog 113 [domsD ls] (bD (ls.all domB)) := by
  have V := fun k (h : k < ls.length) => rdValid_b ls[k] (b := domB ls[k]) rfl
  rcases first_bad domB ls with hall | ⟨q, hq, hb, hmin⟩
  · rw [all_yes hall]
    refine DC.of Try.func113 Try.ntmps113 Try.results113 rfl (by decide +kernel) rfl ?_
    repeat (first | refine Z1 ?_ | refine Z2 ?_ | (refine Z3 ?_; (repeat (first | (apply gS; first | refine go_f ?_ | refine gx ?_ | refine gm ?_ | refine gp ?_))); refine T_nil ?_) | (apply ZK; first | refine Z4 ?_ | refine Z5 ?_) | refine Z6 ?_ | refine Z7 ?_ | refine Z8 ?_ | refine Z9 ?_ | refine ZA ?_ | refine ZB ?_ | refine ZC ?_ | refine ZD ?_ | refine ZE ?_ | refine ZF ?_ | refine ZG ?_ | refine ZH ?_)
    refine C_count ls.length (fun _ => True) (fun k => ⟨0, 16, [(3, iD k), (0, domsD ls)], []⟩) ?_ trivial ?_
    · exact Wk.gx (fun b => b)
    · intro k hk _
      by_cases hlt : k < ls.length
      · have v := V k hlt
        rw [hall k hlt] at v
        clear V hall
        repeat (first | refine Z1 ?_ | refine Z2 ?_ | (refine Z3 ?_; (repeat (first | (apply gS; first | refine go_f ?_ | refine gx ?_ | refine gm ?_ | refine gp ?_ | refine go_c rfl rfl (v) ?_ | refine go_cF rfl rfl (v) ?_ | refine go_cA rfl rfl (v) ?_))); refine T_nil ?_) | (apply ZK; first | refine Z4 ?_ | refine Z5 ?_) | refine Z6 ?_ | refine Z7 ?_ | refine Z8 ?_ | refine Z9 ?_ | refine ZA ?_ | refine ZB ?_ | refine ZC ?_ | refine ZD ?_ | refine ZE ?_ | refine ZF ?_ | refine ZG ?_ | refine ZH ?_)
        refine kLoop_n ⟨hlt, trivial, ?_⟩
        exact Wk.gx (fun b => b)
      · obtain rfl : k = ls.length := by omega
        clear V hall
        repeat (first | refine Z1 ?_ | refine Z2 ?_ | (refine Z3 ?_; (repeat (first | (apply gS; first | refine go_f ?_ | refine gx ?_ | refine gm ?_ | refine gp ?_))); refine T_nil ?_) | (apply ZK; first | refine Z4 ?_ | refine Z5 ?_) | refine Z6 ?_ | refine Z7 ?_ | refine Z8 ?_ | refine Z9 ?_ | refine ZA ?_ | refine ZB ?_ | refine ZC ?_ | refine ZD ?_ | refine ZE ?_ | refine ZF ?_ | refine ZG ?_ | refine ZH ?_)
        repeat (first | refine kEnd_m ?_ | refine kEnd_f ?_)
        refine kEnd_g ?_ (by first | exact .inl rfl | exact .inr rfl)
        exact Sub.eq rfl rfl
  · rw [all_no hq hb]
    refine DC.of Try.func113 Try.ntmps113 Try.results113 rfl (by decide +kernel) rfl ?_
    repeat (first | refine Z1 ?_ | refine Z2 ?_ | (refine Z3 ?_; (repeat (first | (apply gS; first | refine go_f ?_ | refine gx ?_ | refine gm ?_ | refine gp ?_))); refine T_nil ?_) | (apply ZK; first | refine Z4 ?_ | refine Z5 ?_) | refine Z6 ?_ | refine Z7 ?_ | refine Z8 ?_ | refine Z9 ?_ | refine ZA ?_ | refine ZB ?_ | refine ZC ?_ | refine ZD ?_ | refine ZE ?_ | refine ZF ?_ | refine ZG ?_ | refine ZH ?_)
    refine C_count q (fun _ => True) (fun k => ⟨0, 16, [(3, iD k), (0, domsD ls)], []⟩) ?_ trivial ?_
    · exact Wk.gx (fun b => b)
    · intro k hk _
      have hkl : k < ls.length := by omega
      have v := V k hkl
      by_cases hlt : k < q
      · rw [hmin k hkl hlt] at v
        clear V hmin
        repeat (first | refine Z1 ?_ | refine Z2 ?_ | (refine Z3 ?_; (repeat (first | (apply gS; first | refine go_f ?_ | refine gx ?_ | refine gm ?_ | refine gp ?_ | refine go_c rfl rfl (v) ?_ | refine go_cF rfl rfl (v) ?_ | refine go_cA rfl rfl (v) ?_))); refine T_nil ?_) | (apply ZK; first | refine Z4 ?_ | refine Z5 ?_) | refine Z6 ?_ | refine Z7 ?_ | refine Z8 ?_ | refine Z9 ?_ | refine ZA ?_ | refine ZB ?_ | refine ZC ?_ | refine ZD ?_ | refine ZE ?_ | refine ZF ?_ | refine ZG ?_ | refine ZH ?_)
        refine kLoop_n ⟨hlt, trivial, ?_⟩
        exact Wk.gx (fun b => b)
      · obtain rfl : k = q := by omega
        rw [hb] at v
        clear V hmin
        repeat (first | refine Z1 ?_ | refine Z2 ?_ | (refine Z3 ?_; (repeat (first | (apply gS; first | refine go_f ?_ | refine gx ?_ | refine gm ?_ | refine gp ?_ | refine go_c rfl rfl (v) ?_ | refine go_cF rfl rfl (v) ?_ | refine go_cA rfl rfl (v) ?_))); refine T_nil ?_) | (apply ZK; first | refine Z4 ?_ | refine Z5 ?_) | refine Z6 ?_ | refine Z7 ?_ | refine Z8 ?_ | refine Z9 ?_ | refine ZA ?_ | refine ZB ?_ | refine ZC ?_ | refine ZD ?_ | refine ZE ?_ | refine ZF ?_ | refine ZG ?_ | refine ZH ?_)
        repeat (first | refine kEnd_m ?_ | refine kEnd_f ?_)
        refine kEnd_g ?_ (by first | exact .inl rfl | exact .inr rfl)
        exact Sub.eq rfl rfl
/-! ### the product, cut at 4097 -/
def mP (L : Nat → Nat) : Nat → Nat
  | 0 => 1
  | k + 1 => min (mP L k * max 1 (L k)) 4097
theorem mP_le (L : Nat → Nat) : ∀ k, 1 ≤ mP L k ∧ mP L k ≤ 4097
  | 0 => ⟨Nat.le_refl _, by show 1 ≤ 4097; omega⟩
  | k + 1 => by
    have h := mP_le L k
    have : 1 * 1 ≤ mP L k * max 1 (L k) := Nat.mul_le_mul h.1 (by omega)
    unfold mP
    omega
theorem mP_eq {L : Nat → Nat} {cs : List Nat} (hL : ∀ k (h : k < cs.length), L k = cs[k]) (hz : 0 ∉ cs) : ∀ k, k ≤ cs.length → mP L k = min (prodN (cs.take k)) 4097
  | 0, _ => by
    show 1 = min 1 4097
    decide
  | k + 1, h => by
    have ih := mP_eq hL hz k (by omega)
    have hc : 1 ≤ cs[k] := Nat.pos_of_ne_zero fun e => hz (e ▸ List.getElem_mem (show k < cs.length by omega))
    unfold mP
    rw [ih, prodN_take k (by omega), hL k (by omega), Nat.max_eq_right hc]
    generalize prodN (cs.take k) = p
    generalize cs[k] = c at *
    by_cases hp : p ≤ 4097
    · rw [Nat.min_eq_left hp]
    · have h1 : 4097 * 1 ≤ 4097 * c := Nat.mul_le_mul_left _ hc
      have h2 : p * 1 ≤ p * c := Nat.mul_le_mul_left _ hc
      rw [Nat.min_eq_right (by omega : 4097 ≤ p)]
      omega
theorem snocT (A : List (List Int)) (x : List Int) : rowL2 (A ++ [x]) = .row (0 + A.length + 1) (([] ++ A.map rowI) ++ [rowI x]) := by
  show D.row _ _ = _
  congr 1
  · simp
  · simp
set_option maxHeartbeats 16000000 in
theorem rtensor_d (ls : List (List Rg)) (hl : ls.length ≤ 8) : DC Try.prog 39 [domsD ls] (.tup [rowL3 (tensRes ls).1, iD (tensRes ls).2]) := by
  have V := rvalid8_d ls (by omega)
  unfold tensRes
  cases hv : ls.all domB with
  | false =>
    rw [hv] at V
    rw [if_neg (by decide)]
    refine DC.of Try.func39 Try.ntmps39 Try.results39 rfl (by decide +kernel) rfl ?_
    repeat (first | refine Z1 ?_ | refine Z2 ?_ | (refine Z3 ?_; (repeat (first | (apply gS; first | refine go_no ?_ | refine go_f ?_ | refine gx ?_ | refine gm ?_ | refine gp ?_ | refine go_c rfl rfl (V) ?_ | refine go_cF rfl rfl (V) ?_ | refine go_cA rfl rfl (V) ?_))); refine T_nil ?_) | (apply ZR; (try dsimp only [List.map_cons, List.map_nil]); refine C_dr mixed ?_; (repeat (first | (apply vS; first | refine vl 77 ?_ | refine vn ?_ | refine va ?_ | refine vp ?_ | refine vr ?_ | refine vf 88 ?_ | refine vt ?_ | refine vc (V) ?_ | refine vcF (V) ?_))); refine W_e ?_) | (apply ZK; first | refine Z4 ?_ | refine Z5 ?_) | refine Z6 ?_ | refine Z7 ?_ | refine Z8 ?_ | refine Z9 ?_ | refine ZA ?_ | refine ZB ?_ | refine ZC ?_ | refine ZD ?_ | refine ZE ?_ | refine ZF ?_ | refine ZG ?_ | refine ZH ?_)
    repeat (first | refine kEnd_m ?_ | refine kEnd_f ?_)
    refine kEnd_g ?_ (by first | exact .inl rfl | exact .inr rfl)
    exact Sub.tup (.cons Sub.nil (.cons (Sub.eq rfl rfl) .nil))
  | true =>
  rw [hv] at V
  rw [if_pos rfl]
  have hall : ∀ j (h : j < ls.length), domB ls[j] = true := fun j h => List.all_eq_true.1 hv _ (List.getElem_mem h)
  by_cases hz0 : ls.length = 0
  · rw [if_pos hz0]
    refine DC.of Try.func39 Try.ntmps39 Try.results39 rfl (by decide +kernel) rfl ?_
    repeat (first | refine Z1 ?_ | refine Z2 ?_ | (refine Z3 ?_; (repeat (first | (apply gS; first | refine go_no ?_ | refine go_f ?_ | refine gx ?_ | refine gm ?_ | refine gp ?_ | refine go_c rfl rfl (V) ?_ | refine go_cF rfl rfl (V) ?_ | refine go_cA rfl rfl (V) ?_))); refine T_nil ?_) | (apply ZR; (try dsimp only [List.map_cons, List.map_nil]); refine C_dr mixed ?_; (repeat (first | (apply vS; first | refine vl 77 ?_ | refine vn ?_ | refine va ?_ | refine vp ?_ | refine vr ?_ | refine vf 88 ?_ | refine vt ?_ | refine vc (V) ?_ | refine vcF (V) ?_))); refine W_e ?_) | (apply ZK; first | refine Z4 ?_ | refine Z5 ?_) | refine Z6 ?_ | refine Z7 ?_ | refine Z8 ?_ | refine Z9 ?_ | refine ZA ?_ | refine ZB ?_ | refine ZC ?_ | refine ZD ?_ | refine ZE ?_ | refine ZF ?_ | refine ZG ?_ | refine ZH ?_)
    repeat (first | refine kEnd_m ?_ | refine kEnd_f ?_)
    refine kEnd_g ?_ (by first | exact .inl rfl | exact .inr rfl)
    exact Sub.tup (.cons Sub.nil (.cons (Sub.eq rfl rfl) .nil))
  rw [if_neg hz0]
  have hlc : (cD ls).length = ls.length := by simp [cD]
  obtain ⟨L, hL⟩ : ∃ L : Nat → Nat, ∀ j, L j = (cD ls).getD j 1 := ⟨_, fun _ => rfl⟩
  have hLg : ∀ k (h : k < (cD ls).length), L k = (cD ls)[k] := fun k h => by rw [hL, List.getD_eq_getElem?_getD, List.getElem?_eq_getElem h]; rfl
  have hLk : ∀ k (h : k < ls.length), L k = cnt ls[k] := fun k h => by rw [hLg k (by omega)]; simp [cD]
  have hLb : ∀ k (h : k < ls.length), L k ≤ 4096 := fun k h => by rw [hLk k h]; exact (domB_iff.1 (hall k h)).2.2
  have C : ∀ k (h : k < ls.length), DC Try.prog 64 [domD ls[k]] (.tup [iD (L k), iD 0]) := fun k h => by
    have C := rdCount_d ls[k]
    rw [show dCountRes ls[k] = (((cnt ls[k] : Nat) : Int), 0) from if_pos (hall k h)] at C
    rw [hLk k h]; exact C
  have hnS : ∀ k (h : k < ls.length), decide (0 ∈ (cD ls).take (k + 1)) = (decide (0 ∈ (cD ls).take k) || decide (L k = 0)) := fun k h => by
    rw [List.take_succ_eq_append_getElem (by omega), ← hLg k (by omega)]
    rw [Bool.eq_iff_iff]
    simp only [List.mem_append, List.mem_singleton, decide_eq_true_iff, Bool.or_eq_true]
    constructor
    · rintro (h | h)
      · exact .inl h
      · exact .inr h.symm
    · rintro (h | h)
      · exact .inl h
      · exact .inr h.symm
  have hn0 : decide (0 ∈ (cD ls).take 0) = false := rfl
  have hnE : (cD ls).take ls.length = cD ls := by rw [← hlc, List.take_length]
  have hm0 : mP L 0 = 1 := rfl
  have hmS : ∀ k, mP L (k + 1) = min (mP L k * max 1 (L k)) 4097 := fun _ => rfl
  have hmb := mP_le L
  obtain ⟨nz, hnz⟩ : ∃ nz : Nat → Bool, ∀ k, nz k = decide (0 ∈ (cD ls).take k) := ⟨_, fun _ => rfl⟩
  have hnzE : nz ls.length = decide (0 ∈ cD ls) := by rw [hnz, hnE]
  simp only [← hnz] at hnS hn0
  -- the first loop's step
  have step : ∀ k (h : k < ls.length), ∀ K : Exit → St → Prop, True := fun _ _ _ => trivial
  clear step
  by_cases hzz : 0 ∈ cD ls
  · rw [if_pos hzz]
    rw [decide_eq_true hzz] at hnzE
    clear hnz hL hLg hLk hnE hlc hv hzz hall
    refine DC.of Try.func39 Try.ntmps39 Try.results39 rfl (by decide +kernel) rfl ?_
    repeat (first | refine Z1 ?_ | refine Z2 ?_ | (refine Z3 ?_; (repeat (first | (apply gS; first | refine go_no ?_ | refine go_f ?_ | refine gx ?_ | refine gm ?_ | refine gp ?_ | refine go_c rfl rfl (V) ?_ | refine go_cF rfl rfl (V) ?_ | refine go_cA rfl rfl (V) ?_))); refine T_nil ?_) | (apply ZR; (try dsimp only [List.map_cons, List.map_nil]); refine C_dr mixed ?_; (repeat (first | (apply vS; first | refine vl 77 ?_ | refine vn ?_ | refine va ?_ | refine vp ?_ | refine vr ?_ | refine vf 88 ?_ | refine vt ?_ | refine vc (V) ?_ | refine vcF (V) ?_))); refine W_e ?_) | (apply ZK; first | refine Z4 ?_ | refine Z5 ?_) | refine Z6 ?_ | refine Z7 ?_ | refine Z8 ?_ | refine Z9 ?_ | refine ZA ?_ | refine ZB ?_ | refine ZC ?_ | refine ZD ?_ | refine ZE ?_ | refine ZF ?_ | refine ZG ?_ | refine ZH ?_)
    refine C_count ls.length (fun _ => True) (fun k => ⟨0, 93, [(6, iD k), (5, bD (nz k)), (4, iD (mP L k)), (0, domsD ls)], []⟩) ?_ trivial ?_
    · rw [hn0, hm0]
      exact Wk.gx (fun b => b)
    · intro k hk _
      by_cases hkl : k < ls.length
      · have c := C k hkl
        have b1 := hmb k
        have b2 := hLb k hkl
        have e1 := hmS k
        have e2 := hnS k hkl
        clear C hmb hLb hmS hnS hnzE hn0 hm0
        have e3 := Int.natCast_mul (mP L k) (L k)
        have b3 : mP L k * L k ≤ 4097 * 4096 := Nat.mul_le_mul b1.2 b2
        cases hq : nz k with
        | true =>
          rw [hq, Bool.true_or] at e2
          by_cases hc : L k = 0
          · have e4 : mP L (k + 1) = mP L k := by rw [e1, hc, show max 1 0 = 1 from rfl, Nat.mul_one]; omega
            rw [hc] at c
            repeat (first | refine Z1 ?_ | refine Z2 ?_ | (refine Z3 ?_; (repeat (first | (apply gS; first | refine go_no ?_ | refine go_f ?_ | refine gx ?_ | refine gm ?_ | refine gp ?_ | refine go_c rfl rfl (c) ?_ | refine go_cF rfl rfl (c) ?_ | refine go_cA rfl rfl (c) ?_))); refine T_nil ?_) | (apply ZR; (try dsimp only [List.map_cons, List.map_nil]); refine C_dr mixed ?_; (repeat (first | (apply vS; first | refine vl 77 ?_ | refine vn ?_ | refine va ?_ | refine vp ?_ | refine vr ?_ | refine vf 88 ?_ | refine vt ?_ | refine vc (c) ?_ | refine vcF (c) ?_))); refine W_e ?_) | (apply ZK; first | refine Z4 ?_ | refine Z5 ?_) | refine Z6 ?_ | refine Z7 ?_ | refine Z8 ?_ | refine Z9 ?_ | refine ZA ?_ | refine ZB ?_ | refine ZC ?_ | refine ZD ?_ | refine ZE ?_ | refine ZF ?_ | refine ZG ?_ | refine ZH ?_)
            refine kLoop_n ⟨hkl, trivial, ?_⟩
            rw [e2, e4]
            exact Wk.gx (fun b => b)
          · rw [Nat.max_eq_right (by omega)] at e1
            by_cases hb : mP L k * L k ≤ 4097
            all_goals
              generalize mP L k * L k = pr at *
              generalize L k = n at *
              repeat (first | refine Z1 ?_ | refine Z2 ?_ | (refine Z3 ?_; (repeat (first | (apply gS; first | refine go_no ?_ | refine go_f ?_ | refine gx ?_ | refine gm ?_ | refine gp ?_ | refine go_c rfl rfl (c) ?_ | refine go_cF rfl rfl (c) ?_ | refine go_cA rfl rfl (c) ?_))); refine T_nil ?_) | (apply ZR; (try dsimp only [List.map_cons, List.map_nil]); refine C_dr mixed ?_; (repeat (first | (apply vS; first | refine vl 77 ?_ | refine vn ?_ | refine va ?_ | refine vp ?_ | refine vr ?_ | refine vf 88 ?_ | refine vt ?_ | refine vc (c) ?_ | refine vcF (c) ?_))); refine W_e ?_) | (apply ZK; first | refine Z4 ?_ | refine Z5 ?_) | refine Z6 ?_ | refine Z7 ?_ | refine Z8 ?_ | refine Z9 ?_ | refine ZA ?_ | refine ZB ?_ | refine ZC ?_ | refine ZD ?_ | refine ZE ?_ | refine ZF ?_ | refine ZG ?_ | refine ZH ?_)
              refine kLoop_n ⟨hkl, trivial, ?_⟩
              rw [e2]
              exact Wk.gx (fun b => b)
        | false =>
          rw [hq, Bool.false_or] at e2
          by_cases hc : L k = 0
          · have e4 : mP L (k + 1) = mP L k := by rw [e1, hc, show max 1 0 = 1 from rfl, Nat.mul_one]; omega
            rw [decide_eq_true hc] at e2
            rw [hc] at c
            repeat (first | refine Z1 ?_ | refine Z2 ?_ | (refine Z3 ?_; (repeat (first | (apply gS; first | refine go_no ?_ | refine go_f ?_ | refine gx ?_ | refine gm ?_ | refine gp ?_ | refine go_c rfl rfl (c) ?_ | refine go_cF rfl rfl (c) ?_ | refine go_cA rfl rfl (c) ?_))); refine T_nil ?_) | (apply ZR; (try dsimp only [List.map_cons, List.map_nil]); refine C_dr mixed ?_; (repeat (first | (apply vS; first | refine vl 77 ?_ | refine vn ?_ | refine va ?_ | refine vp ?_ | refine vr ?_ | refine vf 88 ?_ | refine vt ?_ | refine vc (c) ?_ | refine vcF (c) ?_))); refine W_e ?_) | (apply ZK; first | refine Z4 ?_ | refine Z5 ?_) | refine Z6 ?_ | refine Z7 ?_ | refine Z8 ?_ | refine Z9 ?_ | refine ZA ?_ | refine ZB ?_ | refine ZC ?_ | refine ZD ?_ | refine ZE ?_ | refine ZF ?_ | refine ZG ?_ | refine ZH ?_)
            refine kLoop_n ⟨hkl, trivial, ?_⟩
            rw [e2, e4]
            exact Wk.gx (fun b => b)
          · rw [decide_eq_false hc] at e2
            rw [Nat.max_eq_right (by omega)] at e1
            by_cases hb : mP L k * L k ≤ 4097
            all_goals
              generalize mP L k * L k = pr at *
              generalize L k = n at *
              repeat (first | refine Z1 ?_ | refine Z2 ?_ | (refine Z3 ?_; (repeat (first | (apply gS; first | refine go_no ?_ | refine go_f ?_ | refine gx ?_ | refine gm ?_ | refine gp ?_ | refine go_c rfl rfl (c) ?_ | refine go_cF rfl rfl (c) ?_ | refine go_cA rfl rfl (c) ?_))); refine T_nil ?_) | (apply ZR; (try dsimp only [List.map_cons, List.map_nil]); refine C_dr mixed ?_; (repeat (first | (apply vS; first | refine vl 77 ?_ | refine vn ?_ | refine va ?_ | refine vp ?_ | refine vr ?_ | refine vf 88 ?_ | refine vt ?_ | refine vc (c) ?_ | refine vcF (c) ?_))); refine W_e ?_) | (apply ZK; first | refine Z4 ?_ | refine Z5 ?_) | refine Z6 ?_ | refine Z7 ?_ | refine Z8 ?_ | refine Z9 ?_ | refine ZA ?_ | refine ZB ?_ | refine ZC ?_ | refine ZD ?_ | refine ZE ?_ | refine ZF ?_ | refine ZG ?_ | refine ZH ?_)
              refine kLoop_n ⟨hkl, trivial, ?_⟩
              rw [e2]
              exact Wk.gx (fun b => b)
      · obtain rfl : k = ls.length := by omega
        rw [hnzE]
        clear C hmb hLb hmS hnS
        repeat (first | refine Z1 ?_ | refine Z2 ?_ | (refine Z3 ?_; (repeat (first | (apply gS; first | refine go_no ?_ | refine go_f ?_ | refine gx ?_ | refine gm ?_ | refine gp ?_))); refine T_nil ?_) | (apply ZR; (try dsimp only [List.map_cons, List.map_nil]); refine C_dr mixed ?_; (repeat (first | (apply vS; first | refine vl 77 ?_ | refine vn ?_ | refine va ?_ | refine vp ?_ | refine vr ?_ | refine vf 88 ?_ | refine vt ?_))); refine W_e ?_) | (apply ZK; first | refine Z4 ?_ | refine Z5 ?_) | refine Z6 ?_ | refine Z7 ?_ | refine Z8 ?_ | refine Z9 ?_ | refine ZA ?_ | refine ZB ?_ | refine ZC ?_ | refine ZD ?_ | refine ZE ?_ | refine ZF ?_ | refine ZG ?_ | refine ZH ?_)
        repeat (first | refine kEnd_m ?_ | refine kEnd_f ?_)
        refine kEnd_g ?_ (by first | exact .inl rfl | exact .inr rfl)
        exact Sub.tup (.cons Sub.nil (.cons (Sub.eq rfl rfl) .nil))
  rw [if_neg hzz]
  rw [decide_eq_false hzz] at hnzE
  have hLp : ∀ k (h : k < ls.length), 1 ≤ L k := fun k h => by
    rw [hLk k h]
    refine Nat.pos_of_ne_zero fun e => hzz ?_
    rw [← e]
    exact List.mem_map.2 ⟨ls[k], List.getElem_mem h, rfl⟩
  have hnzk : ∀ k, nz k = false := fun k => by rw [hnz]; exact decide_eq_false fun h => hzz (List.mem_of_mem_take h)
  have hmE := mP_eq hLg hzz ls.length (by omega)
  rw [hnE] at hmE
  by_cases hp : prodN (cD ls) ≤ 4096
  case neg =>
    rw [if_neg hp]
    have hmE : mP L ls.length = 4097 := by omega
    clear hnz hL hLg hLk hnE hlc hv hzz hall hnS
    refine DC.of Try.func39 Try.ntmps39 Try.results39 rfl (by decide +kernel) rfl ?_
    repeat (first | refine Z1 ?_ | refine Z2 ?_ | (refine Z3 ?_; (repeat (first | (apply gS; first | refine go_no ?_ | refine go_f ?_ | refine gx ?_ | refine gm ?_ | refine gp ?_ | refine go_c rfl rfl (V) ?_ | refine go_cF rfl rfl (V) ?_ | refine go_cA rfl rfl (V) ?_))); refine T_nil ?_) | (apply ZR; (try dsimp only [List.map_cons, List.map_nil]); refine C_dr mixed ?_; (repeat (first | (apply vS; first | refine vl 77 ?_ | refine vn ?_ | refine va ?_ | refine vp ?_ | refine vr ?_ | refine vf 88 ?_ | refine vt ?_ | refine vc (V) ?_ | refine vcF (V) ?_))); refine W_e ?_) | (apply ZK; first | refine Z4 ?_ | refine Z5 ?_) | refine Z6 ?_ | refine Z7 ?_ | refine Z8 ?_ | refine Z9 ?_ | refine ZA ?_ | refine ZB ?_ | refine ZC ?_ | refine ZD ?_ | refine ZE ?_ | refine ZF ?_ | refine ZG ?_ | refine ZH ?_)
    refine C_count ls.length (fun _ => True) (fun k => ⟨0, 93, [(6, iD k), (5, bD false), (4, iD (mP L k)), (0, domsD ls)], []⟩) ?_ trivial ?_
    · rw [hm0]
      exact Wk.gx (fun b => b)
    · intro k hk _
      by_cases hkl : k < ls.length
      · have c := C k hkl
        have b1 := hmb k
        have b2 := hLb k hkl
        have b4 := hLp k hkl
        have e1 := hmS k
        clear C hmb hLb hmS hnzE hn0 hm0 hLp hnzk hmE
        have e3 := Int.natCast_mul (mP L k) (L k)
        have b3 : mP L k * L k ≤ 4097 * 4096 := Nat.mul_le_mul b1.2 b2
        rw [Nat.max_eq_right (by omega)] at e1
        by_cases hb : mP L k * L k ≤ 4097
        all_goals
          generalize mP L k * L k = pr at *
          generalize L k = n at *
          repeat (first | refine Z1 ?_ | refine Z2 ?_ | (refine Z3 ?_; (repeat (first | (apply gS; first | refine go_no ?_ | refine go_f ?_ | refine gx ?_ | refine gm ?_ | refine gp ?_ | refine go_c rfl rfl (c) ?_ | refine go_cF rfl rfl (c) ?_ | refine go_cA rfl rfl (c) ?_))); refine T_nil ?_) | (apply ZR; (try dsimp only [List.map_cons, List.map_nil]); refine C_dr mixed ?_; (repeat (first | (apply vS; first | refine vl 77 ?_ | refine vn ?_ | refine va ?_ | refine vp ?_ | refine vr ?_ | refine vf 88 ?_ | refine vt ?_ | refine vc (c) ?_ | refine vcF (c) ?_))); refine W_e ?_) | (apply ZK; first | refine Z4 ?_ | refine Z5 ?_) | refine Z6 ?_ | refine Z7 ?_ | refine Z8 ?_ | refine Z9 ?_ | refine ZA ?_ | refine ZB ?_ | refine ZC ?_ | refine ZD ?_ | refine ZE ?_ | refine ZF ?_ | refine ZG ?_ | refine ZH ?_)
          refine kLoop_n ⟨hkl, trivial, ?_⟩
          exact Wk.gx (fun b => b)
      · obtain rfl : k = ls.length := by omega
        rw [hmE]
        clear C hmb hLb hmS hLp hnzk
        repeat (first | refine Z1 ?_ | refine Z2 ?_ | (refine Z3 ?_; (repeat (first | (apply gS; first | refine go_no ?_ | refine go_f ?_ | refine gx ?_ | refine gm ?_ | refine gp ?_))); refine T_nil ?_) | (apply ZR; (try dsimp only [List.map_cons, List.map_nil]); refine C_dr mixed ?_; (repeat (first | (apply vS; first | refine vl 77 ?_ | refine vn ?_ | refine va ?_ | refine vp ?_ | refine vr ?_ | refine vf 88 ?_ | refine vt ?_))); refine W_e ?_) | (apply ZK; first | refine Z4 ?_ | refine Z5 ?_) | refine Z6 ?_ | refine Z7 ?_ | refine Z8 ?_ | refine Z9 ?_ | refine ZA ?_ | refine ZB ?_ | refine ZC ?_ | refine ZD ?_ | refine ZE ?_ | refine ZF ?_ | refine ZG ?_ | refine ZH ?_)
        repeat (first | refine kEnd_m ?_ | refine kEnd_f ?_)
        refine kEnd_g ?_ (by first | exact .inl rfl | exact .inr rfl)
        exact Sub.tup (.cons Sub.nil (.cons (Sub.eq rfl rfl) .nil))
  rw [if_pos hp]
  have hmE : mP L ls.length = prodN (cD ls) := by omega
  have M := fun k (h : k < ls.length) => rIndexes_ok (hall k h)
  have hcap : ∀ i (h : i < ls.length), (tens (ls.take i)).length * (idxs ls[i]).length ≤ 4096 ∧ (tens (ls.take i)).length ≤ 4096 := fun i h => by
    have h1 := (prodN_le hzz (i + 1)).2
    have h2 := (prodN_le hzz i).2
    have e1 : (cD ls).take (i + 1) = cD (ls.take (i + 1)) := by simp [cD, List.map_take]
    have e2 : (cD ls).take i = cD (ls.take i) := by simp [cD, List.map_take]
    rw [e1, List.take_succ_eq_append_getElem h] at h1
    rw [e2] at h2
    have e3 : prodN (cD (ls.take i ++ [ls[i]])) = prodN (cD (ls.take i)) * cnt ls[i] := by
      unfold cD; rw [List.map_append, prodN_append]; simp [prodN]
    rw [tens_len, idxs_len]
    have : cnt ls[i] = prodN (cl ls[i]) := rfl
    rw [← this]
    omega
  have hLi : ∀ i (h : i < ls.length), (idxs ls[i]).length ≤ 4096 := fun i h => by rw [idxs_len]; exact (domB_iff.1 (hall i h)).2.2
  have hA8 : ∀ i (h : i < ls.length), ∀ o ∈ tens (ls.take i), o.length ≤ 8 := fun i h o ho => by rw [tens_each ho, List.length_take]; omega
  have e5 : ∀ i (h : i < ls.length), tens (ls.take (i + 1)) = nxT (tens (ls.take i)) (idxs ls[i]) (tens (ls.take i)).length 0 := fun i h => by
    rw [List.take_succ_eq_append_getElem h, tens_snoc, nxT_end]
  have htE : tens (ls.take ls.length) = tens ls := by rw [List.take_length]
  have hpn : prodN (cD ls) ≤ 4096 := hp
  clear hnz hL hLg hLk hnE hlc hv hzz hnS hall
  generalize hPN : prodN (cD ls) = PN at *
  clear hPN
  dsimp only
  refine DC.of Try.func39 Try.ntmps39 Try.results39 rfl (by decide +kernel) rfl ?_
  repeat (first | refine Z1 ?_ | refine Z2 ?_ | (refine Z3 ?_; (repeat (first | (apply gS; first | refine go_no ?_ | refine go_f ?_ | refine gx ?_ | refine gm ?_ | refine gp ?_ | refine go_c rfl rfl (V) ?_ | refine go_cF rfl rfl (V) ?_ | refine go_cA rfl rfl (V) ?_))); refine T_nil ?_) | (apply ZR; (try dsimp only [List.map_cons, List.map_nil]); refine C_dr mixed ?_; (repeat (first | (apply vS; first | refine vl 77 ?_ | refine vn ?_ | refine va ?_ | refine vp ?_ | refine vr ?_ | refine vf 88 ?_ | refine vt ?_ | refine vc (V) ?_ | refine vcF (V) ?_))); refine W_e ?_) | (apply ZK; first | refine Z4 ?_ | refine Z5 ?_) | refine Z6 ?_ | refine Z7 ?_ | refine Z8 ?_ | refine Z9 ?_ | refine ZA ?_ | refine ZB ?_ | refine ZC ?_ | refine ZD ?_ | refine ZE ?_ | refine ZF ?_ | refine ZG ?_ | refine ZH ?_)
  refine C_count ls.length (fun _ => True) (fun k => ⟨0, 93, [(6, iD k), (5, bD false), (4, iD (mP L k)), (0, domsD ls)], []⟩) ?_ trivial ?_
  · rw [hm0]
    exact Wk.gx (fun b => b)
  · intro k hk _
    by_cases hkl : k < ls.length
    · have c := C k hkl
      have b1 := hmb k
      have b2 := hLb k hkl
      have b4 := hLp k hkl
      have e1 := hmS k
      clear C hmb hLb hmS hnzE hn0 hm0 hLp hnzk hmE M hcap hLi hA8 e5 htE
      have e3 := Int.natCast_mul (mP L k) (L k)
      have b3 : mP L k * L k ≤ 4097 * 4096 := Nat.mul_le_mul b1.2 b2
      rw [Nat.max_eq_right (by omega)] at e1
      by_cases hb : mP L k * L k ≤ 4097
      all_goals
        generalize mP L k * L k = pr at *
        generalize L k = n at *
        repeat (first | refine Z1 ?_ | refine Z2 ?_ | (refine Z3 ?_; (repeat (first | (apply gS; first | refine go_no ?_ | refine go_f ?_ | refine gx ?_ | refine gm ?_ | refine gp ?_ | refine go_c rfl rfl (c) ?_ | refine go_cF rfl rfl (c) ?_ | refine go_cA rfl rfl (c) ?_))); refine T_nil ?_) | (apply ZR; (try dsimp only [List.map_cons, List.map_nil]); refine C_dr mixed ?_; (repeat (first | (apply vS; first | refine vl 77 ?_ | refine vn ?_ | refine va ?_ | refine vp ?_ | refine vr ?_ | refine vf 88 ?_ | refine vt ?_ | refine vc (c) ?_ | refine vcF (c) ?_))); refine W_e ?_) | (apply ZK; first | refine Z4 ?_ | refine Z5 ?_) | refine Z6 ?_ | refine Z7 ?_ | refine Z8 ?_ | refine Z9 ?_ | refine ZA ?_ | refine ZB ?_ | refine ZC ?_ | refine ZD ?_ | refine ZE ?_ | refine ZF ?_ | refine ZG ?_ | refine ZH ?_)
        refine kLoop_n ⟨hkl, trivial, ?_⟩
        exact Wk.gx (fun b => b)
    · obtain rfl : k = ls.length := by omega
      rw [hmE]
      clear C hmb hLb hmS hLp hnzk hmE
      repeat (first | refine Z1 ?_ | refine Z2 ?_ | (refine Z3 ?_; (repeat (first | (apply gS; first | refine go_no ?_ | refine go_f ?_ | refine gx ?_ | refine gm ?_ | refine gp ?_))); refine T_nil ?_) | (apply ZR; (try dsimp only [List.map_cons, List.map_nil]); refine C_dr mixed ?_; (repeat (first | (apply vS; first | refine vl 77 ?_ | refine vn ?_ | refine va ?_ | refine vp ?_ | refine vr ?_ | refine vf 88 ?_ | refine vt ?_))); refine W_e ?_) | (apply ZK; first | refine Z4 ?_ | refine Z5 ?_) | refine Z6 ?_ | refine Z7 ?_ | refine Z8 ?_ | refine Z9 ?_ | refine ZA ?_ | refine ZB ?_ | refine ZC ?_ | refine ZD ?_ | refine ZE ?_ | refine ZF ?_ | refine ZG ?_ | refine ZH ?_)
      refine C_count ls.length (fun _ => True) (fun i => ⟨0, 93, [(10, iD i), (9, rowL3 (tens (ls.take i))), (0, domsD ls)], []⟩) ?_ trivial ?_
      · exact Wk.mk (fun b => b) (.cons rfl (Ren.im rfl) (.cons rfl Ren.nilRow (.cons rfl (Ren.im rfl) .nil))) .nil rfl
      · intro i hi _
        by_cases hlt : i < ls.length
        · have m1 := M i hlt
          obtain ⟨hc1, hAl⟩ := hcap i hlt
          have hLl := hLi i hlt
          have hA := hA8 i hlt
          have e6 := e5 i hlt
          clear M hcap hLi hA8 e5 htE
          generalize idxs ls[i] = L2 at *
          generalize tens (ls.take i) = A at *
          repeat (first | refine Z1 ?_ | refine Z2 ?_ | (refine Z3 ?_; (repeat (first | (apply gS; first | refine go_no ?_ | refine go_f ?_ | refine gx ?_ | refine gm ?_ | refine gp ?_ | refine go_c rfl rfl (m1) ?_ | refine go_cF rfl rfl (m1) ?_ | refine go_cA rfl rfl (m1) ?_))); refine T_nil ?_) | (apply ZR; (try dsimp only [List.map_cons, List.map_nil]); refine C_dr mixed ?_; (repeat (first | (apply vS; first | refine vl 77 ?_ | refine vn ?_ | refine va ?_ | refine vp ?_ | refine vr ?_ | refine vf 88 ?_ | refine vt ?_ | refine vc (m1) ?_ | refine vcF (m1) ?_))); refine W_e ?_) | (apply ZK; first | refine Z4 ?_ | refine Z5 ?_) | refine Z6 ?_ | refine Z7 ?_ | refine Z8 ?_ | refine Z9 ?_ | refine ZA ?_ | refine ZB ?_ | refine ZC ?_ | refine ZD ?_ | refine ZE ?_ | refine ZF ?_ | refine ZG ?_ | refine ZH ?_)
          refine C_count A.length (fun _ => True) (fun k => ⟨1, 93, [(14, iD k), (13, .own 0 (nxT A L2 k 0).length), (11, rowL2 L2), (10, iD i), (9, rowL3 A), (0, domsD ls)], [(0, some ⟨28, 1, (nxT A L2 k 0).length, (nxT A L2 k 0).map rowL2⟩)]⟩) ?_ trivial ?_
          · rw [nxT_0]
            refine Wk.trans (Wk.adoptT 13 28 1 rfl) ?_
            exact Wk.gx (fun b => b)
          · intro k hk _
            by_cases hkl : k < A.length
            · repeat (first | refine Z1 ?_ | refine Z2 ?_ | (refine Z3 ?_; (repeat (first | (apply gS; first | refine go_no ?_ | refine go_f ?_ | refine gx ?_ | refine gm ?_ | refine gp ?_))); refine T_nil ?_) | (apply ZR; (try dsimp only [List.map_cons, List.map_nil]); refine C_dr mixed ?_; (repeat (first | (apply vS; first | refine vl 77 ?_ | refine vn ?_ | refine va ?_ | refine vp ?_ | refine vr ?_ | refine vf 88 ?_ | refine vt ?_))); refine W_e ?_) | (apply ZK; first | refine Z4 ?_ | refine Z5 ?_) | refine Z6 ?_ | refine Z7 ?_ | refine Z8 ?_ | refine Z9 ?_ | refine ZA ?_ | refine ZB ?_ | refine ZC ?_ | refine ZD ?_ | refine ZE ?_ | refine ZF ?_ | refine ZG ?_ | refine ZH ?_)
              refine C_count L2.length (fun _ => True) (fun j => ⟨1, 93, [(15, iD j), (14, iD k), (13, .own 0 (nxT A L2 k j).length), (11, rowL2 L2), (10, iD i), (9, rowL3 A), (0, domsD ls)], [(0, some ⟨28, 1, (nxT A L2 k j).length, (nxT A L2 k j).map rowL2⟩)]⟩) ?_ trivial ?_
              · exact Wk.gx (fun b => b)
              · intro j hj _
                by_cases hjl : j < L2.length
                · have s1 := nxT_step hkl hjl
                  have ho := hA _ (List.getElem_mem hkl)
                  have hn := nxT_len (A := A) (L := L2) (k := k) (j := j + 1) hk (by omega)
                  have el : (nxT A L2 k (j + 1)).length = (nxT A L2 k j).length + 1 := by rw [s1]; simp
                  have en : (nxT A L2 k (j + 1)).map rowL2 = (nxT A L2 k j).map rowL2 ++ [.row (0 + A[k].length + 1) (([] ++ A[k].map rowI) ++ [rowI L2[j]])] := by
                    rw [s1, List.map_append, List.map_cons, List.map_nil, snocT]
                  repeat (first | refine Z1 ?_ | refine Z2 ?_ | (refine Z3 ?_; (repeat (first | (apply gS; first | refine go_no ?_ | refine go_f ?_ | refine gx ?_ | refine gm ?_ | refine gp ?_))); refine T_nil ?_) | (apply ZR; (try dsimp only [List.map_cons, List.map_nil]); refine C_dr mixed ?_; (repeat (first | (apply vS; first | refine vl 77 ?_ | refine vn ?_ | refine va ?_ | refine vp ?_ | refine vr ?_ | refine vf 88 ?_ | refine vt ?_))); refine W_e ?_) | (apply ZK; first | refine Z4 ?_ | refine Z5 ?_) | refine Z6 ?_ | refine Z7 ?_ | refine Z8 ?_ | refine Z9 ?_ | refine ZA ?_ | refine ZB ?_ | refine ZC ?_ | refine ZD ?_ | refine ZE ?_ | refine ZF ?_ | refine ZG ?_ | refine ZH ?_)
                  refine kLoop_n ⟨hjl, trivial, ?_⟩
                  exact Wk.gx (fun b => cond (Nat.beq b 0) 4 (b))
                · obtain rfl : j = L2.length := by omega
                  rw [nxT_row hkl]
                  repeat (first | refine Z1 ?_ | refine Z2 ?_ | (refine Z3 ?_; (repeat (first | (apply gS; first | refine go_no ?_ | refine go_f ?_ | refine gx ?_ | refine gm ?_ | refine gp ?_))); refine T_nil ?_) | (apply ZR; (try dsimp only [List.map_cons, List.map_nil]); refine C_dr mixed ?_; (repeat (first | (apply vS; first | refine vl 77 ?_ | refine vn ?_ | refine va ?_ | refine vp ?_ | refine vr ?_ | refine vf 88 ?_ | refine vt ?_))); refine W_e ?_) | (apply ZK; first | refine Z4 ?_ | refine Z5 ?_) | refine Z6 ?_ | refine Z7 ?_ | refine Z8 ?_ | refine Z9 ?_ | refine ZA ?_ | refine ZB ?_ | refine ZC ?_ | refine ZD ?_ | refine ZE ?_ | refine ZF ?_ | refine ZG ?_ | refine ZH ?_)
                  refine kLoop_n ⟨hkl, trivial, ?_⟩
                  exact Wk.gx (fun b => b)
            · obtain rfl : k = A.length := by omega
              repeat (first | refine Z1 ?_ | refine Z2 ?_ | (refine Z3 ?_; (repeat (first | (apply gS; first | refine go_no ?_ | refine go_f ?_ | refine gx ?_ | refine gm ?_ | refine gp ?_))); refine T_nil ?_) | (apply ZR; (try dsimp only [List.map_cons, List.map_nil]); refine C_dr mixed ?_; (repeat (first | (apply vS; first | refine vl 77 ?_ | refine vn ?_ | refine va ?_ | refine vp ?_ | refine vr ?_ | refine vf 88 ?_ | refine vt ?_))); refine W_e ?_) | (apply ZK; first | refine Z4 ?_ | refine Z5 ?_) | refine Z6 ?_ | refine Z7 ?_ | refine Z8 ?_ | refine Z9 ?_ | refine ZA ?_ | refine ZB ?_ | refine ZC ?_ | refine ZD ?_ | refine ZE ?_ | refine ZF ?_ | refine ZG ?_ | refine ZH ?_)
              refine kLoop_n ⟨hlt, trivial, ?_⟩
              rw [e6]
              refine Wk.trans (Wk.freeze2 0 rfl (by repeat (first | rfl | exact idsL_map (fun _ => rfl) _ | exact idsL_flat (fun _ => rfl) _ | refine idsL_append ?_ ?_)) (by repeat (first | exact trivial | exact rfl | refine And.intro ?_ ?_))) ?_
              exact Wk.gx (fun b => b)
        · obtain rfl : i = ls.length := by omega
          rw [htE]
          clear M hcap hLi hA8 e5
          repeat (first | refine Z1 ?_ | refine Z2 ?_ | (refine Z3 ?_; (repeat (first | (apply gS; first | refine go_no ?_ | refine go_f ?_ | refine gx ?_ | refine gm ?_ | refine gp ?_))); refine T_nil ?_) | (apply ZR; (try dsimp only [List.map_cons, List.map_nil]); refine C_dr mixed ?_; (repeat (first | (apply vS; first | refine vl 77 ?_ | refine vn ?_ | refine va ?_ | refine vp ?_ | refine vr ?_ | refine vf 88 ?_ | refine vt ?_))); refine W_e ?_) | (apply ZK; first | refine Z4 ?_ | refine Z5 ?_) | refine Z6 ?_ | refine Z7 ?_ | refine Z8 ?_ | refine Z9 ?_ | refine ZA ?_ | refine ZB ?_ | refine ZC ?_ | refine ZD ?_ | refine ZE ?_ | refine ZF ?_ | refine ZG ?_ | refine ZH ?_)
          repeat (first | refine kEnd_m ?_ | refine kEnd_f ?_)
          refine kEnd_g ?_ (by first | exact .inl rfl | exact .inr rfl)
          exact Sub.eq rfl rfl
/-! ### the law -/
theorem threes_d (X : List (List (List Int))) (h1 : X.length ≤ 1000000) (h2 : ∀ x ∈ X, x.length ≤ 1000000 ∧ ∀ y ∈ x, y.length ≤ 1000000) : DC Try.prog 37 [rowL3 X, rowL3 X] (bD true) := by
  have LS := fun k (h : k < X.length) => lists_d X[k] (by have := (h2 _ (List.getElem_mem h)).1; omega) (fun o ho => by have := (h2 _ (List.getElem_mem h)).2 o ho; omega)
  clear h2
  refine DC.of Try.func37 Try.ntmps37 Try.results37 rfl (by decide +kernel) rfl ?_
  repeat (first | refine Z1 ?_ | refine Z2 ?_ | (refine Z3 ?_; (repeat (first | (apply gS; first | refine go_f ?_ | refine gx ?_ | refine gm ?_ | refine gp ?_))); refine T_nil ?_) | (apply ZR; (try dsimp only [List.map_cons, List.map_nil]); refine C_dr mixed ?_; (repeat (first | (apply vS; first | refine va ?_ | refine vp ?_ | refine vr ?_ | refine vt ?_))); refine W_e ?_) | (apply ZK; first | refine Z4 ?_ | refine Z5 ?_) | refine Z6 ?_ | refine Z7 ?_ | refine Z8 ?_ | refine Z9 ?_ | refine ZA ?_ | refine ZB ?_ | refine ZC ?_ | refine ZD ?_ | refine ZE ?_ | refine ZF ?_ | refine ZG ?_ | refine ZH ?_)
  refine C_count X.length (fun _ => True) (fun k => ⟨0, 27, [(5, iD k), (0, rowL3 X), (1, rowL3 X)], []⟩) ?_ trivial ?_
  · exact Wk.gx (fun b => b)
  · intro k hk _
    by_cases hlt : k < X.length
    · have s := LS k hlt
      clear LS
      repeat (first | refine Z1 ?_ | refine Z2 ?_ | (refine Z3 ?_; (repeat (first | (apply gS; first | refine go_f ?_ | refine gx ?_ | refine gm ?_ | refine gp ?_ | refine go_c rfl rfl (s) ?_ | refine go_cF rfl rfl (s) ?_ | refine go_cA rfl rfl (s) ?_))); refine T_nil ?_) | (apply ZR; (try dsimp only [List.map_cons, List.map_nil]); refine C_dr mixed ?_; (repeat (first | (apply vS; first | refine va ?_ | refine vp ?_ | refine vr ?_ | refine vt ?_ | refine vc (s) ?_ | refine vcF (s) ?_))); refine W_e ?_) | (apply ZK; first | refine Z4 ?_ | refine Z5 ?_) | refine Z6 ?_ | refine Z7 ?_ | refine Z8 ?_ | refine Z9 ?_ | refine ZA ?_ | refine ZB ?_ | refine ZC ?_ | refine ZD ?_ | refine ZE ?_ | refine ZF ?_ | refine ZG ?_ | refine ZH ?_)
      refine kLoop_n ⟨hlt, trivial, ?_⟩
      exact Wk.gx (fun b => b)
    · obtain rfl : k = X.length := by omega
      clear LS
      repeat (first | refine Z1 ?_ | refine Z2 ?_ | (refine Z3 ?_; (repeat (first | (apply gS; first | refine go_f ?_ | refine gx ?_ | refine gm ?_ | refine gp ?_))); refine T_nil ?_) | (apply ZR; (try dsimp only [List.map_cons, List.map_nil]); refine C_dr mixed ?_; (repeat (first | (apply vS; first | refine va ?_ | refine vp ?_ | refine vr ?_ | refine vt ?_))); refine W_e ?_) | (apply ZK; first | refine Z4 ?_ | refine Z5 ?_) | refine Z6 ?_ | refine Z7 ?_ | refine Z8 ?_ | refine Z9 ?_ | refine ZA ?_ | refine ZB ?_ | refine ZC ?_ | refine ZD ?_ | refine ZE ?_ | refine ZF ?_ | refine ZG ?_ | refine ZH ?_)
      repeat (first | refine kEnd_m ?_ | refine kEnd_f ?_)
      refine kEnd_g ?_ (by first | exact .inl rfl | exact .inr rfl)
      exact Sub.eq rfl rfl
theorem tens_in : ∀ {ls : List (List Rg)} {o : List (List Int)}, (∀ d ∈ ls, domB d = true) → o ∈ tens ls → ∀ y ∈ o, y.length ≤ 3
  | [], o, _, h, y, hy => by simp [tens] at h; subst h; simp at hy
  | d :: ds, o, hv, h, y, hy => by
    obtain ⟨x, hx, h⟩ := List.mem_flatMap.1 h
    obtain ⟨o', h1, rfl⟩ := List.mem_map.1 h
    rcases List.mem_cons.1 hy with rfl | hy
    · rw [idxs_each hx]
      exact (domB_iff.1 (hv d (by simp))).1.2
    · exact tens_in (fun q hq => hv q (by simp [hq])) h1 y hy
theorem law_d (ls : List (List Rg)) : DC Try.prog 5 [domsD ls] (bD true) := by
  by_cases hl : 8 < ls.length
  · refine DC.of Try.func5 Try.ntmps5 Try.results5 rfl (by decide +kernel) rfl ?_
    repeat (first | refine Z1 ?_ | refine Z2 ?_ | (refine Z3 ?_; (repeat (first | (apply gS; first | refine go_no ?_ | refine go_f ?_ | refine gx ?_ | refine gm ?_ | refine gp ?_ | refine go_c rfl rfl (awake8_d) ?_ | refine go_cF rfl rfl (awake8_d) ?_ | refine go_cA rfl rfl (awake8_d) ?_))); refine T_nil ?_) | (apply ZK; first | refine Z4 ?_ | refine Z5 ?_) | refine Z6 ?_ | refine Z7 ?_ | refine ZF ?_)
    repeat (first | refine kEnd_m ?_ | refine kEnd_f ?_)
    refine kEnd_g ?_ (by first | exact .inl rfl | exact .inr rfl)
    exact Sub.eq rfl rfl
  have A := tensor_d ls (by omega)
  have B := rtensor_d ls (by omega)
  have T := threes_d (tensRes ls).1 (by
    unfold tensRes
    split
    · split
      · simp
      · split
        · simp
        · split
          · rename_i h; simp only; rw [tens_len]; omega
          · simp
    · simp) (by
    unfold tensRes
    split
    · rename_i hv
      split
      · simp
      · split
        · simp
        · split
          · intro x hx
            refine ⟨by rw [tens_each hx]; omega, fun y hy => ?_⟩
            have := tens_in (fun d hd => List.all_eq_true.1 hv d hd) hx y hy
            omega
          · simp
    · simp)
  generalize tensRes ls = r at *
  obtain ⟨r1, r2⟩ := r
  dsimp only at A B T
  refine DC.of Try.func5 Try.ntmps5 Try.results5 rfl (by decide +kernel) rfl ?_
  repeat (first | refine Z1 ?_ | refine Z2 ?_ | (refine Z3 ?_; (repeat (first | (apply gS; first | refine go_no ?_ | refine go_f ?_ | refine gx ?_ | refine gm ?_ | refine gp ?_ | refine go_c rfl rfl (A) ?_ | refine go_cF rfl rfl (A) ?_ | refine go_cA rfl rfl (A) ?_ | refine go_c rfl rfl (B) ?_ | refine go_cF rfl rfl (B) ?_ | refine go_cA rfl rfl (B) ?_ | refine go_c rfl rfl (T) ?_ | refine go_cF rfl rfl (T) ?_ | refine go_cA rfl rfl (T) ?_ | refine go_c rfl rfl (awake8_d) ?_ | refine go_cF rfl rfl (awake8_d) ?_ | refine go_cA rfl rfl (awake8_d) ?_))); refine T_nil ?_) | (apply ZK; first | refine Z4 ?_ | refine Z5 ?_) | refine Z6 ?_ | refine Z7 ?_ | refine ZF ?_)
  repeat (first | refine kEnd_m ?_ | refine kEnd_f ?_)
  refine kEnd_g ?_ (by first | exact .inl rfl | exact .inr rfl)
  exact Sub.eq rfl rfl
theorem walk {w : World} (v : Value) (ls : List (List Rg)) (rc : RC (fun b => b < w.heap.size) w (domsD ls) v) : Calls Try.prog 5 #[v] w fun e w' => e = .returned (.bool true) ∧ Below w.heap.size w w' :=
  DC.law (law_d ls) (.cons rc .nil)
end Go.Proofs.Ytifapodobhkdcaa.iterTensors
