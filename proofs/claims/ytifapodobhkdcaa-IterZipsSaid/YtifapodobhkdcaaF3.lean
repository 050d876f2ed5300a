/- valid, indexes and Follow of package iter and of the reference, by the abstract machine. -/
import Derived.Test.YtifapodobhkdcaaR4
import Derived.Test.YtifapodobhkdcaaS11
import Derived.Test.YtifapodobhkdcaaD4
import Derived.Test.YtifapodobhkdcaaSlc
namespace Go.Proofs.Ytifapodobhkdcaa
open Go.RowKit
set_option linter.unusedVariables false
set_option maxHeartbeats 16000000
set_option linter.unusedSimpArgs false
set_option maxRecDepth 100000
def twoRes (a b : List Rg) : Int := if domB a = true ∧ domB b = true then (if a.length = b.length then 0 else 2) else 40
theorem two_d (a b : List Rg) : DC Try.prog 106 [domD a, domD b] (iD (twoRes a b)) := by
  have VA := dValid_b a (b := domB a) rfl
  have VB := dValid_b b (b := domB b) rfl
  unfold twoRes
  cases ha : domB a <;> cases hb : domB b <;> rw [ha] at VA <;> rw [hb] at VB
  all_goals
    simp only [Bool.false_eq_true, and_false, false_and, and_self, if_true, if_false]
    try
      by_cases hl : a.length = b.length
    all_goals
      try (first | rw [if_pos hl] | rw [if_neg hl])
      try have hl' : (a.length : Int) = b.length := by omega
      try have hl' : ¬ (a.length : Int) = b.length := by omega
      refine DC.of Try.func106 Try.ntmps106 Try.results106 rfl (by decide +kernel) rfl ?_
      repeat (first | refine Z1 ?_ | refine Z2 ?_ | (refine Z3 ?_; (repeat (first | (apply gS; first | refine go_no ?_ | refine go_f ?_ | refine gx ?_ | refine gm ?_ | refine gp ?_ | refine go_c rfl rfl (VA) ?_ | refine go_cF rfl rfl (VA) ?_ | refine go_cA rfl rfl (VA) ?_ | refine go_c rfl rfl (VB) ?_ | refine go_cF rfl rfl (VB) ?_ | refine go_cA rfl rfl (VB) ?_))); refine T_nil ?_) | (apply ZK; first | refine Z4 ?_ | refine Z5 ?_) | refine Z6 ?_ | refine Z7 ?_ | refine Z8 ?_ | refine Z9 ?_ | refine ZA ?_ | refine ZB ?_ | refine ZC ?_ | refine ZF ?_)
      repeat (first | refine kEnd_m ?_ | refine kEnd_f ?_)
      refine kEnd_g ?_ (by first | exact .inl rfl | exact .inr rfl)
      exact Sub.eq rfl rfl
/-! ### the law -/
def wAll (a b : List Rg) : Bool := (List.zipWith withinB a b).all id
theorem memN_memb {r : Rg} (hv : vB r = true) {m : Int} : m ∈ memN r ↔ Memb r m := by
  have hi := cN_int hv
  unfold memN rowL Memb
  rw [List.mem_map]
  constructor
  · rintro ⟨i, h, e⟩
    rw [List.mem_range] at h
    exact ⟨i, by omega, e⟩
  · rintro ⟨i, h, e⟩
    exact ⟨i, List.mem_range.2 (by omega), e⟩
theorem withinB_mem {r s : Rg} (hr : vB r = true) (hs : vB s = true) : withinB r s = true ↔ ∀ m ∈ memN r, placeB (rowOf s) m = true := by
  rw [withinB_iff (vB_ok' hr) (vB_ok' hs)]
  constructor
  · intro h m hm
    obtain ⟨i, hi, rfl⟩ := (memN_memb hr).1 hm
    exact (memb_place (vB_ok' hs) _).1 (h i hi)
  · intro h i hi
    exact (memb_place (vB_ok' hs) _).2 (h _ ((memN_memb hr).2 ⟨i, hi, rfl⟩))
theorem wAll_iff : ∀ {a b : List Rg}, a.length = b.length → (∀ r ∈ a, vB r = true) → (∀ r ∈ b, vB r = true) → prodN (cl a) ≠ 0 → (wAll a b = true ↔ ∀ x ∈ idxs a, inB b x = true)
  | [], [], _, _, _, _ => by simp [wAll, idxs, inB]
  | r :: a, s :: b, hl, ha, hb, hz => by
    have hz' : cN r * prodN (cl a) ≠ 0 := hz
    have h1 : cN r ≠ 0 := fun e => hz' (by rw [e, Nat.zero_mul])
    have h2 : prodN (cl a) ≠ 0 := fun e => hz' (by rw [e, Nat.mul_zero])
    have ih := wAll_iff (a := a) (b := b) (by simpa using hl) (fun r h => ha r (by simp [h])) (fun r h => hb r (by simp [h])) h2
    obtain ⟨m0, hm0⟩ : ∃ m, m ∈ memN r := List.exists_mem_of_length_pos (by rw [memN_len]; omega)
    obtain ⟨x0, hx0⟩ : ∃ x, x ∈ idxs a := List.exists_mem_of_length_pos (by rw [idxs_len]; omega)
    have e : wAll (r :: a) (s :: b) = (withinB r s && wAll a b) := rfl
    rw [e, Bool.and_eq_true, ih, withinB_mem (ha r (by simp)) (hb s (by simp))]
    constructor
    · rintro ⟨k1, k2⟩ x hx
      obtain ⟨m, hm, hx⟩ := List.mem_flatMap.1 hx
      obtain ⟨y, hy, rfl⟩ := List.mem_map.1 hx
      simp only [inB, k1 m hm, k2 y hy, Bool.and_self]
    · intro h
      have h' : ∀ m ∈ memN r, ∀ y ∈ idxs a, placeB (rowOf s) m = true ∧ inB b y = true := fun m hm y hy => by
        have := h (m :: y) (List.mem_flatMap.2 ⟨m, hm, List.mem_map.2 ⟨y, hy, rfl⟩⟩)
        simpa [inB] using this
      exact ⟨fun m hm => (h' m hm x0 hx0).1, fun y hy => (h' m0 hm0 y hy).2⟩
def withinX (a b : List Rg) : Bool := decide (∀ x ∈ idxs a, inB b x = true)
def dWithinRes (a b : List Rg) : Bool × Int := if twoRes a b = 0 then (withinX a b, 0) else (false, twoRes a b)
theorem withinX_0 {a b : List Rg} (h : prodN (cl a) = 0) : withinX a b = true := decide_eq_true fun x hx => by
  have : idxs a = [] := List.eq_nil_of_length_eq_zero (by rw [idxs_len]; exact h)
  rw [this] at hx; simp at hx
theorem twoRes_0 {a b : List Rg} : twoRes a b = 0 ↔ domB a = true ∧ domB b = true ∧ a.length = b.length := by
  unfold twoRes
  split
  · rename_i h
    split
    · rename_i hl; simp [h, hl]
    · rename_i hl; simp [h, hl]
  · rename_i h
    constructor
    · intro h; cases h
    · rintro ⟨h1, h2, _⟩; exact absurd ⟨h1, h2⟩ h
theorem dWithin_d (a b : List Rg) : DC Try.prog 46 [domD a, domD b] (.tup [bD (dWithinRes a b).1, iD (dWithinRes a b).2]) := by
  have T := two_d a b
  unfold dWithinRes
  by_cases h2 : twoRes a b = 0
  case neg =>
    rw [if_neg h2]
    refine DC.of Try.func46 Try.ntmps46 Try.results46 rfl (by decide +kernel) rfl ?_
    repeat (first | refine Z1 ?_ | refine Z2 ?_ | (refine Z3 ?_; (repeat (first | (apply gS; first | refine go_f ?_ | refine gx ?_ | refine gm ?_ | refine gp ?_ | refine go_c rfl rfl (T) ?_ | refine go_cF rfl rfl (T) ?_ | refine go_cA rfl rfl (T) ?_) | (apply gZ; first | refine go_f ?_ | refine gx ?_ | refine gm ?_))); refine T_nil ?_) | (apply ZR; (try dsimp only [List.map_cons, List.map_nil]); refine C_dr mixed ?_; (repeat (first | (apply vS; first | refine va ?_ | refine vp ?_ | refine vr ?_ | refine vt ?_ | refine vc (T) ?_ | refine vcF (T) ?_) | (apply vZ; first | refine vs ?_ | refine vw ?_))); refine W_e ?_) | (apply ZK; first | refine Z4 ?_ | refine Z5 ?_) | refine Z6 ?_ | refine Z7 ?_ | refine Z8 ?_ | refine Z9 ?_ | refine ZA ?_ | refine ZB ?_ | refine ZC ?_ | refine ZD ?_ | refine ZE ?_ | refine ZF ?_ | refine ZG ?_ | refine ZH ?_)
    repeat (first | refine kEnd_m ?_ | refine kEnd_f ?_)
    refine kEnd_g ?_ (by first | exact .inl rfl | exact .inr rfl)
    exact Sub.eq rfl rfl
  rw [if_pos h2]
  obtain ⟨ha, hb, hl⟩ := twoRes_0.1 h2
  rw [h2] at T
  have C := dCount_d a
  rw [show dCountRes a = (((prodN (cl a) : Nat) : Int), 0) from if_pos ha] at C
  dsimp only at C
  obtain ⟨⟨l1, l3⟩, va, pa⟩ := domB_iff.1 ha
  have vb := (domB_iff.1 hb).2.1
  by_cases hz : prodN (cl a) = 0
  · rw [withinX_0 hz]
    rw [hz] at C
    refine DC.of Try.func46 Try.ntmps46 Try.results46 rfl (by decide +kernel) rfl ?_
    repeat (first | refine Z1 ?_ | refine Z2 ?_ | (refine Z3 ?_; (repeat (first | (apply gS; first | refine go_f ?_ | refine gx ?_ | refine gm ?_ | refine gp ?_ | refine go_c rfl rfl (T) ?_ | refine go_cF rfl rfl (T) ?_ | refine go_cA rfl rfl (T) ?_ | refine go_c rfl rfl (C) ?_ | refine go_cF rfl rfl (C) ?_ | refine go_cA rfl rfl (C) ?_) | (apply gZ; first | refine go_f ?_ | refine gx ?_ | refine gm ?_))); refine T_nil ?_) | (apply ZR; (try dsimp only [List.map_cons, List.map_nil]); refine C_dr mixed ?_; (repeat (first | (apply vS; first | refine va ?_ | refine vp ?_ | refine vr ?_ | refine vt ?_ | refine vc (T) ?_ | refine vcF (T) ?_ | refine vc (C) ?_ | refine vcF (C) ?_) | (apply vZ; first | refine vs ?_ | refine vw ?_))); refine W_e ?_) | (apply ZK; first | refine Z4 ?_ | refine Z5 ?_) | refine Z6 ?_ | refine Z7 ?_ | refine Z8 ?_ | refine Z9 ?_ | refine ZA ?_ | refine ZB ?_ | refine ZC ?_ | refine ZD ?_ | refine ZE ?_ | refine ZF ?_ | refine ZG ?_ | refine ZH ?_)
    repeat (first | refine kEnd_m ?_ | refine kEnd_f ?_)
    refine kEnd_g ?_ (by first | exact .inl rfl | exact .inr rfl)
    exact Sub.eq rfl rfl
  have hx : withinX a b = wAll a b := by
    rw [Bool.eq_iff_iff, wAll_iff hl va vb hz]
    unfold withinX
    exact decide_eq_true_iff
  rw [hx]
  have W : ∀ k (h1 : k < a.length) (h2 : k < b.length), DC Try.prog 120 [rD a[k], rD b[k]] (.tup [bD (withinB a[k] b[k]), iD 0]) := fun k h1 h2 => by
    have H := sWithin_d a[k] b[k]
    rwa [show withinRes a[k] b[k] = (withinB a[k] b[k], 0) from if_pos ⟨va _ (List.getElem_mem h1), vb _ (List.getElem_mem h2)⟩] at H
  have zl : (List.zipWith withinB a b).length = a.length := by simp [hl]
  generalize prodN (cl a) = n at *
  rcases first_bad id (List.zipWith withinB a b) with hs | ⟨q, hq, hbad, hmin⟩
  · rw [show wAll a b = true from all_yes hs]
    refine DC.of Try.func46 Try.ntmps46 Try.results46 rfl (by decide +kernel) rfl ?_
    repeat (first | refine Z1 ?_ | refine Z2 ?_ | (refine Z3 ?_; (repeat (first | (apply gS; first | refine go_f ?_ | refine gx ?_ | refine gm ?_ | refine gp ?_ | refine go_c rfl rfl (T) ?_ | refine go_cF rfl rfl (T) ?_ | refine go_cA rfl rfl (T) ?_ | refine go_c rfl rfl (C) ?_ | refine go_cF rfl rfl (C) ?_ | refine go_cA rfl rfl (C) ?_) | (apply gZ; first | refine go_f ?_ | refine gx ?_ | refine gm ?_))); refine T_nil ?_) | (apply ZR; (try dsimp only [List.map_cons, List.map_nil]); refine C_dr mixed ?_; (repeat (first | (apply vS; first | refine va ?_ | refine vp ?_ | refine vr ?_ | refine vt ?_ | refine vc (T) ?_ | refine vcF (T) ?_ | refine vc (C) ?_ | refine vcF (C) ?_) | (apply vZ; first | refine vs ?_ | refine vw ?_))); refine W_e ?_) | (apply ZK; first | refine Z4 ?_ | refine Z5 ?_) | refine Z6 ?_ | refine Z7 ?_ | refine Z8 ?_ | refine Z9 ?_ | refine ZA ?_ | refine ZB ?_ | refine ZC ?_ | refine ZD ?_ | refine ZE ?_ | refine ZF ?_ | refine ZG ?_ | refine ZH ?_)
    refine C_count a.length (fun _ => True) (fun k => ⟨2, 47, [(29, iD k), (28, iD a.length), (27, rowR a), (3, .ptr 1 0)], [(1, some ⟨24, 1, 1, [rowR b]⟩)]⟩) ?_ trivial ?_
    · exact Wk.gx (fun b => b)
    · intro k hk _
      by_cases hlt : k < a.length
      · have hkb : k < b.length := by omega
        have w := W k hlt hkb
        have hw := hs k (by omega)
        rw [List.getElem_zipWith] at hw
        rw [show withinB a[k] b[k] = true from hw] at w
        repeat (first | refine Z1 ?_ | refine Z2 ?_ | (refine Z3 ?_; (repeat (first | (apply gS; first | refine go_f ?_ | refine gx ?_ | refine gm ?_ | refine gp ?_ | refine go_c rfl rfl (w) ?_ | refine go_cF rfl rfl (w) ?_ | refine go_cA rfl rfl (w) ?_) | (apply gZ; first | refine go_f ?_ | refine gx ?_ | refine gm ?_))); refine T_nil ?_) | (apply ZR; (try dsimp only [List.map_cons, List.map_nil]); refine C_dr mixed ?_; (repeat (first | (apply vS; first | refine va ?_ | refine vp ?_ | refine vr ?_ | refine vt ?_ | refine vc (w) ?_ | refine vcF (w) ?_) | (apply vZ; first | refine vs ?_ | refine vw ?_))); refine W_e ?_) | (apply ZK; first | refine Z4 ?_ | refine Z5 ?_) | refine Z6 ?_ | refine Z7 ?_ | refine Z8 ?_ | refine Z9 ?_ | refine ZA ?_ | refine ZB ?_ | refine ZC ?_ | refine ZD ?_ | refine ZE ?_ | refine ZF ?_ | refine ZG ?_ | refine ZH ?_)
        refine kLoop_n ⟨hlt, trivial, ?_⟩
        exact Wk.gx (fun b => b)
      · repeat (first | refine Z1 ?_ | refine Z2 ?_ | (refine Z3 ?_; (repeat (first | (apply gS; first | refine go_f ?_ | refine gx ?_ | refine gm ?_ | refine gp ?_) | (apply gZ; first | refine go_f ?_ | refine gx ?_ | refine gm ?_))); refine T_nil ?_) | (apply ZR; (try dsimp only [List.map_cons, List.map_nil]); refine C_dr mixed ?_; (repeat (first | (apply vS; first | refine va ?_ | refine vp ?_ | refine vr ?_ | refine vt ?_) | (apply vZ; first | refine vs ?_ | refine vw ?_))); refine W_e ?_) | (apply ZK; first | refine Z4 ?_ | refine Z5 ?_) | refine Z6 ?_ | refine Z7 ?_ | refine Z8 ?_ | refine Z9 ?_ | refine ZA ?_ | refine ZB ?_ | refine ZC ?_ | refine ZD ?_ | refine ZE ?_ | refine ZF ?_ | refine ZG ?_ | refine ZH ?_)
        repeat (first | refine kEnd_m ?_ | refine kEnd_f ?_)
        refine kEnd_g ?_ (by first | exact .inl rfl | exact .inr rfl)
        exact Sub.eq rfl rfl
  · rw [show wAll a b = false from all_no hq hbad]
    rw [zl] at hq
    refine DC.of Try.func46 Try.ntmps46 Try.results46 rfl (by decide +kernel) rfl ?_
    repeat (first | refine Z1 ?_ | refine Z2 ?_ | (refine Z3 ?_; (repeat (first | (apply gS; first | refine go_f ?_ | refine gx ?_ | refine gm ?_ | refine gp ?_ | refine go_c rfl rfl (T) ?_ | refine go_cF rfl rfl (T) ?_ | refine go_cA rfl rfl (T) ?_ | refine go_c rfl rfl (C) ?_ | refine go_cF rfl rfl (C) ?_ | refine go_cA rfl rfl (C) ?_) | (apply gZ; first | refine go_f ?_ | refine gx ?_ | refine gm ?_))); refine T_nil ?_) | (apply ZR; (try dsimp only [List.map_cons, List.map_nil]); refine C_dr mixed ?_; (repeat (first | (apply vS; first | refine va ?_ | refine vp ?_ | refine vr ?_ | refine vt ?_ | refine vc (T) ?_ | refine vcF (T) ?_ | refine vc (C) ?_ | refine vcF (C) ?_) | (apply vZ; first | refine vs ?_ | refine vw ?_))); refine W_e ?_) | (apply ZK; first | refine Z4 ?_ | refine Z5 ?_) | refine Z6 ?_ | refine Z7 ?_ | refine Z8 ?_ | refine Z9 ?_ | refine ZA ?_ | refine ZB ?_ | refine ZC ?_ | refine ZD ?_ | refine ZE ?_ | refine ZF ?_ | refine ZG ?_ | refine ZH ?_)
    refine C_count q (fun _ => True) (fun k => ⟨2, 47, [(29, iD k), (28, iD a.length), (27, rowR a), (3, .ptr 1 0)], [(1, some ⟨24, 1, 1, [rowR b]⟩)]⟩) ?_ trivial ?_
    · exact Wk.gx (fun b => b)
    · intro k hk _
      have hka : k < a.length := by omega
      have hkb : k < b.length := by omega
      have w := W k hka hkb
      by_cases hlt : k < q
      · have hw := hmin k (by omega) hlt
        rw [List.getElem_zipWith] at hw
        rw [show withinB a[k] b[k] = true from hw] at w
        repeat (first | refine Z1 ?_ | refine Z2 ?_ | (refine Z3 ?_; (repeat (first | (apply gS; first | refine go_f ?_ | refine gx ?_ | refine gm ?_ | refine gp ?_ | refine go_c rfl rfl (w) ?_ | refine go_cF rfl rfl (w) ?_ | refine go_cA rfl rfl (w) ?_) | (apply gZ; first | refine go_f ?_ | refine gx ?_ | refine gm ?_))); refine T_nil ?_) | (apply ZR; (try dsimp only [List.map_cons, List.map_nil]); refine C_dr mixed ?_; (repeat (first | (apply vS; first | refine va ?_ | refine vp ?_ | refine vr ?_ | refine vt ?_ | refine vc (w) ?_ | refine vcF (w) ?_) | (apply vZ; first | refine vs ?_ | refine vw ?_))); refine W_e ?_) | (apply ZK; first | refine Z4 ?_ | refine Z5 ?_) | refine Z6 ?_ | refine Z7 ?_ | refine Z8 ?_ | refine Z9 ?_ | refine ZA ?_ | refine ZB ?_ | refine ZC ?_ | refine ZD ?_ | refine ZE ?_ | refine ZF ?_ | refine ZG ?_ | refine ZH ?_)
        refine kLoop_n ⟨hlt, trivial, ?_⟩
        exact Wk.gx (fun b => b)
      · obtain rfl : k = q := by omega
        rw [List.getElem_zipWith] at hbad
        rw [show withinB a[k] b[k] = false from hbad] at w
        repeat (first | refine Z1 ?_ | refine Z2 ?_ | (refine Z3 ?_; (repeat (first | (apply gS; first | refine go_f ?_ | refine gx ?_ | refine gm ?_ | refine gp ?_ | refine go_c rfl rfl (w) ?_ | refine go_cF rfl rfl (w) ?_ | refine go_cA rfl rfl (w) ?_) | (apply gZ; first | refine go_f ?_ | refine gx ?_ | refine gm ?_))); refine T_nil ?_) | (apply ZR; (try dsimp only [List.map_cons, List.map_nil]); refine C_dr mixed ?_; (repeat (first | (apply vS; first | refine va ?_ | refine vp ?_ | refine vr ?_ | refine vt ?_ | refine vc (w) ?_ | refine vcF (w) ?_) | (apply vZ; first | refine vs ?_ | refine vw ?_))); refine W_e ?_) | (apply ZK; first | refine Z4 ?_ | refine Z5 ?_) | refine Z6 ?_ | refine Z7 ?_ | refine Z8 ?_ | refine Z9 ?_ | refine ZA ?_ | refine ZB ?_ | refine ZC ?_ | refine ZD ?_ | refine ZE ?_ | refine ZF ?_ | refine ZG ?_ | refine ZH ?_)
        repeat (first | refine kEnd_m ?_ | refine kEnd_f ?_)
        refine kEnd_g ?_ (by first | exact .inl rfl | exact .inr rfl)
        exact Sub.eq rfl rfl
end Go.Proofs.Ytifapodobhkdcaa
namespace Go.Proofs.Ytifapodobhkdcaa
open Go.RowKit
set_option linter.unusedVariables false
set_option maxHeartbeats 16000000
set_option linter.unusedSimpArgs false
set_option maxRecDepth 100000
theorem rHas_b {r : Rg} (hv : vB r = true) (m : Int) {b : Bool} (h : placeB (rowOf r) m = b) : DC Try.prog 117 [rD r, iD m] (.tup [bD b, iD 0]) := by
  have H := rHas_d r m
  have hr := vB_ok' hv
  rcases has_memb hv m with ⟨e, hm⟩ | ⟨e, hm⟩
  · rw [e] at H
    rw [(memb_place hr m).1 hm] at h
    subst h; exact H
  · rw [e] at H
    cases b with
    | false => exact H
    | true => exact absurd ((memb_place hr m).2 h) hm
def inL (b : List Rg) (x : List Int) : List Bool := List.zipWith (fun r m => placeB (rowOf r) m) b x
theorem inL_all : ∀ {b : List Rg} {x : List Int}, x.length = b.length → (inL b x).all id = inB b x
  | [], [], _ => rfl
  | [], _ :: _, h => by simp at h
  | _ :: _, [], h => by simp at h
  | r :: b, m :: x, h => by
    show (placeB (rowOf r) m && (inL b x).all id) = _
    rw [inL_all (b := b) (x := x) (by simpa using h)]; rfl
end Go.Proofs.Ytifapodobhkdcaa
namespace Go.Proofs.Ytifapodobhkdcaa
open Go.RowKit
set_option linter.unusedVariables false
set_option maxHeartbeats 16000000
set_option linter.unusedSimpArgs false
set_option maxRecDepth 100000
theorem awake8_d : DC Try.prog 34 [] (bD true) := by
  have Z := zip_d [[⟨1, 3, 1⟩], [⟨10, 30, 10⟩]] (by decide)
  rw [show zipRes [[⟨1, 3, 1⟩], [⟨10, 30, 10⟩]] = ([[[1], [10]], [[2], [20]], [[3], [30]]], 0) by decide] at Z
  refine DC.of Try.func34 Try.ntmps34 Try.results34 rfl (by decide +kernel) rfl ?_
  repeat (first | refine Z1 ?_ | refine Z2 ?_ | (refine Z3 ?_; (repeat (first | (apply gS; first | refine go_no ?_ | refine go_f ?_ | refine gx ?_ | refine gm ?_ | refine gp ?_ | refine go_c rfl rfl (Z) ?_ | refine go_cF rfl rfl (Z) ?_ | refine go_cA rfl rfl (Z) ?_))); refine T_nil ?_) | (apply ZK; first | refine Z4 ?_ | refine Z5 ?_) | refine Z6 ?_ | refine Z7 ?_)
  repeat (first | refine kEnd_m ?_ | refine kEnd_f ?_)
  refine kEnd_g ?_ (by first | exact .inl rfl | exact .inr rfl)
  exact Sub.eq rfl rfl
def atRes (rs : List Rg) (a b : Int) : List (List Int) × Int := if domB rs = true then (if 0 ≤ a ∧ a ≤ b ∧ b ≤ (idxs rs).length then (((idxs rs).drop a.toNat).take (b.toNat - a.toNat), 0) else ([], 2)) else ([], 40)
theorem at_cases {a b n : Int} : (0 ≤ a ∧ a ≤ b ∧ b ≤ n) ∨ (¬ (0 ≤ a ∧ a ≤ b ∧ b ≤ n) ∧ (a < 0 ∨ 0 ≤ a ∧ (b < a ∨ a ≤ b ∧ n < b))) := by omega
end Go.Proofs.Ytifapodobhkdcaa
namespace Go.Proofs.Ytifapodobhkdcaa
open Go.RowKit
set_option linter.unusedVariables false
set_option maxHeartbeats 16000000
set_option linter.unusedSimpArgs false
set_option maxRecDepth 100000
abbrev chD (p : Int) (ps : List (List Rg)) : D := .agg [iD p, domsD ps]
def chB (p : Int) (ps : List (List Rg)) : Bool := ps.all domB && (decide (0 ≤ p) && decide (p < 8))
theorem iValid_d (p : Int) (ps : List (List Rg)) (hl : ps.length ≤ 9223372036854775806) : DC Try.prog 150 [chD p ps] (bD (chB p ps)) := by
  unfold chB
  rcases first_bad domB ps with hall | ⟨q, hq, hb, hmin⟩
  · rw [all_yes hall]
    rcases (show (0 ≤ p ∧ p < 8) ∨ (¬ 0 ≤ p ∧ p < 8) ∨ (0 ≤ p ∧ ¬ p < 8) by omega) with ⟨h0, h1⟩ | ⟨h0, h1⟩ | ⟨h0, h1⟩
    all_goals
      simp only [h0, h1, decide_true, decide_false, Bool.and_true, Bool.and_false, Bool.and_self]
      refine DC.of Try.func150 Try.ntmps150 Try.results150 rfl (by decide +kernel) rfl ?_
      repeat (first | refine Z1 ?_ | refine Z2 ?_ | (refine Z3 ?_; (repeat (first | (apply gS; first | refine go_no ?_ | refine go_f ?_ | refine gx ?_ | refine gm ?_ | refine gp ?_) | (apply gZ; first | refine go_f ?_ | refine gx ?_ | refine gm ?_))); refine T_nil ?_) | (apply ZK; first | refine Z4 ?_ | refine Z5 ?_) | refine Z6 ?_ | refine Z7 ?_ | refine Z8 ?_ | refine Z9 ?_ | refine ZA ?_ | refine ZB ?_ | refine ZC ?_ | refine ZD ?_ | refine ZE ?_ | refine ZF ?_ | refine ZG ?_ | refine ZH ?_)
      refine C_count ps.length (fun _ => True) (fun k => ⟨1, 24, [(8, iD k), (7, iD ps.length), (6, domsD ps), (1, .ptr 0 0)], [(0, some ⟨90, 2, 1, [iD p, domsD ps]⟩)]⟩) ?_ trivial ?_
      · exact Wk.gx (fun b => b)
      · intro k hk _
        by_cases hlt : k < ps.length
        · have V := dValid_b ps[k] (hall k hlt)
          repeat (first | refine Z1 ?_ | refine Z2 ?_ | (refine Z3 ?_; (repeat (first | (apply gS; first | refine go_no ?_ | refine go_f ?_ | refine gx ?_ | refine gm ?_ | refine gp ?_ | refine go_c rfl rfl (V) ?_ | refine go_cF rfl rfl (V) ?_ | refine go_cA rfl rfl (V) ?_) | (apply gZ; first | refine go_f ?_ | refine gx ?_ | refine gm ?_))); refine T_nil ?_) | (apply ZK; first | refine Z4 ?_ | refine Z5 ?_) | refine Z6 ?_ | refine Z7 ?_ | refine Z8 ?_ | refine Z9 ?_ | refine ZA ?_ | refine ZB ?_ | refine ZC ?_ | refine ZD ?_ | refine ZE ?_ | refine ZF ?_ | refine ZG ?_ | refine ZH ?_)
          refine kLoop_n ⟨hlt, trivial, ?_⟩
          exact Wk.gx (fun b => b)
        · repeat (first | refine Z1 ?_ | refine Z2 ?_ | (refine Z3 ?_; (repeat (first | (apply gS; first | refine go_no ?_ | refine go_f ?_ | refine gx ?_ | refine gm ?_ | refine gp ?_) | (apply gZ; first | refine go_f ?_ | refine gx ?_ | refine gm ?_))); refine T_nil ?_) | (apply ZK; first | refine Z4 ?_ | refine Z5 ?_) | refine Z6 ?_ | refine Z7 ?_ | refine Z8 ?_ | refine Z9 ?_ | refine ZA ?_ | refine ZB ?_ | refine ZC ?_ | refine ZD ?_ | refine ZE ?_ | refine ZF ?_ | refine ZG ?_ | refine ZH ?_)
          repeat (first | refine kEnd_m ?_ | refine kEnd_f ?_)
          refine kEnd_g ?_ (by first | exact .inl rfl | exact .inr rfl)
          exact Sub.eq rfl rfl
  · rw [all_no hq hb, Bool.false_and]
    refine DC.of Try.func150 Try.ntmps150 Try.results150 rfl (by decide +kernel) rfl ?_
    repeat (first | refine Z1 ?_ | refine Z2 ?_ | (refine Z3 ?_; (repeat (first | (apply gS; first | refine go_no ?_ | refine go_f ?_ | refine gx ?_ | refine gm ?_ | refine gp ?_) | (apply gZ; first | refine go_f ?_ | refine gx ?_ | refine gm ?_))); refine T_nil ?_) | (apply ZK; first | refine Z4 ?_ | refine Z5 ?_) | refine Z6 ?_ | refine Z7 ?_ | refine Z8 ?_ | refine Z9 ?_ | refine ZA ?_ | refine ZB ?_ | refine ZC ?_ | refine ZD ?_ | refine ZE ?_ | refine ZF ?_ | refine ZG ?_ | refine ZH ?_)
    refine C_count q (fun _ => True) (fun k => ⟨1, 24, [(8, iD k), (7, iD ps.length), (6, domsD ps), (1, .ptr 0 0)], [(0, some ⟨90, 2, 1, [iD p, domsD ps]⟩)]⟩) ?_ trivial ?_
    · exact Wk.gx (fun b => b)
    · intro k hk _
      have hkl : k < ps.length := by omega
      by_cases hlt : k < q
      · have V := dValid_b ps[k] (hmin k hkl hlt)
        repeat (first | refine Z1 ?_ | refine Z2 ?_ | (refine Z3 ?_; (repeat (first | (apply gS; first | refine go_no ?_ | refine go_f ?_ | refine gx ?_ | refine gm ?_ | refine gp ?_ | refine go_c rfl rfl (V) ?_ | refine go_cF rfl rfl (V) ?_ | refine go_cA rfl rfl (V) ?_) | (apply gZ; first | refine go_f ?_ | refine gx ?_ | refine gm ?_))); refine T_nil ?_) | (apply ZK; first | refine Z4 ?_ | refine Z5 ?_) | refine Z6 ?_ | refine Z7 ?_ | refine Z8 ?_ | refine Z9 ?_ | refine ZA ?_ | refine ZB ?_ | refine ZC ?_ | refine ZD ?_ | refine ZE ?_ | refine ZF ?_ | refine ZG ?_ | refine ZH ?_)
        refine kLoop_n ⟨hlt, trivial, ?_⟩
        exact Wk.gx (fun b => b)
      · obtain rfl : k = q := by omega
        have V := dValid_b ps[k] hb
        repeat (first | refine Z1 ?_ | refine Z2 ?_ | (refine Z3 ?_; (repeat (first | (apply gS; first | refine go_no ?_ | refine go_f ?_ | refine gx ?_ | refine gm ?_ | refine gp ?_ | refine go_c rfl rfl (V) ?_ | refine go_cF rfl rfl (V) ?_ | refine go_cA rfl rfl (V) ?_) | (apply gZ; first | refine go_f ?_ | refine gx ?_ | refine gm ?_))); refine T_nil ?_) | (apply ZK; first | refine Z4 ?_ | refine Z5 ?_) | refine Z6 ?_ | refine Z7 ?_ | refine Z8 ?_ | refine Z9 ?_ | refine ZA ?_ | refine ZB ?_ | refine ZC ?_ | refine ZD ?_ | refine ZE ?_ | refine ZF ?_ | refine ZG ?_ | refine ZH ?_)
        repeat (first | refine kEnd_m ?_ | refine kEnd_f ?_)
        refine kEnd_g ?_ (by first | exact .inl rfl | exact .inr rfl)
        exact Sub.eq rfl rfl
theorem rIsChunk_d (p : Int) (ps : List (List Rg)) (hl : ps.length ≤ 9223372036854775806) : DC Try.prog 152 [chD p ps] (bD (chB p ps)) := by
  unfold chB
  by_cases h0 : 0 ≤ p
  case neg =>
    rw [decide_eq_false h0, Bool.false_and, Bool.and_false]
    refine DC.of Try.func152 Try.ntmps152 Try.results152 rfl (by decide +kernel) rfl ?_
    repeat (first | refine Z1 ?_ | refine Z2 ?_ | (refine Z3 ?_; (repeat (first | (apply gS; first | refine go_no ?_ | refine go_f ?_ | refine gx ?_ | refine gm ?_ | refine gp ?_))); refine T_nil ?_) | (apply ZK; first | refine Z4 ?_ | refine Z5 ?_) | refine Z6 ?_ | refine Z7 ?_ | refine Z8 ?_ | refine Z9 ?_ | refine ZA ?_ | refine ZB ?_ | refine ZC ?_ | refine ZD ?_ | refine ZE ?_ | refine ZF ?_ | refine ZG ?_ | refine ZH ?_)
    repeat (first | refine kEnd_m ?_ | refine kEnd_f ?_)
    refine kEnd_g ?_ (by first | exact .inl rfl | exact .inr rfl)
    exact Sub.eq rfl rfl
  by_cases h1 : p < 8
  case neg =>
    rw [decide_eq_false h1, Bool.and_false, Bool.and_false]
    refine DC.of Try.func152 Try.ntmps152 Try.results152 rfl (by decide +kernel) rfl ?_
    repeat (first | refine Z1 ?_ | refine Z2 ?_ | (refine Z3 ?_; (repeat (first | (apply gS; first | refine go_no ?_ | refine go_f ?_ | refine gx ?_ | refine gm ?_ | refine gp ?_))); refine T_nil ?_) | (apply ZK; first | refine Z4 ?_ | refine Z5 ?_) | refine Z6 ?_ | refine Z7 ?_ | refine Z8 ?_ | refine Z9 ?_ | refine ZA ?_ | refine ZB ?_ | refine ZC ?_ | refine ZD ?_ | refine ZE ?_ | refine ZF ?_ | refine ZG ?_ | refine ZH ?_)
    repeat (first | refine kEnd_m ?_ | refine kEnd_f ?_)
    refine kEnd_g ?_ (by first | exact .inl rfl | exact .inr rfl)
    exact Sub.eq rfl rfl
  rw [decide_eq_true h0, decide_eq_true h1, Bool.and_true, Bool.and_true]
  rcases first_bad domB ps with hall | ⟨q, hq, hb, hmin⟩
  · rw [all_yes hall]
    refine DC.of Try.func152 Try.ntmps152 Try.results152 rfl (by decide +kernel) rfl ?_
    repeat (first | refine Z1 ?_ | refine Z2 ?_ | (refine Z3 ?_; (repeat (first | (apply gS; first | refine go_no ?_ | refine go_f ?_ | refine gx ?_ | refine gm ?_ | refine gp ?_))); refine T_nil ?_) | (apply ZK; first | refine Z4 ?_ | refine Z5 ?_) | refine Z6 ?_ | refine Z7 ?_ | refine Z8 ?_ | refine Z9 ?_ | refine ZA ?_ | refine ZB ?_ | refine ZC ?_ | refine ZD ?_ | refine ZE ?_ | refine ZF ?_ | refine ZG ?_ | refine ZH ?_)
    refine C_count ps.length (fun _ => True) (fun k => ⟨1, 26, [(3, iD k), (1, .ptr 0 0)], [(0, some ⟨90, 2, 1, [iD p, domsD ps]⟩)]⟩) ?_ trivial ?_
    · exact Wk.gx (fun b => b)
    · intro k hk _
      by_cases hlt : k < ps.length
      · have V := rdValid_b ps[k] (hall k hlt)
        repeat (first | refine Z1 ?_ | refine Z2 ?_ | (refine Z3 ?_; (repeat (first | (apply gS; first | refine go_no ?_ | refine go_f ?_ | refine gx ?_ | refine gm ?_ | refine gp ?_ | refine go_c rfl rfl (V) ?_ | refine go_cF rfl rfl (V) ?_ | refine go_cA rfl rfl (V) ?_))); refine T_nil ?_) | (apply ZK; first | refine Z4 ?_ | refine Z5 ?_) | refine Z6 ?_ | refine Z7 ?_ | refine Z8 ?_ | refine Z9 ?_ | refine ZA ?_ | refine ZB ?_ | refine ZC ?_ | refine ZD ?_ | refine ZE ?_ | refine ZF ?_ | refine ZG ?_ | refine ZH ?_)
        refine kLoop_n ⟨hlt, trivial, ?_⟩
        exact Wk.gx (fun b => b)
      · repeat (first | refine Z1 ?_ | refine Z2 ?_ | (refine Z3 ?_; (repeat (first | (apply gS; first | refine go_no ?_ | refine go_f ?_ | refine gx ?_ | refine gm ?_ | refine gp ?_))); refine T_nil ?_) | (apply ZK; first | refine Z4 ?_ | refine Z5 ?_) | refine Z6 ?_ | refine Z7 ?_ | refine Z8 ?_ | refine Z9 ?_ | refine ZA ?_ | refine ZB ?_ | refine ZC ?_ | refine ZD ?_ | refine ZE ?_ | refine ZF ?_ | refine ZG ?_ | refine ZH ?_)
        repeat (first | refine kEnd_m ?_ | refine kEnd_f ?_)
        refine kEnd_g ?_ (by first | exact .inl rfl | exact .inr rfl)
        exact Sub.eq rfl rfl
  · rw [all_no hq hb]
    refine DC.of Try.func152 Try.ntmps152 Try.results152 rfl (by decide +kernel) rfl ?_
    repeat (first | refine Z1 ?_ | refine Z2 ?_ | (refine Z3 ?_; (repeat (first | (apply gS; first | refine go_no ?_ | refine go_f ?_ | refine gx ?_ | refine gm ?_ | refine gp ?_))); refine T_nil ?_) | (apply ZK; first | refine Z4 ?_ | refine Z5 ?_) | refine Z6 ?_ | refine Z7 ?_ | refine Z8 ?_ | refine Z9 ?_ | refine ZA ?_ | refine ZB ?_ | refine ZC ?_ | refine ZD ?_ | refine ZE ?_ | refine ZF ?_ | refine ZG ?_ | refine ZH ?_)
    refine C_count q (fun _ => True) (fun k => ⟨1, 26, [(3, iD k), (1, .ptr 0 0)], [(0, some ⟨90, 2, 1, [iD p, domsD ps]⟩)]⟩) ?_ trivial ?_
    · exact Wk.gx (fun b => b)
    · intro k hk _
      have hkl : k < ps.length := by omega
      by_cases hlt : k < q
      · have V := rdValid_b ps[k] (hmin k hkl hlt)
        repeat (first | refine Z1 ?_ | refine Z2 ?_ | (refine Z3 ?_; (repeat (first | (apply gS; first | refine go_no ?_ | refine go_f ?_ | refine gx ?_ | refine gm ?_ | refine gp ?_ | refine go_c rfl rfl (V) ?_ | refine go_cF rfl rfl (V) ?_ | refine go_cA rfl rfl (V) ?_))); refine T_nil ?_) | (apply ZK; first | refine Z4 ?_ | refine Z5 ?_) | refine Z6 ?_ | refine Z7 ?_ | refine Z8 ?_ | refine Z9 ?_ | refine ZA ?_ | refine ZB ?_ | refine ZC ?_ | refine ZD ?_ | refine ZE ?_ | refine ZF ?_ | refine ZG ?_ | refine ZH ?_)
        refine kLoop_n ⟨hlt, trivial, ?_⟩
        exact Wk.gx (fun b => b)
      · obtain rfl : k = q := by omega
        have V := rdValid_b ps[k] hb
        repeat (first | refine Z1 ?_ | refine Z2 ?_ | (refine Z3 ?_; (repeat (first | (apply gS; first | refine go_no ?_ | refine go_f ?_ | refine gx ?_ | refine gm ?_ | refine gp ?_ | refine go_c rfl rfl (V) ?_ | refine go_cF rfl rfl (V) ?_ | refine go_cA rfl rfl (V) ?_))); refine T_nil ?_) | (apply ZK; first | refine Z4 ?_ | refine Z5 ?_) | refine Z6 ?_ | refine Z7 ?_ | refine Z8 ?_ | refine Z9 ?_ | refine ZA ?_ | refine ZB ?_ | refine ZC ?_ | refine ZD ?_ | refine ZE ?_ | refine ZF ?_ | refine ZG ?_ | refine ZH ?_)
        repeat (first | refine kEnd_m ?_ | refine kEnd_f ?_)
        refine kEnd_g ?_ (by first | exact .inl rfl | exact .inr rfl)
        exact Sub.eq rfl rfl
def allX (ps : List (List Rg)) : List (List Int) := ps.flatMap idxs
theorem allX_snoc {ps : List (List Rg)} {k : Nat} (h : k < ps.length) : (allX (ps.take (k + 1))).length = (allX (ps.take k)).length + (idxs ps[k]).length ∧ (allX (ps.take (k + 1))).map rowI = (allX (ps.take k)).map rowI ++ (idxs ps[k]).map rowI := by
  have e : allX (ps.take (k + 1)) = allX (ps.take k) ++ idxs ps[k] := by unfold allX; rw [List.take_succ_eq_append_getElem h, List.flatMap_append]; simp
  rw [e]
  exact ⟨by simp, by simp⟩
theorem allX_cap : ∀ {ps : List (List Rg)}, (∀ d ∈ ps, domB d = true) → (allX ps).length ≤ ps.length * 4096
  | [], _ => by simp [allX]
  | d :: ps, h => by
    have h1 := (domB_iff.1 (h d (by simp))).2.2
    have h2 := allX_cap (ps := ps) fun x hx => h x (by simp [hx])
    show (idxs d ++ allX ps).length ≤ _
    rw [List.length_append, idxs_len, List.length_cons]
    omega
theorem indexes_ok {d : List Rg} (h : domB d = true) : DC Try.prog 25 [domD d] (.tup [rowL2 (idxs d), iD 0]) := by
  have H := dIndexes_d d
  rwa [show dIndexesRes d = (idxs d, 0) from if_pos h] at H
theorem rIndexes_ok {d : List Rg} (h : domB d = true) : DC Try.prog 114 [domD d] (.tup [rowL2 (idxs d), iD 0]) := by
  have H := rdIndexes_d d
  rwa [show dIndexesRes d = (idxs d, 0) from if_pos h] at H
theorem iIndexes_d (p : Int) (ps : List (List Rg)) (hl : ps.length ≤ 1000000000) (hall : ∀ d ∈ ps, domB d = true) : DC Try.prog 151 [chD p ps] (rowL2 (allX ps)) := by
  refine DC.of Try.func151 Try.ntmps151 Try.results151 rfl (by decide +kernel) rfl ?_
  repeat (first | refine Z1 ?_ | refine Z2 ?_ | (refine Z3 ?_; (repeat (first | (apply gS; first | refine go_f ?_ | refine gx ?_ | refine gm ?_ | refine gp ?_) | (apply gZ; first | refine go_f ?_ | refine gx ?_ | refine gm ?_))); refine T_nil ?_) | (apply ZK; first | refine Z4 ?_ | refine Z5 ?_) | refine Z6 ?_ | refine Z7 ?_ | refine Z8 ?_ | refine Z9 ?_ | refine ZA ?_ | refine ZB ?_ | refine ZC ?_ | refine ZD ?_ | refine ZE ?_ | refine ZF ?_ | refine ZG ?_ | refine ZH ?_)
  refine C_count ps.length (fun _ => True) (fun k => ⟨2, 25, [(11, iD k), (10, iD ps.length), (9, domsD ps), (3, .own 1 (allX (ps.take k)).length)], [(1, some ⟨25, 1, (allX (ps.take k)).length, (allX (ps.take k)).map rowI⟩)]⟩) ?_ trivial ?_
  · refine Wk.trans (Wk.adoptT 3 25 1 rfl) ?_
    exact Wk.gx (fun b => b)
  · intro k hk _
    by_cases hlt : k < ps.length
    · have I := indexes_ok (hall _ (List.getElem_mem hlt))
      obtain ⟨e1, en⟩ := allX_snoc hlt
      have cap := allX_cap (ps := ps.take (k + 1)) fun d hd => hall d (List.mem_of_mem_take hd)
      rw [List.length_take, Nat.min_eq_left (by omega)] at cap
      repeat (first | refine Z1 ?_ | refine Z2 ?_ | (refine Z3 ?_; (repeat (first | (apply gS; first | refine go_f ?_ | refine gx ?_ | refine gm ?_ | refine gp ?_ | refine go_c rfl rfl (I) ?_ | refine go_cF rfl rfl (I) ?_ | refine go_cA rfl rfl (I) ?_) | (apply gZ; first | refine go_f ?_ | refine gx ?_ | refine gm ?_))); refine T_nil ?_) | (apply ZK; first | refine Z4 ?_ | refine Z5 ?_) | refine Z6 ?_ | refine Z7 ?_ | refine Z8 ?_ | refine Z9 ?_ | refine ZA ?_ | refine ZB ?_ | refine ZC ?_ | refine ZD ?_ | refine ZE ?_ | refine ZF ?_ | refine ZG ?_ | refine ZH ?_)
      refine kLoop_n ⟨hlt, trivial, ?_⟩
      exact Wk.gx (fun b => cond (Nat.beq b 1) 3 (b))
    · obtain rfl : k = ps.length := by omega
      rw [List.take_length]
      repeat (first | refine Z1 ?_ | refine Z2 ?_ | (refine Z3 ?_; (repeat (first | (apply gS; first | refine go_f ?_ | refine gx ?_ | refine gm ?_ | refine gp ?_) | (apply gZ; first | refine go_f ?_ | refine gx ?_ | refine gm ?_))); refine T_nil ?_) | (apply ZK; first | refine Z4 ?_ | refine Z5 ?_) | refine Z6 ?_ | refine Z7 ?_ | refine Z8 ?_ | refine Z9 ?_ | refine ZA ?_ | refine ZB ?_ | refine ZC ?_ | refine ZD ?_ | refine ZE ?_ | refine ZF ?_ | refine ZG ?_ | refine ZH ?_)
      repeat (first | refine kEnd_m ?_ | refine kEnd_f ?_)
      refine kEnd_g ?_ (by first | exact .inl rfl | exact .inr rfl)
      exact Sub.eq rfl rfl
theorem rIndexes8_d (p : Int) (ps : List (List Rg)) (hl : ps.length ≤ 1000000000) (hc : chB p ps = true) : DC Try.prog 87 [chD p ps] (.tup [rowL2 (allX ps), iD 0]) := by
  have V := rIsChunk_d p ps (by omega)
  rw [hc] at V
  have hall : ∀ d ∈ ps, domB d = true := by
    unfold chB at hc
    rw [Bool.and_eq_true] at hc
    exact List.all_eq_true.1 hc.1
  clear hc
  refine DC.of Try.func87 Try.ntmps87 Try.results87 rfl (by decide +kernel) rfl ?_
  repeat (first | refine Z1 ?_ | refine Z2 ?_ | (refine Z3 ?_; (repeat (first | (apply gS; first | refine go_f ?_ | refine gx ?_ | refine gm ?_ | refine gp ?_ | refine go_c rfl rfl (V) ?_ | refine go_cF rfl rfl (V) ?_ | refine go_cA rfl rfl (V) ?_))); refine T_nil ?_) | (apply ZK; first | refine Z4 ?_ | refine Z5 ?_) | refine Z6 ?_ | refine Z7 ?_ | refine Z8 ?_ | refine Z9 ?_ | refine ZA ?_ | refine ZB ?_ | refine ZC ?_ | refine ZD ?_ | refine ZE ?_ | refine ZF ?_ | refine ZG ?_ | refine ZH ?_)
  refine C_count ps.length (fun _ => True) (fun k => ⟨2, 31, [(5, iD k), (4, .own 1 (allX (ps.take k)).length), (1, .ptr 0 0)], [(0, some ⟨90, 2, 1, [iD p, domsD ps]⟩), (1, some ⟨25, 1, (allX (ps.take k)).length, (allX (ps.take k)).map rowI⟩)]⟩) ?_ trivial ?_
  · refine Wk.trans (Wk.adoptT 4 25 1 rfl) ?_
    exact Wk.gx (fun b => b)
  · intro k hk _
    by_cases hlt : k < ps.length
    · have I := rIndexes_ok (hall _ (List.getElem_mem hlt))
      obtain ⟨e1, en⟩ := allX_snoc hlt
      have cap := allX_cap (ps := ps.take (k + 1)) fun d hd => hall d (List.mem_of_mem_take hd)
      rw [List.length_take, Nat.min_eq_left (by omega)] at cap
      repeat (first | refine Z1 ?_ | refine Z2 ?_ | (refine Z3 ?_; (repeat (first | (apply gS; first | refine go_f ?_ | refine gx ?_ | refine gm ?_ | refine gp ?_ | refine go_c rfl rfl (I) ?_ | refine go_cF rfl rfl (I) ?_ | refine go_cA rfl rfl (I) ?_))); refine T_nil ?_) | (apply ZK; first | refine Z4 ?_ | refine Z5 ?_) | refine Z6 ?_ | refine Z7 ?_ | refine Z8 ?_ | refine Z9 ?_ | refine ZA ?_ | refine ZB ?_ | refine ZC ?_ | refine ZD ?_ | refine ZE ?_ | refine ZF ?_ | refine ZG ?_ | refine ZH ?_)
      refine kLoop_n ⟨hlt, trivial, ?_⟩
      exact Wk.gx (fun b => cond (Nat.beq b 1) 2 (b))
    · obtain rfl : k = ps.length := by omega
      rw [List.take_length]
      repeat (first | refine Z1 ?_ | refine Z2 ?_ | (refine Z3 ?_; (repeat (first | (apply gS; first | refine go_f ?_ | refine gx ?_ | refine gm ?_ | refine gp ?_))); refine T_nil ?_) | (apply ZK; first | refine Z4 ?_ | refine Z5 ?_) | refine Z6 ?_ | refine Z7 ?_ | refine Z8 ?_ | refine Z9 ?_ | refine ZA ?_ | refine ZB ?_ | refine ZC ?_ | refine ZD ?_ | refine ZE ?_ | refine ZF ?_ | refine ZG ?_ | refine ZH ?_)
      repeat (first | refine kEnd_m ?_ | refine kEnd_f ?_)
      refine kEnd_g ?_ (by first | exact .inl rfl | exact .inr rfl)
      exact Sub.tup (.cons (Sub.eq rfl rfl) (.cons (Sub.eq rfl rfl) .nil))
end Go.Proofs.Ytifapodobhkdcaa
