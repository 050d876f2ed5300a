/- The law IterFollows returns true for every input: Follow of the program is that of the reference, for domains of at most 600 indexes. -/
import Derived.Test.YtfkojkciobdeoaaR4
import Derived.Test.YtfkojkciobdeoaaS11
import Derived.Test.YtfkojkciobdeoaaFirst
import Derived.Test.YtfkojkciobdeoaaI2
import Derived.Test.YtfkojkciobdeoaaCameD
namespace Go.Proofs.Ytfkojkciobdeoaa
open Go.RowKit
set_option linter.unusedVariables false
set_option maxHeartbeats 16000000
set_option linter.unusedSimpArgs false
set_option maxRecDepth 100000
def twoRes (a b : List Rg) : Int := if domB a = true ∧ domB b = true then (if a.length = b.length then 0 else 2) else 40
theorem two_d (a b : List Rg) : DC Try.prog 82 [domD a, domD b] (iD (twoRes a b)) := by
  have VA := dValid_b a (b := domB a) rfl
  have VB := dValid_b b (b := domB b) rfl
  unfold twoRes
  cases ha : domB a <;> cases hb : domB b <;> rw [ha] at VA <;> rw [hb] at VB
  all_goals
    simp only [Bool.false_eq_true, and_false, false_and, and_self, if_true, if_false]
    try
      by_cases hl : a.length = b.length
    all_goals
      try (first | rw [if_pos hl] | rw [if_neg hl])
      try have hl' : (a.length : Int) = b.length := by omega
      try have hl' : ¬ (a.length : Int) = b.length := by omega
      refine DC.of Try.func82 Try.ntmps82 Try.results82 rfl (by decide +kernel) rfl ?_
      repeat (first | refine Z1 ?_ | refine Z2 ?_ | (refine Z3 ?_; (repeat (first | (apply gS; first | refine go_no ?_ | refine go_f ?_ | refine gm ?_ | refine gp ?_ | refine go_c rfl rfl (VA) ?_ | refine go_c rfl rfl (VB) ?_))); refine T_nil ?_) | (apply ZK; first | refine Z4 ?_ | refine Z5 ?_) | refine Z6 ?_ | refine Z7 ?_ | refine Z8 ?_ | refine Z9 ?_ | refine ZA ?_ | refine ZB ?_ | refine ZC ?_ | refine ZF ?_)
      repeat (first | refine kEnd_m ?_ | refine kEnd_f ?_)
      refine kEnd_g ?_ (by first | exact .inl rfl | exact .inr rfl)
      exact Sub.eq rfl rfl
theorem rTwo_d (a b : List Rg) : DC Try.prog 134 [domD a, domD b] (iD (twoRes a b)) := by
  have VA := rdValid_b a (b := domB a) rfl
  have VB := rdValid_b b (b := domB b) rfl
  unfold twoRes
  cases ha : domB a <;> cases hb : domB b <;> rw [ha] at VA <;> rw [hb] at VB
  all_goals
    simp only [Bool.false_eq_true, and_false, false_and, and_self, if_true, if_false]
    try
      by_cases hl : a.length = b.length
    all_goals
      try (first | rw [if_pos hl] | rw [if_neg hl])
      try have hl' : (a.length : Int) = b.length := by omega
      try have hl' : ¬ (a.length : Int) = b.length := by omega
      refine DC.of Try.func134 Try.ntmps134 Try.results134 rfl (by decide +kernel) rfl ?_
      repeat (first | refine Z1 ?_ | refine Z2 ?_ | (refine Z3 ?_; (repeat (first | (apply gS; first | refine go_no ?_ | refine go_f ?_ | refine gm ?_ | refine gp ?_ | refine go_c rfl rfl (VA) ?_ | refine go_c rfl rfl (VB) ?_))); refine T_nil ?_) | (apply ZK; first | refine Z4 ?_ | refine Z5 ?_) | refine Z6 ?_ | refine Z7 ?_ | refine Z8 ?_ | refine Z9 ?_ | refine ZA ?_ | refine ZB ?_ | refine ZC ?_ | refine ZF ?_)
      repeat (first | refine kEnd_m ?_ | refine kEnd_f ?_)
      refine kEnd_g ?_ (by first | exact .inl rfl | exact .inr rfl)
      exact Sub.eq rfl rfl
/-! ### the law -/
def wAll (a b : List Rg) : Bool := (List.zipWith withinB a b).all id
theorem memN_memb {r : Rg} (hv : vB r = true) {m : Int} : m ∈ memN r ↔ Memb r m := by
  have hi := cN_int hv
  unfold memN rowL Memb
  rw [List.mem_map]
  constructor
  · rintro ⟨i, h, e⟩
    rw [List.mem_range] at h
    exact ⟨i, by omega, e⟩
  · rintro ⟨i, h, e⟩
    exact ⟨i, List.mem_range.2 (by omega), e⟩
theorem withinB_mem {r s : Rg} (hr : vB r = true) (hs : vB s = true) : withinB r s = true ↔ ∀ m ∈ memN r, placeB (rowOf s) m = true := by
  rw [withinB_iff (vB_ok' hr) (vB_ok' hs)]
  constructor
  · intro h m hm
    obtain ⟨i, hi, rfl⟩ := (memN_memb hr).1 hm
    exact (memb_place (vB_ok' hs) _).1 (h i hi)
  · intro h i hi
    exact (memb_place (vB_ok' hs) _).2 (h _ ((memN_memb hr).2 ⟨i, hi, rfl⟩))
theorem wAll_iff : ∀ {a b : List Rg}, a.length = b.length → (∀ r ∈ a, vB r = true) → (∀ r ∈ b, vB r = true) → prodN (cl a) ≠ 0 → (wAll a b = true ↔ ∀ x ∈ idxs a, inB b x = true)
  | [], [], _, _, _, _ => by simp [wAll, idxs, inB]
  | r :: a, s :: b, hl, ha, hb, hz => by
    have hz' : cN r * prodN (cl a) ≠ 0 := hz
    have h1 : cN r ≠ 0 := fun e => hz' (by rw [e, Nat.zero_mul])
    have h2 : prodN (cl a) ≠ 0 := fun e => hz' (by rw [e, Nat.mul_zero])
    have ih := wAll_iff (a := a) (b := b) (by simpa using hl) (fun r h => ha r (by simp [h])) (fun r h => hb r (by simp [h])) h2
    obtain ⟨m0, hm0⟩ : ∃ m, m ∈ memN r := List.exists_mem_of_length_pos (by rw [memN_len]; omega)
    obtain ⟨x0, hx0⟩ : ∃ x, x ∈ idxs a := List.exists_mem_of_length_pos (by rw [idxs_len]; omega)
    have e : wAll (r :: a) (s :: b) = (withinB r s && wAll a b) := rfl
    rw [e, Bool.and_eq_true, ih, withinB_mem (ha r (by simp)) (hb s (by simp))]
    constructor
    · rintro ⟨k1, k2⟩ x hx
      obtain ⟨m, hm, hx⟩ := List.mem_flatMap.1 hx
      obtain ⟨y, hy, rfl⟩ := List.mem_map.1 hx
      simp only [inB, k1 m hm, k2 y hy, Bool.and_self]
    · intro h
      have h' : ∀ m ∈ memN r, ∀ y ∈ idxs a, placeB (rowOf s) m = true ∧ inB b y = true := fun m hm y hy => by
        have := h (m :: y) (List.mem_flatMap.2 ⟨m, hm, List.mem_map.2 ⟨y, hy, rfl⟩⟩)
        simpa [inB] using this
      exact ⟨fun m hm => (h' m hm x0 hx0).1, fun y hy => (h' m0 hm0 y hy).2⟩
def withinX (a b : List Rg) : Bool := decide (∀ x ∈ idxs a, inB b x = true)
def dWithinRes (a b : List Rg) : Bool × Int := if twoRes a b = 0 then (withinX a b, 0) else (false, twoRes a b)
theorem withinX_0 {a b : List Rg} (h : prodN (cl a) = 0) : withinX a b = true := decide_eq_true fun x hx => by
  have : idxs a = [] := List.eq_nil_of_length_eq_zero (by rw [idxs_len]; exact h)
  rw [this] at hx; simp at hx
theorem twoRes_0 {a b : List Rg} : twoRes a b = 0 ↔ domB a = true ∧ domB b = true ∧ a.length = b.length := by
  unfold twoRes
  split
  · rename_i h
    split
    · rename_i hl; simp [h, hl]
    · rename_i hl; simp [h, hl]
  · rename_i h
    constructor
    · intro h; cases h
    · rintro ⟨h1, h2, _⟩; exact absurd ⟨h1, h2⟩ h
theorem dWithin_d (a b : List Rg) : DC Try.prog 73 [domD a, domD b] (.tup [bD (dWithinRes a b).1, iD (dWithinRes a b).2]) := by
  have T := two_d a b
  unfold dWithinRes
  by_cases h2 : twoRes a b = 0
  case neg =>
    rw [if_neg h2]
    refine DC.of Try.func73 Try.ntmps73 Try.results73 rfl (by decide +kernel) rfl ?_
    repeat (first | refine Z1 ?_ | refine Z2 ?_ | (refine Z3 ?_; (repeat (first | (apply gS; first | refine go_f ?_ | refine gm ?_ | refine gp ?_ | refine go_c rfl rfl (T) ?_) | (apply gZ; first | refine go_f ?_ | refine gm ?_))); refine T_nil ?_) | (apply ZR; refine C_dr mixed ?_; (repeat (first | (apply vS; first | refine va ?_ | refine vp ?_ | refine vr ?_ | refine vt ?_ | refine vc (T) ?_) | (apply vZ; refine vs ?_))); refine W_e ?_) | (apply ZK; first | refine Z4 ?_ | refine Z5 ?_) | refine Z6 ?_ | refine Z7 ?_ | refine Z8 ?_ | refine Z9 ?_ | refine ZA ?_ | refine ZB ?_ | refine ZC ?_ | refine ZD ?_ | refine ZE ?_ | refine ZF ?_ | refine ZG ?_ | refine ZH ?_)
    repeat (first | refine kEnd_m ?_ | refine kEnd_f ?_)
    refine kEnd_g ?_ (by first | exact .inl rfl | exact .inr rfl)
    exact Sub.eq rfl rfl
  rw [if_pos h2]
  obtain ⟨ha, hb, hl⟩ := twoRes_0.1 h2
  rw [h2] at T
  have C := dCount_d a
  rw [show dCountRes a = (((prodN (cl a) : Nat) : Int), 0) from if_pos ha] at C
  dsimp only at C
  obtain ⟨⟨l1, l3⟩, va, pa⟩ := domB_iff.1 ha
  have vb := (domB_iff.1 hb).2.1
  by_cases hz : prodN (cl a) = 0
  · rw [withinX_0 hz]
    rw [hz] at C
    refine DC.of Try.func73 Try.ntmps73 Try.results73 rfl (by decide +kernel) rfl ?_
    repeat (first | refine Z1 ?_ | refine Z2 ?_ | (refine Z3 ?_; (repeat (first | (apply gS; first | refine go_f ?_ | refine gm ?_ | refine gp ?_ | refine go_c rfl rfl (T) ?_ | refine go_c rfl rfl (C) ?_) | (apply gZ; first | refine go_f ?_ | refine gm ?_))); refine T_nil ?_) | (apply ZR; refine C_dr mixed ?_; (repeat (first | (apply vS; first | refine va ?_ | refine vp ?_ | refine vr ?_ | refine vt ?_ | refine vc (T) ?_ | refine vc (C) ?_) | (apply vZ; refine vs ?_))); refine W_e ?_) | (apply ZK; first | refine Z4 ?_ | refine Z5 ?_) | refine Z6 ?_ | refine Z7 ?_ | refine Z8 ?_ | refine Z9 ?_ | refine ZA ?_ | refine ZB ?_ | refine ZC ?_ | refine ZD ?_ | refine ZE ?_ | refine ZF ?_ | refine ZG ?_ | refine ZH ?_)
    repeat (first | refine kEnd_m ?_ | refine kEnd_f ?_)
    refine kEnd_g ?_ (by first | exact .inl rfl | exact .inr rfl)
    exact Sub.eq rfl rfl
  have hx : withinX a b = wAll a b := by
    rw [Bool.eq_iff_iff, wAll_iff hl va vb hz]
    unfold withinX
    exact decide_eq_true_iff
  rw [hx]
  have W : ∀ k (h1 : k < a.length) (h2 : k < b.length), DC Try.prog 108 [rD a[k], rD b[k]] (.tup [bD (withinB a[k] b[k]), iD 0]) := fun k h1 h2 => by
    have H := sWithin_d a[k] b[k]
    rwa [show withinRes a[k] b[k] = (withinB a[k] b[k], 0) from if_pos ⟨va _ (List.getElem_mem h1), vb _ (List.getElem_mem h2)⟩] at H
  have zl : (List.zipWith withinB a b).length = a.length := by simp [hl]
  generalize prodN (cl a) = n at *
  rcases first_bad id (List.zipWith withinB a b) with hs | ⟨q, hq, hbad, hmin⟩
  · rw [show wAll a b = true from all_yes hs]
    refine DC.of Try.func73 Try.ntmps73 Try.results73 rfl (by decide +kernel) rfl ?_
    repeat (first | refine Z1 ?_ | refine Z2 ?_ | (refine Z3 ?_; (repeat (first | (apply gS; first | refine go_f ?_ | refine gm ?_ | refine gp ?_ | refine go_c rfl rfl (T) ?_ | refine go_c rfl rfl (C) ?_) | (apply gZ; first | refine go_f ?_ | refine gm ?_))); refine T_nil ?_) | (apply ZR; refine C_dr mixed ?_; (repeat (first | (apply vS; first | refine va ?_ | refine vp ?_ | refine vr ?_ | refine vt ?_ | refine vc (T) ?_ | refine vc (C) ?_) | (apply vZ; refine vs ?_))); refine W_e ?_) | (apply ZK; first | refine Z4 ?_ | refine Z5 ?_) | refine Z6 ?_ | refine Z7 ?_ | refine Z8 ?_ | refine Z9 ?_ | refine ZA ?_ | refine ZB ?_ | refine ZC ?_ | refine ZD ?_ | refine ZE ?_ | refine ZF ?_ | refine ZG ?_ | refine ZH ?_)
    refine C_count a.length (fun _ => True) (fun k => ⟨2, 47, [(29, iD k), (28, iD a.length), (27, rowR a), (3, .ptr 1 0)], [(1, some ⟨24, 1, 1, [rowR b]⟩)]⟩) ?_ trivial ?_
    · exact Wk.go (fun b => b)
    · intro k hk _
      by_cases hlt : k < a.length
      · have hkb : k < b.length := by omega
        have w := W k hlt hkb
        have hw := hs k (by omega)
        rw [List.getElem_zipWith] at hw
        rw [show withinB a[k] b[k] = true from hw] at w
        repeat (first | refine Z1 ?_ | refine Z2 ?_ | (refine Z3 ?_; (repeat (first | (apply gS; first | refine go_f ?_ | refine gm ?_ | refine gp ?_ | refine go_c rfl rfl (w) ?_) | (apply gZ; first | refine go_f ?_ | refine gm ?_))); refine T_nil ?_) | (apply ZR; refine C_dr mixed ?_; (repeat (first | (apply vS; first | refine va ?_ | refine vp ?_ | refine vr ?_ | refine vt ?_ | refine vc (w) ?_) | (apply vZ; refine vs ?_))); refine W_e ?_) | (apply ZK; first | refine Z4 ?_ | refine Z5 ?_) | refine Z6 ?_ | refine Z7 ?_ | refine Z8 ?_ | refine Z9 ?_ | refine ZA ?_ | refine ZB ?_ | refine ZC ?_ | refine ZD ?_ | refine ZE ?_ | refine ZF ?_ | refine ZG ?_ | refine ZH ?_)
        refine kLoop_n ⟨hlt, trivial, ?_⟩
        exact Wk.go (fun b => b)
      · repeat (first | refine Z1 ?_ | refine Z2 ?_ | (refine Z3 ?_; (repeat (first | (apply gS; first | refine go_f ?_ | refine gm ?_ | refine gp ?_) | (apply gZ; first | refine go_f ?_ | refine gm ?_))); refine T_nil ?_) | (apply ZR; refine C_dr mixed ?_; (repeat (first | (apply vS; first | refine va ?_ | refine vp ?_ | refine vr ?_ | refine vt ?_) | (apply vZ; refine vs ?_))); refine W_e ?_) | (apply ZK; first | refine Z4 ?_ | refine Z5 ?_) | refine Z6 ?_ | refine Z7 ?_ | refine Z8 ?_ | refine Z9 ?_ | refine ZA ?_ | refine ZB ?_ | refine ZC ?_ | refine ZD ?_ | refine ZE ?_ | refine ZF ?_ | refine ZG ?_ | refine ZH ?_)
        repeat (first | refine kEnd_m ?_ | refine kEnd_f ?_)
        refine kEnd_g ?_ (by first | exact .inl rfl | exact .inr rfl)
        exact Sub.eq rfl rfl
  · rw [show wAll a b = false from all_no hq hbad]
    rw [zl] at hq
    refine DC.of Try.func73 Try.ntmps73 Try.results73 rfl (by decide +kernel) rfl ?_
    repeat (first | refine Z1 ?_ | refine Z2 ?_ | (refine Z3 ?_; (repeat (first | (apply gS; first | refine go_f ?_ | refine gm ?_ | refine gp ?_ | refine go_c rfl rfl (T) ?_ | refine go_c rfl rfl (C) ?_) | (apply gZ; first | refine go_f ?_ | refine gm ?_))); refine T_nil ?_) | (apply ZR; refine C_dr mixed ?_; (repeat (first | (apply vS; first | refine va ?_ | refine vp ?_ | refine vr ?_ | refine vt ?_ | refine vc (T) ?_ | refine vc (C) ?_) | (apply vZ; refine vs ?_))); refine W_e ?_) | (apply ZK; first | refine Z4 ?_ | refine Z5 ?_) | refine Z6 ?_ | refine Z7 ?_ | refine Z8 ?_ | refine Z9 ?_ | refine ZA ?_ | refine ZB ?_ | refine ZC ?_ | refine ZD ?_ | refine ZE ?_ | refine ZF ?_ | refine ZG ?_ | refine ZH ?_)
    refine C_count q (fun _ => True) (fun k => ⟨2, 47, [(29, iD k), (28, iD a.length), (27, rowR a), (3, .ptr 1 0)], [(1, some ⟨24, 1, 1, [rowR b]⟩)]⟩) ?_ trivial ?_
    · exact Wk.go (fun b => b)
    · intro k hk _
      have hka : k < a.length := by omega
      have hkb : k < b.length := by omega
      have w := W k hka hkb
      by_cases hlt : k < q
      · have hw := hmin k (by omega) hlt
        rw [List.getElem_zipWith] at hw
        rw [show withinB a[k] b[k] = true from hw] at w
        repeat (first | refine Z1 ?_ | refine Z2 ?_ | (refine Z3 ?_; (repeat (first | (apply gS; first | refine go_f ?_ | refine gm ?_ | refine gp ?_ | refine go_c rfl rfl (w) ?_) | (apply gZ; first | refine go_f ?_ | refine gm ?_))); refine T_nil ?_) | (apply ZR; refine C_dr mixed ?_; (repeat (first | (apply vS; first | refine va ?_ | refine vp ?_ | refine vr ?_ | refine vt ?_ | refine vc (w) ?_) | (apply vZ; refine vs ?_))); refine W_e ?_) | (apply ZK; first | refine Z4 ?_ | refine Z5 ?_) | refine Z6 ?_ | refine Z7 ?_ | refine Z8 ?_ | refine Z9 ?_ | refine ZA ?_ | refine ZB ?_ | refine ZC ?_ | refine ZD ?_ | refine ZE ?_ | refine ZF ?_ | refine ZG ?_ | refine ZH ?_)
        refine kLoop_n ⟨hlt, trivial, ?_⟩
        exact Wk.go (fun b => b)
      · obtain rfl : k = q := by omega
        rw [List.getElem_zipWith] at hbad
        rw [show withinB a[k] b[k] = false from hbad] at w
        repeat (first | refine Z1 ?_ | refine Z2 ?_ | (refine Z3 ?_; (repeat (first | (apply gS; first | refine go_f ?_ | refine gm ?_ | refine gp ?_ | refine go_c rfl rfl (w) ?_) | (apply gZ; first | refine go_f ?_ | refine gm ?_))); refine T_nil ?_) | (apply ZR; refine C_dr mixed ?_; (repeat (first | (apply vS; first | refine va ?_ | refine vp ?_ | refine vr ?_ | refine vt ?_ | refine vc (w) ?_) | (apply vZ; refine vs ?_))); refine W_e ?_) | (apply ZK; first | refine Z4 ?_ | refine Z5 ?_) | refine Z6 ?_ | refine Z7 ?_ | refine Z8 ?_ | refine Z9 ?_ | refine ZA ?_ | refine ZB ?_ | refine ZC ?_ | refine ZD ?_ | refine ZE ?_ | refine ZF ?_ | refine ZG ?_ | refine ZH ?_)
        repeat (first | refine kEnd_m ?_ | refine kEnd_f ?_)
        refine kEnd_g ?_ (by first | exact .inl rfl | exact .inr rfl)
        exact Sub.eq rfl rfl
end Go.Proofs.Ytfkojkciobdeoaa
namespace Go.Proofs.Ytfkojkciobdeoaa
open Go.RowKit Go.ChangeShapes Go.WideShapes Go.Deep
set_option linter.unusedVariables false
set_option linter.unusedSimpArgs false
set_option maxRecDepth 100000
theorem came_struct2 {P : Program} {t : TypeId} {f0 f1 : Field} {α β : Type} {f : α → List D} {g : β → List D} (ht : P.underlying t = some (.struct #[f0, f1])) (o0 : f0.offset = 0) (o1 : f1.offset = P.cellsOf f0.type) (hC : P.cellsOf t = P.cellsOf f0.type + P.cellsOf f1.type)
    (h0 : Came P f0.type f) (h1 : Came P f1.type g) : Came P t fun a : α × β => f a.1 ++ g a.2 := fun {H} {enc} w fuel cs x h => by
  obtain ⟨xs, n, _, rfl, hl, hlen, hf⟩ := DataW.trod_struct ht h
  have e0 := hf 0 f0 rfl
  have e1 := hf 1 f1 rfl
  have hx : xs.length = 2 := hlen
  rw [List.getElem?_eq_getElem (by omega)] at e0 e1
  obtain ⟨a, ha⟩ := h0 w n _ _ e0
  obtain ⟨b, hb⟩ := h1 w n _ _ e1
  refine ⟨(a, b), ?_⟩
  have h := ha.app hb
  have e : (cs.drop f0.offset).take (P.cellsOf f0.type) ++ (cs.drop f1.offset).take (P.cellsOf f1.type) = cs := by
    rw [o0, o1, List.drop_zero, List.take_of_length_le (l := cs.drop (P.cellsOf f0.type)) (by rw [List.length_drop]; omega), List.take_append_drop]
  rw [e] at h
  exact h
theorem flat_one {α : Type} (f : α → D) (l : List α) : l.flatMap (fun a => [f a]) = l.map f := by
  induction l with
  | nil => rfl
  | cons a l ih => rw [List.flatMap_cons, ih]; rfl
theorem came_doms : Came Try.prog 48 fun ls : List (List Rg) => [.row ls.length (ls.map rowR)] := fun {H} {enc} =>
  Came.to (came_slice Try.underlying48 (k := 1) (fun _ => rfl) (by kernel_rfl) came_dom) fun a => ⟨a, by rw [flat_one]⟩
theorem came_chunk : Came Try.prog 69 fun c : Int × List (List Rg) => [iD c.1, .row c.2.length (c.2.map rowR)] := fun {H} {enc} =>
  Came.to (came_struct2 Try.underlying69 (by kernel_rfl) (by kernel_rfl) (by kernel_rfl) (came_int Try.underlying3) came_doms) fun a => ⟨a, rfl⟩
end Go.Proofs.Ytfkojkciobdeoaa
namespace Go.Proofs.Ytfkojkciobdeoaa
open Go.RowKit
set_option linter.unusedVariables false
set_option linter.unusedSimpArgs false
set_option maxRecDepth 100000
theorem rHas_b {r : Rg} (hv : vB r = true) (m : Int) {b : Bool} (h : placeB (rowOf r) m = b) : DC Try.prog 96 [rD r, iD m] (.tup [bD b, iD 0]) := by
  have H := rHas_d r m
  have hr := vB_ok' hv
  rcases has_memb hv m with ⟨e, hm⟩ | ⟨e, hm⟩
  · rw [e] at H
    rw [(memb_place hr m).1 hm] at h
    subst h; exact H
  · rw [e] at H
    cases b with
    | false => exact H
    | true => exact absurd ((memb_place hr m).2 h) hm
def inL (b : List Rg) (x : List Int) : List Bool := List.zipWith (fun r m => placeB (rowOf r) m) b x
theorem inL_all : ∀ {b : List Rg} {x : List Int}, x.length = b.length → (inL b x).all id = inB b x
  | [], [], _ => rfl
  | [], _ :: _, h => by simp at h
  | _ :: _, [], h => by simp at h
  | r :: b, m :: x, h => by
    show (placeB (rowOf r) m && (inL b x).all id) = _
    rw [inL_all (b := b) (x := x) (by simpa using h)]; rfl
theorem rWithin_dom (a b : List Rg) : DC Try.prog 106 [domD a, domD b] (.tup [bD (dWithinRes a b).1, iD (dWithinRes a b).2]) := by
  have T := rTwo_d a b
  unfold dWithinRes
  by_cases h2 : twoRes a b = 0
  case neg =>
    rw [if_neg h2]
    refine DC.of Try.func106 Try.ntmps106 Try.results106 rfl (by decide +kernel) rfl ?_
    repeat (first | refine Z1 ?_ | refine Z2 ?_ | (refine Z3 ?_; (repeat (first | (apply gS; first | refine go_f ?_ | refine gm ?_ | refine gp ?_ | refine go_c rfl rfl (T) ?_))); refine T_nil ?_) | (apply ZR; refine C_dr mixed ?_; (repeat (first | (apply vS; first | refine va ?_ | refine vp ?_ | refine vr ?_ | refine vt ?_ | refine vc (T) ?_))); refine W_e ?_) | (apply ZK; first | refine Z4 ?_ | refine Z5 ?_) | refine Z6 ?_ | refine Z7 ?_ | refine Z8 ?_ | refine Z9 ?_ | refine ZA ?_ | refine ZB ?_ | refine ZC ?_ | refine ZD ?_ | refine ZE ?_ | refine ZF ?_ | refine ZG ?_ | refine ZH ?_)
    repeat (first | refine kEnd_m ?_ | refine kEnd_f ?_)
    refine kEnd_g ?_ (by first | exact .inl rfl | exact .inr rfl)
    exact Sub.eq rfl rfl
  rw [if_pos h2]
  obtain ⟨ha, hb, hl⟩ := twoRes_0.1 h2
  rw [h2] at T
  have C := rdIndexes_d a
  rw [show dIndexesRes a = (idxs a, 0) from if_pos ha] at C
  dsimp only at C
  obtain ⟨⟨l1, l3⟩, va, pa⟩ := domB_iff.1 ha
  have vb := (domB_iff.1 hb).2.1
  have he : ∀ x ∈ idxs a, x.length = b.length := fun x hx => by rw [idxs_each hx, hl]
  rw [← idxs_len] at pa
  unfold withinX
  generalize idxs a = l at *
  have H : ∀ i (h1 : i < l.length) k (h2 : k < b.length) (h3 : k < (l[i]).length), DC Try.prog 96 [rD b[k], iD (l[i])[k]] (.tup [bD (placeB (rowOf b[k]) (l[i])[k]), iD 0]) := fun i h1 k h2 h3 => rHas_b (vb _ (List.getElem_mem h2)) _ rfl
  rcases first_bad (fun x => inB b x) l with hs | ⟨q, hq, hbad, hmin⟩
  · rw [decide_eq_true (p := ∀ x ∈ l, inB b x = true) fun x hx => by obtain ⟨j, hj, rfl⟩ := List.getElem_of_mem hx; exact hs j hj]
    refine DC.of Try.func106 Try.ntmps106 Try.results106 rfl (by decide +kernel) rfl ?_
    repeat (first | refine Z1 ?_ | refine Z2 ?_ | (refine Z3 ?_; (repeat (first | (apply gS; first | refine go_f ?_ | refine gm ?_ | refine gp ?_ | refine go_c rfl rfl (T) ?_ | refine go_c rfl rfl (C) ?_))); refine T_nil ?_) | (apply ZR; refine C_dr mixed ?_; (repeat (first | (apply vS; first | refine va ?_ | refine vp ?_ | refine vr ?_ | refine vt ?_ | refine vc (T) ?_ | refine vc (C) ?_))); refine W_e ?_) | (apply ZK; first | refine Z4 ?_ | refine Z5 ?_) | refine Z6 ?_ | refine Z7 ?_ | refine Z8 ?_ | refine Z9 ?_ | refine ZA ?_ | refine ZB ?_ | refine ZC ?_ | refine ZD ?_ | refine ZE ?_ | refine ZF ?_ | refine ZG ?_ | refine ZH ?_)
    refine C_count l.length (fun _ => True) (fun i => ⟨2, 57, [(9, iD i), (7, rowL2 l), (3, .ptr 1 0)], [(1, some ⟨24, 1, 1, [rowR b]⟩)]⟩) ?_ trivial ?_
    · exact Wk.go (fun b => b)
    · intro i hi _
      by_cases hlt : i < l.length
      · have hx := he _ (List.getElem_mem hlt)
        have ho := hs i hlt
        rw [← inL_all hx] at ho
        have hw : ∀ k (h2 : k < b.length) (h3 : k < (l[i]).length), placeB (rowOf b[k]) (l[i])[k] = true := fun k h2 h3 => by
          have h4 : k < (inL b l[i]).length := by simp only [inL, List.length_zipWith]; omega
          have := List.all_eq_true.1 ho _ (List.getElem_mem h4)
          simpa [inL] using this
        have Hi := H i hlt
        repeat (first | refine Z1 ?_ | refine Z2 ?_ | (refine Z3 ?_; (repeat (first | (apply gS; first | refine go_f ?_ | refine gm ?_ | refine gp ?_))); refine T_nil ?_) | (apply ZR; refine C_dr mixed ?_; (repeat (first | (apply vS; first | refine va ?_ | refine vp ?_ | refine vr ?_ | refine vt ?_))); refine W_e ?_) | (apply ZK; first | refine Z4 ?_ | refine Z5 ?_) | refine Z6 ?_ | refine Z7 ?_ | refine Z8 ?_ | refine Z9 ?_ | refine ZA ?_ | refine ZB ?_ | refine ZC ?_ | refine ZD ?_ | refine ZE ?_ | refine ZF ?_ | refine ZG ?_ | refine ZH ?_)
        refine C_count b.length (fun _ => True) (fun k => ⟨2, 57, [(10, iD k), (9, iD i), (7, rowL2 l), (3, .ptr 1 0)], [(1, some ⟨24, 1, 1, [rowR b]⟩)]⟩) ?_ trivial ?_
        · exact Wk.go (fun b => b)
        · intro k hk _
          by_cases hkb : k < b.length
          · have hkx : k < (l[i]).length := by omega
            have w := Hi k hkb hkx
            rw [hw k hkb hkx] at w
            repeat (first | refine Z1 ?_ | refine Z2 ?_ | (refine Z3 ?_; (repeat (first | (apply gS; first | refine go_f ?_ | refine gm ?_ | refine gp ?_ | refine go_c rfl rfl (w) ?_))); refine T_nil ?_) | (apply ZR; refine C_dr mixed ?_; (repeat (first | (apply vS; first | refine va ?_ | refine vp ?_ | refine vr ?_ | refine vt ?_ | refine vc (w) ?_))); refine W_e ?_) | (apply ZK; first | refine Z4 ?_ | refine Z5 ?_) | refine Z6 ?_ | refine Z7 ?_ | refine Z8 ?_ | refine Z9 ?_ | refine ZA ?_ | refine ZB ?_ | refine ZC ?_ | refine ZD ?_ | refine ZE ?_ | refine ZF ?_ | refine ZG ?_ | refine ZH ?_)
            refine kLoop_n ⟨hkb, trivial, ?_⟩
            exact Wk.go (fun b => b)
          · obtain rfl : k = b.length := by omega
            repeat (first | refine Z1 ?_ | refine Z2 ?_ | (refine Z3 ?_; (repeat (first | (apply gS; first | refine go_f ?_ | refine gm ?_ | refine gp ?_))); refine T_nil ?_) | (apply ZR; refine C_dr mixed ?_; (repeat (first | (apply vS; first | refine va ?_ | refine vp ?_ | refine vr ?_ | refine vt ?_))); refine W_e ?_) | (apply ZK; first | refine Z4 ?_ | refine Z5 ?_) | refine Z6 ?_ | refine Z7 ?_ | refine Z8 ?_ | refine Z9 ?_ | refine ZA ?_ | refine ZB ?_ | refine ZC ?_ | refine ZD ?_ | refine ZE ?_ | refine ZF ?_ | refine ZG ?_ | refine ZH ?_)
            refine kLoop_n ⟨hlt, trivial, ?_⟩
            exact Wk.go (fun b => b)
      · repeat (first | refine Z1 ?_ | refine Z2 ?_ | (refine Z3 ?_; (repeat (first | (apply gS; first | refine go_f ?_ | refine gm ?_ | refine gp ?_))); refine T_nil ?_) | (apply ZR; refine C_dr mixed ?_; (repeat (first | (apply vS; first | refine va ?_ | refine vp ?_ | refine vr ?_ | refine vt ?_))); refine W_e ?_) | (apply ZK; first | refine Z4 ?_ | refine Z5 ?_) | refine Z6 ?_ | refine Z7 ?_ | refine Z8 ?_ | refine Z9 ?_ | refine ZA ?_ | refine ZB ?_ | refine ZC ?_ | refine ZD ?_ | refine ZE ?_ | refine ZF ?_ | refine ZG ?_ | refine ZH ?_)
        repeat (first | refine kEnd_m ?_ | refine kEnd_f ?_)
        refine kEnd_g ?_ (by first | exact .inl rfl | exact .inr rfl)
        exact Sub.eq rfl rfl
  · rw [decide_eq_false (p := ∀ x ∈ l, inB b x = true) fun h => by rw [h _ (List.getElem_mem hq)] at hbad; cases hbad]
    have hxq := he _ (List.getElem_mem hq)
    have hbq : (inL b l[q]).all id = false := by rw [inL_all hxq]; exact hbad
    have hwl : ∀ i (h1 : i < l.length), (inL b l[i]).length = b.length := fun i h1 => by simp only [inL, List.length_zipWith, he _ (List.getElem_mem h1)]; omega
    have hget : ∀ i (h1 : i < l.length) k (h2 : k < b.length) (h3 : k < (l[i]).length) (h4 : k < (inL b l[i]).length), (inL b l[i])[k] = placeB (rowOf b[k]) (l[i])[k] := fun i h1 k h2 h3 h4 => by simp [inL]
    refine DC.of Try.func106 Try.ntmps106 Try.results106 rfl (by decide +kernel) rfl ?_
    repeat (first | refine Z1 ?_ | refine Z2 ?_ | (refine Z3 ?_; (repeat (first | (apply gS; first | refine go_f ?_ | refine gm ?_ | refine gp ?_ | refine go_c rfl rfl (T) ?_ | refine go_c rfl rfl (C) ?_))); refine T_nil ?_) | (apply ZR; refine C_dr mixed ?_; (repeat (first | (apply vS; first | refine va ?_ | refine vp ?_ | refine vr ?_ | refine vt ?_ | refine vc (T) ?_ | refine vc (C) ?_))); refine W_e ?_) | (apply ZK; first | refine Z4 ?_ | refine Z5 ?_) | refine Z6 ?_ | refine Z7 ?_ | refine Z8 ?_ | refine Z9 ?_ | refine ZA ?_ | refine ZB ?_ | refine ZC ?_ | refine ZD ?_ | refine ZE ?_ | refine ZF ?_ | refine ZG ?_ | refine ZH ?_)
    refine C_count q (fun _ => True) (fun i => ⟨2, 57, [(9, iD i), (7, rowL2 l), (3, .ptr 1 0)], [(1, some ⟨24, 1, 1, [rowR b]⟩)]⟩) ?_ trivial ?_
    · exact Wk.go (fun b => b)
    · intro i hi _
      have hil : i < l.length := by omega
      have hx := he _ (List.getElem_mem hil)
      have Hi := H i hil
      have hgi := hget i hil
      have hli := hwl i hil
      by_cases hlt : i < q
      · have ho := hmin i hil hlt
        rw [← inL_all hx] at ho
        have hw : ∀ k (h2 : k < b.length) (h3 : k < (l[i]).length), placeB (rowOf b[k]) (l[i])[k] = true := fun k h2 h3 => by
          have h4 : k < (inL b l[i]).length := by omega
          have := List.all_eq_true.1 ho _ (List.getElem_mem h4)
          rw [hgi k h2 h3 h4] at this
          exact this
        clear hget hwl H hmin
        repeat (first | refine Z1 ?_ | refine Z2 ?_ | (refine Z3 ?_; (repeat (first | (apply gS; first | refine go_f ?_ | refine gm ?_ | refine gp ?_))); refine T_nil ?_) | (apply ZR; refine C_dr mixed ?_; (repeat (first | (apply vS; first | refine va ?_ | refine vp ?_ | refine vr ?_ | refine vt ?_))); refine W_e ?_) | (apply ZK; first | refine Z4 ?_ | refine Z5 ?_) | refine Z6 ?_ | refine Z7 ?_ | refine Z8 ?_ | refine Z9 ?_ | refine ZA ?_ | refine ZB ?_ | refine ZC ?_ | refine ZD ?_ | refine ZE ?_ | refine ZF ?_ | refine ZG ?_ | refine ZH ?_)
        refine C_count b.length (fun _ => True) (fun k => ⟨2, 57, [(10, iD k), (9, iD i), (7, rowL2 l), (3, .ptr 1 0)], [(1, some ⟨24, 1, 1, [rowR b]⟩)]⟩) ?_ trivial ?_
        · exact Wk.go (fun b => b)
        · intro k hk _
          by_cases hkb : k < b.length
          · have hkx : k < (l[i]).length := by omega
            have w := Hi k hkb hkx
            rw [hw k hkb hkx] at w
            repeat (first | refine Z1 ?_ | refine Z2 ?_ | (refine Z3 ?_; (repeat (first | (apply gS; first | refine go_f ?_ | refine gm ?_ | refine gp ?_ | refine go_c rfl rfl (w) ?_))); refine T_nil ?_) | (apply ZR; refine C_dr mixed ?_; (repeat (first | (apply vS; first | refine va ?_ | refine vp ?_ | refine vr ?_ | refine vt ?_ | refine vc (w) ?_))); refine W_e ?_) | (apply ZK; first | refine Z4 ?_ | refine Z5 ?_) | refine Z6 ?_ | refine Z7 ?_ | refine Z8 ?_ | refine Z9 ?_ | refine ZA ?_ | refine ZB ?_ | refine ZC ?_ | refine ZD ?_ | refine ZE ?_ | refine ZF ?_ | refine ZG ?_ | refine ZH ?_)
            refine kLoop_n ⟨hkb, trivial, ?_⟩
            exact Wk.go (fun b => b)
          · obtain rfl : k = b.length := by omega
            repeat (first | refine Z1 ?_ | refine Z2 ?_ | (refine Z3 ?_; (repeat (first | (apply gS; first | refine go_f ?_ | refine gm ?_ | refine gp ?_))); refine T_nil ?_) | (apply ZR; refine C_dr mixed ?_; (repeat (first | (apply vS; first | refine va ?_ | refine vp ?_ | refine vr ?_ | refine vt ?_))); refine W_e ?_) | (apply ZK; first | refine Z4 ?_ | refine Z5 ?_) | refine Z6 ?_ | refine Z7 ?_ | refine Z8 ?_ | refine Z9 ?_ | refine ZA ?_ | refine ZB ?_ | refine ZC ?_ | refine ZD ?_ | refine ZE ?_ | refine ZF ?_ | refine ZG ?_ | refine ZH ?_)
            refine kLoop_n ⟨hlt, trivial, ?_⟩
            exact Wk.go (fun b => b)
      · obtain rfl : i = q := by omega
        obtain ⟨p, hp, hpb, hpm⟩ : ∃ p, ∃ h : p < (inL b l[i]).length, (inL b l[i])[p] = false ∧ ∀ j (hj : j < (inL b l[i]).length), j < p → (inL b l[i])[j] = true := by
          rcases first_bad id (inL b l[i]) with h | h
          · rw [all_yes h] at hbq; cases hbq
          · exact h
        clear hget hwl H hmin
        repeat (first | refine Z1 ?_ | refine Z2 ?_ | (refine Z3 ?_; (repeat (first | (apply gS; first | refine go_f ?_ | refine gm ?_ | refine gp ?_))); refine T_nil ?_) | (apply ZR; refine C_dr mixed ?_; (repeat (first | (apply vS; first | refine va ?_ | refine vp ?_ | refine vr ?_ | refine vt ?_))); refine W_e ?_) | (apply ZK; first | refine Z4 ?_ | refine Z5 ?_) | refine Z6 ?_ | refine Z7 ?_ | refine Z8 ?_ | refine Z9 ?_ | refine ZA ?_ | refine ZB ?_ | refine ZC ?_ | refine ZD ?_ | refine ZE ?_ | refine ZF ?_ | refine ZG ?_ | refine ZH ?_)
        refine C_count p (fun _ => True) (fun k => ⟨2, 57, [(10, iD k), (9, iD i), (7, rowL2 l), (3, .ptr 1 0)], [(1, some ⟨24, 1, 1, [rowR b]⟩)]⟩) ?_ trivial ?_
        · exact Wk.go (fun b => b)
        · intro k hk _
          have hkb : k < b.length := by omega
          have hkx : k < (l[i]).length := by omega
          have hk4 : k < (inL b l[i]).length := by omega
          have w := Hi k hkb hkx
          by_cases hkp : k < p
          · rw [← hgi k hkb hkx hk4, hpm k hk4 hkp] at w
            repeat (first | refine Z1 ?_ | refine Z2 ?_ | (refine Z3 ?_; (repeat (first | (apply gS; first | refine go_f ?_ | refine gm ?_ | refine gp ?_ | refine go_c rfl rfl (w) ?_))); refine T_nil ?_) | (apply ZR; refine C_dr mixed ?_; (repeat (first | (apply vS; first | refine va ?_ | refine vp ?_ | refine vr ?_ | refine vt ?_ | refine vc (w) ?_))); refine W_e ?_) | (apply ZK; first | refine Z4 ?_ | refine Z5 ?_) | refine Z6 ?_ | refine Z7 ?_ | refine Z8 ?_ | refine Z9 ?_ | refine ZA ?_ | refine ZB ?_ | refine ZC ?_ | refine ZD ?_ | refine ZE ?_ | refine ZF ?_ | refine ZG ?_ | refine ZH ?_)
            refine kLoop_n ⟨hkp, trivial, ?_⟩
            exact Wk.go (fun b => b)
          · obtain rfl : k = p := by omega
            rw [← hgi k hkb hkx hk4, hpb] at w
            repeat (first | refine Z1 ?_ | refine Z2 ?_ | (refine Z3 ?_; (repeat (first | (apply gS; first | refine go_f ?_ | refine gm ?_ | refine gp ?_ | refine go_c rfl rfl (w) ?_))); refine T_nil ?_) | (apply ZR; refine C_dr mixed ?_; (repeat (first | (apply vS; first | refine va ?_ | refine vp ?_ | refine vr ?_ | refine vt ?_ | refine vc (w) ?_))); refine W_e ?_) | (apply ZK; first | refine Z4 ?_ | refine Z5 ?_) | refine Z6 ?_ | refine Z7 ?_ | refine Z8 ?_ | refine Z9 ?_ | refine ZA ?_ | refine ZB ?_ | refine ZC ?_ | refine ZD ?_ | refine ZE ?_ | refine ZF ?_ | refine ZG ?_ | refine ZH ?_)
            repeat (first | refine kEnd_m ?_ | refine kEnd_f ?_)
            refine kEnd_g ?_ (by first | exact .inl rfl | exact .inr rfl)
            exact Sub.eq rfl rfl
end Go.Proofs.Ytfkojkciobdeoaa
namespace Go.Proofs.Ytfkojkciobdeoaa
open Go.RowKit
set_option linter.unusedVariables false
set_option linter.unusedSimpArgs false
set_option maxRecDepth 100000
abbrev chD (p : Int) (ps : List (List Rg)) : D := .agg [iD p, domsD ps]
def chB (p : Int) (ps : List (List Rg)) : Bool := ps.all domB && (decide (0 ≤ p) && decide (p < 8))
theorem iValid_d (p : Int) (ps : List (List Rg)) (hl : ps.length ≤ 9223372036854775806) : DC Try.prog 103 [chD p ps] (bD (chB p ps)) := by
  unfold chB
  rcases first_bad domB ps with hall | ⟨q, hq, hb, hmin⟩
  · rw [all_yes hall]
    rcases (show (0 ≤ p ∧ p < 8) ∨ (¬ 0 ≤ p ∧ p < 8) ∨ (0 ≤ p ∧ ¬ p < 8) by omega) with ⟨h0, h1⟩ | ⟨h0, h1⟩ | ⟨h0, h1⟩
    all_goals
      simp only [h0, h1, decide_true, decide_false, Bool.and_true, Bool.and_false, Bool.and_self]
      refine DC.of Try.func103 Try.ntmps103 Try.results103 rfl (by decide +kernel) rfl ?_
      repeat (first | refine Z1 ?_ | refine Z2 ?_ | (refine Z3 ?_; (repeat (first | (apply gS; first | refine go_no ?_ | refine go_f ?_ | refine gm ?_ | refine gp ?_) | (apply gZ; first | refine go_f ?_ | refine gm ?_))); refine T_nil ?_) | (apply ZK; first | refine Z4 ?_ | refine Z5 ?_) | refine Z6 ?_ | refine Z7 ?_ | refine Z8 ?_ | refine Z9 ?_ | refine ZA ?_ | refine ZB ?_ | refine ZC ?_ | refine ZD ?_ | refine ZE ?_ | refine ZF ?_ | refine ZG ?_ | refine ZH ?_)
      refine C_count ps.length (fun _ => True) (fun k => ⟨1, 24, [(8, iD k), (7, iD ps.length), (6, domsD ps), (1, .ptr 0 0)], [(0, some ⟨69, 2, 1, [iD p, domsD ps]⟩)]⟩) ?_ trivial ?_
      · exact Wk.go (fun b => b)
      · intro k hk _
        by_cases hlt : k < ps.length
        · have V := dValid_b ps[k] (hall k hlt)
          repeat (first | refine Z1 ?_ | refine Z2 ?_ | (refine Z3 ?_; (repeat (first | (apply gS; first | refine go_no ?_ | refine go_f ?_ | refine gm ?_ | refine gp ?_ | refine go_c rfl rfl (V) ?_) | (apply gZ; first | refine go_f ?_ | refine gm ?_))); refine T_nil ?_) | (apply ZK; first | refine Z4 ?_ | refine Z5 ?_) | refine Z6 ?_ | refine Z7 ?_ | refine Z8 ?_ | refine Z9 ?_ | refine ZA ?_ | refine ZB ?_ | refine ZC ?_ | refine ZD ?_ | refine ZE ?_ | refine ZF ?_ | refine ZG ?_ | refine ZH ?_)
          refine kLoop_n ⟨hlt, trivial, ?_⟩
          exact Wk.go (fun b => b)
        · repeat (first | refine Z1 ?_ | refine Z2 ?_ | (refine Z3 ?_; (repeat (first | (apply gS; first | refine go_no ?_ | refine go_f ?_ | refine gm ?_ | refine gp ?_) | (apply gZ; first | refine go_f ?_ | refine gm ?_))); refine T_nil ?_) | (apply ZK; first | refine Z4 ?_ | refine Z5 ?_) | refine Z6 ?_ | refine Z7 ?_ | refine Z8 ?_ | refine Z9 ?_ | refine ZA ?_ | refine ZB ?_ | refine ZC ?_ | refine ZD ?_ | refine ZE ?_ | refine ZF ?_ | refine ZG ?_ | refine ZH ?_)
          repeat (first | refine kEnd_m ?_ | refine kEnd_f ?_)
          refine kEnd_g ?_ (by first | exact .inl rfl | exact .inr rfl)
          exact Sub.eq rfl rfl
  · rw [all_no hq hb, Bool.false_and]
    refine DC.of Try.func103 Try.ntmps103 Try.results103 rfl (by decide +kernel) rfl ?_
    repeat (first | refine Z1 ?_ | refine Z2 ?_ | (refine Z3 ?_; (repeat (first | (apply gS; first | refine go_no ?_ | refine go_f ?_ | refine gm ?_ | refine gp ?_) | (apply gZ; first | refine go_f ?_ | refine gm ?_))); refine T_nil ?_) | (apply ZK; first | refine Z4 ?_ | refine Z5 ?_) | refine Z6 ?_ | refine Z7 ?_ | refine Z8 ?_ | refine Z9 ?_ | refine ZA ?_ | refine ZB ?_ | refine ZC ?_ | refine ZD ?_ | refine ZE ?_ | refine ZF ?_ | refine ZG ?_ | refine ZH ?_)
    refine C_count q (fun _ => True) (fun k => ⟨1, 24, [(8, iD k), (7, iD ps.length), (6, domsD ps), (1, .ptr 0 0)], [(0, some ⟨69, 2, 1, [iD p, domsD ps]⟩)]⟩) ?_ trivial ?_
    · exact Wk.go (fun b => b)
    · intro k hk _
      have hkl : k < ps.length := by omega
      by_cases hlt : k < q
      · have V := dValid_b ps[k] (hmin k hkl hlt)
        repeat (first | refine Z1 ?_ | refine Z2 ?_ | (refine Z3 ?_; (repeat (first | (apply gS; first | refine go_no ?_ | refine go_f ?_ | refine gm ?_ | refine gp ?_ | refine go_c rfl rfl (V) ?_) | (apply gZ; first | refine go_f ?_ | refine gm ?_))); refine T_nil ?_) | (apply ZK; first | refine Z4 ?_ | refine Z5 ?_) | refine Z6 ?_ | refine Z7 ?_ | refine Z8 ?_ | refine Z9 ?_ | refine ZA ?_ | refine ZB ?_ | refine ZC ?_ | refine ZD ?_ | refine ZE ?_ | refine ZF ?_ | refine ZG ?_ | refine ZH ?_)
        refine kLoop_n ⟨hlt, trivial, ?_⟩
        exact Wk.go (fun b => b)
      · obtain rfl : k = q := by omega
        have V := dValid_b ps[k] hb
        repeat (first | refine Z1 ?_ | refine Z2 ?_ | (refine Z3 ?_; (repeat (first | (apply gS; first | refine go_no ?_ | refine go_f ?_ | refine gm ?_ | refine gp ?_ | refine go_c rfl rfl (V) ?_) | (apply gZ; first | refine go_f ?_ | refine gm ?_))); refine T_nil ?_) | (apply ZK; first | refine Z4 ?_ | refine Z5 ?_) | refine Z6 ?_ | refine Z7 ?_ | refine Z8 ?_ | refine Z9 ?_ | refine ZA ?_ | refine ZB ?_ | refine ZC ?_ | refine ZD ?_ | refine ZE ?_ | refine ZF ?_ | refine ZG ?_ | refine ZH ?_)
        repeat (first | refine kEnd_m ?_ | refine kEnd_f ?_)
        refine kEnd_g ?_ (by first | exact .inl rfl | exact .inr rfl)
        exact Sub.eq rfl rfl
theorem rIsChunk_d (p : Int) (ps : List (List Rg)) (hl : ps.length ≤ 9223372036854775806) : DC Try.prog 105 [chD p ps] (bD (chB p ps)) := by
  unfold chB
  by_cases h0 : 0 ≤ p
  case neg =>
    rw [decide_eq_false h0, Bool.false_and, Bool.and_false]
    refine DC.of Try.func105 Try.ntmps105 Try.results105 rfl (by decide +kernel) rfl ?_
    repeat (first | refine Z1 ?_ | refine Z2 ?_ | (refine Z3 ?_; (repeat (first | (apply gS; first | refine go_no ?_ | refine go_f ?_ | refine gm ?_ | refine gp ?_))); refine T_nil ?_) | (apply ZK; first | refine Z4 ?_ | refine Z5 ?_) | refine Z6 ?_ | refine Z7 ?_ | refine Z8 ?_ | refine Z9 ?_ | refine ZA ?_ | refine ZB ?_ | refine ZC ?_ | refine ZD ?_ | refine ZE ?_ | refine ZF ?_ | refine ZG ?_ | refine ZH ?_)
    repeat (first | refine kEnd_m ?_ | refine kEnd_f ?_)
    refine kEnd_g ?_ (by first | exact .inl rfl | exact .inr rfl)
    exact Sub.eq rfl rfl
  by_cases h1 : p < 8
  case neg =>
    rw [decide_eq_false h1, Bool.and_false, Bool.and_false]
    refine DC.of Try.func105 Try.ntmps105 Try.results105 rfl (by decide +kernel) rfl ?_
    repeat (first | refine Z1 ?_ | refine Z2 ?_ | (refine Z3 ?_; (repeat (first | (apply gS; first | refine go_no ?_ | refine go_f ?_ | refine gm ?_ | refine gp ?_))); refine T_nil ?_) | (apply ZK; first | refine Z4 ?_ | refine Z5 ?_) | refine Z6 ?_ | refine Z7 ?_ | refine Z8 ?_ | refine Z9 ?_ | refine ZA ?_ | refine ZB ?_ | refine ZC ?_ | refine ZD ?_ | refine ZE ?_ | refine ZF ?_ | refine ZG ?_ | refine ZH ?_)
    repeat (first | refine kEnd_m ?_ | refine kEnd_f ?_)
    refine kEnd_g ?_ (by first | exact .inl rfl | exact .inr rfl)
    exact Sub.eq rfl rfl
  rw [decide_eq_true h0, decide_eq_true h1, Bool.and_true, Bool.and_true]
  rcases first_bad domB ps with hall | ⟨q, hq, hb, hmin⟩
  · rw [all_yes hall]
    refine DC.of Try.func105 Try.ntmps105 Try.results105 rfl (by decide +kernel) rfl ?_
    repeat (first | refine Z1 ?_ | refine Z2 ?_ | (refine Z3 ?_; (repeat (first | (apply gS; first | refine go_no ?_ | refine go_f ?_ | refine gm ?_ | refine gp ?_))); refine T_nil ?_) | (apply ZK; first | refine Z4 ?_ | refine Z5 ?_) | refine Z6 ?_ | refine Z7 ?_ | refine Z8 ?_ | refine Z9 ?_ | refine ZA ?_ | refine ZB ?_ | refine ZC ?_ | refine ZD ?_ | refine ZE ?_ | refine ZF ?_ | refine ZG ?_ | refine ZH ?_)
    refine C_count ps.length (fun _ => True) (fun k => ⟨1, 26, [(3, iD k), (1, .ptr 0 0)], [(0, some ⟨69, 2, 1, [iD p, domsD ps]⟩)]⟩) ?_ trivial ?_
    · exact Wk.go (fun b => b)
    · intro k hk _
      by_cases hlt : k < ps.length
      · have V := rdValid_b ps[k] (hall k hlt)
        repeat (first | refine Z1 ?_ | refine Z2 ?_ | (refine Z3 ?_; (repeat (first | (apply gS; first | refine go_no ?_ | refine go_f ?_ | refine gm ?_ | refine gp ?_ | refine go_c rfl rfl (V) ?_))); refine T_nil ?_) | (apply ZK; first | refine Z4 ?_ | refine Z5 ?_) | refine Z6 ?_ | refine Z7 ?_ | refine Z8 ?_ | refine Z9 ?_ | refine ZA ?_ | refine ZB ?_ | refine ZC ?_ | refine ZD ?_ | refine ZE ?_ | refine ZF ?_ | refine ZG ?_ | refine ZH ?_)
        refine kLoop_n ⟨hlt, trivial, ?_⟩
        exact Wk.go (fun b => b)
      · repeat (first | refine Z1 ?_ | refine Z2 ?_ | (refine Z3 ?_; (repeat (first | (apply gS; first | refine go_no ?_ | refine go_f ?_ | refine gm ?_ | refine gp ?_))); refine T_nil ?_) | (apply ZK; first | refine Z4 ?_ | refine Z5 ?_) | refine Z6 ?_ | refine Z7 ?_ | refine Z8 ?_ | refine Z9 ?_ | refine ZA ?_ | refine ZB ?_ | refine ZC ?_ | refine ZD ?_ | refine ZE ?_ | refine ZF ?_ | refine ZG ?_ | refine ZH ?_)
        repeat (first | refine kEnd_m ?_ | refine kEnd_f ?_)
        refine kEnd_g ?_ (by first | exact .inl rfl | exact .inr rfl)
        exact Sub.eq rfl rfl
  · rw [all_no hq hb]
    refine DC.of Try.func105 Try.ntmps105 Try.results105 rfl (by decide +kernel) rfl ?_
    repeat (first | refine Z1 ?_ | refine Z2 ?_ | (refine Z3 ?_; (repeat (first | (apply gS; first | refine go_no ?_ | refine go_f ?_ | refine gm ?_ | refine gp ?_))); refine T_nil ?_) | (apply ZK; first | refine Z4 ?_ | refine Z5 ?_) | refine Z6 ?_ | refine Z7 ?_ | refine Z8 ?_ | refine Z9 ?_ | refine ZA ?_ | refine ZB ?_ | refine ZC ?_ | refine ZD ?_ | refine ZE ?_ | refine ZF ?_ | refine ZG ?_ | refine ZH ?_)
    refine C_count q (fun _ => True) (fun k => ⟨1, 26, [(3, iD k), (1, .ptr 0 0)], [(0, some ⟨69, 2, 1, [iD p, domsD ps]⟩)]⟩) ?_ trivial ?_
    · exact Wk.go (fun b => b)
    · intro k hk _
      have hkl : k < ps.length := by omega
      by_cases hlt : k < q
      · have V := rdValid_b ps[k] (hmin k hkl hlt)
        repeat (first | refine Z1 ?_ | refine Z2 ?_ | (refine Z3 ?_; (repeat (first | (apply gS; first | refine go_no ?_ | refine go_f ?_ | refine gm ?_ | refine gp ?_ | refine go_c rfl rfl (V) ?_))); refine T_nil ?_) | (apply ZK; first | refine Z4 ?_ | refine Z5 ?_) | refine Z6 ?_ | refine Z7 ?_ | refine Z8 ?_ | refine Z9 ?_ | refine ZA ?_ | refine ZB ?_ | refine ZC ?_ | refine ZD ?_ | refine ZE ?_ | refine ZF ?_ | refine ZG ?_ | refine ZH ?_)
        refine kLoop_n ⟨hlt, trivial, ?_⟩
        exact Wk.go (fun b => b)
      · obtain rfl : k = q := by omega
        have V := rdValid_b ps[k] hb
        repeat (first | refine Z1 ?_ | refine Z2 ?_ | (refine Z3 ?_; (repeat (first | (apply gS; first | refine go_no ?_ | refine go_f ?_ | refine gm ?_ | refine gp ?_ | refine go_c rfl rfl (V) ?_))); refine T_nil ?_) | (apply ZK; first | refine Z4 ?_ | refine Z5 ?_) | refine Z6 ?_ | refine Z7 ?_ | refine Z8 ?_ | refine Z9 ?_ | refine ZA ?_ | refine ZB ?_ | refine ZC ?_ | refine ZD ?_ | refine ZE ?_ | refine ZF ?_ | refine ZG ?_ | refine ZH ?_)
        repeat (first | refine kEnd_m ?_ | refine kEnd_f ?_)
        refine kEnd_g ?_ (by first | exact .inl rfl | exact .inr rfl)
        exact Sub.eq rfl rfl
def allX (ps : List (List Rg)) : List (List Int) := ps.flatMap idxs
theorem allX_snoc {ps : List (List Rg)} {k : Nat} (h : k < ps.length) : (allX (ps.take (k + 1))).length = (allX (ps.take k)).length + (idxs ps[k]).length ∧ (allX (ps.take (k + 1))).map rowI = (allX (ps.take k)).map rowI ++ (idxs ps[k]).map rowI := by
  have e : allX (ps.take (k + 1)) = allX (ps.take k) ++ idxs ps[k] := by unfold allX; rw [List.take_succ_eq_append_getElem h, List.flatMap_append]; simp
  rw [e]
  exact ⟨by simp, by simp⟩
theorem allX_cap : ∀ {ps : List (List Rg)}, (∀ d ∈ ps, domB d = true) → (allX ps).length ≤ ps.length * 4096
  | [], _ => by simp [allX]
  | d :: ps, h => by
    have h1 := (domB_iff.1 (h d (by simp))).2.2
    have h2 := allX_cap (ps := ps) fun x hx => h x (by simp [hx])
    show (idxs d ++ allX ps).length ≤ _
    rw [List.length_append, idxs_len, List.length_cons]
    omega
theorem indexes_ok {d : List Rg} (h : domB d = true) : DC Try.prog 16 [domD d] (.tup [rowL2 (idxs d), iD 0]) := by
  have H := dIndexes_d d
  rwa [show dIndexesRes d = (idxs d, 0) from if_pos h] at H
theorem rIndexes_ok {d : List Rg} (h : domB d = true) : DC Try.prog 38 [domD d] (.tup [rowL2 (idxs d), iD 0]) := by
  have H := rdIndexes_d d
  rwa [show dIndexesRes d = (idxs d, 0) from if_pos h] at H
theorem iIndexes_d (p : Int) (ps : List (List Rg)) (hl : ps.length ≤ 1000000000) (hall : ∀ d ∈ ps, domB d = true) : DC Try.prog 104 [chD p ps] (rowL2 (allX ps)) := by
  refine DC.of Try.func104 Try.ntmps104 Try.results104 rfl (by decide +kernel) rfl ?_
  repeat (first | refine Z1 ?_ | refine Z2 ?_ | (refine Z3 ?_; (repeat (first | (apply gS; first | refine go_f ?_ | refine gm ?_ | refine gp ?_) | (apply gZ; first | refine go_f ?_ | refine gm ?_))); refine T_nil ?_) | (apply ZK; first | refine Z4 ?_ | refine Z5 ?_) | refine Z6 ?_ | refine Z7 ?_ | refine Z8 ?_ | refine Z9 ?_ | refine ZA ?_ | refine ZB ?_ | refine ZC ?_ | refine ZD ?_ | refine ZE ?_ | refine ZF ?_ | refine ZG ?_ | refine ZH ?_)
  refine C_count ps.length (fun _ => True) (fun k => ⟨2, 25, [(11, iD k), (10, iD ps.length), (9, domsD ps), (3, .own 1 (allX (ps.take k)).length)], [(1, some ⟨25, 1, (allX (ps.take k)).length, (allX (ps.take k)).map rowI⟩)]⟩) ?_ trivial ?_
  · refine Wk.trans (Wk.adoptT 3 25 1 rfl) ?_
    exact Wk.go (fun b => b)
  · intro k hk _
    by_cases hlt : k < ps.length
    · have I := indexes_ok (hall _ (List.getElem_mem hlt))
      obtain ⟨e1, en⟩ := allX_snoc hlt
      have cap := allX_cap (ps := ps.take (k + 1)) fun d hd => hall d (List.mem_of_mem_take hd)
      rw [List.length_take, Nat.min_eq_left (by omega)] at cap
      repeat (first | refine Z1 ?_ | refine Z2 ?_ | (refine Z3 ?_; (repeat (first | (apply gS; first | refine go_f ?_ | refine gm ?_ | refine gp ?_ | refine go_c rfl rfl (I) ?_) | (apply gZ; first | refine go_f ?_ | refine gm ?_))); refine T_nil ?_) | (apply ZK; first | refine Z4 ?_ | refine Z5 ?_) | refine Z6 ?_ | refine Z7 ?_ | refine Z8 ?_ | refine Z9 ?_ | refine ZA ?_ | refine ZB ?_ | refine ZC ?_ | refine ZD ?_ | refine ZE ?_ | refine ZF ?_ | refine ZG ?_ | refine ZH ?_)
      refine kLoop_n ⟨hlt, trivial, ?_⟩
      exact Wk.go (fun b => cond (Nat.beq b 1) 3 (b))
    · obtain rfl : k = ps.length := by omega
      rw [List.take_length]
      repeat (first | refine Z1 ?_ | refine Z2 ?_ | (refine Z3 ?_; (repeat (first | (apply gS; first | refine go_f ?_ | refine gm ?_ | refine gp ?_) | (apply gZ; first | refine go_f ?_ | refine gm ?_))); refine T_nil ?_) | (apply ZK; first | refine Z4 ?_ | refine Z5 ?_) | refine Z6 ?_ | refine Z7 ?_ | refine Z8 ?_ | refine Z9 ?_ | refine ZA ?_ | refine ZB ?_ | refine ZC ?_ | refine ZD ?_ | refine ZE ?_ | refine ZF ?_ | refine ZG ?_ | refine ZH ?_)
      repeat (first | refine kEnd_m ?_ | refine kEnd_f ?_)
      refine kEnd_g ?_ (by first | exact .inl rfl | exact .inr rfl)
      exact Sub.eq rfl rfl
theorem rIndexes8_d (p : Int) (ps : List (List Rg)) (hl : ps.length ≤ 1000000000) (hc : chB p ps = true) : DC Try.prog 107 [chD p ps] (.tup [rowL2 (allX ps), iD 0]) := by
  have V := rIsChunk_d p ps (by omega)
  rw [hc] at V
  have hall : ∀ d ∈ ps, domB d = true := by
    unfold chB at hc
    rw [Bool.and_eq_true] at hc
    exact List.all_eq_true.1 hc.1
  clear hc
  refine DC.of Try.func107 Try.ntmps107 Try.results107 rfl (by decide +kernel) rfl ?_
  repeat (first | refine Z1 ?_ | refine Z2 ?_ | (refine Z3 ?_; (repeat (first | (apply gS; first | refine go_f ?_ | refine gm ?_ | refine gp ?_ | refine go_c rfl rfl (V) ?_))); refine T_nil ?_) | (apply ZK; first | refine Z4 ?_ | refine Z5 ?_) | refine Z6 ?_ | refine Z7 ?_ | refine Z8 ?_ | refine Z9 ?_ | refine ZA ?_ | refine ZB ?_ | refine ZC ?_ | refine ZD ?_ | refine ZE ?_ | refine ZF ?_ | refine ZG ?_ | refine ZH ?_)
  refine C_count ps.length (fun _ => True) (fun k => ⟨2, 31, [(5, iD k), (4, .own 1 (allX (ps.take k)).length), (1, .ptr 0 0)], [(0, some ⟨69, 2, 1, [iD p, domsD ps]⟩), (1, some ⟨25, 1, (allX (ps.take k)).length, (allX (ps.take k)).map rowI⟩)]⟩) ?_ trivial ?_
  · refine Wk.trans (Wk.adoptT 4 25 1 rfl) ?_
    exact Wk.go (fun b => b)
  · intro k hk _
    by_cases hlt : k < ps.length
    · have I := rIndexes_ok (hall _ (List.getElem_mem hlt))
      obtain ⟨e1, en⟩ := allX_snoc hlt
      have cap := allX_cap (ps := ps.take (k + 1)) fun d hd => hall d (List.mem_of_mem_take hd)
      rw [List.length_take, Nat.min_eq_left (by omega)] at cap
      repeat (first | refine Z1 ?_ | refine Z2 ?_ | (refine Z3 ?_; (repeat (first | (apply gS; first | refine go_f ?_ | refine gm ?_ | refine gp ?_ | refine go_c rfl rfl (I) ?_))); refine T_nil ?_) | (apply ZK; first | refine Z4 ?_ | refine Z5 ?_) | refine Z6 ?_ | refine Z7 ?_ | refine Z8 ?_ | refine Z9 ?_ | refine ZA ?_ | refine ZB ?_ | refine ZC ?_ | refine ZD ?_ | refine ZE ?_ | refine ZF ?_ | refine ZG ?_ | refine ZH ?_)
      refine kLoop_n ⟨hlt, trivial, ?_⟩
      exact Wk.go (fun b => cond (Nat.beq b 1) 2 (b))
    · obtain rfl : k = ps.length := by omega
      rw [List.take_length]
      repeat (first | refine Z1 ?_ | refine Z2 ?_ | (refine Z3 ?_; (repeat (first | (apply gS; first | refine go_f ?_ | refine gm ?_ | refine gp ?_))); refine T_nil ?_) | (apply ZK; first | refine Z4 ?_ | refine Z5 ?_) | refine Z6 ?_ | refine Z7 ?_ | refine Z8 ?_ | refine Z9 ?_ | refine ZA ?_ | refine ZB ?_ | refine ZC ?_ | refine ZD ?_ | refine ZE ?_ | refine ZF ?_ | refine ZG ?_ | refine ZH ?_)
      repeat (first | refine kEnd_m ?_ | refine kEnd_f ?_)
      refine kEnd_g ?_ (by first | exact .inl rfl | exact .inr rfl)
      exact Sub.tup (.cons (Sub.eq rfl rfl) (.cons (Sub.eq rfl rfl) .nil))
end Go.Proofs.Ytfkojkciobdeoaa
namespace Go.Proofs.Ytfkojkciobdeoaa
open Go.RowKit
set_option linter.unusedVariables false
set_option linter.unusedSimpArgs false
set_option maxRecDepth 100000
def okPart (d x : List Rg) : Bool := decide (twoRes x d = 0) && withinX x d
def folL (d e : List Rg) (X : List (List Int)) : List (List Int) := X.map fun x => ithX e (placeV d x 0)
def folRes (d : List Rg) (p : Int) (ps : List (List Rg)) (e : List Rg) : List (List Int) × Int :=
  if domB d = true ∧ domB e = true ∧ chB p ps = true then (if ps.all (okPart d) = true then (if cnt d = cnt e then (folL d e (allX ps), 0) else ([], 80)) else ([], 2)) else ([], 40)
theorem okPart_res {d x : List Rg} : (okPart d x = true → dWithinRes x d = (true, 0)) ∧ (okPart d x = false → ∃ b n, dWithinRes x d = (b, n) ∧ (n ≠ 0 ∨ n = 0 ∧ b = false)) := by
  unfold okPart dWithinRes
  by_cases h : twoRes x d = 0
  · rw [decide_eq_true h, if_pos h, Bool.true_and]
    exact ⟨fun h1 => by rw [h1], fun h1 => ⟨_, _, rfl, .inr ⟨rfl, h1⟩⟩⟩
  · rw [decide_eq_false h, if_neg h, Bool.false_and]
    exact ⟨fun h1 => (by cases h1), fun _ => ⟨_, _, rfl, .inl h⟩⟩
theorem folL_snoc {d e : List Rg} {X : List (List Int)} {k : Nat} (h : k < X.length) : (folL d e (X.take (k + 1))).map rowI = (folL d e (X.take k)).map rowI ++ [rowI (ithX e (placeV d X[k] 0))] := by
  unfold folL
  rw [List.take_succ_eq_append_getElem h, List.map_append, List.map_append]; rfl
theorem folL_len (d e : List Rg) (X : List (List Int)) : (folL d e X).length = X.length := by simp [folL]
/-- every index of good parts has a place -/
theorem all_in {d : List Rg} (hd : domB d = true) {ps : List (List Rg)} (hok : ps.all (okPart d) = true) : ∀ x ∈ allX ps, x.length = d.length ∧ inB d x = true ∧ placeV d x 0 < cnt d := fun x hx => by
  unfold allX at hx
  obtain ⟨q, hq, hx⟩ := List.mem_flatMap.1 hx
  have h := List.all_eq_true.1 hok q hq
  unfold okPart at h
  rw [Bool.and_eq_true] at h
  obtain ⟨_, _, hl⟩ := twoRes_0.1 (of_decide_eq_true h.1)
  have hw : ∀ x ∈ idxs q, inB d x = true := of_decide_eq_true h.2
  refine ⟨by rw [idxs_each hx, hl], hw x hx, ?_⟩
  exact ((place_iff (domB_iff.1 hd).2.1).1 (hw x hx)).1
theorem place_ok {d : List Rg} (hd : domB d = true) {x : List Int} (hl : x.length = d.length) (hin : inB d x = true) : dPlaceRes d x = (((placeV d x 0 : Nat) : Int), 0) := by
  unfold dPlaceRes
  rw [if_pos hd, if_pos hl, if_pos hin]
theorem follow_d (d : List Rg) (p : Int) (ps : List (List Rg)) (e : List Rg) (hn : ps.length ≤ 1000000000) : DC Try.prog 71 [domD d, chD p ps, domD e] (.tup [rowL2 (folRes d p ps e).1, iD (folRes d p ps e).2]) := by
  have VD := dValid_b d (b := domB d) rfl
  have VE := dValid_b e (b := domB e) rfl
  have VC := iValid_d p ps (by omega)
  unfold folRes
  by_cases h : domB d = true ∧ domB e = true ∧ chB p ps = true
  case neg =>
    rw [if_neg h]
    cases h1 : domB d
    · rw [h1] at VD
      refine DC.of Try.func71 Try.ntmps71 Try.results71 rfl (by decide +kernel) rfl ?_
      repeat (first | refine Z1 ?_ | refine Z2 ?_ | (refine Z3 ?_; (repeat (first | (apply gS; first | refine go_no ?_ | refine go_f ?_ | refine gm ?_ | refine gp ?_ | refine go_c rfl rfl (VD) ?_) | (apply gZ; first | refine go_f ?_ | refine gm ?_))); refine T_nil ?_) | (apply ZK; first | refine Z4 ?_ | refine Z5 ?_) | refine Z6 ?_ | refine Z7 ?_ | refine Z8 ?_ | refine Z9 ?_ | refine ZA ?_ | refine ZB ?_ | refine ZC ?_ | refine ZD ?_ | refine ZE ?_ | refine ZF ?_ | refine ZG ?_ | refine ZH ?_)
      repeat (first | refine kEnd_m ?_ | refine kEnd_f ?_)
      refine kEnd_g ?_ (by first | exact .inl rfl | exact .inr rfl)
      exact Sub.tup (.cons Sub.nil (.cons (Sub.eq rfl rfl) .nil))
    cases h2 : domB e
    · rw [h1] at VD; rw [h2] at VE
      refine DC.of Try.func71 Try.ntmps71 Try.results71 rfl (by decide +kernel) rfl ?_
      repeat (first | refine Z1 ?_ | refine Z2 ?_ | (refine Z3 ?_; (repeat (first | (apply gS; first | refine go_no ?_ | refine go_f ?_ | refine gm ?_ | refine gp ?_ | refine go_c rfl rfl (VD) ?_ | refine go_c rfl rfl (VE) ?_) | (apply gZ; first | refine go_f ?_ | refine gm ?_))); refine T_nil ?_) | (apply ZK; first | refine Z4 ?_ | refine Z5 ?_) | refine Z6 ?_ | refine Z7 ?_ | refine Z8 ?_ | refine Z9 ?_ | refine ZA ?_ | refine ZB ?_ | refine ZC ?_ | refine ZD ?_ | refine ZE ?_ | refine ZF ?_ | refine ZG ?_ | refine ZH ?_)
      repeat (first | refine kEnd_m ?_ | refine kEnd_f ?_)
      refine kEnd_g ?_ (by first | exact .inl rfl | exact .inr rfl)
      exact Sub.tup (.cons Sub.nil (.cons (Sub.eq rfl rfl) .nil))
    cases h3 : chB p ps
    · rw [h1] at VD; rw [h2] at VE; rw [h3] at VC
      refine DC.of Try.func71 Try.ntmps71 Try.results71 rfl (by decide +kernel) rfl ?_
      repeat (first | refine Z1 ?_ | refine Z2 ?_ | (refine Z3 ?_; (repeat (first | (apply gS; first | refine go_no ?_ | refine go_f ?_ | refine gm ?_ | refine gp ?_ | refine go_c rfl rfl (VD) ?_ | refine go_c rfl rfl (VE) ?_ | refine go_c rfl rfl (VC) ?_) | (apply gZ; first | refine go_f ?_ | refine gm ?_))); refine T_nil ?_) | (apply ZK; first | refine Z4 ?_ | refine Z5 ?_) | refine Z6 ?_ | refine Z7 ?_ | refine Z8 ?_ | refine Z9 ?_ | refine ZA ?_ | refine ZB ?_ | refine ZC ?_ | refine ZD ?_ | refine ZE ?_ | refine ZF ?_ | refine ZG ?_ | refine ZH ?_)
      repeat (first | refine kEnd_m ?_ | refine kEnd_f ?_)
      refine kEnd_g ?_ (by first | exact .inl rfl | exact .inr rfl)
      exact Sub.tup (.cons Sub.nil (.cons (Sub.eq rfl rfl) .nil))
    exact absurd ⟨h1, h2, h3⟩ h
  rw [if_pos h]
  obtain ⟨hd, he, hc⟩ := h
  rw [hd] at VD; rw [he] at VE; rw [hc] at VC
  have hall : ∀ q ∈ ps, domB q = true := by
    unfold chB at hc
    rw [Bool.and_eq_true] at hc
    exact List.all_eq_true.1 hc.1
  clear hc
  rcases first_bad (okPart d) ps with hs | ⟨q, hq, hbad, hmin⟩
  case inr =>
    rw [if_neg (by rw [all_no hq hbad]; decide)]
    refine DC.of Try.func71 Try.ntmps71 Try.results71 rfl (by decide +kernel) rfl ?_
    repeat (first | refine Z1 ?_ | refine Z2 ?_ | (refine Z3 ?_; (repeat (first | (apply gS; first | refine go_no ?_ | refine go_f ?_ | refine gm ?_ | refine gp ?_ | refine go_c rfl rfl (VD) ?_ | refine go_c rfl rfl (VE) ?_ | refine go_c rfl rfl (VC) ?_) | (apply gZ; first | refine go_f ?_ | refine gm ?_))); refine T_nil ?_) | (apply ZK; first | refine Z4 ?_ | refine Z5 ?_) | refine Z6 ?_ | refine Z7 ?_ | refine Z8 ?_ | refine Z9 ?_ | refine ZA ?_ | refine ZB ?_ | refine ZC ?_ | refine ZD ?_ | refine ZE ?_ | refine ZF ?_ | refine ZG ?_ | refine ZH ?_)
    refine C_count q (fun _ => True) (fun k => ⟨3, 82, [(35, iD k), (34, iD ps.length), (33, domsD ps), (3, .ptr 0 0)], [(0, some ⟨24, 1, 1, [rowR d]⟩)]⟩) ?_ trivial ?_
    · exact Wk.go (fun b => b)
    · intro k hk _
      have hkl : k < ps.length := by omega
      have W := dWithin_d ps[k] d
      by_cases hlt : k < q
      · rw [okPart_res.1 (hmin k hkl hlt)] at W
        repeat (first | refine Z1 ?_ | refine Z2 ?_ | (refine Z3 ?_; (repeat (first | (apply gS; first | refine go_no ?_ | refine go_f ?_ | refine gm ?_ | refine gp ?_ | refine go_c rfl rfl (W) ?_) | (apply gZ; first | refine go_f ?_ | refine gm ?_))); refine T_nil ?_) | (apply ZK; first | refine Z4 ?_ | refine Z5 ?_) | refine Z6 ?_ | refine Z7 ?_ | refine Z8 ?_ | refine Z9 ?_ | refine ZA ?_ | refine ZB ?_ | refine ZC ?_ | refine ZD ?_ | refine ZE ?_ | refine ZF ?_ | refine ZG ?_ | refine ZH ?_)
        refine kLoop_n ⟨hlt, trivial, ?_⟩
        exact Wk.go (fun b => b)
      · obtain rfl : k = q := by omega
        obtain ⟨b, n, e1, e2⟩ := okPart_res.2 hbad
        rw [e1] at W
        dsimp only at W
        rcases e2 with e2 | ⟨rfl, rfl⟩
        all_goals
          repeat (first | refine Z1 ?_ | refine Z2 ?_ | (refine Z3 ?_; (repeat (first | (apply gS; first | refine go_no ?_ | refine go_f ?_ | refine gm ?_ | refine gp ?_ | refine go_c rfl rfl (W) ?_) | (apply gZ; first | refine go_f ?_ | refine gm ?_))); refine T_nil ?_) | (apply ZK; first | refine Z4 ?_ | refine Z5 ?_) | refine Z6 ?_ | refine Z7 ?_ | refine Z8 ?_ | refine Z9 ?_ | refine ZA ?_ | refine ZB ?_ | refine ZC ?_ | refine ZD ?_ | refine ZE ?_ | refine ZF ?_ | refine ZG ?_ | refine ZH ?_)
          repeat (first | refine kEnd_m ?_ | refine kEnd_f ?_)
          refine kEnd_g ?_ (by first | exact .inl rfl | exact .inr rfl)
          exact Sub.tup (.cons Sub.nil (.cons (Sub.eq rfl rfl) .nil))
  have hok := all_yes hs
  rw [if_pos hok]
  have AL := alike_d [d, e] (by simp) (by simp) (fun j hj => by
    match j, hj with
    | 0, _ => exact hd
    | 1, _ => exact he)
  rw [show alikeB [d, e] (cnt ([d, e][0]'(by simp))) = decide (cnt d = cnt e) by
    show (decide (cnt d = cnt d) && (decide (cnt e = cnt d) && true)) = _
    rw [decide_eq_true rfl, Bool.true_and, Bool.and_true]
    by_cases h : cnt d = cnt e <;> simp [h]
    exact fun h' => h h'.symm] at AL
  have I := iIndexes_d p ps hn hall
  have cap := allX_cap hall
  have hin := all_in hd hok
  by_cases hcn : cnt d = cnt e
  case neg =>
    rw [if_neg hcn]
    rw [decide_eq_false hcn] at AL
    refine DC.of Try.func71 Try.ntmps71 Try.results71 rfl (by decide +kernel) rfl ?_
    repeat (first | refine Z1 ?_ | refine Z2 ?_ | (refine Z3 ?_; (repeat (first | (apply gS; first | refine go_no ?_ | refine go_f ?_ | refine gm ?_ | refine gp ?_ | refine go_c rfl rfl (VD) ?_ | refine go_c rfl rfl (VE) ?_ | refine go_c rfl rfl (VC) ?_) | (apply gZ; first | refine go_f ?_ | refine gm ?_))); refine T_nil ?_) | (apply ZK; first | refine Z4 ?_ | refine Z5 ?_) | refine Z6 ?_ | refine Z7 ?_ | refine Z8 ?_ | refine Z9 ?_ | refine ZA ?_ | refine ZB ?_ | refine ZC ?_ | refine ZD ?_ | refine ZE ?_ | refine ZF ?_ | refine ZG ?_ | refine ZH ?_)
    refine C_count ps.length (fun _ => True) (fun k => ⟨3, 82, [(35, iD k), (34, iD ps.length), (33, domsD ps), (3, .ptr 0 0), (5, .ptr 2 0)], [(0, some ⟨24, 1, 1, [rowR d]⟩), (2, some ⟨24, 1, 1, [rowR e]⟩)]⟩) ?_ trivial ?_
    · exact Wk.go (fun b => b)
    · intro k hk _
      by_cases hlt : k < ps.length
      · have W := dWithin_d ps[k] d
        rw [okPart_res.1 (hs k hlt)] at W
        repeat (first | refine Z1 ?_ | refine Z2 ?_ | (refine Z3 ?_; (repeat (first | (apply gS; first | refine go_no ?_ | refine go_f ?_ | refine gm ?_ | refine gp ?_ | refine go_c rfl rfl (W) ?_) | (apply gZ; first | refine go_f ?_ | refine gm ?_))); refine T_nil ?_) | (apply ZK; first | refine Z4 ?_ | refine Z5 ?_) | refine Z6 ?_ | refine Z7 ?_ | refine Z8 ?_ | refine Z9 ?_ | refine ZA ?_ | refine ZB ?_ | refine ZC ?_ | refine ZD ?_ | refine ZE ?_ | refine ZF ?_ | refine ZG ?_ | refine ZH ?_)
        refine kLoop_n ⟨hlt, trivial, ?_⟩
        exact Wk.go (fun b => b)
      · repeat (first | refine Z1 ?_ | refine Z2 ?_ | (refine Z3 ?_; (repeat (first | (apply gS; first | refine go_no ?_ | refine go_f ?_ | refine gm ?_ | refine gp ?_ | refine go_c rfl rfl (AL) ?_) | (apply gZ; first | refine go_f ?_ | refine gm ?_))); refine T_nil ?_) | (apply ZK; first | refine Z4 ?_ | refine Z5 ?_) | refine Z6 ?_ | refine Z7 ?_ | refine Z8 ?_ | refine Z9 ?_ | refine ZA ?_ | refine ZB ?_ | refine ZC ?_ | refine ZD ?_ | refine ZE ?_ | refine ZF ?_ | refine ZG ?_ | refine ZH ?_)
        repeat (first | refine kEnd_m ?_ | refine kEnd_f ?_)
        refine kEnd_g ?_ (by first | exact .inl rfl | exact .inr rfl)
        exact Sub.tup (.cons Sub.nil (.cons (Sub.eq rfl rfl) .nil))
  rw [if_pos hcn]
  rw [decide_eq_true hcn] at AL
  refine DC.of Try.func71 Try.ntmps71 Try.results71 rfl (by decide +kernel) rfl ?_
  repeat (first | refine Z1 ?_ | refine Z2 ?_ | (refine Z3 ?_; (repeat (first | (apply gS; first | refine go_no ?_ | refine go_f ?_ | refine gm ?_ | refine gp ?_ | refine go_c rfl rfl (VD) ?_ | refine go_c rfl rfl (VE) ?_ | refine go_c rfl rfl (VC) ?_) | (apply gZ; first | refine go_f ?_ | refine gm ?_))); refine T_nil ?_) | (apply ZK; first | refine Z4 ?_ | refine Z5 ?_) | refine Z6 ?_ | refine Z7 ?_ | refine Z8 ?_ | refine Z9 ?_ | refine ZA ?_ | refine ZB ?_ | refine ZC ?_ | refine ZD ?_ | refine ZE ?_ | refine ZF ?_ | refine ZG ?_ | refine ZH ?_)
  refine C_count ps.length (fun _ => True) (fun k => ⟨3, 82, [(35, iD k), (34, iD ps.length), (33, domsD ps), (3, .ptr 0 0), (4, .ptr 1 0), (5, .ptr 2 0)], [(0, some ⟨24, 1, 1, [rowR d]⟩), (1, some ⟨69, 2, 1, [iD p, domsD ps]⟩), (2, some ⟨24, 1, 1, [rowR e]⟩)]⟩) ?_ trivial ?_
  · exact Wk.go (fun b => b)
  · intro k hk _
    by_cases hlt : k < ps.length
    · have W := dWithin_d ps[k] d
      rw [okPart_res.1 (hs k hlt)] at W
      repeat (first | refine Z1 ?_ | refine Z2 ?_ | (refine Z3 ?_; (repeat (first | (apply gS; first | refine go_no ?_ | refine go_f ?_ | refine gm ?_ | refine gp ?_ | refine go_c rfl rfl (W) ?_) | (apply gZ; first | refine go_f ?_ | refine gm ?_))); refine T_nil ?_) | (apply ZK; first | refine Z4 ?_ | refine Z5 ?_) | refine Z6 ?_ | refine Z7 ?_ | refine Z8 ?_ | refine Z9 ?_ | refine ZA ?_ | refine ZB ?_ | refine ZC ?_ | refine ZD ?_ | refine ZE ?_ | refine ZF ?_ | refine ZG ?_ | refine ZH ?_)
      refine kLoop_n ⟨hlt, trivial, ?_⟩
      exact Wk.go (fun b => b)
    · clear hs
      generalize allX ps = X at *
      repeat (first | refine Z1 ?_ | refine Z2 ?_ | (refine Z3 ?_; (repeat (first | (apply gS; first | refine go_no ?_ | refine go_f ?_ | refine gm ?_ | refine gp ?_ | refine go_c rfl rfl (AL) ?_ | refine go_c rfl rfl (I) ?_) | (apply gZ; first | refine go_f ?_ | refine gm ?_))); refine T_nil ?_) | (apply ZK; first | refine Z4 ?_ | refine Z5 ?_) | refine Z6 ?_ | refine Z7 ?_ | refine Z8 ?_ | refine Z9 ?_ | refine ZA ?_ | refine ZB ?_ | refine ZC ?_ | refine ZD ?_ | refine ZE ?_ | refine ZF ?_ | refine ZG ?_ | refine ZH ?_)
      refine C_count X.length (fun _ => True) (fun k => ⟨4, 82, [(60, iD k), (59, iD X.length), (58, rowL2 X), (12, .own 3 k), (3, .ptr 0 0), (5, .ptr 2 0)], [(0, some ⟨24, 1, 1, [rowR d]⟩), (2, some ⟨24, 1, 1, [rowR e]⟩), (3, some ⟨25, 1, k, (folL d e (X.take k)).map rowI⟩)]⟩) ?_ trivial ?_
      · refine Wk.trans (Wk.adoptT 12 25 1 rfl) ?_
        exact Wk.go (fun b => b)
      · intro j hj _
        by_cases hjl : j < X.length
        · obtain ⟨x1, x2, x3⟩ := hin _ (List.getElem_mem hjl)
          have P := dPlace_d d X[j]
          rw [place_ok hd x1 x2] at P
          have T := dIth_ok he (i := placeV d X[j] 0) (by omega)
          have en := folL_snoc (d := d) (e := e) hjl
          dsimp only at P
          repeat (first | refine Z1 ?_ | refine Z2 ?_ | (refine Z3 ?_; (repeat (first | (apply gS; first | refine go_no ?_ | refine go_f ?_ | refine gm ?_ | refine gp ?_ | refine go_c rfl rfl (P) ?_ | refine go_c rfl rfl (T) ?_) | (apply gZ; first | refine go_f ?_ | refine gm ?_))); refine T_nil ?_) | (apply ZK; first | refine Z4 ?_ | refine Z5 ?_) | refine Z6 ?_ | refine Z7 ?_ | refine Z8 ?_ | refine Z9 ?_ | refine ZA ?_ | refine ZB ?_ | refine ZC ?_ | refine ZD ?_ | refine ZE ?_ | refine ZF ?_ | refine ZG ?_ | refine ZH ?_)
          refine kLoop_n ⟨hjl, trivial, ?_⟩
          exact Wk.go (fun b => cond (Nat.beq b 3) 4 (b))
        · obtain rfl : j = X.length := by omega
          rw [List.take_length]
          repeat (first | refine Z1 ?_ | refine Z2 ?_ | (refine Z3 ?_; (repeat (first | (apply gS; first | refine go_no ?_ | refine go_f ?_ | refine gm ?_ | refine gp ?_) | (apply gZ; first | refine go_f ?_ | refine gm ?_))); refine T_nil ?_) | (apply ZK; first | refine Z4 ?_ | refine Z5 ?_) | refine Z6 ?_ | refine Z7 ?_ | refine Z8 ?_ | refine Z9 ?_ | refine ZA ?_ | refine ZB ?_ | refine ZC ?_ | refine ZD ?_ | refine ZE ?_ | refine ZF ?_ | refine ZG ?_ | refine ZH ?_)
          repeat (first | refine kEnd_m ?_ | refine kEnd_f ?_)
          refine kEnd_g ?_ (by first | exact .inl rfl | exact .inr rfl)
          exact Sub.tup (.cons (Sub.eq (by show D.row X.length _ = D.row (folL d e X).length _; rw [folL_len]) rfl) (.cons (Sub.eq rfl rfl) .nil))
end Go.Proofs.Ytfkojkciobdeoaa
namespace Go.Proofs.Ytfkojkciobdeoaa
open Go.RowKit
set_option linter.unusedVariables false
set_option linter.unusedSimpArgs false
set_option maxRecDepth 100000
theorem rCount4_ok {d : List Rg} (h : domB d = true) : DC Try.prog 37 [domD d] (.tup [iD (cnt d), iD 0]) := by
  have H := rdCount_d d
  rwa [show dCountRes d = (((cnt d : Nat) : Int), 0) from if_pos h] at H
theorem large_d (d : List Rg) : ∃ b, DC Try.prog 70 [domD d] (bD b) := by
  have C := rdCount_d d
  generalize dCountRes d = c at *
  obtain ⟨n, e⟩ := c
  dsimp only at C
  by_cases h : 600 < n
  · refine ⟨true, ?_⟩
    refine DC.of Try.func70 Try.ntmps70 Try.results70 rfl (by decide +kernel) rfl ?_
    repeat (first | refine Z1 ?_ | refine Z2 ?_ | (refine Z3 ?_; (repeat (first | (apply gS; first | refine go_f ?_ | refine gm ?_ | refine gp ?_ | refine go_c rfl rfl (C) ?_))); refine T_nil ?_) | (apply ZK; first | refine Z4 ?_ | refine Z5 ?_) | refine Z6 ?_ | refine Z7 ?_)
    repeat (first | refine kEnd_m ?_ | refine kEnd_f ?_)
    refine kEnd_g ?_ (by first | exact .inl rfl | exact .inr rfl)
    exact Sub.eq rfl rfl
  · refine ⟨false, ?_⟩
    refine DC.of Try.func70 Try.ntmps70 Try.results70 rfl (by decide +kernel) rfl ?_
    repeat (first | refine Z1 ?_ | refine Z2 ?_ | (refine Z3 ?_; (repeat (first | (apply gS; first | refine go_f ?_ | refine gm ?_ | refine gp ?_ | refine go_c rfl rfl (C) ?_))); refine T_nil ?_) | (apply ZK; first | refine Z4 ?_ | refine Z5 ?_) | refine Z6 ?_ | refine Z7 ?_)
    repeat (first | refine kEnd_m ?_ | refine kEnd_f ?_)
    refine kEnd_g ?_ (by first | exact .inl rfl | exact .inr rfl)
    exact Sub.eq rfl rfl
theorem rFollow_d (d : List Rg) (p : Int) (ps : List (List Rg)) (e : List Rg) (hn : ps.length ≤ 1000000000) : DC Try.prog 72 [domD d, chD p ps, domD e] (.tup [rowL2 (folRes d p ps e).1, iD (folRes d p ps e).2]) := by
  have VD := rdValid_b d (b := domB d) rfl
  have VE := rdValid_b e (b := domB e) rfl
  have VC := rIsChunk_d p ps (by omega)
  unfold folRes
  by_cases h : domB d = true ∧ domB e = true ∧ chB p ps = true
  case neg =>
    rw [if_neg h]
    cases h1 : domB d
    · rw [h1] at VD
      refine DC.of Try.func72 Try.ntmps72 Try.results72 rfl (by decide +kernel) rfl ?_
      repeat (first | refine Z1 ?_ | refine Z2 ?_ | (refine Z3 ?_; (repeat (first | (apply gS; first | refine go_no ?_ | refine go_f ?_ | refine gm ?_ | refine gp ?_ | refine go_c rfl rfl (VD) ?_))); refine T_nil ?_) | (apply ZR; refine C_dr mixed ?_; (repeat (first | (apply vS; first | refine vn ?_ | refine va ?_ | refine vp ?_ | refine vr ?_ | refine vt ?_ | refine vc (VD) ?_))); refine W_e ?_) | (apply ZK; first | refine Z4 ?_ | refine Z5 ?_) | refine Z6 ?_ | refine Z7 ?_ | refine Z8 ?_ | refine Z9 ?_ | refine ZA ?_ | refine ZB ?_ | refine ZC ?_ | refine ZD ?_ | refine ZE ?_ | refine ZF ?_ | refine ZG ?_ | refine ZH ?_)
      repeat (first | refine kEnd_m ?_ | refine kEnd_f ?_)
      refine kEnd_g ?_ (by first | exact .inl rfl | exact .inr rfl)
      exact Sub.tup (.cons Sub.nil (.cons (Sub.eq rfl rfl) .nil))
    cases h3 : chB p ps
    · rw [h1] at VD; rw [h3] at VC
      refine DC.of Try.func72 Try.ntmps72 Try.results72 rfl (by decide +kernel) rfl ?_
      repeat (first | refine Z1 ?_ | refine Z2 ?_ | (refine Z3 ?_; (repeat (first | (apply gS; first | refine go_no ?_ | refine go_f ?_ | refine gm ?_ | refine gp ?_ | refine go_c rfl rfl (VD) ?_ | refine go_c rfl rfl (VC) ?_))); refine T_nil ?_) | (apply ZR; refine C_dr mixed ?_; (repeat (first | (apply vS; first | refine vn ?_ | refine va ?_ | refine vp ?_ | refine vr ?_ | refine vt ?_ | refine vc (VD) ?_ | refine vc (VC) ?_))); refine W_e ?_) | (apply ZK; first | refine Z4 ?_ | refine Z5 ?_) | refine Z6 ?_ | refine Z7 ?_ | refine Z8 ?_ | refine Z9 ?_ | refine ZA ?_ | refine ZB ?_ | refine ZC ?_ | refine ZD ?_ | refine ZE ?_ | refine ZF ?_ | refine ZG ?_ | refine ZH ?_)
      repeat (first | refine kEnd_m ?_ | refine kEnd_f ?_)
      refine kEnd_g ?_ (by first | exact .inl rfl | exact .inr rfl)
      exact Sub.tup (.cons Sub.nil (.cons (Sub.eq rfl rfl) .nil))
    cases h2 : domB e
    · rw [h1] at VD; rw [h2] at VE; rw [h3] at VC
      refine DC.of Try.func72 Try.ntmps72 Try.results72 rfl (by decide +kernel) rfl ?_
      repeat (first | refine Z1 ?_ | refine Z2 ?_ | (refine Z3 ?_; (repeat (first | (apply gS; first | refine go_no ?_ | refine go_f ?_ | refine gm ?_ | refine gp ?_ | refine go_c rfl rfl (VD) ?_ | refine go_c rfl rfl (VE) ?_ | refine go_c rfl rfl (VC) ?_))); refine T_nil ?_) | (apply ZR; refine C_dr mixed ?_; (repeat (first | (apply vS; first | refine vn ?_ | refine va ?_ | refine vp ?_ | refine vr ?_ | refine vt ?_ | refine vc (VD) ?_ | refine vc (VE) ?_ | refine vc (VC) ?_))); refine W_e ?_) | (apply ZK; first | refine Z4 ?_ | refine Z5 ?_) | refine Z6 ?_ | refine Z7 ?_ | refine Z8 ?_ | refine Z9 ?_ | refine ZA ?_ | refine ZB ?_ | refine ZC ?_ | refine ZD ?_ | refine ZE ?_ | refine ZF ?_ | refine ZG ?_ | refine ZH ?_)
      repeat (first | refine kEnd_m ?_ | refine kEnd_f ?_)
      refine kEnd_g ?_ (by first | exact .inl rfl | exact .inr rfl)
      exact Sub.tup (.cons Sub.nil (.cons (Sub.eq rfl rfl) .nil))
    exact absurd ⟨h1, h2, h3⟩ h
  rw [if_pos h]
  obtain ⟨hd, he, hc⟩ := h
  rw [hd] at VD; rw [he] at VE; rw [hc] at VC
  have hall : ∀ q ∈ ps, domB q = true := by
    have hc' := hc
    unfold chB at hc'
    rw [Bool.and_eq_true] at hc'
    exact List.all_eq_true.1 hc'.1
  rcases first_bad (okPart d) ps with hs | ⟨q, hq, hbad, hmin⟩
  case inr =>
    rw [if_neg (by rw [all_no hq hbad]; decide)]
    clear hc
    refine DC.of Try.func72 Try.ntmps72 Try.results72 rfl (by decide +kernel) rfl ?_
    repeat (first | refine Z1 ?_ | refine Z2 ?_ | (refine Z3 ?_; (repeat (first | (apply gS; first | refine go_no ?_ | refine go_f ?_ | refine gm ?_ | refine gp ?_ | refine go_c rfl rfl (VD) ?_ | refine go_c rfl rfl (VE) ?_ | refine go_c rfl rfl (VC) ?_))); refine T_nil ?_) | (apply ZR; refine C_dr mixed ?_; (repeat (first | (apply vS; first | refine vn ?_ | refine va ?_ | refine vp ?_ | refine vr ?_ | refine vt ?_ | refine vc (VD) ?_ | refine vc (VE) ?_ | refine vc (VC) ?_))); refine W_e ?_) | (apply ZK; first | refine Z4 ?_ | refine Z5 ?_) | refine Z6 ?_ | refine Z7 ?_ | refine Z8 ?_ | refine Z9 ?_ | refine ZA ?_ | refine ZB ?_ | refine ZC ?_ | refine ZD ?_ | refine ZE ?_ | refine ZF ?_ | refine ZG ?_ | refine ZH ?_)
    refine C_count q (fun _ => True) (fun k => ⟨3, 99, [(8, iD k), (4, .ptr 1 0), (3, .ptr 0 0)], [(0, some ⟨24, 1, 1, [rowR d]⟩), (1, some ⟨69, 2, 1, [iD p, domsD ps]⟩)]⟩) ?_ trivial ?_
    · exact Wk.go (fun b => b)
    · intro k hk _
      have hkl : k < ps.length := by omega
      have W := rWithin_dom ps[k] d
      by_cases hlt : k < q
      · rw [okPart_res.1 (hmin k hkl hlt)] at W
        repeat (first | refine Z1 ?_ | refine Z2 ?_ | (refine Z3 ?_; (repeat (first | (apply gS; first | refine go_no ?_ | refine go_f ?_ | refine gm ?_ | refine gp ?_ | refine go_c rfl rfl (W) ?_))); refine T_nil ?_) | (apply ZR; refine C_dr mixed ?_; (repeat (first | (apply vS; first | refine vn ?_ | refine va ?_ | refine vp ?_ | refine vr ?_ | refine vt ?_ | refine vc (W) ?_))); refine W_e ?_) | (apply ZK; first | refine Z4 ?_ | refine Z5 ?_) | refine Z6 ?_ | refine Z7 ?_ | refine Z8 ?_ | refine Z9 ?_ | refine ZA ?_ | refine ZB ?_ | refine ZC ?_ | refine ZD ?_ | refine ZE ?_ | refine ZF ?_ | refine ZG ?_ | refine ZH ?_)
        refine kLoop_n ⟨hlt, trivial, ?_⟩
        exact Wk.go (fun b => b)
      · obtain rfl : k = q := by omega
        obtain ⟨b, n, e1, e2⟩ := okPart_res.2 hbad
        rw [e1] at W
        dsimp only at W
        rcases e2 with e2 | ⟨rfl, rfl⟩
        all_goals
          repeat (first | refine Z1 ?_ | refine Z2 ?_ | (refine Z3 ?_; (repeat (first | (apply gS; first | refine go_no ?_ | refine go_f ?_ | refine gm ?_ | refine gp ?_ | refine go_c rfl rfl (W) ?_))); refine T_nil ?_) | (apply ZR; refine C_dr mixed ?_; (repeat (first | (apply vS; first | refine vn ?_ | refine va ?_ | refine vp ?_ | refine vr ?_ | refine vt ?_ | refine vc (W) ?_))); refine W_e ?_) | (apply ZK; first | refine Z4 ?_ | refine Z5 ?_) | refine Z6 ?_ | refine Z7 ?_ | refine Z8 ?_ | refine Z9 ?_ | refine ZA ?_ | refine ZB ?_ | refine ZC ?_ | refine ZD ?_ | refine ZE ?_ | refine ZF ?_ | refine ZG ?_ | refine ZH ?_)
          repeat (first | refine kEnd_m ?_ | refine kEnd_f ?_)
          refine kEnd_g ?_ (by first | exact .inl rfl | exact .inr rfl)
          exact Sub.tup (.cons Sub.nil (.cons (Sub.eq rfl rfl) .nil))
  have hok := all_yes hs
  rw [if_pos hok]
  have I := rIndexes8_d p ps hn hc
  have cap := allX_cap hall
  have hin := all_in hd hok
  have L := rIndexes_ok he
  have N := rCount4_ok hd
  have hce : (idxs e).length = cnt e := idxs_len e
  have hpe : cnt e ≤ 4096 := (domB_iff.1 he).2.2
  have hge : ∀ i (h : i < (idxs e).length), (idxs e)[i] = ithX e i := fun i h => by
    have := idxs_get e i (by rw [← idxs_len]; exact h)
    exact (List.getElem?_eq_some_iff.1 this).2
  clear hc
  by_cases hcn : cnt d = cnt e
  case neg =>
    rw [if_neg hcn]
    generalize idxs e = l at *
    refine DC.of Try.func72 Try.ntmps72 Try.results72 rfl (by decide +kernel) rfl ?_
    repeat (first | refine Z1 ?_ | refine Z2 ?_ | (refine Z3 ?_; (repeat (first | (apply gS; first | refine go_no ?_ | refine go_f ?_ | refine gm ?_ | refine gp ?_ | refine go_c rfl rfl (VD) ?_ | refine go_c rfl rfl (VE) ?_ | refine go_c rfl rfl (VC) ?_))); refine T_nil ?_) | (apply ZR; refine C_dr mixed ?_; (repeat (first | (apply vS; first | refine vn ?_ | refine va ?_ | refine vp ?_ | refine vr ?_ | refine vt ?_ | refine vc (VD) ?_ | refine vc (VE) ?_ | refine vc (VC) ?_))); refine W_e ?_) | (apply ZK; first | refine Z4 ?_ | refine Z5 ?_) | refine Z6 ?_ | refine Z7 ?_ | refine Z8 ?_ | refine Z9 ?_ | refine ZA ?_ | refine ZB ?_ | refine ZC ?_ | refine ZD ?_ | refine ZE ?_ | refine ZF ?_ | refine ZG ?_ | refine ZH ?_)
    refine C_count ps.length (fun _ => True) (fun k => ⟨3, 99, [(8, iD k), (4, .ptr 1 0), (3, .ptr 0 0), (5, .ptr 2 0)], [(0, some ⟨24, 1, 1, [rowR d]⟩), (1, some ⟨69, 2, 1, [iD p, domsD ps]⟩), (2, some ⟨24, 1, 1, [rowR e]⟩)]⟩) ?_ trivial ?_
    · exact Wk.go (fun b => b)
    · intro k hk _
      by_cases hlt : k < ps.length
      · have W := rWithin_dom ps[k] d
        rw [okPart_res.1 (hs k hlt)] at W
        repeat (first | refine Z1 ?_ | refine Z2 ?_ | (refine Z3 ?_; (repeat (first | (apply gS; first | refine go_no ?_ | refine go_f ?_ | refine gm ?_ | refine gp ?_ | refine go_c rfl rfl (W) ?_))); refine T_nil ?_) | (apply ZR; refine C_dr mixed ?_; (repeat (first | (apply vS; first | refine vn ?_ | refine va ?_ | refine vp ?_ | refine vr ?_ | refine vt ?_ | refine vc (W) ?_))); refine W_e ?_) | (apply ZK; first | refine Z4 ?_ | refine Z5 ?_) | refine Z6 ?_ | refine Z7 ?_ | refine Z8 ?_ | refine Z9 ?_ | refine ZA ?_ | refine ZB ?_ | refine ZC ?_ | refine ZD ?_ | refine ZE ?_ | refine ZF ?_ | refine ZG ?_ | refine ZH ?_)
        refine kLoop_n ⟨hlt, trivial, ?_⟩
        exact Wk.go (fun b => b)
      · repeat (first | refine Z1 ?_ | refine Z2 ?_ | (refine Z3 ?_; (repeat (first | (apply gS; first | refine go_no ?_ | refine go_f ?_ | refine gm ?_ | refine gp ?_ | refine go_c rfl rfl (L) ?_ | refine go_c rfl rfl (N) ?_))); refine T_nil ?_) | (apply ZR; refine C_dr mixed ?_; (repeat (first | (apply vS; first | refine vn ?_ | refine va ?_ | refine vp ?_ | refine vr ?_ | refine vt ?_ | refine vc (L) ?_ | refine vc (N) ?_))); refine W_e ?_) | (apply ZK; first | refine Z4 ?_ | refine Z5 ?_) | refine Z6 ?_ | refine Z7 ?_ | refine Z8 ?_ | refine Z9 ?_ | refine ZA ?_ | refine ZB ?_ | refine ZC ?_ | refine ZD ?_ | refine ZE ?_ | refine ZF ?_ | refine ZG ?_ | refine ZH ?_)
        repeat (first | refine kEnd_m ?_ | refine kEnd_f ?_)
        refine kEnd_g ?_ (by first | exact .inl rfl | exact .inr rfl)
        exact Sub.tup (.cons Sub.nil (.cons (Sub.eq rfl rfl) .nil))
  rw [if_pos hcn]
  have hsn : ∀ j (h : j < (allX ps).length), _ := fun j h => folL_snoc (d := d) (e := e) (X := allX ps) h
  have hpl : ∀ j (h : j < (allX ps).length), ∃ v : Nat, dPlaceRes d (allX ps)[j] = ((v : Int), 0) ∧ ∃ hv : v < (idxs e).length, (folL d e ((allX ps).take (j + 1))).map rowI = (folL d e ((allX ps).take j)).map rowI ++ [rowI (idxs e)[v]] := fun j h => by
    obtain ⟨x1, x2, x3⟩ := hin _ (List.getElem_mem h)
    refine ⟨placeV d (allX ps)[j] 0, place_ok hd x1 x2, by rw [hce]; omega, ?_⟩
    rw [hge]
    exact hsn j h
  clear hsn hge hin
  have hfl := folL_len d e (allX ps)
  generalize idxs e = l at *
  refine DC.of Try.func72 Try.ntmps72 Try.results72 rfl (by decide +kernel) rfl ?_
  repeat (first | refine Z1 ?_ | refine Z2 ?_ | (refine Z3 ?_; (repeat (first | (apply gS; first | refine go_no ?_ | refine go_f ?_ | refine gm ?_ | refine gp ?_ | refine go_c rfl rfl (VD) ?_ | refine go_c rfl rfl (VE) ?_ | refine go_c rfl rfl (VC) ?_))); refine T_nil ?_) | (apply ZR; refine C_dr mixed ?_; (repeat (first | (apply vS; first | refine vn ?_ | refine va ?_ | refine vp ?_ | refine vr ?_ | refine vt ?_ | refine vc (VD) ?_ | refine vc (VE) ?_ | refine vc (VC) ?_))); refine W_e ?_) | (apply ZK; first | refine Z4 ?_ | refine Z5 ?_) | refine Z6 ?_ | refine Z7 ?_ | refine Z8 ?_ | refine Z9 ?_ | refine ZA ?_ | refine ZB ?_ | refine ZC ?_ | refine ZD ?_ | refine ZE ?_ | refine ZF ?_ | refine ZG ?_ | refine ZH ?_)
  refine C_count ps.length (fun _ => True) (fun k => ⟨3, 99, [(8, iD k), (4, .ptr 1 0), (3, .ptr 0 0), (5, .ptr 2 0)], [(0, some ⟨24, 1, 1, [rowR d]⟩), (1, some ⟨69, 2, 1, [iD p, domsD ps]⟩), (2, some ⟨24, 1, 1, [rowR e]⟩)]⟩) ?_ trivial ?_
  · exact Wk.go (fun b => b)
  · intro k hk _
    by_cases hlt : k < ps.length
    · have W := rWithin_dom ps[k] d
      rw [okPart_res.1 (hs k hlt)] at W
      repeat (first | refine Z1 ?_ | refine Z2 ?_ | (refine Z3 ?_; (repeat (first | (apply gS; first | refine go_no ?_ | refine go_f ?_ | refine gm ?_ | refine gp ?_ | refine go_c rfl rfl (W) ?_))); refine T_nil ?_) | (apply ZR; refine C_dr mixed ?_; (repeat (first | (apply vS; first | refine vn ?_ | refine va ?_ | refine vp ?_ | refine vr ?_ | refine vt ?_ | refine vc (W) ?_))); refine W_e ?_) | (apply ZK; first | refine Z4 ?_ | refine Z5 ?_) | refine Z6 ?_ | refine Z7 ?_ | refine Z8 ?_ | refine Z9 ?_ | refine ZA ?_ | refine ZB ?_ | refine ZC ?_ | refine ZD ?_ | refine ZE ?_ | refine ZF ?_ | refine ZG ?_ | refine ZH ?_)
      refine kLoop_n ⟨hlt, trivial, ?_⟩
      exact Wk.go (fun b => b)
    · clear hs
      generalize allX ps = X at *
      repeat (first | refine Z1 ?_ | refine Z2 ?_ | (refine Z3 ?_; (repeat (first | (apply gS; first | refine go_no ?_ | refine go_f ?_ | refine gm ?_ | refine gp ?_ | refine go_c rfl rfl (L) ?_ | refine go_c rfl rfl (N) ?_ | refine go_c rfl rfl (I) ?_))); refine T_nil ?_) | (apply ZR; refine C_dr mixed ?_; (repeat (first | (apply vS; first | refine vn ?_ | refine va ?_ | refine vp ?_ | refine vr ?_ | refine vt ?_ | refine vc (L) ?_ | refine vc (N) ?_ | refine vc (I) ?_))); refine W_e ?_) | (apply ZK; first | refine Z4 ?_ | refine Z5 ?_) | refine Z6 ?_ | refine Z7 ?_ | refine Z8 ?_ | refine Z9 ?_ | refine ZA ?_ | refine ZB ?_ | refine ZC ?_ | refine ZD ?_ | refine ZE ?_ | refine ZF ?_ | refine ZG ?_ | refine ZH ?_)
      refine C_count X.length (fun _ => True) (fun k => ⟨4, 99, [(18, iD k), (17, .own 3 k), (15, rowL2 X), (11, rowL2 l), (3, .ptr 0 0)], [(0, some ⟨24, 1, 1, [rowR d]⟩), (3, some ⟨25, 1, k, (folL d e (X.take k)).map rowI⟩)]⟩) ?_ trivial ?_
      · refine Wk.trans (Wk.adoptT 17 25 1 rfl) ?_
        exact Wk.go (fun b => b)
      · intro j hj _
        by_cases hjl : j < X.length
        · obtain ⟨v, v1, v2, en⟩ := hpl j hjl
          have P := rdPlace_d d X[j]
          rw [v1] at P
          dsimp only at P
          clear hpl
          repeat (first | refine Z1 ?_ | refine Z2 ?_ | (refine Z3 ?_; (repeat (first | (apply gS; first | refine go_no ?_ | refine go_f ?_ | refine gm ?_ | refine gp ?_ | refine go_c rfl rfl (P) ?_))); refine T_nil ?_) | (apply ZR; refine C_dr mixed ?_; (repeat (first | (apply vS; first | refine vn ?_ | refine va ?_ | refine vp ?_ | refine vr ?_ | refine vt ?_ | refine vc (P) ?_))); refine W_e ?_) | (apply ZK; first | refine Z4 ?_ | refine Z5 ?_) | refine Z6 ?_ | refine Z7 ?_ | refine Z8 ?_ | refine Z9 ?_ | refine ZA ?_ | refine ZB ?_ | refine ZC ?_ | refine ZD ?_ | refine ZE ?_ | refine ZF ?_ | refine ZG ?_ | refine ZH ?_)
          refine kLoop_n ⟨hjl, trivial, ?_⟩
          exact Wk.go (fun b => cond (Nat.beq b 3) 4 (b))
        · obtain rfl : j = X.length := by omega
          rw [List.take_length]
          repeat (first | refine Z1 ?_ | refine Z2 ?_ | (refine Z3 ?_; (repeat (first | (apply gS; first | refine go_no ?_ | refine go_f ?_ | refine gm ?_ | refine gp ?_))); refine T_nil ?_) | (apply ZR; refine C_dr mixed ?_; (repeat (first | (apply vS; first | refine vn ?_ | refine va ?_ | refine vp ?_ | refine vr ?_ | refine vt ?_))); refine W_e ?_) | (apply ZK; first | refine Z4 ?_ | refine Z5 ?_) | refine Z6 ?_ | refine Z7 ?_ | refine Z8 ?_ | refine Z9 ?_ | refine ZA ?_ | refine ZB ?_ | refine ZC ?_ | refine ZD ?_ | refine ZE ?_ | refine ZF ?_ | refine ZG ?_ | refine ZH ?_)
          repeat (first | refine kEnd_m ?_ | refine kEnd_f ?_)
          refine kEnd_g ?_ (by first | exact .inl rfl | exact .inr rfl)
          exact Sub.tup (.cons (Sub.eq (by show D.row X.length _ = D.row (folL d e X).length _; rw [folL_len]) rfl) (.cons (Sub.eq rfl rfl) .nil))
end Go.Proofs.Ytfkojkciobdeoaa
namespace Go.Proofs.Ytfkojkciobdeoaa.iterFollows
open Go.RowKit Go.Proofs.Ytfkojkciobdeoaa
set_option linter.unusedVariables false
set_option linter.unusedSimpArgs false
set_option maxRecDepth 100000
theorem fol_bd (d : List Rg) (p : Int) (ps : List (List Rg)) (e : List Rg) (hn : ps.length ≤ 40) : (folRes d p ps e).1.length ≤ 9223372036854775806 ∧ ∀ o ∈ (folRes d p ps e).1, o.length ≤ 9223372036854775806 := by
  unfold folRes
  split
  · rename_i h
    obtain ⟨hd, he, hc⟩ := h
    unfold chB at hc
    rw [Bool.and_eq_true] at hc
    have cap := allX_cap (List.all_eq_true.1 hc.1)
    have he3 := (domB_iff.1 he).1
    split
    · split
      · refine ⟨by show (folL d e (allX ps)).length ≤ _; rw [folL_len]; omega, fun o ho => ?_⟩
        obtain ⟨x, _, rfl⟩ := List.mem_map.1 (show o ∈ (allX ps).map fun x => ithX e (placeV d x 0) from ho)
        rw [ithX_len]; omega
      · exact ⟨by simp, fun o ho => by simp at ho⟩
    · exact ⟨by simp, fun o ho => by simp at ho⟩
  · exact ⟨by simp, fun o ho => by simp at ho⟩
theorem law_d (d : List Rg) (p : Int) (ps : List (List Rg)) (e : List Rg) : DC Try.prog 12 [domD d, chD p ps, domD e] (bD true) := by
  obtain ⟨b1, L1⟩ := large_d d
  obtain ⟨b2, L2⟩ := large_d e
  cases b1
  case true =>
    refine DC.of Try.func12 Try.ntmps12 Try.results12 rfl (by decide +kernel) rfl ?_
    repeat (first | refine Z1 ?_ | refine Z2 ?_ | (refine Z3 ?_; (repeat (first | (apply gS; first | refine go_no ?_ | refine go_f ?_ | refine gm ?_ | refine gp ?_ | refine go_c rfl rfl (L1) ?_ | refine go_c rfl rfl (awake8_d) ?_))); refine T_nil ?_) | (apply ZK; first | refine Z4 ?_ | refine Z5 ?_) | refine Z6 ?_ | refine Z7 ?_ | refine ZF ?_)
    repeat (first | refine kEnd_m ?_ | refine kEnd_f ?_)
    refine kEnd_g ?_ (by first | exact .inl rfl | exact .inr rfl)
    exact Sub.eq rfl rfl
  cases b2
  case true =>
    refine DC.of Try.func12 Try.ntmps12 Try.results12 rfl (by decide +kernel) rfl ?_
    repeat (first | refine Z1 ?_ | refine Z2 ?_ | (refine Z3 ?_; (repeat (first | (apply gS; first | refine go_no ?_ | refine go_f ?_ | refine gm ?_ | refine gp ?_ | refine go_c rfl rfl (L1) ?_ | refine go_c rfl rfl (L2) ?_ | refine go_c rfl rfl (awake8_d) ?_))); refine T_nil ?_) | (apply ZK; first | refine Z4 ?_ | refine Z5 ?_) | refine Z6 ?_ | refine Z7 ?_ | refine ZF ?_)
    repeat (first | refine kEnd_m ?_ | refine kEnd_f ?_)
    refine kEnd_g ?_ (by first | exact .inl rfl | exact .inr rfl)
    exact Sub.eq rfl rfl
  by_cases hn : (40 : Int) < ps.length
  · refine DC.of Try.func12 Try.ntmps12 Try.results12 rfl (by decide +kernel) rfl ?_
    repeat (first | refine Z1 ?_ | refine Z2 ?_ | (refine Z3 ?_; (repeat (first | (apply gS; first | refine go_no ?_ | refine go_f ?_ | refine gm ?_ | refine gp ?_ | refine go_c rfl rfl (L1) ?_ | refine go_c rfl rfl (L2) ?_ | refine go_c rfl rfl (awake8_d) ?_))); refine T_nil ?_) | (apply ZK; first | refine Z4 ?_ | refine Z5 ?_) | refine Z6 ?_ | refine Z7 ?_ | refine ZF ?_)
    repeat (first | refine kEnd_m ?_ | refine kEnd_f ?_)
    refine kEnd_g ?_ (by first | exact .inl rfl | exact .inr rfl)
    exact Sub.eq rfl rfl
  have F := follow_d d p ps e (by omega)
  have RF := rFollow_d d p ps e (by omega)
  obtain ⟨q1, q2⟩ := fol_bd d p ps e (by omega)
  have LS := lists_d _ q1 q2
  clear q1 q2
  generalize folRes d p ps e = r at *
  obtain ⟨r1, r2⟩ := r
  dsimp only at F RF LS
  refine DC.of Try.func12 Try.ntmps12 Try.results12 rfl (by decide +kernel) rfl ?_
  repeat (first | refine Z1 ?_ | refine Z2 ?_ | (refine Z3 ?_; (repeat (first | (apply gS; first | refine go_no ?_ | refine go_f ?_ | refine gm ?_ | refine gp ?_ | refine go_c rfl rfl (L1) ?_ | refine go_c rfl rfl (L2) ?_ | refine go_c rfl rfl (F) ?_ | refine go_c rfl rfl (RF) ?_ | refine go_c rfl rfl (LS) ?_ | refine go_c rfl rfl (awake8_d) ?_))); refine T_nil ?_) | (apply ZK; first | refine Z4 ?_ | refine Z5 ?_) | refine Z6 ?_ | refine Z7 ?_ | refine ZF ?_)
  repeat (first | refine kEnd_m ?_ | refine kEnd_f ?_)
  refine kEnd_g ?_ (by first | exact .inl rfl | exact .inr rfl)
  exact Sub.eq rfl rfl
theorem walk {w : World} (v : Value) (rs : List Rg) (rc : RC (fun b => b < w.heap.size) w (domD rs) v) (u : Value) (c : Int × List (List Rg)) (uc : RC (fun b => b < w.heap.size) w (chD c.1 c.2) u) (z : Value) (es : List Rg) (zc : RC (fun b => b < w.heap.size) w (domD es) z) : Calls Try.prog 12 #[v, u, z] w fun e w' => e = .returned (.bool true) ∧ Below w.heap.size w w' :=
  DC.law (law_d rs c.1 c.2 es) (.cons rc (.cons uc (.cons zc .nil)))
end Go.Proofs.Ytfkojkciobdeoaa.iterFollows
