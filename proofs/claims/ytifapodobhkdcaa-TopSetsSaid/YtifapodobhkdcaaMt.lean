/- Meet of package domain, by the abstract machine, and what it has in common (sets). -/
import Derived.Test.YtifapodobhkdcaaS11
import Derived.Test.YtifapodobhkdcaaF3
import Derived.Test.YtifapodobhkdcaaE6
import Derived.Test.YtifapodobhkdcaaDs3
import Derived.Test.YtifapodobhkdcaaDsMath
namespace Go.Proofs.Ytifapodobhkdcaa
open Go.RowKit
set_option linter.unusedVariables false
set_option maxHeartbeats 16000000
set_option linter.unusedSimpArgs false
set_option maxRecDepth 100000
/-- what Meet of two lists of ranges returns, range by range -/
structure MeetL (a b : List Rg) (L : List (Rg × Int)) : Prop where
  len : L.length = a.length
  is : ∀ k (h : k < L.length) (h1 : k < a.length) (h2 : k < b.length), MeetIs a[k] b[k] L[k].1 L[k].2
  dc : ∀ k (h : k < L.length) (h1 : k < a.length) (h2 : k < b.length), DC Try.prog 107 [rD a[k], rD b[k]] (.tup [rD L[k].1, iD L[k].2])
theorem meetL_ex : ∀ (a b : List Rg), a.length = b.length → ∃ L, MeetL a b L
  | [], b, _ => ⟨[], rfl, fun k h => by simp at h, fun k h => by simp at h⟩
  | r :: a, [], h => by simp at h
  | r :: a, s :: b, h => by
    obtain ⟨L, h1, h2, h3⟩ := meetL_ex a b (by simpa using h)
    obtain ⟨m, e, k1, k2⟩ := sMeetP_d r s
    refine ⟨(m, e) :: L, by simp [h1], fun k hk ha hb => ?_, fun k hk ha hb => ?_⟩
    · cases k with
      | zero => exact k1
      | succ k => exact h2 k (by simpa using hk) (by simpa using ha) (by simpa using hb)
    · cases k with
      | zero => exact k2
      | succ k => exact h3 k (by simpa using hk) (by simpa using ha) (by simpa using hb)
def ovMB (L : List (Rg × Int)) : Bool := L.any fun p => !decide (p.2 = 0)
def emMB (L : List (Rg × Int)) : Bool := L.any fun p => decide (p.2 = 0) && decide (cN p.1 = 0)
def meetRes (L : List (Rg × Int)) : List Rg × Int := if ovMB L = true then ([], 40) else dCanonRes (L.map (·.1))
theorem any_snoc {α : Type} (p : α → Bool) {l : List α} {k : Nat} (h : k < l.length) : (l.take (k + 1)).any p = ((l.take k).any p || p l[k]) := by
  rw [List.take_succ_eq_append_getElem h, List.any_append]; simp
theorem meet_err {r s a : Rg} {e : Int} (h : MeetIs r s a e) : (e = 0 ∨ e = 30) ∧ (e = 0 → vB a = true) := by
  cases h with
  | bad h => exact ⟨.inr rfl, fun h => by cases h⟩
  | none hr hs h => exact ⟨.inl rfl, fun _ => by decide⟩
  | some hr hs q p k hp hp2 hk hl h =>
    unfold doneE doneV
    split
    · rename_i hv; exact ⟨.inl rfl, fun _ => hv⟩
    · exact ⟨.inr rfl, fun h => by cases h⟩
theorem meetL_v {a b : List Rg} (hl : a.length = b.length) {L : List (Rg × Int)} (h : MeetL a b L) (ho : ovMB L = false) : ∀ k (hk : k < L.length), L[k].2 = 0 ∧ vB L[k].1 = true := fun k hk => by
  have h0 : L[k].2 = 0 := by
    have := List.any_eq_false.1 ho L[k] (List.getElem_mem hk)
    simpa using this
  exact ⟨h0, (meet_err (h.is k hk (by rw [← h.len]; exact hk) (by rw [← hl, ← h.len]; exact hk))).2 h0⟩
theorem meetL_dom0 {a b : List Rg} (hl : a.length = b.length) (h3 : 1 ≤ a.length ∧ a.length ≤ 3) {L : List (Rg × Int)} (h : MeetL a b L) (ho : ovMB L = false) (he : emMB L = true) : domB (L.map (·.1)) = true := by
  rw [domB_iff]
  refine ⟨by rw [List.length_map, h.len]; exact h3, fun r hr => ?_, ?_⟩
  · obtain ⟨p, hp, rfl⟩ := List.mem_map.1 hr
    obtain ⟨k, hk, rfl⟩ := List.mem_iff_getElem.1 hp
    exact (meetL_v hl h ho k hk).2
  · have : prodN (cl (L.map (·.1))) = 0 := by
      rw [prodN_zero]
      obtain ⟨p, hp, hq⟩ := List.any_eq_true.1 he
      rw [Bool.and_eq_true] at hq
      have := of_decide_eq_true hq.2
      exact List.mem_map.2 ⟨p.1, List.mem_map.2 ⟨p, hp, rfl⟩, this⟩
    omega
theorem dDone_ok (l : List Rg) : DC Try.prog 110 [rowR l] (.tup [domD (dCanonRes l).1, iD (dCanonRes l).2]) := dDone_d l
set_option maxHeartbeats 8000000 in
theorem dMeet_0 (a b : List Rg) (h : twoRes a b = 0) {L : List (Rg × Int)} (hL : MeetL a b L) : DC Try.prog 32 [domD a, domD b] (.tup [domD (meetRes L).1, iD (meetRes L).2]) := by
  have TW := two_d a b
  rw [h] at TW
  obtain ⟨ha, hb, hl⟩ := twoRes_0.1 h
  have h3 := (domB_iff.1 ha).1
  have hlen := hL.len
  have hM := fun k (hk : k < a.length) => hL.dc k (by omega) hk (by omega)
  have hE := fun k (hk : k < a.length) => meet_err (hL.is k (by omega) hk (by omega))
  have hS := fun k (hk : k < a.length) => any_snoc (fun p : Rg × Int => !decide (p.2 = 0)) (l := L) (k := k) (by omega)
  have hT := fun k (hk : k < a.length) => any_snoc (fun p : Rg × Int => decide (p.2 = 0) && decide (cN p.1 = 0)) (l := L) (k := k) (by omega)
  have hO : (L.take a.length).any (fun p : Rg × Int => !decide (p.2 = 0)) = ovMB L := by rw [← hlen, List.take_length]; rfl
  have hP : (L.take a.length).any (fun p : Rg × Int => decide (p.2 = 0) && decide (cN p.1 = 0)) = emMB L := by rw [← hlen, List.take_length]; rfl
  have hU : ∀ k (hk : k < a.length), ((L.take (k + 1)).map (·.1)).flatMap rC = ((L.take k).map (·.1)).flatMap rC ++ rC (L[k]'(by omega)).1 := fun k hk => by
    rw [List.take_succ_eq_append_getElem (by omega), List.map_append, List.flatMap_append]; rfl
  have hQ : (L.take a.length).map (·.1) = L.map (·.1) := by rw [← hlen, List.take_length]
  have eo : rowR (L.map (·.1)) = .row a.length ((L.map (·.1)).flatMap rC) := by show D.row _ _ = _; rw [List.length_map, hlen]
  have hC0 := fun x (hv : vB x = true) => (show DC Try.prog 108 [rD x] (.tup [iD (cN x), iD 0]) from by
    have H := sCount_d x
    rwa [show countRes x = ((rowOf x).n, 0) from if_pos hv, ← cN_int hv] at H)
  have hD0 : ovMB L = false → emMB L = true → DC Try.prog 109 [domD (L.map (·.1))] (domD (dCanonRes (L.map (·.1))).1) ∧ (dCanonRes (L.map (·.1))).2 = 0 := fun h1 h2 => by
    have hd := meetL_dom0 hl h3 hL h1 h2
    rw [dCanonRes, if_pos hd]
    exact ⟨canon_d _ hd, rfl⟩
  have hDone := dDone_d (L.map (·.1))
  unfold meetRes
  rw [eo] at hDone
  simp only [show domD (L.map (·.1)) = D.agg [.row a.length ((L.map (·.1)).flatMap rC)] by show D.agg [D.row _ _] = _; rw [List.length_map, hlen]] at hD0
  generalize dCanonRes (L.map (·.1)) = res at *
  rw [← hQ] at hD0 hDone
  rw [← hO]
  rw [← hO, ← hP] at hD0
  obtain ⟨U, hUd⟩ : ∃ U : Nat → List Rg, ∀ k, U k = (L.take k).map (·.1) := ⟨_, fun _ => rfl⟩
  obtain ⟨O, hOd⟩ : ∃ O : Nat → Bool, ∀ k, O k = (L.take k).any (fun p : Rg × Int => !decide (p.2 = 0)) := ⟨_, fun _ => rfl⟩
  obtain ⟨E, hEd⟩ : ∃ E : Nat → Bool, ∀ k, E k = (L.take k).any (fun p : Rg × Int => decide (p.2 = 0) && decide (cN p.1 = 0)) := ⟨_, fun _ => rfl⟩
  simp only [← hUd] at hU hD0 hDone
  simp only [← hOd] at hS hD0 ⊢
  simp only [← hEd] at hT hD0
  have u0 : (U 0).flatMap rC = [] := by rw [hUd]; rfl
  have o0 : O 0 = false := by rw [hOd]; rfl
  have m0 : E 0 = false := by rw [hEd]; rfl
  clear hO hP hQ hUd hOd hEd eo hL h
  have hal : a.length ≤ 3 := h3.2
  refine DC.of Try.func32 Try.ntmps32 Try.results32 rfl (by decide +kernel) rfl ?_
  repeat (first | refine Z1 ?_ | refine Z2 ?_ | (refine Z3 ?_; (repeat (first | (apply gS; first | refine go_no ?_ | refine go_f ?_ | refine gx ?_ | refine gm ?_ | refine gp ?_ | refine go_c rfl rfl (TW) ?_ | refine go_cF rfl rfl (TW) ?_ | refine go_cA rfl rfl (TW) ?_) | (apply gZ; first | refine go_f ?_ | refine gx ?_ | refine gm ?_))); refine T_nil ?_) | (apply ZR; (try dsimp only [List.map_cons, List.map_nil]); refine C_dr mixed ?_; (repeat (first | (apply vS; first | refine vn ?_ | refine va ?_ | refine vp ?_ | refine vr ?_ | refine vt ?_ | refine vc (TW) ?_ | refine vcF (TW) ?_) | (apply vZ; first | refine vs ?_ | refine vw ?_))); refine W_e ?_) | (apply ZK; first | refine Z4 ?_ | refine Z5 ?_) | refine Z6 ?_ | refine Z7 ?_ | refine Z8 ?_ | refine Z9 ?_ | refine ZA ?_ | refine ZB ?_ | refine ZC ?_ | refine ZD ?_ | refine ZE ?_ | refine ZF ?_ | refine ZG ?_ | refine ZH ?_)
  refine C_count a.length (fun _ => True) (fun k => ⟨4, 77, [(26, iD k), (25, iD a.length), (24, rowR a), (7, .own 3 k), (8, bD (E k)), (9, bD (O k)), (3, .ptr 1 0), (4, .ptr 2 0)], [(1, some ⟨24, 1, 1, [rowR b]⟩), (2, some ⟨24, 1, 1, [.val (.slice none 0 0)]⟩), (3, some ⟨39, 3, k, (U k).flatMap rC⟩)]⟩) ?_ trivial ?_
  · rw [u0, o0, m0]
    refine Wk.trans (Wk.adoptT 7 39 3 rfl) ?_
    exact Wk.gx (fun b => b)
  · intro k hk _
    by_cases hlt : k < a.length
    · have hkb : k < b.length := by omega
      have M := hM k hlt
      obtain ⟨e1, e2⟩ := hE k hlt
      have s1 := hS k hlt
      have t1 := hT k hlt
      have u1 := hU k hlt
      clear hM hE hS hT hU hD0 hDone u0 o0 m0
      generalize hp : L[k] = p at *
      obtain ⟨x, e⟩ := p
      dsimp only at M e1 e2 s1 t1 u1
      clear hp
      rcases e1 with rfl | rfl
      · have hv := e2 rfl
        have C := hC0 x hv
        clear hC0
        have s2 : O (k + 1) = O k := by rw [s1]; simp
        rw [s2]
        clear s1 s2
        by_cases hn : cN x = 0
        · have t2 : E (k + 1) = true := by rw [t1]; simp [hn]
          have hn' : ((cN x : Nat) : Int) = 0 := by omega
          rw [t2]
          clear t1
          cases hok : O k
          all_goals
            cases hek : E k
            all_goals
              repeat (first | refine Z1 ?_ | refine Z2 ?_ | (refine Z3 ?_; (repeat (first | (apply gS; first | refine go_no ?_ | refine go_f ?_ | refine gx ?_ | refine gm ?_ | refine gp ?_ | refine go_c rfl rfl (M) ?_ | refine go_cF rfl rfl (M) ?_ | refine go_cA rfl rfl (M) ?_ | refine go_c rfl rfl (C) ?_ | refine go_cF rfl rfl (C) ?_ | refine go_cA rfl rfl (C) ?_) | (apply gZ; first | refine go_f ?_ | refine gx ?_ | refine gm ?_))); refine T_nil ?_) | (apply ZR; (try dsimp only [List.map_cons, List.map_nil]); refine C_dr mixed ?_; (repeat (first | (apply vS; first | refine vn ?_ | refine va ?_ | refine vp ?_ | refine vr ?_ | refine vt ?_ | refine vc (M) ?_ | refine vcF (M) ?_ | refine vc (C) ?_ | refine vcF (C) ?_) | (apply vZ; first | refine vs ?_ | refine vw ?_))); refine W_e ?_) | (apply ZK; first | refine Z4 ?_ | refine Z5 ?_) | refine Z6 ?_ | refine Z7 ?_ | refine Z8 ?_ | refine Z9 ?_ | refine ZA ?_ | refine ZB ?_ | refine ZC ?_ | refine ZD ?_ | refine ZE ?_ | refine ZF ?_ | refine ZG ?_ | refine ZH ?_)
              refine kLoop_n ⟨hlt, trivial, ?_⟩
              try rw [hok]
              try rw [t2]
              exact Wk.gx (fun b => cond (Nat.beq b 3) 6 (b))
        · have t2 : E (k + 1) = E k := by rw [t1]; simp [hn]
          have hn' : ¬ ((cN x : Nat) : Int) = 0 := by omega
          rw [t2]
          clear t1
          cases hok : O k
          all_goals
            cases hek : E k
            all_goals
              repeat (first | refine Z1 ?_ | refine Z2 ?_ | (refine Z3 ?_; (repeat (first | (apply gS; first | refine go_no ?_ | refine go_f ?_ | refine gx ?_ | refine gm ?_ | refine gp ?_ | refine go_c rfl rfl (M) ?_ | refine go_cF rfl rfl (M) ?_ | refine go_cA rfl rfl (M) ?_ | refine go_c rfl rfl (C) ?_ | refine go_cF rfl rfl (C) ?_ | refine go_cA rfl rfl (C) ?_) | (apply gZ; first | refine go_f ?_ | refine gx ?_ | refine gm ?_))); refine T_nil ?_) | (apply ZR; (try dsimp only [List.map_cons, List.map_nil]); refine C_dr mixed ?_; (repeat (first | (apply vS; first | refine vn ?_ | refine va ?_ | refine vp ?_ | refine vr ?_ | refine vt ?_ | refine vc (M) ?_ | refine vcF (M) ?_ | refine vc (C) ?_ | refine vcF (C) ?_) | (apply vZ; first | refine vs ?_ | refine vw ?_))); refine W_e ?_) | (apply ZK; first | refine Z4 ?_ | refine Z5 ?_) | refine Z6 ?_ | refine Z7 ?_ | refine Z8 ?_ | refine Z9 ?_ | refine ZA ?_ | refine ZB ?_ | refine ZC ?_ | refine ZD ?_ | refine ZE ?_ | refine ZF ?_ | refine ZG ?_ | refine ZH ?_)
              refine kLoop_n ⟨hlt, trivial, ?_⟩
              try rw [hok]
              try rw [t2, hek]
              exact Wk.gx (fun b => cond (Nat.beq b 3) 6 (b))
      · have C := sCount_d x
        clear hC0
        generalize countRes x = c at *
        obtain ⟨c1, c2⟩ := c
        dsimp only at C
        have s2 : O (k + 1) = true := by rw [s1]; simp
        have t2 : E (k + 1) = E k := by rw [t1]; simp
        rw [s2, t2]
        clear s1 t1
        cases hok : O k
        all_goals
          cases hek : E k
          all_goals
            repeat (first | refine Z1 ?_ | refine Z2 ?_ | (refine Z3 ?_; (repeat (first | (apply gS; first | refine go_no ?_ | refine go_f ?_ | refine gx ?_ | refine gm ?_ | refine gp ?_ | refine go_c rfl rfl (M) ?_ | refine go_cF rfl rfl (M) ?_ | refine go_cA rfl rfl (M) ?_ | refine go_c rfl rfl (C) ?_ | refine go_cF rfl rfl (C) ?_ | refine go_cA rfl rfl (C) ?_) | (apply gZ; first | refine go_f ?_ | refine gx ?_ | refine gm ?_))); refine T_nil ?_) | (apply ZR; (try dsimp only [List.map_cons, List.map_nil]); refine C_dr mixed ?_; (repeat (first | (apply vS; first | refine vn ?_ | refine va ?_ | refine vp ?_ | refine vr ?_ | refine vt ?_ | refine vc (M) ?_ | refine vcF (M) ?_ | refine vc (C) ?_ | refine vcF (C) ?_) | (apply vZ; first | refine vs ?_ | refine vw ?_))); refine W_e ?_) | (apply ZK; first | refine Z4 ?_ | refine Z5 ?_) | refine Z6 ?_ | refine Z7 ?_ | refine Z8 ?_ | refine Z9 ?_ | refine ZA ?_ | refine ZB ?_ | refine ZC ?_ | refine ZD ?_ | refine ZE ?_ | refine ZF ?_ | refine ZG ?_ | refine ZH ?_)
            refine kLoop_n ⟨hlt, trivial, ?_⟩
            try rw [s2]
            try rw [t2, hek]
            exact Wk.gx (fun b => cond (Nat.beq b 3) 6 (b))
    · obtain rfl : k = a.length := by omega
      clear hM hE hS hT hU u0 o0 m0 hC0
      cases hok : O a.length
      · rw [hok] at hD0
        rw [if_neg (by decide)]
        cases hek : E a.length
        · clear hD0
          repeat (first | refine Z1 ?_ | refine Z2 ?_ | (refine Z3 ?_; (repeat (first | (apply gS; first | refine go_no ?_ | refine go_f ?_ | refine gx ?_ | refine gm ?_ | refine gp ?_ | refine go_c rfl rfl (hDone) ?_ | refine go_cF rfl rfl (hDone) ?_ | refine go_cA rfl rfl (hDone) ?_) | (apply gZ; first | refine go_f ?_ | refine gx ?_ | refine gm ?_))); refine T_nil ?_) | (apply ZR; (try dsimp only [List.map_cons, List.map_nil]); refine C_dr mixed ?_; (repeat (first | (apply vS; first | refine vn ?_ | refine va ?_ | refine vp ?_ | refine vr ?_ | refine vt ?_ | refine vc (hDone) ?_ | refine vcF (hDone) ?_) | (apply vZ; first | refine vs ?_ | refine vw ?_))); refine W_e ?_) | (apply ZK; first | refine Z4 ?_ | refine Z5 ?_) | refine Z6 ?_ | refine Z7 ?_ | refine Z8 ?_ | refine Z9 ?_ | refine ZA ?_ | refine ZB ?_ | refine ZC ?_ | refine ZD ?_ | refine ZE ?_ | refine ZF ?_ | refine ZG ?_ | refine ZH ?_)
          repeat (first | refine kEnd_m ?_ | refine kEnd_f ?_)
          refine kEnd_g ?_ (by first | exact .inl rfl | exact .inr rfl)
          exact Sub.eq rfl rfl
        · obtain ⟨D1, D2⟩ := hD0 rfl hek
          rw [D2]
          clear hD0 hDone D2
          repeat (first | refine Z1 ?_ | refine Z2 ?_ | (refine Z3 ?_; (repeat (first | (apply gS; first | refine go_no ?_ | refine go_f ?_ | refine gx ?_ | refine gm ?_ | refine gp ?_ | refine go_c rfl rfl (D1) ?_ | refine go_cF rfl rfl (D1) ?_ | refine go_cA rfl rfl (D1) ?_) | (apply gZ; first | refine go_f ?_ | refine gx ?_ | refine gm ?_))); refine T_nil ?_) | (apply ZR; (try dsimp only [List.map_cons, List.map_nil]); refine C_dr mixed ?_; (repeat (first | (apply vS; first | refine vn ?_ | refine va ?_ | refine vp ?_ | refine vr ?_ | refine vt ?_ | refine vc (D1) ?_ | refine vcF (D1) ?_) | (apply vZ; first | refine vs ?_ | refine vw ?_))); refine W_e ?_) | (apply ZK; first | refine Z4 ?_ | refine Z5 ?_) | refine Z6 ?_ | refine Z7 ?_ | refine Z8 ?_ | refine Z9 ?_ | refine ZA ?_ | refine ZB ?_ | refine ZC ?_ | refine ZD ?_ | refine ZE ?_ | refine ZF ?_ | refine ZG ?_ | refine ZH ?_)
          repeat (first | refine kEnd_m ?_ | refine kEnd_f ?_)
          refine kEnd_g ?_ (by first | exact .inl rfl | exact .inr rfl)
          exact Sub.eq rfl rfl
      · rw [if_pos rfl]
        clear hD0 hDone
        repeat (first | refine Z1 ?_ | refine Z2 ?_ | (refine Z3 ?_; (repeat (first | (apply gS; first | refine go_no ?_ | refine go_f ?_ | refine gx ?_ | refine gm ?_ | refine gp ?_) | (apply gZ; first | refine go_f ?_ | refine gx ?_ | refine gm ?_))); refine T_nil ?_) | (apply ZR; (try dsimp only [List.map_cons, List.map_nil]); refine C_dr mixed ?_; (repeat (first | (apply vS; first | refine vn ?_ | refine va ?_ | refine vp ?_ | refine vr ?_ | refine vt ?_) | (apply vZ; first | refine vs ?_ | refine vw ?_))); refine W_e ?_) | (apply ZK; first | refine Z4 ?_ | refine Z5 ?_) | refine Z6 ?_ | refine Z7 ?_ | refine Z8 ?_ | refine Z9 ?_ | refine ZA ?_ | refine ZB ?_ | refine ZC ?_ | refine ZD ?_ | refine ZE ?_ | refine ZF ?_ | refine ZG ?_ | refine ZH ?_)
        repeat (first | refine kEnd_m ?_ | refine kEnd_f ?_)
        refine kEnd_g ?_ (by first | exact .inl rfl | exact .inr rfl)
        exact Sub.tup (.cons (Sub.agg (.cons Sub.nil .nil)) (.cons (Sub.eq rfl rfl) .nil))
theorem dMeet_e (a b : List Rg) (h : twoRes a b ≠ 0) : DC Try.prog 32 [domD a, domD b] (.tup [domD [], iD (twoRes a b)]) := by
  have TW := two_d a b
  generalize twoRes a b = e at *
  refine DC.of Try.func32 Try.ntmps32 Try.results32 rfl (by decide +kernel) rfl ?_
  repeat (first | refine Z1 ?_ | refine Z2 ?_ | (refine Z3 ?_; (repeat (first | (apply gS; first | refine go_no ?_ | refine go_f ?_ | refine gx ?_ | refine gm ?_ | refine gp ?_ | refine go_c rfl rfl (TW) ?_ | refine go_cF rfl rfl (TW) ?_ | refine go_cA rfl rfl (TW) ?_) | (apply gZ; first | refine go_f ?_ | refine gx ?_ | refine gm ?_))); refine T_nil ?_) | (apply ZR; (try dsimp only [List.map_cons, List.map_nil]); refine C_dr mixed ?_; (repeat (first | (apply vS; first | refine vn ?_ | refine va ?_ | refine vp ?_ | refine vr ?_ | refine vt ?_ | refine vc (TW) ?_ | refine vcF (TW) ?_) | (apply vZ; first | refine vs ?_ | refine vw ?_))); refine W_e ?_) | (apply ZK; first | refine Z4 ?_ | refine Z5 ?_) | refine Z6 ?_ | refine Z7 ?_ | refine Z8 ?_ | refine Z9 ?_ | refine ZA ?_ | refine ZB ?_ | refine ZC ?_ | refine ZD ?_ | refine ZE ?_ | refine ZF ?_ | refine ZG ?_ | refine ZH ?_)
  repeat (first | refine kEnd_m ?_ | refine kEnd_f ?_)
  refine kEnd_g ?_ (by first | exact .inl rfl | exact .inr rfl)
  exact Sub.tup (.cons (Sub.agg (.cons Sub.nil .nil)) (.cons (Sub.eq rfl rfl) .nil))
end Go.Proofs.Ytifapodobhkdcaa
