/- The law DistTurned returns true for every input: nothing moves from a distribution to itself, and what moves between two moves back between them. -/
import Derived.Test.YtifapodobhkdcaaDsA
import Derived.Test.YtifapodobhkdcaaCameT
namespace Go.Proofs.Ytifapodobhkdcaa.distTurned
open Go.RowKit Go.Proofs.Ytifapodobhkdcaa
set_option linter.unusedVariables false
set_option maxHeartbeats 16000000
set_option linter.unusedSimpArgs false
set_option maxRecDepth 100000
abbrev spreadD (s : ByteArray) (n o : Int) (rs : List Rg) : D := .agg [sD s, iD n, iD o, rowR rs]
/-! ### what moves there and back -/
/-- how many indexes are owned by a there and by b here -/
def bothN (k : Kd) (n o : Nat) (c0 : Rg) (ct : List Rg) (k' : Kd) (n' o' : Nat) (e0 : Rg) (et : List Rg) (c : Nat) : Int := mvF k n o c0 ct k' n' o' e0 et c
theorem idxs_nodup {c0 : Rg} {ct : List Rg} (hs : SpOk c0 ct) : (idxs (c0 :: ct)).Nodup := by
  obtain ⟨_, hv, _⟩ := domB_iff.1 hs.dom
  rw [idxs_eq]
  show List.Pairwise (· ≠ ·) _
  rw [List.pairwise_map]
  refine List.Pairwise.imp_of_mem (fun {i j} hi hj hlt e => ?_) List.pairwise_lt_range
  have hi := List.mem_range.1 hi
  have hj := List.mem_range.1 hj
  have a := (ithX_in hv hi).2 0
  have b := (ithX_in hv hj).2 0
  rw [e] at a
  omega
/-- the same, by the indexes themselves -/
theorem mvF_eq {k : Kd} {n o : Nat} (hk : OkDs k n o) {c0 : Rg} {ct : List Rg} (hs : SpOk c0 ct) {k' : Kd} {n' o' : Nat} (hk' : OkDs k' n' o') {e0 : Rg} {et : List Rg} (hs' : SpOk e0 et) (hl : (c0 :: ct).length = (e0 :: et).length) {a b : Nat} (ha : a < 8) (hb : b < 8) :
    mvF k n o c0 ct k' n' o' e0 et (a * 8 + b) = (((idxs (c0 :: ct)).filter fun x => inB (e0 :: et) x && decide (ownV k n o c0 ct x = a ∧ ownV k' n' o' e0 et x = b ∧ a ≠ b)).length : Nat) := by
  unfold mvF cntB
  rw [idxs_eq, List.filter_map, List.length_map, ← iN_mul]
  congr 2
  refine List.filter_congr fun i hi => ?_
  have hi := List.mem_range.1 hi
  obtain ⟨w1, w2, w3, w4, w5, w6⟩ := own_at hk hs hi
  have hb8 := ownV_lt hk' hs' (ithX (c0 :: ct) i)
  have h8 := hk.o8
  have h8' := hk'.o8
  have hin : (findRes e0 et (ithX (c0 :: ct) i)).2 = 0 ↔ inB (e0 :: et) (ithX (c0 :: ct) i) = true := by
    unfold findRes
    rw [if_pos (by rw [ithX_len, hl])]
    split
    · rename_i h; exact ⟨fun _ => h, fun _ => rfl⟩
    · rename_i h; exact ⟨fun h => (by cases h), fun k => absurd k h⟩
  rw [Bool.eq_iff_iff]
  simp only [Function.comp_apply, Bool.and_eq_true, decide_eq_true_eq]
  unfold mvB mvC
  rw [decide_eq_true_iff, hin, w3]
  constructor
  · rintro ⟨⟨h1, h2⟩, h3⟩
    exact ⟨h1, by omega, by omega, by omega⟩
  · rintro ⟨h1, h2, h3, h4⟩
    exact ⟨⟨h1, by omega⟩, by omega⟩
theorem mv_back {k : Kd} {n o : Nat} (hk : OkDs k n o) {c0 : Rg} {ct : List Rg} (hs : SpOk c0 ct) {k' : Kd} {n' o' : Nat} (hk' : OkDs k' n' o') {e0 : Rg} {et : List Rg} (hs' : SpOk e0 et) (hl : (c0 :: ct).length = (e0 :: et).length) {a b : Nat} (ha : a < 8) (hb : b < 8) :
    mvF k n o c0 ct k' n' o' e0 et (a * 8 + b) = mvF k' n' o' e0 et k n o c0 ct (b * 8 + a) := by
  rw [mvF_eq hk hs hk' hs' hl ha hb, mvF_eq hk' hs' hk hs hl.symm hb ha]
  congr 1
  refine List.Perm.length_eq ?_
  refine (List.perm_ext_iff_of_nodup ((idxs_nodup hs).filter _) ((idxs_nodup hs').filter _)).2 fun x => ?_
  have m1 := inB_mem (rs := c0 :: ct) (domB_iff.1 hs.dom).2.1 x
  have m2 := inB_mem (rs := e0 :: et) (domB_iff.1 hs'.dom).2.1 x
  simp only [List.mem_filter, Bool.and_eq_true, decide_eq_true_eq]
  rw [m1, m2]
  constructor
  · rintro ⟨h1, h2, h3, h4, h5⟩; exact ⟨h2, h1, h4, h3, fun e => h5 e.symm⟩
  · rintro ⟨h1, h2, h3, h4, h5⟩; exact ⟨h2, h1, h4, h3, fun e => h5 e.symm⟩
theorem mv_self {k : Kd} {n o : Nat} (hk : OkDs k n o) {c0 : Rg} {ct : List Rg} (hs : SpOk c0 ct) (c : Nat) : mvF k n o c0 ct k n o c0 ct c = 0 := by
  unfold mvF cntB
  have : (List.range (cN c0 * iN c0 ct)).filter (fun i => mvB k n o c0 ct k n o c0 ct i && decide (mvC k n o c0 ct k n o c0 ct i = c)) = [] := by
    rw [List.filter_eq_nil_iff]
    intro i hi h
    have hi := List.mem_range.1 hi
    obtain ⟨w1, w2, w3, w4, w5, w6⟩ := own_at hk hs hi
    rw [Bool.and_eq_true] at h
    have h1 := of_decide_eq_true h.1
    rw [w3] at h1
    exact h1.2 rfl
  rw [this]; rfl
/-! ### the lists -/
def tw (i : Nat) : Nat := i % 8 * 8 + i / 8
theorem ents_mem {F : Nat → Int} {i : Nat} : i ∈ ents F 64 ↔ i < 64 ∧ 0 < F i := by simp [ents]
theorem ents_tw {F G : Nat → Int} (h : ∀ a b, a < 8 → b < 8 → F (a * 8 + b) = G (b * 8 + a)) : (ents F 64).length = (ents G 64).length ∧ ∀ i ∈ ents F 64, tw i ∈ ents G 64 ∧ G (tw i) = F i := by
  have hm : ∀ i, i < 64 → tw i < 64 ∧ G (tw i) = F i ∧ tw (tw i) = i := fun i hi => by
    have h1 : i / 8 < 8 := by omega
    have h2 : i % 8 < 8 := by omega
    have := h (i / 8) (i % 8) h1 h2
    rw [show i / 8 * 8 + i % 8 = i by omega] at this
    unfold tw
    exact ⟨by omega, this.symm, by omega⟩
  refine ⟨?_, fun i hi => ?_⟩
  · have : ((ents F 64).map tw).Perm (ents G 64) := by
      refine (List.perm_ext_iff_of_nodup ?_ (List.nodup_range.filter _)).2 fun j => ?_
      · show List.Pairwise (· ≠ ·) _
        rw [List.pairwise_map]
        refine List.Pairwise.imp_of_mem (fun {i j} hi hj hlt e => ?_) (List.pairwise_lt_range.filter _ : List.Pairwise (· < ·) (ents F 64))
        have h1 := (ents_mem.1 hi).1
        have h2 := (ents_mem.1 hj).1
        unfold tw at e
        omega
      · show _ ↔ j ∈ ents G 64
        rw [List.mem_map, ents_mem]
        constructor
        · rintro ⟨i, hi, rfl⟩
          obtain ⟨h1, h2⟩ := ents_mem.1 hi
          obtain ⟨a, b, c⟩ := hm i h1
          exact ⟨a, by rw [b]; exact h2⟩
        · rintro ⟨h1, h2⟩
          have h3 : j / 8 < 8 := by omega
          have h4 : j % 8 < 8 := by omega
          have e := h (j % 8) (j / 8) h4 h3
          rw [show j / 8 * 8 + j % 8 = j by omega] at e
          refine ⟨tw j, ents_mem.2 ⟨by unfold tw; omega, ?_⟩, by unfold tw; omega⟩
          unfold tw
          rw [e]; exact h2
    have := this.length_eq
    rwa [List.length_map] at this
  · obtain ⟨h1, h2⟩ := ents_mem.1 hi
    obtain ⟨a, b, _⟩ := hm i h1
    exact ⟨ents_mem.2 ⟨a, by rw [b]; exact h2⟩, b⟩
/-- whether one of the first m entries is the i-th one, turned -/
def foundB (F G : Nat → Int) (l : List Nat) (i m : Nat) : Bool := (l.take m).any fun j => decide (j / 8 = i % 8 ∧ j % 8 = i / 8 ∧ G j = F i)
theorem any_snoc' {α : Type} (p : α → Bool) {l : List α} {k : Nat} (h : k < l.length) : (l.take (k + 1)).any p = ((l.take k).any p || p l[k]) := by
  rw [List.take_succ_eq_append_getElem h, List.any_append]; simp
theorem found_all {F G : Nat → Int} {i : Nat} (hi : i < 64) (h : tw i ∈ ents G 64 ∧ G (tw i) = F i) : foundB F G (ents G 64) i (ents G 64).length = true := by
  unfold foundB
  rw [List.take_length, List.any_eq_true]
  exact ⟨tw i, h.1, decide_eq_true ⟨by unfold tw; omega, by unfold tw; omega, h.2⟩⟩
set_option maxHeartbeats 8000000 in
theorem law_d (s : ByteArray) (n o : Int) (rs : List Rg) (s' : ByteArray) (n' o' : Int) (es : List Rg) : DC Try.prog 12 [spreadD s n o rs, spreadD s' n' o' es] (bD true) := by
  obtain ⟨b1, L1⟩ := large7_d rs
  obtain ⟨b2, L2⟩ := large7_d es
  cases b1
  case true =>
    refine DC.of Try.func12 Try.ntmps12 Try.results12 rfl (by decide +kernel) rfl ?_
    repeat (first | refine Z1 ?_ | refine Z2 ?_ | (refine Z3 ?_; (repeat (first | (apply gS; first | refine go_no ?_ | refine go_f ?_ | refine gx ?_ | refine gm ?_ | refine gp ?_ | refine go_c rfl rfl (L1) ?_ | refine go_cF rfl rfl (L1) ?_ | refine go_cA rfl rfl (L1) ?_ | refine go_c rfl rfl (L2) ?_ | refine go_cF rfl rfl (L2) ?_ | refine go_cA rfl rfl (L2) ?_ | refine go_c rfl rfl (first7_d) ?_ | refine go_cF rfl rfl (first7_d) ?_ | refine go_cA rfl rfl (first7_d) ?_))); refine T_nil ?_) | (apply ZR; (try dsimp only [List.map_cons, List.map_nil]); refine C_dr mixed ?_; (repeat (first | (apply vS; first | refine vn ?_ | refine va ?_ | refine vp ?_ | refine vr ?_ | refine vt ?_ | refine vc (L1) ?_ | refine vcF (L1) ?_ | refine vc (L2) ?_ | refine vcF (L2) ?_ | refine vc (first7_d) ?_ | refine vcF (first7_d) ?_))); refine W_e ?_) | (apply ZK; first | refine Z4 ?_ | refine Z5 ?_) | refine Z6 ?_ | refine Z7 ?_ | refine Z8 ?_ | refine Z9 ?_ | refine ZA ?_ | refine ZB ?_ | refine ZC ?_ | refine ZD ?_ | refine ZE ?_ | refine ZF ?_ | refine ZG ?_ | refine ZH ?_)
    repeat (first | refine kEnd_m ?_ | refine kEnd_f ?_)
    refine kEnd_g ?_ (by first | exact .inl rfl | exact .inr rfl)
    exact Sub.eq rfl rfl
  cases b2
  case true =>
    refine DC.of Try.func12 Try.ntmps12 Try.results12 rfl (by decide +kernel) rfl ?_
    repeat (first | refine Z1 ?_ | refine Z2 ?_ | (refine Z3 ?_; (repeat (first | (apply gS; first | refine go_no ?_ | refine go_f ?_ | refine gx ?_ | refine gm ?_ | refine gp ?_ | refine go_c rfl rfl (L1) ?_ | refine go_cF rfl rfl (L1) ?_ | refine go_cA rfl rfl (L1) ?_ | refine go_c rfl rfl (L2) ?_ | refine go_cF rfl rfl (L2) ?_ | refine go_cA rfl rfl (L2) ?_ | refine go_c rfl rfl (first7_d) ?_ | refine go_cF rfl rfl (first7_d) ?_ | refine go_cA rfl rfl (first7_d) ?_))); refine T_nil ?_) | (apply ZR; (try dsimp only [List.map_cons, List.map_nil]); refine C_dr mixed ?_; (repeat (first | (apply vS; first | refine vn ?_ | refine va ?_ | refine vp ?_ | refine vr ?_ | refine vt ?_ | refine vc (L1) ?_ | refine vcF (L1) ?_ | refine vc (L2) ?_ | refine vcF (L2) ?_ | refine vc (first7_d) ?_ | refine vcF (first7_d) ?_))); refine W_e ?_) | (apply ZK; first | refine Z4 ?_ | refine Z5 ?_) | refine Z6 ?_ | refine Z7 ?_ | refine Z8 ?_ | refine Z9 ?_ | refine ZA ?_ | refine ZB ?_ | refine ZC ?_ | refine ZD ?_ | refine ZE ?_ | refine ZF ?_ | refine ZG ?_ | refine ZH ?_)
    repeat (first | refine kEnd_m ?_ | refine kEnd_f ?_)
    refine kEnd_g ?_ (by first | exact .inl rfl | exact .inr rfl)
    exact Sub.eq rfl rfl
  -- from the first one to itself
  have M1 : DC Try.prog 69 [dsD s n o, domD rs, dsD s n o, domD rs] (.tup [.row 0 [], iD (mvE s n o rs s n o rs)]) := by
    by_cases h : mvE s n o rs s n o rs = 0
    · obtain ⟨g1, g2, g3⟩ := mvE_ok h
      obtain ⟨v1, v2⟩ := errD_ok g1
      obtain ⟨k, n, o, rfl, rfl, hk⟩ := vdB_ok v1
      obtain ⟨c0, ct, hc, hs⟩ := canon_sp v2
      have := Moves_ok hk v2 hc hs hk v2 hc hs rfl
      rw [show mvF k n o c0 ct k n o c0 ct = fun _ => 0 from funext fun c => mv_self hk.ok hs c] at this
      rw [h]
      exact this
    · exact Moves_bad h
  by_cases h2 : mvE s n o rs s' n' o' es = 0
  case neg =>
    have M2 := Moves_bad h2
    generalize mvE s n o rs s' n' o' es = e2 at *
    generalize mvE s n o rs s n o rs = e1 at *
    by_cases h1 : e1 = 0
    all_goals
      refine DC.of Try.func12 Try.ntmps12 Try.results12 rfl (by decide +kernel) rfl ?_
      repeat (first | refine Z1 ?_ | refine Z2 ?_ | (refine Z3 ?_; (repeat (first | (apply gS; first | refine go_no ?_ | refine go_f ?_ | refine gx ?_ | refine gm ?_ | refine gp ?_ | refine go_c rfl rfl (L1) ?_ | refine go_cF rfl rfl (L1) ?_ | refine go_cA rfl rfl (L1) ?_ | refine go_c rfl rfl (L2) ?_ | refine go_cF rfl rfl (L2) ?_ | refine go_cA rfl rfl (L2) ?_ | refine go_c rfl rfl (first7_d) ?_ | refine go_cF rfl rfl (first7_d) ?_ | refine go_cA rfl rfl (first7_d) ?_ | refine go_c rfl rfl (M1) ?_ | refine go_cF rfl rfl (M1) ?_ | refine go_cA rfl rfl (M1) ?_ | refine go_c rfl rfl (M2) ?_ | refine go_cF rfl rfl (M2) ?_ | refine go_cA rfl rfl (M2) ?_))); refine T_nil ?_) | (apply ZR; (try dsimp only [List.map_cons, List.map_nil]); refine C_dr mixed ?_; (repeat (first | (apply vS; first | refine vn ?_ | refine va ?_ | refine vp ?_ | refine vr ?_ | refine vt ?_ | refine vc (L1) ?_ | refine vcF (L1) ?_ | refine vc (L2) ?_ | refine vcF (L2) ?_ | refine vc (first7_d) ?_ | refine vcF (first7_d) ?_ | refine vc (M1) ?_ | refine vcF (M1) ?_ | refine vc (M2) ?_ | refine vcF (M2) ?_))); refine W_e ?_) | (apply ZK; first | refine Z4 ?_ | refine Z5 ?_) | refine Z6 ?_ | refine Z7 ?_ | refine Z8 ?_ | refine Z9 ?_ | refine ZA ?_ | refine ZB ?_ | refine ZC ?_ | refine ZD ?_ | refine ZE ?_ | refine ZF ?_ | refine ZG ?_ | refine ZH ?_)
      repeat (first | refine kEnd_m ?_ | refine kEnd_f ?_)
      refine kEnd_g ?_ (by first | exact .inl rfl | exact .inr rfl)
      exact Sub.eq rfl rfl
  obtain ⟨g1, g2, g3⟩ := mvE_ok h2
  obtain ⟨v1, v2⟩ := errD_ok g1
  obtain ⟨k, n, o, rfl, rfl, hk⟩ := vdB_ok v1
  obtain ⟨c0, ct, hc, hs⟩ := canon_sp v2
  obtain ⟨v3, v4⟩ := errD_ok g2
  obtain ⟨k', n', o', rfl, rfl, hk'⟩ := vdB_ok v3
  obtain ⟨e0, et, hc', hs'⟩ := canon_sp v4
  have M2 := Moves_ok hk v2 hc hs hk' v4 hc' hs' g3
  have M3 := Moves_ok hk' v4 hc' hs' hk v2 hc hs g3.symm
  have hl : (c0 :: ct).length = (e0 :: et).length := by rw [← (canon_cnt v2 hc).2.2, ← (canon_cnt v4 hc').2.2, g3]
  have hback := fun a b (ha : a < 8) (hb : b < 8) => mv_back hk.ok hs hk'.ok hs' hl ha hb
  generalize mvF k n o c0 ct k' n' o' e0 et = F at *
  generalize mvF k' n' o' e0 et k n o c0 ct = G at *
  obtain ⟨t1, t2⟩ := ents_tw hback
  have hi64 : ∀ i ∈ ents F 64, i < 64 := fun i hi => (ents_mem.1 hi).1
  have hfound := fun i (hi : i ∈ ents F 64) => found_all (hi64 i hi) (t2 i hi)
  have h64 := ents_le F 64
  clear hback t2 hi64 h2 g1 g2 hk hk' hc hc' hs hs' hl v1 v2 v3 v4
  generalize mvE s n o rs s n o rs = e1 at *
  dsimp only [cntsD, entsC] at M2 M3
  generalize ents F 64 = LF at *
  generalize ents G 64 = LG at *
  have hlen : (LF.length : Int) = LG.length := by omega
  by_cases h1 : e1 = 0
  all_goals
    refine DC.of Try.func12 Try.ntmps12 Try.results12 rfl (by decide +kernel) rfl ?_
    repeat (first | refine Z1 ?_ | refine Z2 ?_ | (refine Z3 ?_; (repeat (first | (apply gS; first | refine go_no ?_ | refine go_f ?_ | refine gx ?_ | refine gm ?_ | refine gp ?_ | refine go_c rfl rfl (L1) ?_ | refine go_cF rfl rfl (L1) ?_ | refine go_cA rfl rfl (L1) ?_ | refine go_c rfl rfl (L2) ?_ | refine go_cF rfl rfl (L2) ?_ | refine go_cA rfl rfl (L2) ?_ | refine go_c rfl rfl (first7_d) ?_ | refine go_cF rfl rfl (first7_d) ?_ | refine go_cA rfl rfl (first7_d) ?_ | refine go_c rfl rfl (M1) ?_ | refine go_cF rfl rfl (M1) ?_ | refine go_cA rfl rfl (M1) ?_ | refine go_c rfl rfl (M2) ?_ | refine go_cF rfl rfl (M2) ?_ | refine go_cA rfl rfl (M2) ?_ | refine go_c rfl rfl (M3) ?_ | refine go_cF rfl rfl (M3) ?_ | refine go_cA rfl rfl (M3) ?_))); refine T_nil ?_) | (apply ZR; (try dsimp only [List.map_cons, List.map_nil]); refine C_dr mixed ?_; (repeat (first | (apply vS; first | refine vn ?_ | refine va ?_ | refine vp ?_ | refine vr ?_ | refine vt ?_ | refine vc (L1) ?_ | refine vcF (L1) ?_ | refine vc (L2) ?_ | refine vcF (L2) ?_ | refine vc (first7_d) ?_ | refine vcF (first7_d) ?_ | refine vc (M1) ?_ | refine vcF (M1) ?_ | refine vc (M2) ?_ | refine vcF (M2) ?_ | refine vc (M3) ?_ | refine vcF (M3) ?_))); refine W_e ?_) | (apply ZK; first | refine Z4 ?_ | refine Z5 ?_) | refine Z6 ?_ | refine Z7 ?_ | refine Z8 ?_ | refine Z9 ?_ | refine ZA ?_ | refine ZB ?_ | refine ZC ?_ | refine ZD ?_ | refine ZE ?_ | refine ZF ?_ | refine ZG ?_ | refine ZH ?_)
    refine C_count LF.length (fun _ => True) (fun i => ⟨2, 133, [(11, iD i), (7, .row LF.length (LF.flatMap (entC kdMove F))), (9, .row LG.length (LG.flatMap (entC kdMove G)))], []⟩) ?_ trivial ?_
    · exact Wk.gx (fun b => b)
    · intro i hi _
      by_cases hlt : i < LF.length
      · have hf := hfound LF[i] (List.getElem_mem hlt)
        have hstep := fun m (hm : m < LG.length) => any_snoc' (fun j => decide (j / 8 = LF[i] % 8 ∧ j % 8 = LF[i] / 8 ∧ G j = F LF[i])) hm
        obtain ⟨fm, hfm⟩ : ∃ fm : Nat → Bool, ∀ m, fm m = foundB F G LG LF[i] m := ⟨_, fun _ => rfl⟩
        have hfm' : ∀ m, ((LG.take m).any fun j => decide (j / 8 = LF[i] % 8 ∧ j % 8 = LF[i] / 8 ∧ G j = F LF[i])) = fm m := fun m => (hfm m).symm
        have f0 : fm 0 = false := by rw [hfm]; rfl
        rw [← hfm] at hf
        simp only [hfm'] at hstep
        clear hfm hfm' hfound
        repeat (first | refine Z1 ?_ | refine Z2 ?_ | (refine Z3 ?_; (repeat (first | (apply gS; first | refine go_no ?_ | refine go_f ?_ | refine gx ?_ | refine gm ?_ | refine gp ?_))); refine T_nil ?_) | (apply ZR; (try dsimp only [List.map_cons, List.map_nil]); refine C_dr mixed ?_; (repeat (first | (apply vS; first | refine vn ?_ | refine va ?_ | refine vp ?_ | refine vr ?_ | refine vt ?_))); refine W_e ?_) | (apply ZK; first | refine Z4 ?_ | refine Z5 ?_) | refine Z6 ?_ | refine Z7 ?_ | refine Z8 ?_ | refine Z9 ?_ | refine ZA ?_ | refine ZB ?_ | refine ZC ?_ | refine ZD ?_ | refine ZE ?_ | refine ZF ?_ | refine ZG ?_ | refine ZH ?_)
        refine C_count LG.length (fun _ => True) (fun m => ⟨2, 133, [(13, iD m), (12, bD (fm m)), (11, iD i), (7, .row LF.length (LF.flatMap (entC kdMove F))), (9, .row LG.length (LG.flatMap (entC kdMove G)))], []⟩) ?_ trivial ?_
        · rw [f0]
          exact Wk.gx (fun b => b)
        · intro m hm _
          by_cases hml : m < LG.length
          · have s1 := hstep m hml
            clear hstep
            generalize hx : LF[i] = x at *
            generalize hy : LG[m] = y at *
            cases hfmm : fm m
            · rw [hfmm, Bool.false_or] at s1
              by_cases c1 : y / 8 = x % 8
              · by_cases c2 : y % 8 = x / 8
                · by_cases c3 : G y = F x
                  · rw [decide_eq_true ⟨c1, c2, c3⟩] at s1
                    rw [s1]
                    subst hx; subst hy
                    repeat (first | refine Z1 ?_ | refine Z2 ?_ | (refine Z3 ?_; (repeat (first | (apply gS; first | refine go_no ?_ | refine go_f ?_ | refine gx ?_ | refine gm ?_ | refine gp ?_))); refine T_nil ?_) | (apply ZR; (try dsimp only [List.map_cons, List.map_nil]); refine C_dr mixed ?_; (repeat (first | (apply vS; first | refine vn ?_ | refine va ?_ | refine vp ?_ | refine vr ?_ | refine vt ?_))); refine W_e ?_) | (apply ZK; first | refine Z4 ?_ | refine Z5 ?_) | refine Z6 ?_ | refine Z7 ?_ | refine Z8 ?_ | refine Z9 ?_ | refine ZA ?_ | refine ZB ?_ | refine ZC ?_ | refine ZD ?_ | refine ZE ?_ | refine ZF ?_ | refine ZG ?_ | refine ZH ?_)
                    refine kLoop_n ⟨hml, trivial, ?_⟩
                    exact Wk.gx (fun b => b)
                  · rw [decide_eq_false (fun h => c3 h.2.2)] at s1
                    rw [s1]
                    subst hx; subst hy
                    repeat (first | refine Z1 ?_ | refine Z2 ?_ | (refine Z3 ?_; (repeat (first | (apply gS; first | refine go_no ?_ | refine go_f ?_ | refine gx ?_ | refine gm ?_ | refine gp ?_))); refine T_nil ?_) | (apply ZR; (try dsimp only [List.map_cons, List.map_nil]); refine C_dr mixed ?_; (repeat (first | (apply vS; first | refine vn ?_ | refine va ?_ | refine vp ?_ | refine vr ?_ | refine vt ?_))); refine W_e ?_) | (apply ZK; first | refine Z4 ?_ | refine Z5 ?_) | refine Z6 ?_ | refine Z7 ?_ | refine Z8 ?_ | refine Z9 ?_ | refine ZA ?_ | refine ZB ?_ | refine ZC ?_ | refine ZD ?_ | refine ZE ?_ | refine ZF ?_ | refine ZG ?_ | refine ZH ?_)
                    refine kLoop_n ⟨hml, trivial, ?_⟩
                    exact Wk.gx (fun b => b)
                · rw [decide_eq_false (fun h => c2 h.2.1)] at s1
                  rw [s1]
                  subst hx; subst hy
                  repeat (first | refine Z1 ?_ | refine Z2 ?_ | (refine Z3 ?_; (repeat (first | (apply gS; first | refine go_no ?_ | refine go_f ?_ | refine gx ?_ | refine gm ?_ | refine gp ?_))); refine T_nil ?_) | (apply ZR; (try dsimp only [List.map_cons, List.map_nil]); refine C_dr mixed ?_; (repeat (first | (apply vS; first | refine vn ?_ | refine va ?_ | refine vp ?_ | refine vr ?_ | refine vt ?_))); refine W_e ?_) | (apply ZK; first | refine Z4 ?_ | refine Z5 ?_) | refine Z6 ?_ | refine Z7 ?_ | refine Z8 ?_ | refine Z9 ?_ | refine ZA ?_ | refine ZB ?_ | refine ZC ?_ | refine ZD ?_ | refine ZE ?_ | refine ZF ?_ | refine ZG ?_ | refine ZH ?_)
                  refine kLoop_n ⟨hml, trivial, ?_⟩
                  exact Wk.gx (fun b => b)
              · rw [decide_eq_false (fun h => c1 h.1)] at s1
                rw [s1]
                subst hx; subst hy
                repeat (first | refine Z1 ?_ | refine Z2 ?_ | (refine Z3 ?_; (repeat (first | (apply gS; first | refine go_no ?_ | refine go_f ?_ | refine gx ?_ | refine gm ?_ | refine gp ?_))); refine T_nil ?_) | (apply ZR; (try dsimp only [List.map_cons, List.map_nil]); refine C_dr mixed ?_; (repeat (first | (apply vS; first | refine vn ?_ | refine va ?_ | refine vp ?_ | refine vr ?_ | refine vt ?_))); refine W_e ?_) | (apply ZK; first | refine Z4 ?_ | refine Z5 ?_) | refine Z6 ?_ | refine Z7 ?_ | refine Z8 ?_ | refine Z9 ?_ | refine ZA ?_ | refine ZB ?_ | refine ZC ?_ | refine ZD ?_ | refine ZE ?_ | refine ZF ?_ | refine ZG ?_ | refine ZH ?_)
                refine kLoop_n ⟨hml, trivial, ?_⟩
                exact Wk.gx (fun b => b)
            · rw [hfmm, Bool.true_or] at s1
              rw [s1]
              subst hx; subst hy
              repeat (first | refine Z1 ?_ | refine Z2 ?_ | (refine Z3 ?_; (repeat (first | (apply gS; first | refine go_no ?_ | refine go_f ?_ | refine gx ?_ | refine gm ?_ | refine gp ?_))); refine T_nil ?_) | (apply ZR; (try dsimp only [List.map_cons, List.map_nil]); refine C_dr mixed ?_; (repeat (first | (apply vS; first | refine vn ?_ | refine va ?_ | refine vp ?_ | refine vr ?_ | refine vt ?_))); refine W_e ?_) | (apply ZK; first | refine Z4 ?_ | refine Z5 ?_) | refine Z6 ?_ | refine Z7 ?_ | refine Z8 ?_ | refine Z9 ?_ | refine ZA ?_ | refine ZB ?_ | refine ZC ?_ | refine ZD ?_ | refine ZE ?_ | refine ZF ?_ | refine ZG ?_ | refine ZH ?_)
              refine kLoop_n ⟨hml, trivial, ?_⟩
              exact Wk.gx (fun b => b)
          · obtain rfl : m = LG.length := by omega
            rw [hf]
            clear hstep
            repeat (first | refine Z1 ?_ | refine Z2 ?_ | (refine Z3 ?_; (repeat (first | (apply gS; first | refine go_no ?_ | refine go_f ?_ | refine gx ?_ | refine gm ?_ | refine gp ?_))); refine T_nil ?_) | (apply ZR; (try dsimp only [List.map_cons, List.map_nil]); refine C_dr mixed ?_; (repeat (first | (apply vS; first | refine vn ?_ | refine va ?_ | refine vp ?_ | refine vr ?_ | refine vt ?_))); refine W_e ?_) | (apply ZK; first | refine Z4 ?_ | refine Z5 ?_) | refine Z6 ?_ | refine Z7 ?_ | refine Z8 ?_ | refine Z9 ?_ | refine ZA ?_ | refine ZB ?_ | refine ZC ?_ | refine ZD ?_ | refine ZE ?_ | refine ZF ?_ | refine ZG ?_ | refine ZH ?_)
            refine kLoop_n ⟨hlt, trivial, ?_⟩
            exact Wk.gx (fun b => b)
      · repeat (first | refine Z1 ?_ | refine Z2 ?_ | (refine Z3 ?_; (repeat (first | (apply gS; first | refine go_no ?_ | refine go_f ?_ | refine gx ?_ | refine gm ?_ | refine gp ?_ | refine go_c rfl rfl (first7_d) ?_ | refine go_cF rfl rfl (first7_d) ?_ | refine go_cA rfl rfl (first7_d) ?_))); refine T_nil ?_) | (apply ZR; (try dsimp only [List.map_cons, List.map_nil]); refine C_dr mixed ?_; (repeat (first | (apply vS; first | refine vn ?_ | refine va ?_ | refine vp ?_ | refine vr ?_ | refine vt ?_ | refine vc (first7_d) ?_ | refine vcF (first7_d) ?_))); refine W_e ?_) | (apply ZK; first | refine Z4 ?_ | refine Z5 ?_) | refine Z6 ?_ | refine Z7 ?_ | refine Z8 ?_ | refine Z9 ?_ | refine ZA ?_ | refine ZB ?_ | refine ZC ?_ | refine ZD ?_ | refine ZE ?_ | refine ZF ?_ | refine ZG ?_ | refine ZH ?_)
        repeat (first | refine kEnd_m ?_ | refine kEnd_f ?_)
        refine kEnd_g ?_ (by first | exact .inl rfl | exact .inr rfl)
        exact Sub.eq rfl rfl
theorem walk {w : World} (v : Value) (t : (ByteArray × Int × Int) × List Rg) (tc : RC (fun b => b < w.heap.size) w (spreadD t.1.1 t.1.2.1 t.1.2.2 t.2) v) (u : Value) (q : (ByteArray × Int × Int) × List Rg) (qc : RC (fun b => b < w.heap.size) w (spreadD q.1.1 q.1.2.1 q.1.2.2 q.2) u) : Calls Try.prog 12 #[v, u] w fun e w' => e = .returned (.bool true) ∧ Below w.heap.size w w' :=
  DC.law (law_d t.1.1 t.1.2.1 t.1.2.2 t.2 q.1.1 q.1.2.1 q.1.2.2 q.2) (.cons tc (.cons qc .nil))
end Go.Proofs.Ytifapodobhkdcaa.distTurned
