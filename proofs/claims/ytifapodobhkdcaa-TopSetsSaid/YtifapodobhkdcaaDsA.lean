/- Moves of the program and of the reference, by the abstract machine. -/
import Derived.Test.YtifapodobhkdcaaDs8
namespace Go.Proofs.Ytifapodobhkdcaa
open Go.RowKit
set_option linter.unusedVariables false
set_option maxHeartbeats 16000000
set_option linter.unusedSimpArgs false
set_option maxRecDepth 100000
def kdMove : ByteArray := ⟨#[109, 111, 118, 101]⟩
/-- whether the i-th index of a domain moves, and from where to where -/
def mvB (k : Kd) (n o : Nat) (c0 : Rg) (ct : List Rg) (k' : Kd) (n' o' : Nat) (e0 : Rg) (et : List Rg) (i : Nat) : Bool :=
  decide ((findRes e0 et (ithX (c0 :: ct) i)).2 = 0 ∧ own k n o (cN c0) (i / iN c0 ct) ≠ ownV k' n' o' e0 et (ithX (c0 :: ct) i))
def mvC (k : Kd) (n o : Nat) (c0 : Rg) (ct : List Rg) (k' : Kd) (n' o' : Nat) (e0 : Rg) (et : List Rg) (i : Nat) : Nat :=
  own k n o (cN c0) (i / iN c0 ct) * 8 + ownV k' n' o' e0 et (ithX (c0 :: ct) i)
/-- how many of the first m indexes move -/
def cntB (g : Nat → Bool) (f : Nat → Nat) (m : Nat) (c : Nat) : Int := (((List.range m).filter fun i => g i && decide (f i = c)).length : Nat)
theorem cntB_0 (g : Nat → Bool) (f : Nat → Nat) : cntB g f 0 = fun _ => 0 := rfl
theorem cntB_no {g : Nat → Bool} {f : Nat → Nat} {m : Nat} (h : g m = false) : cntB g f (m + 1) = cntB g f m := funext fun c => by
  unfold cntB
  rw [List.range_succ, List.filter_append, List.length_append]
  simp [h]
theorem cntB_yes {g : Nat → Bool} {f : Nat → Nat} {m : Nat} (h : g m = true) : cntB g f (m + 1) = updF (cntB g f m) (f m) (cntB g f m (f m) + 1) := funext fun c => by
  unfold updF
  have e : cntB g f (m + 1) c = cntB g f m c + if c = f m then 1 else 0 := by
    unfold cntB
    rw [List.range_succ, List.filter_append, List.length_append]
    by_cases hc : f m = c
    · subst hc; simp [h]
    · rw [if_neg (fun e => hc e.symm)]; simp [h, hc]
  rw [e]
  by_cases hc : c = f m
  · subst hc; rw [if_pos rfl, if_pos rfl]
  · rw [if_neg hc, if_neg hc]; omega
theorem cntB_le (g : Nat → Bool) (f : Nat → Nat) (m c : Nat) : 0 ≤ cntB g f m c ∧ cntB g f m c ≤ m := by
  unfold cntB
  have := List.length_filter_le (fun i => g i && decide (f i = c)) (List.range m)
  rw [List.length_range] at this
  omega
/-- what Moves counts -/
def mvF (k : Kd) (n o : Nat) (c0 : Rg) (ct : List Rg) (k' : Kd) (n' o' : Nat) (e0 : Rg) (et : List Rg) : Nat → Int := cntB (mvB k n o c0 ct k' n' o' e0 et) (mvC k n o c0 ct k' n' o' e0 et) (cN c0 * iN c0 ct)
theorem ownV_lt {k : Kd} {n o : Nat} (hk : OkDs k n o) {c0 : Rg} {ct : List Rg} (hs : SpOk c0 ct) (x : List Int) : ownV k n o c0 ct x < o := by
  unfold ownV
  split
  · rename_i h
    have := (find_lt hs h).1
    rw [memN_len] at this
    exact own_lt hk this
  · exact hk.o1
/-- the error of Moves -/
def mvE (s : ByteArray) (n o : Int) (rs : List Rg) (s' : ByteArray) (n' o' : Int) (es : List Rg) : Int :=
  if vdB s' n' o' = true then (if errD s n o rs = 0 then (if errD s' n' o' es = 0 then (if rs.length = es.length then 0 else 2) else errD s' n' o' es) else errD s n o rs) else 70
theorem inB_mem {rs : List Rg} (hv : ∀ r ∈ rs, vB r = true) (x : List Int) : inB rs x = true ↔ x ∈ idxs rs := by
  have p := place_iff (xs := x) hv
  rw [idxs_eq, List.mem_map]
  constructor
  · intro h
    obtain ⟨a, b⟩ := p.1 h
    exact ⟨_, List.mem_range.2 a, b⟩
  · rintro ⟨i, hi, rfl⟩
    exact (p.2 i (List.mem_range.1 hi) rfl).1
theorem mvE_ok {s : ByteArray} {n o : Int} {rs : List Rg} {s' : ByteArray} {n' o' : Int} {es : List Rg} (h : mvE s n o rs s' n' o' es = 0) : errD s n o rs = 0 ∧ errD s' n' o' es = 0 ∧ rs.length = es.length := by
  unfold mvE at h
  split at h
  · split at h
    · split at h
      · split at h
        · exact ⟨by assumption, by assumption, by assumption⟩
        · omega
      · rename_i h1 h2; exact absurd h h2
    · rename_i h1; exact absurd h h1
  · omega
theorem Moves_bad {s : ByteArray} {n o : Int} {rs : List Rg} {s' : ByteArray} {n' o' : Int} {es : List Rg} (h : mvE s n o rs s' n' o' es ≠ 0) : DC Try.prog 69 [dsD s n o, domD rs, dsD s' n' o', domD es] (.tup [.row 0 [], iD (mvE s n o rs s' n' o' es)]) := by
  have V := tValid_d s' n' o'
  unfold mvE at h ⊢
  cases hv : vdB s' n' o'
  · rw [hv] at V
    rw [if_neg (by decide)]
    refine DC.of Try.func69 Try.ntmps69 Try.results69 rfl (by decide +kernel) rfl ?_
    repeat (first | refine Z1 ?_ | refine Z2 ?_ | (refine Z3 ?_; (repeat (first | (apply gS; first | refine go_f ?_ | refine gx ?_ | refine gm ?_ | refine gp ?_ | refine go_c rfl rfl (V) ?_ | refine go_cF rfl rfl (V) ?_ | refine go_cA rfl rfl (V) ?_) | (apply gZ; first | refine go_f ?_ | refine gx ?_ | refine gm ?_))); refine T_nil ?_) | (apply ZR; (try dsimp only [List.map_cons, List.map_nil]); refine C_dr mixed ?_; (repeat (first | (apply vS; first | refine va ?_ | refine vp ?_ | refine vr ?_ | refine vt ?_ | refine vc (V) ?_ | refine vcF (V) ?_) | (apply vZ; first | refine vs ?_ | refine vw ?_))); refine W_e ?_) | (apply ZK; first | refine Z4 ?_ | refine Z5 ?_) | refine Z6 ?_ | refine Z7 ?_ | refine Z8 ?_ | refine Z9 ?_ | refine ZA ?_ | refine ZB ?_ | refine ZC ?_ | refine ZD ?_ | refine ZE ?_ | refine ZF ?_ | refine ZG ?_ | refine ZH ?_)
    repeat (first | refine kEnd_m ?_ | refine kEnd_f ?_)
    refine kEnd_g ?_ (by first | exact .inl rfl | exact .inr rfl)
    exact Sub.tup (.cons Sub.nil (.cons (Sub.eq rfl rfl) .nil))
  rw [hv] at V h
  rw [if_pos rfl] at h ⊢
  by_cases h1 : errD s n o rs = 0
  case neg =>
    rw [if_neg h1]
    have B := begin_bad h1
    generalize errD s n o rs = e at *
    refine DC.of Try.func69 Try.ntmps69 Try.results69 rfl (by decide +kernel) rfl ?_
    repeat (first | refine Z1 ?_ | refine Z2 ?_ | (refine Z3 ?_; (repeat (first | (apply gS; first | refine go_f ?_ | refine gx ?_ | refine gm ?_ | refine gp ?_ | refine go_c rfl rfl (V) ?_ | refine go_cF rfl rfl (V) ?_ | refine go_cA rfl rfl (V) ?_ | refine go_c rfl rfl (B) ?_ | refine go_cF rfl rfl (B) ?_ | refine go_cA rfl rfl (B) ?_) | (apply gZ; first | refine go_f ?_ | refine gx ?_ | refine gm ?_))); refine T_nil ?_) | (apply ZR; (try dsimp only [List.map_cons, List.map_nil]); refine C_dr mixed ?_; (repeat (first | (apply vS; first | refine va ?_ | refine vp ?_ | refine vr ?_ | refine vt ?_ | refine vc (V) ?_ | refine vcF (V) ?_ | refine vc (B) ?_ | refine vcF (B) ?_) | (apply vZ; first | refine vs ?_ | refine vw ?_))); refine W_e ?_) | (apply ZK; first | refine Z4 ?_ | refine Z5 ?_) | refine Z6 ?_ | refine Z7 ?_ | refine Z8 ?_ | refine Z9 ?_ | refine ZA ?_ | refine ZB ?_ | refine ZC ?_ | refine ZD ?_ | refine ZE ?_ | refine ZF ?_ | refine ZG ?_ | refine ZH ?_)
    repeat (first | refine kEnd_m ?_ | refine kEnd_f ?_)
    refine kEnd_g ?_ (by first | exact .inl rfl | exact .inr rfl)
    exact Sub.tup (.cons Sub.nil (.cons (Sub.eq rfl rfl) .nil))
  rw [if_pos h1] at h ⊢
  obtain ⟨g1, g2⟩ := errD_ok h1
  obtain ⟨k, n, o, rfl, rfl, hk⟩ := vdB_ok g1
  obtain ⟨c0, ct, hc, hs⟩ := canon_sp g2
  have B := begin_d hk g2 hc hs
  by_cases h2 : errD s' n' o' es = 0
  case neg =>
    rw [if_neg h2]
    have B2 := begin_bad h2
    generalize errD s' n' o' es = e at *
    refine DC.of Try.func69 Try.ntmps69 Try.results69 rfl (by decide +kernel) rfl ?_
    repeat (first | refine Z1 ?_ | refine Z2 ?_ | (refine Z3 ?_; (repeat (first | (apply gS; first | refine go_f ?_ | refine gx ?_ | refine gm ?_ | refine gp ?_ | refine go_c rfl rfl (V) ?_ | refine go_cF rfl rfl (V) ?_ | refine go_cA rfl rfl (V) ?_ | refine go_c rfl rfl (B) ?_ | refine go_cF rfl rfl (B) ?_ | refine go_cA rfl rfl (B) ?_ | refine go_c rfl rfl (B2) ?_ | refine go_cF rfl rfl (B2) ?_ | refine go_cA rfl rfl (B2) ?_) | (apply gZ; first | refine go_f ?_ | refine gx ?_ | refine gm ?_))); refine T_nil ?_) | (apply ZR; (try dsimp only [List.map_cons, List.map_nil]); refine C_dr mixed ?_; (repeat (first | (apply vS; first | refine va ?_ | refine vp ?_ | refine vr ?_ | refine vt ?_ | refine vc (V) ?_ | refine vcF (V) ?_ | refine vc (B) ?_ | refine vcF (B) ?_ | refine vc (B2) ?_ | refine vcF (B2) ?_) | (apply vZ; first | refine vs ?_ | refine vw ?_))); refine W_e ?_) | (apply ZK; first | refine Z4 ?_ | refine Z5 ?_) | refine Z6 ?_ | refine Z7 ?_ | refine Z8 ?_ | refine Z9 ?_ | refine ZA ?_ | refine ZB ?_ | refine ZC ?_ | refine ZD ?_ | refine ZE ?_ | refine ZF ?_ | refine ZG ?_ | refine ZH ?_)
    repeat (first | refine kEnd_m ?_ | refine kEnd_f ?_)
    refine kEnd_g ?_ (by first | exact .inl rfl | exact .inr rfl)
    exact Sub.tup (.cons Sub.nil (.cons (Sub.eq rfl rfl) .nil))
  rw [if_pos h2] at h ⊢
  obtain ⟨g3, g4⟩ := errD_ok h2
  obtain ⟨k', n', o', rfl, rfl, hk'⟩ := vdB_ok g3
  obtain ⟨e0, et, hc', hs'⟩ := canon_sp g4
  have B2 := begin_d hk' g4 hc' hs'
  by_cases h3 : rs.length = es.length
  · rw [if_pos h3] at h; exact absurd rfl h
  rw [if_neg h3]
  have h3' : ¬ (rs.length : Int) = es.length := by omega
  refine DC.of Try.func69 Try.ntmps69 Try.results69 rfl (by decide +kernel) rfl ?_
  repeat (first | refine Z1 ?_ | refine Z2 ?_ | (refine Z3 ?_; (repeat (first | (apply gS; first | refine go_f ?_ | refine gx ?_ | refine gm ?_ | refine gp ?_ | refine go_c rfl rfl (V) ?_ | refine go_cF rfl rfl (V) ?_ | refine go_cA rfl rfl (V) ?_ | refine go_c rfl rfl (B) ?_ | refine go_cF rfl rfl (B) ?_ | refine go_cA rfl rfl (B) ?_ | refine go_c rfl rfl (B2) ?_ | refine go_cF rfl rfl (B2) ?_ | refine go_cA rfl rfl (B2) ?_) | (apply gZ; first | refine go_f ?_ | refine gx ?_ | refine gm ?_))); refine T_nil ?_) | (apply ZR; (try dsimp only [List.map_cons, List.map_nil]); refine C_dr mixed ?_; (repeat (first | (apply vS; first | refine va ?_ | refine vp ?_ | refine vr ?_ | refine vt ?_ | refine vc (V) ?_ | refine vcF (V) ?_ | refine vc (B) ?_ | refine vcF (B) ?_ | refine vc (B2) ?_ | refine vcF (B2) ?_) | (apply vZ; first | refine vs ?_ | refine vw ?_))); refine W_e ?_) | (apply ZK; first | refine Z4 ?_ | refine Z5 ?_) | refine Z6 ?_ | refine Z7 ?_ | refine Z8 ?_ | refine Z9 ?_ | refine ZA ?_ | refine ZB ?_ | refine ZC ?_ | refine ZD ?_ | refine ZE ?_ | refine ZF ?_ | refine ZG ?_ | refine ZH ?_)
  repeat (first | refine kEnd_m ?_ | refine kEnd_f ?_)
  refine kEnd_g ?_ (by first | exact .inl rfl | exact .inr rfl)
  exact Sub.tup (.cons Sub.nil (.cons (Sub.eq rfl rfl) .nil))
set_option maxHeartbeats 8000000 in
theorem Moves_ok {s : ByteArray} {k : Kd} {n o : Nat} (hk : Okd s k n o) {rs : List Rg} {c0 : Rg} {ct : List Rg} (hd : domB rs = true) (hc : canonRs rs = c0 :: ct) (hs : SpOk c0 ct)
    {s' : ByteArray} {k' : Kd} {n' o' : Nat} (hk' : Okd s' k' n' o') {es : List Rg} {e0 : Rg} {et : List Rg} (hd' : domB es = true) (hc' : canonRs es = e0 :: et) (hs' : SpOk e0 et) (hrk : rs.length = es.length) :
    DC Try.prog 69 [dsD s n o, domD rs, dsD s' n' o', domD es] (.tup [cntsD kdMove (mvF k n o c0 ct k' n' o' e0 et), iD 0]) := by
  have V := tValid_d s' n' o'
  rw [okd_v hk'] at V
  have B := begin_d hk hd hc hs
  have B2 := begin_d hk' hd' hc' hs'
  have IX := dIndexes_d (c0 :: ct)
  rw [show dIndexesRes (c0 :: ct) = (idxs (c0 :: ct), 0) from if_pos hs.dom] at IX
  dsimp only at IX
  have hlen : (idxs (c0 :: ct)).length = cN c0 * iN c0 ct := by rw [idxs_len, ← iN_mul]
  have hP : cN c0 * iN c0 ct ≤ 4096 := by rw [iN_mul]; exact (domB_iff.1 hs.dom).2.2
  have hget : ∀ i (h : i < (idxs (c0 :: ct)).length), (idxs (c0 :: ct))[i] = ithX (c0 :: ct) i := fun i h => by
    have := idxs_get (c0 :: ct) i (by rw [← iN_mul, ← hlen]; exact h)
    rw [List.getElem?_eq_getElem h] at this
    exact Option.some.inj this
  have hrl : (rs.length : Int) = es.length := by omega
  have FN := fun x => find_d (s := s') (n := n') (o := o') hs' x
  have hO := fun i (hi : i < cN c0) => owner_d hk (c0 :: ct) (memN c0) (iN c0 ct) (i := i) (by rw [memN_len]; exact hi) (mem_few hs)
  simp only [memN_len] at hO
  have hO' := fun x (h : (findRes e0 et x).2 = 0) => owner_d hk' (e0 :: et) (memN e0) (iN e0 et) (i := (findRes e0 et x).1) (find_lt hs' h).1 (mem_few hs')
  simp only [memN_len] at hO'
  have h8 := hk.ok.o8
  have h8' := hk'.ok.o8
  -- each index
  have key : ∀ i (h : i < (idxs (c0 :: ct)).length), ∃ a b : Nat, ∃ j e : Int, a < 8 ∧ b < 8 ∧ 0 < iN c0 ct ∧ iN c0 ct ≤ 4096 ∧ ((i : Nat) : Int).tdiv (iN c0 ct : Nat) = ((i / iN c0 ct : Nat) : Int) ∧
      DC Try.prog 127 [spD s' n' o' e0 et, rowI (idxs (c0 :: ct))[i]] (.tup [iD j, iD e]) ∧ DC Try.prog 128 [spD s n o c0 ct, iD (((i : Nat) : Int).tdiv (iN c0 ct : Nat))] (iD a) ∧
      (e = 0 → DC Try.prog 128 [spD s' n' o' e0 et, iD j] (iD b)) ∧ (mvB k n o c0 ct k' n' o' e0 et i = true ↔ e = 0 ∧ a ≠ b) ∧ mvC k n o c0 ct k' n' o' e0 et i = a * 8 + b := fun i h => by
    have hi : i < cN c0 * iN c0 ct := by rw [← hlen]; exact h
    obtain ⟨w1, w2, w3, w4, w5, w6⟩ := own_at hk.ok hs hi
    have e1 : ((i : Nat) : Int).tdiv (iN c0 ct : Nat) = ((i / iN c0 ct : Nat) : Int) := by rw [← Int.ofNat_tdiv]
    have hW : iN c0 ct ≤ 4096 := Nat.le_trans (Nat.le_mul_of_pos_left _ (Nat.lt_of_le_of_lt (Nat.zero_le _) w2)) hP
    have hb := ownV_lt hk'.ok hs' (ithX (c0 :: ct) i)
    refine ⟨own k n o (cN c0) (i / iN c0 ct), ownV k' n' o' e0 et (ithX (c0 :: ct) i), _, _, by omega, by omega, w1, hW, e1, by rw [hget i h]; exact FN _, by rw [e1]; exact hO _ w2, fun he => ?_, ?_, rfl⟩
    · have := hO' _ he
      unfold ownV
      rw [if_pos he]
      exact this
    · unfold mvB
      rw [decide_eq_true_iff]
  have hg := fun m => cntB_no (g := mvB k n o c0 ct k' n' o' e0 et) (f := mvC k n o c0 ct k' n' o' e0 et) (m := m)
  have hy := fun m => cntB_yes (g := mvB k n o c0 ct k' n' o' e0 et) (f := mvC k n o c0 ct k' n' o' e0 et) (m := m)
  have hb := fun m c => cntB_le (mvB k n o c0 ct k' n' o' e0 et) (mvC k n o c0 ct k' n' o' e0 et) m c
  have h0 := cntB_0 (mvB k n o c0 ct k' n' o' e0 et) (mvC k n o c0 ct k' n' o' e0 et)
  unfold mvF
  rw [← hlen]
  rw [← hlen] at hP
  have CT := tcounts_d (cntB (mvB k n o c0 ct k' n' o' e0 et) (mvC k n o c0 ct k' n' o' e0 et) (idxs (c0 :: ct)).length) kdMove
  generalize mvB k n o c0 ct k' n' o' e0 et = gB at *
  generalize mvC k n o c0 ct k' n' o' e0 et = gC at *
  generalize idxs (c0 :: ct) = l at *
  generalize cntB gB gC = Q at *
  have hT := fun m => tabD_len (Q m)
  have hA := fun m a b (ha : a < 8) (hb : b < 8) => tab_at (Q m) ha hb
  have hZ : tabD (Q 0) = List.replicate 64 (iD 0) := by rw [h0]; rfl
  clear hO hO' FN hget hlen h0 hk hd hc hs hk' hd' hc' hs'
  refine DC.of Try.func69 Try.ntmps69 Try.results69 rfl (by decide +kernel) rfl ?_
  repeat (first | refine Z1 ?_ | refine Z2 ?_ | (refine Z3 ?_; (repeat (first | (apply gS; first | refine go_f ?_ | refine gx ?_ | refine gm ?_ | refine gp ?_ | refine go_c rfl rfl (V) ?_ | refine go_cF rfl rfl (V) ?_ | refine go_cA rfl rfl (V) ?_ | refine go_c rfl rfl (B) ?_ | refine go_cF rfl rfl (B) ?_ | refine go_cA rfl rfl (B) ?_ | refine go_c rfl rfl (B2) ?_ | refine go_cF rfl rfl (B2) ?_ | refine go_cA rfl rfl (B2) ?_ | refine go_c rfl rfl (IX) ?_ | refine go_cF rfl rfl (IX) ?_ | refine go_cA rfl rfl (IX) ?_) | (apply gZ; first | refine go_f ?_ | refine gx ?_ | refine gm ?_))); refine T_nil ?_) | (apply ZR; (try dsimp only [List.map_cons, List.map_nil]); refine C_dr mixed ?_; (repeat (first | (apply vS; first | refine va ?_ | refine vp ?_ | refine vr ?_ | refine vt ?_ | refine vc (V) ?_ | refine vcF (V) ?_ | refine vc (B) ?_ | refine vcF (B) ?_ | refine vc (B2) ?_ | refine vcF (B2) ?_ | refine vc (IX) ?_ | refine vcF (IX) ?_) | (apply vZ; first | refine vs ?_ | refine vw ?_))); refine W_e ?_) | (apply ZK; first | refine Z4 ?_ | refine Z5 ?_) | refine Z6 ?_ | refine Z7 ?_ | refine Z8 ?_ | refine Z9 ?_ | refine ZA ?_ | refine ZB ?_ | refine ZC ?_ | refine ZD ?_ | refine ZE ?_ | refine ZF ?_ | refine ZG ?_ | refine ZH ?_)
  refine C_count l.length (fun _ => True) (fun m => ⟨5, 97, [(60, iD m), (59, iD l.length), (58, rowL2 l), (10, spD s n o c0 ct), (12, spD s' n' o' e0 et), (13, .ptr 4 0)], [(4, some ⟨156, 64, 1, tabD (Q m)⟩)]⟩) ?_ trivial ?_
  · rw [hZ]
    exact Wk.gx (fun b => b)
  · intro m hm _
    by_cases hlt : m < l.length
    · obtain ⟨a, b, j, e, x1, x2, x3, x4, x5, x6, x7, x8, x9, x10⟩ := key m hlt
      have y1 := hT m
      have y2 := hA m a b x1 x2
      have y3 := (hb m (a * 8 + b)).1
      have y4 := (hb m (a * 8 + b)).2
      have y5 := hg m
      have y6 := hy m
      clear hT hA hb hg hy key CT
      by_cases he : e = 0
      · subst he
        have x8 := x8 rfl
        by_cases hab : a = b
        · have y5 := y5 (by
            cases hh : gB m
            · rfl
            · exact absurd hab (x9.1 hh).2)
          rw [y5]
          clear y5 y6 x9 x10
          subst hab
          repeat (first | refine Z1 ?_ | refine Z2 ?_ | (refine Z3 ?_; (repeat (first | (apply gS; first | refine go_f ?_ | refine gx ?_ | refine gm ?_ | refine gp ?_ | refine go_c rfl rfl (x6) ?_ | refine go_cF rfl rfl (x6) ?_ | refine go_cA rfl rfl (x6) ?_ | refine go_c rfl rfl (x7) ?_ | refine go_cF rfl rfl (x7) ?_ | refine go_cA rfl rfl (x7) ?_ | refine go_c rfl rfl (x8) ?_ | refine go_cF rfl rfl (x8) ?_ | refine go_cA rfl rfl (x8) ?_) | (apply gZ; first | refine go_f ?_ | refine gx ?_ | refine gm ?_))); refine T_nil ?_) | (apply ZR; (try dsimp only [List.map_cons, List.map_nil]); refine C_dr mixed ?_; (repeat (first | (apply vS; first | refine va ?_ | refine vp ?_ | refine vr ?_ | refine vt ?_ | refine vc (x6) ?_ | refine vcF (x6) ?_ | refine vc (x7) ?_ | refine vcF (x7) ?_ | refine vc (x8) ?_ | refine vcF (x8) ?_) | (apply vZ; first | refine vs ?_ | refine vw ?_))); refine W_e ?_) | (apply ZK; first | refine Z4 ?_ | refine Z5 ?_) | refine Z6 ?_ | refine Z7 ?_ | refine Z8 ?_ | refine Z9 ?_ | refine ZA ?_ | refine ZB ?_ | refine ZC ?_ | refine ZD ?_ | refine ZE ?_ | refine ZF ?_ | refine ZG ?_ | refine ZH ?_)
          refine kLoop_n ⟨hlt, trivial, ?_⟩
          exact Wk.gx (fun b => b)
        · have y6 := y6 (x9.2 ⟨rfl, hab⟩)
          rw [x10] at y6
          have y7 := tab_set (Q m) x1 x2 (Q m (a * 8 + b) + 1)
          rw [← y6] at y7
          have hab' : ¬ (a : Int) = b := by omega
          clear y5 y6 x9 x10
          generalize Q m (a * 8 + b) = v at *
          repeat (first | refine Z1 ?_ | refine Z2 ?_ | (refine Z3 ?_; (repeat (first | (apply gS; first | refine go_f ?_ | refine gx ?_ | refine gm ?_ | refine gp ?_ | refine go_c rfl rfl (x6) ?_ | refine go_cF rfl rfl (x6) ?_ | refine go_cA rfl rfl (x6) ?_ | refine go_c rfl rfl (x7) ?_ | refine go_cF rfl rfl (x7) ?_ | refine go_cA rfl rfl (x7) ?_ | refine go_c rfl rfl (x8) ?_ | refine go_cF rfl rfl (x8) ?_ | refine go_cA rfl rfl (x8) ?_) | (apply gZ; first | refine go_f ?_ | refine gx ?_ | refine gm ?_))); refine T_nil ?_) | (apply ZR; (try dsimp only [List.map_cons, List.map_nil]); refine C_dr mixed ?_; (repeat (first | (apply vS; first | refine va ?_ | refine vp ?_ | refine vr ?_ | refine vt ?_ | refine vc (x6) ?_ | refine vcF (x6) ?_ | refine vc (x7) ?_ | refine vcF (x7) ?_ | refine vc (x8) ?_ | refine vcF (x8) ?_) | (apply vZ; first | refine vs ?_ | refine vw ?_))); refine W_e ?_) | (apply ZK; first | refine Z4 ?_ | refine Z5 ?_) | refine Z6 ?_ | refine Z7 ?_ | refine Z8 ?_ | refine Z9 ?_ | refine ZA ?_ | refine ZB ?_ | refine ZC ?_ | refine ZD ?_ | refine ZE ?_ | refine ZF ?_ | refine ZG ?_ | refine ZH ?_)
          refine kLoop_n ⟨hlt, trivial, ?_⟩
          exact Wk.gx (fun b => b)
      · have y5 := y5 (by
          cases hh : gB m
          · rfl
          · exact absurd (x9.1 hh).1 he)
        clear y6 x9 x10 x8
        repeat (first | refine Z1 ?_ | refine Z2 ?_ | (refine Z3 ?_; (repeat (first | (apply gS; first | refine go_f ?_ | refine gx ?_ | refine gm ?_ | refine gp ?_ | refine go_c rfl rfl (x6) ?_ | refine go_cF rfl rfl (x6) ?_ | refine go_cA rfl rfl (x6) ?_) | (apply gZ; first | refine go_f ?_ | refine gx ?_ | refine gm ?_))); refine T_nil ?_) | (apply ZR; (try dsimp only [List.map_cons, List.map_nil]); refine C_dr mixed ?_; (repeat (first | (apply vS; first | refine va ?_ | refine vp ?_ | refine vr ?_ | refine vt ?_ | refine vc (x6) ?_ | refine vcF (x6) ?_) | (apply vZ; first | refine vs ?_ | refine vw ?_))); refine W_e ?_) | (apply ZK; first | refine Z4 ?_ | refine Z5 ?_) | refine Z6 ?_ | refine Z7 ?_ | refine Z8 ?_ | refine Z9 ?_ | refine ZA ?_ | refine ZB ?_ | refine ZC ?_ | refine ZD ?_ | refine ZE ?_ | refine ZF ?_ | refine ZG ?_ | refine ZH ?_)
        refine kLoop_n ⟨hlt, trivial, ?_⟩
        rw [y5]
        exact Wk.gx (fun b => b)
    · obtain rfl : m = l.length := by omega
      repeat (first | refine Z1 ?_ | refine Z2 ?_ | (refine Z3 ?_; (repeat (first | (apply gS; first | refine go_f ?_ | refine gx ?_ | refine gm ?_ | refine gp ?_ | refine go_c rfl rfl (CT) ?_ | refine go_cF rfl rfl (CT) ?_ | refine go_cA rfl rfl (CT) ?_) | (apply gZ; first | refine go_f ?_ | refine gx ?_ | refine gm ?_))); refine T_nil ?_) | (apply ZR; (try dsimp only [List.map_cons, List.map_nil]); refine C_dr mixed ?_; (repeat (first | (apply vS; first | refine va ?_ | refine vp ?_ | refine vr ?_ | refine vt ?_ | refine vc (CT) ?_ | refine vcF (CT) ?_) | (apply vZ; first | refine vs ?_ | refine vw ?_))); refine W_e ?_) | (apply ZK; first | refine Z4 ?_ | refine Z5 ?_) | refine Z6 ?_ | refine Z7 ?_ | refine Z8 ?_ | refine Z9 ?_ | refine ZA ?_ | refine ZB ?_ | refine ZC ?_ | refine ZD ?_ | refine ZE ?_ | refine ZF ?_ | refine ZG ?_ | refine ZH ?_)
      repeat (first | refine kEnd_m ?_ | refine kEnd_f ?_)
      refine kEnd_g ?_ (by first | exact .inl rfl | exact .inr rfl)
      exact Sub.eq rfl rfl
end Go.Proofs.Ytifapodobhkdcaa
