/- The law IterPairs returns true for every input: the chunks of all places have each index once, and what follows them is what comes together place by place. -/
import Derived.Test.YtifapodobhkdcaaF5
import Derived.Test.YtifapodobhkdcaaLdr
import Derived.Test.YtifapodobhkdcaaPcAt
import Derived.Test.YtifapodobhkdcaaDsO
import Derived.Test.YtifapodobhkdcaaCameT
namespace Go.Proofs.Ytifapodobhkdcaa.iterPairs
open Go.RowKit Go.Proofs.Ytifapodobhkdcaa
set_option linter.unusedVariables false
set_option maxHeartbeats 16000000
set_option linter.unusedSimpArgs false
set_option maxRecDepth 100000
/-! ### the chunks -/
def placesQ (k : Kd) (n o : Nat) (c0 : Rg) (ct : List Rg) : List Nat := (List.range o).filter fun p => decide (0 < (partsOf k n o c0 ct p).length)
theorem lead_eq (k : Kd) (n o : Nat) (c0 : Rg) (ct : List Rg) : leadL k n o c0 ct o = (placesQ k n o c0 ct).map fun p : Nat => ((p : Int), partsOf k n o c0 ct p) := by
  unfold leadL piecesL placesQ
  rw [List.filter_map]; rfl
theorem placesQ_nodup (k : Kd) (n o : Nat) (c0 : Rg) (ct : List Rg) : (placesQ k n o c0 ct).Nodup := List.nodup_range.filter _
theorem runs_few' {α : Type} {tg : List α → α → Bool} {l : List α} {gs : List (List α)} (hr : Runs tg l gs) : gs.length ≤ l.length := by
  have hg := hr.get
  have key : ∀ q, q ≤ gs.length → q ≤ cutAt gs q := fun q => by
    induction q with
    | zero => intro _; omega
    | succ q ih =>
      intro hq
      have := ih (by omega)
      rw [cutAt_succ (show q < gs.length by omega)]
      have := (hg q (by omega)).1
      omega
  have h1 := key _ (Nat.le_refl _)
  have h2 := cutAt_le gs gs.length
  rw [hr.flat] at h2
  omega
/-! ### what has been seen -/
def seenF (f lo : Nat → Nat) (Q : List Nat) (i r j : Nat) : Bool := decide (f j ∈ Q.take i ∨ ∃ h : i < Q.length, f j = Q[i] ∧ lo j < r)
def seenL (f lo : Nat → Nat) (Q : List Nat) (N i r : Nat) : List Bool := (List.range N).map fun j => seenF f lo Q i r j
abbrev boolsD (l : List Bool) : List D := l.map bD
def many (l : List Bool) : Nat := (l.filter id).length
theorem many_set : ∀ (l : List Bool) (a : Nat) (h : a < l.length), l[a] = false → many (l.set a true) = many l + 1
  | [], a, h, _ => by simp at h
  | b :: l, 0, h, e => by
    simp at e
    subst e
    simp [many]
  | b :: l, a + 1, h, e => by
    have := many_set l a (by simpa using h) (by simpa using e)
    unfold many at this ⊢
    cases b <;> simp [this]
theorem many_rep (N : Nat) : many (List.replicate N false) = 0 ∧ many (List.replicate N true) = N := by
  unfold many
  constructor
  · rw [List.filter_eq_nil_iff.2]; rfl
    intro a ha
    rw [List.eq_of_mem_replicate ha]; decide
  · rw [List.filter_eq_self.2]; simp
    intro a ha
    rw [List.eq_of_mem_replicate ha]; rfl
theorem many_le (l : List Bool) : many l ≤ l.length := List.length_filter_le _ _
theorem seenL_len (f lo : Nat → Nat) (Q : List Nat) (N i r : Nat) : (boolsD (seenL f lo Q N i r)).length = N := by simp [seenL, boolsD]
theorem setR {β : Type} {g g' : Nat → β} {o w : Nat} (hw : w < o) (h : ∀ p, p < o → p ≠ w → g' p = g p) : (List.range o).map g' = ((List.range o).map g).set w (g' w) := by
  apply List.ext_getElem
  · simp
  · intro i h1 h2
    simp only [List.length_map, List.length_range] at h1
    rw [List.getElem_set]
    simp only [List.getElem_map, List.getElem_range]
    by_cases e : w = i
    · subst e; rw [if_pos rfl]
    · rw [if_neg e]; exact h i h1 (fun h => e h.symm)
theorem seen_step {f lo : Nat → Nat} {Q : List Nat} (hQ : Q.Nodup) {N i r a : Nat} (hi : i < Q.length) (ha : a < N) (h1 : f a = Q[i]) (h2 : lo a = r) (hinj : ∀ j, j < N → f j = Q[i] → lo j = r → j = a) :
    (boolsD (seenL f lo Q N i r))[(((a : Nat) : Int).toNat) * 1]? = some (bD false) ∧ boolsD (seenL f lo Q N i (r + 1)) = (boolsD (seenL f lo Q N i r)).set ((((a : Nat) : Int).toNat) * 1) (bD true) ∧ many (seenL f lo Q N i (r + 1)) = many (seenL f lo Q N i r) + 1 := by
  rw [Int.toNat_natCast, Nat.mul_one]
  have hnot : f a ∉ Q.take i := fun h => by
    obtain ⟨q, hq, e⟩ := List.mem_iff_getElem.1 h
    rw [List.length_take] at hq
    rw [List.getElem_take, h1] at e
    exact List.pairwise_iff_getElem.1 (List.nodup_iff_pairwise_ne.1 hQ) q i (by omega) hi (by omega) e
  have e0 : seenF f lo Q i r a = false := decide_eq_false (fun h => by
    rcases h with h | ⟨_, _, h⟩
    · exact hnot h
    · omega)
  have e1 : seenF f lo Q i (r + 1) a = true := decide_eq_true (.inr ⟨hi, h1, by omega⟩)
  have e := setR (g := fun j => seenF f lo Q i r j) (g' := fun j => seenF f lo Q i (r + 1) j) ha (fun j hj hne => by
      unfold seenF
      refine decide_eq_decide.2 ?_
      constructor
      · rintro (h | ⟨h, h3, h4⟩)
        · exact .inl h
        · refine .inr ⟨h, h3, ?_⟩
          have : lo j ≠ r := fun e => hne (hinj j hj h3 e)
          omega
      · rintro (h | ⟨h, h3, h4⟩)
        · exact .inl h
        · exact .inr ⟨h, h3, by omega⟩)
  have e2 : seenL f lo Q N i (r + 1) = (seenL f lo Q N i r).set a (seenF f lo Q i (r + 1) a) := e
  rw [e1] at e2
  have hlen : (seenL f lo Q N i r).length = N := by simp [seenL]
  have hget : (seenL f lo Q N i r)[a]'(by rw [hlen]; exact ha) = false := by simp [seenL, e0]
  refine ⟨?_, ?_, ?_⟩
  · unfold boolsD
    rw [List.getElem?_map, List.getElem?_eq_getElem (by rw [hlen]; exact ha), hget]; rfl
  · rw [e2]
    unfold boolsD
    rw [List.map_set]
  · rw [e2]
    exact many_set _ _ _ hget
theorem seen_next {f lo : Nat → Nat} {Q : List Nat} {N i m : Nat} (hi : i < Q.length) (hb : ∀ j, j < N → f j = Q[i] → lo j < m) : seenL f lo Q N i m = seenL f lo Q N (i + 1) 0 := by
  unfold seenL
  refine List.map_congr_left fun j hj => ?_
  have hj := List.mem_range.1 hj
  unfold seenF
  refine decide_eq_decide.2 ?_
  rw [List.take_succ_eq_append_getElem hi, List.mem_append, List.mem_singleton]
  constructor
  · rintro (h | ⟨_, h, _⟩)
    · exact .inl (.inl h)
    · exact .inl (.inr h)
  · rintro ((h | h) | ⟨_, _, h⟩)
    · exact .inl h
    · exact .inr ⟨hi, h, hb j hj h⟩
    · omega
theorem seen_0 (f lo : Nat → Nat) (Q : List Nat) (N : Nat) : seenL f lo Q N 0 0 = List.replicate N false := by
  unfold seenL
  rw [List.eq_replicate_iff]
  refine ⟨by simp, fun d hd => ?_⟩
  obtain ⟨j, _, rfl⟩ := List.mem_map.1 hd
  exact decide_eq_false (fun h => by
    rcases h with h | ⟨_, _, h⟩
    · simp at h
    · omega)
theorem seen_end {f lo : Nat → Nat} {Q : List Nat} {N : Nat} (h : ∀ j, j < N → f j ∈ Q) : seenL f lo Q N Q.length 0 = List.replicate N true := by
  unfold seenL
  rw [List.eq_replicate_iff]
  refine ⟨by simp, fun d hd => ?_⟩
  obtain ⟨j, hj, rfl⟩ := List.mem_map.1 hd
  have hj := List.mem_range.1 hj
  exact decide_eq_true (.inl (by rw [List.take_length]; exact h j hj))
theorem zip_len {rs es : List Rg} {N a : Nat} (h : a < (zipL [rs, es] N).length) : (zipL [rs, es] N)[a].length = 2 ∧ ∀ (h0 : (0 : Int).toNat < (zipL [rs, es] N)[a].length) (h1 : (1 : Int).toNat < (zipL [rs, es] N)[a].length), (zipL [rs, es] N)[a][(0 : Int).toNat] = ithX rs a ∧ (zipL [rs, es] N)[a][(1 : Int).toNat] = ithX es a := by
  have e : (zipL [rs, es] N)[a] = [ithX rs a, ithX es a] := by simp [zipL]
  refine ⟨by rw [e]; rfl, fun h0 h1 => ⟨?_, ?_⟩⟩
  · simp only [e]; rfl
  · simp only [e]; rfl
set_option maxHeartbeats 16000000 in
theorem law_d (s : ByteArray) (n o : Int) (rs es : List Rg) : DC Try.prog 21 [dsD s n o, domD rs, domD es] (bD true) := by
  obtain ⟨b1, G1⟩ := large_d rs
  obtain ⟨b2, G2⟩ := large_d es
  cases b1
  case true =>
    refine DC.of Try.func21 Try.ntmps21 Try.results21 rfl (by decide +kernel) rfl ?_
    repeat (first | refine Z1 ?_ | refine Z2 ?_ | (refine Z3 ?_; (repeat (first | (apply gS; first | refine go_no ?_ | refine go_f ?_ | refine gx ?_ | refine gm ?_ | refine gp ?_ | refine go_c rfl rfl (G1) ?_ | refine go_cF rfl rfl (G1) ?_ | refine go_cA rfl rfl (G1) ?_ | refine go_c rfl rfl (G2) ?_ | refine go_cF rfl rfl (G2) ?_ | refine go_cA rfl rfl (G2) ?_ | refine go_c rfl rfl (awake8_d) ?_ | refine go_cF rfl rfl (awake8_d) ?_ | refine go_cA rfl rfl (awake8_d) ?_) | (apply gZ; first | refine go_f ?_ | refine gx ?_ | refine gm ?_))); refine T_nil ?_) | (apply ZR; (try dsimp only [List.map_cons, List.map_nil]); refine C_dr mixed ?_; (repeat (first | (apply vS; first | refine vn ?_ | refine va ?_ | refine vp ?_ | refine vr ?_ | refine vt ?_ | refine vc (G1) ?_ | refine vcF (G1) ?_ | refine vc (G2) ?_ | refine vcF (G2) ?_ | refine vc (awake8_d) ?_ | refine vcF (awake8_d) ?_) | (apply vZ; first | refine vs ?_ | refine vw ?_))); refine W_e ?_) | (apply ZK; first | refine Z4 ?_ | refine Z5 ?_) | refine Z6 ?_ | refine Z7 ?_ | refine Z8 ?_ | refine Z9 ?_ | refine ZA ?_ | refine ZB ?_ | refine ZC ?_ | refine ZD ?_ | refine ZE ?_ | refine ZF ?_ | refine ZG ?_ | refine ZH ?_)
    repeat (first | refine kEnd_m ?_ | refine kEnd_f ?_)
    refine kEnd_g ?_ (by first | exact .inl rfl | exact .inr rfl)
    exact Sub.eq rfl rfl
  cases b2
  case true =>
    refine DC.of Try.func21 Try.ntmps21 Try.results21 rfl (by decide +kernel) rfl ?_
    repeat (first | refine Z1 ?_ | refine Z2 ?_ | (refine Z3 ?_; (repeat (first | (apply gS; first | refine go_no ?_ | refine go_f ?_ | refine gx ?_ | refine gm ?_ | refine gp ?_ | refine go_c rfl rfl (G1) ?_ | refine go_cF rfl rfl (G1) ?_ | refine go_cA rfl rfl (G1) ?_ | refine go_c rfl rfl (G2) ?_ | refine go_cF rfl rfl (G2) ?_ | refine go_cA rfl rfl (G2) ?_ | refine go_c rfl rfl (awake8_d) ?_ | refine go_cF rfl rfl (awake8_d) ?_ | refine go_cA rfl rfl (awake8_d) ?_) | (apply gZ; first | refine go_f ?_ | refine gx ?_ | refine gm ?_))); refine T_nil ?_) | (apply ZR; (try dsimp only [List.map_cons, List.map_nil]); refine C_dr mixed ?_; (repeat (first | (apply vS; first | refine vn ?_ | refine va ?_ | refine vp ?_ | refine vr ?_ | refine vt ?_ | refine vc (G1) ?_ | refine vcF (G1) ?_ | refine vc (G2) ?_ | refine vcF (G2) ?_ | refine vc (awake8_d) ?_ | refine vcF (awake8_d) ?_) | (apply vZ; first | refine vs ?_ | refine vw ?_))); refine W_e ?_) | (apply ZK; first | refine Z4 ?_ | refine Z5 ?_) | refine Z6 ?_ | refine Z7 ?_ | refine Z8 ?_ | refine Z9 ?_ | refine ZA ?_ | refine ZB ?_ | refine ZC ?_ | refine ZD ?_ | refine ZE ?_ | refine ZF ?_ | refine ZG ?_ | refine ZH ?_)
    repeat (first | refine kEnd_m ?_ | refine kEnd_f ?_)
    refine kEnd_g ?_ (by first | exact .inl rfl | exact .inr rfl)
    exact Sub.eq rfl rfl
  have ZP : DC Try.prog 35 [.row 2 [rowR rs, rowR es]] (.tup [rowL3 (zipRes [rs, es]).1, iD (zipRes [rs, es]).2]) := zip_d [rs, es] (by simp)
  by_cases he : errD s n o rs = 0
  case neg =>
    have LB := Leader_bad he
    generalize errD s n o rs = e at *
    generalize zipRes [rs, es] = z at *
    obtain ⟨z1, z2⟩ := z
    dsimp only at ZP
    refine DC.of Try.func21 Try.ntmps21 Try.results21 rfl (by decide +kernel) rfl ?_
    repeat (first | refine Z1 ?_ | refine Z2 ?_ | (refine Z3 ?_; (repeat (first | (apply gS; first | refine go_no ?_ | refine go_f ?_ | refine gx ?_ | refine gm ?_ | refine gp ?_ | refine go_c rfl rfl (G1) ?_ | refine go_cF rfl rfl (G1) ?_ | refine go_cA rfl rfl (G1) ?_ | refine go_c rfl rfl (G2) ?_ | refine go_cF rfl rfl (G2) ?_ | refine go_cA rfl rfl (G2) ?_ | refine go_c rfl rfl (LB) ?_ | refine go_cF rfl rfl (LB) ?_ | refine go_cA rfl rfl (LB) ?_ | refine go_c rfl rfl (ZP) ?_ | refine go_cF rfl rfl (ZP) ?_ | refine go_cA rfl rfl (ZP) ?_ | refine go_c rfl rfl (awake8_d) ?_ | refine go_cF rfl rfl (awake8_d) ?_ | refine go_cA rfl rfl (awake8_d) ?_) | (apply gZ; first | refine go_f ?_ | refine gx ?_ | refine gm ?_))); refine T_nil ?_) | (apply ZR; (try dsimp only [List.map_cons, List.map_nil]); refine C_dr mixed ?_; (repeat (first | (apply vS; first | refine vn ?_ | refine va ?_ | refine vp ?_ | refine vr ?_ | refine vt ?_ | refine vc (G1) ?_ | refine vcF (G1) ?_ | refine vc (G2) ?_ | refine vcF (G2) ?_ | refine vc (LB) ?_ | refine vcF (LB) ?_ | refine vc (ZP) ?_ | refine vcF (ZP) ?_ | refine vc (awake8_d) ?_ | refine vcF (awake8_d) ?_) | (apply vZ; first | refine vs ?_ | refine vw ?_))); refine W_e ?_) | (apply ZK; first | refine Z4 ?_ | refine Z5 ?_) | refine Z6 ?_ | refine Z7 ?_ | refine Z8 ?_ | refine Z9 ?_ | refine ZA ?_ | refine ZB ?_ | refine ZC ?_ | refine ZD ?_ | refine ZE ?_ | refine ZF ?_ | refine ZG ?_ | refine ZH ?_)
    repeat (first | refine kEnd_m ?_ | refine kEnd_f ?_)
    refine kEnd_g ?_ (by first | exact .inl rfl | exact .inr rfl)
    exact Sub.eq rfl rfl
  obtain ⟨hv, hd⟩ := errD_ok he
  obtain ⟨k, n, o, rfl, rfl, hk⟩ := vdB_ok hv
  obtain ⟨c0, ct, hc, hs⟩ := canon_sp hd
  have LB := Leader_ok hk hd hc hs
  by_cases hze : (zipRes [rs, es]).2 = 0
  case neg =>
    generalize leadL k n o c0 ct o = ld at *
    generalize zipRes [rs, es] = z at *
    obtain ⟨z1, z2⟩ := z
    dsimp only at ZP hze
    refine DC.of Try.func21 Try.ntmps21 Try.results21 rfl (by decide +kernel) rfl ?_
    repeat (first | refine Z1 ?_ | refine Z2 ?_ | (refine Z3 ?_; (repeat (first | (apply gS; first | refine go_no ?_ | refine go_f ?_ | refine gx ?_ | refine gm ?_ | refine gp ?_ | refine go_c rfl rfl (G1) ?_ | refine go_cF rfl rfl (G1) ?_ | refine go_cA rfl rfl (G1) ?_ | refine go_c rfl rfl (G2) ?_ | refine go_cF rfl rfl (G2) ?_ | refine go_cA rfl rfl (G2) ?_ | refine go_c rfl rfl (LB) ?_ | refine go_cF rfl rfl (LB) ?_ | refine go_cA rfl rfl (LB) ?_ | refine go_c rfl rfl (ZP) ?_ | refine go_cF rfl rfl (ZP) ?_ | refine go_cA rfl rfl (ZP) ?_ | refine go_c rfl rfl (awake8_d) ?_ | refine go_cF rfl rfl (awake8_d) ?_ | refine go_cA rfl rfl (awake8_d) ?_) | (apply gZ; first | refine go_f ?_ | refine gx ?_ | refine gm ?_))); refine T_nil ?_) | (apply ZR; (try dsimp only [List.map_cons, List.map_nil]); refine C_dr mixed ?_; (repeat (first | (apply vS; first | refine vn ?_ | refine va ?_ | refine vp ?_ | refine vr ?_ | refine vt ?_ | refine vc (G1) ?_ | refine vcF (G1) ?_ | refine vc (G2) ?_ | refine vcF (G2) ?_ | refine vc (LB) ?_ | refine vcF (LB) ?_ | refine vc (ZP) ?_ | refine vcF (ZP) ?_ | refine vc (awake8_d) ?_ | refine vcF (awake8_d) ?_) | (apply vZ; first | refine vs ?_ | refine vw ?_))); refine W_e ?_) | (apply ZK; first | refine Z4 ?_ | refine Z5 ?_) | refine Z6 ?_ | refine Z7 ?_ | refine Z8 ?_ | refine Z9 ?_ | refine ZA ?_ | refine ZB ?_ | refine ZC ?_ | refine ZD ?_ | refine ZE ?_ | refine ZF ?_ | refine ZG ?_ | refine ZH ?_)
    repeat (first | refine kEnd_m ?_ | refine kEnd_f ?_)
    refine kEnd_g ?_ (by first | exact .inl rfl | exact .inr rfl)
    exact Sub.eq rfl rfl
  obtain ⟨hde, hce, hzr⟩ : domB es = true ∧ cnt rs = cnt es ∧ zipRes [rs, es] = (zipL [rs, es] (cnt rs), 0) := by
    unfold zipRes at hze ⊢
    cases hde : domB es
    · rw [if_neg (by simp [hd, hde])] at hze; simp at hze
    · rw [if_pos (by simp [hd, hde])] at hze ⊢
      dsimp only at hze ⊢
      by_cases ha : alikeB [rs, es] (cnt rs) = true
      · rw [if_pos ha]
        unfold alikeB at ha
        simp at ha
        exact ⟨rfl, ha.symm, rfl⟩
      · rw [if_neg ha] at hze; simp at hze
  rw [hzr] at ZP
  dsimp only at ZP
  have hlead := lead_eq k n o c0 ct
  have hQn := placesQ_nodup k n o c0 ct
  have hQm : ∀ p, p ∈ placesQ k n o c0 ct ↔ p < o ∧ 0 < (partsOf k n o c0 ct p).length := fun p => by simp [placesQ]
  have h8 := hk.ok.o8
  obtain ⟨i1, i2, i3⟩ := canon_cnt hd hc
  have hlen : cnt rs = cN c0 * iN c0 ct := i2
  have hP : cN c0 * iN c0 ct ≤ 4096 := by rw [iN_mul]; exact (domB_iff.1 hs.dom).2.2
  have hzl : (zipL [rs, es] (cnt rs)).length = cnt rs := zipL_len _ _
  obtain ⟨fO, hfO⟩ : ∃ fO : Nat → Nat, ∀ j, fO j = own k n o (cN c0) (j / iN c0 ct) := ⟨_, fun _ => rfl⟩
  obtain ⟨lO, hlO⟩ : ∃ lO : Nat → Nat, ∀ j, lO j = locN k n o c0 ct j := ⟨_, fun _ => rfl⟩
  have hr3 : rs.length ≤ 10 := by have := (domB_iff.1 hd).1.2; omega
  have he3 : es.length ≤ 10 := by have := (domB_iff.1 hde).1.2; omega
  -- a chunk
  have chunk : ∀ i (hi : i < (leadL k n o c0 ct o).length) (hq : i < (placesQ k n o c0 ct).length), ∃ xs ys : List (List Int), ys.length = xs.length ∧ xs.length ≤ 4096 ∧
      DC Try.prog 86 [chD (leadL k n o c0 ct o)[i].1 (leadL k n o c0 ct o)[i].2] (.tup [rowL2 xs, iD 0]) ∧
      DC Try.prog 95 [domD rs, chD (leadL k n o c0 ct o)[i].1 (leadL k n o c0 ct o)[i].2, domD es] (.tup [rowL2 ys, iD 0]) ∧
      (∀ r (hr : r < xs.length) (hr2 : r < ys.length), ∃ a : Nat, ∃ ha : a < (zipL [rs, es] (cnt rs)).length, DC Try.prog 96 [domD rs, rowI xs[r]] (.tup [iD a, iD 0]) ∧ (zipL [rs, es] (cnt rs))[a].length = 2 ∧
        (∀ (h0 : (0 : Int).toNat < (zipL [rs, es] (cnt rs))[a].length) (h1 : (1 : Int).toNat < (zipL [rs, es] (cnt rs))[a].length), DC Try.prog 97 [rowI (zipL [rs, es] (cnt rs))[a][(0 : Int).toNat], rowI xs[r]] (bD true) ∧ DC Try.prog 97 [rowI (zipL [rs, es] (cnt rs))[a][(1 : Int).toNat], rowI ys[r]] (bD true)) ∧
        fO a = (placesQ k n o c0 ct)[i] ∧ lO a = r ∧ ∀ j, j < cnt rs → fO j = (placesQ k n o c0 ct)[i] → lO j = r → j = a) ∧
      (∀ j, j < cnt rs → fO j = (placesQ k n o c0 ct)[i] → lO j < xs.length) := fun i hi hq => by
    have e : (leadL k n o c0 ct o)[i] = (((placesQ k n o c0 ct)[i] : Int), partsOf k n o c0 ct (placesQ k n o c0 ct)[i]) := by simp only [hlead, List.getElem_map]
    rw [e]
    obtain ⟨hpo, hpl⟩ := (hQm _).1 (List.getElem_mem hq)
    generalize (placesQ k n o c0 ct)[i] = p at *
    obtain ⟨x1, x2⟩ := partsOf_X hk.ok hs p
    have hchB : chB p (partsOf k n o c0 ct p) = true := by
      unfold chB
      rw [Bool.and_eq_true, Bool.and_eq_true]
      exact ⟨List.all_eq_true.2 x2, decide_eq_true (by omega), decide_eq_true (by omega)⟩
    have hXl := pl_len (c0 := c0) (ct := ct) k n o p
    have hXb := pl_few hs k n o p
    have hpsl : (partsOf k n o c0 ct p).length ≤ 1000000000 := by
      have h1 := runs_few' (runsOf_S k n o c0 p)
      have h2 := ow_len k n o (cN c0) p
      have h3 := hs.few
      unfold partsOf
      rw [List.length_map]
      omega
    have hok : (partsOf k n o c0 ct p).all (okPart rs) = true := by
      refine List.all_eq_true.2 fun q hq => ?_
      unfold okPart
      rw [Bool.and_eq_true]
      constructor
      · refine decide_eq_true (twoRes_0.2 ⟨x2 q hq, hd, ?_⟩)
        unfold partsOf at hq
        obtain ⟨g, hg, rfl⟩ := List.mem_map.1 hq
        obtain ⟨g1, g2, g3⟩ := runsOf_good hk.ok hs p g hg
        rw [(partC_eq hs g1 g2 g3).1, i3]; rfl
      · refine decide_eq_true fun x hx => ?_
        have hm : x ∈ plX c0 ct (ow k n o (cN c0) p) := by
          rw [← x1]
          exact List.mem_flatMap.2 ⟨q, hq, hx⟩
        obtain ⟨r, hr, rfl⟩ := List.mem_iff_getElem.1 hm
        obtain ⟨a, a1, a2, _, _⟩ := piece_at hk.ok hs hr
        rw [a2, (in_can hd hc hs _).1]
        exact (at_find hs a1).2.1
    have IN := iIndexes_ok (p : Nat) (partsOf k n o c0 ct p) hpsl hchB
    rw [x1] at IN
    have FO := follow_d rs (p : Nat) (partsOf k n o c0 ct p) es hpsl
    unfold folRes at FO
    rw [if_pos ⟨hd, hde, hchB⟩, if_pos hok, if_pos hce, x1] at FO
    dsimp only at FO
    refine ⟨_, _, folL_len _ _ _, hXb, IN, FO, fun r hr hr2 => ?_, fun j hj hf => ?_⟩
    · obtain ⟨a, a1, a2, a3, a4⟩ := piece_at hk.ok hs hr
      have ha : a < (zipL [rs, es] (cnt rs)).length := by rw [hzl, hlen]; exact a1
      obtain ⟨z1, z2⟩ := zip_len ha
      have hvv := (domB_iff.1 hd).2.1
      have hac : a < prodN (cl rs) := by rw [i2]; exact a1
      have hx : (plX c0 ct (ow k n o (cN c0) p))[r] = ithX rs a := by rw [a2, ith_can hd hc a1]
      obtain ⟨q1, q2⟩ := ithX_in hvv hac
      have hpv : placeV rs (ithX rs a) 0 = a := by rw [q2 0, Nat.zero_mul, Nat.zero_add]
      have P := rdPlace_d rs (ithX rs a)
      rw [place_ok hd (ithX_len rs a) q1, hpv] at P
      have hy : (folL rs es (plX c0 ct (ow k n o (cN c0) p)))[r] = ithX es a := by
        simp only [folL, List.getElem_map]
        rw [hx, hpv]
      rw [hx, hy]
      refine ⟨a, ha, P, z1, fun h0 h1 => ?_, by rw [hfO]; exact a3, by rw [hlO]; exact a4, fun j hj hf hl => ?_⟩
      · obtain ⟨w0, w1⟩ := z2 h0 h1
        rw [w0, w1]
        have S1 := sameInts2_d (ithX rs a) (ithX rs a) (by rw [ithX_len]; omega)
        have S2 := sameInts2_d (ithX es a) (ithX es a) (by rw [ithX_len]; omega)
        rw [decide_eq_true rfl] at S1 S2
        exact ⟨S1, S2⟩
      · rw [hlen] at hj
        rw [hfO] at hf
        rw [hlO] at hl
        exact loc_inj hk.ok hs hj a1 (by rw [hf, a3]) (by rw [hl, a4])
    · rw [hlen] at hj
      rw [hfO] at hf
      rw [hlO, hXl]
      have := (loc_at hk.ok hs hj).1
      rw [hf] at this
      exact this
  have hall : ∀ j, j < cnt rs → fO j ∈ placesQ k n o c0 ct := fun j hj => by
    rw [hlen] at hj
    obtain ⟨w1, w2, w3, w4, w5, w6⟩ := own_at hk.ok hs hj
    rw [hfO, hQm]
    refine ⟨w4, ?_⟩
    unfold partsOf
    rw [List.length_map]
    refine Nat.pos_of_ne_zero fun e => ?_
    have hr := (runsOf_S k n o c0 (own k n o (cN c0) (j / iN c0 ct))).flat
    rw [List.eq_nil_of_length_eq_zero e] at hr
    rw [← hr] at w5
    simp at w5
  have hseen := fun (i r a : Nat) (hi : i < (placesQ k n o c0 ct).length) (ha : a < cnt rs) (h1 : fO a = (placesQ k n o c0 ct)[i]) (h2 : lO a = r) (h3 : ∀ j, j < cnt rs → fO j = (placesQ k n o c0 ct)[i] → lO j = r → j = a) => seen_step (f := fO) (lo := lO) hQn hi ha h1 h2 h3
  have hnext := fun (i m : Nat) (hi : i < (placesQ k n o c0 ct).length) (hb : ∀ j, j < cnt rs → fO j = (placesQ k n o c0 ct)[i] → lO j < m) => seen_next (f := fO) (lo := lO) (N := cnt rs) hi hb
  have hs0 := seen_0 fO lO (placesQ k n o c0 ct) (cnt rs)
  have hsE := seen_end (f := fO) (lo := lO) hall
  have hsl := fun i r => seenL_len fO lO (placesQ k n o c0 ct) (cnt rs) i r
  have hsm : ∀ i r, many (seenL fO lO (placesQ k n o c0 ct) (cnt rs) i r) ≤ cnt rs := fun i r => Nat.le_trans (many_le _) (by simp [seenL])
  have hLQ : (leadL k n o c0 ct o).length = (placesQ k n o c0 ct).length := by rw [hlead, List.length_map]
  have hQl : (placesQ k n o c0 ct).length ≤ 8 := by
    have := List.length_filter_le (fun p => decide (0 < (partsOf k n o c0 ct p).length)) (List.range o)
    rw [List.length_range] at this
    have h : (placesQ k n o c0 ct).length = _ := rfl
    unfold placesQ at h ⊢
    omega
  have hNb : cnt rs ≤ 4096 := by omega
  obtain ⟨SL, hSL⟩ : ∃ SL : Nat → Nat → List Bool, ∀ i r, SL i r = seenL fO lO (placesQ k n o c0 ct) (cnt rs) i r := ⟨_, fun _ _ => rfl⟩
  simp only [← hSL] at hseen hnext hs0 hsE hsl hsm
  have hb0 : boolsD (SL 0 0) = List.replicate (cnt rs) (bD false) := by rw [hs0]; simp [boolsD]
  have hm0 : many (SL 0 0) = 0 := by rw [hs0]; exact (many_rep _).1
  have hmE : many (SL (placesQ k n o c0 ct).length 0) = cnt rs := by rw [hsE]; exact (many_rep _).2
  clear hSL hall hQm hQn hlead hlO hfO hP i1 i2 i3 hs0 hsE hze hzr hce hlen he hv
  generalize leadL k n o c0 ct o = ld at *
  generalize placesQ k n o c0 ct = Q at *
  generalize zipL [rs, es] (cnt rs) = Z at *
  generalize cnt rs = N at *
  subst hzl
  refine DC.of Try.func21 Try.ntmps21 Try.results21 rfl (by decide +kernel) rfl ?_
  repeat (first | refine Z1 ?_ | refine Z2 ?_ | (refine Z3 ?_; (repeat (first | (apply gS; first | refine go_no ?_ | refine go_f ?_ | refine gx ?_ | refine gm ?_ | refine gp ?_ | refine go_c rfl rfl (G1) ?_ | refine go_cF rfl rfl (G1) ?_ | refine go_cA rfl rfl (G1) ?_ | refine go_c rfl rfl (G2) ?_ | refine go_cF rfl rfl (G2) ?_ | refine go_cA rfl rfl (G2) ?_ | refine go_c rfl rfl (LB) ?_ | refine go_cF rfl rfl (LB) ?_ | refine go_cA rfl rfl (LB) ?_ | refine go_c rfl rfl (ZP) ?_ | refine go_cF rfl rfl (ZP) ?_ | refine go_cA rfl rfl (ZP) ?_ | refine go_c rfl rfl (awake8_d) ?_ | refine go_cF rfl rfl (awake8_d) ?_ | refine go_cA rfl rfl (awake8_d) ?_) | (apply gZ; first | refine go_f ?_ | refine gx ?_ | refine gm ?_))); refine T_nil ?_) | (apply ZR; (try dsimp only [List.map_cons, List.map_nil]); refine C_dr mixed ?_; (repeat (first | (apply vS; first | refine vn ?_ | refine va ?_ | refine vp ?_ | refine vr ?_ | refine vt ?_ | refine vc (G1) ?_ | refine vcF (G1) ?_ | refine vc (G2) ?_ | refine vcF (G2) ?_ | refine vc (LB) ?_ | refine vcF (LB) ?_ | refine vc (ZP) ?_ | refine vcF (ZP) ?_ | refine vc (awake8_d) ?_ | refine vcF (awake8_d) ?_) | (apply vZ; first | refine vs ?_ | refine vw ?_))); refine W_e ?_) | (apply ZK; first | refine Z4 ?_ | refine Z5 ?_) | refine Z6 ?_ | refine Z7 ?_ | refine Z8 ?_ | refine Z9 ?_ | refine ZA ?_ | refine ZB ?_ | refine ZC ?_ | refine ZD ?_ | refine ZE ?_ | refine ZF ?_ | refine ZG ?_ | refine ZH ?_)
  refine C_count ld.length (fun _ => True) (fun i => ⟨4, 151, [(13, iD i), (12, iD ((many (SL i 0) : Nat) : Int)), (11, .own 3 Z.length), (9, rowL3 Z), (7, chsD ld), (4, .ptr 1 0), (5, .ptr 2 0)], [(1, some ⟨24, 1, 1, [rowR rs]⟩), (2, some ⟨24, 1, 1, [rowR es]⟩), (3, some ⟨4, 1, Z.length, boolsD (SL i 0)⟩)]⟩) ?_ trivial ?_
  · rw [hb0, hm0]
    exact Wk.gx (fun b => b)
  · intro i hi _
    by_cases hil : i < ld.length
    · have hiQ : i < Q.length := by omega
      obtain ⟨xs, ys, c1, c2, c3, c4, c5, c6⟩ := chunk i hil hiQ
      have hn := hnext i xs.length hiQ c6
      have hsd := fun r a => hseen i r a hiQ
      clear chunk c6 hseen hnext hb0 hm0 hmE
      repeat (first | refine Z1 ?_ | refine Z2 ?_ | (refine Z3 ?_; (repeat (first | (apply gS; first | refine go_no ?_ | refine go_f ?_ | refine gx ?_ | refine gm ?_ | refine gp ?_ | refine go_c rfl rfl (c3) ?_ | refine go_cF rfl rfl (c3) ?_ | refine go_cA rfl rfl (c3) ?_ | refine go_c rfl rfl (c4) ?_ | refine go_cF rfl rfl (c4) ?_ | refine go_cA rfl rfl (c4) ?_) | (apply gZ; first | refine go_f ?_ | refine gx ?_ | refine gm ?_))); refine T_nil ?_) | (apply ZR; (try dsimp only [List.map_cons, List.map_nil]); refine C_dr mixed ?_; (repeat (first | (apply vS; first | refine vn ?_ | refine va ?_ | refine vp ?_ | refine vr ?_ | refine vt ?_ | refine vc (c3) ?_ | refine vcF (c3) ?_ | refine vc (c4) ?_ | refine vcF (c4) ?_) | (apply vZ; first | refine vs ?_ | refine vw ?_))); refine W_e ?_) | (apply ZK; first | refine Z4 ?_ | refine Z5 ?_) | refine Z6 ?_ | refine Z7 ?_ | refine Z8 ?_ | refine Z9 ?_ | refine ZA ?_ | refine ZB ?_ | refine ZC ?_ | refine ZD ?_ | refine ZE ?_ | refine ZF ?_ | refine ZG ?_ | refine ZH ?_)
      refine C_count xs.length (fun _ => True) (fun r => ⟨4, 151, [(18, iD r), (16, rowL2 ys), (14, rowL2 xs), (13, iD i), (12, iD ((many (SL i r) : Nat) : Int)), (11, .own 3 Z.length), (9, rowL3 Z), (7, chsD ld), (4, .ptr 1 0), (5, .ptr 2 0)], [(1, some ⟨24, 1, 1, [rowR rs]⟩), (2, some ⟨24, 1, 1, [rowR es]⟩), (3, some ⟨4, 1, Z.length, boolsD (SL i r)⟩)]⟩) ?_ trivial ?_
      · exact Wk.gx (fun b => b)
      · intro r hr _
        have g3 := hsl i r
        have g4 := hsm i r
        by_cases hrl : r < xs.length
        · have hrl2 : r < ys.length := by omega
          obtain ⟨a, e1, e2, e3, e4, e5, e6, e7⟩ := c5 r hrl hrl2
          obtain ⟨g1, g2, g5⟩ := hsd r a e1 e5 e6 e7
          obtain ⟨s1, s2⟩ := e4 (by rw [e3]; decide) (by rw [e3]; decide)
          have z0 : (0 : Int).toNat < Z[a].length := by rw [e3]; decide
          have z1 : (1 : Int).toNat < Z[a].length := by rw [e3]; decide
          clear c5 hsd e4 e5 e6 e7
          repeat (first | refine Z1 ?_ | refine Z2 ?_ | (refine Z3 ?_; (repeat (first | (apply gS; first | refine go_no ?_ | refine go_f ?_ | refine gx ?_ | refine gm ?_ | refine gp ?_ | refine go_c rfl rfl (e2) ?_ | refine go_cF rfl rfl (e2) ?_ | refine go_cA rfl rfl (e2) ?_ | refine go_c rfl rfl (s1) ?_ | refine go_cF rfl rfl (s1) ?_ | refine go_cA rfl rfl (s1) ?_ | refine go_c rfl rfl (s2) ?_ | refine go_cF rfl rfl (s2) ?_ | refine go_cA rfl rfl (s2) ?_) | (apply gZ; first | refine go_f ?_ | refine gx ?_ | refine gm ?_))); refine T_nil ?_) | (apply ZR; (try dsimp only [List.map_cons, List.map_nil]); refine C_dr mixed ?_; (repeat (first | (apply vS; first | refine vn ?_ | refine va ?_ | refine vp ?_ | refine vr ?_ | refine vt ?_ | refine vc (e2) ?_ | refine vcF (e2) ?_ | refine vc (s1) ?_ | refine vcF (s1) ?_ | refine vc (s2) ?_ | refine vcF (s2) ?_) | (apply vZ; first | refine vs ?_ | refine vw ?_))); refine W_e ?_) | (apply ZK; first | refine Z4 ?_ | refine Z5 ?_) | refine Z6 ?_ | refine Z7 ?_ | refine Z8 ?_ | refine Z9 ?_ | refine ZA ?_ | refine ZB ?_ | refine ZC ?_ | refine ZD ?_ | refine ZE ?_ | refine ZF ?_ | refine ZG ?_ | refine ZH ?_)
          refine kLoop_n ⟨hrl, trivial, ?_⟩
          exact Wk.gx (fun b => b)
        · obtain rfl : r = xs.length := by omega
          rw [hn]
          clear c5 hsd
          repeat (first | refine Z1 ?_ | refine Z2 ?_ | (refine Z3 ?_; (repeat (first | (apply gS; first | refine go_no ?_ | refine go_f ?_ | refine gx ?_ | refine gm ?_ | refine gp ?_) | (apply gZ; first | refine go_f ?_ | refine gx ?_ | refine gm ?_))); refine T_nil ?_) | (apply ZR; (try dsimp only [List.map_cons, List.map_nil]); refine C_dr mixed ?_; (repeat (first | (apply vS; first | refine vn ?_ | refine va ?_ | refine vp ?_ | refine vr ?_ | refine vt ?_) | (apply vZ; first | refine vs ?_ | refine vw ?_))); refine W_e ?_) | (apply ZK; first | refine Z4 ?_ | refine Z5 ?_) | refine Z6 ?_ | refine Z7 ?_ | refine Z8 ?_ | refine Z9 ?_ | refine ZA ?_ | refine ZB ?_ | refine ZC ?_ | refine ZD ?_ | refine ZE ?_ | refine ZF ?_ | refine ZG ?_ | refine ZH ?_)
          refine kLoop_n ⟨hil, trivial, ?_⟩
          exact Wk.gx (fun b => b)
    · obtain rfl : i = ld.length := by omega
      rw [hLQ, hmE]
      clear chunk hseen hnext hb0 hm0
      repeat (first | refine Z1 ?_ | refine Z2 ?_ | (refine Z3 ?_; (repeat (first | (apply gS; first | refine go_no ?_ | refine go_f ?_ | refine gx ?_ | refine gm ?_ | refine gp ?_ | refine go_c rfl rfl (awake8_d) ?_ | refine go_cF rfl rfl (awake8_d) ?_ | refine go_cA rfl rfl (awake8_d) ?_) | (apply gZ; first | refine go_f ?_ | refine gx ?_ | refine gm ?_))); refine T_nil ?_) | (apply ZR; (try dsimp only [List.map_cons, List.map_nil]); refine C_dr mixed ?_; (repeat (first | (apply vS; first | refine vn ?_ | refine va ?_ | refine vp ?_ | refine vr ?_ | refine vt ?_ | refine vc (awake8_d) ?_ | refine vcF (awake8_d) ?_) | (apply vZ; first | refine vs ?_ | refine vw ?_))); refine W_e ?_) | (apply ZK; first | refine Z4 ?_ | refine Z5 ?_) | refine Z6 ?_ | refine Z7 ?_ | refine Z8 ?_ | refine Z9 ?_ | refine ZA ?_ | refine ZB ?_ | refine ZC ?_ | refine ZD ?_ | refine ZE ?_ | refine ZF ?_ | refine ZG ?_ | refine ZH ?_)
      repeat (first | refine kEnd_m ?_ | refine kEnd_f ?_)
      refine kEnd_g ?_ (by first | exact .inl rfl | exact .inr rfl)
      exact Sub.eq rfl rfl
theorem walk {w : World} (v : Value) (t : ByteArray × Int × Int) (tc : RC (fun b => b < w.heap.size) w (dsD t.1 t.2.1 t.2.2) v) (u : Value) (rs : List Rg) (rc : RC (fun b => b < w.heap.size) w (domD rs) u) (z : Value) (es : List Rg) (ec : RC (fun b => b < w.heap.size) w (domD es) z) : Calls Try.prog 21 #[v, u, z] w fun e w' => e = .returned (.bool true) ∧ Below w.heap.size w w' :=
  DC.law (law_d t.1 t.2.1 t.2.2 rs es) (.cons tc (.cons rc (.cons ec .nil)))
end Go.Proofs.Ytifapodobhkdcaa.iterPairs
