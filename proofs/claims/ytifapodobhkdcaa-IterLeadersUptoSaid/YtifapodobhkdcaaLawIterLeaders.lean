/- The law IterLeaders returns true where what it reads is of bulk at most 1048576: which chunks a distributed loop has, and which indexes a chunk. -/
import Derived.Test.YtifapodobhkdcaaF3
import Derived.Test.YtifapodobhkdcaaLdr
import Derived.Test.YtifapodobhkdcaaDs9
import Derived.Test.YtifapodobhkdcaaCameT
namespace Go.Proofs.Ytifapodobhkdcaa.iterLeaders
open Go.RowKit Go.Proofs.Ytifapodobhkdcaa
set_option linter.unusedVariables false
set_option maxHeartbeats 16000000
set_option linter.unusedSimpArgs false
set_option maxRecDepth 100000
theorem rLeader8_bad {s : ByteArray} {n o : Int} {rs : List Rg} (h : errD s n o rs ≠ 0) : DC Try.prog 85 [dsD s n o, domD rs] (.tup [chsD [], iD (errD s n o rs)]) := by
  have B := rPieces7_bad h
  generalize errD s n o rs = e at *
  refine DC.of Try.func85 Try.ntmps85 Try.results85 rfl (by decide +kernel) rfl ?_
  repeat (first | refine Z1 ?_ | refine Z2 ?_ | (refine Z3 ?_; (repeat (first | (apply gS; first | refine go_f ?_ | refine gx ?_ | refine gm ?_ | refine gp ?_ | refine go_c rfl rfl (B) ?_ | refine go_cF rfl rfl (B) ?_ | refine go_cA rfl rfl (B) ?_))); refine T_nil ?_) | (apply ZK; first | refine Z4 ?_ | refine Z5 ?_) | refine Z6 ?_ | refine Z7 ?_ | refine Z8 ?_ | refine Z9 ?_ | refine ZA ?_ | refine ZB ?_ | refine ZC ?_ | refine ZD ?_ | refine ZE ?_ | refine ZF ?_ | refine ZG ?_ | refine ZH ?_)
  repeat (first | refine kEnd_m ?_ | refine kEnd_f ?_)
  refine kEnd_g ?_ (by first | exact .inl rfl | exact .inr rfl)
  exact Sub.tup (.cons Sub.nil (.cons (Sub.eq rfl rfl) .nil))
theorem rLeader8_ok {s : ByteArray} {k : Kd} {n o : Nat} (hk : Okd s k n o) {rs : List Rg} {c0 : Rg} {ct : List Rg} (hd : domB rs = true) (hc : canonRs rs = c0 :: ct) (hs : SpOk c0 ct) :
    DC Try.prog 85 [dsD s n o, domD rs] (.tup [chsD (leadL k n o c0 ct o), iD 0]) := by
  have B := rPieces7_ok hk hd hc hs
  have h8 := hk.ok.o8
  have hlen : (piecesL k n o c0 ct o).length = o := by simp [piecesL]
  have hlead : leadL k n o c0 ct o = (piecesL k n o c0 ct o).filter fun c => decide (0 < c.2.length) := rfl
  generalize piecesL k n o c0 ct o = ps at *
  generalize leadL k n o c0 ct o = ld at *
  subst hlead
  have hl8 : ps.length ≤ 8 := by omega
  clear hk hd hc hs
  have hS : ∀ m (h : m < ps.length), (ps.take (m + 1)).filter (fun c => decide (0 < c.2.length)) = (ps.take m).filter (fun c => decide (0 < c.2.length)) ++ (if 0 < ps[m].2.length then [ps[m]] else []) := fun m h => by
    rw [List.take_succ_eq_append_getElem h, List.filter_append]
    by_cases hp : 0 < ps[m].2.length <;> simp [hp]
  have hle : ∀ m, ((ps.take m).filter (fun c => decide (0 < c.2.length))).length ≤ 8 := fun m => by
    have h1 := List.length_filter_le (fun c : Int × List (List Rg) => decide (0 < c.2.length)) (ps.take m)
    rw [List.length_take] at h1; omega
  have hend : (ps.take ps.length).filter (fun c => decide (0 < c.2.length)) = ps.filter (fun c => decide (0 < c.2.length)) := by rw [List.take_length]
  obtain ⟨ld, hld⟩ : ∃ ld : Nat → List (Int × List (List Rg)), ∀ m, ld m = (ps.take m).filter (fun c => decide (0 < c.2.length)) := ⟨_, fun _ => rfl⟩
  simp only [← hld] at hS hle hend
  rw [← hend]
  have z0 : (ld 0).length = 0 := by rw [hld]; rfl
  have z1 : (ld 0).flatMap chC = [] := by rw [hld]; rfl
  clear hld hend
  rw [show chsD ps = .row ps.length (ps.flatMap chC) from rfl] at B
  refine DC.of Try.func85 Try.ntmps85 Try.results85 rfl (by decide +kernel) rfl ?_
  repeat (first | refine Z1 ?_ | refine Z2 ?_ | (refine Z3 ?_; (repeat (first | (apply gS; first | refine go_f ?_ | refine gx ?_ | refine gm ?_ | refine gp ?_ | refine go_c rfl rfl (B) ?_ | refine go_cF rfl rfl (B) ?_ | refine go_cA rfl rfl (B) ?_))); refine T_nil ?_) | (apply ZK; first | refine Z4 ?_ | refine Z5 ?_) | refine Z6 ?_ | refine Z7 ?_ | refine Z8 ?_ | refine Z9 ?_ | refine ZA ?_ | refine ZB ?_ | refine ZC ?_ | refine ZD ?_ | refine ZE ?_ | refine ZF ?_ | refine ZG ?_ | refine ZH ?_)
  refine C_count ps.length (fun _ => True) (fun m => ⟨3, 40, [(9, iD m), (6, .row ps.length (ps.flatMap chC)), (8, .own 2 (ld m).length)], [(2, some ⟨90, 2, (ld m).length, (ld m).flatMap chC⟩)]⟩) ?_ trivial ?_
  · rw [z0, z1]
    refine Wk.trans (Wk.adoptT 8 90 2 rfl) ?_
    exact Wk.gx (fun b => b)
  · intro m hm _
    by_cases hlt : m < ps.length
    · have e := hS m hlt
      have q := hle m
      by_cases hp : 0 < ps[m].2.length
      · rw [if_pos hp] at e
        have e1 : (ld (m + 1)).length = (ld m).length + 1 := by rw [e]; simp
        have e2 : (ld (m + 1)).flatMap chC = (ld m).flatMap chC ++ chC ps[m] := by rw [e, List.flatMap_append]; simp
        clear hS e hle
        repeat (first | refine Z1 ?_ | refine Z2 ?_ | (refine Z3 ?_; (repeat (first | (apply gS; first | refine go_f ?_ | refine gx ?_ | refine gm ?_ | refine gp ?_))); refine T_nil ?_) | (apply ZK; first | refine Z4 ?_ | refine Z5 ?_) | refine Z6 ?_ | refine Z7 ?_ | refine Z8 ?_ | refine Z9 ?_ | refine ZA ?_ | refine ZB ?_ | refine ZC ?_ | refine ZD ?_ | refine ZE ?_ | refine ZF ?_ | refine ZG ?_ | refine ZH ?_)
        refine kLoop_n ⟨hlt, trivial, ?_⟩
        exact Wk.gx (fun b => cond (Nat.beq b 2) 3 (b))
      · rw [if_neg hp, List.append_nil] at e
        have e1 : (ld (m + 1)).length = (ld m).length := by rw [e]
        have e2 : (ld (m + 1)).flatMap chC = (ld m).flatMap chC := by rw [e]
        clear hS e hle
        repeat (first | refine Z1 ?_ | refine Z2 ?_ | (refine Z3 ?_; (repeat (first | (apply gS; first | refine go_f ?_ | refine gx ?_ | refine gm ?_ | refine gp ?_))); refine T_nil ?_) | (apply ZK; first | refine Z4 ?_ | refine Z5 ?_) | refine Z6 ?_ | refine Z7 ?_ | refine Z8 ?_ | refine Z9 ?_ | refine ZA ?_ | refine ZB ?_ | refine ZC ?_ | refine ZD ?_ | refine ZE ?_ | refine ZF ?_ | refine ZG ?_ | refine ZH ?_)
        refine kLoop_n ⟨hlt, trivial, ?_⟩
        exact Wk.gx (fun b => b)
    · obtain rfl : m = ps.length := by omega
      repeat (first | refine Z1 ?_ | refine Z2 ?_ | (refine Z3 ?_; (repeat (first | (apply gS; first | refine go_f ?_ | refine gx ?_ | refine gm ?_ | refine gp ?_))); refine T_nil ?_) | (apply ZK; first | refine Z4 ?_ | refine Z5 ?_) | refine Z6 ?_ | refine Z7 ?_ | refine Z8 ?_ | refine Z9 ?_ | refine ZA ?_ | refine ZB ?_ | refine ZC ?_ | refine ZD ?_ | refine ZE ?_ | refine ZF ?_ | refine ZG ?_ | refine ZH ?_)
      repeat (first | refine kEnd_m ?_ | refine kEnd_f ?_)
      refine kEnd_g ?_ (by first | exact .inl rfl | exact .inr rfl)
      exact Sub.eq rfl rfl
/-! ### chunks, compared -/
theorem chunks_d (L : List (Int × List (List Rg))) (h1 : L.length ≤ 1000) (h2 : ∀ c ∈ L, c.2.length ≤ 4096 ∧ ∀ d ∈ c.2, d.length ≤ 1000) : DC Try.prog 88 [chsD L, chsD L] (bD true) := by
  rw [show chsD L = .row L.length (L.flatMap chC) from rfl]
  refine DC.of Try.func88 Try.ntmps88 Try.results88 rfl (by decide +kernel) rfl ?_
  repeat (first | refine Z1 ?_ | refine Z2 ?_ | (refine Z3 ?_; (repeat (first | (apply gS; first | refine go_no ?_ | refine go_f ?_ | refine gx ?_ | refine gm ?_ | refine gp ?_))); refine T_nil ?_) | (apply ZR; (try dsimp only [List.map_cons, List.map_nil]); refine C_dr mixed ?_; (repeat (first | (apply vS; first | refine vn ?_ | refine va ?_ | refine vp ?_ | refine vr ?_ | refine vt ?_))); refine W_e ?_) | (apply ZK; first | refine Z4 ?_ | refine Z5 ?_) | refine Z6 ?_ | refine Z7 ?_ | refine Z8 ?_ | refine Z9 ?_ | refine ZA ?_ | refine ZB ?_ | refine ZC ?_ | refine ZD ?_ | refine ZE ?_ | refine ZF ?_ | refine ZG ?_ | refine ZH ?_)
  refine C_count L.length (fun _ => True) (fun i => ⟨0, 72, [(5, iD i), (0, .row L.length (L.flatMap chC)), (1, .row L.length (L.flatMap chC))], []⟩) ?_ trivial ?_
  · exact Wk.gx (fun b => b)
  · intro i hi _
    by_cases hil : i < L.length
    · obtain ⟨q1, q2⟩ := h2 _ (List.getElem_mem hil)
      have E := fun k (h : k < L[i].2.length) => equal_d L[i].2[k] (by have := q2 _ (List.getElem_mem h); omega)
      clear q2 h2
      repeat (first | refine Z1 ?_ | refine Z2 ?_ | (refine Z3 ?_; (repeat (first | (apply gS; first | refine go_no ?_ | refine go_f ?_ | refine gx ?_ | refine gm ?_ | refine gp ?_))); refine T_nil ?_) | (apply ZR; (try dsimp only [List.map_cons, List.map_nil]); refine C_dr mixed ?_; (repeat (first | (apply vS; first | refine vn ?_ | refine va ?_ | refine vp ?_ | refine vr ?_ | refine vt ?_))); refine W_e ?_) | (apply ZK; first | refine Z4 ?_ | refine Z5 ?_) | refine Z6 ?_ | refine Z7 ?_ | refine Z8 ?_ | refine Z9 ?_ | refine ZA ?_ | refine ZB ?_ | refine ZC ?_ | refine ZD ?_ | refine ZE ?_ | refine ZF ?_ | refine ZG ?_ | refine ZH ?_)
      refine C_count L[i].2.length (fun _ => True) (fun k => ⟨0, 72, [(6, iD k), (5, iD i), (0, .row L.length (L.flatMap chC)), (1, .row L.length (L.flatMap chC))], []⟩) ?_ trivial ?_
      · exact Wk.gx (fun b => b)
      · intro k hk _
        by_cases hkl : k < L[i].2.length
        · have e := E k hkl
          clear E
          repeat (first | refine Z1 ?_ | refine Z2 ?_ | (refine Z3 ?_; (repeat (first | (apply gS; first | refine go_no ?_ | refine go_f ?_ | refine gx ?_ | refine gm ?_ | refine gp ?_ | refine go_c rfl rfl (e) ?_ | refine go_cF rfl rfl (e) ?_ | refine go_cA rfl rfl (e) ?_))); refine T_nil ?_) | (apply ZR; (try dsimp only [List.map_cons, List.map_nil]); refine C_dr mixed ?_; (repeat (first | (apply vS; first | refine vn ?_ | refine va ?_ | refine vp ?_ | refine vr ?_ | refine vt ?_ | refine vc (e) ?_ | refine vcF (e) ?_))); refine W_e ?_) | (apply ZK; first | refine Z4 ?_ | refine Z5 ?_) | refine Z6 ?_ | refine Z7 ?_ | refine Z8 ?_ | refine Z9 ?_ | refine ZA ?_ | refine ZB ?_ | refine ZC ?_ | refine ZD ?_ | refine ZE ?_ | refine ZF ?_ | refine ZG ?_ | refine ZH ?_)
          refine kLoop_n ⟨hkl, trivial, ?_⟩
          exact Wk.gx (fun b => b)
        · obtain rfl : k = L[i].2.length := by omega
          clear E
          repeat (first | refine Z1 ?_ | refine Z2 ?_ | (refine Z3 ?_; (repeat (first | (apply gS; first | refine go_no ?_ | refine go_f ?_ | refine gx ?_ | refine gm ?_ | refine gp ?_))); refine T_nil ?_) | (apply ZR; (try dsimp only [List.map_cons, List.map_nil]); refine C_dr mixed ?_; (repeat (first | (apply vS; first | refine vn ?_ | refine va ?_ | refine vp ?_ | refine vr ?_ | refine vt ?_))); refine W_e ?_) | (apply ZK; first | refine Z4 ?_ | refine Z5 ?_) | refine Z6 ?_ | refine Z7 ?_ | refine Z8 ?_ | refine Z9 ?_ | refine ZA ?_ | refine ZB ?_ | refine ZC ?_ | refine ZD ?_ | refine ZE ?_ | refine ZF ?_ | refine ZG ?_ | refine ZH ?_)
          refine kLoop_n ⟨hil, trivial, ?_⟩
          exact Wk.gx (fun b => b)
    · obtain rfl : i = L.length := by omega
      clear h2
      repeat (first | refine Z1 ?_ | refine Z2 ?_ | (refine Z3 ?_; (repeat (first | (apply gS; first | refine go_no ?_ | refine go_f ?_ | refine gx ?_ | refine gm ?_ | refine gp ?_))); refine T_nil ?_) | (apply ZR; (try dsimp only [List.map_cons, List.map_nil]); refine C_dr mixed ?_; (repeat (first | (apply vS; first | refine vn ?_ | refine va ?_ | refine vp ?_ | refine vr ?_ | refine vt ?_))); refine W_e ?_) | (apply ZK; first | refine Z4 ?_ | refine Z5 ?_) | refine Z6 ?_ | refine Z7 ?_ | refine Z8 ?_ | refine Z9 ?_ | refine ZA ?_ | refine ZB ?_ | refine ZC ?_ | refine ZD ?_ | refine ZE ?_ | refine ZF ?_ | refine ZG ?_ | refine ZH ?_)
      repeat (first | refine kEnd_m ?_ | refine kEnd_f ?_)
      refine kEnd_g ?_ (by first | exact .inl rfl | exact .inr rfl)
      exact Sub.eq rfl rfl
theorem iIndexes_bad (p : Int) (ps : List (List Rg)) (hl : ps.length ≤ 1000000000) (hc : chB p ps = false) : DC Try.prog 86 [chD p ps] (.tup [rowL2 [], iD 40]) := by
  have V := iValid_d p ps (by omega)
  rw [hc] at V
  clear hc
  refine DC.of Try.func86 Try.ntmps86 Try.results86 rfl (by decide +kernel) rfl ?_
  repeat (first | refine Z1 ?_ | refine Z2 ?_ | (refine Z3 ?_; (repeat (first | (apply gS; first | refine go_f ?_ | refine gx ?_ | refine gm ?_ | refine gp ?_ | refine go_c rfl rfl (V) ?_ | refine go_cF rfl rfl (V) ?_ | refine go_cA rfl rfl (V) ?_))); refine T_nil ?_) | (apply ZK; first | refine Z4 ?_ | refine Z5 ?_) | refine Z6 ?_ | refine Z7 ?_ | refine ZF ?_)
  repeat (first | refine kEnd_m ?_ | refine kEnd_f ?_)
  refine kEnd_g ?_ (by first | exact .inl rfl | exact .inr rfl)
  exact Sub.tup (.cons Sub.nil (.cons (Sub.eq rfl rfl) .nil))
theorem rIndexes8_bad (p : Int) (ps : List (List Rg)) (hl : ps.length ≤ 1000000000) (hc : chB p ps = false) : DC Try.prog 87 [chD p ps] (.tup [rowL2 [], iD 40]) := by
  have V := rIsChunk_d p ps (by omega)
  rw [hc] at V
  clear hc
  refine DC.of Try.func87 Try.ntmps87 Try.results87 rfl (by decide +kernel) rfl ?_
  repeat (first | refine Z1 ?_ | refine Z2 ?_ | (refine Z3 ?_; (repeat (first | (apply gS; first | refine go_f ?_ | refine gx ?_ | refine gm ?_ | refine gp ?_ | refine go_c rfl rfl (V) ?_ | refine go_cF rfl rfl (V) ?_ | refine go_cA rfl rfl (V) ?_))); refine T_nil ?_) | (apply ZK; first | refine Z4 ?_ | refine Z5 ?_) | refine Z6 ?_ | refine Z7 ?_ | refine Z8 ?_ | refine Z9 ?_ | refine ZA ?_ | refine ZB ?_ | refine ZC ?_ | refine ZD ?_ | refine ZE ?_ | refine ZF ?_ | refine ZG ?_ | refine ZH ?_)
  repeat (first | refine kEnd_m ?_ | refine kEnd_f ?_)
  refine kEnd_g ?_ (by first | exact .inl rfl | exact .inr rfl)
  exact Sub.tup (.cons Sub.nil (.cons (Sub.eq rfl rfl) .nil))
theorem law_d (s : ByteArray) (n o : Int) (rs : List Rg) (p : Int) (ps : List (List Rg)) (hb : ps.length ≤ 1048576) : DC Try.prog 18 [dsD s n o, domD rs, chD p ps] (bD true) := by
  have K1 : ∃ (L : List (Int × List (List Rg))) (e : Int), DC Try.prog 84 [dsD s n o, domD rs] (.tup [chsD L, iD e]) ∧ DC Try.prog 85 [dsD s n o, domD rs] (.tup [chsD L, iD e]) ∧ DC Try.prog 88 [chsD L, chsD L] (bD true) := by
    by_cases he : errD s n o rs = 0
    case neg => exact ⟨_, _, Leader_bad he, rLeader8_bad he, chunks_d [] (by simp) (fun c hc => by simp at hc)⟩
    obtain ⟨hv, hd⟩ := errD_ok he
    obtain ⟨k, n, o, rfl, rfl, hk⟩ := vdB_ok hv
    obtain ⟨c0, ct, hc, hs⟩ := canon_sp hd
    refine ⟨_, _, Leader_ok hk hd hc hs, rLeader8_ok hk hd hc hs, chunks_d _ ?_ fun c hc' => ?_⟩
    · have h1 := List.length_filter_le (fun c : Int × List (List Rg) => decide (0 < c.2.length)) (piecesL k n o c0 ct o)
      have h2 : (piecesL k n o c0 ct o).length = o := by simp [piecesL]
      have h8 := hk.ok.o8
      show (List.filter _ _).length ≤ 1000
      omega
    · have h1 := (List.mem_filter.1 (show c ∈ (piecesL k n o c0 ct o).filter _ from hc')).1
      obtain ⟨q, _, rfl⟩ := List.mem_map.1 (show c ∈ (List.range o).map _ from h1)
      refine ⟨parts_few hs k n o q, fun d hd' => ?_⟩
      have := (domB_iff.1 ((partsOf_X hk.ok hs q).2 d hd')).1.2
      omega
  have K2 : ∃ (X : List (List Int)) (e : Int), DC Try.prog 86 [chD p ps] (.tup [rowL2 X, iD e]) ∧ DC Try.prog 87 [chD p ps] (.tup [rowL2 X, iD e]) ∧ DC Try.prog 89 [rowL2 X, rowL2 X] (bD true) := by
    cases hc : chB p ps
    · exact ⟨_, _, iIndexes_bad p ps (by omega) hc, rIndexes8_bad p ps (by omega) hc, lists_d [] (by simp) (fun o ho => by simp at ho)⟩
    · have hall : ∀ d ∈ ps, domB d = true := by
        unfold chB at hc
        rw [Bool.and_eq_true] at hc
        exact List.all_eq_true.1 hc.1
      refine ⟨_, _, iIndexes_ok p ps (by omega) hc, rIndexes8_d p ps (by omega) hc, lists_d _ ?_ fun o ho => ?_⟩
      · have := allX_cap hall
        omega
      · obtain ⟨d, hd, ho⟩ := List.mem_flatMap.1 (show o ∈ ps.flatMap _ from ho)
        rw [idxs_each ho]
        have := (domB_iff.1 (hall d hd)).1.2
        omega
  obtain ⟨L, e, A1, A2, A3⟩ := K1
  obtain ⟨X, f, B1, B2, B3⟩ := K2
  have hch : ∀ (p : Int) (ps : List (List Rg)), chD p ps = .agg [iD p, domsD ps] := fun _ _ => rfl
  rw [hch] at B1 B2 ⊢
  rw [show chsD L = .row L.length (L.flatMap chC) from rfl] at A1 A2 A3
  refine DC.of Try.func18 Try.ntmps18 Try.results18 rfl (by decide +kernel) rfl ?_
  repeat (first | refine Z1 ?_ | refine Z2 ?_ | (refine Z3 ?_; (repeat (first | (apply gS; first | refine go_no ?_ | refine go_f ?_ | refine gx ?_ | refine gm ?_ | refine gp ?_ | refine go_c rfl rfl (A1) ?_ | refine go_cF rfl rfl (A1) ?_ | refine go_cA rfl rfl (A1) ?_ | refine go_c rfl rfl (A2) ?_ | refine go_cF rfl rfl (A2) ?_ | refine go_cA rfl rfl (A2) ?_ | refine go_c rfl rfl (A3) ?_ | refine go_cF rfl rfl (A3) ?_ | refine go_cA rfl rfl (A3) ?_ | refine go_c rfl rfl (B1) ?_ | refine go_cF rfl rfl (B1) ?_ | refine go_cA rfl rfl (B1) ?_ | refine go_c rfl rfl (B2) ?_ | refine go_cF rfl rfl (B2) ?_ | refine go_cA rfl rfl (B2) ?_ | refine go_c rfl rfl (B3) ?_ | refine go_cF rfl rfl (B3) ?_ | refine go_cA rfl rfl (B3) ?_ | refine go_c rfl rfl (awake8_d) ?_ | refine go_cF rfl rfl (awake8_d) ?_ | refine go_cA rfl rfl (awake8_d) ?_))); refine T_nil ?_) | (apply ZK; first | refine Z4 ?_ | refine Z5 ?_) | refine Z6 ?_ | refine Z7 ?_)
  repeat (first | refine kEnd_m ?_ | refine kEnd_f ?_)
  refine kEnd_g ?_ (by first | exact .inl rfl | exact .inr rfl)
  exact Sub.eq rfl rfl
theorem walk {w : World} (v : Value) (t : ByteArray × Int × Int) (tc : RC (fun b => b < w.heap.size) w (dsD t.1 t.2.1 t.2.2) v) (u : Value) (rs : List Rg) (rc : RC (fun b => b < w.heap.size) w (domD rs) u) (z : Value) (c : Int × List (List Rg)) (zc : RC (fun b => b < w.heap.size) w (chD c.1 c.2) z) (hb : c.2.length ≤ 1048576) : Calls Try.prog 18 #[v, u, z] w fun e w' => e = .returned (.bool true) ∧ Below w.heap.size w w' :=
  DC.law (law_d t.1 t.2.1 t.2.2 rs c.1 c.2 hb) (.cons tc (.cons rc (.cons zc .nil)))
/-! ### the bulk of a chunk -/
theorem bulk_pos {H : Type} (d : DataW H) : 1 ≤ Rows.uptoBulk d := by
  cases d with
  | lit l => cases l <;> simp [Rows.uptoBulk]
  | _ => simp [Rows.uptoBulk]
theorem bulk_len {H : Type} : ∀ l : List (DataW H), l.length ≤ Rows.uptoBulkAll l
  | [] => by simp
  | d :: l => by
    have h1 := bulk_pos d
    have h2 := bulk_len l
    rw [Rows.uptoBulkAll, List.length_cons]
    omega
theorem bulk_mem {H : Type} {d : DataW H} : ∀ {l : List (DataW H)}, d ∈ l → Rows.uptoBulk d ≤ Rows.uptoBulkAll l
  | [], h => by simp at h
  | e :: l, h => by
    rw [Rows.uptoBulkAll]
    rcases List.mem_cons.1 h with rfl | h
    · omega
    · have := bulk_mem h; omega
theorem chunk_len {H : Type} {enc : TypeId × Value → H} {P : Program} {w : World} {I : Nat → Prop} {t e : TypeId} {f0 f1 : Field} (ht : P.underlying t = some (.struct #[f0, f1])) (o1 : f1.offset = 1) (c1 : P.cellsOf f1.type = 1) (hs : P.underlying f1.type = some (.slice e))
    {v : Value} {d : DataW H} {pl : List MemPlace} (h : DataW.Trod enc P w 0 (fun _ => true) true t v d pl) {a : D} {n : Nat} {xs : List D} (rc : RC I w (.agg [a, .row n xs]) v) : n ≤ Rows.uptoBulk d := by
  obtain ⟨fuel, hf⟩ := h
  cases rc with
  | agg hl ho hr =>
    rename_i us
    match us, hl with
    | [u0, u1], _ =>
      have r1 := hr 1 _ u1 rfl rfl
      cases r1 with
      | @row _ _ ao cap b off us' hc hm hn hl' ha hs' ho' hr' =>
        obtain ⟨zs, m, _, hx, hcl, hlen, hff⟩ := DataW.trod_struct ht hf
        have e1 := hff 1 f1 rfl
        rw [o1, c1] at e1
        have hz : zs.length = 2 := hlen
        rw [List.getElem?_eq_getElem (by omega)] at e1
        have hd : d = .agg (zs.map (·.1)) := (Prod.mk.inj hx).1
        have hmem : (zs[1]'(by omega)).1 ∈ zs.map (·.1) := List.mem_map.2 ⟨_, List.getElem_mem _, rfl⟩
        have hb := bulk_mem hmem
        rw [hd, Rows.uptoBulk]
        rcases DataW.trod_slice hs e1 with ⟨hcs, _⟩ | ⟨a', len, cap', elems, rest, n2, _, hcs, hx2, _, _, _, hl2, _⟩
        · have : [Value.slice ao n cap] = [.slice none 0 0] := hcs
          simp at this
          omega
        · have : [Value.slice ao n cap] = [.slice (some a') len cap'] := hcs
          simp at this
          rw [hx2] at hb
          simp only [Rows.uptoBulk] at hb
          have := bulk_len (elems.map (·.1))
          rw [List.length_map] at this
          omega
end Go.Proofs.Ytifapodobhkdcaa.iterLeaders
