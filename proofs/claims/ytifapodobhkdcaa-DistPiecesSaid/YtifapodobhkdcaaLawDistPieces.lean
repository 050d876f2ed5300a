/- The law DistPieces returns true for every input: the piece of a place, and those of all. -/
import Derived.Test.YtifapodobhkdcaaDs9
import Derived.Test.YtifapodobhkdcaaCameT
namespace Go.Proofs.Ytifapodobhkdcaa.distPieces
open Go.RowKit Go.Proofs.Ytifapodobhkdcaa
set_option linter.unusedVariables false
set_option maxHeartbeats 16000000
set_option linter.unusedSimpArgs false
set_option maxRecDepth 100000
theorem law_d (s : ByteArray) (n o : Int) (rs : List Rg) (p : Int) : DC Try.prog 16 [dsD s n o, domD rs, iD p] (bD true) := by
  obtain ⟨bl, L7⟩ := large7_d rs
  cases bl
  case true =>
    refine DC.of Try.func16 Try.ntmps16 Try.results16 rfl (by decide +kernel) rfl ?_
    repeat (first | refine Z1 ?_ | refine Z2 ?_ | (refine Z3 ?_; (repeat (first | (apply gS; first | refine go_no ?_ | refine go_f ?_ | refine gx ?_ | refine gm ?_ | refine gp ?_ | refine go_c rfl rfl (L7) ?_ | refine go_cF rfl rfl (L7) ?_ | refine go_cA rfl rfl (L7) ?_ | refine go_c rfl rfl (first7_d) ?_ | refine go_cF rfl rfl (first7_d) ?_ | refine go_cA rfl rfl (first7_d) ?_) | (apply gZ; first | refine go_f ?_ | refine gx ?_ | refine gm ?_))); refine T_nil ?_) | (apply ZR; (try dsimp only [List.map_cons, List.map_nil]); refine C_dr mixed ?_; (repeat (first | (apply vS; first | refine vn ?_ | refine va ?_ | refine vp ?_ | refine vr ?_ | refine vt ?_ | refine vc (L7) ?_ | refine vcF (L7) ?_ | refine vc (first7_d) ?_ | refine vcF (first7_d) ?_) | (apply vZ; first | refine vs ?_ | refine vw ?_))); refine W_e ?_) | (apply ZK; first | refine Z4 ?_ | refine Z5 ?_) | refine Z6 ?_ | refine Z7 ?_ | refine Z8 ?_ | refine Z9 ?_ | refine ZA ?_ | refine ZB ?_ | refine ZC ?_ | refine ZD ?_ | refine ZE ?_ | refine ZF ?_ | refine ZG ?_ | refine ZH ?_)
    repeat (first | refine kEnd_m ?_ | refine kEnd_f ?_)
    refine kEnd_g ?_ (by first | exact .inl rfl | exact .inr rfl)
    exact Sub.eq rfl rfl
  have SN := sameChunk7_d 0 [] (by simp) (fun d hd => by simp at hd)
  by_cases he : errD s n o rs = 0
  case neg =>
    have P1 := Piece_bad he p
    have P2 := rPiece7_bad he p
    have A1 := Pieces_bad he
    have A2 := rPieces7_bad he
    generalize errD s n o rs = e at *
    refine DC.of Try.func16 Try.ntmps16 Try.results16 rfl (by decide +kernel) rfl ?_
    repeat (first | refine Z1 ?_ | refine Z2 ?_ | (refine Z3 ?_; (repeat (first | (apply gS; first | refine go_no ?_ | refine go_f ?_ | refine gx ?_ | refine gm ?_ | refine gp ?_ | refine go_c rfl rfl (L7) ?_ | refine go_cF rfl rfl (L7) ?_ | refine go_cA rfl rfl (L7) ?_ | refine go_c rfl rfl (P1) ?_ | refine go_cF rfl rfl (P1) ?_ | refine go_cA rfl rfl (P1) ?_ | refine go_c rfl rfl (P2) ?_ | refine go_cF rfl rfl (P2) ?_ | refine go_cA rfl rfl (P2) ?_ | refine go_c rfl rfl (A1) ?_ | refine go_cF rfl rfl (A1) ?_ | refine go_cA rfl rfl (A1) ?_ | refine go_c rfl rfl (A2) ?_ | refine go_cF rfl rfl (A2) ?_ | refine go_cA rfl rfl (A2) ?_ | refine go_c rfl rfl (SN) ?_ | refine go_cF rfl rfl (SN) ?_ | refine go_cA rfl rfl (SN) ?_ | refine go_c rfl rfl (first7_d) ?_ | refine go_cF rfl rfl (first7_d) ?_ | refine go_cA rfl rfl (first7_d) ?_) | (apply gZ; first | refine go_f ?_ | refine gx ?_ | refine gm ?_))); refine T_nil ?_) | (apply ZR; (try dsimp only [List.map_cons, List.map_nil]); refine C_dr mixed ?_; (repeat (first | (apply vS; first | refine vn ?_ | refine va ?_ | refine vp ?_ | refine vr ?_ | refine vt ?_ | refine vc (L7) ?_ | refine vcF (L7) ?_ | refine vc (P1) ?_ | refine vcF (P1) ?_ | refine vc (P2) ?_ | refine vcF (P2) ?_ | refine vc (A1) ?_ | refine vcF (A1) ?_ | refine vc (A2) ?_ | refine vcF (A2) ?_ | refine vc (SN) ?_ | refine vcF (SN) ?_ | refine vc (first7_d) ?_ | refine vcF (first7_d) ?_) | (apply vZ; first | refine vs ?_ | refine vw ?_))); refine W_e ?_) | (apply ZK; first | refine Z4 ?_ | refine Z5 ?_) | refine Z6 ?_ | refine Z7 ?_ | refine Z8 ?_ | refine Z9 ?_ | refine ZA ?_ | refine ZB ?_ | refine ZC ?_ | refine ZD ?_ | refine ZE ?_ | refine ZF ?_ | refine ZG ?_ | refine ZH ?_)
    refine C_count 0 (fun _ => True) (fun i => ⟨2, 79, [(13, iD i), (11, .row 0 []), (12, .row 0 [])], []⟩) ?_ trivial ?_
    · exact Wk.gx (fun b => b)
    · intro i hi _
      obtain rfl : i = 0 := by omega
      repeat (first | refine Z1 ?_ | refine Z2 ?_ | (refine Z3 ?_; (repeat (first | (apply gS; first | refine go_no ?_ | refine go_f ?_ | refine gx ?_ | refine gm ?_ | refine gp ?_ | refine go_c rfl rfl (first7_d) ?_ | refine go_cF rfl rfl (first7_d) ?_ | refine go_cA rfl rfl (first7_d) ?_) | (apply gZ; first | refine go_f ?_ | refine gx ?_ | refine gm ?_))); refine T_nil ?_) | (apply ZR; (try dsimp only [List.map_cons, List.map_nil]); refine C_dr mixed ?_; (repeat (first | (apply vS; first | refine vn ?_ | refine va ?_ | refine vp ?_ | refine vr ?_ | refine vt ?_ | refine vc (first7_d) ?_ | refine vcF (first7_d) ?_) | (apply vZ; first | refine vs ?_ | refine vw ?_))); refine W_e ?_) | (apply ZK; first | refine Z4 ?_ | refine Z5 ?_) | refine Z6 ?_ | refine Z7 ?_ | refine Z8 ?_ | refine Z9 ?_ | refine ZA ?_ | refine ZB ?_ | refine ZC ?_ | refine ZD ?_ | refine ZE ?_ | refine ZF ?_ | refine ZG ?_ | refine ZH ?_)
      repeat (first | refine kEnd_m ?_ | refine kEnd_f ?_)
      refine kEnd_g ?_ (by first | exact .inl rfl | exact .inr rfl)
      exact Sub.eq rfl rfl
  obtain ⟨hv, hd⟩ := errD_ok he
  obtain ⟨k, n, o, rfl, rfl, hk⟩ := vdB_ok hv
  obtain ⟨c0, ct, hc, hs⟩ := canon_sp hd
  have A1 := Pieces_ok hk hd hc hs
  have A2 := rPieces7_ok hk hd hc hs
  have h8 := hk.ok.o8
  have hL : (piecesL k n o c0 ct o).length = o := by simp [piecesL]
  have hC : ∀ i (h : i < (piecesL k n o c0 ct o).length), DC Try.prog 78 [chD (piecesL k n o c0 ct o)[i].1 (piecesL k n o c0 ct o)[i].2, chD (piecesL k n o c0 ct o)[i].1 (piecesL k n o c0 ct o)[i].2] (bD true) := fun i h => by
    have e : (piecesL k n o c0 ct o)[i] = ((i : Int), partsOf k n o c0 ct i) := by simp [piecesL]
    rw [e]
    exact sameChunk7_d _ _ (by have := parts_few hs k n o i; show (partsOf k n o c0 ct i).length ≤ _; omega) (partsOf_X hk.ok hs i).2
  have PP : ∃ (ps : List (List Rg)) (q e : Int), DC Try.prog 76 [dsD s n o, domD rs, iD p] (.tup [chD q ps, iD e]) ∧ DC Try.prog 77 [dsD s n o, domD rs, iD p] (.tup [chD q ps, iD e]) ∧ DC Try.prog 78 [chD q ps, chD q ps] (bD true) := by
    by_cases hp : 0 ≤ p ∧ p < o
    · obtain ⟨q, rfl⟩ : ∃ q : Nat, p = q := ⟨p.toNat, by omega⟩
      exact ⟨_, _, _, Piece_ok hk hd hc hs q (by omega), rPiece7_ok hk hd hc hs q (by omega), sameChunk7_d _ _ (by have := parts_few hs k n o q; omega) (partsOf_X hk.ok hs q).2⟩
    · exact ⟨_, _, _, Piece_no hk hd hc hs p (by omega), rPiece7_no hk hd p (by omega), SN⟩
  obtain ⟨ps, q, e, P1, P2, SC⟩ := PP
  generalize piecesL k n o c0 ct o = L at *
  clear he hv hd hc hs SN hk
  subst hL
  dsimp only [chD, chsD] at P1 P2 SC A1 A2 hC
  refine DC.of Try.func16 Try.ntmps16 Try.results16 rfl (by decide +kernel) rfl ?_
  repeat (first | refine Z1 ?_ | refine Z2 ?_ | (refine Z3 ?_; (repeat (first | (apply gS; first | refine go_no ?_ | refine go_f ?_ | refine gx ?_ | refine gm ?_ | refine gp ?_ | refine go_c rfl rfl (L7) ?_ | refine go_cF rfl rfl (L7) ?_ | refine go_cA rfl rfl (L7) ?_ | refine go_c rfl rfl (P1) ?_ | refine go_cF rfl rfl (P1) ?_ | refine go_cA rfl rfl (P1) ?_ | refine go_c rfl rfl (P2) ?_ | refine go_cF rfl rfl (P2) ?_ | refine go_cA rfl rfl (P2) ?_ | refine go_c rfl rfl (A1) ?_ | refine go_cF rfl rfl (A1) ?_ | refine go_cA rfl rfl (A1) ?_ | refine go_c rfl rfl (A2) ?_ | refine go_cF rfl rfl (A2) ?_ | refine go_cA rfl rfl (A2) ?_ | refine go_c rfl rfl (SC) ?_ | refine go_cF rfl rfl (SC) ?_ | refine go_cA rfl rfl (SC) ?_ | refine go_c rfl rfl (first7_d) ?_ | refine go_cF rfl rfl (first7_d) ?_ | refine go_cA rfl rfl (first7_d) ?_) | (apply gZ; first | refine go_f ?_ | refine gx ?_ | refine gm ?_))); refine T_nil ?_) | (apply ZR; (try dsimp only [List.map_cons, List.map_nil]); refine C_dr mixed ?_; (repeat (first | (apply vS; first | refine vn ?_ | refine va ?_ | refine vp ?_ | refine vr ?_ | refine vt ?_ | refine vc (L7) ?_ | refine vcF (L7) ?_ | refine vc (P1) ?_ | refine vcF (P1) ?_ | refine vc (P2) ?_ | refine vcF (P2) ?_ | refine vc (A1) ?_ | refine vcF (A1) ?_ | refine vc (A2) ?_ | refine vcF (A2) ?_ | refine vc (SC) ?_ | refine vcF (SC) ?_ | refine vc (first7_d) ?_ | refine vcF (first7_d) ?_) | (apply vZ; first | refine vs ?_ | refine vw ?_))); refine W_e ?_) | (apply ZK; first | refine Z4 ?_ | refine Z5 ?_) | refine Z6 ?_ | refine Z7 ?_ | refine Z8 ?_ | refine Z9 ?_ | refine ZA ?_ | refine ZB ?_ | refine ZC ?_ | refine ZD ?_ | refine ZE ?_ | refine ZF ?_ | refine ZG ?_ | refine ZH ?_)
  refine C_count L.length (fun _ => True) (fun i => ⟨2, 79, [(13, iD i), (11, .row L.length (L.flatMap chC)), (12, .row L.length (L.flatMap chC))], []⟩) ?_ trivial ?_
  · exact Wk.gx (fun b => b)
  · intro i hi _
    by_cases hil : i < L.length
    · have C := hC i hil
      clear hC
      repeat (first | refine Z1 ?_ | refine Z2 ?_ | (refine Z3 ?_; (repeat (first | (apply gS; first | refine go_no ?_ | refine go_f ?_ | refine gx ?_ | refine gm ?_ | refine gp ?_ | refine go_c rfl rfl (C) ?_ | refine go_cF rfl rfl (C) ?_ | refine go_cA rfl rfl (C) ?_) | (apply gZ; first | refine go_f ?_ | refine gx ?_ | refine gm ?_))); refine T_nil ?_) | (apply ZR; (try dsimp only [List.map_cons, List.map_nil]); refine C_dr mixed ?_; (repeat (first | (apply vS; first | refine vn ?_ | refine va ?_ | refine vp ?_ | refine vr ?_ | refine vt ?_ | refine vc (C) ?_ | refine vcF (C) ?_) | (apply vZ; first | refine vs ?_ | refine vw ?_))); refine W_e ?_) | (apply ZK; first | refine Z4 ?_ | refine Z5 ?_) | refine Z6 ?_ | refine Z7 ?_ | refine Z8 ?_ | refine Z9 ?_ | refine ZA ?_ | refine ZB ?_ | refine ZC ?_ | refine ZD ?_ | refine ZE ?_ | refine ZF ?_ | refine ZG ?_ | refine ZH ?_)
      refine kLoop_n ⟨hil, trivial, ?_⟩
      exact Wk.gx (fun b => b)
    · obtain rfl : i = L.length := by omega
      clear hC
      repeat (first | refine Z1 ?_ | refine Z2 ?_ | (refine Z3 ?_; (repeat (first | (apply gS; first | refine go_no ?_ | refine go_f ?_ | refine gx ?_ | refine gm ?_ | refine gp ?_ | refine go_c rfl rfl (first7_d) ?_ | refine go_cF rfl rfl (first7_d) ?_ | refine go_cA rfl rfl (first7_d) ?_) | (apply gZ; first | refine go_f ?_ | refine gx ?_ | refine gm ?_))); refine T_nil ?_) | (apply ZR; (try dsimp only [List.map_cons, List.map_nil]); refine C_dr mixed ?_; (repeat (first | (apply vS; first | refine vn ?_ | refine va ?_ | refine vp ?_ | refine vr ?_ | refine vt ?_ | refine vc (first7_d) ?_ | refine vcF (first7_d) ?_) | (apply vZ; first | refine vs ?_ | refine vw ?_))); refine W_e ?_) | (apply ZK; first | refine Z4 ?_ | refine Z5 ?_) | refine Z6 ?_ | refine Z7 ?_ | refine Z8 ?_ | refine Z9 ?_ | refine ZA ?_ | refine ZB ?_ | refine ZC ?_ | refine ZD ?_ | refine ZE ?_ | refine ZF ?_ | refine ZG ?_ | refine ZH ?_)
      repeat (first | refine kEnd_m ?_ | refine kEnd_f ?_)
      refine kEnd_g ?_ (by first | exact .inl rfl | exact .inr rfl)
      exact Sub.eq rfl rfl
theorem walk {w : World} (v : Value) (t : ByteArray × Int × Int) (tc : RC (fun b => b < w.heap.size) w (dsD t.1 t.2.1 t.2.2) v) (u : Value) (rs : List Rg) (rc : RC (fun b => b < w.heap.size) w (domD rs) u) (p : Int) : Calls Try.prog 16 #[v, u, .int .i64 p] w fun e w' => e = .returned (.bool true) ∧ Below w.heap.size w w' :=
  DC.law (law_d t.1 t.2.1 t.2.2 rs p) (.cons tc (.cons rc (.cons (.int _ _ p) .nil)))
end Go.Proofs.Ytifapodobhkdcaa.distPieces
