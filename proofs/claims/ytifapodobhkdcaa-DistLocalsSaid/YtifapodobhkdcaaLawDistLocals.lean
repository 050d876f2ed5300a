/- The law DistLocals returns true for every input: which one of its owner's an index is, and which index is at an offset of a place. -/
import Derived.Test.YtifapodobhkdcaaDtA
import Derived.Test.YtifapodobhkdcaaCameA
namespace Go.Proofs.Ytifapodobhkdcaa.distLocals
open Go.RowKit Go.Proofs.Ytifapodobhkdcaa
set_option linter.unusedVariables false
set_option maxHeartbeats 16000000
set_option linter.unusedSimpArgs false
set_option maxRecDepth 100000
theorem law_d (s : ByteArray) (n o : Int) (rs : List Rg) (x : List Int) (p q : Int) (hq : q ≤ 9223372036854775807) : DC Try.prog 11 [dsD s n o, domD rs, rowI x, .agg [iD p, iD q]] (bD true) := by
  obtain ⟨bl, L7⟩ := large7_d rs
  cases bl
  case true =>
    refine DC.of Try.func11 Try.ntmps11 Try.results11 rfl (by decide +kernel) rfl ?_
    repeat (first | refine Z1 ?_ | refine Z2 ?_ | (refine Z3 ?_; (repeat (first | (apply gS; first | refine go_no ?_ | refine go_f ?_ | refine gx ?_ | refine gm ?_ | refine gp ?_ | refine go_c rfl rfl (L7) ?_ | refine go_cF rfl rfl (L7) ?_ | refine go_cA rfl rfl (L7) ?_ | refine go_c rfl rfl (first7_d) ?_ | refine go_cF rfl rfl (first7_d) ?_ | refine go_cA rfl rfl (first7_d) ?_))); refine T_nil ?_) | (apply ZK; first | refine Z4 ?_ | refine Z5 ?_) | refine Z6 ?_ | refine Z7 ?_ | refine ZF ?_)
    repeat (first | refine kEnd_m ?_ | refine kEnd_f ?_)
    refine kEnd_g ?_ (by first | exact .inl rfl | exact .inr rfl)
    exact Sub.eq rfl rfl
  by_cases hx : 20 < x.length
  · refine DC.of Try.func11 Try.ntmps11 Try.results11 rfl (by decide +kernel) rfl ?_
    repeat (first | refine Z1 ?_ | refine Z2 ?_ | (refine Z3 ?_; (repeat (first | (apply gS; first | refine go_no ?_ | refine go_f ?_ | refine gx ?_ | refine gm ?_ | refine gp ?_ | refine go_c rfl rfl (L7) ?_ | refine go_cF rfl rfl (L7) ?_ | refine go_cA rfl rfl (L7) ?_ | refine go_c rfl rfl (first7_d) ?_ | refine go_cF rfl rfl (first7_d) ?_ | refine go_cA rfl rfl (first7_d) ?_))); refine T_nil ?_) | (apply ZK; first | refine Z4 ?_ | refine Z5 ?_) | refine Z6 ?_ | refine Z7 ?_ | refine ZF ?_)
    repeat (first | refine kEnd_m ?_ | refine kEnd_f ?_)
    refine kEnd_g ?_ (by first | exact .inl rfl | exact .inr rfl)
    exact Sub.eq rfl rfl
  have KEY : ∃ (a f h : Int) (X : List Int), DC Try.prog 56 [dsD s n o, domD rs, rowI x] (.tup [iD a, iD f]) ∧ DC Try.prog 66 [dsD s n o, domD rs, rowI x] (.tup [iD a, iD f]) ∧
      DC Try.prog 67 [dsD s n o, domD rs, iD p, iD q] (.tup [rowI X, iD h]) ∧ DC Try.prog 68 [dsD s n o, domD rs, iD p, iD q] (.tup [rowI X, iD h]) ∧ DC Try.prog 28 [rowI X, rowI X] (bD true) := by
    have SN := sameInts_d [] [] (by simp)
    rw [decide_eq_true rfl] at SN
    by_cases he : errD s n o rs = 0
    case neg => exact ⟨_, _, _, _, Local_bad he x, rLocal7_bad he x, Global_bad he p q, rGlobal7_bad he p q, SN⟩
    obtain ⟨hv, hd⟩ := errD_ok he
    obtain ⟨k, n, o, rfl, rfl, hk⟩ := vdB_ok hv
    obtain ⟨c0, ct, hc, hs⟩ := canon_sp hd
    have A := Local_d hk hd hc hs x
    have B := rLocal7_d hk hd hc hs x
    by_cases hp : 0 ≤ p ∧ p < o ∧ 0 ≤ q
    · obtain ⟨p, rfl⟩ : ∃ z : Nat, p = z := ⟨p.toNat, by omega⟩
      obtain ⟨q, rfl⟩ : ∃ z : Nat, q = z := ⟨q.toNat, by omega⟩
      obtain ⟨g1, g2⟩ := glob_pl hk.ok hs p q
      by_cases hg : q < (plX c0 ct (ow k n o (cN c0) p)).length
      · have G1 := Global_ok hk hd hc hs p q (by omega) (g1.2 hg)
        have G2 := rGlobal7_ok hk hd hc hs p q (by omega) hg
        rw [g2 hg] at G2
        obtain ⟨a, a1, a2, a3, a4⟩ := piece_at hk.ok hs hg
        have hxl : (globX k n o c0 ct p q).length ≤ 10 := by
          rw [← g2 hg, a2, (at_find hs a1).1]
          have := (domB_iff.1 hs.dom).1.2
          omega
        have SI := sameInts_d (globX k n o c0 ct p q) (globX k n o c0 ct p q) (by omega)
        rw [decide_eq_true rfl] at SI
        exact ⟨_, _, _, _, A, B, G1, G2, SI⟩
      · exact ⟨_, _, _, _, A, B, Global_none hk hd hc hs p q (by omega) (fun h => hg (g1.1 h)) (by omega), rGlobal7_none hk hd hc hs p q (by omega) (by omega), SN⟩
    · exact ⟨_, _, _, _, A, B, Global_no hk hd hc hs p q hp, rGlobal7_no hk hd p q hp, SN⟩
  obtain ⟨a, f, h, X, A, B, G1, G2, SI⟩ := KEY
  refine DC.of Try.func11 Try.ntmps11 Try.results11 rfl (by decide +kernel) rfl ?_
  repeat (first | refine Z1 ?_ | refine Z2 ?_ | (refine Z3 ?_; (repeat (first | (apply gS; first | refine go_no ?_ | refine go_f ?_ | refine gx ?_ | refine gm ?_ | refine gp ?_ | refine go_c rfl rfl (L7) ?_ | refine go_cF rfl rfl (L7) ?_ | refine go_cA rfl rfl (L7) ?_ | refine go_c rfl rfl (A) ?_ | refine go_cF rfl rfl (A) ?_ | refine go_cA rfl rfl (A) ?_ | refine go_c rfl rfl (B) ?_ | refine go_cF rfl rfl (B) ?_ | refine go_cA rfl rfl (B) ?_ | refine go_c rfl rfl (G1) ?_ | refine go_cF rfl rfl (G1) ?_ | refine go_cA rfl rfl (G1) ?_ | refine go_c rfl rfl (G2) ?_ | refine go_cF rfl rfl (G2) ?_ | refine go_cA rfl rfl (G2) ?_ | refine go_c rfl rfl (SI) ?_ | refine go_cF rfl rfl (SI) ?_ | refine go_cA rfl rfl (SI) ?_ | refine go_c rfl rfl (first7_d) ?_ | refine go_cF rfl rfl (first7_d) ?_ | refine go_cA rfl rfl (first7_d) ?_))); refine T_nil ?_) | (apply ZK; first | refine Z4 ?_ | refine Z5 ?_) | refine Z6 ?_ | refine Z7 ?_ | refine ZF ?_)
  repeat (first | refine kEnd_m ?_ | refine kEnd_f ?_)
  refine kEnd_g ?_ (by first | exact .inl rfl | exact .inr rfl)
  exact Sub.eq rfl rfl
theorem walk {w : World} (v : Value) (t : ByteArray × Int × Int) (tc : RC (fun b => b < w.heap.size) w (dsD t.1 t.2.1 t.2.2) v) (u : Value) (rs : List Rg) (rc : RC (fun b => b < w.heap.size) w (domD rs) u) (z : Value) (x : List Int) (hx : IntsIn w z x) (y : Value) (xy : {n : Int // okI n} × {n : Int // okI n}) (yc : RC (fun b => b < w.heap.size) w (.agg [iD xy.1.1, iD xy.2.1]) y) : Calls Try.prog 11 #[v, u, z, y] w fun e w' => e = .returned (.bool true) ∧ Below w.heap.size w w' :=
  DC.law (law_d t.1 t.2.1 t.2.2 rs x xy.1.1 xy.2.1 xy.2.2.2) (.cons tc (.cons rc (.cons (RC.ints hx) (.cons yc .nil))))
end Go.Proofs.Ytifapodobhkdcaa.distLocals
