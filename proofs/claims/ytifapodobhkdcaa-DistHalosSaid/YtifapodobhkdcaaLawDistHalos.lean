/- The law DistHalos returns true for every input: the halo of a place, and how many indexes of halos go from where to where. -/
import Derived.Test.YtifapodobhkdcaaHalR
import Derived.Test.YtifapodobhkdcaaDsB
import Derived.Test.YtifapodobhkdcaaCameT
namespace Go.Proofs.Ytifapodobhkdcaa.distHalos
open Go.RowKit Go.Proofs.Ytifapodobhkdcaa
set_option linter.unusedVariables false
set_option maxHeartbeats 16000000
set_option linter.unusedSimpArgs false
set_option maxRecDepth 100000
theorem sameNil_d : DC Try.prog 71 [.row 0 [], .row 0 []] (bD true) := sameCounts_d kdHalo (fun _ => 0)
theorem law_d (s : ByteArray) (n o : Int) (rs : List Rg) (p q : Int) : DC Try.prog 17 [dsD s n o, domD rs, iD p, iD q] (bD true) := by
  obtain ⟨bl, L7⟩ := large7_d rs
  cases bl
  case true =>
    refine DC.of Try.func17 Try.ntmps17 Try.results17 rfl (by decide +kernel) rfl ?_
    repeat (first | refine Z1 ?_ | refine Z2 ?_ | (refine Z3 ?_; (repeat (first | (apply gS; first | refine go_no ?_ | refine go_f ?_ | refine gx ?_ | refine gm ?_ | refine gp ?_ | refine go_c rfl rfl (L7) ?_ | refine go_cF rfl rfl (L7) ?_ | refine go_cA rfl rfl (L7) ?_ | refine go_c rfl rfl (first7_d) ?_ | refine go_cF rfl rfl (first7_d) ?_ | refine go_cA rfl rfl (first7_d) ?_) | (apply gZ; first | refine go_f ?_ | refine gx ?_ | refine gm ?_))); refine T_nil ?_) | (apply ZK; first | refine Z4 ?_ | refine Z5 ?_) | refine Z6 ?_ | refine Z7 ?_ | refine ZF ?_)
    repeat (first | refine kEnd_m ?_ | refine kEnd_f ?_)
    refine kEnd_g ?_ (by first | exact .inl rfl | exact .inr rfl)
    exact Sub.eq rfl rfl
  have KEY : ∃ (a f h : Int) (ps : List (List Rg)) (m : Nat) (X : List D), DC Try.prog 74 [dsD s n o, domD rs, iD p, iD q] (.tup [chD a ps, iD f]) ∧ DC Try.prog 81 [dsD s n o, domD rs, iD p, iD q] (.tup [chD a ps, iD f]) ∧
      DC Try.prog 82 [dsD s n o, domD rs, iD q] (.tup [.row m X, iD h]) ∧ DC Try.prog 83 [dsD s n o, domD rs, iD q] (.tup [.row m X, iD h]) ∧
      DC Try.prog 78 [chD a ps, chD a ps] (bD true) ∧ DC Try.prog 71 [.row m X, .row m X] (bD true) := by
    have SN := sameChunk7_d 0 [] (by simp) (fun d hd => by simp at hd)
    by_cases he : errD s n o rs = 0
    case neg => exact ⟨_, _, _, _, _, _, Halo_bad he p q, rHalo7_bad he p q, Updates_bad he q, rUpdates7_bad he q, SN, sameNil_d⟩
    obtain ⟨hv, hd⟩ := errD_ok he
    obtain ⟨k, n, o, rfl, rfl, hk⟩ := vdB_ok hv
    obtain ⟨c0, ct, hc, hs⟩ := canon_sp hd
    by_cases hq : 0 ≤ q ∧ q ≤ 4096
    · obtain ⟨q, rfl⟩ : ∃ z : Nat, q = z := ⟨q.toNat, by omega⟩
      have U1 := Updates_ok hk hd hc hs q (by omega)
      have U2 := rUpdates7_ok hk hd hc hs q (by omega)
      have SC := sameCounts_d kdHalo (upT k n o c0 ct q)
      by_cases hp : 0 ≤ p ∧ p < o
      · obtain ⟨p, rfl⟩ : ∃ z : Nat, p = z := ⟨p.toNat, by omega⟩
        refine ⟨_, _, _, _, _, _, Halo_ok hk hd hc hs p q (by omega) (by omega), rHalo7_ok hk hd hc hs p q (by omega) (by omega), U1, U2, sameChunk7_d _ _ ?_ (hparts_X hs k n o p q).2, SC⟩
        unfold hpartsOf
        rw [List.length_map]
        have h1 := runs_few (hrunsOf_S k n o (cN c0) p q)
        have h2 := hal_len k n o (cN c0) p q
        have h3 := hs.few
        omega
      · exact ⟨_, _, _, _, _, _, Halo_no hk hd hc hs p q (by omega), rHalo7_no hk hd p q (by omega), U1, U2, SN, SC⟩
    · exact ⟨_, _, _, _, _, _, Halo_no hk hd hc hs p q (by omega), rHalo7_no hk hd p q (by omega), Updates_no hk hd hc hs q hq, rUpdates7_no hk hd q hq, SN, sameNil_d⟩
  obtain ⟨a, f, h, ps, m, X, A, B, G1, G2, S1, S2⟩ := KEY
  refine DC.of Try.func17 Try.ntmps17 Try.results17 rfl (by decide +kernel) rfl ?_
  repeat (first | refine Z1 ?_ | refine Z2 ?_ | (refine Z3 ?_; (repeat (first | (apply gS; first | refine go_no ?_ | refine go_f ?_ | refine gx ?_ | refine gm ?_ | refine gp ?_ | refine go_c rfl rfl (L7) ?_ | refine go_cF rfl rfl (L7) ?_ | refine go_cA rfl rfl (L7) ?_ | refine go_c rfl rfl (A) ?_ | refine go_cF rfl rfl (A) ?_ | refine go_cA rfl rfl (A) ?_ | refine go_c rfl rfl (B) ?_ | refine go_cF rfl rfl (B) ?_ | refine go_cA rfl rfl (B) ?_ | refine go_c rfl rfl (G1) ?_ | refine go_cF rfl rfl (G1) ?_ | refine go_cA rfl rfl (G1) ?_ | refine go_c rfl rfl (G2) ?_ | refine go_cF rfl rfl (G2) ?_ | refine go_cA rfl rfl (G2) ?_ | refine go_c rfl rfl (S1) ?_ | refine go_cF rfl rfl (S1) ?_ | refine go_cA rfl rfl (S1) ?_ | refine go_c rfl rfl (S2) ?_ | refine go_cF rfl rfl (S2) ?_ | refine go_cA rfl rfl (S2) ?_ | refine go_c rfl rfl (first7_d) ?_ | refine go_cF rfl rfl (first7_d) ?_ | refine go_cA rfl rfl (first7_d) ?_) | (apply gZ; first | refine go_f ?_ | refine gx ?_ | refine gm ?_))); refine T_nil ?_) | (apply ZK; first | refine Z4 ?_ | refine Z5 ?_) | refine Z6 ?_ | refine Z7 ?_ | refine ZF ?_)
  repeat (first | refine kEnd_m ?_ | refine kEnd_f ?_)
  refine kEnd_g ?_ (by first | exact .inl rfl | exact .inr rfl)
  exact Sub.eq rfl rfl
theorem walk {w : World} (v : Value) (t : ByteArray × Int × Int) (tc : RC (fun b => b < w.heap.size) w (dsD t.1 t.2.1 t.2.2) v) (u : Value) (rs : List Rg) (rc : RC (fun b => b < w.heap.size) w (domD rs) u) (p q : Int) : Calls Try.prog 17 #[v, u, .int .i64 p, .int .i64 q] w fun e w' => e = .returned (.bool true) ∧ Below w.heap.size w w' :=
  DC.law (law_d t.1 t.2.1 t.2.2 rs p q) (.cons tc (.cons rc (.cons (.int _ _ p) (.cons (.int _ _ q) .nil))))
end Go.Proofs.Ytifapodobhkdcaa.distHalos
