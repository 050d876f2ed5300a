/- Walks of small functions on slices of ints. -/
import Derived.Test.YtpcggfaohgemjaaRows
import Derived.Test.YtpcggfaohgemjaaMem
import Derived.Deep.QuietTactic
import Derived.BigQuiet
namespace Go.Proofs.Ytpcggfaohgemjaa
open Go.RowKit
theorem ext_at {la lb : List Int} (h : la.length = lb.length) (he : ∀ j, j < la.length → at_ la j = at_ lb j) : la = lb :=
  List.ext_getElem h fun j h1 h2 => by rw [← at_eq la j h1, ← at_eq lb j h2]; exact he j h1
theorem SameInts_calls (va vb : Value) (la lb : List Int) (w : World) (ha : IntsIn w va la) (hb : IntsIn w vb lb) :
    Calls Try.prog 20 #[va, vb] w fun e w' => e = .returned (.bool (decide (la = lb))) ∧ ∃ n, w' = w.drewN n := by
  have hla := ha.len
  have hlb := hb.len
  obtain ⟨ao, cap, b, off, rfl, _, _, hao, hac, _⟩ := ha
  obtain ⟨bo, bcap, bb, boff, rfl, _, _, hbo, hbc, _⟩ := hb
  by_cases hn : la.length = lb.length
  · have hF : (((la.length : Nat) : Int) != ((lb.length : Nat) : Int)) = false := by simp [hn]
    have Hn := Lib.hid hn
    clear hn
    have Hao := Lib.hid hao
    have Hbo := Lib.hid hbo
    have Hac := Lib.hid hac
    have Hbc := Lib.hid hbc
    clear hao hbo hac hbc
    go_enter Try.func20, Try.ntmps20
    go_wp2
    go_loopw [5] (fun i wr => ∃ k n : Nat, k ≤ la.length ∧ i = .int .i64 k ∧ (∀ j, j < k → at_ la j = at_ lb j) ∧ wr = w.drewN n) (fun i _ => la.length - (intOf i).toNat)
    case atStart => exact ⟨0, 0, Nat.zero_le _, rfl, fun j hj => absurd hj (by omega), rfl⟩
    case round =>
      obtain ⟨k, n, hk, rfl, hsame, rfl⟩ := hrel
      have Hs := Lib.hid hsame
      clear hsame
      by_cases hlt : k < la.length
      · have hlt2 : k < lb.length := by have := Hn.out; omega
        obtain rfl := Hao.out (by omega)
        obtain rfl := Hbo.out (by omega)
        have c1 := Hac.out k hlt
        have c2 := Hbc.out k hlt2
        by_cases he : at_ la k = at_ lb k
        · have hf : (at_ la k != at_ lb k) = false := by simp [he]
          have He := Lib.hid he
          clear he
          go_wp2
          go_quiet (fail)
          go_wp2
          go_roundw
          case rel =>
            refine ⟨k + 1, _, by omega, by go_num, fun j hj => ?_, rfl⟩
            rcases Nat.lt_succ_iff_lt_or_eq.1 hj with h | h
            · exact Hs.out j h
            · rw [h]; exact He.out
          case measure => simp [intOf]; omega
        · have hf : (at_ la k != at_ lb k) = true := by simp [he]
          go_wp2
          go_quiet (fail)
          go_wp2
          go_ret
          refine ⟨?_, n + nq, by rw [World.drewN_drewN]⟩
          have : ¬ la = lb := fun h => he (by rw [h])
          simp [this]
      · go_wp2
        go_ret
        refine ⟨?_, _, rfl⟩
        have : la = lb := ext_at Hn.out fun j hj => Hs.out j (by omega)
        simp [this]
  · have hF : (((la.length : Nat) : Int) != ((lb.length : Nat) : Int)) = true := by simp; omega
    have : ¬ la = lb := fun h => hn (by rw [h])
    go_enter Try.func20, Try.ntmps20
    go_wp2
    go_ret
    exact ⟨by simp [this], 0, rfl⟩
end Go.Proofs.Ytpcggfaohgemjaa
