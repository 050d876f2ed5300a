/- Walks of Unmix and Seed, and of the reference's. -/
import Derived.Test.YtpcggfaohgemjaaStreamB
namespace Go.Proofs.Ytpcggfaohgemjaa
open Go.RowKit
open StreamMath (sx tb tbStep inv invStep)
theorem quietL {P : Program} {f : FuncId} {args : Array Value} {w : World} {a n : Nat} {v : Value} (h : Calls P f args (w.drewN (a + n)) fun e w' => e = .returned v ∧ w.drewN (a + n) = w') :
    Calls P f args (w.drewN (a + n)) fun e w'' => e = .returned v ∧ ∃ m, w'' = w.drewN (a + m) := h.mono fun _ _ ⟨he, hm⟩ => ⟨he, n, hm.symm⟩
theorem ofInt_sub' (a b : Int) : BitVec.ofInt 64 (a - b) = BitVec.ofInt 64 a - BitVec.ofInt 64 b := by
  apply BitVec.eq_of_toNat_eq
  rw [BitVec.toNat_sub, BitVec.toNat_ofInt, BitVec.toNat_ofInt, BitVec.toNat_ofInt]
  omega
theorem inv_int (a x : BitVec 64) : IntKind.u64.wrap (U x * IntKind.u64.wrap (2 - IntKind.u64.wrap (U a * U x))) = U (invStep a x) := by
  rw [u64_of (U a * U x), BitVec.ofInt_mul, ofInt_U, ofInt_U, u64_of (2 - _), ofInt_sub', ofInt_U, u64_of, BitVec.ofInt_mul, ofInt_U, ofInt_U]
  rfl
theorem i64_eqn (n : Int) (h : 0 ≤ n ∧ n ≤ 100) : IntKind.i64.wrap n = n := IntWalk.i64_in n (by omega)
theorem turnBack31_calls (z : BitVec 64) (w : World) :
    Calls Try.prog 43 #[.int .u64 (U z), .int .i64 31] w fun e w' => e = .returned (.int .u64 (U (tb 31 z 2))) ∧ w = w' := by
  have hs : ∀ x : BitVec 64, bits .xor .u64 (U z) (U x / 2147483648) = U (tbStep 31 z x) := fun x => by rw [show (2147483648 : Int) = ((2147483648 : Nat) : Int) from rfl, shr_u64 x 31 2147483648 (by decide), xor_u64]; rfl
  go_enter Try.func43, Try.ntmps43
  go_wp2
  go_loop [5, 6] (fun v i => ∃ j : Nat, j ≤ 2 ∧ i = .int .i64 (31 * ((j : Int) + 1)) ∧ v = .int .u64 (U (tb 31 z j))) (fun _ i => 100 - (intOf i).toNat)
  case atStart => exact ⟨0, by omega, rfl, rfl⟩
  case round =>
    obtain ⟨j, hj, rfl, rfl⟩ := hrel
    by_cases hlt : j < 2
    · go_wp2
      go_round
      case rel => exact ⟨j + 1, by omega, by go_num, rfl⟩
      case measure => simp [intOf]; omega
    · have h2 : j = 2 := by omega
      subst h2
      go_wp2
      go_ret
      exact ⟨rfl, rfl⟩
theorem unshift31_calls (z : BitVec 64) (w : World) :
    Calls Try.prog 45 #[.int .u64 (U z), .int .i64 31] w fun e w' => e = .returned (.int .u64 (U (tb 31 z 3))) ∧ w = w' := by
  have hs : ∀ x : BitVec 64, bits .xor .u64 (U z) (U x / 2147483648) = U (tbStep 31 z x) := fun x => by rw [show (2147483648 : Int) = ((2147483648 : Nat) : Int) from rfl, shr_u64 x 31 2147483648 (by decide), xor_u64]; rfl
  go_enter Try.func45, Try.ntmps45
  go_wp2
  go_loop [5, 6] (fun v i => ∃ j : Nat, j ≤ 3 ∧ i = .int .i64 (31 * (j : Int)) ∧ v = .int .u64 (U (tb 31 z j))) (fun _ i => 100 - (intOf i).toNat)
  case atStart => exact ⟨0, by omega, rfl, rfl⟩
  case round =>
    obtain ⟨j, hj, rfl, rfl⟩ := hrel
    by_cases hlt : j < 3
    · go_wp2
      go_round
      case rel => exact ⟨j + 1, by omega, by go_num, rfl⟩
      case measure => simp [intOf]; omega
    · have h2 : j = 3 := by omega
      subst h2
      go_wp2
      go_ret
      exact ⟨rfl, rfl⟩
theorem turnBack27_calls (z : BitVec 64) (w : World) :
    Calls Try.prog 43 #[.int .u64 (U z), .int .i64 27] w fun e w' => e = .returned (.int .u64 (U (tb 27 z 2))) ∧ w = w' := by
  have hs : ∀ x : BitVec 64, bits .xor .u64 (U z) (U x / 134217728) = U (tbStep 27 z x) := fun x => by rw [show (134217728 : Int) = ((134217728 : Nat) : Int) from rfl, shr_u64 x 27 134217728 (by decide), xor_u64]; rfl
  go_enter Try.func43, Try.ntmps43
  go_wp2
  go_loop [5, 6] (fun v i => ∃ j : Nat, j ≤ 2 ∧ i = .int .i64 (27 * ((j : Int) + 1)) ∧ v = .int .u64 (U (tb 27 z j))) (fun _ i => 100 - (intOf i).toNat)
  case atStart => exact ⟨0, by omega, rfl, rfl⟩
  case round =>
    obtain ⟨j, hj, rfl, rfl⟩ := hrel
    by_cases hlt : j < 2
    · go_wp2
      go_round
      case rel => exact ⟨j + 1, by omega, by go_num, rfl⟩
      case measure => simp [intOf]; omega
    · have h2 : j = 2 := by omega
      subst h2
      go_wp2
      go_ret
      exact ⟨rfl, rfl⟩
theorem unshift27_calls (z : BitVec 64) (w : World) :
    Calls Try.prog 45 #[.int .u64 (U z), .int .i64 27] w fun e w' => e = .returned (.int .u64 (U (tb 27 z 3))) ∧ w = w' := by
  have hs : ∀ x : BitVec 64, bits .xor .u64 (U z) (U x / 134217728) = U (tbStep 27 z x) := fun x => by rw [show (134217728 : Int) = ((134217728 : Nat) : Int) from rfl, shr_u64 x 27 134217728 (by decide), xor_u64]; rfl
  go_enter Try.func45, Try.ntmps45
  go_wp2
  go_loop [5, 6] (fun v i => ∃ j : Nat, j ≤ 3 ∧ i = .int .i64 (27 * (j : Int)) ∧ v = .int .u64 (U (tb 27 z j))) (fun _ i => 100 - (intOf i).toNat)
  case atStart => exact ⟨0, by omega, rfl, rfl⟩
  case round =>
    obtain ⟨j, hj, rfl, rfl⟩ := hrel
    by_cases hlt : j < 3
    · go_wp2
      go_round
      case rel => exact ⟨j + 1, by omega, by go_num, rfl⟩
      case measure => simp [intOf]; omega
    · have h2 : j = 3 := by omega
      subst h2
      go_wp2
      go_ret
      exact ⟨rfl, rfl⟩
theorem turnBack30_calls (z : BitVec 64) (w : World) :
    Calls Try.prog 43 #[.int .u64 (U z), .int .i64 30] w fun e w' => e = .returned (.int .u64 (U (tb 30 z 2))) ∧ w = w' := by
  have hs : ∀ x : BitVec 64, bits .xor .u64 (U z) (U x / 1073741824) = U (tbStep 30 z x) := fun x => by rw [show (1073741824 : Int) = ((1073741824 : Nat) : Int) from rfl, shr_u64 x 30 1073741824 (by decide), xor_u64]; rfl
  go_enter Try.func43, Try.ntmps43
  go_wp2
  go_loop [5, 6] (fun v i => ∃ j : Nat, j ≤ 2 ∧ i = .int .i64 (30 * ((j : Int) + 1)) ∧ v = .int .u64 (U (tb 30 z j))) (fun _ i => 100 - (intOf i).toNat)
  case atStart => exact ⟨0, by omega, rfl, rfl⟩
  case round =>
    obtain ⟨j, hj, rfl, rfl⟩ := hrel
    by_cases hlt : j < 2
    · go_wp2
      go_round
      case rel => exact ⟨j + 1, by omega, by go_num, rfl⟩
      case measure => simp [intOf]; omega
    · have h2 : j = 2 := by omega
      subst h2
      go_wp2
      go_ret
      exact ⟨rfl, rfl⟩
theorem unshift30_calls (z : BitVec 64) (w : World) :
    Calls Try.prog 45 #[.int .u64 (U z), .int .i64 30] w fun e w' => e = .returned (.int .u64 (U (tb 30 z 3))) ∧ w = w' := by
  have hs : ∀ x : BitVec 64, bits .xor .u64 (U z) (U x / 1073741824) = U (tbStep 30 z x) := fun x => by rw [show (1073741824 : Int) = ((1073741824 : Nat) : Int) from rfl, shr_u64 x 30 1073741824 (by decide), xor_u64]; rfl
  go_enter Try.func45, Try.ntmps45
  go_wp2
  go_loop [5, 6] (fun v i => ∃ j : Nat, j ≤ 3 ∧ i = .int .i64 (30 * (j : Int)) ∧ v = .int .u64 (U (tb 30 z j))) (fun _ i => 100 - (intOf i).toNat)
  case atStart => exact ⟨0, by omega, rfl, rfl⟩
  case round =>
    obtain ⟨j, hj, rfl, rfl⟩ := hrel
    by_cases hlt : j < 3
    · go_wp2
      go_round
      case rel => exact ⟨j + 1, by omega, by go_num, rfl⟩
      case measure => simp [intOf]; omega
    · have h2 : j = 3 := by omega
      subst h2
      go_wp2
      go_ret
      exact ⟨rfl, rfl⟩
theorem inverse_calls (a : BitVec 64) (w : World) :
    Calls Try.prog 44 #[.int .u64 (U a)] w fun e w' => e = .returned (.int .u64 (U (inv a 5))) ∧ w = w' := by
  have hm : ∀ x : BitVec 64, IntKind.u64.wrap (U x * IntKind.u64.wrap (2 - IntKind.u64.wrap (U a * U x))) = U (invStep a x) := inv_int a
  go_enter Try.func44, Try.ntmps44
  go_wp2
  go_loop [3, 5] (fun v i => ∃ j : Nat, j ≤ 5 ∧ i = .int .i64 (j : Int) ∧ v = .int .u64 (U (inv a j))) (fun _ i => 100 - (intOf i).toNat)
  case atStart => exact ⟨0, by omega, rfl, rfl⟩
  case round =>
    obtain ⟨j, hj, rfl, rfl⟩ := hrel
    by_cases hlt : j < 5
    · go_wp2
      go_round
      case rel => exact ⟨j + 1, by omega, by go_num, rfl⟩
      case measure => simp [intOf]; omega
    · have h2 : j = 5 := by omega
      subst h2
      go_wp2
      go_ret
      exact ⟨rfl, rfl⟩
theorem inverse_first (w : World) : Calls Try.prog 44 #[.int .u64 13787848793156543929] w fun e w' => e = .returned (.int .u64 (U (inv StreamMath.first 5))) ∧ w = w' := by
  have h := inverse_calls StreamMath.first w
  rwa [show U StreamMath.first = 13787848793156543929 from by decide] at h
theorem inverse_second (w : World) : Calls Try.prog 44 #[.int .u64 10723151780598845931] w fun e w' => e = .returned (.int .u64 (U (inv StreamMath.second 5))) ∧ w = w' := by
  have h := inverse_calls StreamMath.second w
  rwa [show U StreamMath.second = 10723151780598845931 from by decide] at h
theorem refInverse_calls (a : BitVec 64) (w : World) :
    Calls Try.prog 46 #[.int .u64 (U a)] w fun e w' => e = .returned (.int .u64 (U (inv a 6))) ∧ w = w' := by
  have hm : ∀ x : BitVec 64, IntKind.u64.wrap (U x * IntKind.u64.wrap (2 - IntKind.u64.wrap (U a * U x))) = U (invStep a x) := inv_int a
  go_enter Try.func46, Try.ntmps46
  go_wp2
  go_loop [3, 4] (fun v i => ∃ j : Nat, j ≤ 6 ∧ i = .int .i64 (j : Int) ∧ v = .int .u64 (U (inv a j))) (fun _ i => 100 - (intOf i).toNat)
  case atStart => exact ⟨0, by omega, rfl, rfl⟩
  case round =>
    obtain ⟨j, hj, rfl, rfl⟩ := hrel
    by_cases hlt : j < 6
    · go_wp2
      go_round
      case rel => exact ⟨j + 1, by omega, by go_num, rfl⟩
      case measure => simp [intOf]; omega
    · have h2 : j = 6 := by omega
      subst h2
      go_wp2
      go_ret
      exact ⟨rfl, rfl⟩
theorem refInverse_first (w : World) : Calls Try.prog 46 #[.int .u64 13787848793156543929] w fun e w' => e = .returned (.int .u64 (U (inv StreamMath.first 6))) ∧ w = w' := by
  have h := refInverse_calls StreamMath.first w
  rwa [show U StreamMath.first = 13787848793156543929 from by decide] at h
theorem refInverse_second (w : World) : Calls Try.prog 46 #[.int .u64 10723151780598845931] w fun e w' => e = .returned (.int .u64 (U (inv StreamMath.second 6))) ∧ w = w' := by
  have h := refInverse_calls StreamMath.second w
  rwa [show U StreamMath.second = 10723151780598845931 from by decide] at h
theorem unmix_calls (z : BitVec 64) (w : World) :
    Calls Try.prog 37 #[.int .u64 (U z)] w fun e w' => e = .returned (.int .u64 (U (StreamMath.unmix z))) ∧ w = w' := by
  have hm : ∀ x y : BitVec 64, IntKind.u64.wrap (U x * U y) = U (x * y) := fun x y => by rw [u64_of, BitVec.ofInt_mul, ofInt_U, ofInt_U]
  skip
  go_enter Try.func37, Try.ntmps37
  go_wp2_with fail
  refine (turnBack31_calls _ _).mono ?_
  rintro e w' ⟨rfl, rfl⟩
  go_wp2_with fail
  refine (inverse_second _).mono ?_
  rintro e w' ⟨rfl, rfl⟩
  go_wp2_with fail
  refine (turnBack27_calls _ _).mono ?_
  rintro e w' ⟨rfl, rfl⟩
  go_wp2_with fail
  refine (inverse_first _).mono ?_
  rintro e w' ⟨rfl, rfl⟩
  go_wp2_with fail
  refine (turnBack30_calls _ _).mono ?_
  rintro e w' ⟨rfl, rfl⟩
  go_wp2
  go_ret
  exact ⟨rfl, rfl⟩
theorem refUnmix_calls (z : BitVec 64) (w : World) :
    Calls Try.prog 38 #[.int .u64 (U z)] w fun e w' => e = .returned (.int .u64 (U (StreamMath.unmix z))) ∧ w = w' := by
  have hm : ∀ x y : BitVec 64, IntKind.u64.wrap (U x * U y) = U (x * y) := fun x y => by rw [u64_of, BitVec.ofInt_mul, ofInt_U, ofInt_U]
  have hR := Lib.hid (StreamMath.unmixR_eq z)
  go_enter Try.func38, Try.ntmps38
  go_wp2_with fail
  refine (unshift31_calls _ _).mono ?_
  rintro e w' ⟨rfl, rfl⟩
  go_wp2_with fail
  refine (refInverse_second _).mono ?_
  rintro e w' ⟨rfl, rfl⟩
  go_wp2_with fail
  refine (unshift27_calls _ _).mono ?_
  rintro e w' ⟨rfl, rfl⟩
  go_wp2_with fail
  refine (refInverse_first _).mono ?_
  rintro e w' ⟨rfl, rfl⟩
  go_wp2_with fail
  refine (unshift30_calls _ _).mono ?_
  rintro e w' ⟨rfl, rfl⟩
  go_wp2
  go_ret
  exact ⟨ret_int (congrArg U hR.out), rfl⟩
def unmixV (z : Int) : Int := (StreamMath.unmix (BitVec.ofInt 64 z)).toInt
theorem Unmix_calls (z : Int) (w : World) :
    Calls Try.prog 23 #[.int .i64 z] w fun e w' => e = .returned (.int .i64 (unmixV z)) ∧ w = w' := by
  have h := u64_of z
  have hc := Lib.hid (i64_of (StreamMath.unmix (BitVec.ofInt 64 z)))
  go_enter Try.func23, Try.ntmps23
  go_wp2_with fail
  refine (unmix_calls _ _).mono ?_
  rintro e w' ⟨rfl, rfl⟩
  have hc := hc.out
  go_wp2
  go_ret
  exact ⟨rfl, rfl⟩
theorem refUnmixI_calls (z : Int) (w : World) :
    Calls Try.prog 26 #[.int .i64 z] w fun e w' => e = .returned (.int .i64 (unmixV z)) ∧ w = w' := by
  have h := u64_of z
  have hc := Lib.hid (i64_of (StreamMath.unmix (BitVec.ofInt 64 z)))
  go_enter Try.func26, Try.ntmps26
  go_wp2_with fail
  refine (refUnmix_calls _ _).mono ?_
  rintro e w' ⟨rfl, rfl⟩
  have hc := hc.out
  go_wp2
  go_ret
  exact ⟨rfl, rfl⟩
def mixV (z : Int) : Int := (StreamMath.mix (BitVec.ofInt 64 z)).toInt
theorem Mix_calls (z : Int) (w : World) :
    Calls Try.prog 27 #[.int .i64 z] w fun e w' => e = .returned (.int .i64 (mixV z)) ∧ w = w' := by
  have h := u64_of z
  have hc := Lib.hid (i64_of (StreamMath.mix (BitVec.ofInt 64 z)))
  go_enter Try.func27, Try.ntmps27
  go_wp2_with fail
  refine (refMix_calls _ _).mono ?_
  rintro e w' ⟨rfl, rfl⟩
  have hc := hc.out
  go_wp2
  go_ret
  exact ⟨rfl, rfl⟩
theorem toInt_ofInt_ok {z : Int} (h : okI z) : (BitVec.ofInt 64 z).toInt = z := by
  rw [BitVec.toInt_ofInt, Int.bmod]; unfold okI at h; split <;> omega
theorem mix_unmixV {z : Int} (h : okI z) : mixV (unmixV z) = z := by
  unfold mixV unmixV; rw [BitVec.ofInt_toInt, StreamMath.mix_unmix, toInt_ofInt_ok h]

/-! ### the seed of a stream that begins with some numbers -/
def seedOf (l : List Int) : Int := (StreamMath.unmix (BitVec.ofInt 64 (at_ l 0)) - StreamMath.golden).toInt
def Begins (l : List Int) (s : Int) : Prop := ∀ j, j < l.length → num s j = at_ l j
open Classical in
noncomputable def seedV (l : List Int) : Int := if l.length = 0 then 0 else if Begins l (seedOf l) then seedOf l else 0
open Classical in
noncomputable def seedE (l : List Int) : Int := if l.length = 0 then 2 else if Begins l (seedOf l) then 0 else 250
theorem seed_nil {l : List Int} (h : l.length = 0) : seedV l = 0 ∧ seedE l = 2 := ⟨if_pos h, if_pos h⟩
theorem seed_yes {l : List Int} (h : 0 < l.length) (hb : Begins l (seedOf l)) : seedV l = seedOf l ∧ seedE l = 0 := ⟨by rw [seedV, if_neg (by omega), if_pos hb], by rw [seedE, if_neg (by omega), if_pos hb]⟩
theorem seed_no {l : List Int} (h : 0 < l.length) (hb : ¬ Begins l (seedOf l)) : seedV l = 0 ∧ seedE l = 250 := ⟨by rw [seedV, if_neg (by omega), if_neg hb], by rw [seedE, if_neg (by omega), if_neg hb]⟩
theorem Seed_calls (v : Value) (l : List Int) (w : World) (hl : IntsIn w v l) :
    Calls Try.prog 24 #[v] w fun e w' => e = .returned (.tuple #[.int .i64 (seedV l), .int .i64 (seedE l)]) ∧ ∃ n, w' = w.drewN n := by
  have hlen := hl.len
  obtain ⟨n, hn⟩ : ∃ n, n = l.length := ⟨_, rfl⟩
  obtain ⟨ao, cap, b, off, rfl, hc, hm, hao, hcell⟩ := hl.at n hn.symm
  have HN := Lib.hid hn
  rw [← hn] at hlen
  clear hn
  by_cases h0 : n = 0
  · subst h0
    have HS := Lib.hid (seed_nil HN.out.symm)
    clear hcell hao hl
    go_enter Try.func24, Try.ntmps24
    go_wp2
    go_ret2
    exact ⟨ret_int2 HS.out.1.symm HS.out.2.symm, 0, rfl⟩
  · have hpos : 0 < n := by omega
    have hne : ((n : Int) == 0) = false := by simp; omega
    obtain rfl := hao hpos
    have c0 := hcell 0 hpos
    rw [Nat.add_zero] at c0
    have HC := Lib.hid hcell
    have h1 := u64_of (at_ l 0)
    have h2 : IntKind.u64.wrap (U (StreamMath.unmix (BitVec.ofInt 64 (at_ l 0))) - 11400714819323198485) = U (StreamMath.unmix (BitVec.ofInt 64 (at_ l 0)) - StreamMath.golden) := by
      rw [u64_of, ofInt_sub', ofInt_U]; rfl
    have H2 := Lib.hid h2
    have H3 := Lib.hid (i64_of (StreamMath.unmix (BitVec.ofInt 64 (at_ l 0)) - StreamMath.golden))
    clear hcell hao hl h0 h2
    go_enter Try.func24, Try.ntmps24
    go_wp2_with fail
    refine (unmix_calls _ _).mono ?_
    rintro e w' ⟨rfl, rfl⟩
    have h2 := H2.out
    have h3 : IntKind.i64.wrap (U (StreamMath.unmix (BitVec.ofInt 64 (at_ l 0)) - StreamMath.golden)) = seedOf l := H3.out
    go_wp2
    clear h1 h2 h3 c0
    go_loopw [19] (fun i wr => ∃ k m : Nat, k ≤ n ∧ i = .int .i64 k ∧ (∀ j, j < k → num (seedOf l) j = at_ l j) ∧ wr = w.drewN m) (fun i _ => n - (intOf i).toNat)
    case atStart => exact ⟨0, 0, Nat.zero_le _, rfl, fun j hj => absurd hj (Nat.not_lt_zero _), rfl⟩
    case round =>
      obtain ⟨k, m, hk, rfl, hs, rfl⟩ := hrel
      have HS := Lib.hid hs
      clear hs
      by_cases hlt : k < n
      · have c1 := HC.out k hlt
        by_cases he : num (seedOf l) k = at_ l k
        · have hf : (num (seedOf l) k != at_ l k) = false := by simp [he]
          have He := Lib.hid he
          clear he
          go_wp2_with fail
          refine (ith_calls _ _ _).mono ?_
          rintro e w' ⟨rfl, rfl⟩
          go_wp2
          go_roundw
          case rel =>
            refine ⟨k + 1, _, by omega, by go_num, fun j hj => ?_, rfl⟩
            rcases Nat.lt_succ_iff_lt_or_eq.1 hj with h | h
            · exact HS.out j h
            · rw [h]; exact He.out
          case measure => simp [intOf]; omega
        · have hf : (num (seedOf l) k != at_ l k) = true := by simp [he]
          have HB := Lib.hid (seed_no (l := l) (by rw [← HN.out]; exact hpos) (fun hb => he (hb k (by rw [← HN.out]; exact hlt))))
          clear he
          go_wp2_with fail
          refine (ith_calls _ _ _).mono ?_
          rintro e w' ⟨rfl, rfl⟩
          go_wp2
          go_ret2
          exact ⟨ret_int2 HB.out.1.symm HB.out.2.symm, _, rfl⟩
      · have HB := Lib.hid (seed_yes (l := l) (by rw [← HN.out]; exact hpos) (fun j hj => HS.out j (by rw [← HN.out] at hj; omega)))
        go_wp2
        go_ret2
        exact ⟨ret_int2 HB.out.1.symm HB.out.2.symm, _, rfl⟩
theorem refSeed_calls (v : Value) (l : List Int) (w : World) (hl : IntsIn w v l) :
    Calls Try.prog 25 #[v] w fun e w' => e = .returned (.tuple #[.int .i64 (seedV l), .int .i64 (seedE l)]) ∧ ∃ n, w' = w.drewN n := by
  have hlen := hl.len
  obtain ⟨n, hn⟩ : ∃ n, n = l.length := ⟨_, rfl⟩
  obtain ⟨ao, cap, b, off, rfl, hc, hm, hao, hcell⟩ := hl.at n hn.symm
  have HN := Lib.hid hn
  rw [← hn] at hlen
  clear hn
  by_cases h0 : n = 0
  · subst h0
    have HS := Lib.hid (seed_nil HN.out.symm)
    clear hcell hao hl
    go_enter Try.func25, Try.ntmps25
    go_wp2
    go_ret2
    exact ⟨ret_int2 HS.out.1.symm HS.out.2.symm, 0, rfl⟩
  · have hpos : 0 < n := by omega
    have hne : ((n : Int) == 0) = false := by simp; omega
    obtain rfl := hao hpos
    have c0 := hcell 0 hpos
    rw [Nat.add_zero] at c0
    have HC := Lib.hid hcell
    have h1 := u64_of (at_ l 0)
    have h2 : IntKind.u64.wrap (U (StreamMath.unmix (BitVec.ofInt 64 (at_ l 0))) - 11400714819323198485) = U (StreamMath.unmix (BitVec.ofInt 64 (at_ l 0)) - StreamMath.golden) := by
      rw [u64_of, ofInt_sub', ofInt_U]; rfl
    have H2 := Lib.hid h2
    have H3 := Lib.hid (i64_of (StreamMath.unmix (BitVec.ofInt 64 (at_ l 0)) - StreamMath.golden))
    clear hcell hao hl h0 h2
    go_enter Try.func25, Try.ntmps25
    go_wp2_with fail
    refine (refUnmix_calls _ _).mono ?_
    rintro e w' ⟨rfl, rfl⟩
    have h2 := H2.out
    have h3 : IntKind.i64.wrap (U (StreamMath.unmix (BitVec.ofInt 64 (at_ l 0)) - StreamMath.golden)) = seedOf l := H3.out
    go_wp2
    clear h1 h2 h3 c0
    go_loopw [5] (fun i wr => ∃ k m : Nat, k ≤ n ∧ i = .int .i64 k ∧ (∀ j, j < k → num (seedOf l) j = at_ l j) ∧ wr = w.drewN m) (fun i _ => n - (intOf i).toNat)
    case atStart => exact ⟨0, 0, Nat.zero_le _, rfl, fun j hj => absurd hj (Nat.not_lt_zero _), rfl⟩
    case round =>
      obtain ⟨k, m, hk, rfl, hs, rfl⟩ := hrel
      have HS := Lib.hid hs
      clear hs
      by_cases hlt : k < n
      · have c1 := HC.out k hlt
        by_cases he : num (seedOf l) k = at_ l k
        · have hf : (num (seedOf l) k != at_ l k) = false := by simp [he]
          have He := Lib.hid he
          clear he
          have hi := Lib.hid (i64_of (numB (seedOf l) k))
          have hi : IntKind.i64.wrap (U (numB (seedOf l) k)) = num (seedOf l) k := hi.out
          go_wp2
          go_quiet ((go_at_call 34; exact quietL (number_calls _ _ _)))
          go_wp2
          go_roundw
          case rel =>
            refine ⟨k + 1, _, by omega, by go_num, fun j hj => ?_, rfl⟩
            rcases Nat.lt_succ_iff_lt_or_eq.1 hj with h | h
            · exact HS.out j h
            · rw [h]; exact He.out
          case measure => simp [intOf]; omega
        · have hf : (num (seedOf l) k != at_ l k) = true := by simp [he]
          have HB := Lib.hid (seed_no (l := l) (by rw [← HN.out]; exact hpos) (fun hb => he (hb k (by rw [← HN.out]; exact hlt))))
          clear he
          have hi := Lib.hid (i64_of (numB (seedOf l) k))
          have hi : IntKind.i64.wrap (U (numB (seedOf l) k)) = num (seedOf l) k := hi.out
          go_wp2
          go_quiet ((go_at_call 34; exact quietL (number_calls _ _ _)))
          go_wp2
          go_ret2
          exact ⟨ret_int2 HB.out.1.symm HB.out.2.symm, _, World.drewN_drewN _ _ _⟩
      · have HB := Lib.hid (seed_yes (l := l) (by rw [← HN.out]; exact hpos) (fun j hj => HS.out j (by rw [← HN.out] at hj; omega)))
        go_wp2
        go_ret2
        exact ⟨ret_int2 HB.out.1.symm HB.out.2.symm, _, rfl⟩
end Go.Proofs.Ytpcggfaohgemjaa
