/- The law StreamOnce returns true for every input: an order of numbers has each once, the first ones are its beginning, and a number below a bound is. -/
import Derived.Test.YtpcggfaohgemjaaStreamC
import Derived.Test.YtpcggfaohgemjaaBools
namespace Go.Proofs.Ytpcggfaohgemjaa.streamOnce
open Go.RowKit
set_option linter.unusedVariables false
/-- what stands in 'seen' behind i rounds -/
def Seen (l : List Int) (n i : Nat) (bl : List Bool) : Prop := bl.length = n ∧ ∀ x, x < n → bat bl x = true → ∃ j, j < i ∧ at_ l j = (x : Int)
theorem seen_zero (l : List Int) (n : Nat) : Seen l n 0 (List.replicate n false) := by
  refine ⟨by simp, fun x hx h => ?_⟩
  rw [bat_eq _ _ (by simpa using hx)] at h
  simp at h
theorem seen_new {l : List Int} {n i x : Nat} {bl : List Bool} (h : Seen l n i bl) (ho : Once n l) (hi : i < n) (hx : at_ l i = (x : Int)) : bat bl x = false := by
  have hb := ho.2.1 i hi
  cases hbx : bat bl x with
  | false => rfl
  | true =>
    obtain ⟨j, hj, e⟩ := h.2 x (by omega) hbx
    have := ho.2.2 j i (by omega) hi (by rw [e, hx])
    omega
theorem seen_step {l : List Int} {n i x : Nat} {bl : List Bool} (h : Seen l n i bl) (hx : at_ l i = (x : Int)) (hxn : x < n) : Seen l n (i + 1) (bl.set x true) := by
  refine ⟨by rw [List.length_set]; exact h.1, fun y hy hb => ?_⟩
  rw [bat_set _ _ _ _ (by rw [h.1]; exact hxn)] at hb
  by_cases e : y = x
  · exact ⟨i, by omega, by rw [hx, e]⟩
  · rw [if_neg e] at hb
    obtain ⟨j, hj, e⟩ := h.2 y hy hb
    exact ⟨j, by omega, e⟩
set_option maxHeartbeats 1000000 in
set_option maxRecDepth 100000 in
theorem main (a k : Int) (n : Nat) (w : World) (hn : (n : Int) ≤ 1000) (hB : (BelowE 0 n == 0) = false ∨ ((BelowE 0 n == 0) = true ∧ 0 ≤ BelowV a 0 n ∧ BelowV a 0 n < n)) :
    Calls Try.prog 10 #[.int .i64 a, .int .i64 n, .int .i64 k] w fun e w' => e = .returned (.bool true) ∧ Below w.heap.size w w' := by
  have hok : permOk n := ⟨by omega, by omega⟩
  have hE : (permE n != 0) = false := by rw [permE, if_pos hok]; rfl
  have HL := Lib.hid (show (permL a n).length = n from permL_len hok)
  have HO := Lib.hid (show Once n (permL a n) from by rw [permL, if_pos hok]; exact permT_once _ _ _ (Nat.le_refl _))
  have HK := Lib.hid (show chooseE n k = if 0 ≤ k ∧ k ≤ (n : Int) then 0 else 2 from by
    unfold chooseE; by_cases h : 0 ≤ k ∧ k ≤ (n : Int)
    · rw [if_pos h, if_pos (show chooseOk n k from ⟨hok, h⟩)]
    · rw [if_neg h, if_neg fun hc : chooseOk n k => h hc.2])
  have HC := Lib.hid (show 0 ≤ k ∧ k ≤ (n : Int) → chooseL a n k = (permL a n).take k.toNat from fun h => if_pos ⟨hok, h⟩)
  clear hok
  rcases hB with hB | ⟨hB, hB1, hB2⟩
  all_goals
    go_enter Try.func10, Try.ntmps10
    go_wp2_with fail
    refine (Below_calls _ _ _ _).mono ?_
    rintro e w1 ⟨rfl, rfl⟩
    go_wp2_with fail
    refine (Perm_calls _ _ _).mono ?_
    rintro e w1 ⟨v1, rfl, i1, t1, _⟩
    obtain ⟨ao, cap, b, off, rfl, hc, hm, hao, hcell⟩ := i1.at n HL.out
    have HI := Lib.hid i1
    have T1 := Lib.hid t1
    have A := Lib.hid hao
    have C := Lib.hid hcell
    clear i1 t1 hao hcell hB
    go_wp2_with (refine make_bool rfl _ _ rfl n rfl rfl ?_ ?_; omega)
    intro w2 o2 l2
    have O2 := Lib.hid o2
    have L2 := Lib.hid l2
    clear o2 l2
    go_wp2
    go_loopw [12] (fun i wr => ∃ j : Nat, j ≤ n ∧ i = .int .i64 j ∧ ∃ bl : List Bool, Seen (permL a n) n j bl ∧ OwnB wr w1.heap.size (.slice (some ⟨w1.heap.size, 0, none⟩) n n) bl ∧ Later w1 wr) (fun i _ => n - (intOf i).toNat)
    case atStart => exact ⟨0, Nat.zero_le _, rfl, _, seen_zero _ _, O2.out, L2.out⟩
    case round =>
      obtain ⟨j, hj, rfl, bl, hs, hown, hl⟩ := hrel
      have HS := Lib.hid hs
      have HW := Lib.hid hown
      have HR := Lib.hid hl
      by_cases hlt : j < n
      · obtain ⟨x, hx⟩ := Int.eq_ofNat_of_zero_le (HO.out.2.1 j hlt).1
        have hxn : x < n := by have := (HO.out.2.1 j hlt).2; omega
        obtain rfl := A.out (by omega)
        have c1 := hl.cell (C.out j hlt)
        rw [hx] at c1
        have c2 := hown.cell hs.1 x hxn
        rw [seen_new hs HO.out hlt hx] at c2
        have f2 := hown.free hs.1 x
        have HX := Lib.hid hx
        clear hx hs hown hl
        go_wp2
        go_roundw
        case rel => exact ⟨j + 1, by omega, by go_num, bl.set x true, seen_step HS.out HX.out hxn, HW.out.store HS.out.1 x true, HR.out.grown (grown_set (grown_refl _ _) _ _) (Nat.le_refl _)⟩
        case measure => simp [intOf]; omega
      · clear hs hown hl
        go_wp2_with fail
        refine (Choose_calls _ _ _ _).mono ?_
        rintro e w3 ⟨v3, rfl, i3, t3, _⟩
        have T3 := Lib.hid ((T1.out.trans HR.out).trans t3)
        have I1 := Lib.hid (HI.out.later (HR.out.trans t3))
        clear t3
        by_cases hk : 0 ≤ k ∧ k ≤ (n : Int)
        · have hE3 : (chooseE n k != 0) = false := by rw [HK.out, if_pos hk]; rfl
          have HC' := Lib.hid (HC.out hk)
          obtain ⟨hk1, hk2⟩ := hk
          obtain ⟨m, rfl⟩ := Int.eq_ofNat_of_zero_le hk1
          obtain ⟨ao3, cap3, b3, off3, rfl, _, _, _, _⟩ := i3.at m (by rw [HC'.out, List.length_take, HL.out]; omega)
          have hcn := I1.out.capLe.1
          have I2 := Lib.hid (I1.out.take (c := cap) m (by omega) (by omega) (Nat.le_refl _))
          have I3 := Lib.hid i3
          clear i3
          have hmc : (m : Int) ≤ cap := by omega
          have hmm : (((m : Nat) : Int) == ((m : Nat) : Int)) = true := by simp
          go_wp2_with fail
          refine (SameInts_calls _ _ _ _ _ I3.out I2.out).mono ?_
          rintro e w4 ⟨rfl, n4, rfl⟩
          have hd : decide (chooseL a n m = List.take m (permL a n)) = true := by have := HC'.out; simp at this; simp [this]
          go_wp2_with (go_at_call 13; refine (First_calls _).mono ?_; rintro e w7 ⟨rfl, rfl⟩)
          go_ret
          exact ⟨rfl, T3.out.drewN _⟩
        · have hE3 : (chooseE n k != 0) = true := by rw [HK.out, if_neg hk]; rfl
          clear hk
          go_wp2_with (go_at_call 13; refine (First_calls _).mono ?_; rintro e w7 ⟨rfl, rfl⟩)
          go_ret
          exact ⟨rfl, T3.out⟩
set_option maxRecDepth 100000 in
theorem other (a n k : Int) (w : World) (hn : n < 0 ∨ 1000 < n) (hB : (BelowE 0 n == 0) = false ∨ ((BelowE 0 n == 0) = true ∧ 0 ≤ BelowV a 0 n ∧ BelowV a 0 n < n)) :
    Calls Try.prog 10 #[.int .i64 a, .int .i64 n, .int .i64 k] w fun e w' => e = .returned (.bool true) ∧ Below w.heap.size w w' := by
  have hP : (permE n != 0) = true ∨ ((permE n != 0) = false ∧ 1000 < n) := by
    by_cases h : permOk n
    · right; exact ⟨by rw [permE, if_pos h]; rfl, by unfold permOk at h; omega⟩
    · left; rw [permE, if_neg h]; rfl
  clear hn
  rcases hB with hB | ⟨hB, hB1, hB2⟩ <;> rcases hP with hP | ⟨hP, hP1⟩
  all_goals
    go_enter Try.func10, Try.ntmps10
    go_wp2_with fail
    refine (Below_calls _ _ _ _).mono ?_
    rintro e w1 ⟨rfl, rfl⟩
    go_wp2_with fail
    refine (Perm_calls _ _ _).mono ?_
    rintro e w1 ⟨v1, rfl, i1, t1, _⟩
    go_wp2_with (go_at_call 13; refine (First_calls _).mono ?_; rintro e w7 ⟨rfl, rfl⟩)
    go_ret
    exact ⟨rfl, t1⟩
theorem walk (a n k : Int) (w : World) :
    Calls Try.prog 10 #[.int .i64 a, .int .i64 n, .int .i64 k] w fun e w' => e = .returned (.bool true) ∧ Below w.heap.size w w' := by
  have hB : (BelowE 0 n == 0) = false ∨ ((BelowE 0 n == 0) = true ∧ 0 ≤ BelowV a 0 n ∧ BelowV a 0 n < n) := by
    by_cases h : belowOk 0 n
    · right
      have h3 := belowV_bd (seed := a) (n := 0) (m := n) h.2.2.1
      rw [BelowE, BelowV, if_pos h, if_pos h]; exact ⟨rfl, h3⟩
    · left; rw [BelowE, if_neg h]; rfl
  by_cases h : 0 ≤ n ∧ n ≤ 1000
  · obtain ⟨h1, h2⟩ := h
    obtain ⟨m, rfl⟩ := Int.eq_ofNat_of_zero_le h1
    exact main a k m w h2 hB
  · exact other a n k w (by omega) hB
end Go.Proofs.Ytpcggfaohgemjaa.streamOnce
