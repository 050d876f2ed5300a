/- The law StreamSplit returns true for every input: a row in two parts, and woven of rows at a distance, is the row at once. -/
import Derived.Test.YtpcggfaohgemjaaStreamB
import Derived.Test.YtpcggfaohgemjaaWeave
import Derived.Deep.RegionHeld3
namespace Go.Proofs.Ytpcggfaohgemjaa.streamSplit
open Go.RowKit
set_option linter.unusedVariables false
theorem leapL_ok (a b c d : Int) : ∀ x ∈ leapL a b c d, okI x := by
  unfold leapL; split
  · exact leapTo_ok _ _ _ _
  · intro x hx; simp at hx
theorem range_split (f : Int → Int) (b : Int) (n m : Nat) : (List.range (n + m)).map (fun j : Nat => f (b + (j : Int) * 1)) = (List.range n).map (fun j : Nat => f (b + (j : Int) * 1)) ++ (List.range m).map (fun j : Nat => f (b + (n : Int) + (j : Int) * 1)) := by
  rw [List.range_add, List.map_append, List.map_map]
  congr 1
  refine List.map_congr_left fun j _ => ?_
  show f (b + ((n + j : Nat) : Int) * 1) = _
  congr 1
  omega
theorem leapTo_add (a b : Int) (n m : Nat) : leapTo a b 1 (n + m) = leapTo a b 1 n ++ leapTo a (b + n) 1 m := range_split (num a) b n m
theorem at_leap (a b c : Int) (n j : Nat) (h : j < n) : at_ (leapTo a b c n) j = num a (b + (j : Int) * c) := by
  rw [at_eq _ _ (by rw [leapTo_len]; exact h)]; simp [leapTo]
theorem split_cut (a b : Int) (n : Nat) (cut : Int) (h1 : 0 ≤ b) (h2 : b ≤ 1099511627776) (h5 : (n : Int) ≤ 1000) (h6 : 0 ≤ cut) (h7 : cut ≤ n) (h8 : b + n ≤ 1099511627776) :
    leapL a b 1 n = leapL a b 1 cut ++ leapL a (b + cut) 1 ((n : Int) - cut) := by
  obtain ⟨k, rfl⟩ := Int.eq_ofNat_of_zero_le h6
  rw [leapL, leapL, leapL, if_pos ⟨h1, h2, by decide, by decide, by omega, by omega⟩, if_pos ⟨h1, h2, by decide, by decide, by omega, by omega⟩, if_pos ⟨by omega, by omega, by decide, by decide, by omega, by omega⟩]
  have : (n : Int).toNat = (k : Int).toNat + ((n : Int) - k).toNat := by omega
  rw [this, leapTo_add]
  rfl
set_option maxHeartbeats 4000000 in
set_option maxRecDepth 100000 in
theorem main (a b c cut : Int) (n : Nat) (w : World) (h1 : 0 ≤ b) (h2 : b ≤ 1099511627776) (h5 : (n : Int) ≤ 1000) (h6 : 0 ≤ cut) (h7 : cut ≤ n) (h8 : b + n ≤ 1099511627776) :
    Calls Try.prog 5 #[.agg #[.int .i64 a, .int .i64 b, .int .i64 c, .int .i64 n], .int .i64 cut] w fun e w' => e = .returned (.bool true) ∧ Below w.heap.size w w' := by
  have e0 : leapE b 1 n = 0 := if_pos ⟨h1, h2, by decide, by decide, by omega, by omega⟩
  have E1 : leapE b 1 cut = 0 := if_pos ⟨h1, h2, by decide, by decide, h6, by omega⟩
  have E2 : leapE (b + cut) 1 ((n : Int) - cut) = 0 := if_pos ⟨by omega, by omega, by decide, by decide, by omega, by omega⟩
  have E0' : (leapE b 1 n != 0) = false := by rw [e0]; rfl
  have E1' : (leapE b 1 cut != 0) = false := by rw [E1]; rfl
  have E2' : (leapE (b + cut) 1 ((n : Int) - cut) != 0) = false := by rw [E2]; rfl
  have E0 := Lib.hid e0
  clear e0 E1 E2
  go_enter Try.func5, Try.ntmps5
  go_wp2_with fail
  refine (Take_calls _ _ _ _).mono ?_
  rintro e w1 ⟨v1, rfl, i1, t1, _⟩
  have b0 := box_later t1 0 _ rfl
  have b1 := box_later t1 1 _ rfl
  have b2 := box_later t1 2 _ rfl
  have b3 := box_later t1 3 _ rfl
  have T1 := later_box t1
  clear t1
  go_wp2_with fail
  refine (Take_calls _ _ _ _).mono ?_
  rintro e w2 ⟨v2, rfl, i2, t2, _⟩
  replace b0 := t2.cell b0
  replace b1 := t2.cell b1
  replace b2 := t2.cell b2
  replace b3 := t2.cell b3
  go_wp2_with fail
  refine (Take_calls _ _ _ _).mono ?_
  rintro e w3 ⟨v3, rfl, i3, t3, _⟩
  replace b0 := t3.cell b0
  replace b1 := t3.cell b1
  replace b2 := t3.cell b2
  replace b3 := t3.cell b3
  have Bx := Lib.hid (And.intro b0 (And.intro b1 (And.intro b2 b3)))
  have I1 := Lib.hid ((i1.later t2).later t3)
  have I2 := Lib.hid (i2.later t3)
  have I3 := Lib.hid i3
  have T3 := Lib.hid ((T1.trans t2).trans t3)
  clear i1 i2 i3 t2 t3 T1
  have O0 := Lib.hid (ownI_lit0 w3 w3.heap.size (Nat.le_refl _))
  have hl1 : (leapL a b 1 cut).length = cut.toNat := by rw [leapL, if_pos ⟨h1, h2, by decide, by decide, h6, by omega⟩, leapTo_len]
  have hl2 : (leapL a (b + cut) 1 ((n : Int) - cut)).length = ((n : Int) - cut).toNat := by rw [leapL, if_pos ⟨by omega, by omega, by decide, by decide, by omega, by omega⟩, leapTo_len]
  have Hl1 := Lib.hid hl1
  have Hl2 := Lib.hid hl2
  clear hl1 hl2
  go_wp2_with (at_builtin; refine splice_int rfl (.tmp 81) (.tmp 82) rfl w3.heap.size _ [] rfl O0.out v2 (leapL a b 1 cut) (leapL a b 1 cut) rfl rfl ?_ ?_ ?_ ?_)
  case refine_1 => exact I2.out.later ((Later.refl _).alloc _)
  case refine_2 => have := Hl1.out; simp; omega
  case refine_3 => simp
  intro v4 w4 o4 l4
  have L4 := Lib.hid (show Later w3 w4 from l4 _ ((Below.refl _ _).alloc (Nat.le_refl _) _))
  have O4 := Lib.hid o4
  clear l4 o4 O0
  replace b0 := L4.out.cell b0
  replace b1 := L4.out.cell b1
  replace b2 := L4.out.cell b2
  replace b3 := L4.out.cell b3
  go_wp2_with (at_builtin; refine splice_int rfl (.tmp 83) (.tmp 84) rfl w3.heap.size _ (leapL a b 1 cut) rfl O4.out v3 (leapL a (b + cut) 1 ((n : Int) - cut)) (leapL a b 1 n) ?_ rfl ?_ ?_ ?_ ?_)
  case refine_4.refine_1 => exact split_cut a b n cut h1 h2 h5 h6 h7 h8
  case refine_4.refine_2 => exact I3.out.later L4.out
  case refine_4.refine_3 => have := Hl1.out; have := Hl2.out; omega
  case refine_4.refine_4 => exact L4.out.size
  intro v5 w5 o5 l5
  have L5 := Lib.hid (show Later w3 w5 from l5 _ L4.out)
  have ok : ∀ x ∈ leapL a b 1 n, okI x := leapL_ok a b 1 n
  have I5 := Lib.hid (o5.ints ok)
  have J1 := Lib.hid (I1.out.later L5.out)
  clear l5 o5 O4 b0 b1 b2 b3 ok
  obtain ⟨ob0, ob1, ob2, ob3⟩ := Bx.out
  have hWG5 : w.heap.size < w5.heap.size := L5.out.lt (World.block_lt_of_cell? w3 _ ob0)
  have b0 := L5.out.cell ob0
  have b1 := L5.out.cell ob1
  have b2 := L5.out.cell ob2
  have b3 := L5.out.cell ob3
  clear ob0 ob1 ob2 ob3
  go_wp2_with fail
  refine (SameInts_calls _ _ _ _ _ I5.out J1.out).mono ?_
  rintro e w6 ⟨rfl, n6, rfl⟩
  have dt : decide (leapL a b 1 n = leapL a b 1 n) = true := by simp
  have Hn : Hid ((leapL a b 1 n).length = n) := by rw [leapL, if_pos ⟨h1, h2, by decide, by decide, by omega, by omega⟩, leapTo_len]; exact Lib.hid (by omega)
  have E3 : (leapE b 1 n != 0) = false := by rw [E0.out]; rfl
  by_cases c1 : 1 ≤ c
  · by_cases c2 : c ≤ 50
    · obtain ⟨C, rfl⟩ := Int.eq_ofNat_of_zero_le (show 0 ≤ c by omega)
      obtain ⟨ao, cap, bb, off, rfl, hc1, hc2, hao, hcell⟩ := J1.out.at n Hn.out
      have K1 := Lib.hid hao
      have K2 := Lib.hid hcell
      clear hao hcell
      go_wp2_with (refine make_int rfl _ _ rfl n rfl rfl ?_ ?_)
      case refine_1 => omega
      intro w7 o7 l7
      have L7 : Later w5 w7 := ((Later.refl w5).drewN n6).trans l7
      have T5 := Lib.hid (T3.out.trans L5.out)
      have Bw := Lib.hid (And.intro b0 (And.intro b1 (And.intro b2 b3)))
      have H7 := Lib.hid (show ∃ wl : List Int, wl.length = n ∧ OwnI w7 w5.heap.size (.slice (some ⟨w5.heap.size, 0, none⟩) n n) wl ∧ Weave (fun p => num a (b + p)) n C 0 0 wl ∧ Later w5 w7 from ⟨_, List.length_replicate, o7, weave_zero _ _ _ _, L7⟩)
      have hG : w5.heap.size < w7.heap.size := o7.base.2
      have L0 := Lib.hid (show at_ (leapL a b 1 n) = at_ (leapTo a b 1 n) from by rw [leapL, if_pos ⟨h1, h2, by decide, by decide, by omega, by omega⟩]; rfl)
      clear b0 b1 b2 b3 K2 o7 l7 L7 L4 I1 I2 I3 I5 Hl1 Hl2 Bx T3 E0' E1' E2' E3 L5
      go_wp2
      go_loopw [11] (fun i wr => ∃ k : Nat, k ≤ n ∧ k ≤ C ∧ i = .int .i64 k ∧ ∃ wl : List Int, wl.length = n ∧ OwnI wr w5.heap.size (.slice (some ⟨w5.heap.size, 0, none⟩) n n) wl ∧ Weave (fun p => num a (b + p)) n C k 0 wl ∧ Later w5 wr) (fun i _ => n - (intOf i).toNat)
      case atStart => exact ⟨0, by omega, by omega, rfl, H7.out⟩
      case round =>
        obtain ⟨k, hk, hkC, rfl, wl, hw, hown, hwv, hL⟩ := hrel
        have HO := Lib.hid hown
        have HW := Lib.hid hw
        have HV := Lib.hid hwv
        have HL := Lib.hid hL
        clear hown hw hwv
        obtain ⟨b0, b1, b2, b3⟩ := Bw.out
        replace b0 := hL.cell b0
        replace b1 := hL.cell b1
        replace b2 := hL.cell b2
        replace b3 := hL.cell b3
        clear hL
        by_cases hk1 : k < C
        · by_cases hk2 : k < n
          · obtain ⟨M, hM⟩ : ∃ M : Nat, M = (n - k + C - 1) / C := ⟨_, rfl⟩
            have s1 : IntKind.i64.wrap (b + (k : Int)) = b + (k : Int) := IntWalk.i64_in _ (by omega)
            have s2 : IntKind.i64.wrap ((n : Int) - (k : Int)) = (n : Int) - (k : Int) := IntWalk.i64_in _ (by omega)
            have s3 : IntKind.i64.wrap ((n : Int) - (k : Int) + (C : Int)) = (n : Int) - (k : Int) + (C : Int) := IntWalk.i64_in _ (by omega)
            have s4 : IntKind.i64.wrap ((n : Int) - (k : Int) + (C : Int) - 1) = (n : Int) - (k : Int) + (C : Int) - 1 := IntWalk.i64_in _ (by omega)
            have e0 : (n : Int) - (k : Int) + (C : Int) - 1 = ((n - k + C - 1 : Nat) : Int) := by omega
            have s5 : IntKind.i64.wrap (((n : Int) - (k : Int) + (C : Int) - 1).tdiv (C : Int)) = (M : Int) := by
              have hb : M ≤ n - k + C - 1 := by rw [hM]; exact Nat.div_le_self _ _
              rw [e0, ← Int.ofNat_tdiv, ← hM]; exact IntWalk.i64_in _ (by omega)
            have hM1 : (M : Int) ≤ 1050 := by
              have hb : M ≤ n - k + C - 1 := by rw [hM]; exact Nat.div_le_self _ _
              omega
            have HM := Lib.hid hM
            have q1 : ¬ ((C : Int) = 0) := by omega
            have q2 : ((C : Int) == 0) = false := by simp; omega
            have q3 : ¬ (C = 0) := by omega
            have q4 : (leapE (b + (k : Int)) C M != 0) = false := by rw [leapE, if_pos ⟨by omega, by omega, by omega, by omega, by omega, by omega⟩]; rfl
            have Q5 : Hid (leapL a (b + (k : Int)) C M = leapTo a (b + (k : Int)) C M) := by show leapL a (b + (k : Int)) C M = _; rw [leapL, if_pos ⟨by omega, by omega, by omega, by omega, by omega, by omega⟩]; rfl
            clear hM e0
            go_wp2
            go_region_held3 (fun w' => w'.cell? ⟨w.heap.size, 0, none⟩ = some (.int .i64 a) ∧ w'.cell? ⟨w.heap.size, 1, none⟩ = some (.int .i64 b) ∧ w'.cell? ⟨w.heap.size, 2, none⟩ = some (.int .i64 C)) (first | go_keep | exact ⟨b0', b1', b2'⟩)
              (first | (go_at_call 18; refine (Leap_calls _ _ _ _ _).mono ?_; rintro e w8 ⟨v8, rfl, i8, t8, f8⟩; have b0' := t8.cell b0; have b1' := t8.cell b1; have b2' := t8.cell b2))
            obtain ⟨ao8, cap8, bb8, off8, rfl, _, _, hao8, hcell8⟩ := i8.at M (by rw [Q5.out, leapTo_len])
            have A8 := Lib.hid hao8
            have C8 := Lib.hid hcell8
            have F8 := Lib.hid f8
            have T8 := Lib.hid (((Later.refl wr).drewN 1).trans t8)
            have Bx := Lib.hid (And.intro b0' (And.intro b1' (And.intro b2' (t8.cell b3))))
            have hG8 : w5.heap.size < wr.heap.size := HO.out.base.2
            have hWG := hWG5
            clear hao8 hcell8 f8 t8 b0' b1' b2' b0 b1 b2 b3 s1 s2 s3 s4 s5 q1 q2 q3 i8
            go_wp2
            go_loopw [14] (fun i wi => ∃ j : Nat, j ≤ M ∧ i = .int .i64 j ∧ ∃ wl2 : List Int, wl2.length = n ∧ OwnI wi w5.heap.size (.slice (some ⟨w5.heap.size, 0, none⟩) n n) wl2 ∧ Weave (fun p => num a (b + p)) n C k j wl2 ∧ w8.grownBy wi (some w5.heap.size)) (fun i _ => M - (intOf i).toNat)
            case atStart => exact ⟨0, Nat.zero_le _, rfl, wl, HW.out, HO.out.kept T8.out, HV.out, grown_refl _ _⟩
            case round =>
              obtain ⟨j, hj, rfl, wl2, hw2, hown2, hwv2, hg⟩ := hrel
              have HW2 := Lib.hid hw2
              have HO2 := Lib.hid hown2
              have HV2 := Lib.hid hwv2
              have HG2 := Lib.hid hg
              clear hw2 hown2 hwv2 hg
              by_cases hjM : j < M
              · have hidx : k + j * C < n := weave_idx (by omega) hk2 (by rw [← HM.out]; exact hjM)
                obtain rfl := A8.out (by omega)
                have f8 := F8.out _ _ _ rfl
                have hne : w5.heap.size ≠ bb8 := by simp at f8; omega
                have c8 := HG2.out.cell (C8.out j hjM) (by simp; omega)
                have cv : at_ (leapL a (b + (k : Int)) C M) j = num a (b + ((k + j * C : Nat) : Int)) := by
                  rw [Q5.out, at_leap _ _ _ _ _ hjM]; exact congrArg (num a) (by rw [Int.natCast_add, Int.natCast_mul, Int.add_assoc])
                have CV := Lib.hid cv
                have cG := HO2.out.cell HW2.out (k + j * C) hidx
                have fG := HO2.out.free HW2.out (k + j * C)
                obtain ⟨x0, x1, x2, x3⟩ := Bx.out
                have x2' := HG2.out.cell x2 (by simp; omega)
                have p0 : 0 ≤ (j : Int) * (C : Int) := Int.mul_nonneg (by omega) (by omega)
                have p1 : (k : Int) + (j : Int) * (C : Int) < n := by have : ((k + j * C : Nat) : Int) < n := by omega
                                                                      rw [Int.natCast_add, Int.natCast_mul] at this; exact this
                have p2 : (k : Int) + (j : Int) * (C : Int) = ((k + j * C : Nat) : Int) := by rw [Int.natCast_add, Int.natCast_mul]
                have P2 := Lib.hid p2
                clear x0 x1 x2 x3 cv f8 p2
                go_wp2
                go_region
                go_wp2
                go_roundw
                case rel => exact ⟨j + 1, by omega, by go_num, wl2.set (k + j * C) _, by rw [List.length_set]; exact HW2.out, (HO2.out.store HW2.out _ _).drewN 1, weave_step hidx HW2.out HV2.out _ CV.out, grown_drew (grown_set HG2.out _ _)⟩
                case measure => simp [intOf]; omega
              · have hjM' : j = M := by omega
                subst hjM'
                have hnext := weave_next (by omega) hk2 (show Weave (fun p => num a (b + p)) n C k ((n - k + C - 1) / C) wl2 by rw [← HM.out]; exact HV2.out)
                have HN := Lib.hid hnext
                clear hnext
                go_wp2
                go_roundw
                case rel => exact ⟨k + 1, by omega, by omega, by go_num, wl2, HW2.out, HO2.out, HN.out, (HL.out.trans T8.out).grown HG2.out (Nat.le_refl _)⟩
                case measure => simp [intOf]; omega
          · have hall := weave_all (by omega) (.inr (by omega)) HW.out Hn.out (fun p hp => by rw [L0.out, at_leap _ _ _ _ _ hp, Int.mul_one]) HV.out
            have HI := Lib.hid (show IntsIn wr (.slice (some ⟨w5.heap.size, 0, none⟩) n n) (leapL a b 1 n) from hall ▸ HO.out.ints (hall ▸ leapL_ok a b 1 n))
            clear hall
            go_wp2_with fail
            refine (SameInts_calls _ _ _ _ _ HI.out (J1.out.later HL.out)).mono ?_
            rintro e w9 ⟨rfl, n9, rfl⟩
            have dt2 : decide (leapL a b 1 n = leapL a b 1 n) = true := by simp
            go_wp2_with (go_at_call 13; refine (First_calls _).mono ?_; rintro e w7 ⟨rfl, rfl⟩)
            go_ret
            exact ⟨rfl, (T5.out.trans HL.out).drewN _⟩
        · have hall := weave_all (by omega) (.inl (by omega)) HW.out Hn.out (fun p hp => by rw [L0.out, at_leap _ _ _ _ _ hp, Int.mul_one]) HV.out
          have HI := Lib.hid (show IntsIn wr (.slice (some ⟨w5.heap.size, 0, none⟩) n n) (leapL a b 1 n) from hall ▸ HO.out.ints (hall ▸ leapL_ok a b 1 n))
          clear hall
          go_wp2_with fail
          refine (SameInts_calls _ _ _ _ _ HI.out (J1.out.later HL.out)).mono ?_
          rintro e w9 ⟨rfl, n9, rfl⟩
          have dt2 : decide (leapL a b 1 n = leapL a b 1 n) = true := by simp
          go_wp2_with (go_at_call 13; refine (First_calls _).mono ?_; rintro e w7 ⟨rfl, rfl⟩)
          go_ret
          exact ⟨rfl, (T5.out.trans HL.out).drewN _⟩
    · go_wp2_with (go_at_call 13; refine (First_calls _).mono ?_; rintro e w7 ⟨rfl, rfl⟩)
      go_ret
      exact ⟨rfl, (T3.out.trans L5.out).drewN _⟩
  · go_wp2_with (go_at_call 13; refine (First_calls _).mono ?_; rintro e w7 ⟨rfl, rfl⟩)
    go_ret
    exact ⟨rfl, (T3.out.trans L5.out).drewN _⟩
set_option maxHeartbeats 1000000 in
set_option maxRecDepth 100000 in
theorem walk (a b c d cut : Int) (w : World) :
    Calls Try.prog 5 #[.agg #[.int .i64 a, .int .i64 b, .int .i64 c, .int .i64 d], .int .i64 cut] w fun e w' => e = .returned (.bool true) ∧ Below w.heap.size w w' := by
  by_cases h1 : leapOk b 1 d
  · have hE' : (leapE b 1 d != 0) = false := by rw [show leapE b 1 d = 0 from if_pos h1]; rfl
    obtain ⟨h1, h2, _, _, h3, h4⟩ := h1
    by_cases h5 : d ≤ 1000
    · by_cases h6 : 0 ≤ cut
      · by_cases h7 : cut ≤ d
        · by_cases h8 : b + d ≤ 1099511627776
          · obtain ⟨n, rfl⟩ := Int.eq_ofNat_of_zero_le h3
            exact main a b c cut n w h1 h2 h5 h6 h7 h8
          · clear h4
            go_enter Try.func5, Try.ntmps5
            go_wp2_with fail
            refine (Take_calls _ _ _ _).mono ?_
            rintro e w1 ⟨v1, rfl, i1, t1, _⟩
            have b1 := box_later t1 1 _ rfl
            have b3 := box_later t1 3 _ rfl
            have T1 := later_box t1
            clear t1
            go_wp2_with (go_at_call 13; refine (First_calls _).mono ?_; rintro e w7 ⟨rfl, rfl⟩)
            go_ret
            exact ⟨rfl, T1⟩
        · clear h4
          go_enter Try.func5, Try.ntmps5
          go_wp2_with fail
          refine (Take_calls _ _ _ _).mono ?_
          rintro e w1 ⟨v1, rfl, i1, t1, _⟩
          have b1 := box_later t1 1 _ rfl
          have b3 := box_later t1 3 _ rfl
          have T1 := later_box t1
          clear t1
          go_wp2_with (go_at_call 13; refine (First_calls _).mono ?_; rintro e w7 ⟨rfl, rfl⟩)
          go_ret
          exact ⟨rfl, T1⟩
      · clear h4
        go_enter Try.func5, Try.ntmps5
        go_wp2_with fail
        refine (Take_calls _ _ _ _).mono ?_
        rintro e w1 ⟨v1, rfl, i1, t1, _⟩
        have b1 := box_later t1 1 _ rfl
        have b3 := box_later t1 3 _ rfl
        have T1 := later_box t1
        clear t1
        go_wp2_with (go_at_call 13; refine (First_calls _).mono ?_; rintro e w7 ⟨rfl, rfl⟩)
        go_ret
        exact ⟨rfl, T1⟩
    · clear h4
      go_enter Try.func5, Try.ntmps5
      go_wp2_with fail
      refine (Take_calls _ _ _ _).mono ?_
      rintro e w1 ⟨v1, rfl, i1, t1, _⟩
      have b1 := box_later t1 1 _ rfl
      have b3 := box_later t1 3 _ rfl
      have T1 := later_box t1
      clear t1
      go_wp2_with (go_at_call 13; refine (First_calls _).mono ?_; rintro e w7 ⟨rfl, rfl⟩)
      go_ret
      exact ⟨rfl, T1⟩
  · have hE' : (leapE b 1 d != 0) = true := by rw [show leapE b 1 d = 2 from if_neg h1]; rfl
    clear h1
    go_enter Try.func5, Try.ntmps5
    go_wp2_with fail
    refine (Take_calls _ _ _ _).mono ?_
    rintro e w1 ⟨v1, rfl, i1, t1, _⟩
    have b1 := box_later t1 1 _ rfl
    have b3 := box_later t1 3 _ rfl
    have T1 := later_box t1
    clear t1
    go_wp2_with (go_at_call 13; refine (First_calls _).mono ?_; rintro e w7 ⟨rfl, rfl⟩)
    go_ret
    exact ⟨rfl, T1⟩
end Go.Proofs.Ytpcggfaohgemjaa.streamSplit
