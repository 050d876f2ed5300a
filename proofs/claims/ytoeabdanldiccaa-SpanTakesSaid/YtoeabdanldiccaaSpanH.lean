/- Walks of Members, and of the reference's. -/
import Derived.Test.YtoeabdanldiccaaSpanG
namespace Go.Proofs.Ytoeabdanldiccaa
open Go.RowKit
set_option linter.unusedVariables false
/-- the first k members of a range -/
def memL (r : Rg) (k : Nat) : List Int := (List.range k).map fun j : Nat => atOf (rowOf r) (j : Int)
theorem memL_len (r : Rg) (k : Nat) : (memL r k).length = k := by simp [memL]
theorem memL_succ (r : Rg) (k : Nat) : memL r (k + 1) = memL r k ++ [atOf (rowOf r) (k : Int)] := by simp [memL, List.range_succ]
theorem at_mem' (r : Rg) (k j : Nat) (h : j < k) : at_ (memL r k) j = atOf (rowOf r) (j : Int) := by rw [at_eq _ _ (by rw [memL_len]; exact h)]; simp [memL]
def membersRes (r : Rg) : List Int × Int := if vB r = true then (if (rowOf r).n ≤ 4096 then (memL r (rowOf r).n.toNat, 0) else ([], 2)) else ([], 30)
theorem memL_ok {r : Rg} (hr : r.ok) (k : Nat) (hk : k ≤ 4194304) : ∀ x ∈ memL r k, okI x := by
  intro x hx
  simp only [memL, List.mem_map, List.mem_range] at hx
  obtain ⟨j, hj, rfl⟩ := hx
  obtain ⟨⟨x1, x2, x3, x4, x5, x6⟩, _⟩ := rowOf_small hr
  obtain ⟨p1, p2⟩ := prod_small (a := (j : Int)) (b := (rowOf r).s) (by omega) (by omega) x3 x4
  unfold okI atOf
  omega
set_option maxHeartbeats 1000000 in
theorem sMembers_calls (r : Rg) (w : World) :
    Calls Try.prog 13 #[.agg #[.int .i64 (r).lo, .int .i64 (r).hi, .int .i64 (r).st]] w (RetIE (membersRes r).1 (membersRes r).2 w) := by
  by_cases hv : vB r = true
  · have hr := vB_ok hv
    obtain ⟨hx, hs⟩ := rowOf_small hr
    obtain ⟨x1, x2, x3, x4, x5, x6⟩ := hx
    obtain ⟨n, hn⟩ := Int.eq_ofNat_of_zero_le x5
    have hrn : (rowOf r).n = (n : Int) := hn
    by_cases h4 : n ≤ 4096
    · have e1 : membersRes r = (memL r n, 0) := by rw [membersRes, if_pos hv, hrn, if_pos (by omega)]; rfl
      have h4' : (n : Int) ≤ 4096 := by omega
      have hsucc := Lib.hid fun k (hk : k < n) => (memL_succ r k).trans (congrArg (fun y => memL r k ++ [y]) (rfl))
      rw [e1]
      clear e1
      go_enter Try.func13, Try.ntmps13
      go_wp2_with fail
      refine (sValid_calls r _).mono ?_
      rintro e w1 ⟨rfl, t1⟩
      have HF := Lib.hid fun W (hW : Later w1 W) => box3_facts (t1.trans hW)
      have LL : Later w w1 := Later.trans (by repeat (first | exact Later.refl _ | apply Later.drew | apply Later.drewN | apply Later.alloc)) t1
      have g := HF.out w1 (Later.refl _)
      have T := Later.refl w1
      have z := box_size t1
      clear t1
      go_wp2_with fail
      refine (rowOf_calls r _ hr).mono ?_
      rintro e w2 ⟨rfl, t2⟩
      have s2 : Later w1 w2 := Later.trans (by repeat (first | exact Later.refl _ | apply Later.drew | apply Later.drewN | apply Later.alloc)) t2
      replace LL := LL.trans s2
      replace T := T.trans s2
      replace g := HF.out w2 T
      replace z := Nat.lt_of_lt_of_le z (Below.size s2)
      clear t2 s2
      clear HF
      obtain ⟨X, hX⟩ : ∃ X, X = w2.alloc (.cells #[.int .i64 (rowOf r).f, .int .i64 (rowOf r).s, .int .i64 (n : Int)] 48) := ⟨_, rfl⟩
      have HX := Lib.hid fun W (hW : Later X W) => box3_facts (w := w2) (hX ▸ hW)
      have LX : Later w X := hX ▸ LL.alloc _
      clear T g z LL
      go_wp2
      rw [← hX]
      clear hX
      go_loopw [5, 6, 17] (fun v _ i wr => ∃ k : Nat, k ≤ n ∧ i = .int .i64 k ∧ OwnI wr X.heap.size v (memL r k) ∧ Later X wr) (fun v _ i _ => n - (intOf i).toNat)
      case atStart => exact ⟨0, Nat.zero_le _, rfl, ownI_nil _ _, Later.refl _⟩
      case round =>
        obtain ⟨k, hk, rfl, hown, hl⟩ := hrel
        have HO := Lib.hid hown
        have HL := Lib.hid hl
        have g := HX.out wr hl
        clear hown hl
        by_cases hlt : k < n
        · obtain ⟨p1, p2⟩ := prod_small (a := (k : Int)) (b := (rowOf r).s) (by omega) (by omega) x3 x4
          go_wp2_with fail
          refine (sAt_calls ⟨(rowOf r).f, (rowOf r).s, (n : Int)⟩ k _ (by simp only; omega) (by simp only; omega) x1 x2).mono ?_
          rintro e w3 ⟨rfl, t3⟩
          have HL3 := Lib.hid (HL.out.trans t3)
          have HO3 := Lib.hid (HO.out.kept t3)
          have hB := (show Later X w3 from HL3.out).size
          clear t3
          go_wp2_with (at_builtin; refine push_int rfl _ _ rfl X.heap.size _ (memL r k) rfl HO3.out _ (memL r (k + 1)) (hsucc.out k hlt) rfl ?_ ?_ ?_; (rw [memL_len]; omega); omega)
          intro v' w4 hown' hb'
          have HO4 := Lib.hid hown'
          have HL4 := Lib.hid (show Later X w4 from hb' X HL3.out)
          clear hown' hb'
          go_wp2
          go_roundw
          case rel => exact ⟨k + 1, by omega, by go_num, HO4.out, HL4.out⟩
          case measure => simp [intOf]; omega
        · have hkn : k = n := by omega
          subst hkn
          go_wp2
          go_ret2
          exact ⟨_, rfl, HO.out.ints (memL_ok hr _ (by omega)), LX.trans HL.out, fun x m c h => Nat.le_trans (Below.size LX) (HO.out.fresh x m c h)⟩
    · have e1 : membersRes r = ([], 2) := by rw [membersRes, if_pos hv, hrn, if_neg (by omega)]
      have h4' : 4096 < (n : Int) := by omega
      rw [e1]
      clear e1
      go_enter Try.func13, Try.ntmps13
      go_wp2_with fail
      refine (sValid_calls r _).mono ?_
      rintro e w1 ⟨rfl, t1⟩
      have HF := Lib.hid fun W (hW : Later w1 W) => box3_facts (t1.trans hW)
      have LL : Later w w1 := Later.trans (by repeat (first | exact Later.refl _ | apply Later.drew | apply Later.drewN | apply Later.alloc)) t1
      have g := HF.out w1 (Later.refl _)
      have T := Later.refl w1
      have z := box_size t1
      clear t1
      go_wp2_with fail
      refine (rowOf_calls r _ hr).mono ?_
      rintro e w2 ⟨rfl, t2⟩
      have s2 : Later w1 w2 := Later.trans (by repeat (first | exact Later.refl _ | apply Later.drew | apply Later.drewN | apply Later.alloc)) t2
      replace LL := LL.trans s2
      replace T := T.trans s2
      replace g := HF.out w2 T
      replace z := Nat.lt_of_lt_of_le z (Below.size s2)
      clear t2 s2
      go_wp2
      go_ret2
      exact ⟨_, rfl, ints_nil _, Later.trans LL (by repeat (first | exact Later.refl _ | apply Later.drew | apply Later.drewN | apply Later.alloc)), fresh_nil _⟩
  · have e1 : membersRes r = ([], 30) := if_neg hv
    have hv' : vB r = false := by simpa using hv
    rw [e1]
    clear e1 hv
    go_enter Try.func13, Try.ntmps13
    go_wp2_with fail
    refine (sValid_calls r _).mono ?_
    rintro e w1 ⟨rfl, t1⟩
    have HF := Lib.hid fun W (hW : Later w1 W) => box3_facts (t1.trans hW)
    have LL : Later w w1 := Later.trans (by repeat (first | exact Later.refl _ | apply Later.drew | apply Later.drewN | apply Later.alloc)) t1
    have g := HF.out w1 (Later.refl _)
    have T := Later.refl w1
    have z := box_size t1
    clear t1
    go_wp2
    go_ret2
    exact ⟨_, rfl, ints_nil _, Later.trans LL (by repeat (first | exact Later.refl _ | apply Later.drew | apply Later.drewN | apply Later.alloc)), fresh_nil _⟩
set_option maxHeartbeats 1000000 in
theorem rMembers_calls (r : Rg) (w : World) :
    Calls Try.prog 14 #[.agg #[.int .i64 (r).lo, .int .i64 (r).hi, .int .i64 (r).st]] w (RetIE (membersRes r).1 (membersRes r).2 w) := by
  by_cases hv : vB r = true
  · have hr := vB_ok hv
    obtain ⟨hx, hs⟩ := refOf_small hr
    obtain ⟨x1, x2, x3, x4, x5, x6⟩ := hx
    obtain ⟨n, hn⟩ := Int.eq_ofNat_of_zero_le x5
    have hrn : (rowOf r).n = (n : Int) := hn
    by_cases h4 : n ≤ 4096
    · have e1 : membersRes r = (memL r n, 0) := by rw [membersRes, if_pos hv, hrn, if_pos (by omega)]; rfl
      have h4' : (n : Int) ≤ 4096 := by omega
      have hsucc := Lib.hid fun k (hk : k < n) => (memL_succ r k).trans (congrArg (fun y => memL r k ++ [y]) ((at_ref hr (by omega) (by rw [hrn]; omega)).symm))
      rw [e1]
      clear e1
      go_enter Try.func14, Try.ntmps14
      go_wp2_with fail
      refine (rValid_calls r _).mono ?_
      rintro e w1 ⟨rfl, t1⟩
      have HF := Lib.hid fun W (hW : Later w1 W) => box3_facts (t1.trans hW)
      have LL : Later w w1 := Later.trans (by repeat (first | exact Later.refl _ | apply Later.drew | apply Later.drewN | apply Later.alloc)) t1
      have g := HF.out w1 (Later.refl _)
      have T := Later.refl w1
      have z := box_size t1
      clear t1
      go_wp2_with fail
      refine (rOf_calls r _ hr).mono ?_
      rintro e w2 ⟨rfl, t2⟩
      have s2 : Later w1 w2 := Later.trans (by repeat (first | exact Later.refl _ | apply Later.drew | apply Later.drewN | apply Later.alloc)) t2
      replace LL := LL.trans s2
      replace T := T.trans s2
      replace g := HF.out w2 T
      replace z := Nat.lt_of_lt_of_le z (Below.size s2)
      clear t2 s2
      clear HF
      obtain ⟨X, hX⟩ : ∃ X, X = w2.alloc (.cells #[.int .i64 (refOf r).f, .int .i64 (refOf r).s, .int .i64 (n : Int)] 52) := ⟨_, rfl⟩
      have HX := Lib.hid fun W (hW : Later X W) => box3_facts (w := w2) (hX ▸ hW)
      have LX : Later w X := hX ▸ LL.alloc _
      clear T g z LL
      go_wp2
      rw [← hX]
      clear hX
      go_loopw [5, 6] (fun v i wr => ∃ k : Nat, k ≤ n ∧ i = .int .i64 k ∧ OwnI wr X.heap.size v (memL r k) ∧ Later X wr) (fun v i _ => n - (intOf i).toNat)
      case atStart => exact ⟨0, Nat.zero_le _, rfl, ownI_nil _ _, Later.refl _⟩
      case round =>
        obtain ⟨k, hk, rfl, hown, hl⟩ := hrel
        have HO := Lib.hid hown
        have HL := Lib.hid hl
        have g := HX.out wr hl
        clear hown hl
        by_cases hlt : k < n
        · obtain ⟨p1, p2⟩ := prod_small (a := (k : Int)) (b := (refOf r).s) (by omega) (by omega) x3 x4
          go_wp2_with fail
          refine (rAt_calls ⟨(refOf r).f, (refOf r).s, (n : Int)⟩ k _ (by simp only; omega) (by simp only; omega) x1 x2).mono ?_
          rintro e w3 ⟨rfl, t3⟩
          have HL3 := Lib.hid (HL.out.trans t3)
          have HO3 := Lib.hid (HO.out.kept t3)
          have hB := (show Later X w3 from HL3.out).size
          clear t3
          go_wp2_with (at_builtin; refine push_int rfl _ _ rfl X.heap.size _ (memL r k) rfl HO3.out _ (memL r (k + 1)) (hsucc.out k hlt) rfl ?_ ?_ ?_; (rw [memL_len]; omega); omega)
          intro v' w4 hown' hb'
          have HO4 := Lib.hid hown'
          have HL4 := Lib.hid (show Later X w4 from hb' X HL3.out)
          clear hown' hb'
          go_wp2
          go_roundw
          case rel => exact ⟨k + 1, by omega, by go_num, HO4.out, HL4.out⟩
          case measure => simp [intOf]; omega
        · have hkn : k = n := by omega
          subst hkn
          go_wp2
          go_ret2
          exact ⟨_, rfl, HO.out.ints (memL_ok hr _ (by omega)), LX.trans HL.out, fun x m c h => Nat.le_trans (Below.size LX) (HO.out.fresh x m c h)⟩
    · have e1 : membersRes r = ([], 2) := by rw [membersRes, if_pos hv, hrn, if_neg (by omega)]
      have h4' : 4096 < (n : Int) := by omega
      rw [e1]
      clear e1
      go_enter Try.func14, Try.ntmps14
      go_wp2_with fail
      refine (rValid_calls r _).mono ?_
      rintro e w1 ⟨rfl, t1⟩
      have HF := Lib.hid fun W (hW : Later w1 W) => box3_facts (t1.trans hW)
      have LL : Later w w1 := Later.trans (by repeat (first | exact Later.refl _ | apply Later.drew | apply Later.drewN | apply Later.alloc)) t1
      have g := HF.out w1 (Later.refl _)
      have T := Later.refl w1
      have z := box_size t1
      clear t1
      go_wp2_with fail
      refine (rOf_calls r _ hr).mono ?_
      rintro e w2 ⟨rfl, t2⟩
      have s2 : Later w1 w2 := Later.trans (by repeat (first | exact Later.refl _ | apply Later.drew | apply Later.drewN | apply Later.alloc)) t2
      replace LL := LL.trans s2
      replace T := T.trans s2
      replace g := HF.out w2 T
      replace z := Nat.lt_of_lt_of_le z (Below.size s2)
      clear t2 s2
      go_wp2
      go_ret2
      exact ⟨_, rfl, ints_nil _, Later.trans LL (by repeat (first | exact Later.refl _ | apply Later.drew | apply Later.drewN | apply Later.alloc)), fresh_nil _⟩
  · have e1 : membersRes r = ([], 30) := if_neg hv
    have hv' : vB r = false := by simpa using hv
    rw [e1]
    clear e1 hv
    go_enter Try.func14, Try.ntmps14
    go_wp2_with fail
    refine (rValid_calls r _).mono ?_
    rintro e w1 ⟨rfl, t1⟩
    have HF := Lib.hid fun W (hW : Later w1 W) => box3_facts (t1.trans hW)
    have LL : Later w w1 := Later.trans (by repeat (first | exact Later.refl _ | apply Later.drew | apply Later.drewN | apply Later.alloc)) t1
    have g := HF.out w1 (Later.refl _)
    have T := Later.refl w1
    have z := box_size t1
    clear t1
    go_wp2
    go_ret2
    exact ⟨_, rfl, ints_nil _, Later.trans LL (by repeat (first | exact Later.refl _ | apply Later.drew | apply Later.drewN | apply Later.alloc)), fresh_nil _⟩
theorem First_calls (w : World) : Calls Try.prog 16 #[] w fun e w' => e = .returned (.bool true) ∧ Later w w' := by
  have hm : membersRes ⟨1, 10, -3⟩ = ([10, 7, 4, 1], 0) := by decide
  go_enter Try.func16, Try.ntmps16
  go_wp2_with fail
  refine (sMembers_calls ⟨1, 10, -3⟩ _).mono ?_
  rw [hm]
  rintro e w1 ⟨v, rfl, h1, t1, _⟩
  have hl : OwnI (w1.alloc (.cells #[.int .i64 10, .int .i64 7, .int .i64 4, .int .i64 1] 3)) w1.heap.size (.slice (some ⟨w1.heap.size, 0, none⟩) 4 4) [10, 7, 4, 1] := World.ownsRow_lit w1 #[.int .i64 10, .int .i64 7, .int .i64 4, .int .i64 1] 4 (Nat.le_refl _) (by decide) rfl
  have h2 := hl.ints (by intro x hx; simp at hx; unfold okI; omega)
  clear hl hm
  go_wp2_with fail
  refine (SameInts_calls _ _ _ _ _ (h1.later ((Later.refl _).alloc _)) h2).mono ?_
  rintro e w2 ⟨rfl, n2, rfl⟩
  go_wp2
  go_ret
  exact ⟨rfl, (t1.alloc _).drewN _⟩
end Go.Proofs.Ytoeabdanldiccaa
