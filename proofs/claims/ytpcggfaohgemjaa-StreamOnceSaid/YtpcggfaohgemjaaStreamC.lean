/- Walks of Perm and Choose, and of the reference's. -/
import Derived.Test.YtpcggfaohgemjaaStreamB
import Derived.Test.YtpcggfaohgemjaaPerm
namespace Go.Proofs.Ytpcggfaohgemjaa
open Go.RowKit
/-- the place with which the i-th of n numbers is exchanged -/
def pick (seed : Int) (n i : Nat) : Nat := (belowV seed ((n : Int) - 1 - i) ((i : Int) + 1)).toNat
theorem pick_eq (seed : Int) (n i : Nat) : belowV seed ((n : Int) - 1 - i) ((i : Int) + 1) = (pick seed n i : Int) := by
  have := belowV_bd (seed := seed) (n := (n : Int) - 1 - i) (m := (i : Int) + 1) (by omega)
  unfold pick; omega
theorem pick_le (seed : Int) (n i : Nat) : pick seed n i ≤ i := by
  have := belowV_bd (seed := seed) (n := (n : Int) - 1 - i) (m := (i : Int) + 1) (by omega)
  rw [pick_eq] at this; omega
/-- the order behind t exchanges -/
def permT (seed : Int) (n : Nat) : Nat → List Int
  | 0 => iota n
  | t + 1 => swapped (permT seed n t) (n - 1 - t) (pick seed n (n - 1 - t))
theorem permT_len (seed : Int) (n t : Nat) : (permT seed n t).length = n := by
  induction t with
  | zero => exact iota_len n
  | succ t ih => rw [permT, swapped_len, ih]
theorem permT_once (seed : Int) (n t : Nat) (ht : t ≤ n - 1) : Once n (permT seed n t) := by
  induction t with
  | zero => exact once_iota n
  | succ t ih =>
    have := pick_le seed n (n - 1 - t)
    exact once_swapped (ih (by omega)) (by omega) (by omega)
theorem permT_ok (seed : Int) (n t : Nat) (hn : n ≤ 4096) (ht : t ≤ n - 1) : ∀ x ∈ permT seed n t, okI x := by
  intro x hx
  obtain ⟨h1, h2, _⟩ := permT_once seed n t ht
  obtain ⟨j, hj, rfl⟩ := List.getElem_of_mem hx
  rw [← at_eq _ j hj]
  have := h2 j (by omega)
  unfold okI; omega
/-- the order with the numbers from i + 1 on exchanged -/
def permI (seed : Int) (n : Nat) (i : Int) : List Int := permT seed n (((n : Int) - 1 - i).toNat)
theorem permI_start (seed : Int) (n : Nat) : permI seed n ((n : Int) - 1) = iota n := by unfold permI; rw [show ((n : Int) - 1 - ((n : Int) - 1)).toNat = 0 from by omega]; rfl
theorem permI_step (seed : Int) (n i : Nat) (hi : 0 < i) (hn : i < n) : permI seed n ((i : Int) - 1) = swapped (permI seed n i) i (pick seed n i) := by
  unfold permI
  rw [show ((n : Int) - 1 - ((i : Int) - 1)).toNat = ((n : Int) - 1 - (i : Int)).toNat + 1 from by omega, permT]
  rw [show n - 1 - ((n : Int) - 1 - (i : Int)).toNat = i from by omega]
theorem permI_end (seed : Int) (n : Nat) (i : Int) (hi : i ≤ 0) (h : (n : Int) - 1 - i ≤ n) (h1 : -1 ≤ i) (h2 : i = -1 → n = 0) : permI seed n i = permT seed n (n - 1) := by
  unfold permI
  rw [show ((n : Int) - 1 - i).toNat = n - 1 from by omega]
theorem permI_len (seed : Int) (n : Nat) (i : Int) : (permI seed n i).length = n := permT_len _ _ _

theorem Perm_in (seed : Int) (n : Nat) (w : World) (hn : (n : Int) ≤ 4096) :
    Calls Try.prog 28 #[.int .i64 seed, .int .i64 n] w (RetIE (permT seed n (n - 1)) 0 w) := by
  go_enter Try.func28, Try.ntmps28
  go_wp2_with (go_at_call 32; refine (within_t _ _ _ _ ?_ ?_).mono ?_; omega; omega; rintro e w' ⟨rfl, rfl⟩)
  go_loopw [6, 7, 14] (fun v _ i wr => ∃ k : Nat, k ≤ n ∧ i = .int .i64 k ∧ OwnI wr w.heap.size v (iota k) ∧ Below w.heap.size w wr) (fun _ _ i _ => n - (intOf i).toNat)
  case atStart => exact ⟨0, Nat.zero_le _, rfl, ownI_nil _ _, Below.refl _ _⟩
  case round =>
    obtain ⟨k, hk, rfl, hown, hb⟩ := hrel
    have hB := hb.size
    have HO := Lib.hid hown
    clear hown
    by_cases hlt : k < n
    · go_wp2_with (at_builtin; refine push_int rfl _ _ rfl w.heap.size _ (iota k) rfl HO.out _ (iota (k + 1)) (iota_succ _) rfl ?_ ?_ ?_; (rw [iota_len]; omega); omega)
      intro v' w1 hown' hb'
      have hb1 := hb' _ hb
      have HO1 := Lib.hid hown'
      clear hown' hb'
      go_wp2
      go_roundw
      case rel => exact ⟨k + 1, by omega, by go_num, HO1.out, hb1⟩
      case measure => simp [intOf]; omega
    · have hkn : k = n := by omega
      subst hkn
      have h0 := Lib.hid (permI_start seed k)
      go_wp2
      go_loopw [8] (fun i wl => ∃ j : Int, -1 ≤ j ∧ j < k ∧ (j = -1 → k = 0) ∧ i = .int .i64 j ∧ OwnI wl w.heap.size u6 (permI seed k j) ∧ Below w.heap.size w wl) (fun i _ => (intOf i).toNat)
      case atStart => exact ⟨(k : Int) - 1, by omega, by omega, by omega, rfl, by rw [h0.out]; exact HO.out, hb⟩
      case round =>
        obtain ⟨j, hj1, hj2, hj3, rfl, hown, hb2⟩ := hrel
        by_cases hpos : 0 < j
        · obtain ⟨i, rfl⟩ := Int.eq_ofNat_of_zero_le (show 0 ≤ j by omega)
          have hik : i < k := by omega
          have hp := pick_eq seed k i
          have hq := pick_le seed k i
          have hst := permI_step seed k i (by omega) hik
          obtain ⟨q, hq'⟩ : ∃ q, q = pick seed k i := ⟨_, rfl⟩
          rw [← hq'] at hp hq hst
          obtain ⟨g, cap, rfl⟩ := hown.shape k (permI_len _ _ _) (by omega)
          have hl := permI_len seed k i
          have hg := hown.base
          have HO2 := Lib.hid hown
          have HS := Lib.hid hst
          have HL := Lib.hid hl
          have ci := hown.cell hl i hik
          have cq := hown.cell hl q (by omega)
          have fi := hown.free hl i
          have fq := hown.free hl q
          have hqk : q < k := by omega
          have c5 : ((k : Int) - 1 - (i : Int)) = (k : Int) - 1 - (i : Int) := rfl
          clear hown hst hl hj3 hq' c5
          by_cases hqi : q = i
          · subst hqi
            go_wp2_with (go_at_call 35; refine (below_calls _ _ _ ?_ ?_ _).mono ?_; omega; omega; rintro e w' ⟨rfl, rfl⟩)
            go_region
            go_wp2
            go_roundw
            case rel => exact ⟨(q : Int) - 1, by omega, by omega, by omega, by go_num, by rw [HS.out]; exact ((HO2.out.store HL.out q _).store (by rw [List.length_set]; exact HL.out) q _).drewN 1, ((hb2.setCell (by exact hg.1) _).setCell (by exact hg.1) _).drew⟩
            case measure => simp [intOf]; omega
          · have hqi' : q < i := by omega
            go_wp2_with (go_at_call 35; refine (below_calls _ _ _ ?_ ?_ _).mono ?_; omega; omega; rintro e w' ⟨rfl, rfl⟩)
            go_region
            go_wp2
            go_roundw
            case rel => exact ⟨(i : Int) - 1, by omega, by omega, by omega, by go_num, by rw [HS.out]; exact ((HO2.out.store HL.out i _).store (by rw [List.length_set]; exact HL.out) q _).drewN 1, ((hb2.setCell (by exact hg.1) _).setCell (by exact hg.1) _).drew⟩
            case measure => simp [intOf]; omega
        · go_wp2
          go_ret2
          exact ⟨_, rfl, (show OwnI wr w.heap.size u6 (permT seed k (k - 1)) from by rw [← permI_end seed k j (by omega) (by omega) (by omega) hj3]; exact hown).ints (permT_ok _ _ _ (by omega) (by omega)), hb2, hown.fresh⟩
theorem refPerm_in (seed : Int) (n : Nat) (w : World) (hn : (n : Int) ≤ 4096) :
    Calls Try.prog 29 #[.int .i64 seed, .int .i64 n] w (RetIE (permT seed n (n - 1)) 0 w) := by
  go_enter Try.func29, Try.ntmps29
  go_wp2
  go_loopw [6, 7] (fun v i wr => ∃ k : Nat, k ≤ n ∧ i = .int .i64 k ∧ OwnI wr w.heap.size v (iota k) ∧ Below w.heap.size w wr) (fun _ i _ => n - (intOf i).toNat)
  case atStart => exact ⟨0, Nat.zero_le _, rfl, ownI_nil _ _, Below.refl _ _⟩
  case round =>
    obtain ⟨k, hk, rfl, hown, hb⟩ := hrel
    have hB := hb.size
    have HO := Lib.hid hown
    clear hown
    by_cases hlt : k < n
    · go_wp2_with (at_builtin; refine push_int rfl _ _ rfl w.heap.size _ (iota k) rfl HO.out _ (iota (k + 1)) (iota_succ _) rfl ?_ ?_ ?_; (rw [iota_len]; omega); omega)
      intro v' w1 hown' hb'
      have hb1 := hb' _ hb
      have HO1 := Lib.hid hown'
      clear hown' hb'
      go_wp2
      go_roundw
      case rel => exact ⟨k + 1, by omega, by go_num, HO1.out, hb1⟩
      case measure => simp [intOf]; omega
    · have hkn : k = n := by omega
      subst hkn
      have h0 := Lib.hid (permI_start seed k)
      go_wp2
      go_loopw [8] (fun i wl => ∃ j : Int, -1 ≤ j ∧ j < k ∧ (j = -1 → k = 0) ∧ i = .int .i64 j ∧ OwnI wl w.heap.size u6 (permI seed k j) ∧ Below w.heap.size w wl) (fun i _ => (intOf i).toNat)
      case atStart => exact ⟨(k : Int) - 1, by omega, by omega, by omega, rfl, by rw [h0.out]; exact HO.out, hb⟩
      case round =>
        obtain ⟨j, hj1, hj2, hj3, rfl, hown, hb2⟩ := hrel
        by_cases hpos : 0 < j
        · obtain ⟨i, rfl⟩ := Int.eq_ofNat_of_zero_le (show 0 ≤ j by omega)
          have hik : i < k := by omega
          have hp := pick_eq seed k i
          have hq := pick_le seed k i
          have hst := permI_step seed k i (by omega) hik
          obtain ⟨q, hq'⟩ : ∃ q, q = pick seed k i := ⟨_, rfl⟩
          rw [← hq'] at hp hq hst
          obtain ⟨g, cap, rfl⟩ := hown.shape k (permI_len _ _ _) (by omega)
          have hl := permI_len seed k i
          have hg := hown.base
          have HO2 := Lib.hid hown
          have HS := Lib.hid hst
          have HL := Lib.hid hl
          have ci := hown.cell hl i hik
          have cq := hown.cell hl q (by omega)
          have fi := hown.free hl i
          have fq := hown.free hl q
          have hqk : q < k := by omega
          have c5 : ((k : Int) - 1 - (i : Int)) = (k : Int) - 1 - (i : Int) := rfl
          clear hown hst hl hj3 hq' c5
          by_cases hqi : q = i
          · subst hqi
            go_wp2_with (go_at_call 36; refine (refBelow0_calls _ _ _ ?_ ?_ _).mono ?_; omega; omega; rintro e w' ⟨rfl, rfl⟩)
            go_region
            go_wp2
            go_roundw
            case rel => exact ⟨(q : Int) - 1, by omega, by omega, by omega, by go_num, by rw [HS.out]; exact ((HO2.out.store HL.out q _).store (by rw [List.length_set]; exact HL.out) q _).drewN 1, ((hb2.setCell (by exact hg.1) _).setCell (by exact hg.1) _).drew⟩
            case measure => simp [intOf]; omega
          · have hqi' : q < i := by omega
            go_wp2_with (go_at_call 36; refine (refBelow0_calls _ _ _ ?_ ?_ _).mono ?_; omega; omega; rintro e w' ⟨rfl, rfl⟩)
            go_region
            go_wp2
            go_roundw
            case rel => exact ⟨(i : Int) - 1, by omega, by omega, by omega, by go_num, by rw [HS.out]; exact ((HO2.out.store HL.out i _).store (by rw [List.length_set]; exact HL.out) q _).drewN 1, ((hb2.setCell (by exact hg.1) _).setCell (by exact hg.1) _).drew⟩
            case measure => simp [intOf]; omega
        · go_wp2
          go_ret2
          exact ⟨_, rfl, (show OwnI wr w.heap.size u6 (permT seed k (k - 1)) from by rw [← permI_end seed k j (by omega) (by omega) (by omega) hj3]; exact hown).ints (permT_ok _ _ _ (by omega) (by omega)), hb2, hown.fresh⟩

def permOk (n : Int) : Prop := 0 ≤ n ∧ n ≤ 4096
instance (n : Int) : Decidable (permOk n) := by unfold permOk; infer_instance
def permL (seed n : Int) : List Int := if permOk n then permT seed n.toNat (n.toNat - 1) else []
def permE (n : Int) : Int := if permOk n then 0 else 2
theorem perm_no {seed n : Int} (h : ¬ permOk n) (w : World) : RetIE (permL seed n) (permE n) w (.returned (.tuple #[.slice none 0 0, .int .i64 2])) w := by
  rw [permL, permE, if_neg h, if_neg h]; exact ⟨_, rfl, ints_nil w, Later.refl w, fresh_nil _⟩
theorem Perm_calls (seed n : Int) (w : World) : Calls Try.prog 28 #[.int .i64 seed, .int .i64 n] w (RetIE (permL seed n) (permE n) w) := by
  by_cases h : permOk n
  · rw [permL, permE, if_pos h, if_pos h]
    obtain ⟨h1, h2⟩ := h
    obtain ⟨k, rfl⟩ := Int.eq_ofNat_of_zero_le h1
    exact Perm_in seed k w h2
  · have Hn := Lib.hid (perm_no (seed := seed) h w)
    have h' : n < 0 ∨ 4096 < n := by unfold permOk at h; omega
    clear h
    go_enter Try.func28, Try.ntmps28
    go_wp2_with fail
    refine (within_f _ _ _ _ (by omega)).mono ?_
    rintro e w' ⟨rfl, rfl⟩
    go_wp2
    go_ret2
    exact Hn.out
theorem refPerm_calls (seed n : Int) (w : World) : Calls Try.prog 29 #[.int .i64 seed, .int .i64 n] w (RetIE (permL seed n) (permE n) w) := by
  by_cases h : permOk n
  · rw [permL, permE, if_pos h, if_pos h]
    obtain ⟨h1, h2⟩ := h
    obtain ⟨k, rfl⟩ := Int.eq_ofNat_of_zero_le h1
    exact refPerm_in seed k w h2
  · have Hn := Lib.hid (perm_no (seed := seed) h w)
    have h' : n < 0 ∨ 4096 < n := by unfold permOk at h; omega
    clear h
    by_cases h1 : n < 0
    · go_enter Try.func29, Try.ntmps29
      go_wp2
      go_ret2
      exact Hn.out
    · have h2 : 4096 < n := by omega
      go_enter Try.func29, Try.ntmps29
      go_wp2
      go_ret2
      exact Hn.out

/-! ### the first ones of an order -/
def chooseOk (n k : Int) : Prop := permOk n ∧ 0 ≤ k ∧ k ≤ n
instance (n k : Int) : Decidable (chooseOk n k) := by unfold chooseOk; infer_instance
def chooseL (seed n k : Int) : List Int := if chooseOk n k then (permL seed n).take k.toNat else []
def chooseE (n k : Int) : Int := if chooseOk n k then 0 else 2
theorem permL_len {seed n : Int} (h : permOk n) : (permL seed n).length = n.toNat := by rw [permL, if_pos h, permT_len]
theorem choose_no {seed n k : Int} (h : ¬ chooseOk n k) {w w' : World} (hw : Later w w') : RetIE (chooseL seed n k) (chooseE n k) w (.returned (.tuple #[.slice none 0 0, .int .i64 2])) w' := by
  rw [chooseL, chooseE, if_neg h, if_neg h]; exact ⟨_, rfl, ints_nil w', hw, fresh_nil _⟩
theorem Choose_calls (seed n k : Int) (w : World) : Calls Try.prog 30 #[.int .i64 seed, .int .i64 n, .int .i64 k] w (RetIE (chooseL seed n k) (chooseE n k) w) := by
  by_cases h : permOk n
  · have hE : (permE n != 0) = false := by rw [permE, if_pos h]; rfl
    have HL := Lib.hid (permL_len (seed := seed) h)
    by_cases hk : 0 ≤ k ∧ k ≤ n
    · have e1 := Lib.hid (show chooseL seed n k = (permL seed n).take k.toNat from if_pos ⟨h, hk⟩)
      have e2 := Lib.hid (show chooseE n k = 0 from if_pos ⟨h, hk⟩)
      obtain ⟨h1, h2⟩ := h
      obtain ⟨m, rfl⟩ := Int.eq_ofNat_of_zero_le h1
      obtain ⟨k1, k2⟩ := hk
      obtain ⟨j, rfl⟩ := Int.eq_ofNat_of_zero_le k1
      go_enter Try.func30, Try.ntmps30
      go_wp2_with fail
      refine (Perm_calls _ _ _).mono ?_
      rintro e w1 ⟨v, rfl, hl, hw, hf⟩
      obtain ⟨ao, cap, b, off, rfl, hc, hm, -⟩ := hl.at m HL.out
      unfold maxLen at hm
      have HI := Lib.hid (hl.take (c := j) j (by omega) (Nat.le_refl _) (by omega))
      have hjc : (j : Int) ≤ cap := by omega
      clear hl
      go_wp2_with fail
      refine (within_t _ _ _ _ (by omega) (by omega)).mono ?_
      rintro e w' ⟨rfl, rfl⟩
      go_wp2
      go_ret2
      rw [RetIE, e1.out, e2.out]
      exact ⟨_, rfl, HI.out, hw, hf.cut⟩
    · have hno : ¬ chooseOk n k := fun hc => hk hc.2
      have hk' : k < 0 ∨ n < k := by omega
      obtain ⟨h1, h2⟩ := h
      clear hk
      have HN := Lib.hid fun w1 (hw : Later w w1) => choose_no (seed := seed) hno hw
      clear hno
      go_enter Try.func30, Try.ntmps30
      go_wp2_with fail
      refine (Perm_calls _ _ _).mono ?_
      rintro e w1 ⟨v, rfl, hl, hw, hf⟩
      go_wp2_with fail
      refine (within_f _ _ _ _ (by omega)).mono ?_
      rintro e w' ⟨rfl, rfl⟩
      go_wp2
      go_ret2
      exact HN.out _ hw
  · have hE : (permE n != 0) = true := by rw [permE, if_neg h]; rfl
    have hE2 : permE n = 2 := if_neg h
    have HN := Lib.hid fun w1 (hw : Later w w1) => choose_no (seed := seed) (k := k) (n := n) (fun hc => h hc.1) hw
    clear h
    go_enter Try.func30, Try.ntmps30
    go_wp2_with fail
    refine (Perm_calls _ _ _).mono ?_
    rintro e w1 ⟨v, rfl, hl, hw, hf⟩
    go_wp2
    go_ret2
    exact HN.out _ hw
theorem refChoose_calls (seed n k : Int) (w : World) : Calls Try.prog 31 #[.int .i64 seed, .int .i64 n, .int .i64 k] w (RetIE (chooseL seed n k) (chooseE n k) w) := by
  by_cases h : permOk n
  · have hE : (permE n != 0) = false := by rw [permE, if_pos h]; rfl
    have HL := Lib.hid (permL_len (seed := seed) h)
    by_cases hk : 0 ≤ k ∧ k ≤ n
    · have e1 := Lib.hid (show chooseL seed n k = (permL seed n).take k.toNat from if_pos ⟨h, hk⟩)
      have e2 := Lib.hid (show chooseE n k = 0 from if_pos ⟨h, hk⟩)
      obtain ⟨h1, h2⟩ := h
      obtain ⟨m, rfl⟩ := Int.eq_ofNat_of_zero_le h1
      obtain ⟨k1, k2⟩ := hk
      obtain ⟨j, rfl⟩ := Int.eq_ofNat_of_zero_le k1
      go_enter Try.func31, Try.ntmps31
      go_wp2_with fail
      refine (refPerm_calls _ _ _).mono ?_
      rintro e w1 ⟨v, rfl, hl, hw, hf⟩
      obtain ⟨ao, cap, b, off, rfl, hc, hm, -⟩ := hl.at m HL.out
      unfold maxLen at hm
      have HI := Lib.hid (hl.take (c := cap) j (by omega) (by omega) (Nat.le_refl _))
      have hjc : (j : Int) ≤ cap := by omega
      clear hl
      go_wp2
      go_ret2
      rw [RetIE, e1.out, e2.out]
      exact ⟨_, rfl, HI.out, hw, hf.cut⟩
    · have hno : ¬ chooseOk n k := fun hc => hk hc.2
      have hk' : k < 0 ∨ n < k := by omega
      obtain ⟨h1, h2⟩ := h
      clear hk
      have HN := Lib.hid fun w1 (hw : Later w w1) => choose_no (seed := seed) hno hw
      clear hno
      by_cases hk1 : k < 0
      · go_enter Try.func31, Try.ntmps31
        go_wp2_with fail
        refine (refPerm_calls _ _ _).mono ?_
        rintro e w1 ⟨v, rfl, hl, hw, hf⟩
        go_wp2
        go_ret2
        exact HN.out _ hw
      · have hk2 : n < k := by omega
        go_enter Try.func31, Try.ntmps31
        go_wp2_with fail
        refine (refPerm_calls _ _ _).mono ?_
        rintro e w1 ⟨v, rfl, hl, hw, hf⟩
        go_wp2
        go_ret2
        exact HN.out _ hw
  · have hE : (permE n != 0) = true := by rw [permE, if_neg h]; rfl
    have HN := Lib.hid fun w1 (hw : Later w w1) => choose_no (seed := seed) (k := k) (n := n) (fun hc => h hc.1) hw
    clear h
    go_enter Try.func31, Try.ntmps31
    go_wp2_with fail
    refine (refPerm_calls _ _ _).mono ?_
    rintro e w1 ⟨v, rfl, hl, hw, hf⟩
    go_wp2
    go_ret2
    exact HN.out _ hw
end Go.Proofs.Ytpcggfaohgemjaa
