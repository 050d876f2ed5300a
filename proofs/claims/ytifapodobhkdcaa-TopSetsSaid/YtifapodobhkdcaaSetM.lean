/- Domains as lists of indexes: what two have in common, and what a shift makes: plain laws. -/
import Derived.Test.YtifapodobhkdcaaSet2
namespace Go.Proofs.Ytifapodobhkdcaa
open Go.RowKit
set_option linter.unusedVariables false
set_option linter.unusedSimpArgs false
set_option maxRecDepth 100000
theorem sorted_eq : ∀ {l l' : List Nat}, l.Pairwise (· < ·) → l'.Pairwise (· < ·) → (∀ x, x ∈ l ↔ x ∈ l') → l = l'
  | [], [], _, _, _ => rfl
  | [], b :: l', _, _, h => absurd ((h b).2 (by simp)) (by simp)
  | a :: l, [], _, _, h => absurd ((h a).1 (by simp)) (by simp)
  | a :: l, b :: l', p, q, h => by
    have p' := List.pairwise_cons.1 p
    have q' := List.pairwise_cons.1 q
    have hab : a = b := by
      have h1 := (h a).1 (by simp)
      have h2 := (h b).2 (by simp)
      rcases List.mem_cons.1 h1 with e | e
      · exact e
      · rcases List.mem_cons.1 h2 with e2 | e2
        · exact e2.symm
        · have := p'.1 b e2
          have := q'.1 a e
          omega
    subst hab
    congr 1
    refine sorted_eq p'.2 q'.2 fun x => ⟨fun hx => ?_, fun hx => ?_⟩
    · rcases List.mem_cons.1 ((h x).1 (List.mem_cons_of_mem _ hx)) with e | e
      · have := p'.1 x hx; omega
      · exact e
    · rcases List.mem_cons.1 ((h x).2 (List.mem_cons_of_mem _ hx)) with e | e
      · have := q'.1 x hx; omega
      · exact e
theorem memN_done {x : Rw} (hn : 0 ≤ x.n) (hs : x.s ≠ 0) (he : doneE x = 0) : memN (doneV x) = rowL x x.n.toNat := by
  obtain ⟨_, e⟩ := done_ok he
  rw [e]
  unfold memN cN
  rw [row_norm hn hs, norm_n', rowL_norm hn]
theorem mem_filter {r s a : Rg} {e : Int} (h : MeetIs r s a e) (hr : vB r = true) (hs : vB s = true) (he : e = 0) : memN a = (memN r).filter fun x => placeB (rowOf s) x := by
  have hor := vB_ok' hr
  have hos := vB_ok' hs
  have hn := cN_int hr
  cases h with
  | bad h => exact absurd ⟨hr, hs⟩ h
  | none _ _ h =>
    have e1 : memN ⟨1, 0, 1⟩ = [] := List.eq_nil_of_length_eq_zero (by rw [memN_len]; exact none_c)
    rw [e1]
    symm
    rw [List.filter_eq_nil_iff]
    intro x hx hp
    unfold memN rowL at hx
    obtain ⟨i, hi, rfl⟩ := List.mem_map.1 hx
    have hi := List.mem_range.1 hi
    exact h i (by omega) ((memb_place hos _).2 hp)
  | some _ _ a p k hp hp2 hk hl h =>
    have hs0 := (rowOf_small hor).2
    rw [memN_done (by show (0 : Int) ≤ (k : Int); omega) (Int.mul_ne_zero hs0 (by omega)) he]
    show rowL _ ((k : Int).toNat) = _
    rw [Int.toNat_natCast]
    have key : (List.range (cN r)).filter (fun i : Nat => placeB (rowOf s) (atOf (rowOf r) (i : Int))) = (List.range k).map fun j => a + p * j := by
      refine sorted_eq (List.pairwise_lt_range.filter _) ?_ fun i => ?_
      · rw [List.pairwise_map]
        exact List.pairwise_lt_range.imp fun {x y} hxy => by
          have := Nat.mul_lt_mul_of_pos_left hxy (show 0 < p by omega)
          omega
      · rw [List.mem_filter, List.mem_range, List.mem_map]
        constructor
        · rintro ⟨hi, hpl⟩
          obtain ⟨j, hj, e⟩ := (h i (by omega)).1 ((memb_place hos _).2 hpl)
          exact ⟨j, List.mem_range.2 hj, e.symm⟩
        · rintro ⟨j, hj, rfl⟩
          have hj := List.mem_range.1 hj
          have hle : p * j ≤ p * (k - 1) := Nat.mul_le_mul_left _ (by omega)
          have hi : ((a + p * j : Nat) : Int) < (rowOf r).n := by omega
          exact ⟨by omega, (memb_place hos _).1 ((h _ hi).2 ⟨j, hj, rfl⟩)⟩
    unfold memN rowL
    rw [List.filter_map]
    rw [show ((fun x => placeB (rowOf s) x) ∘ fun j : Nat => atOf (rowOf r) (j : Int)) = fun i : Nat => placeB (rowOf s) (atOf (rowOf r) (i : Int)) from rfl, key, List.map_map]
    refine List.map_congr_left fun j _ => ?_
    simp only [Function.comp, atOf]
    push_cast
    rw [Int.add_mul, Int.add_assoc, Int.mul_comm (p : Int) (j : Int), Int.mul_assoc, Int.mul_comm (rowOf r).s (p : Int)]
theorem flat_filter {α β : Type} (q : α → Bool) (F : α → List β) : ∀ l : List α, (l.flatMap fun x => if q x = true then F x else []) = (l.filter q).flatMap F
  | [] => rfl
  | x :: l => by
    rw [List.flatMap_cons, flat_filter q F l]
    cases h : q x <;> simp [h]
theorem filter_flat {α β : Type} (p : β → Bool) (F : α → List β) : ∀ l : List α, (l.flatMap F).filter p = l.flatMap fun x => (F x).filter p
  | [] => rfl
  | x :: l => by rw [List.flatMap_cons, List.filter_append, filter_flat p F l, List.flatMap_cons]
theorem idxs_meet : ∀ {a b : List Rg} {L : List (Rg × Int)}, a.length = b.length → L.length = a.length → (∀ r ∈ a, vB r = true) → (∀ r ∈ b, vB r = true) → (∀ k (h : k < L.length) (h1 : k < a.length) (h2 : k < b.length), MeetIs a[k] b[k] L[k].1 L[k].2 ∧ L[k].2 = 0) →
    idxs (L.map (·.1)) = (idxs a).filter (inB b)
  | [], [], [], _, _, _, _, _ => by rfl
  | r :: a, s :: b, p :: L, h1, h2, h3, h4, h5 => by
    have ih := idxs_meet (a := a) (b := b) (L := L) (by simpa using h1) (by simpa using h2) (fun q hq => h3 q (by simp [hq])) (fun q hq => h4 q (by simp [hq])) (fun k q1 q2 q3 => by
      have := h5 (k + 1) (by simp; omega) (by simp; omega) (by simp; omega)
      simpa using this)
    obtain ⟨m1, m2⟩ := h5 0 (by simp) (by simp) (by simp)
    have hm := mem_filter (r := r) (s := s) m1 (h3 r (by simp)) (h4 s (by simp)) m2
    have hm : memN p.1 = (memN r).filter fun x => placeB (rowOf s) x := hm
    show (memN p.1).flatMap (fun x => (idxs (L.map (·.1))).map (x :: ·)) = ((memN r).flatMap fun x => (idxs a).map (x :: ·)).filter (inB (s :: b))
    rw [hm, ih, filter_flat, ← flat_filter]
    congr 1
    funext x
    rw [List.filter_map]
    show _ = ((idxs a).filter fun y => placeB (rowOf s) x && inB b y).map (x :: ·)
    cases hx : placeB (rowOf s) x
    · simp
    · simp
  | [], b :: _, _, h, _, _, _, _ => by simp at h
  | a :: _, [], _, h, _, _, _, _ => by simp at h
  | [], [], p :: L, _, h, _, _, _ => by simp at h
  | r :: a, s :: b, [], _, h, _, _, _ => by simp at h
theorem idxs_can {rs : List Rg} (h : domB rs = true) : idxs (canonRs rs) = idxs rs := by
  obtain ⟨c0, ct, hc, hs⟩ := canon_sp h
  rw [hc]
  exact (canon_cnt h hc).1.symm
/-- what two domains have in common, in order -/
theorem meet_list {a b : List Rg} (h : twoRes a b = 0) {L : List (Rg × Int)} (hL : MeetL a b L) (he : (meetRes L).2 = 0) : ∃ m, meetRes L = (m, 0) ∧ domB m = true ∧ idxs m = (idxs a).filter (inB b) := by
  obtain ⟨m1, m2, m3, m4⟩ := meet_set h hL he
  obtain ⟨ha, hb, hl⟩ := twoRes_0.1 h
  refine ⟨_, m2, (dom_can m1).1, ?_⟩
  rw [idxs_can m1]
  have ho : ovMB L = false := by
    cases ho : ovMB L with
    | false => rfl
    | true => unfold meetRes at he; rw [ho, if_pos rfl] at he; cases he
  have hv := meetL_v hl hL ho
  exact idxs_meet hl hL.len (domB_iff.1 ha).2.1 (domB_iff.1 hb).2.1 (fun k q1 q2 q3 => ⟨hL.is k q1 q2 q3, (hv k q1).1⟩)
/-! ### Shift -/
theorem memN_shift {c : Rg} (hc : vB c = true) {k : Int} (he : (shiftRes c k).2 = 0) : memN (shiftRes c k).1 = (memN c).map (· + k) ∧ -1000000 ≤ k ∧ k ≤ 1000000 := by
  unfold shiftRes at he ⊢
  rw [if_pos hc] at he ⊢
  by_cases hk : -1000000 ≤ k ∧ k ≤ 1000000
  · rw [if_pos hk] at he ⊢
    refine ⟨?_, hk⟩
    have hr := vB_ok' hc
    have hn := (rowOf_n_bd hr).1
    show memN (doneV _) = _
    rw [memN_done (x := ⟨(rowOf c).f + k, (rowOf c).s, (rowOf c).n⟩) hn (rowOf_small hr).2 he]
    unfold memN rowL cN
    rw [List.map_map]
    refine List.map_congr_left fun j _ => ?_
    simp only [Function.comp, atOf]
    omega
  · rw [if_neg hk] at he; cases he
theorem idxs_zip : ∀ {cs : List Rg} {b : List Int}, cs.length = b.length → (∀ c ∈ cs, vB c = true) → (∀ p ∈ List.zipWith shiftRes cs b, p.2 = 0) → idxs ((List.zipWith shiftRes cs b).map (·.1)) = (idxs cs).map (fun x => List.zipWith (· + ·) x b) ∧ ∀ k ∈ b, -1000000 ≤ k ∧ k ≤ 1000000
  | [], [], _, _, _ => ⟨rfl, fun k hk => by simp at hk⟩
  | c :: cs, k :: b, hl, hv, he => by
    obtain ⟨i1, i2⟩ := idxs_zip (cs := cs) (b := b) (by simpa using hl) (fun q hq => hv q (by simp [hq])) (fun p hp => he p (by simp [hp]))
    obtain ⟨m1, m2⟩ := memN_shift (hv c (by simp)) (he (shiftRes c k) (by simp))
    refine ⟨?_, fun z hz => ?_⟩
    · show (memN (shiftRes c k).1).flatMap (fun x => (idxs ((List.zipWith shiftRes cs b).map (·.1))).map (x :: ·)) = ((memN c).flatMap fun x => (idxs cs).map (x :: ·)).map _
      rw [m1, i1, List.flatMap_map, List.map_flatMap]
      congr 1
      funext x
      rw [List.map_map, List.map_map]
      rfl
    · rcases List.mem_cons.1 hz with rfl | hz
      · exact m2
      · exact i2 z hz
  | [], _ :: _, h, _, _ => by simp at h
  | _ :: _, [], h, _, _ => by simp at h
theorem shift_list {a : List Rg} {b : List Int} (h : (moveRes shiftRes a b).2 = 0) : domB a = true ∧ b.length = a.length ∧ ∃ s, moveRes shiftRes a b = (s, 0) ∧ domB s = true ∧ idxs s = (idxs a).map (fun x => List.zipWith (· + ·) x b) ∧ ∀ k ∈ b, -1000000 ≤ k ∧ k ≤ 1000000 := by
  unfold moveRes at h ⊢
  split at h
  · rename_i hh
    obtain ⟨hd, hl⟩ := hh
    rw [if_pos ⟨hd, hl⟩]
    obtain ⟨e1, e2, e3⟩ := each_ok h
    obtain ⟨z1, z2⟩ := idxs_zip (cs := canonRs a) (b := b) (by rw [canonRs_len]; exact hl.symm) (fun c hc => (canonRs_v hd c hc).1) e3
    refine ⟨hd, hl, _, e2, (dom_can e1).1, ?_, z2⟩
    rw [idxs_can e1, z1, idxs_can hd]
  · rename_i hh
    unfold askedD at h
    simp only at h
    split at h
    · split at h
      · exact absurd ⟨by assumption, by assumption⟩ hh
      · omega
    · omega
theorem at_bound {rs : List Rg} (h : domB rs = true) {x : List Int} (hx : x ∈ idxs rs) : ∀ k (hk : k < x.length), -1000000 ≤ x[k] ∧ x[k] ≤ 1000000 := by
  have key : ∀ {rs : List Rg} {x : List Int}, (∀ r ∈ rs, vB r = true) → x ∈ idxs rs → ∀ k (hk : k < x.length), -1000000 ≤ x[k] ∧ x[k] ≤ 1000000 := by
    intro rs
    induction rs with
    | nil => intro x _ hx k hk; simp [idxs] at hx; subst hx; simp at hk
    | cons r rs ih =>
      intro x hv hx k hk
      obtain ⟨y, hy, hz⟩ := List.mem_flatMap.1 (show x ∈ (memN r).flatMap fun x => (idxs rs).map (x :: ·) from hx)
      obtain ⟨z, hz2, rfl⟩ := List.mem_map.1 hz
      cases k with
      | zero =>
        unfold memN rowL at hy
        obtain ⟨i, hi, rfl⟩ := List.mem_map.1 hy
        have hi := List.mem_range.1 hi
        have hn := cN_int (hv r (by simp))
        exact at_near (vB_ok' (hv r (by simp))) (by omega) (by omega)
      | succ k => exact ih (fun q hq => hv q (by simp [hq])) hz2 k (by simpa using hk)
  exact key (domB_iff.1 h).2.1 hx
end Go.Proofs.Ytifapodobhkdcaa
