/- slices.Delete of one element of a row of pairs. -/
import Derived.Test.YtpomhnmfkdgafaaSgN2
import Derived.Lib.SliceRun
import Derived.Deep.RegionLaw
namespace Go.Proofs.Ytpomhnmfkdgafaa
open Go.RowKit
set_option linter.unusedVariables false
set_option maxHeartbeats 16000000
set_option linter.unusedSimpArgs false
set_option maxRecDepth 100000
/-- clear of one element of two cells -/
theorem run_clear2 {P : Program} (w : World) (t e ty : TypeId) (z z1 z2 : Value) (ht : P.underlying t = some (.slice e)) (hv : ∀ w, (zeroValue e).run P w = .ok z w) (hz : z.cells = #[z1, z2]) (h1 : z1.oneCell' = true) (h2 : z2.oneCell' = true) (b o c : Nat)
    (hc : ∀ j, j < 2 → (w.cell? ⟨b, o + j, none⟩).isSome = true) (hf : ∀ j, j < 2 → w.frozen? ⟨b, o + j, none⟩ = false) :
    (Builtin.clear_ #[t] ty #[.slice (some ⟨b, o, none⟩) 1 c]).run P w = .ok (.tuple #[]) (w.setCells b o [z1, z2]) := by
  have hzc : (Builtin.zeroCells z.cells 1).toList = [z1, z2] := by rw [hz]; simp [Builtin.zeroCells, List.range_succ]
  have hst := run_storeCells_cells (P := P) b o [z1, z2] 0 w (by simpa using hc) (by simpa using hf) (by intro v hv'; simp at hv'; rcases hv' with rfl | rfl <;> assumption)
  simp only [Nat.add_zero] at hst
  simp [Builtin.clear_, run_underlying ht, hv, hzc, hst]
def putL : List Value → Nat → List Value → List Value
  | xs, _, [] => xs
  | xs, o, v :: vs => putL (xs.set o v) (o + 1) vs
theorem owns_put {base g cap n size : Nat} {e : TypeId} : ∀ (vs xs : List Value) (o : Nat) (w : World), w.ownsRow base e size (.slice (some ⟨g, 0, none⟩) n cap) n xs → (w.setCells g o vs).ownsRow base e size (.slice (some ⟨g, 0, none⟩) n cap) n (putL xs o vs) ∧ w.grownBy (w.setCells g o vs) (some g)
  | [], xs, o, w, h => ⟨h, grown_refl w _⟩
  | v :: vs, xs, o, w, h => by
    obtain ⟨h1, h2⟩ := h.stored o v
    obtain ⟨h3, h4⟩ := owns_put vs _ (o + 1) _ h1
    exact ⟨h3, grown_trans h2 h4⟩
theorem putL_get : ∀ (vs xs : List Value) (o t : Nat), (putL xs o vs)[t]? = if o ≤ t ∧ t < o + vs.length ∧ t < xs.length then vs[t - o]? else xs[t]?
  | [], xs, o, t => by rw [if_neg (by simp; omega)]; rfl
  | v :: vs, xs, o, t => by
    show (putL (xs.set o v) (o + 1) vs)[t]? = _
    rw [putL_get vs _ _ t, List.length_set, List.length_cons]
    by_cases h : t = o
    · subst h
      rw [if_neg (by omega)]
      by_cases hl : t < xs.length
      · rw [if_pos ⟨by omega, by omega, hl⟩, Nat.sub_self, List.getElem?_set_self hl]; rfl
      · rw [if_neg (by omega), List.getElem?_eq_none (by rw [List.length_set]; omega), List.getElem?_eq_none (by omega)]
    · by_cases hc : o + 1 ≤ t ∧ t < o + 1 + vs.length ∧ t < xs.length
      · rw [if_pos hc, if_pos ⟨by omega, by omega, hc.2.2⟩, show t - o = (t - (o + 1)) + 1 by omega, List.getElem?_cons_succ]
      · rw [if_neg hc, if_neg (by omega), List.getElem?_set_ne (Ne.symm h)]
theorem cut_row {w : World} {base g cap n m size : Nat} {e : TypeId} {xs : List Value} (h : w.ownsRow base e size (.slice (some ⟨g, 0, none⟩) n cap) n xs) (hm : m ≤ n) : w.ownsRow base e size (.slice (some ⟨g, 0, none⟩) m cap) m (xs.take (m * size)) := by
  have hml : m * size ≤ n * size := Nat.mul_le_mul_right _ hm
  rcases h.2 with ⟨h', _⟩ | ⟨g', cap', cur, h', hb, hg, hnc, hcm, hcs, ht⟩
  · cases h'
  · simp only [Value.slice.injEq, Option.some.injEq, Addr.mk.injEq, and_true, true_and] at h'
    obtain ⟨rfl, rfl⟩ := h'
    refine ⟨by rw [List.length_take, h.1]; omega, .inr ⟨g, cap, cur, rfl, hb, hg, by omega, hcm, hcs, ?_⟩⟩
    rw [← ht, List.take_take]
    congr 1
    omega
/-- the row's cells behind Delete -/
theorem del_cells {us : List Value} {n k : Nat} {z1 z2 : Value} (hl : us.length = n * 2) (hk : k < n) :
    (putL (putL us (k * 2) (us.drop ((k + 1) * 2))) ((n - 1) * 2) [z1, z2]).take ((n - 1) * 2) = us.take (k * 2) ++ us.drop ((k + 1) * 2) := by
  have l1 : (us.take (k * 2)).length = k * 2 := by simp; omega
  apply List.ext_getElem?
  intro t
  rw [List.getElem?_take]
  by_cases h : t < (n - 1) * 2
  · rw [if_pos h, putL_get, if_neg (by omega), putL_get]
    by_cases h2 : t < k * 2
    · rw [if_neg (by omega), List.getElem?_append_left (by omega), List.getElem?_take, if_pos h2]
    · rw [if_pos (by simp; omega), List.getElem?_append_right (by omega), l1]
  · rw [if_neg h, List.getElem?_eq_none (by simp; omega)]
theorem del_raw (w : World) (base g cap n k : Nat) (us : List Value) (h : w.ownsRow base 49 2 (.slice (some ⟨g, 0, none⟩) n cap) n us) (h1 : us.all (·.oneCell') = true) (hk : k < n) (hcap : cap ≤ 9223372036854775807) (hnc : n ≤ cap) :
    Calls Try.prog 38 #[.slice (some ⟨g, 0, none⟩) n cap, .int .i64 (k : Int), .int .i64 ((k : Int) + 1)] w fun e w' =>
      e = .returned (.slice (some ⟨g, 0, none⟩) (n - 1) cap) ∧ w' = (w.drew.setCells g (k * 2) (us.drop ((k + 1) * 2))).setCells g ((n - 1) * 2) [.int .i64 0, .int .i64 0] := by
  have hl : us.length = n * 2 := h.1
  have hc : ∀ j, j < n * 2 → w.cell? ⟨g, j, none⟩ = us[j]? := fun j hj => h.cellAt j hj
  have hf : ∀ j, w.frozen? ⟨g, j, none⟩ = false := fun j => h.frozenAt j
  have hone : ∀ u ∈ us, u.oneCell' = true := List.all_eq_true.1 h1
  obtain ⟨news, hnews⟩ : ∃ news, news = us.drop ((k + 1) * 2) := ⟨_, rfl⟩
  have hlen : news.length = (n - (k + 1)) * 2 := by rw [hnews, List.length_drop, hl]; omega
  have hget : ∀ t u, news[t]? = some u → w.drew.cell? ⟨g, (k + 1) * 2 + t, none⟩ = some u := fun t u hu => by
    have ht := (List.getElem?_eq_some_iff.1 hu).1
    rw [hlen] at ht
    rw [hnews, List.getElem?_drop] at hu
    exact (hc _ (by omega)).trans hu
  obtain ⟨A, hA, hsrc⟩ : ∃ A : Addr, (if cap = k + 1 then some (⟨g, 0, none⟩ : Addr) else some ⟨g, (k + 1) * 2, none⟩) = some A ∧ Hid (∀ t u, news[t]? = some u → w.drew.cell? (A.add t) = some u) := by
    by_cases h : cap = k + 1
    · refine ⟨⟨g, 0, none⟩, by simp [h], fun t u hu => ?_⟩
      have := (List.getElem?_eq_some_iff.1 hu).1
      rw [hlen] at this; omega
    · refine ⟨⟨g, (k + 1) * 2, none⟩, by simp [h], fun t u hu => ?_⟩
      rw [Addr.add_lit]
      exact hget t u hu
  have s1 : Hid (news.length = (n - (k + 1)) * 2) := hlen
  have s2 : Hid (∀ u ∈ news, u.oneCell' = true) := fun u hu => hone u (by rw [hnews] at hu; exact List.mem_of_mem_drop hu)
  have s3 : Hid (∀ t, t < news.length → (w.drew.cell? ⟨g, 0 + k * 2 + t, none⟩).isSome = true ∧ w.drew.frozen? ⟨g, 0 + k * 2 + t, none⟩ = false) := fun t ht => by
    rw [hlen] at ht
    refine ⟨?_, hf _⟩
    show (w.cell? _).isSome = true
    rw [hc _ (by omega), List.getElem?_eq_getElem (by omega)]; rfl
  -- the world behind the append, behind a name
  obtain ⟨W1, hW1⟩ : ∃ W1, W1 = w.drew.setCells g (0 + k * 2) news := ⟨_, rfl⟩
  have hc1 : ∀ j, j < n * 2 → (W1.cell? ⟨g, j, none⟩).isSome = true := fun j hj => by
    have hj2 : (w.drew.cell? ⟨g, j, none⟩).isSome = true := by
      show (w.cell? _).isSome = true
      rw [hc _ hj, List.getElem?_eq_getElem (by omega)]; rfl
    rw [hW1]
    by_cases hin : 0 + k * 2 ≤ j ∧ j < 0 + k * 2 + news.length
    · have := World.cell?_setCells_in g news (0 + k * 2) w.drew (fun i hi => (s3.out i hi).1) (j - (0 + k * 2)) (by omega)
      rw [show 0 + k * 2 + (j - (0 + k * 2)) = j by omega] at this
      rw [this]; rfl
    · rw [World.cell?_setCells_out g news (0 + k * 2) w.drew _ (fun _ _ => by simp only; omega)]
      exact hj2
  have hf1 : ∀ j, W1.frozen? ⟨g, j, none⟩ = false := fun j => by rw [hW1, World.frozen?_setCells]; exact hf j
  have hcl : ∀ ty, (Builtin.clear_ #[30] ty #[.slice (some ⟨g, (k + (n - (k + 1))) * 2, none⟩) (n - (k + (n - (k + 1)))) (cap - (k + (n - (k + 1))))]).run Try.prog W1 = .ok (.tuple #[]) (W1.setCells g ((k + (n - (k + 1))) * 2) [.int .i64 0, .int .i64 0]) := fun ty => by
    rw [show n - (k + (n - (k + 1))) = 1 by omega]
    exact run_clear2 W1 _ _ ty (.agg #[.int .i64 0, .int .i64 0]) _ _ Try.underlying30 (fun w => by kernel_rfl) rfl rfl rfl g _ _ (fun j hj => hc1 _ (by omega)) (fun j hj => hf1 _)
  have hW : Hid (W1 = w.drew.setCells g (0 + k * 2) news) := hW1
  have X : Hid (news = us.drop ((k + 1) * 2)) := hnews
  have hkc : k ≤ cap := by omega
  have hk1c : k + 1 ≤ cap := by omega
  have hb1 : (0 : Int) ≤ (k : Int) + 1 := by omega
  have hb2 : (k : Int) + 1 ≤ (n : Int) := by omega
  clear hW1 hc1 hf1 hc hf hget hnews hlen
  go_enter Try.func38, Try.ntmps38
  go_wp2_with fail
  obtain ⟨ii, z', i1, i2, i3, i4, i5⟩ := (inferInstance : TySlice Try.prog 30 49 2 16).info
  go_region_law (refine step_append_room rfl (.tmp 22) (.tmp 25) 30 rfl 49 ii 2 Try.underlying30 i1 i3 g 0 k cap (by simp [Act.eval, Act.put]) A (n - (k + 1)) (cap - (k + 1)) news (by simp [Act.eval, Act.put]) s1.out hsrc.out s2.out (by omega) s3.out ?_; rw [← hW.out])
  go_wp2
  go_ret
  refine ⟨by rw [show n - 1 = k + (n - (k + 1)) by omega]; rfl, ?_⟩
  rw [hW.out, X.out, show n - 1 = k + (n - (k + 1)) by omega, Nat.zero_add]
theorem fly_take : ∀ (l : List (Int × Int)) (k : Nat), flyD (l.take k) = (flyD l).take (k * 2)
  | [], k => by simp [flyD]
  | x :: l, 0 => by simp [flyD]
  | x :: l, k + 1 => by
    have h := fly_take l k
    unfold flyD at h ⊢
    rw [List.take_succ_cons, List.flatMap_cons, List.flatMap_cons, h, show (k + 1) * 2 = (k * 2 + 1) + 1 by omega]; rfl
theorem fly_drop : ∀ (l : List (Int × Int)) (k : Nat), flyD (l.drop k) = (flyD l).drop (k * 2)
  | [], k => by simp [flyD]
  | x :: l, 0 => by simp [flyD]
  | x :: l, k + 1 => by
    have h := fly_drop l k
    unfold flyD at h ⊢
    rw [List.drop_succ_cons, List.flatMap_cons, h, show (k + 1) * 2 = (k * 2 + 1) + 1 by omega]; rfl
theorem fly_app (a b : List (Int × Int)) : flyD (a ++ b) = flyD a ++ flyD b := by unfold flyD; rw [List.flatMap_append]
theorem fly_erase (l : List (Int × Int)) (k : Nat) : flyD (l.eraseIdx k) = (flyD l).take (k * 2) ++ (flyD l).drop ((k + 1) * 2) := by
  rw [List.eraseIdx_eq_take_drop_succ, fly_app, fly_take, fly_drop]
theorem fly_plain (l : List (Int × Int)) : D.plainL (flyD l) = true := by
  induction l with
  | nil => rfl
  | cons x l ih => show D.plainL ([iD x.1, iD x.2] ++ flyD l) = true; simp only [List.cons_append, List.nil_append, D.plainL, D.plain, Bool.and_true, Bool.true_and]; exact ih
theorem del_dm (l : List (Int × Int)) (k : Nat) (hk : k < l.length) : DM Try.prog 38 none 1 [(0, some ⟨49, 2, l.length, flyD l⟩)] [.own 0 l.length, iD k, iD ((k : Int) + 1)] 1 [(0, some ⟨49, 2, l.length - 1, flyD (l.eraseIdx k)⟩)] (.own 0 (l.length - 1)) := by
  refine ⟨⟨_, Try.func38, by decide +kernel, by rfl⟩, fun w0 I0 ρ I w vs gm hl hv => ?_⟩
  obtain ⟨v0, v1, v2, rfl⟩ : ∃ v0 v1 v2, vs = [v0, v1, v2] := by
    match vs, hl with
    | [v0, v1, v2], _ => exact ⟨v0, v1, v2, rfl⟩
  obtain ⟨rfl, h0⟩ := own_eq (hv 0 _ v0 rfl rfl)
  have e1 := (hv 1 _ v1 rfl rfl).val_eq
  have e2 := (hv 2 _ v2 rfl rfl).val_eq
  subst e1 e2
  obtain ⟨hlt, ⟨us, ho, hx⟩, hnt⟩ := (gm.rows 0 _ rfl).parts
  cases hp : ρ 0 with
  | none => have := h0 hp; omega
  | some q =>
    obtain ⟨g, cap⟩ := q
    rw [hp] at ho
    have hIg := hnt g cap hp
    have hcap : cap ≤ 9223372036854775807 ∧ l.length ≤ cap := by
      rcases ho.2 with ⟨h', _⟩ | ⟨g', cap', cur, h', _, _, hnc, hcm, _, _⟩
      · simp [sv] at h'
      · simp only [sv, Value.slice.injEq, Option.some.injEq, Addr.mk.injEq, and_true, true_and] at h'
        obtain ⟨rfl, rfl⟩ := h'
        exact ⟨hcm, hnc⟩
    have hbase : w0.heap.size ≤ g := (ho.lt g rfl).1
    have hul : us.length = l.length * 2 := ho.1
    refine (del_raw w w0.heap.size g cap l.length k us ho (List.all_eq_true.2 hx.2.1) hk hcap.1 hcap.2).mono ?_
    rintro e w' ⟨rfl, rfl⟩
    obtain ⟨o1, g1⟩ := owns_put (w := w.drew) (us.drop ((k + 1) * 2)) us (k * 2) ho
    obtain ⟨o2, g2⟩ := owns_put [.int .i64 0, .int .i64 0] _ ((l.length - 1) * 2) _ o1
    have o3 := cut_row (m := l.length - 1) o2 (by show l.length - 1 ≤ l.length; omega)
    rw [del_cells hul hk] at o3
    have hg : w.grownBy _ (some g) := grown_trans (grown_trans (grown_drew (grown_refl w _)) g1) g2
    generalize (w.drew.setCells g (k * 2) (us.drop ((k + 1) * 2))).setCells g ((l.length - 1) * 2) [.int .i64 0, .int .i64 0] = w' at o3 hg ⊢
    refine ⟨_, ρ, I, rfl, ⟨gm.later.grown hg hbase, fun b hb => Nat.lt_of_lt_of_le (gm.lt b hb) hg.size, gm.base, fun b hb => ⟨(gm.old b hb).1, ?_⟩, fun b m hb => ?_, fun b m b' m' hb hb' => ?_⟩, (fun q hq => by cases hq), ?_⟩
    · rw [← (gm.old b hb).2]
      exact hg.block b (gm.lt b (gm.old b hb).1) (fun e => by cases e; exact hIg (gm.old _ hb).1)
    · have h' : cond (Nat.beq 0 b) (some (⟨49, 2, l.length - 1, flyD (l.eraseIdx k)⟩ : M)) none = some m := hb
      cases hb0 : Nat.beq 0 b with
      | false => rw [hb0] at h'; cases h'
      | true =>
        rw [hb0] at h'
        cases h'
        obtain rfl := Nat.eq_of_beq_eq_true hb0
        refine MemOk.mk' (us := us.take (k * 2) ++ us.drop ((k + 1) * 2)) (by omega) (by rw [hp]; exact o3) ⟨?_, ?_, fun j d u hd hu => ?_⟩ (fun gb c hk' hI => hnt gb c hk' hI)
        · rw [fly_erase]; simp only [List.length_append, List.length_take, List.length_drop, hx.1]
        · intro u hu
          rcases List.mem_append.1 hu with h | h
          · exact hx.2.1 u (List.mem_of_mem_take h)
          · exact hx.2.1 u (List.mem_of_mem_drop h)
        · rw [fly_erase] at hd
          have hL : (us.take (k * 2)).length = k * 2 := by simp; omega
          have hL2 : ((flyD l).take (k * 2)).length = k * 2 := by rw [List.length_take, fly_len]; omega
          by_cases hj : j < k * 2
          · rw [List.getElem?_append_left (by omega), List.getElem?_take, if_pos hj] at hd hu
            exact (hx.2.2 j d u hd hu).plain (plainL_mem (fly_plain l) _ _ hd)
          · rw [List.getElem?_append_right (by omega), hL2, List.getElem?_drop] at hd
            rw [List.getElem?_append_right (by omega), hL, List.getElem?_drop] at hu
            exact (hx.2.2 _ d u hd hu).plain (plainL_mem (fly_plain l) _ _ hd)
    · have k1 : ∀ b m, getM b [((0 : Nat), some (⟨49, 2, l.length - 1, flyD (l.eraseIdx k)⟩ : M))] = some m → b = 0 := fun b m hb => by
        have h' : cond (Nat.beq 0 b) (some (⟨49, 2, l.length - 1, flyD (l.eraseIdx k)⟩ : M)) none = some m := hb
        cases hb0 : Nat.beq 0 b with
        | false => rw [hb0] at h'; cases h'
        | true => exact (Nat.eq_of_beq_eq_true hb0).symm
      intro _ _ _ _ _
      rw [k1 b m hb, k1 b' m' hb']
    · have h := RA.own (ρ := ρ) (nb := 1) (I := I) (w := w') (b := 0) (n := l.length - 1) (by omega) (fun h => by rw [hp] at h; cases h)
      rw [hp] at h
      exact h
end Go.Proofs.Ytpomhnmfkdgafaa
