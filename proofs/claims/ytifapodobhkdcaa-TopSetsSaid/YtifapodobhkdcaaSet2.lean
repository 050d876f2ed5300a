/- Inner and outer parts, and what is turned, as sets (no program in sight but Meet's contract). -/
import Derived.Test.YtifapodobhkdcaaSet
import Derived.Test.YtifapodobhkdcaaDSl
namespace Go.Proofs.Ytifapodobhkdcaa
open Go.RowKit
set_option linter.unusedVariables false
set_option linter.unusedSimpArgs false
theorem memb_can {r : Rg} (h : vB r = true) (y : Int) : Memb (canonOf (rowOf r)) y ↔ Memb r y := by
  have hc : vB (canonOf (rowOf r)) = true := vB_true (canon_ok (vB_ok' h))
  rw [← memN_memb hc, ← memN_memb h, (memN_canon h).1]
theorem at_part (x : Rw) (i m j : Int) : atOf (partOf x i m) j = atOf x (i + j) := by
  unfold partOf atOf
  simp only
  rw [Int.add_mul]; omega
theorem take_sub {r : Rg} (h : vB r = true) (k : Int) : (takeRes r k).2 = 0 ∧ vB (takeRes r k).1 = true ∧ ∀ y, Memb (takeRes r k).1 y → Memb r y := by
  have hr := vB_ok' h
  obtain ⟨c1, c2, c3, c4, c5⟩ := cut_bd (rowOf_n_bd hr).1 k
  have hv := part_v hr c1 c2 c3
  have e : takeRes r k = (canonOf (partOf (rowOf r) (cutF (rowOf r) k) (cutN (rowOf r) k)), 0) := by
    unfold takeRes takeRow
    rw [if_pos h]
    obtain ⟨d1, d2⟩ := done_yes hv
    rw [d1, d2]
  rw [e]
  refine ⟨rfl, hv, fun y hy => ?_⟩
  obtain ⟨i, hi, hy⟩ := hy
  have hs : (partOf (rowOf r) (cutF (rowOf r) k) (cutN (rowOf r) k)).s ≠ 0 := (rowOf_small hr).2
  have hrow := row_norm (x := partOf (rowOf r) (cutF (rowOf r) k) (cutN (rowOf r) k)) c2 hs
  rw [hrow, norm_n'] at hi
  have hi2 : (i : Int) < cutN (rowOf r) k := hi
  rw [hrow, norm_at (by omega) hi, at_part] at hy
  refine ⟨(cutF (rowOf r) k + i).toNat, by omega, ?_⟩
  rw [Int.toNat_of_nonneg (by omega)]
  exact hy
theorem inner_sub {r : Rg} (h : vB r = true) (n : Int) : ∀ y, placeB (rowOf (innerRes r n).1) y = true → placeB (rowOf r) y = true := fun y hy => by
  unfold innerRes at hy
  have key : ∀ k, placeB (rowOf (takeRes r k).1) y = true → placeB (rowOf r) y = true := fun k hk => by
    obtain ⟨_, t2, t3⟩ := take_sub h k
    exact (memb_place (vB_ok' h) y).1 (t3 y ((memb_place (vB_ok' t2) y).2 hk))
  split at hy
  · exact hy
  · split at hy
    · exact key _ hy
    · exact key _ hy
theorem each_ok {L : List (Rg × Int)} (h : (eachRes L).2 = 0) : domB (L.map (·.1)) = true ∧ eachRes L = (canonRs (L.map (·.1)), 0) ∧ ∀ p ∈ L, p.2 = 0 := by
  unfold eachRes at h ⊢
  split at h
  · cases h
  · rename_i h1
    split at h
    · cases h
    · rename_i h2
      rw [if_neg h1, if_neg h2]
      unfold dCanonRes at h ⊢
      split at h
      · rename_i hd
        refine ⟨hd, by rw [if_pos hd], fun p hp => ?_⟩
        apply Classical.byContradiction
        intro hne
        exact h2 (List.any_eq_true.2 ⟨p, hp, decide_eq_true hne⟩)
      · cases h
theorem zip_sub {F : Rg → Int → Rg × Int} : ∀ {cs : List Rg} {b : List Int}, (∀ c ∈ cs, ∀ n y, placeB (rowOf (F c n).1) y = true → placeB (rowOf c) y = true) → cs.length = b.length → ∀ x, inB ((List.zipWith F cs b).map (·.1)) x = true → inB cs x = true
  | [], [], _, _, x, h => h
  | c :: cs, n :: b, hF, hl, [], h => by cases h
  | c :: cs, n :: b, hF, hl, y :: xt, h => by
    have h1 : (placeB (rowOf (F c n).1) y && inB ((List.zipWith F cs b).map (·.1)) xt) = true := h
    rw [Bool.and_eq_true] at h1
    show (placeB (rowOf c) y && inB cs xt) = true
    rw [Bool.and_eq_true]
    exact ⟨hF c (by simp) n y h1.1, zip_sub (fun c hc => hF c (by simp [hc])) (by simpa using hl) xt h1.2⟩
/-- the inner part is within -/
theorem interior_in {a : List Rg} {b : List Int} (h : (moveRes innerRes a b).2 = 0) : domB a = true ∧ dWithinRes (moveRes innerRes a b).1 a = (true, 0) := by
  unfold moveRes at h ⊢
  split at h
  · rename_i hh
    obtain ⟨hd, hl⟩ := hh
    rw [if_pos ⟨hd, hl⟩]
    obtain ⟨e1, e2, e3⟩ := each_ok h
    rw [e2]
    have hlen : (List.zipWith innerRes (canonRs a) b).length = a.length := zip_len innerRes hl
    obtain ⟨d1, d2⟩ := dom_can e1
    have hv := (canonRs_facts hd).2.1
    have htw : twoRes (canonRs ((List.zipWith innerRes (canonRs a) b).map (·.1))) a = 0 := twoRes_0.2 ⟨d1, hd, by simp [canonRs, hl]⟩
    refine ⟨hd, ?_⟩
    unfold dWithinRes
    rw [if_pos htw]
    refine Prod.ext (decide_eq_true fun x hx => ?_) rfl
    have h1 := (inB_mem (domB_iff.1 d1).2.1 x).2 hx
    rw [inB_can e1] at h1
    have h2 := zip_sub (fun c hc n y => inner_sub (hv c hc).1 n y) (by simp [canonRs, hl]) x h1
    rwa [inB_can hd] at h2
  · rename_i hh
    unfold askedD at h
    exfalso
    split at h
    · split at h
      · rename_i q1 q2; exact hh ⟨q1, q2⟩
      · omega
    · omega
/-! ### what lies beyond -/
theorem outer_apart {c : Rg} (hv : vB c = true) (hn : 1 ≤ (rowOf c).n) {n : Int} (h0 : n ≠ 0) (he : (outerRes c n).2 = 0) : vB (outerRes c n).1 = true ∧ ∀ y, Memb (outerRes c n).1 y → ¬ Memb c y := by
  have hc := vB_ok' hv
  obtain ⟨_, _, _, _, s1, s2, s3⟩ := hc
  unfold outerRes at he ⊢
  rw [if_neg (by omega)] at he ⊢
  split at he
  · cases he
  · rename_i hb
    rw [if_neg hb]
    have hvr : vB (outerRg c n) = true := by
      unfold canonRes at he
      split at he
      · assumption
      · cases he
    rw [show canonRes (outerRg c n) = (canonOf (rowOf (outerRg c n)), 0) from if_pos hvr]
    refine ⟨vB_true (canon_ok (vB_ok' hvr)), fun y hy hm => ?_⟩
    rw [memb_can hvr] at hy
    obtain ⟨i, hi, hy⟩ := hy
    obtain ⟨j, hj, hm⟩ := hm
    have es : (rowOf c).s = c.st := rfl
    have hF : firstR c = (rowOf c).f := by unfold firstR atOf; simp
    have hL : lastR c = (rowOf c).f + ((rowOf c).n - 1) * c.st := by unfold lastR atOf; rw [es]
    have hst : (outerRg c n).st = c.st := by unfold outerRg; split <;> split <;> rfl
    have hsr : (rowOf (outerRg c n)).s = c.st := hst
    have hy2 : (rowOf (outerRg c n)).f + (i : Int) * c.st = y := by rw [← hy]; unfold atOf; rw [hsr]
    have hm2 : (rowOf c).f + (j : Int) * c.st = y := by rw [← hm]; unfold atOf; rw [es]
    have key : ∀ q : Int, (rowOf (outerRg c n)).f = (rowOf c).f + q * c.st → q + i = j := fun q hq => by
      have h1 : (q + i - j) * c.st = 0 := by rw [Int.sub_mul, Int.add_mul]; omega
      rcases Int.mul_eq_zero.1 h1 with h | h
      · omega
      · exact absurd h s3
    by_cases hneg : n < 0
    · have hf : (rowOf (outerRg c n)).f = (rowOf c).f + n * c.st := by
        by_cases hs : c.st < 0
        · rw [rowOf_f1 (by rw [hst]; exact hs)]
          unfold outerRg
          rw [if_pos hneg, if_pos hs, hF]
        · rw [rowOf_f0 (by rw [hst]; omega)]
          unfold outerRg
          rw [if_pos hneg, if_neg hs, hF]
      have hk := key n hf
      have hnn : (rowOf (outerRg c n)).n = -n := by
        by_cases hs : c.st < 0
        · have e : outerRg c n = ⟨firstR c - c.st, firstR c + n * c.st, c.st⟩ := by unfold outerRg; rw [if_pos hneg, if_pos hs]
          rw [e]
          refine (ck (k := -n) (by omega) s3 ?_).1
          rw [absI_neg hs, show (-n - 1) * -c.st = n * c.st + c.st by rw [Int.mul_neg, Int.sub_mul, Int.neg_mul]; omega]; omega
        · have e : outerRg c n = ⟨firstR c + n * c.st, firstR c - c.st, c.st⟩ := by unfold outerRg; rw [if_pos hneg, if_neg hs]
          rw [e]
          refine (ck (k := -n) (by omega) s3 ?_).1
          rw [absI_pos (by omega), show (-n - 1) * c.st = -(n * c.st) - c.st by rw [Int.sub_mul, Int.neg_mul]; omega]; omega
      rw [hnn] at hi
      omega
    · have hf : (rowOf (outerRg c n)).f = (rowOf c).f + (rowOf c).n * c.st := by
        have e2 : (rowOf c).f + (rowOf c).n * c.st = lastR c + c.st := by rw [hL, Int.sub_mul]; omega
        rw [e2]
        by_cases hs : c.st < 0
        · rw [rowOf_f1 (by rw [hst]; exact hs)]
          unfold outerRg
          rw [if_neg hneg, if_pos hs]
        · rw [rowOf_f0 (by rw [hst]; omega)]
          unfold outerRg
          rw [if_neg hneg, if_neg hs]
      have hk := key _ hf
      omega
/-- Meet of two domains whose ranges have no error, one of them with no number in common -/
theorem meet_none_dom {a b : List Rg} (h : twoRes a b = 0) {L : List (Rg × Int)} (hL : MeetL a b L) (he : ∀ k (hk : k < L.length), L[k].2 = 0) {k0 : Nat} (hk0 : k0 < L.length) (h0 : cN L[k0].1 = 0) :
    (meetRes L).2 = 0 ∧ dCountRes (meetRes L).1 = (0, 0) := by
  obtain ⟨ha, hb, hl⟩ := twoRes_0.1 h
  have ho : ovMB L = false := by
    rw [ovMB, List.any_eq_false]
    intro p hp
    obtain ⟨k, hk, rfl⟩ := List.mem_iff_getElem.1 hp
    simp [he k hk]
  have hem : emMB L = true := List.any_eq_true.2 ⟨L[k0], List.getElem_mem hk0, by simp [he k0 hk0, h0]⟩
  have hd := meetL_dom0 hl (domB_iff.1 ha).1 hL ho hem
  have e : meetRes L = (canonRs (L.map (·.1)), 0) := by
    unfold meetRes
    rw [if_neg (by rw [ho]; decide), dCanonRes, if_pos hd]
  rw [e]
  refine ⟨rfl, ?_⟩
  have hz : prodN (cl (L.map (·.1))) = 0 := by
    rw [prodN_zero]
    exact List.mem_map.2 ⟨L[k0].1, List.mem_map.2 ⟨L[k0], List.getElem_mem hk0, rfl⟩, h0⟩
  obtain ⟨d1, d2⟩ := dom_can hd
  have hz2 : prodN (cl (canonRs (L.map (·.1)))) = 0 := by rw [← idxs_len, (canonRs_facts hd).2.2.2, idxs_len, hz]
  unfold dCountRes
  rw [if_pos d1]
  show (((prodN (cl (canonRs (L.map (·.1)))) : Nat) : Int), (0 : Int)) = (0, 0)
  rw [hz2]; rfl
/-- the outer part meets it nowhere -/
theorem exterior_out {a : List Rg} {b : List Int} (h : (moveRes outerRes a b).2 = 0) {k0 : Nat} (hk0 : k0 < b.length) (hb0 : b[k0] ≠ 0) : domB a = true ∧ twoRes (moveRes outerRes a b).1 a = 0 ∧
    ∀ L, MeetL (moveRes outerRes a b).1 a L → (meetRes L).2 = 0 ∧ dCountRes (meetRes L).1 = (0, 0) := by
  unfold moveRes at h ⊢
  split at h
  case isFalse hh =>
    unfold askedD at h
    exfalso
    split at h
    · split at h
      · rename_i q1 q2; exact hh ⟨q1, q2⟩
      · omega
    · omega
  rename_i hh
  obtain ⟨hd, hl⟩ := hh
  rw [if_pos ⟨hd, hl⟩]
  obtain ⟨e1, e2, e3⟩ := each_ok h
  rw [e2]
  obtain ⟨d1, d2⟩ := dom_can e1
  have hlen : (List.zipWith outerRes (canonRs a) b).length = a.length := zip_len outerRes hl
  have hcl : (canonRs a).length = a.length := by simp [canonRs]
  have htw : twoRes (canonRs ((List.zipWith outerRes (canonRs a) b).map (·.1))) a = 0 := twoRes_0.2 ⟨d1, hd, by simp [canonRs, hl]⟩
  refine ⟨hd, htw, fun L hL => ?_⟩
  have hLl : L.length = a.length := by rw [hL.len]; simp [canonRs, hl]
  have hva := (domB_iff.1 hd).2.1
  by_cases hz : prodN (cl a) = 0
  · -- no index at all
    have hrep : canonRs a = List.replicate a.length ⟨1, 0, 1⟩ := by
      rcases cl_canon hd with ⟨_, e⟩ | ⟨e, _⟩
      · exact e
      · exact absurd hz e
    have hm : (List.zipWith outerRes (canonRs a) b).map (·.1) = canonRs a := by
      refine List.ext_getElem (by rw [List.length_map, hlen, hcl]) fun i h1 h2 => ?_
      have e : (canonRs a)[i] = ⟨1, 0, 1⟩ := by simp only [hrep, List.getElem_replicate]
      rw [List.getElem_map, List.getElem_zipWith, e]
      unfold outerRes
      rw [if_pos (.inr row_none0)]
    rw [hm, (dom_can hd).2] at hL htw
    have hc0 : ∀ k (hk : k < (canonRs a).length), (canonRs a)[k] = ⟨1, 0, 1⟩ := fun k hk => by simp only [hrep, List.getElem_replicate]
    have one : ∀ k (hk : k < L.length), L[k].2 = 0 ∧ L[k].1 = ⟨1, 0, 1⟩ := fun k hk => by
      have hkc : k < (canonRs a).length := by omega
      have hka : k < a.length := by omega
      have hI := hL.is k hk hkc hka
      rw [hc0 k hkc] at hI
      exact meet_apart hI (by decide) (hva _ (List.getElem_mem hka)) (fun i hi => by rw [row_none0] at hi; omega)
    have hk1 : k0 < L.length := by omega
    exact meet_none_dom htw hL (fun k hk => (one k hk).1) hk1 (by rw [(one k0 hk1).2]; exact none_c)
  · have hca := canonRs_ends hd hz
    have hmk : ∀ k (hk : k < a.length), (outerRes ((canonRs a)[k]'(by omega)) (b[k]'(by omega))).2 = 0 := fun k hk => by
      have := e3 ((List.zipWith outerRes (canonRs a) b)[k]'(by omega)) (List.getElem_mem _)
      rwa [List.getElem_zipWith] at this
    have hcan : ∀ k (hk : k < a.length), Memb ((canonRs a)[k]'(by omega)) = Memb a[k] := fun k hk => funext fun y => propext (by
      have e : (canonRs a)[k]'(by omega) = canonOf (rowOf a[k]) := by
        rcases cl_canon hd with ⟨e, _⟩ | ⟨_, e, _⟩
        · exact absurd e hz
        · simp only [e, List.getElem_map]
      rw [e]
      exact memb_can (hva _ (List.getElem_mem hk)) y)
    have hmv : ∀ k (hk : k < a.length), vB (outerRes ((canonRs a)[k]'(by omega)) (b[k]'(by omega))).1 = true ∧ 1 ≤ cN (outerRes ((canonRs a)[k]'(by omega)) (b[k]'(by omega))).1 := fun k hk => by
      have hc := hca _ (List.getElem_mem (show k < (canonRs a).length by omega))
      have := (outer_be hc.1 hc.2.1 hc.2.2 b[k]).2.2.2 (hmk k hk)
      exact ⟨this.1, this.2.1⟩
    have hmz : prodN (cl ((List.zipWith outerRes (canonRs a) b).map (·.1))) ≠ 0 := fun e => by
      rw [prodN_zero] at e
      obtain ⟨r, hr, hr0⟩ := List.mem_map.1 e
      obtain ⟨p, hp, rfl⟩ := List.mem_map.1 hr
      obtain ⟨k, hk, rfl⟩ := List.mem_iff_getElem.1 hp
      rw [List.getElem_zipWith] at hr0
      have := (hmv k (by omega)).2
      omega
    have hdk : ∀ k (hk : k < a.length) (h2 : k < (canonRs ((List.zipWith outerRes (canonRs a) b).map (·.1))).length), (canonRs ((List.zipWith outerRes (canonRs a) b).map (·.1)))[k] = canonOf (rowOf (outerRes ((canonRs a)[k]'(by omega)) (b[k]'(by omega))).1) := fun k hk h2 => by
      rcases cl_canon e1 with ⟨e, _⟩ | ⟨_, e, _⟩
      · exact absurd e hmz
      · simp only [e, List.getElem_map, List.getElem_zipWith]
    have one : ∀ k (hk : k < L.length), L[k].2 = 0 ∧ (b[k]'(by omega) ≠ 0 → L[k].1 = ⟨1, 0, 1⟩) := fun k hk => by
      have hka : k < a.length := by omega
      have hkd : k < (canonRs ((List.zipWith outerRes (canonRs a) b).map (·.1))).length := by simp [canonRs, hl]; omega
      have hI := hL.is k hk hkd hka
      have hvd := (domB_iff.1 d1).2.1 _ (List.getElem_mem hkd)
      have hc := hca _ (List.getElem_mem (show k < (canonRs a).length by omega))
      rw [hdk k hka hkd] at hI hvd
      by_cases hb : b[k]'(by omega) = 0
      · refine ⟨meet_whole hI hvd (hva _ (List.getElem_mem hka)) fun i hi => ?_, fun hne => absurd hb hne⟩
        have hm : Memb (canonOf (rowOf (outerRes ((canonRs a)[k]'(by omega)) (b[k]'(by omega))).1)) (atOf (rowOf (canonOf (rowOf (outerRes ((canonRs a)[k]'(by omega)) (b[k]'(by omega))).1))) i) := ⟨i, hi, rfl⟩
        rw [memb_can (hmv k hka).1] at hm
        have e : (outerRes ((canonRs a)[k]'(by omega)) (b[k]'(by omega))).1 = (canonRs a)[k]'(by omega) := by unfold outerRes; rw [if_pos (.inl hb)]
        rw [e, hcan k hka] at hm
        rw [e]
        exact hm
      · obtain ⟨o1, o2⟩ := outer_apart hc.1 hc.2.1 hb (hmk k hka)
        have := meet_apart hI hvd (hva _ (List.getElem_mem hka)) fun i hi hm => by
          have hm2 : Memb (canonOf (rowOf (outerRes ((canonRs a)[k]'(by omega)) (b[k]'(by omega))).1)) (atOf (rowOf (canonOf (rowOf (outerRes ((canonRs a)[k]'(by omega)) (b[k]'(by omega))).1))) i) := ⟨i, hi, rfl⟩
          rw [memb_can o1] at hm2
          refine o2 _ hm2 ?_
          rw [hcan k hka]; exact hm
        exact ⟨this.1, fun _ => this.2⟩
    have hk1 : k0 < L.length := by omega
    exact meet_none_dom htw hL (fun k hk => (one k hk).1) hk1 (by rw [(one k0 hk1).2 hb0]; exact none_c)
/-- turned twice -/
theorem turn_twice {a : List Rg} (h : domB a = true) : tspRes a = ((canonRs a).reverse, 0) ∧ tspRes (canonRs a).reverse = (canonRs a, 0) := by
  obtain ⟨d1, d2⟩ := dom_can h
  refine ⟨if_pos h, ?_⟩
  unfold tspRes
  rw [if_pos (by rw [domB_rev]; exact d1), canonRs_rev, d2, List.reverse_reverse]
end Go.Proofs.Ytifapodobhkdcaa
