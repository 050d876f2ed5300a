/- Shift, Expand, Interior and Exterior of domains, of the program and of the reference, by the abstract machine. -/
import Derived.Test.YtifapodobhkdcaaE4
import Derived.Test.YtifapodobhkdcaaR4
import Derived.Test.YtifapodobhkdcaaE5
import Derived.Test.YtifapodobhkdcaaE7
import Derived.Test.YtifapodobhkdcaaE3
namespace Go.Proofs.Ytifapodobhkdcaa
set_option linter.unusedVariables false
set_option maxHeartbeats 16000000
set_option linter.unusedSimpArgs false
theorem ck {lo hi st k : Int} (hk : 1 ≤ k) (hs : st ≠ 0) (hh : hi = lo + (k - 1) * absI st) : (rowOf ⟨lo, hi, st⟩).n = k ∧ canonOf (rowOf ⟨lo, hi, st⟩) = ⟨lo, hi, if k = 1 then 1 else st⟩ := by
  have ha := absI_pos' hs
  have h0 : 0 ≤ (k - 1) * absI st := Int.mul_nonneg (by omega) (by omega)
  have hn : (rowOf ⟨lo, hi, st⟩).n = k := by
    rw [rowOf_n1 (show lo ≤ hi by omega)]
    show (hi - lo) / absI st + 1 = k
    rw [show hi - lo = (k - 1) * absI st by omega, Int.mul_ediv_cancel _ (by omega)]; omega
  refine ⟨hn, ?_⟩
  by_cases h1 : k = 1
  · rw [if_pos h1, canonOf_1 (by omega)]
    subst h1
    simp only [Int.sub_self, Int.zero_mul, Int.add_zero] at hh
    subst hh
    unfold rowOf
    simp
  · rw [if_neg h1]
    have es : (rowOf ⟨lo, hi, st⟩).s = st := rfl
    obtain ⟨l1, l2, l3⟩ := lastOf_abs (x := rowOf ⟨lo, hi, st⟩) (by omega) (by rw [es]; exact hs)
    rw [hn, es] at l1
    rw [es] at l2 l3
    by_cases hc : st < 0
    · have hf : (rowOf ⟨lo, hi, st⟩).f = hi := rowOf_f1 hc
      rw [canonOf_down (by omega) (l3 hc), es]
      rw [if_neg (l3 hc), hf] at l1
      rw [hf]
      exact Rg.ext' (by simp only; omega) rfl rfl
    · have hf : (rowOf ⟨lo, hi, st⟩).f = lo := rowOf_f0 (by show 0 < st; omega)
      rw [canonOf_up (by omega) (l2 (by omega)), es]
      rw [if_pos (l2 (by omega)), hf] at l1
      rw [hf]
      exact Rg.ext' rfl (by simp only; omega) rfl
/-- a canonical range that has members stands between its ends -/
theorem canon_ends {r : Rg} (hv : vB r = true) (hn : 1 ≤ (rowOf r).n) : (1 ≤ (rowOf (canonOf (rowOf r))).n) ∧ ((canonOf (rowOf r)).st < 0 → firstR (canonOf (rowOf r)) = (canonOf (rowOf r)).hi ∧ lastR (canonOf (rowOf r)) = (canonOf (rowOf r)).lo) ∧ (¬ (canonOf (rowOf r)).st < 0 → firstR (canonOf (rowOf r)) = (canonOf (rowOf r)).lo ∧ lastR (canonOf (rowOf r)) = (canonOf (rowOf r)).hi) := by
  have hr := vB_ok' hv
  have hs := (rowOf_small hr).2
  have e := row_norm (x := rowOf r) (by omega) hs
  unfold firstR lastR
  rw [e]
  by_cases h1 : (rowOf r).n = 1
  · rw [canonOf_1 h1]
    have en : normOf (rowOf r) = ⟨(rowOf r).f, 1, 1⟩ := by unfold normOf; rw [if_neg (by omega), if_pos h1]
    rw [en]
    refine ⟨by simp, fun h => by simp at h, fun _ => by simp [atOf]⟩
  · have en : normOf (rowOf r) = rowOf r := by unfold normOf; rw [if_neg (by omega), if_neg h1]
    rw [en]
    obtain ⟨l1, l2, l3⟩ := lastOf_abs (x := rowOf r) (by omega) hs
    have el : atOf (rowOf r) ((rowOf r).n - 1) = lastOf (rowOf r) := rfl
    have ef : atOf (rowOf r) 0 = (rowOf r).f := by unfold atOf; omega
    rw [el, ef]
    by_cases hc : (rowOf r).s < 0
    · rw [canonOf_down (by omega) (l3 hc)]
      exact ⟨hn, fun _ => ⟨rfl, rfl⟩, fun h => absurd hc h⟩
    · rw [canonOf_up (by omega) (l2 (by omega))]
      exact ⟨hn, fun h => absurd h hc, fun _ => ⟨rfl, rfl⟩⟩
theorem vB_st {lo hi st st' : Int} (h : st ≠ 0) (h1 : -1000 ≤ st) (h2 : st ≤ 1000) (h' : st' ≠ 0) (h1' : -1000 ≤ st') (h2' : st' ≤ 1000) : vB ⟨lo, hi, st⟩ = vB ⟨lo, hi, st'⟩ := by
  have key : ∀ a b : Int, a ≠ 0 → -1000 ≤ a → a ≤ 1000 → b ≠ 0 → -1000 ≤ b → b ≤ 1000 → vB ⟨lo, hi, a⟩ = true → vB ⟨lo, hi, b⟩ = true := fun a b a0 a1 a2 b0 b1 b2 hv => by
    obtain ⟨h1, h2, h3, h4, _⟩ := vB_ok' hv
    exact vB_true ⟨h1, h2, h3, h4, b1, b2, b0⟩
  rw [Bool.eq_iff_iff]
  exact ⟨key _ _ h h1 h2 h' h1' h2', key _ _ h' h1' h2' h h1 h2⟩
/-- what both make of a canonical range that has members -/
theorem outer_shape {c : Rg} (hv : vB c = true) (hn : 1 ≤ (rowOf c).n) (he : (c.st < 0 → firstR c = c.hi ∧ lastR c = c.lo) ∧ (¬ c.st < 0 → firstR c = c.lo ∧ lastR c = c.hi)) {n : Int} (h0 : n ≠ 0) :
    ∃ lo hi k, 1 ≤ k ∧ (k = n ∨ k = -n) ∧ hi = lo + (k - 1) * absI c.st ∧ outerRg c n = ⟨lo, hi, c.st⟩ ∧ beRg c n = ⟨lo, hi, if k = 1 then 1 else c.st⟩ := by
  unfold outerRg beRg
  by_cases h1 : n < 0 <;> by_cases h2 : c.st < 0
  · obtain ⟨e1, e2⟩ := he.1 h2
    rw [if_pos h1, if_pos h2, if_neg (by omega), if_pos h2, e1]
    refine ⟨c.hi - c.st, c.hi + n * c.st, -n, by omega, .inr rfl, ?_, rfl, ?_⟩
    · rw [absI_neg h2, show (-n - 1) * -c.st = n * c.st + c.st by rw [Int.mul_neg, Int.sub_mul, Int.neg_mul]; omega]; omega
    · exact Rg.ext' (by simp only; omega) rfl (by simp only; split <;> split <;> first | rfl | omega)
  · obtain ⟨e1, e2⟩ := he.2 h2
    rw [if_pos h1, if_neg h2, if_neg (by omega), if_neg h2, e1]
    refine ⟨c.lo + n * c.st, c.lo - c.st, -n, by omega, .inr rfl, ?_, rfl, ?_⟩
    · rw [absI_pos (by omega), show (-n - 1) * c.st = -(n * c.st) - c.st by rw [Int.sub_mul, Int.neg_mul]; omega]; omega
    · exact Rg.ext' rfl (by simp only; omega) (by simp only; split <;> split <;> first | rfl | omega)
  · obtain ⟨e1, e2⟩ := he.1 h2
    rw [if_neg h1, if_pos h2, if_pos (by omega), if_pos h2, e2]
    refine ⟨c.lo + n * c.st, c.lo + c.st, n, by omega, .inl rfl, ?_, rfl, rfl⟩
    rw [absI_neg h2, show (n - 1) * -c.st = -(n * c.st) + c.st by rw [Int.mul_neg, Int.sub_mul]; omega]; omega
  · obtain ⟨e1, e2⟩ := he.2 h2
    rw [if_neg h1, if_neg h2, if_pos (by omega), if_neg h2, e2]
    refine ⟨c.hi + c.st, c.hi + n * c.st, n, by omega, .inl rfl, ?_, rfl, rfl⟩
    rw [absI_pos (by omega), show (n - 1) * c.st = n * c.st - c.st by rw [Int.sub_mul]; omega]; omega
/-- the same, up to 4096; and beyond that as many members -/
theorem outer_be {c : Rg} (hv : vB c = true) (hn : 1 ≤ (rowOf c).n) (he : (c.st < 0 → firstR c = c.hi ∧ lastR c = c.lo) ∧ (¬ c.st < 0 → firstR c = c.lo ∧ lastR c = c.hi)) (n : Int) :
    (-4096 ≤ n ∧ n ≤ 4096 → outerRes c n = beRes c n) ∧ ((outerRes c n).2 ≠ 2 ∧ (beRes c n).2 ≠ 2) ∧ ((n < -4096 ∨ 4096 < n) → (beRes c n).2 = 30) ∧ ((outerRes c n).2 = 0 → vB (outerRes c n).1 = true ∧ 1 ≤ cN (outerRes c n).1 ∧ ((n < -4096 ∨ 4096 < n) → 4096 < cN (outerRes c n).1)) := by
  by_cases h0 : n = 0
  · have e1 : outerRes c n = (c, 0) := if_pos (.inl h0)
    have e2 : beRes c n = (c, 0) := if_pos h0
    rw [e1, e2]
    refine ⟨fun _ => rfl, by simp, fun h => by omega, fun _ => ⟨hv, ?_, fun h => by omega⟩⟩
    show 1 ≤ (rowOf c).n.toNat
    omega
  obtain ⟨_, _, _, _, s1, s2, s3⟩ := vB_ok' hv
  obtain ⟨lo, hi, k, k1, k2, hh, eo, eb⟩ := outer_shape hv hn he h0
  obtain ⟨c1, c2⟩ := ck (st := c.st) k1 s3 hh
  have eO : outerRes c n = if n < -2000000 ∨ 2000000 < n then (⟨0, 0, 0⟩, 30) else canonRes ⟨lo, hi, c.st⟩ := by
    unfold outerRes; rw [if_neg (by omega), eo]
  have eB : beRes c n = if n < -4096 ∨ 4096 < n then (⟨0, 0, 0⟩, 30) else if vB ⟨lo, hi, if k = 1 then 1 else c.st⟩ = true then (⟨lo, hi, if k = 1 then 1 else c.st⟩, 0) else (⟨0, 0, 0⟩, 30) := by
    unfold beRes; rw [if_neg h0, eb]
  have hvv : vB ⟨lo, hi, if k = 1 then 1 else c.st⟩ = vB ⟨lo, hi, c.st⟩ := by
    split
    · exact vB_st (by decide) (by decide) (by decide) s3 s1 s2
    · rfl
  refine ⟨fun hb => ?_, ⟨?_, ?_⟩, fun hb => ?_, fun hz => ?_⟩
  · rw [eO, eB, if_neg (by omega), if_neg (by omega), hvv]
    unfold canonRes
    rw [c2]
  · rw [eO]; unfold canonRes; repeat' split
    all_goals simp
  · rw [eB]; repeat' split
    all_goals simp
  · rw [eB, if_pos hb]
  · rw [eO] at hz ⊢
    by_cases hb : n < -2000000 ∨ 2000000 < n
    · rw [if_pos hb] at hz; cases hz
    · rw [if_neg hb] at hz ⊢
      unfold canonRes at hz ⊢
      by_cases hvr : vB ⟨lo, hi, c.st⟩ = true
      · rw [if_pos hvr]
        have hm := (memN_canon hvr).2
        have hc : cN (canonOf (rowOf ⟨lo, hi, c.st⟩)) = k.toNat := by rw [hm]; unfold cN; rw [c1]
        refine ⟨vB_true (canon_ok (vB_ok' hvr)), ?_, fun h => ?_⟩
        · show 1 ≤ cN (canonOf (rowOf ⟨lo, hi, c.st⟩))
          omega
        · show 4096 < cN (canonOf (rowOf ⟨lo, hi, c.st⟩))
          omega
      · rw [if_neg hvr] at hz; cases hz
theorem prod_big {l : List Nat} (h : ∀ n ∈ l, 1 ≤ n) {q : Nat} (hq : q ∈ l) : q ≤ prodN l := by
  induction l with
  | nil => simp at hq
  | cons a l ih =>
    have h1 : 1 ≤ prodN l := by
      have : 0 ∉ l := fun h0 => by have := h 0 (by simp [h0]); omega
      have := prodN_le this 0
      simp [prodN] at this
      exact this
    have h2 := h a (by simp)
    show q ≤ a * prodN l
    rcases List.mem_cons.1 hq with rfl | hq
    · exact Nat.le_mul_of_pos_right _ (by omega)
    · exact Nat.le_trans (ih (fun n hn => h n (by simp [hn])) hq) (Nat.le_mul_of_pos_left _ (by omega))
/-- the outer parts are the same, dimension by dimension or as a whole -/
theorem ext_same {cs : List Rg} {b : List Int} (hl : cs.length = b.length) (hc : ∀ c ∈ cs, vB c = true ∧ 1 ≤ (rowOf c).n ∧ (c.st < 0 → firstR c = c.hi ∧ lastR c = c.lo) ∧ (¬ c.st < 0 → firstR c = c.lo ∧ lastR c = c.hi)) : eachRes (List.zipWith outerRes cs b) = eachRes (List.zipWith beRes cs b) := by
  have hF : ∀ j (h1 : j < cs.length) (h2 : j < b.length), _ := fun j h1 h2 => outer_be (hc _ (List.getElem_mem h1)).1 (hc _ (List.getElem_mem h1)).2.1 (hc _ (List.getElem_mem h1)).2.2 b[j]
  by_cases hall : ∀ j (h : j < b.length), -4096 ≤ b[j] ∧ b[j] ≤ 4096
  · refine eachRes_congr (by simp) fun j h1 h2 => ?_
    simp only [List.length_zipWith] at h1
    rw [List.getElem_zipWith, List.getElem_zipWith]
    exact (hF j (by omega) (by omega)).1 (hall j (by omega))
  · obtain ⟨q, hq, hbad⟩ : ∃ q, ∃ h : q < b.length, b[q] < -4096 ∨ 4096 < b[q] := by
      apply Classical.byContradiction
      intro hno
      exact hall fun j h => by
        apply Classical.byContradiction
        intro hh
        exact hno ⟨j, h, by omega⟩
    have n2 : ∀ (F : Rg → Int → Rg × Int), (∀ j (h1 : j < cs.length) (h2 : j < b.length), (F cs[j] b[j]).2 ≠ 2) → ((List.zipWith F cs b).any fun p => decide (p.2 = 2)) = false := fun F h => any_not fun j hj => by
      simp only [List.length_zipWith] at hj
      rw [List.getElem_zipWith]
      exact decide_eq_false (h j (by omega) (by omega))
    have er : eachRes (List.zipWith beRes cs b) = ([], 40) := by
      unfold eachRes
      rw [n2 beRes fun j h1 h2 => (hF j h1 h2).2.1.2, if_neg (by decide), if_pos]
      refine any_yes (q := q) (by simp only [List.length_zipWith]; omega) ?_
      rw [List.getElem_zipWith]
      rw [(hF q (by omega) hq).2.2.1 hbad]; decide
    rw [er]
    unfold eachRes
    rw [n2 outerRes fun j h1 h2 => (hF j h1 h2).2.1.1, if_neg (by decide)]
    by_cases hz : ((List.zipWith outerRes cs b).any fun p => decide (p.2 ≠ 0)) = true
    · rw [if_pos hz]
    · rw [if_neg hz]
      have hz' : ∀ j (h1 : j < cs.length) (h2 : j < b.length), (outerRes cs[j] b[j]).2 = 0 := fun j h1 h2 => by
        apply Classical.byContradiction
        intro hne
        refine hz (any_yes (q := j) (by simp only [List.length_zipWith]; omega) ?_)
        rw [List.getElem_zipWith]; exact decide_eq_true hne
      unfold dCanonRes
      refine if_neg fun hd => ?_
      have hp := (domB_iff.1 hd).2.2
      have hone : ∀ n ∈ cl ((List.zipWith outerRes cs b).map (·.1)), 1 ≤ n := fun n hn => by
        unfold cl at hn
        rw [List.map_map] at hn
        obtain ⟨p, hp, rfl⟩ := List.mem_map.1 hn
        obtain ⟨j, hj, rfl⟩ := List.getElem_of_mem hp
        simp only [List.length_zipWith] at hj
        rw [List.getElem_zipWith]
        exact ((hF j (by omega) (by omega)).2.2.2 (hz' j (by omega) (by omega))).2.1
      have hin : cN (outerRes (cs[q]'(by omega)) b[q]).1 ∈ cl ((List.zipWith outerRes cs b).map (·.1)) := by
        unfold cl
        rw [List.map_map]
        refine List.mem_map.2 ⟨outerRes (cs[q]'(by omega)) b[q], ?_, rfl⟩
        have : (List.zipWith outerRes cs b)[q]'(by simp only [List.length_zipWith]; omega) = outerRes (cs[q]'(by omega)) b[q] := List.getElem_zipWith ..
        rw [← this]
        exact List.getElem_mem _
      have := prod_big hone hin
      have := ((hF q (by omega) hq).2.2.2 (hz' q (by omega) hq)).2.2 hbad
      omega
end Go.Proofs.Ytifapodobhkdcaa
namespace Go.Proofs.Ytifapodobhkdcaa
open Go.RowKit
set_option linter.unusedVariables false
set_option maxHeartbeats 16000000
set_option linter.unusedSimpArgs false
set_option maxRecDepth 100000
def moveRes (F : Rg → Int → Rg × Int) (rs : List Rg) (b : List Int) : List Rg × Int := if domB rs = true ∧ b.length = rs.length then eachRes (List.zipWith F (canonRs rs) b) else ([], askedD rs b)
theorem row_none0 : (rowOf ⟨1, 0, 1⟩).n = 0 := by decide
theorem canonRs_len (rs : List Rg) : (canonRs rs).length = rs.length := by simp [canonRs]
theorem zip_len (F : Rg → Int → Rg × Int) {rs : List Rg} {b : List Int} (h : b.length = rs.length) : (List.zipWith F (canonRs rs) b).length = rs.length := by simp [canonRs, h]
theorem each_go (f : Nat) (F : Rg → Int → Rg × Int) (rs : List Rg) (b : List Int) (hF : domB rs = true → ∀ c ∈ canonRs rs, ∀ n, DC Try.prog f [rD c, iD n] (.tup [rD (F c n).1, iD (F c n).2])) :
    DC Try.prog 104 [domD rs, rowI b, .fn f [] []] (.tup [domD (moveRes F rs b).1, iD (moveRes F rs b).2]) := by
  unfold moveRes
  by_cases h : domB rs = true ∧ b.length = rs.length
  · rw [if_pos h]
    refine each_d f rs b _ h.1 h.2 (zip_len F h.2) fun j h1 h2 h3 => ?_
    rw [List.getElem_zipWith]
    exact hF h.1 _ (List.getElem_mem h1) _
  · rw [if_neg h]
    exact each_bad f rs b h
theorem canonRs_v {rs : List Rg} (h : domB rs = true) : ∀ c ∈ canonRs rs, vB c = true ∧ cN c ≤ 4096 := (canonRs_facts h).2.1
theorem inner_u (r : Rg) (n : Int) : DC Try.prog 121 [rD r, iD n] (.tup [rD (innerRes r n).1, iD (innerRes r n).2]) := by
  unfold innerRes
  by_cases h0 : n = 0
  · rw [if_pos h0]
    refine DC.of Try.func121 Try.ntmps121 Try.results121 rfl (by decide +kernel) rfl ?_
    repeat (first | refine Z1 ?_ | refine Z2 ?_ | (refine Z3 ?_; (repeat (first | (apply gS; first | refine go_f ?_ | refine gm ?_ | refine gp ?_) | (apply gZ; first | refine go_f ?_ | refine gm ?_))); refine T_nil ?_) | (apply ZK; first | refine Z4 ?_ | refine Z5 ?_) | refine Z6 ?_ | refine Z7 ?_ | refine ZF ?_)
    repeat (first | refine kEnd_m ?_ | refine kEnd_f ?_)
    refine kEnd_g ?_ (by first | exact .inl rfl | exact .inr rfl)
    exact Sub.eq rfl rfl
  rw [if_neg h0]
  by_cases h1 : n < 0
  · rw [if_pos h1]
    by_cases h2 : n < -4096
    · rw [if_pos h2]
      have T := sTake_d r 4096 (by omega) (by omega)
      refine DC.of Try.func121 Try.ntmps121 Try.results121 rfl (by decide +kernel) rfl ?_
      repeat (first | refine Z1 ?_ | refine Z2 ?_ | (refine Z3 ?_; (repeat (first | (apply gS; first | refine go_f ?_ | refine gm ?_ | refine gp ?_ | refine go_c rfl rfl (T) ?_) | (apply gZ; first | refine go_f ?_ | refine gm ?_))); refine T_nil ?_) | (apply ZK; first | refine Z4 ?_ | refine Z5 ?_) | refine Z6 ?_ | refine Z7 ?_ | refine ZF ?_)
      repeat (first | refine kEnd_m ?_ | refine kEnd_f ?_)
      refine kEnd_g ?_ (by first | exact .inl rfl | exact .inr rfl)
      exact Sub.eq rfl rfl
    · rw [if_neg h2]
      have T := sTake_d r (n * -1) (by omega) (by omega)
      rw [show -n = n * -1 by omega]
      refine DC.of Try.func121 Try.ntmps121 Try.results121 rfl (by decide +kernel) rfl ?_
      repeat (first | refine Z1 ?_ | refine Z2 ?_ | (refine Z3 ?_; (repeat (first | (apply gS; first | refine go_f ?_ | refine gm ?_ | refine gp ?_ | refine go_c rfl rfl (T) ?_) | (apply gZ; first | refine go_f ?_ | refine gm ?_))); refine T_nil ?_) | (apply ZK; first | refine Z4 ?_ | refine Z5 ?_) | refine Z6 ?_ | refine Z7 ?_ | refine ZF ?_)
      repeat (first | refine kEnd_m ?_ | refine kEnd_f ?_)
      refine kEnd_g ?_ (by first | exact .inl rfl | exact .inr rfl)
      exact Sub.eq rfl rfl
  · rw [if_neg h1]
    by_cases h2 : n < 4096
    · rw [if_pos h2]
      have T := sTake_d r (-n) (by omega) (by omega)
      refine DC.of Try.func121 Try.ntmps121 Try.results121 rfl (by decide +kernel) rfl ?_
      repeat (first | refine Z1 ?_ | refine Z2 ?_ | (refine Z3 ?_; (repeat (first | (apply gS; first | refine go_f ?_ | refine gm ?_ | refine gp ?_ | refine go_c rfl rfl (T) ?_) | (apply gZ; first | refine go_f ?_ | refine gm ?_))); refine T_nil ?_) | (apply ZK; first | refine Z4 ?_ | refine Z5 ?_) | refine Z6 ?_ | refine Z7 ?_ | refine ZF ?_)
      repeat (first | refine kEnd_m ?_ | refine kEnd_f ?_)
      refine kEnd_g ?_ (by first | exact .inl rfl | exact .inr rfl)
      exact Sub.eq rfl rfl
    · rw [if_neg h2]
      have T := sTake_d r (-4096) (by omega) (by omega)
      refine DC.of Try.func121 Try.ntmps121 Try.results121 rfl (by decide +kernel) rfl ?_
      repeat (first | refine Z1 ?_ | refine Z2 ?_ | (refine Z3 ?_; (repeat (first | (apply gS; first | refine go_f ?_ | refine gm ?_ | refine gp ?_ | refine go_c rfl rfl (T) ?_) | (apply gZ; first | refine go_f ?_ | refine gm ?_))); refine T_nil ?_) | (apply ZK; first | refine Z4 ?_ | refine Z5 ?_) | refine Z6 ?_ | refine Z7 ?_ | refine ZF ?_)
      repeat (first | refine kEnd_m ?_ | refine kEnd_f ?_)
      refine kEnd_g ?_ (by first | exact .inl rfl | exact .inr rfl)
      exact Sub.eq rfl rfl
theorem dShift_d (rs : List Rg) (b : List Int) : DC Try.prog 31 [domD rs, rowI b] (.tup [domD (moveRes shiftRes rs b).1, iD (moveRes shiftRes rs b).2]) := by
  have E := each_go 105 shiftRes rs b fun _ c _ n => sShift_d c n
  refine DC.of Try.func31 Try.ntmps31 Try.results31 rfl (by decide +kernel) rfl ?_
  repeat (first | refine Z1 ?_ | refine Z2 ?_ | (refine Z3 ?_; (repeat (first | (apply gS; first | refine go_f ?_ | refine gm ?_ | refine gp ?_ | refine go_c rfl rfl (E) ?_) | (apply gZ; first | refine go_f ?_ | refine gm ?_))); refine T_nil ?_) | (apply ZK; first | refine Z4 ?_ | refine Z5 ?_) | refine Z6 ?_ | refine Z7 ?_)
  repeat (first | refine kEnd_m ?_ | refine kEnd_f ?_)
  refine kEnd_g ?_ (by first | exact .inl rfl | exact .inr rfl)
  exact Sub.eq rfl rfl
theorem dInterior_d (rs : List Rg) (b : List Int) : DC Try.prog 47 [domD rs, rowI b] (.tup [domD (moveRes innerRes rs b).1, iD (moveRes innerRes rs b).2]) := by
  have E := each_go 121 innerRes rs b fun _ c _ n => inner_u c n
  refine DC.of Try.func47 Try.ntmps47 Try.results47 rfl (by decide +kernel) rfl ?_
  repeat (first | refine Z1 ?_ | refine Z2 ?_ | (refine Z3 ?_; (repeat (first | (apply gS; first | refine go_f ?_ | refine gm ?_ | refine gp ?_ | refine go_c rfl rfl (E) ?_) | (apply gZ; first | refine go_f ?_ | refine gm ?_))); refine T_nil ?_) | (apply ZK; first | refine Z4 ?_ | refine Z5 ?_) | refine Z6 ?_ | refine Z7 ?_)
  repeat (first | refine kEnd_m ?_ | refine kEnd_f ?_)
  refine kEnd_g ?_ (by first | exact .inl rfl | exact .inr rfl)
  exact Sub.eq rfl rfl
theorem dExterior_d (rs : List Rg) (b : List Int) : DC Try.prog 48 [domD rs, rowI b] (.tup [domD (moveRes outerRes rs b).1, iD (moveRes outerRes rs b).2]) := by
  have E := each_go 122 outerRes rs b fun h c hc n => outer_d c n (canonRs_v h c hc).1
  refine DC.of Try.func48 Try.ntmps48 Try.results48 rfl (by decide +kernel) rfl ?_
  repeat (first | refine Z1 ?_ | refine Z2 ?_ | (refine Z3 ?_; (repeat (first | (apply gS; first | refine go_f ?_ | refine gm ?_ | refine gp ?_ | refine go_c rfl rfl (E) ?_) | (apply gZ; first | refine go_f ?_ | refine gm ?_))); refine T_nil ?_) | (apply ZK; first | refine Z4 ?_ | refine Z5 ?_) | refine Z6 ?_ | refine Z7 ?_)
  repeat (first | refine kEnd_m ?_ | refine kEnd_f ?_)
  refine kEnd_g ?_ (by first | exact .inl rfl | exact .inr rfl)
  exact Sub.eq rfl rfl
/-! ### the reference -/
theorem canonRs_ends {rs : List Rg} (h : domB rs = true) (hz : prodN (cl rs) ≠ 0) : ∀ c ∈ canonRs rs, vB c = true ∧ 1 ≤ (rowOf c).n ∧ (c.st < 0 → firstR c = c.hi ∧ lastR c = c.lo) ∧ (¬ c.st < 0 → firstR c = c.lo ∧ lastR c = c.hi) := fun c hc => by
  have hv := (canonRs_v h c hc).1
  unfold canonRs at hc
  simp only [hz, if_false] at hc
  obtain ⟨r, hr, rfl⟩ := List.mem_map.1 hc
  have hvr := (domB_iff.1 h).2.1 r hr
  have hn : cN r ≠ 0 := fun e => hz (prodN_zero.2 (List.mem_map.2 ⟨r, hr, e⟩))
  have hi := cN_int hvr
  obtain ⟨e1, e2, e3⟩ := canon_ends hvr (by omega)
  exact ⟨hv, e1, e2, e3⟩
end Go.Proofs.Ytifapodobhkdcaa
