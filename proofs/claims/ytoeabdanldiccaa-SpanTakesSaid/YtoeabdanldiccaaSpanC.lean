/- Walks of the methods of rows of package span. -/
import Derived.Test.YtoeabdanldiccaaSpanB
namespace Go.Proofs.Ytoeabdanldiccaa
open Go.RowKit
set_option linter.unusedVariables false
theorem sDone_calls (x : Rw) (w : World) (hx : x.small) (hs : x.s ≠ 0) :
    Calls Try.prog 58 #[.agg #[.int .i64 (x).f, .int .i64 (x).s, .int .i64 (x).n]] w fun e w' => e = .returned (.tuple #[.agg #[.int .i64 (doneV x).lo, .int .i64 (doneV x).hi, .int .i64 (doneV x).st], .int .i64 (doneE x)]) ∧ Later w w' := by
  have hd : (vB (canonOf x) = true ∧ doneV x = canonOf x ∧ doneE x = 0) ∨ (vB (canonOf x) = false ∧ doneV x = ⟨0, 0, 0⟩ ∧ doneE x = 30) := by
    cases h : vB (canonOf x)
    · exact .inr ⟨rfl, done_no h⟩
    · exact .inl ⟨rfl, done_yes h⟩
  rcases hd with ⟨hv, d1, d2⟩ | ⟨hv, d1, d2⟩
  all_goals
    rw [d1, d2]
    clear d1 d2
    go_enter Try.func58, Try.ntmps58
    go_wp2_with fail
    refine (sCanon_calls x _ hx hs).mono ?_
    rintro e w1 ⟨rfl, t1⟩
    have HF := Lib.hid fun W (hW : Later w1 W) => pair3_facts rfl (t1.trans hW)
    have L1 := later_box (later_box t1)
    clear t1
    go_wp2_with fail
    refine (sValid_calls _ _).mono ?_
    rintro e w2 ⟨rfl, t2⟩
    have g := HF.out w2 (later_box t2)
    have g2 := box3_facts t2
    have LL := L1.trans (later_box t2)
    clear t2 HF L1
    go_wp2
    exact bodyPost_ret (v := .tuple #[_, _]) (by simp [results, Try.results58, go_sem, g]) rfl ⟨rfl, Later.set (Later.set (Later.set LL (by simp) _) (by simp) _) (by simp) _⟩
theorem sPart_calls (x : Rw) (i n : Int) (w : World) (h1 : -9000000000000 ≤ i * x.s) (h2 : i * x.s ≤ 9000000000000) (h3 : -1099511627776 ≤ x.f) (h4 : x.f ≤ 1099511627776) :
    Calls Try.prog 60 #[.agg #[.int .i64 (x).f, .int .i64 (x).s, .int .i64 (x).n], .int .i64 i, .int .i64 n] w fun e w' => e = .returned (.agg #[.int .i64 (partOf x i n).f, .int .i64 (partOf x i n).s, .int .i64 (partOf x i n).n]) ∧ Later w w' := by
  go_enter Try.func60, Try.ntmps60
  go_wp2
  obtain ⟨o1, ho1⟩ : ∃ o, o = Obj.cells #[.int .i64 x.f, .int .i64 x.s, .int .i64 x.n] 48 := ⟨_, rfl⟩
  obtain ⟨W0, hW0⟩ : ∃ W0, W0 = (w.alloc o1).alloc (.cells #[.int .i64 0, .int .i64 0, .int .i64 0] 48) := ⟨_, rfl⟩
  have HF := Lib.hid fun W (hW : Later W0 W) => pair3_facts (w := w) ho1 (by rw [hW0] at hW; exact hW)
  have L0 : Later w W0 := by rw [hW0]; exact ((Later.refl _).alloc _).alloc _
  rw [← ho1, ← hW0]
  clear hW0 ho1
  refine wp_region_quiet_tail (Later W0) 7 (by kernel_rfl) (by kernel_rfl) ((Later.refl _).drew) ?_
  simp only [List.take_succ_cons, List.take_zero, List.drop_succ_cons, List.drop_zero]
  repeat (apply wpQuiet_op; rfl; (intro W hW; have g := HF.out W hW; go_simp; first | rfl | exact (sAt_calls x i _ h1 h2 h3 h4).mono fun e w'' ⟨he, ht⟩ => ⟨he, hW.trans ht⟩); go_simp)
  refine wpQuiet_nil ?_
  intro W1 hW1
  have g := HF.out W1 hW1
  have LL := L0.trans hW1
  go_wp2
  exact bodyPost_ret (v := .agg #[_, _, _]) (by simp [results, Try.results60, go_sem, g, partOf]) rfl ⟨rfl, Later.set (Later.set (Later.set LL (by simp) _) (by simp) _) (by simp) _⟩
theorem sBack_calls (x : Rw) (w : World) (hx : x.small) :
    Calls Try.prog 62 #[.agg #[.int .i64 (x).f, .int .i64 (x).s, .int .i64 (x).n]] w fun e w' => e = .returned (.agg #[.int .i64 (backOf x).f, .int .i64 (backOf x).s, .int .i64 (backOf x).n]) ∧ Later w w' := by
  by_cases h0 : x.n = 0
  · rw [backOf_0 h0]
    have hn0 : (x.n == 0) = true := by simp [h0]
    clear h0
    go_enter Try.func62, Try.ntmps62
    go_wp2
    exact bodyPost_ret (v := .agg #[_, _, _]) (by simp [results, Try.results62, go_sem]) rfl ⟨rfl, (by repeat (first | exact Later.refl _ | apply Later.drew | apply Later.alloc))⟩
  · rw [backOf_1 h0]
    have hn0 : (x.n == 0) = false := by simp [h0]
    clear h0
    have hs1 := hx.2.2.1
    have hs2 := hx.2.2.2.1
    go_enter Try.func62, Try.ntmps62
    go_wp2
    obtain ⟨o1, ho1⟩ : ∃ o, o = Obj.cells #[.int .i64 x.f, .int .i64 x.s, .int .i64 x.n] 48 := ⟨_, rfl⟩
    obtain ⟨W0, hW0⟩ : ∃ W0, W0 = (w.alloc o1).alloc (.cells #[.int .i64 0, .int .i64 0, .int .i64 0] 48) := ⟨_, rfl⟩
    have HF := Lib.hid fun W (hW : Later W0 W) => pair3_facts (w := w) ho1 (by rw [hW0] at hW; exact hW)
    have L0 : Later w W0 := by rw [hW0]; exact ((Later.refl _).alloc _).alloc _
    rw [← ho1, ← hW0]
    clear hW0 ho1
    have hneg : IntKind.i64.wrap (-x.s) = -x.s := IntWalk.i64_in _ (by omega)
    refine wp_region_quiet_tail (Later W0) 8 (by kernel_rfl) (by kernel_rfl) ((Later.refl _).drew) ?_
    simp only [List.take_succ_cons, List.take_zero, List.drop_succ_cons, List.drop_zero]
    repeat (apply wpQuiet_op; rfl; (intro W hW; have g := HF.out W hW; go_simp; first | rfl | exact (sLast_calls x _ hx).mono fun e w'' ⟨he, ht⟩ => ⟨he, hW.trans ht⟩); go_simp)
    refine wpQuiet_nil ?_
    intro W1 hW1
    have g := HF.out W1 hW1
    have LL := L0.trans hW1
    go_wp2
    exact bodyPost_ret (v := .agg #[_, _, _]) (by simp [results, Try.results62, go_sem, g]) rfl ⟨rfl, Later.set (Later.set (Later.set LL (by simp) _) (by simp) _) (by simp) _⟩
theorem sCut_calls (x : Rw) (k : Int) (w : World) (hx : x.small) (hk : okI k) :
    Calls Try.prog 59 #[.agg #[.int .i64 (x).f, .int .i64 (x).s, .int .i64 (x).n], .int .i64 k] w fun e w' => e = .returned (.tuple #[.int .i64 (cutF x k), .int .i64 (cutN x k)]) ∧ Later w w' := by
  obtain ⟨h1, h2, h3, h4, h5, h6⟩ := hx
  obtain ⟨k1, k2⟩ := hk
  by_cases hp : 0 ≤ k
  · by_cases hm : k ≤ x.n
    · have e1 : cutF x k = 0 := if_pos hp
      have e2 : cutN x k = k := by rw [cutN, if_pos hp, if_pos hm]
      rw [e1, e2]
      clear e1 e2
      go_enter Try.func59, Try.ntmps59
      go_wp2
      go_quiet (fail)
      go_wp2
      go_ret2
      exact ⟨rfl, (by repeat (first | exact Later.refl _ | apply Later.drew | apply Later.drewN | apply Later.alloc))⟩
    · have e1 : cutF x k = 0 := if_pos hp
      have e2 : cutN x k = x.n := by rw [cutN, if_pos hp, if_neg hm]
      rw [e1, e2]
      clear e1 e2
      go_enter Try.func59, Try.ntmps59
      go_wp2
      go_quiet (fail)
      go_wp2
      go_ret2
      exact ⟨rfl, (by repeat (first | exact Later.refl _ | apply Later.drew | apply Later.drewN | apply Later.alloc))⟩
  · by_cases hm : k < -x.n
    · have e1 : cutF x k = 0 := by rw [cutF, if_neg hp, if_pos hm]
      have e2 : cutN x k = x.n := by rw [cutN, if_neg hp, if_pos hm]
      rw [e1, e2]
      clear e1 e2
      go_enter Try.func59, Try.ntmps59
      go_wp2
      go_ret2
      exact ⟨by first | rfl | (exact ret_int2 (by omega) (by omega)), (by repeat (first | exact Later.refl _ | apply Later.drew | apply Later.drewN | apply Later.alloc))⟩
    · have e1 : cutF x k = x.n + k := by rw [cutF, if_neg hp, if_neg hm]
      have e2 : cutN x k = -k := by rw [cutN, if_neg hp, if_neg hm]
      rw [e1, e2]
      clear e1 e2
      go_enter Try.func59, Try.ntmps59
      go_wp2
      go_ret2
      exact ⟨by first | rfl | (exact ret_int2 (by omega) (by omega)), (by repeat (first | exact Later.refl _ | apply Later.drew | apply Later.drewN | apply Later.alloc))⟩
end Go.Proofs.Ytoeabdanldiccaa
