/- Walks of the functions of package span on rows. -/
import Derived.Test.YtoeabdanldiccaaSpanA
import Derived.Test.YtoeabdanldiccaaQuietTail
namespace Go.Proofs.Ytoeabdanldiccaa
open Go.RowKit
set_option linter.unusedVariables false
theorem sCanon_0 (x : Rw) (w : World) (h : x.n = 0) :
    Calls Try.prog 54 #[.agg #[.int .i64 (x).f, .int .i64 (x).s, .int .i64 (x).n]] w fun e w' => e = .returned (.agg #[.int .i64 (canonOf x).lo, .int .i64 (canonOf x).hi, .int .i64 (canonOf x).st]) ∧ Later w w' := by
  rw [canonOf_0 h]
  have hn0 : (x.n == 0) = true := by simp [h]
  clear h
  go_enter Try.func54, Try.ntmps54
  go_wp2
  exact bodyPost_ret (v := _) (by simp [results, Try.results54, go_sem]) rfl ⟨rfl, (by repeat (first | exact Later.refl _ | apply Later.drew | apply Later.alloc))⟩
theorem sCanon_1 (x : Rw) (w : World) (h : x.n = 1) :
    Calls Try.prog 54 #[.agg #[.int .i64 (x).f, .int .i64 (x).s, .int .i64 (x).n]] w fun e w' => e = .returned (.agg #[.int .i64 (canonOf x).lo, .int .i64 (canonOf x).hi, .int .i64 (canonOf x).st]) ∧ Later w w' := by
  rw [canonOf_1 h]
  have hn0 : (x.n == 0) = false := by simp [h]
  have hn1 : (x.n == 1) = true := by simp [h]
  clear h
  go_enter Try.func54, Try.ntmps54
  go_wp2
  exact bodyPost_ret (v := _) (by simp [results, Try.results54, go_sem]) rfl ⟨rfl, (by repeat (first | exact Later.refl _ | apply Later.drew | apply Later.alloc))⟩
theorem sCanon_up (x : Rw) (w : World) (hx : x.small) (h : 2 ≤ x.n) (hl : x.f < lastOf x) :
    Calls Try.prog 54 #[.agg #[.int .i64 (x).f, .int .i64 (x).s, .int .i64 (x).n]] w fun e w' => e = .returned (.agg #[.int .i64 (canonOf x).lo, .int .i64 (canonOf x).hi, .int .i64 (canonOf x).st]) ∧ Later w w' := by
  rw [canonOf_up h (by omega)]
  have hn0 : (x.n == 0) = false := by simp; omega
  have hn1 : (x.n == 1) = false := by simp; omega
  go_enter Try.func54, Try.ntmps54
  go_wp2
  obtain ⟨o1, ho1⟩ : ∃ o, o = Obj.cells #[.int .i64 x.f, .int .i64 x.s, .int .i64 x.n] 48 := ⟨_, rfl⟩
  obtain ⟨W0, hW0⟩ : ∃ W0, W0 = (w.alloc o1).alloc (.cells #[.int .i64 0, .int .i64 0, .int .i64 0] 23) := ⟨_, rfl⟩
  have HF := Lib.hid fun W (hW : Later W0 W) => pair3_facts (w := w) ho1 (by rw [hW0] at hW; exact hW)
  have L0 : Later w W0 := by rw [hW0]; exact ((Later.refl _).alloc _).alloc _
  rw [← ho1, ← hW0]
  clear hW0 ho1
  refine wp_region_quiet_tail (Later W0) 13 (by kernel_rfl) (by kernel_rfl) ((Later.refl _).drew) ?_
  simp only [List.take_succ_cons, List.take_zero, List.drop_succ_cons, List.drop_zero]
  repeat (apply wpQuiet_op; rfl; (intro W hW; have g := HF.out W hW; go_simp; first | rfl | exact (sLast_calls x _ hx).mono fun e w'' ⟨he, ht⟩ => ⟨he, hW.trans ht⟩); go_simp)
  refine wpQuiet_nil ?_
  intro W1 hW1
  have g := HF.out W1 hW1
  have LL := L0.trans hW1
  go_wp2
  exact bodyPost_ret (v := .agg #[.int .i64 (⟨x.f, lastOf x, x.s⟩ : Rg).lo, .int .i64 (⟨x.f, lastOf x, x.s⟩ : Rg).hi, .int .i64 (⟨x.f, lastOf x, x.s⟩ : Rg).st]) (by simp [results, Try.results54, go_sem, g]) rfl ⟨rfl, Later.set (Later.set (Later.set LL (by simp) _) (by simp) _) (by simp) _⟩
theorem sCanon_down (x : Rw) (w : World) (hx : x.small) (h : 2 ≤ x.n) (hl : lastOf x < x.f) :
    Calls Try.prog 54 #[.agg #[.int .i64 (x).f, .int .i64 (x).s, .int .i64 (x).n]] w fun e w' => e = .returned (.agg #[.int .i64 (canonOf x).lo, .int .i64 (canonOf x).hi, .int .i64 (canonOf x).st]) ∧ Later w w' := by
  rw [canonOf_down h (by omega)]
  have hn0 : (x.n == 0) = false := by simp; omega
  have hn1 : (x.n == 1) = false := by simp; omega
  go_enter Try.func54, Try.ntmps54
  go_wp2
  obtain ⟨o1, ho1⟩ : ∃ o, o = Obj.cells #[.int .i64 x.f, .int .i64 x.s, .int .i64 x.n] 48 := ⟨_, rfl⟩
  obtain ⟨W0, hW0⟩ : ∃ W0, W0 = (w.alloc o1).alloc (.cells #[.int .i64 0, .int .i64 0, .int .i64 0] 23) := ⟨_, rfl⟩
  have HF := Lib.hid fun W (hW : Later W0 W) => pair3_facts (w := w) ho1 (by rw [hW0] at hW; exact hW)
  have L0 : Later w W0 := by rw [hW0]; exact ((Later.refl _).alloc _).alloc _
  rw [← ho1, ← hW0]
  clear hW0 ho1
  refine wp_region_quiet_tail (Later W0) 13 (by kernel_rfl) (by kernel_rfl) ((Later.refl _).drew) ?_
  simp only [List.take_succ_cons, List.take_zero, List.drop_succ_cons, List.drop_zero]
  repeat (apply wpQuiet_op; rfl; (intro W hW; have g := HF.out W hW; go_simp; first | rfl | exact (sLast_calls x _ hx).mono fun e w'' ⟨he, ht⟩ => ⟨he, hW.trans ht⟩); go_simp)
  refine wpQuiet_nil ?_
  intro W1 hW1
  have g := HF.out W1 hW1
  have LL := L0.trans hW1
  go_wp2
  exact bodyPost_ret (v := .agg #[.int .i64 (⟨lastOf x, x.f, x.s⟩ : Rg).lo, .int .i64 (⟨lastOf x, x.f, x.s⟩ : Rg).hi, .int .i64 (⟨lastOf x, x.f, x.s⟩ : Rg).st]) (by simp [results, Try.results54, go_sem, g]) rfl ⟨rfl, Later.set (Later.set (Later.set LL (by simp) _) (by simp) _) (by simp) _⟩
theorem sCanon_calls (x : Rw) (w : World) (hx : x.small) (hs : x.s ≠ 0) :
    Calls Try.prog 54 #[.agg #[.int .i64 (x).f, .int .i64 (x).s, .int .i64 (x).n]] w fun e w' => e = .returned (.agg #[.int .i64 (canonOf x).lo, .int .i64 (canonOf x).hi, .int .i64 (canonOf x).st]) ∧ Later w w' := by
  by_cases h0 : x.n = 0
  · exact sCanon_0 x w h0
  by_cases h1 : x.n = 1
  · exact sCanon_1 x w h1
  have h2 : 2 ≤ x.n := by obtain ⟨_, _, _, _, h, _⟩ := hx; omega
  have hl := last_ne h2 hs
  by_cases hl' : x.f < lastOf x
  · exact sCanon_up x w hx h2 hl'
  · exact sCanon_down x w hx h2 (by omega)
end Go.Proofs.Ytoeabdanldiccaa
