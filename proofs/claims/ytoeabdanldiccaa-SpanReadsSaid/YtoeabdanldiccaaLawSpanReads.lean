/- The law SpanReads returns true for every input: validity, the canonical range, the count, a member and a place are the reference's. -/
import Derived.Test.YtoeabdanldiccaaSpanH
namespace Go.Proofs.Ytoeabdanldiccaa.spanReads
open Go.RowKit
set_option linter.unusedVariables false
set_option maxHeartbeats 2000000 in
set_option maxRecDepth 100000 in
theorem walk (a b c i x : Int) (w : World) :
    Calls Try.prog 8 #[.agg #[.int .i64 a, .int .i64 b, .int .i64 c], .int .i64 i, .int .i64 x] w fun e w' => e = .returned (.bool true) ∧ Below w.heap.size w w' := by
  obtain ⟨r, rfl, rfl, rfl⟩ : ∃ r : Rg, a = r.lo ∧ b = r.hi ∧ c = r.st := ⟨⟨a, b, c⟩, rfl, rfl, rfl⟩
  have vv : (vB r != vB r) = false := by simp
  go_enter Try.func8, Try.ntmps8
  go_wp2_with fail
  refine (sCanonTop_calls r _).mono ?_
  rintro e w1 ⟨rfl, t1⟩
  have Fr := Lib.hid fun W (hW : Later w1 W) => box3_facts (t1.trans hW)
  have z1 := box_size t1
  have g := Fr.out w1 (Later.refl _)
  have L1 := later_box t1
  clear t1
  go_wp2_with fail
  refine (rCanonTop_calls r _).mono ?_
  rintro e w2 ⟨rfl, t2⟩
  have Fa := Lib.hid fun W (hW : Later w2 W) => box3_facts (t2.trans hW)
  have z2 := box_size t2
  have z3 := Nat.lt_trans z1 z2
  have s2 := later_box t2
  have L2 := L1.trans s2
  replace g := Fr.out w2 s2
  have ga := Fa.out w2 (Later.refl _)
  clear t2
  go_wp2_with fail
  obtain ⟨X, hX⟩ : ∃ X, X = w2.alloc (.cells #[.int .i64 (canonRes r).1.lo, .int .i64 (canonRes r).1.hi, .int .i64 (canonRes r).1.st] 23) := ⟨_, rfl⟩
  have Sx : Later w2 X := hX ▸ (Later.refl w2).alloc _
  have HF := Lib.hid fun W (hW : Later X W) => And.intro (Fr.out W (s2.trans (Sx.trans hW))) (And.intro (Fa.out W (Sx.trans hW)) (box3_facts (w := w2) (hX ▸ hW)))
  rw [← hX]
  clear hX
  refine wp_region_quiet_all (Later X) (by kernel_rfl) (by kernel_rfl) ((Later.refl _).drew) ?_
  repeat (first | (apply wpQuiet_op; rfl; (intro W hW; have g := HF.out W hW; go_simp; first | rfl | exact (sValid_calls r _).mono fun e w'' ⟨he, ht⟩ => ⟨he, hW.trans ht⟩ | exact (rValid_calls r _).mono fun e w'' ⟨he, ht⟩ => ⟨he, hW.trans ht⟩); go_simp) | (refine wpQuiet_pass (by rfl) ?_; go_simp))
  refine wpQuiet_nil ?_
  intro W1 hW1
  have g := HF.out W1 hW1
  have T := s2.trans (Sx.trans hW1)
  have L := L2.trans (Sx.trans hW1)
  replace g := Fr.out W1 T
  clear ga HF s2 Sx L2 Fa L1
  go_wp2_with fail
  refine (sCount_calls r _).mono ?_
  rintro e v3 ⟨rfl, t3⟩
  have s : Later W1 v3 := Later.trans (by repeat (first | exact Later.refl _ | apply Later.drew | apply Later.drewN | apply Later.alloc)) t3
  replace T := T.trans s
  replace L := L.trans s
  replace g := Fr.out v3 T
  clear s t3
  go_wp2_with fail
  refine (rCount_calls r _).mono ?_
  rintro e v4 ⟨rfl, t4⟩
  have s : Later v3 v4 := Later.trans (by repeat (first | exact Later.refl _ | apply Later.drew | apply Later.drewN | apply Later.alloc)) t4
  replace T := T.trans s
  replace L := L.trans s
  replace g := Fr.out v4 T
  clear s t4
  go_wp2_with fail
  refine (sIth_calls r i _).mono ?_
  rintro e v5 ⟨rfl, t5⟩
  have s : Later v4 v5 := Later.trans (by repeat (first | exact Later.refl _ | apply Later.drew | apply Later.drewN | apply Later.alloc)) t5
  replace T := T.trans s
  replace L := L.trans s
  replace g := Fr.out v5 T
  clear s t5
  go_wp2_with fail
  refine (rIth_calls r i _).mono ?_
  rintro e v6 ⟨rfl, t6⟩
  have s : Later v5 v6 := Later.trans (by repeat (first | exact Later.refl _ | apply Later.drew | apply Later.drewN | apply Later.alloc)) t6
  replace T := T.trans s
  replace L := L.trans s
  replace g := Fr.out v6 T
  clear s t6
  go_wp2_with fail
  refine (sPlace_calls r x _).mono ?_
  rintro e v7 ⟨rfl, t7⟩
  have s : Later v6 v7 := Later.trans (by repeat (first | exact Later.refl _ | apply Later.drew | apply Later.drewN | apply Later.alloc)) t7
  replace T := T.trans s
  replace L := L.trans s
  replace g := Fr.out v7 T
  clear s t7
  go_wp2_with fail
  refine (rPlace_calls r x _).mono ?_
  rintro e v8 ⟨rfl, t8⟩
  have s : Later v7 v8 := Later.trans (by repeat (first | exact Later.refl _ | apply Later.drew | apply Later.drewN | apply Later.alloc)) t8
  replace T := T.trans s
  replace L := L.trans s
  replace g := Fr.out v8 T
  clear s t8
  go_wp2_with fail
  refine (sHas_calls r x _).mono ?_
  rintro e v9 ⟨rfl, t9⟩
  have s : Later v8 v9 := Later.trans (by repeat (first | exact Later.refl _ | apply Later.drew | apply Later.drewN | apply Later.alloc)) t9
  replace T := T.trans s
  replace L := L.trans s
  replace g := Fr.out v9 T
  clear s t9
  go_wp2_with fail
  refine (rHas_calls r x _).mono ?_
  rintro e v10 ⟨rfl, t10⟩
  have s : Later v9 v10 := Later.trans (by repeat (first | exact Later.refl _ | apply Later.drew | apply Later.drewN | apply Later.alloc)) t10
  replace T := T.trans s
  replace L := L.trans s
  replace g := Fr.out v10 T
  clear s t10
  go_wp2_with fail
  refine (First_calls _).mono ?_
  rintro e w9 ⟨rfl, t9⟩
  go_wp2
  go_ret
  exact ⟨rfl, L.trans (Later.trans (by repeat (first | exact Later.refl _ | apply Later.drew | apply Later.drewN | apply Later.alloc)) t9)⟩
end Go.Proofs.Ytoeabdanldiccaa.spanReads
