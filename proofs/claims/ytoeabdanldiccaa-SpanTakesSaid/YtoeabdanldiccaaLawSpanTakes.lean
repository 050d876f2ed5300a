/- The law SpanTakes returns true for every input: By's, Take's, Drop's and Reverse's answers are the reference's. -/
import Derived.Test.YtoeabdanldiccaaSpanL
import Derived.Test.YtoeabdanldiccaaSpanH
namespace Go.Proofs.Ytoeabdanldiccaa.spanTakes
open Go.RowKit
set_option linter.unusedVariables false
set_option linter.unusedSimpArgs false
set_option maxHeartbeats 4000000 in
set_option maxRecDepth 100000 in
theorem walk (a b c k : Int) (hk : (Lit.int .i64 k).wf = true) (w : World) :
    Calls Try.prog 9 #[.agg #[.int .i64 a, .int .i64 b, .int .i64 c], .int .i64 k] w fun e w' => e = .returned (.bool true) ∧ Below w.heap.size w w' := by
  replace hk := okI_wf hk
  obtain ⟨r, rfl, rfl, rfl⟩ : ∃ r : Rg, a = r.lo ∧ b = r.hi ∧ c = r.st := ⟨⟨a, b, c⟩, rfl, rfl, rfl⟩
  go_enter Try.func9, Try.ntmps9
  go_wp2_with fail
  refine (sBy_calls r k _).mono ?_
  rintro e w1 ⟨rfl, t1⟩
  have Fr := Lib.hid fun W (hW : Later w1 W) => box3_facts (t1.trans hW)
  have z1 := box_size t1
  have g := Fr.out w1 (Later.refl _)
  have L1 := later_box t1
  clear t1
  go_wp2_with fail
  refine (rBy_calls r k _).mono ?_
  rintro e w2 ⟨rfl, t2⟩
  have Fa := Lib.hid fun W (hW : Later w2 W) => own3_facts (t2.trans hW)
  have z2 := box_size t2
  have z3 := Nat.lt_trans z1 z2
  have s2 := later_box t2
  have L2 := L1.trans s2
  replace g := Fr.out w2 s2
  have ga := Fa.out w2 (Later.refl _)
  clear t2
  go_wp2_with fail
  refine (sTake_calls r k _ hk).mono ?_
  rintro e w3 ⟨rfl, t3⟩
  have t3' : Later (w2.alloc (.cells #[.int .i64 (byRes r k).1.lo, .int .i64 (byRes r k).1.hi, .int .i64 (byRes r k).1.st] 23)) w3 := Later.trans (by repeat (first | exact Later.refl _ | apply Later.drew | apply Later.drewN)) t3
  clear t3
  have s3 := later_box t3'
  have L3 := L2.trans s3
  have S3 := s2.trans s3
  replace g := Fr.out w3 S3
  replace ga := Fa.out w3 s3
  have gb := own3_facts t3'
  have z4 := box_size t3'
  have z5 := Nat.lt_trans z2 z4
  have z6 := Nat.lt_trans z3 z4
  have ne1 : w.heap.size ≠ w1.heap.size := by omega
  have ne2 : w2.heap.size ≠ w1.heap.size := by omega
  have ne3 : w.heap.size ≠ w2.heap.size := by omega
  clear t3' Fr Fa L1 L2 s2 s3 S3 z2
  go_wp2_with fail
  refine (rTake_calls r k _ hk).mono ?_
  rintro e w4 ⟨rfl, t4⟩
  have g' : w4.cell? ⟨w.heap.size, 0, none⟩ = some (.int .i64 r.lo) ∧ w4.cell? ⟨w.heap.size, 1, none⟩ = some (.int .i64 r.hi) ∧ w4.cell? ⟨w.heap.size, 2, none⟩ = some (.int .i64 r.st) := ⟨t4.cell (by simp [g, ga, gb, go_sem, ne1, ne2, ne3]), t4.cell (by simp [g, ga, gb, go_sem, ne1, ne2, ne3]), t4.cell (by simp [g, ga, gb, go_sem, ne1, ne2, ne3])⟩
  have ga' : (w4.cell? ⟨w1.heap.size, 0, none⟩ = some (.int .i64 (takeRes r k).1.lo) ∧ w4.cell? ⟨w1.heap.size, 1, none⟩ = some (.int .i64 (takeRes r k).1.hi) ∧ w4.cell? ⟨w1.heap.size, 2, none⟩ = some (.int .i64 (takeRes r k).1.st)) ∧ (w4.frozen? ⟨w1.heap.size, 0, none⟩ = false ∧ w4.frozen? ⟨w1.heap.size, 1, none⟩ = false ∧ w4.frozen? ⟨w1.heap.size, 2, none⟩ = false) := ⟨⟨t4.cell (by simp [g, ga, gb, go_sem, ne1, ne2, ne3]), t4.cell (by simp [g, ga, gb, go_sem, ne1, ne2, ne3]), t4.cell (by simp [g, ga, gb, go_sem, ne1, ne2, ne3])⟩, ⟨t4.free (by simp [g, ga, gb, go_sem, ne1, ne2, ne3]; rfl) (by simp [g, ga, gb, go_sem, ne1, ne2, ne3]), t4.free (by simp [g, ga, gb, go_sem, ne1, ne2, ne3]; rfl) (by simp [g, ga, gb, go_sem, ne1, ne2, ne3]), t4.free (by simp [g, ga, gb, go_sem, ne1, ne2, ne3]; rfl) (by simp [g, ga, gb, go_sem, ne1, ne2, ne3])⟩⟩
  have gb' : (w4.cell? ⟨w2.heap.size, 0, none⟩ = some (.int .i64 (byRes r k).1.lo) ∧ w4.cell? ⟨w2.heap.size, 1, none⟩ = some (.int .i64 (byRes r k).1.hi) ∧ w4.cell? ⟨w2.heap.size, 2, none⟩ = some (.int .i64 (byRes r k).1.st)) ∧ (w4.frozen? ⟨w2.heap.size, 0, none⟩ = false ∧ w4.frozen? ⟨w2.heap.size, 1, none⟩ = false ∧ w4.frozen? ⟨w2.heap.size, 2, none⟩ = false) := ⟨⟨t4.cell (by simp [g, ga, gb, go_sem, ne1, ne2, ne3]), t4.cell (by simp [g, ga, gb, go_sem, ne1, ne2, ne3]), t4.cell (by simp [g, ga, gb, go_sem, ne1, ne2, ne3])⟩, ⟨t4.free (by simp [g, ga, gb, go_sem, ne1, ne2, ne3]; rfl) (by simp [g, ga, gb, go_sem, ne1, ne2, ne3]), t4.free (by simp [g, ga, gb, go_sem, ne1, ne2, ne3]; rfl) (by simp [g, ga, gb, go_sem, ne1, ne2, ne3]), t4.free (by simp [g, ga, gb, go_sem, ne1, ne2, ne3]; rfl) (by simp [g, ga, gb, go_sem, ne1, ne2, ne3])⟩⟩
  have L4 : Later w w4 := Later.trans (by repeat (first | exact L3 | apply Later.drew | apply Later.drewN | refine Later.set ?_ (by first | omega | (simp only; omega)) _)) t4
  have y : w3.heap.size ≤ w4.heap.size := by have y := Below.size t4; simpa using y
  replace z4 := Nat.lt_of_lt_of_le z4 y
  replace z5 := Nat.lt_of_lt_of_le z5 y
  replace z6 := Nat.lt_of_lt_of_le z6 y
  clear y t4 g ga gb L3
  obtain ⟨g, ga, gb⟩ : _ ∧ _ ∧ _ := ⟨g', ga', gb'⟩
  clear g' ga' gb'
  go_wp2_with fail
  refine (sDrop_calls r k _ hk).mono ?_
  rintro e w5 ⟨rfl, t5⟩
  have g' : w5.cell? ⟨w.heap.size, 0, none⟩ = some (.int .i64 r.lo) ∧ w5.cell? ⟨w.heap.size, 1, none⟩ = some (.int .i64 r.hi) ∧ w5.cell? ⟨w.heap.size, 2, none⟩ = some (.int .i64 r.st) := ⟨t5.cell (by simp [g, ga, gb, go_sem, ne1, ne2, ne3]), t5.cell (by simp [g, ga, gb, go_sem, ne1, ne2, ne3]), t5.cell (by simp [g, ga, gb, go_sem, ne1, ne2, ne3])⟩
  have ga' : (w5.cell? ⟨w1.heap.size, 0, none⟩ = some (.int .i64 (takeRes r k).1.lo) ∧ w5.cell? ⟨w1.heap.size, 1, none⟩ = some (.int .i64 (takeRes r k).1.hi) ∧ w5.cell? ⟨w1.heap.size, 2, none⟩ = some (.int .i64 (takeRes r k).1.st)) ∧ (w5.frozen? ⟨w1.heap.size, 0, none⟩ = false ∧ w5.frozen? ⟨w1.heap.size, 1, none⟩ = false ∧ w5.frozen? ⟨w1.heap.size, 2, none⟩ = false) := ⟨⟨t5.cell (by simp [g, ga, gb, go_sem, ne1, ne2, ne3]), t5.cell (by simp [g, ga, gb, go_sem, ne1, ne2, ne3]), t5.cell (by simp [g, ga, gb, go_sem, ne1, ne2, ne3])⟩, ⟨t5.free (by simp [g, ga, gb, go_sem, ne1, ne2, ne3]; rfl) (by simp [g, ga, gb, go_sem, ne1, ne2, ne3]), t5.free (by simp [g, ga, gb, go_sem, ne1, ne2, ne3]; rfl) (by simp [g, ga, gb, go_sem, ne1, ne2, ne3]), t5.free (by simp [g, ga, gb, go_sem, ne1, ne2, ne3]; rfl) (by simp [g, ga, gb, go_sem, ne1, ne2, ne3])⟩⟩
  have gb' : (w5.cell? ⟨w2.heap.size, 0, none⟩ = some (.int .i64 (takeRes r k).1.lo) ∧ w5.cell? ⟨w2.heap.size, 1, none⟩ = some (.int .i64 (takeRes r k).1.hi) ∧ w5.cell? ⟨w2.heap.size, 2, none⟩ = some (.int .i64 (takeRes r k).1.st)) ∧ (w5.frozen? ⟨w2.heap.size, 0, none⟩ = false ∧ w5.frozen? ⟨w2.heap.size, 1, none⟩ = false ∧ w5.frozen? ⟨w2.heap.size, 2, none⟩ = false) := ⟨⟨t5.cell (by simp [g, ga, gb, go_sem, ne1, ne2, ne3]), t5.cell (by simp [g, ga, gb, go_sem, ne1, ne2, ne3]), t5.cell (by simp [g, ga, gb, go_sem, ne1, ne2, ne3])⟩, ⟨t5.free (by simp [g, ga, gb, go_sem, ne1, ne2, ne3]; rfl) (by simp [g, ga, gb, go_sem, ne1, ne2, ne3]), t5.free (by simp [g, ga, gb, go_sem, ne1, ne2, ne3]; rfl) (by simp [g, ga, gb, go_sem, ne1, ne2, ne3]), t5.free (by simp [g, ga, gb, go_sem, ne1, ne2, ne3]; rfl) (by simp [g, ga, gb, go_sem, ne1, ne2, ne3])⟩⟩
  have L5 : Later w w5 := Later.trans (by repeat (first | exact L4 | apply Later.drew | apply Later.drewN | refine Later.set ?_ (by first | omega | (simp only; omega)) _)) t5
  have y : w4.heap.size ≤ w5.heap.size := by have y := Below.size t5; simpa using y
  replace z4 := Nat.lt_of_lt_of_le z4 y
  replace z5 := Nat.lt_of_lt_of_le z5 y
  replace z6 := Nat.lt_of_lt_of_le z6 y
  clear y t5 g ga gb L4
  obtain ⟨g, ga, gb⟩ : _ ∧ _ ∧ _ := ⟨g', ga', gb'⟩
  clear g' ga' gb'
  go_wp2_with fail
  refine (rDrop_calls r k _ hk).mono ?_
  rintro e w6 ⟨rfl, t6⟩
  have g' : w6.cell? ⟨w.heap.size, 0, none⟩ = some (.int .i64 r.lo) ∧ w6.cell? ⟨w.heap.size, 1, none⟩ = some (.int .i64 r.hi) ∧ w6.cell? ⟨w.heap.size, 2, none⟩ = some (.int .i64 r.st) := ⟨t6.cell (by simp [g, ga, gb, go_sem, ne1, ne2, ne3]), t6.cell (by simp [g, ga, gb, go_sem, ne1, ne2, ne3]), t6.cell (by simp [g, ga, gb, go_sem, ne1, ne2, ne3])⟩
  have ga' : (w6.cell? ⟨w1.heap.size, 0, none⟩ = some (.int .i64 (dropRes r k).1.lo) ∧ w6.cell? ⟨w1.heap.size, 1, none⟩ = some (.int .i64 (dropRes r k).1.hi) ∧ w6.cell? ⟨w1.heap.size, 2, none⟩ = some (.int .i64 (dropRes r k).1.st)) ∧ (w6.frozen? ⟨w1.heap.size, 0, none⟩ = false ∧ w6.frozen? ⟨w1.heap.size, 1, none⟩ = false ∧ w6.frozen? ⟨w1.heap.size, 2, none⟩ = false) := ⟨⟨t6.cell (by simp [g, ga, gb, go_sem, ne1, ne2, ne3]), t6.cell (by simp [g, ga, gb, go_sem, ne1, ne2, ne3]), t6.cell (by simp [g, ga, gb, go_sem, ne1, ne2, ne3])⟩, ⟨t6.free (by simp [g, ga, gb, go_sem, ne1, ne2, ne3]; rfl) (by simp [g, ga, gb, go_sem, ne1, ne2, ne3]), t6.free (by simp [g, ga, gb, go_sem, ne1, ne2, ne3]; rfl) (by simp [g, ga, gb, go_sem, ne1, ne2, ne3]), t6.free (by simp [g, ga, gb, go_sem, ne1, ne2, ne3]; rfl) (by simp [g, ga, gb, go_sem, ne1, ne2, ne3])⟩⟩
  have gb' : (w6.cell? ⟨w2.heap.size, 0, none⟩ = some (.int .i64 (takeRes r k).1.lo) ∧ w6.cell? ⟨w2.heap.size, 1, none⟩ = some (.int .i64 (takeRes r k).1.hi) ∧ w6.cell? ⟨w2.heap.size, 2, none⟩ = some (.int .i64 (takeRes r k).1.st)) ∧ (w6.frozen? ⟨w2.heap.size, 0, none⟩ = false ∧ w6.frozen? ⟨w2.heap.size, 1, none⟩ = false ∧ w6.frozen? ⟨w2.heap.size, 2, none⟩ = false) := ⟨⟨t6.cell (by simp [g, ga, gb, go_sem, ne1, ne2, ne3]), t6.cell (by simp [g, ga, gb, go_sem, ne1, ne2, ne3]), t6.cell (by simp [g, ga, gb, go_sem, ne1, ne2, ne3])⟩, ⟨t6.free (by simp [g, ga, gb, go_sem, ne1, ne2, ne3]; rfl) (by simp [g, ga, gb, go_sem, ne1, ne2, ne3]), t6.free (by simp [g, ga, gb, go_sem, ne1, ne2, ne3]; rfl) (by simp [g, ga, gb, go_sem, ne1, ne2, ne3]), t6.free (by simp [g, ga, gb, go_sem, ne1, ne2, ne3]; rfl) (by simp [g, ga, gb, go_sem, ne1, ne2, ne3])⟩⟩
  have L6 : Later w w6 := Later.trans (by repeat (first | exact L5 | apply Later.drew | apply Later.drewN | refine Later.set ?_ (by first | omega | (simp only; omega)) _)) t6
  have y : w5.heap.size ≤ w6.heap.size := by have y := Below.size t6; simpa using y
  replace z4 := Nat.lt_of_lt_of_le z4 y
  replace z5 := Nat.lt_of_lt_of_le z5 y
  replace z6 := Nat.lt_of_lt_of_le z6 y
  clear y t6 g ga gb L5
  obtain ⟨g, ga, gb⟩ : _ ∧ _ ∧ _ := ⟨g', ga', gb'⟩
  clear g' ga' gb'
  go_wp2_with fail
  refine (sReverse_calls r _).mono ?_
  rintro e w7 ⟨rfl, t7⟩
  have g' : w7.cell? ⟨w.heap.size, 0, none⟩ = some (.int .i64 r.lo) ∧ w7.cell? ⟨w.heap.size, 1, none⟩ = some (.int .i64 r.hi) ∧ w7.cell? ⟨w.heap.size, 2, none⟩ = some (.int .i64 r.st) := ⟨t7.cell (by simp [g, ga, gb, go_sem, ne1, ne2, ne3]), t7.cell (by simp [g, ga, gb, go_sem, ne1, ne2, ne3]), t7.cell (by simp [g, ga, gb, go_sem, ne1, ne2, ne3])⟩
  have ga' : (w7.cell? ⟨w1.heap.size, 0, none⟩ = some (.int .i64 (dropRes r k).1.lo) ∧ w7.cell? ⟨w1.heap.size, 1, none⟩ = some (.int .i64 (dropRes r k).1.hi) ∧ w7.cell? ⟨w1.heap.size, 2, none⟩ = some (.int .i64 (dropRes r k).1.st)) ∧ (w7.frozen? ⟨w1.heap.size, 0, none⟩ = false ∧ w7.frozen? ⟨w1.heap.size, 1, none⟩ = false ∧ w7.frozen? ⟨w1.heap.size, 2, none⟩ = false) := ⟨⟨t7.cell (by simp [g, ga, gb, go_sem, ne1, ne2, ne3]), t7.cell (by simp [g, ga, gb, go_sem, ne1, ne2, ne3]), t7.cell (by simp [g, ga, gb, go_sem, ne1, ne2, ne3])⟩, ⟨t7.free (by simp [g, ga, gb, go_sem, ne1, ne2, ne3]; rfl) (by simp [g, ga, gb, go_sem, ne1, ne2, ne3]), t7.free (by simp [g, ga, gb, go_sem, ne1, ne2, ne3]; rfl) (by simp [g, ga, gb, go_sem, ne1, ne2, ne3]), t7.free (by simp [g, ga, gb, go_sem, ne1, ne2, ne3]; rfl) (by simp [g, ga, gb, go_sem, ne1, ne2, ne3])⟩⟩
  have gb' : (w7.cell? ⟨w2.heap.size, 0, none⟩ = some (.int .i64 (dropRes r k).1.lo) ∧ w7.cell? ⟨w2.heap.size, 1, none⟩ = some (.int .i64 (dropRes r k).1.hi) ∧ w7.cell? ⟨w2.heap.size, 2, none⟩ = some (.int .i64 (dropRes r k).1.st)) ∧ (w7.frozen? ⟨w2.heap.size, 0, none⟩ = false ∧ w7.frozen? ⟨w2.heap.size, 1, none⟩ = false ∧ w7.frozen? ⟨w2.heap.size, 2, none⟩ = false) := ⟨⟨t7.cell (by simp [g, ga, gb, go_sem, ne1, ne2, ne3]), t7.cell (by simp [g, ga, gb, go_sem, ne1, ne2, ne3]), t7.cell (by simp [g, ga, gb, go_sem, ne1, ne2, ne3])⟩, ⟨t7.free (by simp [g, ga, gb, go_sem, ne1, ne2, ne3]; rfl) (by simp [g, ga, gb, go_sem, ne1, ne2, ne3]), t7.free (by simp [g, ga, gb, go_sem, ne1, ne2, ne3]; rfl) (by simp [g, ga, gb, go_sem, ne1, ne2, ne3]), t7.free (by simp [g, ga, gb, go_sem, ne1, ne2, ne3]; rfl) (by simp [g, ga, gb, go_sem, ne1, ne2, ne3])⟩⟩
  have L7 : Later w w7 := Later.trans (by repeat (first | exact L6 | apply Later.drew | apply Later.drewN | refine Later.set ?_ (by first | omega | (simp only; omega)) _)) t7
  have y : w6.heap.size ≤ w7.heap.size := by have y := Below.size t7; simpa using y
  replace z4 := Nat.lt_of_lt_of_le z4 y
  replace z5 := Nat.lt_of_lt_of_le z5 y
  replace z6 := Nat.lt_of_lt_of_le z6 y
  clear y t7 g ga gb L6
  obtain ⟨g, ga, gb⟩ : _ ∧ _ ∧ _ := ⟨g', ga', gb'⟩
  clear g' ga' gb'
  go_wp2_with fail
  refine (rReverse_calls r _).mono ?_
  rintro e w8 ⟨rfl, t8⟩
  have g' : w8.cell? ⟨w.heap.size, 0, none⟩ = some (.int .i64 r.lo) ∧ w8.cell? ⟨w.heap.size, 1, none⟩ = some (.int .i64 r.hi) ∧ w8.cell? ⟨w.heap.size, 2, none⟩ = some (.int .i64 r.st) := ⟨t8.cell (by simp [g, ga, gb, go_sem, ne1, ne2, ne3]), t8.cell (by simp [g, ga, gb, go_sem, ne1, ne2, ne3]), t8.cell (by simp [g, ga, gb, go_sem, ne1, ne2, ne3])⟩
  have ga' : (w8.cell? ⟨w1.heap.size, 0, none⟩ = some (.int .i64 (revRes r).1.lo) ∧ w8.cell? ⟨w1.heap.size, 1, none⟩ = some (.int .i64 (revRes r).1.hi) ∧ w8.cell? ⟨w1.heap.size, 2, none⟩ = some (.int .i64 (revRes r).1.st)) ∧ (w8.frozen? ⟨w1.heap.size, 0, none⟩ = false ∧ w8.frozen? ⟨w1.heap.size, 1, none⟩ = false ∧ w8.frozen? ⟨w1.heap.size, 2, none⟩ = false) := ⟨⟨t8.cell (by simp [g, ga, gb, go_sem, ne1, ne2, ne3]), t8.cell (by simp [g, ga, gb, go_sem, ne1, ne2, ne3]), t8.cell (by simp [g, ga, gb, go_sem, ne1, ne2, ne3])⟩, ⟨t8.free (by simp [g, ga, gb, go_sem, ne1, ne2, ne3]; rfl) (by simp [g, ga, gb, go_sem, ne1, ne2, ne3]), t8.free (by simp [g, ga, gb, go_sem, ne1, ne2, ne3]; rfl) (by simp [g, ga, gb, go_sem, ne1, ne2, ne3]), t8.free (by simp [g, ga, gb, go_sem, ne1, ne2, ne3]; rfl) (by simp [g, ga, gb, go_sem, ne1, ne2, ne3])⟩⟩
  have gb' : (w8.cell? ⟨w2.heap.size, 0, none⟩ = some (.int .i64 (dropRes r k).1.lo) ∧ w8.cell? ⟨w2.heap.size, 1, none⟩ = some (.int .i64 (dropRes r k).1.hi) ∧ w8.cell? ⟨w2.heap.size, 2, none⟩ = some (.int .i64 (dropRes r k).1.st)) ∧ (w8.frozen? ⟨w2.heap.size, 0, none⟩ = false ∧ w8.frozen? ⟨w2.heap.size, 1, none⟩ = false ∧ w8.frozen? ⟨w2.heap.size, 2, none⟩ = false) := ⟨⟨t8.cell (by simp [g, ga, gb, go_sem, ne1, ne2, ne3]), t8.cell (by simp [g, ga, gb, go_sem, ne1, ne2, ne3]), t8.cell (by simp [g, ga, gb, go_sem, ne1, ne2, ne3])⟩, ⟨t8.free (by simp [g, ga, gb, go_sem, ne1, ne2, ne3]; rfl) (by simp [g, ga, gb, go_sem, ne1, ne2, ne3]), t8.free (by simp [g, ga, gb, go_sem, ne1, ne2, ne3]; rfl) (by simp [g, ga, gb, go_sem, ne1, ne2, ne3]), t8.free (by simp [g, ga, gb, go_sem, ne1, ne2, ne3]; rfl) (by simp [g, ga, gb, go_sem, ne1, ne2, ne3])⟩⟩
  have L8 : Later w w8 := Later.trans (by repeat (first | exact L7 | apply Later.drew | apply Later.drewN | refine Later.set ?_ (by first | omega | (simp only; omega)) _)) t8
  have y : w7.heap.size ≤ w8.heap.size := by have y := Below.size t8; simpa using y
  replace z4 := Nat.lt_of_lt_of_le z4 y
  replace z5 := Nat.lt_of_lt_of_le z5 y
  replace z6 := Nat.lt_of_lt_of_le z6 y
  clear y t8 g ga gb L7
  obtain ⟨g, ga, gb⟩ : _ ∧ _ ∧ _ := ⟨g', ga', gb'⟩
  clear g' ga' gb'
  go_wp2_with fail
  refine (First_calls _).mono ?_
  rintro e w9 ⟨rfl, t9⟩
  go_wp2
  go_ret
  exact ⟨rfl, Later.trans (by repeat (first | exact L8 | apply Later.drew | apply Later.drewN | apply Later.alloc | refine Later.set ?_ (by first | omega | (simp only; omega)) _)) t9⟩
end Go.Proofs.Ytoeabdanldiccaa.spanTakes
