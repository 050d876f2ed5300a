/- The law SpanMoves returns true for every input: Shift's and Expand's answers are the reference's. -/
import Derived.Test.YtoeabdanldiccaaSpanI
namespace Go.Proofs.Ytoeabdanldiccaa.spanMoves
open Go.RowKit
set_option linter.unusedVariables false
set_option linter.unusedSimpArgs false
set_option maxHeartbeats 2000000 in
set_option maxRecDepth 100000 in
theorem walk (a b c k : Int) (w : World) :
    Calls Try.prog 5 #[.agg #[.int .i64 a, .int .i64 b, .int .i64 c], .int .i64 k] w fun e w' => e = .returned (.bool true) ∧ Below w.heap.size w w' := by
  obtain ⟨r, rfl, rfl, rfl⟩ : ∃ r : Rg, a = r.lo ∧ b = r.hi ∧ c = r.st := ⟨⟨a, b, c⟩, rfl, rfl, rfl⟩
  go_enter Try.func5, Try.ntmps5
  go_wp2_with fail
  refine (sShift_calls r k _).mono ?_
  rintro e w1 ⟨rfl, t1⟩
  have Fr := Lib.hid fun W (hW : Later w1 W) => box3_facts (t1.trans hW)
  have z1 := box_size t1
  have y1 := t1
  have g := Fr.out w1 (Later.refl _)
  have L1 := later_box t1
  clear t1
  go_wp2_with fail
  refine (rShift_calls r k _).mono ?_
  rintro e w2 ⟨rfl, t2⟩
  have Fa := Lib.hid fun W (hW : Later w2 W) => own3_facts (t2.trans hW)
  have z2 := box_size t2
  have z3 := Nat.lt_trans z1 z2
  have s2 := later_box t2
  have L2 := L1.trans s2
  replace g := Fr.out w2 s2
  have ga := Fa.out w2 (Later.refl _)
  clear t2
  go_wp2_with fail
  refine (sExpand_calls r k _).mono ?_
  rintro e w3 ⟨rfl, t3⟩
  have t3' : Later (w2.alloc (.cells #[.int .i64 (shiftRes r k).1.lo, .int .i64 (shiftRes r k).1.hi, .int .i64 (shiftRes r k).1.st] 23)) w3 := Later.trans (by repeat (first | exact Later.refl _ | apply Later.drew | apply Later.drewN)) t3
  clear t3
  have s3 := later_box t3'
  have L3 := L2.trans s3
  have S3 := s2.trans s3
  replace g := Fr.out w3 S3
  replace ga := Fa.out w3 s3
  have gb := own3_facts t3'
  have z4 := box_size t3'
  have z5 := Nat.lt_trans z2 z4
  have z6 := Nat.lt_trans z3 z4
  clear t3'
  go_wp2_with fail
  refine (rExpand_calls r k _).mono ?_
  rintro e w4 ⟨rfl, t4⟩
  have ne1 : w.heap.size ≠ w1.heap.size := by omega
  have ne2 : w2.heap.size ≠ w1.heap.size := by omega
  have ne3 : w.heap.size ≠ w2.heap.size := by omega
  have g4 : w4.cell? ⟨w.heap.size, 0, none⟩ = some (.int .i64 r.lo) ∧ w4.cell? ⟨w.heap.size, 1, none⟩ = some (.int .i64 r.hi) ∧ w4.cell? ⟨w.heap.size, 2, none⟩ = some (.int .i64 r.st) := ⟨t4.cell (by simp [g, ga, gb, go_sem, ne1, ne2, ne3]), t4.cell (by simp [g, ga, gb, go_sem, ne1, ne2, ne3]), t4.cell (by simp [g, ga, gb, go_sem, ne1, ne2, ne3])⟩
  have ga4 : w4.cell? ⟨w1.heap.size, 0, none⟩ = some (.int .i64 (expandRes r k).1.lo) ∧ w4.cell? ⟨w1.heap.size, 1, none⟩ = some (.int .i64 (expandRes r k).1.hi) ∧ w4.cell? ⟨w1.heap.size, 2, none⟩ = some (.int .i64 (expandRes r k).1.st) := ⟨t4.cell (by simp [g, ga, gb, go_sem, ne1, ne2, ne3]), t4.cell (by simp [g, ga, gb, go_sem, ne1, ne2, ne3]), t4.cell (by simp [g, ga, gb, go_sem, ne1, ne2, ne3])⟩
  have fb4 : w4.frozen? ⟨w2.heap.size, 0, none⟩ = false ∧ w4.frozen? ⟨w2.heap.size, 1, none⟩ = false ∧ w4.frozen? ⟨w2.heap.size, 2, none⟩ = false := ⟨t4.free (by simp [g, ga, gb, go_sem, ne1, ne2, ne3]; rfl) (by simp [g, ga, gb, go_sem, ne1, ne2, ne3]), t4.free (by simp [g, ga, gb, go_sem, ne1, ne2, ne3]; rfl) (by simp [g, ga, gb, go_sem, ne1, ne2, ne3]), t4.free (by simp [g, ga, gb, go_sem, ne1, ne2, ne3]; rfl) (by simp [g, ga, gb, go_sem, ne1, ne2, ne3])⟩
  have cb4 : w4.cell? ⟨w2.heap.size, 0, none⟩ = some (.int .i64 (shiftRes r k).1.lo) ∧ w4.cell? ⟨w2.heap.size, 1, none⟩ = some (.int .i64 (shiftRes r k).1.hi) ∧ w4.cell? ⟨w2.heap.size, 2, none⟩ = some (.int .i64 (shiftRes r k).1.st) := ⟨t4.cell (by simp [g, ga, gb, go_sem, ne1, ne2, ne3]), t4.cell (by simp [g, ga, gb, go_sem, ne1, ne2, ne3]), t4.cell (by simp [g, ga, gb, go_sem, ne1, ne2, ne3])⟩
  have z7 := Below.size t4
  have L4 : Later w w4 := Later.trans (Later.set (Later.set (Later.set L3 (by first | omega | (simp only; omega)) _) (by first | omega | (simp only; omega)) _) (by first | omega | (simp only; omega)) _) t4
  clear t4 g ga gb Fr Fa
  go_wp2_with fail
  refine (First_calls _).mono ?_
  rintro e w9 ⟨rfl, t9⟩
  go_wp2
  go_ret
  exact ⟨rfl, Later.trans (by repeat (first | exact L4 | apply Later.drew | apply Later.drewN | apply Later.alloc | refine Later.set ?_ (by first | omega | (simp only; omega)) _)) t9⟩
end Go.Proofs.Ytoeabdanldiccaa.spanMoves
