/- Slices of bools of the call's own. -/
import Derived.Test.YtpcggfaohgemjaaInts
namespace Go.Proofs.Ytpcggfaohgemjaa
open Go.RowKit
theorem elem_bool : Elem Try.prog 42 4 1 1 := Elem.of Try.underlying42 (z := .bool false) (by kernel_rfl) rfl (by decide)
def bat (l : List Bool) (j : Nat) : Bool := l.getD j false
theorem bat_eq (l : List Bool) (j : Nat) (h : j < l.length) : bat l j = l[j] := by simp [bat, h]
theorem bat_set (l : List Bool) (j k : Nat) (y : Bool) (hj : j < l.length) : bat (l.set j y) k = if k = j then y else bat l k := by
  unfold bat
  by_cases h : k = j
  · subst h; simp [hj]
  · simp [h, List.getElem?_set_ne (by omega : j ≠ k)]
def OwnB (w : World) (B : Nat) (v : Value) (l : List Bool) : Prop := w.ownsRow B 4 1 v l.length (l.map Value.bool)
theorem make_bool {w : World} {ops : Array Oper} {rest : List Oper} {o : Oper} {a : Act} {Q : Exit → Act → World → Prop} (hg : o.guard = none) (l c : Operand) (hop : o.op = Op.makeSlice 42 l c) (n : Nat)
    (hl : a.eval l = .int .i64 n) (hc : a.eval c = .int .i64 n) (hn : n ≤ 1099511627776)
    (h : ∀ w1, OwnB w1 w.heap.size (.slice (some ⟨w.heap.size, 0, none⟩) n n) (List.replicate n false) → Later w w1 → wpList Try.prog ops Q rest (a.put o.dst (.slice (some ⟨w.heap.size, 0, none⟩) n n)) w1) : wpList Try.prog ops Q (o :: rest) a w := by
  obtain ⟨i, z, hi, hz, hsz, hby, hzs⟩ := elem_bool.info
  obtain ⟨i0, hi', hz0, _, _⟩ := info_parts (show (Try.prog.info? 4).map (fun i => (i.zero, i.size, i.bytes)) = some (some (.bool false), 1, 1) by kernel_rfl)
  rw [hi] at hi'
  obtain rfl : i = i0 := by simpa using hi'
  rw [hz] at hz0
  obtain rfl : z = .bool false := by simpa using hz0
  refine wpList_make_full w hg l c 42 hop w.heap.size 4 i (.bool false) 1 elem_bool.ty hi hz hsz .i64 .i64 n n n hl hc rfl rfl (by rw [hby]; omega) (by unfold maxLen; omega) (Nat.le_refl _) ?_
  intro w' h1 h2
  refine h w' ?_ ⟨h2.os, h2.tape, h2.output, h2.size, fun k hk => h2.block k hk (by simp)⟩
  have e : (madeCells (Value.bool false).cells (n * 1)).toList = (List.replicate n false).map Value.bool := by
    rw [Nat.mul_one, List.map_replicate]; exact toList_madeCells_one _ _
  rw [e] at h1
  simpa [OwnB] using h1
theorem OwnB.cell {w : World} {B g n cap : Nat} {l : List Bool} (h : OwnB w B (.slice (some ⟨g, 0, none⟩) n cap) l) (hn : l.length = n) (j : Nat) (hj : j < n) : w.cell? ⟨g, j, none⟩ = some (.bool (bat l j)) := by
  subst hn
  rw [World.ownsRow.cellAt h j (by simpa using hj)]
  simp [bat_eq l j hj, hj]
theorem OwnB.free {w : World} {B g n cap : Nat} {l : List Bool} (h : OwnB w B (.slice (some ⟨g, 0, none⟩) n cap) l) (hn : l.length = n) (j : Nat) : w.frozen? ⟨g, j, none⟩ = false := by
  subst hn
  exact World.ownsRow.frozenAt h j
theorem OwnB.store {w : World} {B g n cap : Nat} {l : List Bool} (h : OwnB w B (.slice (some ⟨g, 0, none⟩) n cap) l) (hn : l.length = n) (j : Nat) (y : Bool) : OwnB (w.setCell ⟨g, j, none⟩ (.bool y)) B (.slice (some ⟨g, 0, none⟩) n cap) (l.set j y) := by
  subst hn
  have := (World.ownsRow.stored h j (.bool y)).1
  unfold OwnB
  rw [List.length_set, List.map_set]
  exact this
theorem OwnB.base {w : World} {B g n cap : Nat} {l : List Bool} (h : OwnB w B (.slice (some ⟨g, 0, none⟩) n cap) l) : B ≤ g ∧ g < w.heap.size := World.ownsRow.lt h g rfl
end Go.Proofs.Ytpcggfaohgemjaa
