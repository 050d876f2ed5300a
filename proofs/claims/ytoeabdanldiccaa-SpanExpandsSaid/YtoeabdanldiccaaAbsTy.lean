/- What the abstract machine asks of the types of this program. -/
import Derived.Test.YtoeabdanldiccaaRows
import Derived.Test.YtoeabdanldiccaaAbsG
namespace Go.Proofs.Ytoeabdanldiccaa
open Go.RowKit
def cellB (P : Program) (t : TypeId) : Bool := match P.underlying t, P.info? t with
  | some d, some i => !aggDesc d && i.size == 1
  | _, _ => false
def aggB (P : Program) (t : TypeId) (k : Nat) : Bool := match P.underlying t, P.info? t with
  | some d, some i => aggDesc d && i.size == k
  | _, _ => false
theorem TyCell.ofB {P : Program} {t : TypeId} (h : cellB P t = true) : TyCell P t := by
  unfold cellB at h
  cases hu : P.underlying t with
  | none => rw [hu] at h; cases h
  | some d =>
    cases hi : P.info? t with
    | none => rw [hu, hi] at h; cases h
    | some i =>
      rw [hu, hi] at h
      simp only [Bool.and_eq_true, Bool.not_eq_true', beq_iff_eq] at h
      exact ⟨⟨d, hu, h.1⟩, by rw [hi]; simp [h.2]⟩
theorem TyAgg.ofB {P : Program} {t : TypeId} {k : Nat} (h : aggB P t k = true) : TyAgg P t k := by
  unfold aggB at h
  cases hu : P.underlying t with
  | none => rw [hu] at h; cases h
  | some d =>
    cases hi : P.info? t with
    | none => rw [hu, hi] at h; cases h
    | some i =>
      rw [hu, hi] at h
      simp only [Bool.and_eq_true, beq_iff_eq] at h
      exact ⟨⟨d, hu, h.1⟩, by rw [hi]; simp [h.2]⟩
def fieldB (P : Program) (t : TypeId) (f off : Nat) (ft : TypeId) : Bool := match P.underlying t, P.info? ft with
  | some (.struct fs), some i => (match fs[f]? with
    | some fd => fd.offset == off && fd.type == ft && i.size != 0
    | none => false)
  | _, _ => false
theorem TyField.ofB {P : Program} {t : TypeId} {f off : Nat} {ft : TypeId} (h : fieldB P t f off ft = true) : TyField P t f off ft := by
  unfold fieldB at h
  cases hu : P.underlying t with
  | none => rw [hu] at h; cases h
  | some d =>
    cases hi : P.info? ft with
    | none => rw [hu, hi] at h; cases d <;> cases h
    | some i =>
      cases d with
      | struct fs =>
        rw [hu, hi] at h
        simp only at h
        cases hf : fs[f]? with
        | none => rw [hf] at h; cases h
        | some fd =>
          rw [hf] at h
          simp only [Bool.and_eq_true, beq_iff_eq, bne_iff_ne] at h
          exact ⟨⟨fs, fd, hu, hf, h.1.1, h.1.2⟩, ⟨i, hi, h.2⟩⟩
      | _ => rw [hu, hi] at h; cases h
theorem TySlice.of {P : Program} {t e : TypeId} {size bytes : Nat} {z : Value} (hT : P.underlying t = some (.slice e)) (hi : (P.info? e).map (fun i => (i.zero, i.size, i.bytes)) = some (some z, size, bytes)) (hz : z.cells.size = size) (hp : 0 < size) : TySlice P t e size bytes := by
  obtain ⟨i0, hi, hz0, hz1, hz2⟩ := info_parts hi
  exact ⟨hT, ⟨i0, z, hi, hz0, hz1, hz2, hz⟩, hp⟩
theorem TyZero.of {P : Program} {t : TypeId} {z : Value} {zs : List Value} {zd : List D} {k b : Nat} (hi : (P.info? t).map (fun i => (i.zero, i.size, i.bytes)) = some (some z, k, b)) (hz : z.cells.toList = zs) (hk : zs.length = k) (h1 : zs.all (·.oneCell') = true) (hd : zs.map D.val = zd) : TyZero P t k zs zd := by
  obtain ⟨i0, hi, hz0, hz1, hz2⟩ := info_parts hi
  exact ⟨⟨i0, z, hi, hz0, hz, by rw [hk, hz1]⟩, h1, hk, hd⟩
-- 2: int64
instance : TyZero Try.prog 2 1 [.int .i64 0] [.val (.int .i64 0)] := TyZero.of (z := .int .i64 0) (by kernel_rfl : (Try.prog.info? 2).map (fun i => (i.zero, i.size, i.bytes)) = some (some (.int .i64 0), 1, 8)) rfl rfl rfl rfl
instance : TyCell Try.prog 2 := TyCell.ofB (by kernel_rfl)
-- 3: int
instance : TyZero Try.prog 3 1 [.int .i64 0] [.val (.int .i64 0)] := TyZero.of (z := .int .i64 0) (by kernel_rfl : (Try.prog.info? 3).map (fun i => (i.zero, i.size, i.bytes)) = some (some (.int .i64 0), 1, 8)) rfl rfl rfl rfl
instance : TyCell Try.prog 3 := TyCell.ofB (by kernel_rfl)
-- 4: bool
instance : TyZero Try.prog 4 1 [.bool false] [.val (.bool false)] := TyZero.of (z := .bool false) (by kernel_rfl : (Try.prog.info? 4).map (fun i => (i.zero, i.size, i.bytes)) = some (some (.bool false), 1, 1)) rfl rfl rfl rfl
instance : TyBool Try.prog 4 := ⟨by kernel_rfl⟩
instance : TyCell Try.prog 4 := TyCell.ofB (by kernel_rfl)
-- 5: uint8
instance : TyZero Try.prog 5 1 [.int .u8 0] [.val (.int .u8 0)] := TyZero.of (z := .int .u8 0) (by kernel_rfl : (Try.prog.info? 5).map (fun i => (i.zero, i.size, i.bytes)) = some (some (.int .u8 0), 1, 1)) rfl rfl rfl rfl
instance : TyCell Try.prog 5 := TyCell.ofB (by kernel_rfl)
-- 9: string
instance : TyZero Try.prog 9 1 [.string ⟨#[]⟩] [.val (.string ⟨#[]⟩)] := TyZero.of (z := .string ⟨#[]⟩) (by kernel_rfl : (Try.prog.info? 9).map (fun i => (i.zero, i.size, i.bytes)) = some (some (.string ⟨#[]⟩), 1, 16)) rfl rfl rfl rfl
instance : TyCell Try.prog 9 := TyCell.ofB (by kernel_rfl)
-- 12: uintptr
instance : TyZero Try.prog 12 1 [.int .u64 0] [.val (.int .u64 0)] := TyZero.of (z := .int .u64 0) (by kernel_rfl : (Try.prog.info? 12).map (fun i => (i.zero, i.size, i.bytes)) = some (some (.int .u64 0), 1, 8)) rfl rfl rfl rfl
instance : TyCell Try.prog 12 := TyCell.ofB (by kernel_rfl)
-- 13: struct { msg string; addr uintptr }
instance : TyZero Try.prog 13 2 [.string ⟨#[]⟩, .int .u64 0] [.val (.string ⟨#[]⟩), .val (.int .u64 0)] := TyZero.of (z := .agg #[.string ⟨#[]⟩, .int .u64 0]) (by kernel_rfl : (Try.prog.info? 13).map (fun i => (i.zero, i.size, i.bytes)) = some (some (.agg #[.string ⟨#[]⟩, .int .u64 0]), 2, 24)) rfl rfl rfl rfl
instance : TyAgg Try.prog 13 2 := TyAgg.ofB (by kernel_rfl)
instance : TyField Try.prog 13 0 0 9 := TyField.ofB (by kernel_rfl)
instance : TyField Try.prog 13 1 1 12 := TyField.ofB (by kernel_rfl)
instance : TyBuild Try.prog 13 [.string ⟨#[]⟩, .int .u64 0] [.val (.string ⟨#[]⟩), .val (.int .u64 0)] (fun i => #[(0, 1), (1, 1)][i]?) := ⟨rfl, fun parts => by kernel_rfl, rfl⟩
-- 21: int32
instance : TyZero Try.prog 21 1 [.int .i32 0] [.val (.int .i32 0)] := TyZero.of (z := .int .i32 0) (by kernel_rfl : (Try.prog.info? 21).map (fun i => (i.zero, i.size, i.bytes)) = some (some (.int .i32 0), 1, 4)) rfl rfl rfl rfl
instance : TyCell Try.prog 21 := TyCell.ofB (by kernel_rfl)
-- 22: struct { Low int; High int; Step int }
instance : TyZero Try.prog 22 3 [.int .i64 0, .int .i64 0, .int .i64 0] [.val (.int .i64 0), .val (.int .i64 0), .val (.int .i64 0)] := TyZero.of (z := .agg #[.int .i64 0, .int .i64 0, .int .i64 0]) (by kernel_rfl : (Try.prog.info? 22).map (fun i => (i.zero, i.size, i.bytes)) = some (some (.agg #[.int .i64 0, .int .i64 0, .int .i64 0]), 3, 24)) rfl rfl rfl rfl
instance : TyAgg Try.prog 22 3 := TyAgg.ofB (by kernel_rfl)
instance : TyField Try.prog 22 0 0 3 := TyField.ofB (by kernel_rfl)
instance : TyField Try.prog 22 1 1 3 := TyField.ofB (by kernel_rfl)
instance : TyField Try.prog 22 2 2 3 := TyField.ofB (by kernel_rfl)
instance : TyBuild Try.prog 22 [.int .i64 0, .int .i64 0, .int .i64 0] [.val (.int .i64 0), .val (.int .i64 0), .val (.int .i64 0)] (fun i => #[(0, 1), (1, 1), (2, 1)][i]?) := ⟨rfl, fun parts => by kernel_rfl, rfl⟩
instance : TyEqI Try.prog 22 3 := ⟨by kernel_rfl, fun w xs ys hx hy => by
  match xs, ys, hx, hy with
  | [a0, a1, a2], [b0, b1, b2], _, _ =>
    have hf : (Try.prog.fieldsOf 22).toList = [⟨"Low", 3, 0, false, "", "", 0⟩, ⟨"High", 3, 1, false, "", "", 8⟩, ⟨"Step", 3, 2, false, "", "", 16⟩] := by kernel_rfl
    have hu3 : Try.prog.underlying 3 = some (.int .i64) := by kernel_rfl
    rw [run_equalIn_agg w 9999 22 _ _ (by kernel_rfl) (by kernel_rfl), hf]
    simp [Op.eqFields, part, isAgg, run_underlying, run_equalIn_int, hu3]
    by_cases e0 : a0 = b0 <;> by_cases e1 : a1 = b1 <;> by_cases e2 : a2 = b2 <;> simp [e0, e1, e2]⟩
-- 23: api.Range
instance : TyZero Try.prog 23 3 [.int .i64 0, .int .i64 0, .int .i64 0] [.val (.int .i64 0), .val (.int .i64 0), .val (.int .i64 0)] := TyZero.of (z := .agg #[.int .i64 0, .int .i64 0, .int .i64 0]) (by kernel_rfl : (Try.prog.info? 23).map (fun i => (i.zero, i.size, i.bytes)) = some (some (.agg #[.int .i64 0, .int .i64 0, .int .i64 0]), 3, 24)) rfl rfl rfl rfl
instance : TyAgg Try.prog 23 3 := TyAgg.ofB (by kernel_rfl)
instance : TyField Try.prog 23 0 0 3 := TyField.ofB (by kernel_rfl)
instance : TyField Try.prog 23 1 1 3 := TyField.ofB (by kernel_rfl)
instance : TyField Try.prog 23 2 2 3 := TyField.ofB (by kernel_rfl)
instance : TyBuild Try.prog 23 [.int .i64 0, .int .i64 0, .int .i64 0] [.val (.int .i64 0), .val (.int .i64 0), .val (.int .i64 0)] (fun i => #[(0, 1), (1, 1), (2, 1)][i]?) := ⟨rfl, fun parts => by kernel_rfl, rfl⟩
instance : TyEqI Try.prog 23 3 := ⟨by kernel_rfl, fun w xs ys hx hy => by
  match xs, ys, hx, hy with
  | [a0, a1, a2], [b0, b1, b2], _, _ =>
    have hf : (Try.prog.fieldsOf 23).toList = [⟨"Low", 3, 0, false, "", "", 0⟩, ⟨"High", 3, 1, false, "", "", 8⟩, ⟨"Step", 3, 2, false, "", "", 16⟩] := by kernel_rfl
    have hu3 : Try.prog.underlying 3 = some (.int .i64) := by kernel_rfl
    rw [run_equalIn_agg w 9999 23 _ _ (by kernel_rfl) (by kernel_rfl), hf]
    simp [Op.eqFields, part, isAgg, run_underlying, run_equalIn_int, hu3]
    by_cases e0 : a0 = b0 <;> by_cases e1 : a1 = b1 <;> by_cases e2 : a2 = b2 <;> simp [e0, e1, e2]⟩
-- 24: []int
instance : TyZero Try.prog 24 1 [.slice none 0 0] [.val (.slice none 0 0)] := TyZero.of (z := .slice none 0 0) (by kernel_rfl : (Try.prog.info? 24).map (fun i => (i.zero, i.size, i.bytes)) = some (some (.slice none 0 0), 1, 24)) rfl rfl rfl rfl
instance : TyCell Try.prog 24 := TyCell.ofB (by kernel_rfl)
instance : TySlice Try.prog 24 3 1 8 := TySlice.of (z := .int .i64 0) (by kernel_rfl) (by kernel_rfl) rfl (by decide)
-- 25: api.Errno
instance : TyZero Try.prog 25 1 [.int .i64 0] [.val (.int .i64 0)] := TyZero.of (z := .int .i64 0) (by kernel_rfl : (Try.prog.info? 25).map (fun i => (i.zero, i.size, i.bytes)) = some (some (.int .i64 0), 1, 8)) rfl rfl rfl rfl
instance : TyCell Try.prog 25 := TyCell.ofB (by kernel_rfl)
-- 47: struct { first int; step int; count int }
instance : TyZero Try.prog 47 3 [.int .i64 0, .int .i64 0, .int .i64 0] [.val (.int .i64 0), .val (.int .i64 0), .val (.int .i64 0)] := TyZero.of (z := .agg #[.int .i64 0, .int .i64 0, .int .i64 0]) (by kernel_rfl : (Try.prog.info? 47).map (fun i => (i.zero, i.size, i.bytes)) = some (some (.agg #[.int .i64 0, .int .i64 0, .int .i64 0]), 3, 24)) rfl rfl rfl rfl
instance : TyAgg Try.prog 47 3 := TyAgg.ofB (by kernel_rfl)
instance : TyField Try.prog 47 0 0 3 := TyField.ofB (by kernel_rfl)
instance : TyField Try.prog 47 1 1 3 := TyField.ofB (by kernel_rfl)
instance : TyField Try.prog 47 2 2 3 := TyField.ofB (by kernel_rfl)
instance : TyBuild Try.prog 47 [.int .i64 0, .int .i64 0, .int .i64 0] [.val (.int .i64 0), .val (.int .i64 0), .val (.int .i64 0)] (fun i => #[(0, 1), (1, 1), (2, 1)][i]?) := ⟨rfl, fun parts => by kernel_rfl, rfl⟩
instance : TyEqI Try.prog 47 3 := ⟨by kernel_rfl, fun w xs ys hx hy => by
  match xs, ys, hx, hy with
  | [a0, a1, a2], [b0, b1, b2], _, _ =>
    have hf : (Try.prog.fieldsOf 47).toList = [⟨"first", 3, 0, false, "", "purlieu/span", 0⟩, ⟨"step", 3, 1, false, "", "purlieu/span", 8⟩, ⟨"count", 3, 2, false, "", "purlieu/span", 16⟩] := by kernel_rfl
    have hu3 : Try.prog.underlying 3 = some (.int .i64) := by kernel_rfl
    rw [run_equalIn_agg w 9999 47 _ _ (by kernel_rfl) (by kernel_rfl), hf]
    simp [Op.eqFields, part, isAgg, run_underlying, run_equalIn_int, hu3]
    by_cases e0 : a0 = b0 <;> by_cases e1 : a1 = b1 <;> by_cases e2 : a2 = b2 <;> simp [e0, e1, e2]⟩
-- 48: span.row
instance : TyZero Try.prog 48 3 [.int .i64 0, .int .i64 0, .int .i64 0] [.val (.int .i64 0), .val (.int .i64 0), .val (.int .i64 0)] := TyZero.of (z := .agg #[.int .i64 0, .int .i64 0, .int .i64 0]) (by kernel_rfl : (Try.prog.info? 48).map (fun i => (i.zero, i.size, i.bytes)) = some (some (.agg #[.int .i64 0, .int .i64 0, .int .i64 0]), 3, 24)) rfl rfl rfl rfl
instance : TyAgg Try.prog 48 3 := TyAgg.ofB (by kernel_rfl)
instance : TyField Try.prog 48 0 0 3 := TyField.ofB (by kernel_rfl)
instance : TyField Try.prog 48 1 1 3 := TyField.ofB (by kernel_rfl)
instance : TyField Try.prog 48 2 2 3 := TyField.ofB (by kernel_rfl)
instance : TyBuild Try.prog 48 [.int .i64 0, .int .i64 0, .int .i64 0] [.val (.int .i64 0), .val (.int .i64 0), .val (.int .i64 0)] (fun i => #[(0, 1), (1, 1), (2, 1)][i]?) := ⟨rfl, fun parts => by kernel_rfl, rfl⟩
instance : TyEqI Try.prog 48 3 := ⟨by kernel_rfl, fun w xs ys hx hy => by
  match xs, ys, hx, hy with
  | [a0, a1, a2], [b0, b1, b2], _, _ =>
    have hf : (Try.prog.fieldsOf 48).toList = [⟨"first", 3, 0, false, "", "purlieu/span", 0⟩, ⟨"step", 3, 1, false, "", "purlieu/span", 8⟩, ⟨"count", 3, 2, false, "", "purlieu/span", 16⟩] := by kernel_rfl
    have hu3 : Try.prog.underlying 3 = some (.int .i64) := by kernel_rfl
    rw [run_equalIn_agg w 9999 48 _ _ (by kernel_rfl) (by kernel_rfl), hf]
    simp [Op.eqFields, part, isAgg, run_underlying, run_equalIn_int, hu3]
    by_cases e0 : a0 = b0 <;> by_cases e1 : a1 = b1 <;> by_cases e2 : a2 = b2 <;> simp [e0, e1, e2]⟩
-- 51: struct { first int; by int; n int }
instance : TyZero Try.prog 51 3 [.int .i64 0, .int .i64 0, .int .i64 0] [.val (.int .i64 0), .val (.int .i64 0), .val (.int .i64 0)] := TyZero.of (z := .agg #[.int .i64 0, .int .i64 0, .int .i64 0]) (by kernel_rfl : (Try.prog.info? 51).map (fun i => (i.zero, i.size, i.bytes)) = some (some (.agg #[.int .i64 0, .int .i64 0, .int .i64 0]), 3, 24)) rfl rfl rfl rfl
instance : TyAgg Try.prog 51 3 := TyAgg.ofB (by kernel_rfl)
instance : TyField Try.prog 51 0 0 3 := TyField.ofB (by kernel_rfl)
instance : TyField Try.prog 51 1 1 3 := TyField.ofB (by kernel_rfl)
instance : TyField Try.prog 51 2 2 3 := TyField.ofB (by kernel_rfl)
instance : TyBuild Try.prog 51 [.int .i64 0, .int .i64 0, .int .i64 0] [.val (.int .i64 0), .val (.int .i64 0), .val (.int .i64 0)] (fun i => #[(0, 1), (1, 1), (2, 1)][i]?) := ⟨rfl, fun parts => by kernel_rfl, rfl⟩
instance : TyEqI Try.prog 51 3 := ⟨by kernel_rfl, fun w xs ys hx hy => by
  match xs, ys, hx, hy with
  | [a0, a1, a2], [b0, b1, b2], _, _ =>
    have hf : (Try.prog.fieldsOf 51).toList = [⟨"first", 3, 0, false, "", "purlieu/purlieuref03", 0⟩, ⟨"by", 3, 1, false, "", "purlieu/purlieuref03", 8⟩, ⟨"n", 3, 2, false, "", "purlieu/purlieuref03", 16⟩] := by kernel_rfl
    have hu3 : Try.prog.underlying 3 = some (.int .i64) := by kernel_rfl
    rw [run_equalIn_agg w 9999 51 _ _ (by kernel_rfl) (by kernel_rfl), hf]
    simp [Op.eqFields, part, isAgg, run_underlying, run_equalIn_int, hu3]
    by_cases e0 : a0 = b0 <;> by_cases e1 : a1 = b1 <;> by_cases e2 : a2 = b2 <;> simp [e0, e1, e2]⟩
-- 52: purlieuref03.row
instance : TyZero Try.prog 52 3 [.int .i64 0, .int .i64 0, .int .i64 0] [.val (.int .i64 0), .val (.int .i64 0), .val (.int .i64 0)] := TyZero.of (z := .agg #[.int .i64 0, .int .i64 0, .int .i64 0]) (by kernel_rfl : (Try.prog.info? 52).map (fun i => (i.zero, i.size, i.bytes)) = some (some (.agg #[.int .i64 0, .int .i64 0, .int .i64 0]), 3, 24)) rfl rfl rfl rfl
instance : TyAgg Try.prog 52 3 := TyAgg.ofB (by kernel_rfl)
instance : TyField Try.prog 52 0 0 3 := TyField.ofB (by kernel_rfl)
instance : TyField Try.prog 52 1 1 3 := TyField.ofB (by kernel_rfl)
instance : TyField Try.prog 52 2 2 3 := TyField.ofB (by kernel_rfl)
instance : TyBuild Try.prog 52 [.int .i64 0, .int .i64 0, .int .i64 0] [.val (.int .i64 0), .val (.int .i64 0), .val (.int .i64 0)] (fun i => #[(0, 1), (1, 1), (2, 1)][i]?) := ⟨rfl, fun parts => by kernel_rfl, rfl⟩
instance : TyEqI Try.prog 52 3 := ⟨by kernel_rfl, fun w xs ys hx hy => by
  match xs, ys, hx, hy with
  | [a0, a1, a2], [b0, b1, b2], _, _ =>
    have hf : (Try.prog.fieldsOf 52).toList = [⟨"first", 3, 0, false, "", "purlieu/purlieuref03", 0⟩, ⟨"by", 3, 1, false, "", "purlieu/purlieuref03", 8⟩, ⟨"n", 3, 2, false, "", "purlieu/purlieuref03", 16⟩] := by kernel_rfl
    have hu3 : Try.prog.underlying 3 = some (.int .i64) := by kernel_rfl
    rw [run_equalIn_agg w 9999 52 _ _ (by kernel_rfl) (by kernel_rfl), hf]
    simp [Op.eqFields, part, isAgg, run_underlying, run_equalIn_int, hu3]
    by_cases e0 : a0 = b0 <;> by_cases e1 : a1 = b1 <;> by_cases e2 : a2 = b2 <;> simp [e0, e1, e2]⟩
-- 75: uint32
instance : TyZero Try.prog 75 1 [.int .u32 0] [.val (.int .u32 0)] := TyZero.of (z := .int .u32 0) (by kernel_rfl : (Try.prog.info? 75).map (fun i => (i.zero, i.size, i.bytes)) = some (some (.int .u32 0), 1, 4)) rfl rfl rfl rfl
instance : TyCell Try.prog 75 := TyCell.ofB (by kernel_rfl)
-- 79: *uint8
instance : TyZero Try.prog 79 1 [.pointer none] [.val (.pointer none)] := TyZero.of (z := .pointer none) (by kernel_rfl : (Try.prog.info? 79).map (fun i => (i.zero, i.size, i.bytes)) = some (some (.pointer none), 1, 8)) rfl rfl rfl rfl
instance : TyCell Try.prog 79 := TyCell.ofB (by kernel_rfl)
theorem mixed : Try.prog.follows .mixedOrders = true := by kernel_rfl
end Go.Proofs.Ytoeabdanldiccaa
