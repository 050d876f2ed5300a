/- What the abstract machine asks of the types of this program. -/
import Derived.Test.YtpomhnmfkdgafaaRows
import Derived.Test.YtpomhnmfkdgafaaAbsG
namespace Go.Proofs.Ytpomhnmfkdgafaa
open Go.RowKit
def cellB (P : Program) (t : TypeId) : Bool := match P.underlying t, P.info? t with
  | some d, some i => !aggDesc d && i.size == 1
  | _, _ => false
def aggB (P : Program) (t : TypeId) (k : Nat) : Bool := match P.underlying t, P.info? t with
  | some d, some i => aggDesc d && i.size == k
  | _, _ => false
theorem TyCell.ofB {P : Program} {t : TypeId} (h : cellB P t = true) : TyCell P t := by
  unfold cellB at h
  cases hu : P.underlying t with
  | none => rw [hu] at h; cases h
  | some d =>
    cases hi : P.info? t with
    | none => rw [hu, hi] at h; cases h
    | some i =>
      rw [hu, hi] at h
      simp only [Bool.and_eq_true, Bool.not_eq_true', beq_iff_eq] at h
      exact ⟨⟨d, hu, h.1⟩, by rw [hi]; simp [h.2]⟩
theorem TyAgg.ofB {P : Program} {t : TypeId} {k : Nat} (h : aggB P t k = true) : TyAgg P t k := by
  unfold aggB at h
  cases hu : P.underlying t with
  | none => rw [hu] at h; cases h
  | some d =>
    cases hi : P.info? t with
    | none => rw [hu, hi] at h; cases h
    | some i =>
      rw [hu, hi] at h
      simp only [Bool.and_eq_true, beq_iff_eq] at h
      exact ⟨⟨d, hu, h.1⟩, by rw [hi]; simp [h.2]⟩
def fieldB (P : Program) (t : TypeId) (f off : Nat) (ft : TypeId) : Bool := match P.underlying t, P.info? ft with
  | some (.struct fs), some i => (match fs[f]? with
    | some fd => fd.offset == off && fd.type == ft && i.size != 0
    | none => false)
  | _, _ => false
theorem TyField.ofB {P : Program} {t : TypeId} {f off : Nat} {ft : TypeId} (h : fieldB P t f off ft = true) : TyField P t f off ft := by
  unfold fieldB at h
  cases hu : P.underlying t with
  | none => rw [hu] at h; cases h
  | some d =>
    cases hi : P.info? ft with
    | none => rw [hu, hi] at h; cases d <;> cases h
    | some i =>
      cases d with
      | struct fs =>
        rw [hu, hi] at h
        simp only at h
        cases hf : fs[f]? with
        | none => rw [hf] at h; cases h
        | some fd =>
          rw [hf] at h
          simp only [Bool.and_eq_true, beq_iff_eq, bne_iff_ne] at h
          exact ⟨⟨fs, fd, hu, hf, h.1.1, h.1.2⟩, ⟨i, hi, h.2⟩⟩
      | _ => rw [hu, hi] at h; cases h
theorem TySlice.of {P : Program} {t e : TypeId} {size bytes : Nat} {z : Value} (hT : P.underlying t = some (.slice e)) (hi : (P.info? e).map (fun i => (i.zero, i.size, i.bytes)) = some (some z, size, bytes)) (hz : z.cells.size = size) (hp : 0 < size) : TySlice P t e size bytes := by
  obtain ⟨i0, hi, hz0, hz1, hz2⟩ := info_parts hi
  exact ⟨hT, ⟨i0, z, hi, hz0, hz1, hz2, hz⟩, hp⟩
theorem TyZero.of {P : Program} {t : TypeId} {z : Value} {zs : List Value} {zd : List D} {k b : Nat} (hi : (P.info? t).map (fun i => (i.zero, i.size, i.bytes)) = some (some z, k, b)) (hz : z.cells.toList = zs) (hk : zs.length = k) (h1 : zs.all (·.oneCell') = true) (hd : zs.map D.val = zd) : TyZero P t k zs zd := by
  obtain ⟨i0, hi, hz0, hz1, hz2⟩ := info_parts hi
  exact ⟨⟨i0, z, hi, hz0, hz, by rw [hk, hz1]⟩, h1, hk, hd⟩
def intFieldsB (P : Program) : List Field → Nat → Bool
  | [], _ => true
  | f :: fs, k => (f.name != "_" && f.offset == k && (match P.underlying f.type with
    | some (.int .i64) => true
    | _ => false)) && intFieldsB P fs (k + 1)
theorem eqFields_ints {P : Program} (w : World) (xs ys : List Int) (hl : xs.length = ys.length) : ∀ (fs : List Field) (k : Nat), intFieldsB P fs k = true → xs.length = k + fs.length → (Op.eqFields (9998 + 1) (xs.map (Value.int .i64)).toArray (ys.map (Value.int .i64)).toArray fs).run P w = .ok (decide (xs.drop k = ys.drop k)) w
  | [], k, _, h => by
    have e1 : xs.drop k = [] := List.drop_eq_nil_of_le (by simp at h; omega)
    have e2 : ys.drop k = [] := List.drop_eq_nil_of_le (by simp at h; omega)
    rw [e1, e2]
    simp [Op.eqFields]
  | f :: fs, k, hf, h => by
    simp only [intFieldsB, Bool.and_eq_true, bne_iff_ne, beq_iff_eq] at hf
    obtain ⟨⟨⟨h1, h2⟩, h3⟩, h4⟩ := hf
    have hu : P.underlying f.type = some (.int .i64) := by
      split at h3
      · assumption
      · cases h3
    have hk : k < xs.length := by simp at h; omega
    have hk2 : k < ys.length := by omega
    have ih := eqFields_ints w xs ys hl fs (k + 1) h4 (by simp at h; omega)
    have e1 : xs.drop k = xs[k] :: xs.drop (k + 1) := (List.getElem_cons_drop hk).symm
    have e2 : ys.drop k = ys[k] :: ys.drop (k + 1) := (List.getElem_cons_drop hk2).symm
    have p1 : (part f.type (xs.map (Value.int .i64)).toArray f.offset).run P w = .ok (.int .i64 xs[k]) w := by
      simp [part, isAgg, run_underlying hu, h2, hk]
    have p2 : (part f.type (ys.map (Value.int .i64)).toArray f.offset).run P w = .ok (.int .i64 ys[k]) w := by
      simp [part, isAgg, run_underlying hu, h2, hk2]
    have p3 : (Op.equalIn (9998 + 1) f.type (.int .i64 xs[k]) (.int .i64 ys[k])).run P w = .ok (xs[k] == ys[k]) w := run_equalIn_int w 9998 f.type .i64 .i64 _ _ hu
    have hd : decide (xs.drop k = ys.drop k) = (decide (xs[k] = ys[k]) && decide (xs.drop (k + 1) = ys.drop (k + 1))) := by
      rw [Bool.eq_iff_iff]
      simp only [Bool.and_eq_true, decide_eq_true_eq]
      rw [e1, e2, List.cons.injEq]
    rw [hd, Op.eqFields, if_pos h1]
    simp only [Sem.run_bind, p1, p2, p3, Result.andThen_ok, Sem.run_ite, ih, Sem.run_pure]
    by_cases he : xs[k] = ys[k]
    · have hb : (xs[k] == ys[k]) = true := by simp [he]
      rw [hb, decide_eq_true he]
      simp
    · have hb : (xs[k] == ys[k]) = false := by simp [he]
      rw [hb, decide_eq_false he]
      simp
theorem TyEqI.ofB {P : Program} {t : TypeId} {n : Nat} (hg : P.eqGuardType P.depth t = false) (hu : P.underlying t = some (.struct (P.fieldsOf t))) (hs : P.stoodInHeld t = false) (hf : (intFieldsB P (P.fieldsOf t).toList 0 && (P.fieldsOf t).toList.length == n) = true) : TyEqI P t n := by
  simp only [Bool.and_eq_true, beq_iff_eq] at hf
  refine ⟨hg, fun w xs ys hx hy => ?_⟩
  rw [run_equalIn_agg w 9999 t _ _ hu hs]
  have := eqFields_ints (P := P) w xs ys (by omega) (P.fieldsOf t).toList 0 hf.1 (by omega)
  simpa using this
instance : TyZero Try.prog 2 1 [.int .i64 0] [.val (.int .i64 0)] := TyZero.of (z := .int .i64 0) (by kernel_rfl : (Try.prog.info? 2).map (fun i => (i.zero, i.size, i.bytes)) = some (some (.int .i64 0), 1, 8)) rfl rfl rfl rfl
instance : TyCell Try.prog 2 := TyCell.ofB (by kernel_rfl)
instance : TyZero Try.prog 3 1 [.int .i64 0] [.val (.int .i64 0)] := TyZero.of (z := .int .i64 0) (by kernel_rfl : (Try.prog.info? 3).map (fun i => (i.zero, i.size, i.bytes)) = some (some (.int .i64 0), 1, 8)) rfl rfl rfl rfl
instance : TyCell Try.prog 3 := TyCell.ofB (by kernel_rfl)
instance : TyZero Try.prog 4 1 [.bool false] [.val (.bool false)] := TyZero.of (z := .bool false) (by kernel_rfl : (Try.prog.info? 4).map (fun i => (i.zero, i.size, i.bytes)) = some (some (.bool false), 1, 1)) rfl rfl rfl rfl
instance : TyBool Try.prog 4 := ⟨by kernel_rfl⟩
instance : TyCell Try.prog 4 := TyCell.ofB (by kernel_rfl)
instance : TyZero Try.prog 5 1 [.int .u8 0] [.val (.int .u8 0)] := TyZero.of (z := .int .u8 0) (by kernel_rfl : (Try.prog.info? 5).map (fun i => (i.zero, i.size, i.bytes)) = some (some (.int .u8 0), 1, 1)) rfl rfl rfl rfl
instance : TyCell Try.prog 5 := TyCell.ofB (by kernel_rfl)
instance : TyZero Try.prog 9 1 [.string ⟨#[]⟩] [.val (.string ⟨#[]⟩)] := TyZero.of (z := .string ⟨#[]⟩) (by kernel_rfl : (Try.prog.info? 9).map (fun i => (i.zero, i.size, i.bytes)) = some (some (.string ⟨#[]⟩), 1, 16)) rfl rfl rfl rfl
instance : TyCell Try.prog 9 := TyCell.ofB (by kernel_rfl)
instance : TyZero Try.prog 12 1 [.int .u64 0] [.val (.int .u64 0)] := TyZero.of (z := .int .u64 0) (by kernel_rfl : (Try.prog.info? 12).map (fun i => (i.zero, i.size, i.bytes)) = some (some (.int .u64 0), 1, 8)) rfl rfl rfl rfl
instance : TyCell Try.prog 12 := TyCell.ofB (by kernel_rfl)
instance : TyZero Try.prog 13 2 [.string ⟨#[]⟩, .int .u64 0] [.val (.string ⟨#[]⟩), .val (.int .u64 0)] := TyZero.of (z := .agg #[.string ⟨#[]⟩, .int .u64 0]) (by kernel_rfl : (Try.prog.info? 13).map (fun i => (i.zero, i.size, i.bytes)) = some (some (.agg #[.string ⟨#[]⟩, .int .u64 0]), 2, 24)) rfl rfl rfl rfl
instance : TyAgg Try.prog 13 2 := TyAgg.ofB (by kernel_rfl)
instance : TyField Try.prog 13 0 0 9 := TyField.ofB (by kernel_rfl)
instance : TyField Try.prog 13 1 1 12 := TyField.ofB (by kernel_rfl)
instance : TyBuild Try.prog 13 [.string ⟨#[]⟩, .int .u64 0] [.val (.string ⟨#[]⟩), .val (.int .u64 0)] (fun i => #[(0, 1), (1, 1)][i]?) := ⟨rfl, fun parts => by kernel_rfl, rfl⟩
instance : TyZero Try.prog 21 1 [.int .i32 0] [.val (.int .i32 0)] := TyZero.of (z := .int .i32 0) (by kernel_rfl : (Try.prog.info? 21).map (fun i => (i.zero, i.size, i.bytes)) = some (some (.int .i32 0), 1, 4)) rfl rfl rfl rfl
instance : TyCell Try.prog 21 := TyCell.ofB (by kernel_rfl)
instance : TyZero Try.prog 22 1 [.slice none 0 0] [.val (.slice none 0 0)] := TyZero.of (z := .slice none 0 0) (by kernel_rfl : (Try.prog.info? 22).map (fun i => (i.zero, i.size, i.bytes)) = some (some (.slice none 0 0), 1, 24)) rfl rfl rfl rfl
instance : TyCell Try.prog 22 := TyCell.ofB (by kernel_rfl)
instance : TySlice Try.prog 22 29 3 24 := TySlice.of (z := .agg #[.int .i64 0, .int .i64 0, .int .i64 0]) (by kernel_rfl) (by kernel_rfl) rfl (by decide)
instance : TyZero Try.prog 23 1 [.pointer none] [.val (.pointer none)] := TyZero.of (z := .pointer none) (by kernel_rfl : (Try.prog.info? 23).map (fun i => (i.zero, i.size, i.bytes)) = some (some (.pointer none), 1, 8)) rfl rfl rfl rfl
instance : TyCell Try.prog 23 := TyCell.ofB (by kernel_rfl)
instance : TyZero Try.prog 28 3 [.int .i64 0, .int .i64 0, .int .i64 0] [.val (.int .i64 0), .val (.int .i64 0), .val (.int .i64 0)] := TyZero.of (z := .agg #[.int .i64 0, .int .i64 0, .int .i64 0]) (by kernel_rfl : (Try.prog.info? 28).map (fun i => (i.zero, i.size, i.bytes)) = some (some (.agg #[.int .i64 0, .int .i64 0, .int .i64 0]), 3, 24)) rfl rfl rfl rfl
instance : TyAgg Try.prog 28 3 := TyAgg.ofB (by kernel_rfl)
instance : TyField Try.prog 28 0 0 3 := TyField.ofB (by kernel_rfl)
instance : TyField Try.prog 28 1 1 3 := TyField.ofB (by kernel_rfl)
instance : TyField Try.prog 28 2 2 3 := TyField.ofB (by kernel_rfl)
instance : TyBuild Try.prog 28 [.int .i64 0, .int .i64 0, .int .i64 0] [.val (.int .i64 0), .val (.int .i64 0), .val (.int .i64 0)] (fun i => #[(0, 1), (1, 1), (2, 1)][i]?) := ⟨rfl, fun parts => by kernel_rfl, rfl⟩
instance : TyEqI Try.prog 28 3 := TyEqI.ofB (by kernel_rfl) (by kernel_rfl) (by kernel_rfl) (by kernel_rfl)
instance : TyZero Try.prog 29 3 [.int .i64 0, .int .i64 0, .int .i64 0] [.val (.int .i64 0), .val (.int .i64 0), .val (.int .i64 0)] := TyZero.of (z := .agg #[.int .i64 0, .int .i64 0, .int .i64 0]) (by kernel_rfl : (Try.prog.info? 29).map (fun i => (i.zero, i.size, i.bytes)) = some (some (.agg #[.int .i64 0, .int .i64 0, .int .i64 0]), 3, 24)) rfl rfl rfl rfl
instance : TyAgg Try.prog 29 3 := TyAgg.ofB (by kernel_rfl)
instance : TyField Try.prog 29 0 0 3 := TyField.ofB (by kernel_rfl)
instance : TyField Try.prog 29 1 1 3 := TyField.ofB (by kernel_rfl)
instance : TyField Try.prog 29 2 2 3 := TyField.ofB (by kernel_rfl)
instance : TyBuild Try.prog 29 [.int .i64 0, .int .i64 0, .int .i64 0] [.val (.int .i64 0), .val (.int .i64 0), .val (.int .i64 0)] (fun i => #[(0, 1), (1, 1), (2, 1)][i]?) := ⟨rfl, fun parts => by kernel_rfl, rfl⟩
instance : TyEqI Try.prog 29 3 := TyEqI.ofB (by kernel_rfl) (by kernel_rfl) (by kernel_rfl) (by kernel_rfl)
instance : TyZero Try.prog 30 1 [.slice none 0 0] [.val (.slice none 0 0)] := TyZero.of (z := .slice none 0 0) (by kernel_rfl : (Try.prog.info? 30).map (fun i => (i.zero, i.size, i.bytes)) = some (some (.slice none 0 0), 1, 24)) rfl rfl rfl rfl
instance : TyCell Try.prog 30 := TyCell.ofB (by kernel_rfl)
instance : TySlice Try.prog 30 49 2 16 := TySlice.of (z := .agg #[.int .i64 0, .int .i64 0]) (by kernel_rfl) (by kernel_rfl) rfl (by decide)
instance : TyZero Try.prog 31 1 [.pointer none] [.val (.pointer none)] := TyZero.of (z := .pointer none) (by kernel_rfl : (Try.prog.info? 31).map (fun i => (i.zero, i.size, i.bytes)) = some (some (.pointer none), 1, 8)) rfl rfl rfl rfl
instance : TyCell Try.prog 31 := TyCell.ofB (by kernel_rfl)
instance : TyZero Try.prog 32 1 [.pointer none] [.val (.pointer none)] := TyZero.of (z := .pointer none) (by kernel_rfl : (Try.prog.info? 32).map (fun i => (i.zero, i.size, i.bytes)) = some (some (.pointer none), 1, 8)) rfl rfl rfl rfl
instance : TyCell Try.prog 32 := TyCell.ofB (by kernel_rfl)
instance : TyZero Try.prog 33 2 [.pointer none, .pointer none] [.val (.pointer none), .val (.pointer none)] := TyZero.of (z := .agg #[.pointer none, .pointer none]) (by kernel_rfl : (Try.prog.info? 33).map (fun i => (i.zero, i.size, i.bytes)) = some (some (.agg #[.pointer none, .pointer none]), 2, 16)) rfl rfl rfl rfl
instance : TyAgg Try.prog 33 2 := TyAgg.ofB (by kernel_rfl)
instance : TyField Try.prog 33 0 0 31 := TyField.ofB (by kernel_rfl)
instance : TyField Try.prog 33 1 1 32 := TyField.ofB (by kernel_rfl)
instance : TyBuild Try.prog 33 [.pointer none, .pointer none] [.val (.pointer none), .val (.pointer none)] (fun i => #[(0, 1), (1, 1)][i]?) := ⟨rfl, fun parts => by kernel_rfl, rfl⟩
instance : TyZero Try.prog 34 2 [.pointer none, .pointer none] [.val (.pointer none), .val (.pointer none)] := TyZero.of (z := .agg #[.pointer none, .pointer none]) (by kernel_rfl : (Try.prog.info? 34).map (fun i => (i.zero, i.size, i.bytes)) = some (some (.agg #[.pointer none, .pointer none]), 2, 16)) rfl rfl rfl rfl
instance : TyAgg Try.prog 34 2 := TyAgg.ofB (by kernel_rfl)
instance : TyField Try.prog 34 0 0 31 := TyField.ofB (by kernel_rfl)
instance : TyField Try.prog 34 1 1 32 := TyField.ofB (by kernel_rfl)
instance : TyBuild Try.prog 34 [.pointer none, .pointer none] [.val (.pointer none), .val (.pointer none)] (fun i => #[(0, 1), (1, 1)][i]?) := ⟨rfl, fun parts => by kernel_rfl, rfl⟩
instance : TyZero Try.prog 36 1 [.slice none 0 0] [.val (.slice none 0 0)] := TyZero.of (z := .slice none 0 0) (by kernel_rfl : (Try.prog.info? 36).map (fun i => (i.zero, i.size, i.bytes)) = some (some (.slice none 0 0), 1, 24)) rfl rfl rfl rfl
instance : TyCell Try.prog 36 := TyCell.ofB (by kernel_rfl)
instance : TySlice Try.prog 36 3 1 8 := TySlice.of (z := .int .i64 0) (by kernel_rfl) (by kernel_rfl) rfl (by decide)
instance : TyZero Try.prog 38 1 [.int .i64 0] [.val (.int .i64 0)] := TyZero.of (z := .int .i64 0) (by kernel_rfl : (Try.prog.info? 38).map (fun i => (i.zero, i.size, i.bytes)) = some (some (.int .i64 0), 1, 8)) rfl rfl rfl rfl
instance : TyCell Try.prog 38 := TyCell.ofB (by kernel_rfl)
instance : TyZero Try.prog 49 2 [.int .i64 0, .int .i64 0] [.val (.int .i64 0), .val (.int .i64 0)] := TyZero.of (z := .agg #[.int .i64 0, .int .i64 0]) (by kernel_rfl : (Try.prog.info? 49).map (fun i => (i.zero, i.size, i.bytes)) = some (some (.agg #[.int .i64 0, .int .i64 0]), 2, 16)) rfl rfl rfl rfl
instance : TyAgg Try.prog 49 2 := TyAgg.ofB (by kernel_rfl)
instance : TyArr Try.prog 49 2 3 1 := ⟨by kernel_rfl, by kernel_rfl, by decide⟩
instance : TyBuild Try.prog 49 [.int .i64 0, .int .i64 0] [.val (.int .i64 0), .val (.int .i64 0)] (fun i => some (i * 1, 1)) := ⟨rfl, fun parts => by kernel_rfl, rfl⟩
instance : TyZero Try.prog 50 1 [.slice none 0 0] [.val (.slice none 0 0)] := TyZero.of (z := .slice none 0 0) (by kernel_rfl : (Try.prog.info? 50).map (fun i => (i.zero, i.size, i.bytes)) = some (some (.slice none 0 0), 1, 24)) rfl rfl rfl rfl
instance : TyCell Try.prog 50 := TyCell.ofB (by kernel_rfl)
instance : TySlice Try.prog 50 54 3 16 := TySlice.of (z := .agg #[.bool false, .bool false, .int .i64 0]) (by kernel_rfl) (by kernel_rfl) rfl (by decide)
instance : TyZero Try.prog 51 8 [.slice none 0 0, .slice none 0 0, .int .i64 0, .int .i64 0, .bool false, .bool false, .bool false, .int .i64 0] [.val (.slice none 0 0), .val (.slice none 0 0), .val (.int .i64 0), .val (.int .i64 0), .val (.bool false), .val (.bool false), .val (.bool false), .val (.int .i64 0)] := TyZero.of (z := .agg #[.slice none 0 0, .slice none 0 0, .int .i64 0, .int .i64 0, .bool false, .bool false, .bool false, .int .i64 0]) (by kernel_rfl : (Try.prog.info? 51).map (fun i => (i.zero, i.size, i.bytes)) = some (some (.agg #[.slice none 0 0, .slice none 0 0, .int .i64 0, .int .i64 0, .bool false, .bool false, .bool false, .int .i64 0]), 8, 80)) rfl rfl rfl rfl
instance : TyAgg Try.prog 51 8 := TyAgg.ofB (by kernel_rfl)
instance : TyField Try.prog 51 0 0 50 := TyField.ofB (by kernel_rfl)
instance : TyField Try.prog 51 1 1 30 := TyField.ofB (by kernel_rfl)
instance : TyField Try.prog 51 2 2 3 := TyField.ofB (by kernel_rfl)
instance : TyField Try.prog 51 3 3 3 := TyField.ofB (by kernel_rfl)
instance : TyField Try.prog 51 4 4 4 := TyField.ofB (by kernel_rfl)
instance : TyField Try.prog 51 5 5 4 := TyField.ofB (by kernel_rfl)
instance : TyField Try.prog 51 6 6 4 := TyField.ofB (by kernel_rfl)
instance : TyField Try.prog 51 7 7 3 := TyField.ofB (by kernel_rfl)
instance : TyBuild Try.prog 51 [.slice none 0 0, .slice none 0 0, .int .i64 0, .int .i64 0, .bool false, .bool false, .bool false, .int .i64 0] [.val (.slice none 0 0), .val (.slice none 0 0), .val (.int .i64 0), .val (.int .i64 0), .val (.bool false), .val (.bool false), .val (.bool false), .val (.int .i64 0)] (fun i => #[(0, 1), (1, 1), (2, 1), (3, 1), (4, 1), (5, 1), (6, 1), (7, 1)][i]?) := ⟨rfl, fun parts => by kernel_rfl, rfl⟩
instance : TyZero Try.prog 52 8 [.slice none 0 0, .slice none 0 0, .int .i64 0, .int .i64 0, .bool false, .bool false, .bool false, .int .i64 0] [.val (.slice none 0 0), .val (.slice none 0 0), .val (.int .i64 0), .val (.int .i64 0), .val (.bool false), .val (.bool false), .val (.bool false), .val (.int .i64 0)] := TyZero.of (z := .agg #[.slice none 0 0, .slice none 0 0, .int .i64 0, .int .i64 0, .bool false, .bool false, .bool false, .int .i64 0]) (by kernel_rfl : (Try.prog.info? 52).map (fun i => (i.zero, i.size, i.bytes)) = some (some (.agg #[.slice none 0 0, .slice none 0 0, .int .i64 0, .int .i64 0, .bool false, .bool false, .bool false, .int .i64 0]), 8, 80)) rfl rfl rfl rfl
instance : TyAgg Try.prog 52 8 := TyAgg.ofB (by kernel_rfl)
instance : TyField Try.prog 52 0 0 50 := TyField.ofB (by kernel_rfl)
instance : TyField Try.prog 52 1 1 30 := TyField.ofB (by kernel_rfl)
instance : TyField Try.prog 52 2 2 3 := TyField.ofB (by kernel_rfl)
instance : TyField Try.prog 52 3 3 3 := TyField.ofB (by kernel_rfl)
instance : TyField Try.prog 52 4 4 4 := TyField.ofB (by kernel_rfl)
instance : TyField Try.prog 52 5 5 4 := TyField.ofB (by kernel_rfl)
instance : TyField Try.prog 52 6 6 4 := TyField.ofB (by kernel_rfl)
instance : TyField Try.prog 52 7 7 3 := TyField.ofB (by kernel_rfl)
instance : TyBuild Try.prog 52 [.slice none 0 0, .slice none 0 0, .int .i64 0, .int .i64 0, .bool false, .bool false, .bool false, .int .i64 0] [.val (.slice none 0 0), .val (.slice none 0 0), .val (.int .i64 0), .val (.int .i64 0), .val (.bool false), .val (.bool false), .val (.bool false), .val (.int .i64 0)] (fun i => #[(0, 1), (1, 1), (2, 1), (3, 1), (4, 1), (5, 1), (6, 1), (7, 1)][i]?) := ⟨rfl, fun parts => by kernel_rfl, rfl⟩
instance : TyZero Try.prog 53 3 [.bool false, .bool false, .int .i64 0] [.val (.bool false), .val (.bool false), .val (.int .i64 0)] := TyZero.of (z := .agg #[.bool false, .bool false, .int .i64 0]) (by kernel_rfl : (Try.prog.info? 53).map (fun i => (i.zero, i.size, i.bytes)) = some (some (.agg #[.bool false, .bool false, .int .i64 0]), 3, 16)) rfl rfl rfl rfl
instance : TyAgg Try.prog 53 3 := TyAgg.ofB (by kernel_rfl)
instance : TyField Try.prog 53 0 0 4 := TyField.ofB (by kernel_rfl)
instance : TyField Try.prog 53 1 1 4 := TyField.ofB (by kernel_rfl)
instance : TyField Try.prog 53 2 2 3 := TyField.ofB (by kernel_rfl)
instance : TyBuild Try.prog 53 [.bool false, .bool false, .int .i64 0] [.val (.bool false), .val (.bool false), .val (.int .i64 0)] (fun i => #[(0, 1), (1, 1), (2, 1)][i]?) := ⟨rfl, fun parts => by kernel_rfl, rfl⟩
instance : TyZero Try.prog 54 3 [.bool false, .bool false, .int .i64 0] [.val (.bool false), .val (.bool false), .val (.int .i64 0)] := TyZero.of (z := .agg #[.bool false, .bool false, .int .i64 0]) (by kernel_rfl : (Try.prog.info? 54).map (fun i => (i.zero, i.size, i.bytes)) = some (some (.agg #[.bool false, .bool false, .int .i64 0]), 3, 16)) rfl rfl rfl rfl
instance : TyAgg Try.prog 54 3 := TyAgg.ofB (by kernel_rfl)
instance : TyField Try.prog 54 0 0 4 := TyField.ofB (by kernel_rfl)
instance : TyField Try.prog 54 1 1 4 := TyField.ofB (by kernel_rfl)
instance : TyField Try.prog 54 2 2 3 := TyField.ofB (by kernel_rfl)
instance : TyBuild Try.prog 54 [.bool false, .bool false, .int .i64 0] [.val (.bool false), .val (.bool false), .val (.int .i64 0)] (fun i => #[(0, 1), (1, 1), (2, 1)][i]?) := ⟨rfl, fun parts => by kernel_rfl, rfl⟩
instance : TyZero Try.prog 55 1 [.pointer none] [.val (.pointer none)] := TyZero.of (z := .pointer none) (by kernel_rfl : (Try.prog.info? 55).map (fun i => (i.zero, i.size, i.bytes)) = some (some (.pointer none), 1, 8)) rfl rfl rfl rfl
instance : TyCell Try.prog 55 := TyCell.ofB (by kernel_rfl)
instance : TyZero Try.prog 56 1 [.slice none 0 0] [.val (.slice none 0 0)] := TyZero.of (z := .slice none 0 0) (by kernel_rfl : (Try.prog.info? 56).map (fun i => (i.zero, i.size, i.bytes)) = some (some (.slice none 0 0), 1, 24)) rfl rfl rfl rfl
instance : TyCell Try.prog 56 := TyCell.ofB (by kernel_rfl)
instance : TySlice Try.prog 56 4 1 1 := TySlice.of (z := .bool false) (by kernel_rfl) (by kernel_rfl) rfl (by decide)
instance : TyZero Try.prog 57 11 [.int .i64 0, .slice none 0 0, .slice none 0 0, .slice none 0 0, .slice none 0 0, .int .i64 0, .int .i64 0, .bool false, .bool false, .bool false, .int .i64 0] [.val (.int .i64 0), .val (.slice none 0 0), .val (.slice none 0 0), .val (.slice none 0 0), .val (.slice none 0 0), .val (.int .i64 0), .val (.int .i64 0), .val (.bool false), .val (.bool false), .val (.bool false), .val (.int .i64 0)] := TyZero.of (z := .agg #[.int .i64 0, .slice none 0 0, .slice none 0 0, .slice none 0 0, .slice none 0 0, .int .i64 0, .int .i64 0, .bool false, .bool false, .bool false, .int .i64 0]) (by kernel_rfl : (Try.prog.info? 57).map (fun i => (i.zero, i.size, i.bytes)) = some (some (.agg #[.int .i64 0, .slice none 0 0, .slice none 0 0, .slice none 0 0, .slice none 0 0, .int .i64 0, .int .i64 0, .bool false, .bool false, .bool false, .int .i64 0]), 11, 136)) rfl rfl rfl rfl
instance : TyAgg Try.prog 57 11 := TyAgg.ofB (by kernel_rfl)
instance : TyField Try.prog 57 0 0 3 := TyField.ofB (by kernel_rfl)
instance : TyField Try.prog 57 1 1 56 := TyField.ofB (by kernel_rfl)
instance : TyField Try.prog 57 2 2 56 := TyField.ofB (by kernel_rfl)
instance : TyField Try.prog 57 3 3 36 := TyField.ofB (by kernel_rfl)
instance : TyField Try.prog 57 4 4 30 := TyField.ofB (by kernel_rfl)
instance : TyField Try.prog 57 5 5 3 := TyField.ofB (by kernel_rfl)
instance : TyField Try.prog 57 6 6 3 := TyField.ofB (by kernel_rfl)
instance : TyField Try.prog 57 7 7 4 := TyField.ofB (by kernel_rfl)
instance : TyField Try.prog 57 8 8 4 := TyField.ofB (by kernel_rfl)
instance : TyField Try.prog 57 9 9 4 := TyField.ofB (by kernel_rfl)
instance : TyField Try.prog 57 10 10 3 := TyField.ofB (by kernel_rfl)
instance : TyBuild Try.prog 57 [.int .i64 0, .slice none 0 0, .slice none 0 0, .slice none 0 0, .slice none 0 0, .int .i64 0, .int .i64 0, .bool false, .bool false, .bool false, .int .i64 0] [.val (.int .i64 0), .val (.slice none 0 0), .val (.slice none 0 0), .val (.slice none 0 0), .val (.slice none 0 0), .val (.int .i64 0), .val (.int .i64 0), .val (.bool false), .val (.bool false), .val (.bool false), .val (.int .i64 0)] (fun i => #[(0, 1), (1, 1), (2, 1), (3, 1), (4, 1), (5, 1), (6, 1), (7, 1), (8, 1), (9, 1), (10, 1)][i]?) := ⟨rfl, fun parts => by kernel_rfl, rfl⟩
instance : TyZero Try.prog 58 11 [.int .i64 0, .slice none 0 0, .slice none 0 0, .slice none 0 0, .slice none 0 0, .int .i64 0, .int .i64 0, .bool false, .bool false, .bool false, .int .i64 0] [.val (.int .i64 0), .val (.slice none 0 0), .val (.slice none 0 0), .val (.slice none 0 0), .val (.slice none 0 0), .val (.int .i64 0), .val (.int .i64 0), .val (.bool false), .val (.bool false), .val (.bool false), .val (.int .i64 0)] := TyZero.of (z := .agg #[.int .i64 0, .slice none 0 0, .slice none 0 0, .slice none 0 0, .slice none 0 0, .int .i64 0, .int .i64 0, .bool false, .bool false, .bool false, .int .i64 0]) (by kernel_rfl : (Try.prog.info? 58).map (fun i => (i.zero, i.size, i.bytes)) = some (some (.agg #[.int .i64 0, .slice none 0 0, .slice none 0 0, .slice none 0 0, .slice none 0 0, .int .i64 0, .int .i64 0, .bool false, .bool false, .bool false, .int .i64 0]), 11, 136)) rfl rfl rfl rfl
instance : TyAgg Try.prog 58 11 := TyAgg.ofB (by kernel_rfl)
instance : TyField Try.prog 58 0 0 3 := TyField.ofB (by kernel_rfl)
instance : TyField Try.prog 58 1 1 56 := TyField.ofB (by kernel_rfl)
instance : TyField Try.prog 58 2 2 56 := TyField.ofB (by kernel_rfl)
instance : TyField Try.prog 58 3 3 36 := TyField.ofB (by kernel_rfl)
instance : TyField Try.prog 58 4 4 30 := TyField.ofB (by kernel_rfl)
instance : TyField Try.prog 58 5 5 3 := TyField.ofB (by kernel_rfl)
instance : TyField Try.prog 58 6 6 3 := TyField.ofB (by kernel_rfl)
instance : TyField Try.prog 58 7 7 4 := TyField.ofB (by kernel_rfl)
instance : TyField Try.prog 58 8 8 4 := TyField.ofB (by kernel_rfl)
instance : TyField Try.prog 58 9 9 4 := TyField.ofB (by kernel_rfl)
instance : TyField Try.prog 58 10 10 3 := TyField.ofB (by kernel_rfl)
instance : TyBuild Try.prog 58 [.int .i64 0, .slice none 0 0, .slice none 0 0, .slice none 0 0, .slice none 0 0, .int .i64 0, .int .i64 0, .bool false, .bool false, .bool false, .int .i64 0] [.val (.int .i64 0), .val (.slice none 0 0), .val (.slice none 0 0), .val (.slice none 0 0), .val (.slice none 0 0), .val (.int .i64 0), .val (.int .i64 0), .val (.bool false), .val (.bool false), .val (.bool false), .val (.int .i64 0)] (fun i => #[(0, 1), (1, 1), (2, 1), (3, 1), (4, 1), (5, 1), (6, 1), (7, 1), (8, 1), (9, 1), (10, 1)][i]?) := ⟨rfl, fun parts => by kernel_rfl, rfl⟩
instance : TyZero Try.prog 74 1 [.int .u32 0] [.val (.int .u32 0)] := TyZero.of (z := .int .u32 0) (by kernel_rfl : (Try.prog.info? 74).map (fun i => (i.zero, i.size, i.bytes)) = some (some (.int .u32 0), 1, 4)) rfl rfl rfl rfl
instance : TyCell Try.prog 74 := TyCell.ofB (by kernel_rfl)
instance : TyZero Try.prog 78 1 [.pointer none] [.val (.pointer none)] := TyZero.of (z := .pointer none) (by kernel_rfl : (Try.prog.info? 78).map (fun i => (i.zero, i.size, i.bytes)) = some (some (.pointer none), 1, 8)) rfl rfl rfl rfl
instance : TyCell Try.prog 78 := TyCell.ofB (by kernel_rfl)
theorem mixed : Try.prog.follows .mixedOrders = true := by kernel_rfl
end Go.Proofs.Ytpomhnmfkdgafaa
