/- The abstract machine's walk: one rule for all pure operations, one for all that write, so that a walk's text is short. -/
import Derived.Test.YtifapodobhkdcaaArr
namespace Go.Proofs.Ytifapodobhkdcaa
open Go.RowKit
set_option linter.unusedVariables false
set_option linter.unusedSimpArgs false
section
variable {P : Program} {S : St} {o : Oper} {x : Operand} {T' : TypeId} {nb sz : Nat} {tmp : List (Nat × D)} {mem : List (Nat × Option M)}
theorem cell_first {xs : List D} {d : D} {k : Nat} (h : xs[k]? = some d) : ∃ ys, xs.drop k = d :: ys := by
  obtain ⟨hlt, he⟩ := List.getElem?_eq_some_iff.1 h
  exact ⟨xs.drop (k + 1), by rw [← he, List.getElem_cons_drop]⟩
/-- a load whose cell is named by the context -/
theorem P_loadE {b off size n : Nat} {e : TypeId} {xs : List D} {d : D} [hT : TyCell P T'] (ho : o.op = .load T' x) (hx : S.ev x = some (.ptr b off)) (hm : getM b S.mem = some ⟨e, size, n, xs⟩) (hd : xs[off]? = some d) : PStep P o S d := by
  obtain ⟨ys, hys⟩ := cell_first hd
  exact P_load (ys := ys) ho hx (by simp only [cellsD, hm, hys])
theorem P_loadAggE {d : D} {k : Nat} {ys zs : List D} [hT : TyAgg P T' k] (ho : o.op = .load T' x) (hx : S.ev x = some d) (hc : cellsD S.mem d = some ys) (hz : ys.take k = zs) (hk : zs.length = k) : PStep P o S (.agg zs) := P_loadAgg ho hx hc hz hk
theorem P_loadRE {b off size n : Nat} {e : TypeId} {xs : List D} {d : D} [hT : TyCell P T'] (ho : o.op = .load T' x) (hx : St.ev ⟨nb, sz, tmp, memR [b] mem⟩ x = some (.ptr b off)) (hm : getM b mem = some ⟨e, size, n, xs⟩) (hd : xs[off]? = some d) : PStep P o ⟨nb, sz, tmp, memR [b] mem⟩ d := by
  obtain ⟨ys, hys⟩ := cell_first hd
  exact P_load (ys := ys) ho hx (by simp [cellsD, memR, getM, hm, hys])
end
structure QS (P : Program) (o : Oper) (S : St) (d : D) : Prop where
  h : PStep P o S d
structure QA (P : Program) (o : Oper) (sz : Nat) (tmp : List (Nat × D)) (mem : List (Nat × Option M)) (d : D) : Prop where
  h : ∀ nb, PStep P o ⟨nb, sz, tmp, mem⟩ d
section
variable {P : Program} {S : St} {x y z : Operand} {T' T2 : TypeId} {t fi : Nat} {ty : TypeId} {pos : String} {af : Array Edge} {gd : Option (Nat × Bool)} {bo : BinOp} {uo : UnOp} {bf : Builtin} {args ats2 : Array Operand} {ats : Array TypeId} {parts : Array (Nat × Operand)} {o1 o2 o3 : Option Operand} {fx : Fn} {d : D}
theorem B_lss (h : PStep P ⟨some t, .binOp .lss T' x y T2, ty, pos, af, gd⟩ S d) : QS P ⟨some t, .binOp .lss T' x y T2, ty, pos, af, gd⟩ S d := ⟨h⟩
theorem B_add (h : PStep P ⟨some t, .binOp .add T' x y T2, ty, pos, af, gd⟩ S d) : QS P ⟨some t, .binOp .add T' x y T2, ty, pos, af, gd⟩ S d := ⟨h⟩
theorem B_eql (h : PStep P ⟨some t, .binOp .eql T' x y T2, ty, pos, af, gd⟩ S d) : QS P ⟨some t, .binOp .eql T' x y T2, ty, pos, af, gd⟩ S d := ⟨h⟩
theorem B_neq (h : PStep P ⟨some t, .binOp .neq T' x y T2, ty, pos, af, gd⟩ S d) : QS P ⟨some t, .binOp .neq T' x y T2, ty, pos, af, gd⟩ S d := ⟨h⟩
theorem B_leq (h : PStep P ⟨some t, .binOp .leq T' x y T2, ty, pos, af, gd⟩ S d) : QS P ⟨some t, .binOp .leq T' x y T2, ty, pos, af, gd⟩ S d := ⟨h⟩
theorem B_gtr (h : PStep P ⟨some t, .binOp .gtr T' x y T2, ty, pos, af, gd⟩ S d) : QS P ⟨some t, .binOp .gtr T' x y T2, ty, pos, af, gd⟩ S d := ⟨h⟩
theorem B_geq (h : PStep P ⟨some t, .binOp .geq T' x y T2, ty, pos, af, gd⟩ S d) : QS P ⟨some t, .binOp .geq T' x y T2, ty, pos, af, gd⟩ S d := ⟨h⟩
theorem B_sub (h : PStep P ⟨some t, .binOp .sub T' x y T2, ty, pos, af, gd⟩ S d) : QS P ⟨some t, .binOp .sub T' x y T2, ty, pos, af, gd⟩ S d := ⟨h⟩
theorem B_mul (h : PStep P ⟨some t, .binOp .mul T' x y T2, ty, pos, af, gd⟩ S d) : QS P ⟨some t, .binOp .mul T' x y T2, ty, pos, af, gd⟩ S d := ⟨h⟩
theorem B_quo (h : PStep P ⟨some t, .binOp .quo T' x y T2, ty, pos, af, gd⟩ S d) : QS P ⟨some t, .binOp .quo T' x y T2, ty, pos, af, gd⟩ S d := ⟨h⟩
theorem B_rem (h : PStep P ⟨some t, .binOp .rem T' x y T2, ty, pos, af, gd⟩ S d) : QS P ⟨some t, .binOp .rem T' x y T2, ty, pos, af, gd⟩ S d := ⟨h⟩
theorem B_len (h : PStep P ⟨some t, .call { callee := .builtin .len, args := args, argTypes := ats }, ty, pos, af, gd⟩ S d) : QS P ⟨some t, .call { callee := .builtin .len, args := args, argTypes := ats }, ty, pos, af, gd⟩ S d := ⟨h⟩
theorem B_min (h : PStep P ⟨some t, .call { callee := .builtin .min, args := args, argTypes := ats }, ty, pos, af, gd⟩ S d) : QS P ⟨some t, .call { callee := .builtin .min, args := args, argTypes := ats }, ty, pos, af, gd⟩ S d := ⟨h⟩
theorem B_max (h : PStep P ⟨some t, .call { callee := .builtin .max, args := args, argTypes := ats }, ty, pos, af, gd⟩ S d) : QS P ⟨some t, .call { callee := .builtin .max, args := args, argTypes := ats }, ty, pos, af, gd⟩ S d := ⟨h⟩
theorem B_not (h : PStep P ⟨some t, .unOp .not T' x, ty, pos, af, gd⟩ S d) : QS P ⟨some t, .unOp .not T' x, ty, pos, af, gd⟩ S d := ⟨h⟩
theorem B_neg (h : PStep P ⟨some t, .unOp .neg T' x, ty, pos, af, gd⟩ S d) : QS P ⟨some t, .unOp .neg T' x, ty, pos, af, gd⟩ S d := ⟨h⟩
theorem Q_load (h : PStep P ⟨some t, .load T' x, ty, pos, af, gd⟩ S d) : QS P ⟨some t, .load T' x, ty, pos, af, gd⟩ S d := ⟨h⟩
theorem Q_fa (h : PStep P ⟨some t, .fieldAddr T' x fi, ty, pos, af, gd⟩ S d) : QS P ⟨some t, .fieldAddr T' x fi, ty, pos, af, gd⟩ S d := ⟨h⟩
theorem Q_nil (h : PStep P ⟨some t, .nilCheck x, ty, pos, af, gd⟩ S d) : QS P ⟨some t, .nilCheck x, ty, pos, af, gd⟩ S d := ⟨h⟩
theorem Q_move (h : PStep P ⟨some t, .move x, ty, pos, af, gd⟩ S d) : QS P ⟨some t, .move x, ty, pos, af, gd⟩ S d := ⟨h⟩
theorem Q_asg (h : PStep P ⟨some t, .assign x, ty, pos, af, gd⟩ S d) : QS P ⟨some t, .assign x, ty, pos, af, gd⟩ S d := ⟨h⟩
theorem Q_ext (h : PStep P ⟨some t, .extract x fi, ty, pos, af, gd⟩ S d) : QS P ⟨some t, .extract x fi, ty, pos, af, gd⟩ S d := ⟨h⟩
theorem Q_idx (h : PStep P ⟨some t, .indexAddr T' x y, ty, pos, af, gd⟩ S d) : QS P ⟨some t, .indexAddr T' x y, ty, pos, af, gd⟩ S d := ⟨h⟩
theorem Q_bin (h : QS P ⟨some t, .binOp bo T' x y T2, ty, pos, af, gd⟩ S d) : QS P ⟨some t, .binOp bo T' x y T2, ty, pos, af, gd⟩ S d := h
theorem Q_pick (h : PStep P ⟨some t, .pick z x y, ty, pos, af, gd⟩ S d) : QS P ⟨some t, .pick z x y, ty, pos, af, gd⟩ S d := ⟨h⟩
theorem Q_bi (h : QS P ⟨some t, .call { callee := .builtin bf, args := args, argTypes := ats }, ty, pos, af, gd⟩ S d) : QS P ⟨some t, .call { callee := .builtin bf, args := args, argTypes := ats }, ty, pos, af, gd⟩ S d := h
theorem Q_fld (h : PStep P ⟨some t, .field T' x fi, ty, pos, af, gd⟩ S d) : QS P ⟨some t, .field T' x fi, ty, pos, af, gd⟩ S d := ⟨h⟩
theorem Q_un (h : QS P ⟨some t, .unOp uo T' x, ty, pos, af, gd⟩ S d) : QS P ⟨some t, .unOp uo T' x, ty, pos, af, gd⟩ S d := h
theorem Q_bld (h : PStep P ⟨some t, .build T' parts, ty, pos, af, gd⟩ S d) : QS P ⟨some t, .build T' parts, ty, pos, af, gd⟩ S d := ⟨h⟩
theorem Q_lit (h : PStep P ⟨some t, .buildSlice T' fi parts, ty, pos, af, gd⟩ S d) : QS P ⟨some t, .buildSlice T' fi parts, ty, pos, af, gd⟩ S d := ⟨h⟩
theorem Q_cut (h : PStep P ⟨some t, .slice T' x o1 o2 o3, ty, pos, af, gd⟩ S d) : QS P ⟨some t, .slice T' x o1 o2 o3, ty, pos, af, gd⟩ S d := ⟨h⟩
theorem Q_cv (h : PStep P ⟨some t, .convert T' T2 x, ty, pos, af, gd⟩ S d) : QS P ⟨some t, .convert T' T2 x, ty, pos, af, gd⟩ S d := ⟨h⟩
theorem Q_fn (h : PStep P ⟨some t, .makeFunc fx args ats2, ty, pos, af, gd⟩ S d) : QS P ⟨some t, .makeFunc fx args ats2, ty, pos, af, gd⟩ S d := ⟨h⟩
end
theorem QA_all {P : Program} {o : Oper} {sz : Nat} {tmp : List (Nat × D)} {mem : List (Nat × Option M)} {d : D} (h : ∀ nb, QS P o ⟨nb, sz, tmp, mem⟩ d) : QA P o sz tmp mem d := ⟨fun nb => (h nb).h⟩
theorem QA_idx {P : Program} {x y : Operand} {T' : TypeId} {t sz : Nat} {tmp : List (Nat × D)} {mem : List (Nat × Option M)} {ty : TypeId} {pos : String} {af : Array Edge} {gd : Option (Nat × Bool)} {d : D} (h : ∀ nb, PStep P ⟨some t, .indexAddr T' x y, ty, pos, af, gd⟩ ⟨nb, sz, tmp, mem⟩ d) : QA P ⟨some t, .indexAddr T' x y, ty, pos, af, gd⟩ sz tmp mem d := ⟨h⟩
section
variable {P : Program} {ops : Array Oper} {S S' : St} {x y : Operand} {T' : TypeId} {t : Nat} {ty : TypeId} {pos : String} {af : Array Edge} {gd : Option (Nat × Bool)} {args : Array Operand} {ats : Array TypeId}
theorem R_al (h : MS P ops ⟨some t, .alloc T', ty, pos, af, gd⟩ S S') : MS P ops ⟨some t, .alloc T', ty, pos, af, gd⟩ S S' := h
theorem R_sto (h : MS P ops ⟨none, .store T' x y, ty, pos, af, gd⟩ S S') : MS P ops ⟨none, .store T' x y, ty, pos, af, gd⟩ S S' := h
theorem R_psh (h : MS P ops ⟨some t, .call { callee := .builtin .append, args := args, argTypes := ats }, ty, pos, af, gd⟩ S S') : MS P ops ⟨some t, .call { callee := .builtin .append, args := args, argTypes := ats }, ty, pos, af, gd⟩ S S' := h
theorem R_box (h : MS P ops ⟨some t, .box T' x, ty, pos, af, gd⟩ S S') : MS P ops ⟨some t, .box T' x, ty, pos, af, gd⟩ S S' := h
theorem R_mk (h : MS P ops ⟨some t, .makeSlice T' x y, ty, pos, af, gd⟩ S S') : MS P ops ⟨some t, .makeSlice T' x y, ty, pos, af, gd⟩ S S' := h
end
section
variable {P : Program} {S : St} {x y : Operand} {T' e : TypeId} {t bytes size n k : Nat} {ty : TypeId} {pos : String} {af : Array Edge} {gd : Option (Nat × Bool)} {parts : Array (Nat × Operand)} {d : D}
theorem Q_loadC [hT : TyCell P T'] (h : PStep P ⟨some t, .load T' x, ty, pos, af, gd⟩ S d) : QS P ⟨some t, .load T' x, ty, pos, af, gd⟩ S d := ⟨h⟩
theorem Q_load1 [hT : TyAgg P T' 1] (h : PStep P ⟨some t, .load T' x, ty, pos, af, gd⟩ S d) : QS P ⟨some t, .load T' x, ty, pos, af, gd⟩ S d := ⟨h⟩
theorem Q_load2 [hT : TyAgg P T' 2] (h : PStep P ⟨some t, .load T' x, ty, pos, af, gd⟩ S d) : QS P ⟨some t, .load T' x, ty, pos, af, gd⟩ S d := ⟨h⟩
theorem Q_load3 [hT : TyAgg P T' 3] (h : PStep P ⟨some t, .load T' x, ty, pos, af, gd⟩ S d) : QS P ⟨some t, .load T' x, ty, pos, af, gd⟩ S d := ⟨h⟩
theorem Q_load4 [hT : TyAgg P T' 4] (h : PStep P ⟨some t, .load T' x, ty, pos, af, gd⟩ S d) : QS P ⟨some t, .load T' x, ty, pos, af, gd⟩ S d := ⟨h⟩
theorem Q_load5 [hT : TyAgg P T' 5] (h : PStep P ⟨some t, .load T' x, ty, pos, af, gd⟩ S d) : QS P ⟨some t, .load T' x, ty, pos, af, gd⟩ S d := ⟨h⟩
theorem Q_load6 [hT : TyAgg P T' 6] (h : PStep P ⟨some t, .load T' x, ty, pos, af, gd⟩ S d) : QS P ⟨some t, .load T' x, ty, pos, af, gd⟩ S d := ⟨h⟩
theorem Q_idx1 [hT : TySlice P T' e 1 bytes] (h : PStep P ⟨some t, .indexAddr T' x y, ty, pos, af, gd⟩ S d) : QS P ⟨some t, .indexAddr T' x y, ty, pos, af, gd⟩ S d := ⟨h⟩
theorem Q_idxF [hT : TySlice P T' e size bytes] (h : PStep P ⟨some t, .indexAddr T' x y, ty, pos, af, gd⟩ S d) : QS P ⟨some t, .indexAddr T' x y, ty, pos, af, gd⟩ S d := ⟨h⟩
theorem Q_idxA [hT : TyArr P T' n e size] (h : PStep P ⟨some t, .indexAddr T' x y, ty, pos, af, gd⟩ S d) : QS P ⟨some t, .indexAddr T' x y, ty, pos, af, gd⟩ S d := ⟨h⟩
theorem Q_bld1 [hT : TyAgg P T' 1] (h : PStep P ⟨some t, .build T' parts, ty, pos, af, gd⟩ S d) : QS P ⟨some t, .build T' parts, ty, pos, af, gd⟩ S d := ⟨h⟩
theorem Q_bld2 [hT : TyAgg P T' 2] (h : PStep P ⟨some t, .build T' parts, ty, pos, af, gd⟩ S d) : QS P ⟨some t, .build T' parts, ty, pos, af, gd⟩ S d := ⟨h⟩
theorem Q_bld3 [hT : TyAgg P T' 3] (h : PStep P ⟨some t, .build T' parts, ty, pos, af, gd⟩ S d) : QS P ⟨some t, .build T' parts, ty, pos, af, gd⟩ S d := ⟨h⟩
theorem Q_bld4 [hT : TyAgg P T' 4] (h : PStep P ⟨some t, .build T' parts, ty, pos, af, gd⟩ S d) : QS P ⟨some t, .build T' parts, ty, pos, af, gd⟩ S d := ⟨h⟩
theorem Q_bld5 [hT : TyAgg P T' 5] (h : PStep P ⟨some t, .build T' parts, ty, pos, af, gd⟩ S d) : QS P ⟨some t, .build T' parts, ty, pos, af, gd⟩ S d := ⟨h⟩
theorem Q_bld6 [hT : TyAgg P T' 6] (h : PStep P ⟨some t, .build T' parts, ty, pos, af, gd⟩ S d) : QS P ⟨some t, .build T' parts, ty, pos, af, gd⟩ S d := ⟨h⟩
theorem Q_lit0  (h : PStep P ⟨some t, .buildSlice T' 0 parts, ty, pos, af, gd⟩ S d) : QS P ⟨some t, .buildSlice T' 0 parts, ty, pos, af, gd⟩ S d := ⟨h⟩
theorem Q_lit_1_1 [hT : TySlice P T' e 1 bytes] (h : PStep P ⟨some t, .buildSlice T' 1 parts, ty, pos, af, gd⟩ S d) : QS P ⟨some t, .buildSlice T' 1 parts, ty, pos, af, gd⟩ S d := ⟨h⟩
theorem Q_lit_3_1 [hT : TySlice P T' e 3 bytes] (h : PStep P ⟨some t, .buildSlice T' 1 parts, ty, pos, af, gd⟩ S d) : QS P ⟨some t, .buildSlice T' 1 parts, ty, pos, af, gd⟩ S d := ⟨h⟩
theorem Q_lit_2_1 [hT : TySlice P T' e 2 bytes] (h : PStep P ⟨some t, .buildSlice T' 1 parts, ty, pos, af, gd⟩ S d) : QS P ⟨some t, .buildSlice T' 1 parts, ty, pos, af, gd⟩ S d := ⟨h⟩
theorem Q_lit_1_2 [hT : TySlice P T' e 1 bytes] (h : PStep P ⟨some t, .buildSlice T' 2 parts, ty, pos, af, gd⟩ S d) : QS P ⟨some t, .buildSlice T' 2 parts, ty, pos, af, gd⟩ S d := ⟨h⟩
theorem Q_lit_1_3 [hT : TySlice P T' e 1 bytes] (h : PStep P ⟨some t, .buildSlice T' 3 parts, ty, pos, af, gd⟩ S d) : QS P ⟨some t, .buildSlice T' 3 parts, ty, pos, af, gd⟩ S d := ⟨h⟩
theorem Q_lit_1_4 [hT : TySlice P T' e 1 bytes] (h : PStep P ⟨some t, .buildSlice T' 4 parts, ty, pos, af, gd⟩ S d) : QS P ⟨some t, .buildSlice T' 4 parts, ty, pos, af, gd⟩ S d := ⟨h⟩
theorem Q_lit_3_2 [hT : TySlice P T' e 3 bytes] (h : PStep P ⟨some t, .buildSlice T' 2 parts, ty, pos, af, gd⟩ S d) : QS P ⟨some t, .buildSlice T' 2 parts, ty, pos, af, gd⟩ S d := ⟨h⟩
theorem Q_lit_2_2 [hT : TySlice P T' e 2 bytes] (h : PStep P ⟨some t, .buildSlice T' 2 parts, ty, pos, af, gd⟩ S d) : QS P ⟨some t, .buildSlice T' 2 parts, ty, pos, af, gd⟩ S d := ⟨h⟩
theorem Q_lit_4_1 [hT : TySlice P T' e 4 bytes] (h : PStep P ⟨some t, .buildSlice T' 1 parts, ty, pos, af, gd⟩ S d) : QS P ⟨some t, .buildSlice T' 1 parts, ty, pos, af, gd⟩ S d := ⟨h⟩
theorem Q_loadA [hT : TyAgg P T' k] (h : PStep P ⟨some t, .load T' x, ty, pos, af, gd⟩ S d) : QS P ⟨some t, .load T' x, ty, pos, af, gd⟩ S d := ⟨h⟩
theorem Q_ix (h : PStep P ⟨some t, .index T' x y, ty, pos, af, gd⟩ S d) : QS P ⟨some t, .index T' x y, ty, pos, af, gd⟩ S d := ⟨h⟩
theorem Q_lit_1_6 [hT : TySlice P T' e 1 bytes] (h : PStep P ⟨some t, .buildSlice T' 6 parts, ty, pos, af, gd⟩ S d) : QS P ⟨some t, .buildSlice T' 6 parts, ty, pos, af, gd⟩ S d := ⟨h⟩
end
section
variable {P : Program} {sz : Nat} {tmp : List (Nat × D)} {mem : List (Nat × Option M)} {x y : Operand} {T' e : TypeId} {t bytes size n : Nat} {ty : TypeId} {pos : String} {af : Array Edge} {gd : Option (Nat × Bool)} {d : D}
theorem QA_idx1 [hT : TySlice P T' e 1 bytes] (h : ∀ nb, PStep P ⟨some t, .indexAddr T' x y, ty, pos, af, gd⟩ ⟨nb, sz, tmp, mem⟩ d) : QA P ⟨some t, .indexAddr T' x y, ty, pos, af, gd⟩ sz tmp mem d := ⟨h⟩
theorem QA_idxF [hT : TySlice P T' e size bytes] (h : ∀ nb, PStep P ⟨some t, .indexAddr T' x y, ty, pos, af, gd⟩ ⟨nb, sz, tmp, mem⟩ d) : QA P ⟨some t, .indexAddr T' x y, ty, pos, af, gd⟩ sz tmp mem d := ⟨h⟩
theorem QA_idxA [hT : TyArr P T' n e size] (h : ∀ nb, PStep P ⟨some t, .indexAddr T' x y, ty, pos, af, gd⟩ ⟨nb, sz, tmp, mem⟩ d) : QA P ⟨some t, .indexAddr T' x y, ty, pos, af, gd⟩ sz tmp mem d := ⟨h⟩
end
section
variable {P : Program} {ops : Array Oper} {S S' : St} {x y : Operand} {T' : TypeId} {t k : Nat} {ty : TypeId} {pos : String} {af : Array Edge} {gd : Option (Nat × Bool)}
theorem R_stoC [hT : TyCell P T'] (h : MS P ops ⟨none, .store T' x y, ty, pos, af, gd⟩ S S') : MS P ops ⟨none, .store T' x y, ty, pos, af, gd⟩ S S' := h
theorem R_stoA [hT : TyAgg P T' k] (h : MS P ops ⟨none, .store T' x y, ty, pos, af, gd⟩ S S') : MS P ops ⟨none, .store T' x y, ty, pos, af, gd⟩ S S' := h
theorem R_boxC [hT : TyCell P T'] (h : MS P ops ⟨some t, .box T' x, ty, pos, af, gd⟩ S S') : MS P ops ⟨some t, .box T' x, ty, pos, af, gd⟩ S S' := h
theorem R_boxA [hT : TyAgg P T' k] (h : MS P ops ⟨some t, .box T' x, ty, pos, af, gd⟩ S S') : MS P ops ⟨some t, .box T' x, ty, pos, af, gd⟩ S S' := h
end
section
variable {P : Program} {ops : Array Oper} {S : St} {K : St → Prop} {o : Oper} {rest : List Oper} {x y : Operand} {T' : TypeId}
variable {nb sz : Nat} {tmp : List (Nat × D)} {mem : List (Nat × Option M)} {t : Nat} {op : Op} {ty : TypeId} {pos : String} {af : Array Edge} {gd : Option (Nat × Bool)}
/-- there is an operation that has a slot, or none -/
theorem gS (h : T P ops (⟨some t, op, ty, pos, af, gd⟩ :: rest) S K) : T P ops (⟨some t, op, ty, pos, af, gd⟩ :: rest) S K := h
theorem gZ (h : T P ops (⟨none, op, ty, pos, af, gd⟩ :: rest) S K) : T P ops (⟨none, op, ty, pos, af, gd⟩ :: rest) S K := h
theorem gp {d : D} (k : T P ops rest ⟨nb, sz, (t, d) :: tmp, mem⟩ K) (h : QS P ⟨some t, op, ty, pos, af, gd⟩ ⟨nb, sz, tmp, mem⟩ d := by
    first
    | (apply Q_loadC; exact P_load rfl rfl rfl) | (apply Q_load3; exact P_loadAgg3 rfl rfl rfl) | (apply Q_load1; exact P_loadAgg1 rfl rfl rfl) | (apply Q_load2; exact P_loadAgg2 rfl rfl rfl) | (apply Q_load4; exact P_loadAgg4 rfl rfl rfl) | (apply Q_load5; exact P_loadAgg5 rfl rfl rfl) | (apply Q_load6; exact P_loadAgg6 rfl rfl rfl) | (apply Q_loadC; exact P_loadE rfl rfl rfl (by assumption)) | (apply Q_loadA; exact P_loadAggE rfl rfl rfl (by assumption) (by assumption)) | (apply Q_ix; exact P_idxArr rfl rfl rfl (by omega) (by omega) (by assumption))
    | (apply Q_fa; first | exact P_fieldPtr rfl rfl | exact P_fieldObj rfl rfl)
    | (apply Q_nil; first | exact P_nilPtr rfl rfl | exact P_nilObj rfl rfl)
    | (apply Q_move; exact P_move rfl rfl)
    | (apply Q_asg; exact P_assign rfl rfl)
    | (apply Q_ext; exact P_extract rfl rfl rfl)
    | (apply Q_idx1; exact P_gIdx1) | (apply Q_idxF; exact P_gIdxF) | (apply Q_idxA; first | exact P_arrObj rfl rfl rfl (by omega) (by omega) | exact P_arrPtr rfl rfl rfl (by omega) (by omega))
    | (apply Q_bin; first | (apply B_lss; first | exact P_lssT rfl rfl rfl (by omega) | exact P_lssF rfl rfl rfl (by omega) | exact P_lss rfl rfl rfl) | (apply B_add; exact P_add rfl rfl rfl (w64 (by omega) (by omega))) | (apply B_eql; first | exact P_eqlT rfl rfl rfl (by omega) | exact P_eqlF rfl rfl rfl (by omega) | exact P_eql rfl rfl rfl | exact P_eqlB rfl rfl rfl | exact P_eqR3T rfl rfl rfl ⟨rfl, rfl, rfl⟩ | exact P_eqR3T rfl rfl rfl (by assumption) | exact P_eqR3F rfl rfl rfl (by assumption) | exact P_eqR3 rfl rfl rfl | exact P_eqsT rfl rfl rfl (by assumption) | exact P_eqsF rfl rfl rfl (by assumption) | exact P_eqsT rfl rfl rfl (by decide) | exact P_eqsF rfl rfl rfl (by decide) | exact P_eqs rfl rfl rfl) | (apply B_neq; first | exact P_neqT rfl rfl rfl (by omega) | exact P_neqF rfl rfl rfl (by omega) | exact P_neq rfl rfl rfl | exact P_neqB rfl rfl rfl | exact P_neR3F rfl rfl rfl ⟨rfl, rfl, rfl⟩ | exact P_neR2F rfl rfl rfl ⟨rfl, rfl⟩ | exact P_neR3F rfl rfl rfl (by assumption) | exact P_neR3T rfl rfl rfl (by assumption) | exact P_neR3 rfl rfl rfl | exact P_nesF rfl rfl rfl (by assumption) | exact P_nesT rfl rfl rfl (by assumption) | exact P_nesF rfl rfl rfl (by decide) | exact P_nesT rfl rfl rfl (by decide)) | (apply B_leq; first | exact P_leqT rfl rfl rfl (by omega) | exact P_leqF rfl rfl rfl (by omega) | exact P_leq rfl rfl rfl) | (apply B_gtr; first | exact P_gtrT rfl rfl rfl (by omega) | exact P_gtrF rfl rfl rfl (by omega) | exact P_gtr rfl rfl rfl) | (apply B_geq; first | exact P_geqT rfl rfl rfl (by omega) | exact P_geqF rfl rfl rfl (by omega) | exact P_geq rfl rfl rfl) | (apply B_sub; exact P_sub rfl rfl rfl (w64 (by omega) (by omega))) | (apply B_mul; exact P_mul rfl rfl rfl (w64 (by omega) (by omega))) | (apply B_quo; exact P_quo rfl rfl rfl (by omega) (quo64 (by omega) (by omega))) | (apply B_rem; exact P_rem rfl rfl rfl (by omega) rfl))
    | (apply Q_pick; first | exact P_pickT rfl rfl rfl | exact P_pickF rfl rfl rfl | exact P_pick rfl rfl (fun _ => rfl) (fun _ => rfl))
    | (apply Q_bi; first | (apply B_len; first | exact P_len rfl rfl rfl rfl | exact P_lenOwn rfl rfl rfl rfl rfl) | (apply B_min; first | exact P_minL rfl rfl rfl (by omega) | exact P_minR rfl rfl rfl (by omega) | exact P_min rfl rfl rfl (by assumption) | exact P_min rfl rfl rfl (Eq.refl _)) | (apply B_max; first | exact P_maxL rfl rfl rfl (by omega) | exact P_maxR rfl rfl rfl (by omega) | exact P_max rfl rfl rfl (by assumption) | exact P_max rfl rfl rfl (Eq.refl _)))
    | (apply Q_fld; first | exact P_field rfl rfl rfl | exact P_fieldAgg3 rfl rfl rfl | exact P_fieldAgg1 rfl rfl rfl | exact P_fieldAgg2 rfl rfl rfl)
    | (apply Q_un; first | (apply B_not; first | exact P_notT rfl rfl | exact P_notF rfl rfl | exact P_not rfl rfl) | (apply B_neg; exact P_neg rfl rfl (neg64 (by omega) (by omega))))
    | (apply Q_bld3; exact P_build3 rfl rfl rfl) | (apply Q_bld1; exact P_build1 rfl rfl rfl) | (apply Q_bld2; exact P_build2 rfl rfl rfl) | (apply Q_bld4; exact P_build4 rfl rfl rfl) | (apply Q_bld5; exact P_build5 rfl rfl rfl) | (apply Q_bld6; exact P_build6 rfl rfl rfl)
    | (apply Q_lit0; exact P_lit0 rfl rfl) | (apply Q_lit_1_1; exact P_lit1 rfl rfl rfl rfl rfl) | (apply Q_lit_3_1; exact P_lit3 rfl rfl rfl rfl rfl) | (apply Q_lit_2_1; exact P_lit2 rfl rfl rfl rfl rfl) | (apply Q_lit_1_2; exact P_lit2 rfl rfl rfl rfl rfl) | (apply Q_lit_1_3; exact P_lit3 rfl rfl rfl rfl rfl) | (apply Q_lit_1_4; exact P_lit4 rfl rfl rfl rfl rfl) | (apply Q_lit_3_2; exact P_lit6 rfl rfl rfl rfl rfl) | (apply Q_lit_2_2; exact P_lit4 rfl rfl rfl rfl rfl) | (apply Q_lit_4_1; exact P_lit4 rfl rfl rfl rfl rfl) | (apply Q_lit_1_6; exact P_lit6 rfl rfl rfl rfl rfl)
    | (apply Q_cut; exact P_gCut)
    | (apply Q_cv; exact P_convert rfl rfl rfl rfl (w64 (by omega) (by omega)))
    | (apply Q_fn; exact P_makeFunc rfl rfl rfl))
    (hg : St.guard ⟨nb, sz, tmp, mem⟩ ops ⟨some t, op, ty, pos, af, gd⟩ = some true := by rfl) (ht : Nat.blt t sz = true := by rfl) : T P ops (⟨some t, op, ty, pos, af, gd⟩ :: rest) ⟨nb, sz, tmp, mem⟩ K := T_step h.h hg ht k
theorem gm {S' : St} (k : T P ops rest S' K) (h : MS P ops o S S' := by
    first
    | (apply R_al; exact MS_Alloc)
    | (apply R_stoC; exact MS_StO) | (apply R_stoA; exact MS_StA)
    | (apply R_psh; exact MS_Push)
    | (apply R_boxC; exact MS_BoxO) | (apply R_boxA; exact MS_BoxA)
    | (apply R_mk; exact MS_Make)) : T P ops (o :: rest) S K := h.h rest K k
end
section
variable {P : Program} {ops : Array Oper} {o : Oper} {x y : Operand} {T' : TypeId}
variable {sz : Nat} {t : Nat} {op : Op} {ty : TypeId} {pos : String} {af : Array Edge} {gd : Option (Nat × Bool)}
variable {nb0 i : Nat} {bs : Nat → List (Nat × D)} {mem0 : List (Nat × Option M)} {l : List Oper} {KA : Acc → Prop}
variable {fs : Fs} {al : List (Nat × Nat × M)} {ch : List Lk} {nd : List (Nat × List Nat)}
theorem vS (h : Walk P ops sz bs nb0 mem0 (⟨some t, op, ty, pos, af, gd⟩ :: l) i ⟨fs, al, ch, nd⟩ KA) : Walk P ops sz bs nb0 mem0 (⟨some t, op, ty, pos, af, gd⟩ :: l) i ⟨fs, al, ch, nd⟩ KA := h
theorem vZ (h : Walk P ops sz bs nb0 mem0 (⟨none, op, ty, pos, af, gd⟩ :: l) i ⟨fs, al, ch, nd⟩ KA) : Walk P ops sz bs nb0 mem0 (⟨none, op, ty, pos, af, gd⟩ :: l) i ⟨fs, al, ch, nd⟩ KA := h
theorem vp {j : Nat} {d : D} (k : Walk P ops sz bs nb0 mem0 l j ⟨(i, [(t, d)]) :: fs, al, ch, (i, []) :: nd⟩ KA) (h : QA P ⟨some t, op, ty, pos, af, gd⟩ sz (depX ⟨some t, op, ty, pos, af, gd⟩ (bs i) fs) (memR [] (curMem mem0 ch)) d := by
    first
    | (apply QA_idx1; exact PA_gIdx1) | (apply QA_idxF; exact PA_gIdxF) | (apply QA_idxA; first | exact (fun _ => P_arrObj rfl rfl rfl (by omega) (by omega)) | exact (fun _ => P_arrPtr rfl rfl rfl (by omega) (by omega)))
    | (apply QA_all; intro nb; first
      | (apply Q_loadC; exact P_load rfl rfl rfl) | (apply Q_load3; exact P_loadAgg3 rfl rfl rfl) | (apply Q_load1; exact P_loadAgg1 rfl rfl rfl) | (apply Q_load2; exact P_loadAgg2 rfl rfl rfl) | (apply Q_load4; exact P_loadAgg4 rfl rfl rfl) | (apply Q_load5; exact P_loadAgg5 rfl rfl rfl) | (apply Q_load6; exact P_loadAgg6 rfl rfl rfl) | (apply Q_loadC; exact P_loadE rfl rfl rfl (by assumption)) | (apply Q_loadA; exact P_loadAggE rfl rfl rfl (by assumption) (by assumption)) | (apply Q_ix; exact P_idxArr rfl rfl rfl (by omega) (by omega) (by assumption))
      | (apply Q_fa; first | exact P_fieldPtr rfl rfl | exact P_fieldObj rfl rfl)
      | (apply Q_nil; first | exact P_nilPtr rfl rfl | exact P_nilObj rfl rfl)
      | (apply Q_move; exact P_move rfl rfl)
      | (apply Q_asg; exact P_assign rfl rfl)
      | (apply Q_ext; exact P_extract rfl rfl rfl)
      | (apply Q_bin; first | (apply B_lss; first | exact P_lssT rfl rfl rfl (by omega) | exact P_lssF rfl rfl rfl (by omega) | exact P_lss rfl rfl rfl) | (apply B_add; exact P_add rfl rfl rfl (w64 (by omega) (by omega))) | (apply B_eql; first | exact P_eqlT rfl rfl rfl (by omega) | exact P_eqlF rfl rfl rfl (by omega) | exact P_eql rfl rfl rfl | exact P_eqlB rfl rfl rfl | exact P_eqR3T rfl rfl rfl ⟨rfl, rfl, rfl⟩ | exact P_eqR3T rfl rfl rfl (by assumption) | exact P_eqR3F rfl rfl rfl (by assumption) | exact P_eqR3 rfl rfl rfl | exact P_eqsT rfl rfl rfl (by assumption) | exact P_eqsF rfl rfl rfl (by assumption) | exact P_eqsT rfl rfl rfl (by decide) | exact P_eqsF rfl rfl rfl (by decide) | exact P_eqs rfl rfl rfl) | (apply B_neq; first | exact P_neqT rfl rfl rfl (by omega) | exact P_neqF rfl rfl rfl (by omega) | exact P_neq rfl rfl rfl | exact P_neqB rfl rfl rfl | exact P_neR3F rfl rfl rfl ⟨rfl, rfl, rfl⟩ | exact P_neR2F rfl rfl rfl ⟨rfl, rfl⟩ | exact P_neR3F rfl rfl rfl (by assumption) | exact P_neR3T rfl rfl rfl (by assumption) | exact P_neR3 rfl rfl rfl | exact P_nesF rfl rfl rfl (by assumption) | exact P_nesT rfl rfl rfl (by assumption) | exact P_nesF rfl rfl rfl (by decide) | exact P_nesT rfl rfl rfl (by decide)) | (apply B_leq; first | exact P_leqT rfl rfl rfl (by omega) | exact P_leqF rfl rfl rfl (by omega) | exact P_leq rfl rfl rfl) | (apply B_gtr; first | exact P_gtrT rfl rfl rfl (by omega) | exact P_gtrF rfl rfl rfl (by omega) | exact P_gtr rfl rfl rfl) | (apply B_geq; first | exact P_geqT rfl rfl rfl (by omega) | exact P_geqF rfl rfl rfl (by omega) | exact P_geq rfl rfl rfl) | (apply B_sub; exact P_sub rfl rfl rfl (w64 (by omega) (by omega))) | (apply B_mul; exact P_mul rfl rfl rfl (w64 (by omega) (by omega))) | (apply B_quo; exact P_quo rfl rfl rfl (by omega) (quo64 (by omega) (by omega))) | (apply B_rem; exact P_rem rfl rfl rfl (by omega) rfl))
      | (apply Q_pick; first | exact P_pickT rfl rfl rfl | exact P_pickF rfl rfl rfl | exact P_pick rfl rfl (fun _ => rfl) (fun _ => rfl))
      | (apply Q_bi; first | (apply B_len; first | exact P_len rfl rfl rfl rfl | exact P_lenOwn rfl rfl rfl rfl rfl) | (apply B_min; first | exact P_minL rfl rfl rfl (by omega) | exact P_minR rfl rfl rfl (by omega) | exact P_min rfl rfl rfl (by assumption) | exact P_min rfl rfl rfl (Eq.refl _)) | (apply B_max; first | exact P_maxL rfl rfl rfl (by omega) | exact P_maxR rfl rfl rfl (by omega) | exact P_max rfl rfl rfl (by assumption) | exact P_max rfl rfl rfl (Eq.refl _)))
      | (apply Q_fld; first | exact P_field rfl rfl rfl | exact P_fieldAgg3 rfl rfl rfl | exact P_fieldAgg1 rfl rfl rfl | exact P_fieldAgg2 rfl rfl rfl)
      | (apply Q_un; first | (apply B_not; first | exact P_notT rfl rfl | exact P_notF rfl rfl | exact P_not rfl rfl) | (apply B_neg; exact P_neg rfl rfl (neg64 (by omega) (by omega))))
      | (apply Q_bld3; exact P_build3 rfl rfl rfl) | (apply Q_bld1; exact P_build1 rfl rfl rfl) | (apply Q_bld2; exact P_build2 rfl rfl rfl) | (apply Q_bld4; exact P_build4 rfl rfl rfl) | (apply Q_bld5; exact P_build5 rfl rfl rfl) | (apply Q_bld6; exact P_build6 rfl rfl rfl)
      | (apply Q_lit0; exact P_lit0 rfl rfl) | (apply Q_lit_1_1; exact P_lit1 rfl rfl rfl rfl rfl) | (apply Q_lit_3_1; exact P_lit3 rfl rfl rfl rfl rfl) | (apply Q_lit_2_1; exact P_lit2 rfl rfl rfl rfl rfl) | (apply Q_lit_1_2; exact P_lit2 rfl rfl rfl rfl rfl) | (apply Q_lit_1_3; exact P_lit3 rfl rfl rfl rfl rfl) | (apply Q_lit_1_4; exact P_lit4 rfl rfl rfl rfl rfl) | (apply Q_lit_3_2; exact P_lit6 rfl rfl rfl rfl rfl) | (apply Q_lit_2_2; exact P_lit4 rfl rfl rfl rfl rfl) | (apply Q_lit_4_1; exact P_lit4 rfl rfl rfl rfl rfl) | (apply Q_lit_1_6; exact P_lit6 rfl rfl rfl rfl rfl)
      | (apply Q_cut; exact P_gCut)
      | (apply Q_cv; exact P_convert rfl rfl rfl rfl (w64 (by omega) (by omega)))
      | (apply Q_fn; exact P_makeFunc rfl rfl rfl)))
    (hj : i + 1 = j := by simp only [Nat.reduceAdd]; rfl) (hg : ∀ nb, St.guard ⟨nb, sz, depX ⟨some t, op, ty, pos, af, gd⟩ (bs i) fs, []⟩ ops ⟨some t, op, ty, pos, af, gd⟩ = some true := by intro nb; rfl) (ht : Nat.blt t sz = true := by rfl) : Walk P ops sz bs nb0 mem0 (⟨some t, op, ty, pos, af, gd⟩ :: l) i ⟨fs, al, ch, nd⟩ KA := by subst hj; exact W_step [] h.h hg ht k
theorem vr {j : Nat} {d : D} {b : Nat} (k : Walk P ops sz bs nb0 mem0 l j ⟨(i, [(t, d)]) :: fs, al, ch, (i, [b]) :: nd⟩ KA) (h : ∀ nb, PStep P ⟨some t, op, ty, pos, af, gd⟩ ⟨nb, sz, depX ⟨some t, op, ty, pos, af, gd⟩ (bs i) fs, memR [b] (curMem mem0 ch)⟩ d := by
      intro nb
      first
      | exact P_loadR rfl rfl rfl rfl
      | exact P_loadRA3 rfl rfl rfl rfl
      | exact P_loadRA1 rfl rfl rfl rfl
      | exact P_loadRA2 rfl rfl rfl rfl
      | exact P_loadRA4 rfl rfl rfl rfl
      | exact P_loadRA6 rfl rfl rfl rfl
      | exact P_lenR rfl rfl rfl rfl rfl
      | exact P_loadRE rfl rfl rfl (by assumption)) (hj : i + 1 = j := by simp only [Nat.reduceAdd]; rfl) (hg : ∀ nb, St.guard ⟨nb, sz, depX ⟨some t, op, ty, pos, af, gd⟩ (bs i) fs, []⟩ ops ⟨some t, op, ty, pos, af, gd⟩ = some true := by intro nb; rfl) (ht : Nat.blt t sz = true := by rfl) : Walk P ops sz bs nb0 mem0 (⟨some t, op, ty, pos, af, gd⟩ :: l) i ⟨fs, al, ch, nd⟩ KA := W_r j k h hj hg ht
theorem vc {j : Nat} {f : Nat} {c : Operand} {args : Array Operand} {ats : Array TypeId} {es ds cs : List D} {r : D} (h : DC P f (es ++ ds ++ cs) r) (k : Walk P ops sz bs nb0 mem0 l j ⟨(i, [(t, r)]) :: fs, al, ch, (i, []) :: nd⟩ KA) (hj : i + 1 = j := by simp only [Nat.reduceAdd]; rfl)
    (hc : ∀ nb, St.ev ⟨nb, sz, depX ⟨some t, .call { callee := .value c, args := args, argTypes := ats }, ty, pos, af, gd⟩ (bs i) fs, memR [] (curMem mem0 ch)⟩ c = some (.fn f es cs) := by intro nb; rfl) (hd : ∀ nb, St.evs ⟨nb, sz, depX ⟨some t, .call { callee := .value c, args := args, argTypes := ats }, ty, pos, af, gd⟩ (bs i) fs, memR [] (curMem mem0 ch)⟩ args.toList = some ds := by intro nb; rfl)
    (hcl : D.idsL (fun _ => false) (es ++ ds ++ cs) = true := by first | rfl | assumption) (hg : ∀ nb, St.guard ⟨nb, sz, depX ⟨some t, .call { callee := .value c, args := args, argTypes := ats }, ty, pos, af, gd⟩ (bs i) fs, []⟩ ops ⟨some t, .call { callee := .value c, args := args, argTypes := ats }, ty, pos, af, gd⟩ = some true := by intro nb; rfl) (ht : Nat.blt t sz = true := by rfl) : Walk P ops sz bs nb0 mem0 (⟨some t, .call { callee := .value c, args := args, argTypes := ats }, ty, pos, af, gd⟩ :: l) i ⟨fs, al, ch, nd⟩ KA := W_c j h k hj hc hd hcl hg ht
theorem vn {j : Nat} (k : Walk P ops sz bs nb0 mem0 l j ⟨(i, [(t, .tup [])]) :: fs, al, ch, (i, []) :: nd⟩ KA) (hg : ∀ nb, St.guard ⟨nb, sz, depX ⟨some t, op, ty, pos, af, gd⟩ (bs i) fs, []⟩ ops ⟨some t, op, ty, pos, af, gd⟩ = some false := by intro nb; rfl) (hj : i + 1 = j := by simp only [Nat.reduceAdd]; rfl) (ht : Nat.blt t sz = true := by rfl) : Walk P ops sz bs nb0 mem0 (⟨some t, op, ty, pos, af, gd⟩ :: l) i ⟨fs, al, ch, nd⟩ KA := W_no j k hj hg ht
theorem va {j : Nat} {kz : Nat} {zs : List Value} {zd : List D} [hz : TyZero P T' kz zs zd] (k : Walk P ops sz bs nb0 mem0 l j ⟨fs, (i, t, ⟨T', kz, 1, zd⟩) :: al, [], nd⟩ KA) (hj : i + 1 = j := by simp only [Nat.reduceAdd]; rfl) (ht : Nat.blt t sz = true := by rfl) : Walk P ops sz bs nb0 mem0 (⟨some t, .alloc T', ty, pos, af, none⟩ :: l) i ⟨fs, al, [], nd⟩ KA := W_a j k hj ht
theorem vt {j : Nat} {d : D} {nb' : Nat} {mem' : List (Nat × Option M)} (k : Walk P ops sz bs nb0 mem0 l j ⟨(i, (t, d) :: pickT nb0 al ch) :: fs, al, ⟨i, nb', mem', (mem'.take (mem'.length - (curMem mem0 ch).length)).map (·.1)⟩ :: ch, nd⟩ KA) (h : ∀ extra, MS P ops ⟨some t, op, ty, pos, af, gd⟩ ⟨pickN nb0 al ch, sz, pickT nb0 al ch ++ (depX ⟨some t, op, ty, pos, af, gd⟩ (bs i) fs ++ extra), pickM nb0 mem0 al ch⟩ ⟨nb', sz, (t, d) :: (pickT nb0 al ch ++ (depX ⟨some t, op, ty, pos, af, gd⟩ (bs i) fs ++ extra)), mem'⟩ := by
      intro extra
      first
      | (apply R_al; exact MS_Alloc)
      | (apply R_psh; exact MS_Push)
      | (apply R_boxC; exact MS_BoxO) | (apply R_boxA; exact MS_BoxA)
      | (apply R_mk; exact MS_Make)) (hj : i + 1 = j := by simp only [Nat.reduceAdd]; rfl) (hm : mem'.drop (mem'.length - (curMem mem0 ch).length) = curMem mem0 ch := by rfl) : Walk P ops sz bs nb0 mem0 (⟨some t, op, ty, pos, af, gd⟩ :: l) i ⟨fs, al, ch, nd⟩ KA := W_t j h k hj hm
theorem vl {j : Nat} (t : Nat) {d : D} {nb' : Nat} {mem' : List (Nat × Option M)} (k : Walk P ops sz bs nb0 mem0 l j ⟨(i, (t, d) :: pickT nb0 al ch) :: fs, al, ⟨i, nb', mem', (mem'.take (mem'.length - (curMem mem0 ch).length)).map (·.1)⟩ :: ch, nd⟩ KA) (h : ∀ extra, MS P ops ⟨some t, op, ty, pos, af, gd⟩ ⟨pickN nb0 al ch, sz, pickT nb0 al ch ++ (depX ⟨some t, op, ty, pos, af, gd⟩ (bs i) fs ++ extra), pickM nb0 mem0 al ch⟩ ⟨nb', sz, (t, d) :: (pickT nb0 al ch ++ (depX ⟨some t, op, ty, pos, af, gd⟩ (bs i) fs ++ extra)), mem'⟩ := by intro extra; exact MS_lit) (hj : i + 1 = j := by simp only [Nat.reduceAdd]; rfl) (hm : mem'.drop (mem'.length - (curMem mem0 ch).length) = curMem mem0 ch := by rfl) : Walk P ops sz bs nb0 mem0 (⟨some t, op, ty, pos, af, gd⟩ :: l) i ⟨fs, al, ch, nd⟩ KA := W_t j h k hj hm
theorem vs {j : Nat} {nb' : Nat} {mem' : List (Nat × Option M)} (k : Walk P ops sz bs nb0 mem0 l j ⟨(i, pickT nb0 al ch) :: fs, al, ⟨i, nb', mem', (mem'.take (mem'.length - (curMem mem0 ch).length)).map (·.1)⟩ :: ch, nd⟩ KA) (h : ∀ extra, MS P ops ⟨none, op, ty, pos, af, gd⟩ ⟨pickN nb0 al ch, sz, pickT nb0 al ch ++ (depX ⟨none, op, ty, pos, af, gd⟩ (bs i) fs ++ extra), pickM nb0 mem0 al ch⟩ ⟨nb', sz, pickT nb0 al ch ++ (depX ⟨none, op, ty, pos, af, gd⟩ (bs i) fs ++ extra), mem'⟩ := by
      intro extra
      first | (apply R_stoC; exact MS_StO) | (apply R_stoA; exact MS_StA)) (hj : i + 1 = j := by simp only [Nat.reduceAdd]; rfl) (hm : mem'.drop (mem'.length - (curMem mem0 ch).length) = curMem mem0 ch := by rfl) : Walk P ops sz bs nb0 mem0 (⟨none, op, ty, pos, af, gd⟩ :: l) i ⟨fs, al, ch, nd⟩ KA := W_n j h k hj hm
theorem vf {j : Nat} (t : Nat) {d : D} {nb' : Nat} {mem' : List (Nat × Option M)} (k : Walk P ops sz bs nb0 mem0 l j ⟨(i, (t, d) :: pickT nb0 al ch) :: fs, al, ⟨i, nb', mem', (mem'.take (mem'.length - (curMem mem0 ch).length)).map (·.1)⟩ :: ch, nd⟩ KA) (h : ∀ extra, MS P ops ⟨some t, op, ty, pos, af, gd⟩ ⟨pickN nb0 al ch, sz, pickT nb0 al ch ++ (depX ⟨some t, op, ty, pos, af, gd⟩ (bs i) fs ++ extra), pickM nb0 mem0 al ch⟩ ⟨nb', sz, (t, d) :: (pickT nb0 al ch ++ (depX ⟨some t, op, ty, pos, af, gd⟩ (bs i) fs ++ extra)), mem'⟩ := by
      intro extra
      first
      | exact MS_pushF rfl rfl rfl rfl rfl rfl rfl rfl (by omega) (by omega) (by repeat (first | rfl | exact idsL_map (fun _ => rfl) _ | exact idsL_flat (fun _ => rfl) _ | exact idsL_rep rfl _ | refine idsL_append ?_ ?_))
      | exact MS_pushF rfl rfl rfl rfl rfl rfl rfl (by simp only [List.length_map, Nat.mul_one]) (by omega) (by omega) (by repeat (first | rfl | exact idsL_map (fun _ => rfl) _ | exact idsL_flat (fun _ => rfl) _ | exact idsL_rep rfl _ | refine idsL_append ?_ ?_))) (hj : i + 1 = j := by simp only [Nat.reduceAdd]; rfl) (hm : mem'.drop (mem'.length - (curMem mem0 ch).length) = curMem mem0 ch := by rfl) : Walk P ops sz bs nb0 mem0 (⟨some t, op, ty, pos, af, gd⟩ :: l) i ⟨fs, al, ch, nd⟩ KA := W_t j h k hj hm
end
/-! control -/
section
variable {P : Program} {S : St} {K : Exit → St → Prop} {x y : Code} {id : Nat} {l : List Oper} {c : Operand} {J : St → Prop}
theorem Z1 (h : C P x S (kSeq P y K)) : C P (.seq x y) S K := C_seq h
theorem Z2 (h : C P y S K) : kSeq P y K .normal S := kSeq_n h
theorem Z3 (h : T P l.toArray l S (K .normal)) : C P (.region id l.toArray false) S K := C_region h
theorem ZR (h : C P (.region id l.toArray true) S K) : C P (.region id l.toArray true) S K := h
theorem ZK (h : C P (.cond c x y) S K) : C P (.cond c x y) S K := h
theorem Z4 (h1 : C P x S K) (hc : S.ev c = some (.val (.bool true)) := by rfl) : C P (.cond c x y) S K := C_cond_t hc h1
theorem Z5 (h1 : C P y S K) (hc : S.ev c = some (.val (.bool false)) := by rfl) : C P (.cond c x y) S K := C_cond_f hc h1
theorem Z6 (h : K .ret S) : C P .ret S K := C_ret h
theorem Z7 (h : K .ret S) : kSeq P y K .ret S := kSeq_r h
theorem Z8 (h : C P x S (kBlock id K)) : C P (.block id x) S K := C_block h
theorem Z9 (h : K .normal S) : kBlock id K .normal S := kBlock_n h
theorem ZA (h : K .ret S) : kBlock id K .ret S := kBlock_r h
theorem ZB (h : K .normal S) : kBlock id K (.exit id) S := kBlock_x h
theorem ZC {i : Nat} (h : K (.exit i) S) (hi : (i == id) = false := by rfl) : kBlock id K (.exit i) S := kBlock_y hi h
theorem ZD (h : K (.exit id) S) : C P (.exit id) S K := C_exit h
theorem ZE (h : K (.exit id) S) : kSeq P y K (.exit id) S := kSeq_x h
theorem ZF (h : K .normal S) : C P .skip S K := C_skip h
theorem ZG {i : Nat} (h : K (.exit i) S) : kLoop J K (.exit i) S := kLoop_x h
theorem ZH (h : K .ret S) : kLoop J K .ret S := kLoop_r h
end
end Go.Proofs.Ytifapodobhkdcaa
