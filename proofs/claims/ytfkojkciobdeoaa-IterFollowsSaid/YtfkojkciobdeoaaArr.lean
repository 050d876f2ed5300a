/- The abstract machine's rules for arrays (no program in sight). -/
import Derived.Test.YtfkojkciobdeoaaCut
import Derived.ChangeKeysEq
namespace Go.Proofs.Ytfkojkciobdeoaa
open Go.RowKit
set_option linter.unusedVariables false
set_option linter.unusedSimpArgs false
theorem TyEqI.arr2 {P : Program} {t e : TypeId} (hg : P.eqGuardType P.depth t = false) (hu : P.underlying t = some (.array 2 e)) (he : P.underlying e = some (.int .i64)) (hc : P.cellsOf e = 1) (hi : (P.info? e).isSome = true) : TyEqI P t 2 := by
  refine ⟨hg, fun w xs ys hx hy => ?_⟩
  obtain ⟨a, b, rfl⟩ : ∃ a b, xs = [a, b] := by
    match xs, hx with
    | [a, b], _ => exact ⟨a, b, rfl⟩
  obtain ⟨c, d, rfl⟩ : ∃ c d, ys = [c, d] := by
    match ys, hy with
    | [c, d], _ => exact ⟨c, d, rfl⟩
  obtain ⟨i, hi⟩ := Option.isSome_iff_exists.1 hi
  rw [run_equalIn_array w 9999 _ _ hu hi, hc]
  have p3 : ∀ u v : Int, (Op.equalIn (9998 + 1) e (.int .i64 u) (.int .i64 v)).run P w = .ok (u == v) w := fun u v => run_equalIn_int w 9998 e .i64 .i64 _ _ he
  have hr : List.range 2 = [0, 1] := rfl
  simp [hr, Op.eqItems, part, isAgg, run_underlying he, p3]
  by_cases h1 : a = c
  · by_cases h2 : b = d
    · simp [h1, h2]
    · simp [h1, h2]
  · simp [h1]
section
variable {P : Program} {S : St} {o : Oper} {x y : Operand} {t yt : TypeId}
theorem arr_len {n size : Nat} {e : TypeId} (hT : TyArr P t n e size) : P.underlying t = some (.array (P.arrayLen t) (P.elem t)) ∧ P.arrayLen t = n ∧ ∀ w, (sizeOf (P.elem t)).run P w = .ok size w := by
  have e1 : P.elem t = e := by simp [Program.elem, hT.ty]
  have e2 : P.arrayLen t = n := by simp [Program.arrayLen, hT.ty]
  rw [e1, e2]
  exact ⟨hT.ty, rfl, fun w => run_sizeOf' hT.info⟩
theorem P_arrObj {n size : Nat} {e : TypeId} {k : IntKind} {i : Int} {xs : List D} [hT : TyArr P t n e size] (ho : o.op = .indexAddr t x y) (hx : S.ev x = some (.obj xs)) (hy : S.ev y = some (.val (.int k i))) (h0 : 0 ≤ i) (hi : i < n) : PStep P o S (.obj (xs.drop (i.toNat * size))) :=
  PStep.pure fun w0 I0 ρ I ac w g => by
    obtain ⟨h1, h2, h3⟩ := arr_len hT
    have hyv := (g.ev hy).val_eq
    have h := g.ev hx
    generalize hv : ac.eval x = v at h
    cases h with | im h => cases h with
    | obj hI hl hs ho' hr =>
      rename_i b o' us
      refine ⟨.pointer (some ⟨b, o' + i.toNat * size, none⟩), ?_, .im (.obj hI (us := us.drop (i.toNat * size)) (by simp [hl]) (LiesAt.drop hs _) (fun u hu => ho' u (List.mem_of_mem_drop hu)) fun j d u h7 h8 => hr (i.toNat * size + j) d u (by simpa using h7) (by simpa using h8))⟩
      simp [execOp, ho, hv, hyv, run_indexAt_array (h := h1), h2, h0, hi, h3, Addr.add_mid]
theorem P_arrPtr {n size b o' : Nat} {e : TypeId} {k : IntKind} {i : Int} [hT : TyArr P t n e size] (ho : o.op = .indexAddr t x y) (hx : S.ev x = some (.ptr b o')) (hy : S.ev y = some (.val (.int k i))) (h0 : 0 ≤ i) (hi : i < n) : PStep P o S (.ptr b (o' + i.toNat * size)) :=
  PStep.pure fun w0 I0 ρ I ac w g => by
    obtain ⟨h1, h2, h3⟩ := arr_len hT
    have hyv := (g.ev hy).val_eq
    have h := g.ev hx
    generalize hv : ac.eval x = v at h
    cases h with
    | im h => cases h
    | ptr hb hρ =>
      refine ⟨_, ?_, .ptr hb hρ⟩
      simp [execOp, ho, hv, hyv, run_indexAt_array (h := h1), h2, h0, hi, h3, Addr.add_mid]
theorem P_eqR2 {a b c d : Int} [hE : TyEqI P t 2] (ho : o.op = .binOp .eql t x y yt) (hx : S.ev x = some (.agg [.val (.int .i64 a), .val (.int .i64 b)])) (hy : S.ev y = some (.agg [.val (.int .i64 c), .val (.int .i64 d)])) : PStep P o S (.val (.bool (decide (a = c ∧ b = d)))) := by
  have h := P_eqR (P := P) (n := 2) (xs := [a, b]) (ys := [c, d]) ho hx hy rfl rfl
  have e : decide ([a, b] = [c, d]) = decide (a = c ∧ b = d) := by simp
  rwa [e] at h
theorem P_neR2F {a b c d : Int} [hE : TyEqI P t 2] (ho : o.op = .binOp .neq t x y yt) (hx : S.ev x = some (.agg [.val (.int .i64 a), .val (.int .i64 b)])) (hy : S.ev y = some (.agg [.val (.int .i64 c), .val (.int .i64 d)])) (h : a = c ∧ b = d) : PStep P o S (.val (.bool false)) := by
  have k := P_neR (P := P) (n := 2) (xs := [a, b]) (ys := [c, d]) ho hx hy rfl rfl
  have e : (!decide ([a, b] = [c, d])) = false := by simp [h]
  rwa [e] at k
end
end Go.Proofs.Ytfkojkciobdeoaa
