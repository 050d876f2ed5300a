/- New rings: rows of zeros of several cells, and the program's New. -/
import Derived.Test.YtpomhnmfkdgafaaSg3
namespace Go.Proofs.Ytpomhnmfkdgafaa
open Go.RowKit
set_option linter.unusedVariables false
set_option maxHeartbeats 16000000
set_option linter.unusedSimpArgs false
set_option maxRecDepth 100000
def madeD (zd : List D) (N : Nat) : List D := (List.range N).map fun j => zd.getD (j % zd.length) .junk
section
variable {P : Program} {ops : Array Oper} {rest : List Oper} {x y : Operand} {T' : TypeId} {nb sz : Nat} {tmp : List (Nat × D)} {mem : List (Nat × Option M)} {K : St → Prop} {t : Nat} {ty : TypeId} {pos : String} {af : Array Edge} {gd : Option (Nat × Bool)}
theorem T_makeK {n size bytes : Nat} {e : TypeId} {zs : List Value} {zd xs : List D} {kz : Nat} {i : Int} {k1 k2 : IntKind} [hT : TySlice P T' e size bytes] [hz : TyZero P e kz zs zd] (hx : St.ev ⟨nb, sz, tmp, mem⟩ x = some (.val (.int k1 i))) (hy : St.ev ⟨nb, sz, tmp, mem⟩ y = some (.val (.int k2 i))) (hi : i = (n : Int)) (hg : St.guard ⟨nb, sz, tmp, mem⟩ ops ⟨some t, .makeSlice T' x y, ty, pos, af, gd⟩ = some true) (ht : Nat.blt t sz = true)
    (hb : n * bytes ≤ 140737488355328) (hml : n ≤ 9223372036854775807) (hxs : madeD zd (n * size) = xs) (k : T P ops rest ⟨nb + 1, sz, (t, .own nb n) :: tmp, (nb, some ⟨e, size, n, xs⟩) :: mem⟩ K) : T P ops (⟨some t, .makeSlice T' x y, ty, pos, af, gd⟩ :: rest) ⟨nb, sz, tmp, mem⟩ K :=
  T_of_wp hg fun w0 I0 ρ I a w Q next g hk' q => by
    subst hi hxs
    obtain ⟨i, z', h1, h2, h3, h4, h5⟩ := hT.info
    obtain ⟨i2, z2, h6, h7, h8, h9⟩ := hz.info
    rw [h1] at h6
    obtain rfl : i = i2 := by simpa using h6
    rw [h2] at h7
    obtain rfl : z' = z2 := by simpa using h7
    obtain ⟨w', hr, ho, hgr⟩ := run_make_full (P := P) w w0.heap.size T' e i z' size hT.ty h1 h2 h3 k1 k2 n (by rw [h4, Nat.mul_comm]; omega) (by unfold maxLen; omega) (Below.size g.later)
    have e1 := (g.ev hx).val_eq
    have e2 := (g.ev hy).val_eq
    have hrr : (execOp a.eval ⟨some t, .makeSlice T' x y, ty, pos, af, gd⟩).run P w = .ok (.value (.slice (some ⟨w.heap.size, 0, none⟩) n n)) w' := by
      simp [execOp, e1, e2, hr]
    unfold Oper.wp; rw [hrr]
    have hzl : z'.cells.size = zs.length := by rw [← h8, Array.length_toList]
    have hsz : zs.length = size := by rw [← hzl]; exact h5
    have hpos : 0 < zs.length := by rw [hsz]; exact hT.pos
    have hone := hz.one
    rw [List.all_eq_true] at hone
    have hu : ∀ j, j < n * size → (madeCells z'.cells (n * size)).toList[j]? = some (zs[j % zs.length]'(Nat.mod_lt _ hpos)) := fun j hj => by
      have hm := Nat.mod_lt j hpos
      simp only [madeCells, Array.getElem?_toList, Array.getElem?_map, Array.getElem?_range]
      rw [if_pos hj, Option.map_some]
      congr 1
      rw [hzl]
      have : z'.cells[j % zs.length]! = z'.cells[j % zs.length]'(by omega) := getElem!_pos _ _ _
      rw [this]
      simp only [← h8, Array.getElem_toList]
    have hlen : (madeCells z'.cells (n * size)).toList.length = n * size := by rw [Array.length_toList, size_madeCells]
    have hzdl : zd.length = zs.length := by rw [← hz.data, List.length_map]
    have g2 := g.renew ⟨e, size, n, madeD zd (n * size)⟩ mem (some (w.heap.size, n)) none (us := (madeCells z'.cells (n * size)).toList) hgr (fun k hk => by cases hk) (fun b m h => ⟨h, fun k c _ hh => by cases hh⟩)
      (fun b m k c c' h hk hk' => by
        have := ((g.mem b m h).lt hk).2
        simp only [Option.some.injEq, Prod.mk.injEq] at hk'
        omega)
      (fun k c hk hI => by
        have := g.lt k hI
        simp only [Option.some.injEq, Prod.mk.injEq] at hk
        omega)
      ho ⟨by rw [hlen]; simp [madeD], fun u hu' => by
        obtain ⟨j, hj, rfl⟩ := List.mem_iff_getElem.1 hu'
        have h := hu j (by omega)
        rw [List.getElem?_eq_getElem hj] at h
        rw [Option.some.inj h]
        exact hone _ (List.getElem_mem _), fun j d u h1 h2 => by
        have hj : j < n * size := by have := (List.getElem?_eq_some_iff.1 h2).1; omega
        rw [hu j hj] at h2
        cases h2
        have hm := Nat.mod_lt j hpos
        have h1' : (madeD zd (n * size))[j]? = some (zd.getD (j % zd.length) .junk) := by simp [madeD, hj]
        have h1'' : some (zd.getD (j % zd.length) .junk) = some d := h1'.symm.trans h1
        rw [hzdl] at h1''
        have e3 : zd.getD (j % zs.length) .junk = .val (zs[j % zs.length]'hm) := by
          rw [← hz.data]
          simp [List.getD_eq_getElem?_getD, hm]
        rw [e3] at h1''
        cases h1''
        exact .im (.val _ (hone _ (List.getElem_mem _)))⟩
    exact hk' _ _ (k.h w0 I0 _ I _ _ Q (g2.put (by simpa using ht) (G.fresh_own ρ nb I w _ n)) q)
theorem go_mkK {n size bytes : Nat} {e : TypeId} {zs : List Value} {zd xs : List D} {kz : Nat} {i : Int} {k1 k2 : IntKind} [hT : TySlice P T' e size bytes] [hz : TyZero P e kz zs zd] (hxs : madeD zd (n * size) = xs) (k : T P ops rest ⟨nb + 1, sz, (t, .own nb n) :: tmp, (nb, some ⟨e, size, n, xs⟩) :: mem⟩ K) (hx : St.ev ⟨nb, sz, tmp, mem⟩ x = some (.val (.int k1 i)) := by rfl) (hy : St.ev ⟨nb, sz, tmp, mem⟩ y = some (.val (.int k2 i)) := by rfl) (hi : i = (n : Int) := by rfl) (hg : St.guard ⟨nb, sz, tmp, mem⟩ ops ⟨some t, .makeSlice T' x y, ty, pos, af, gd⟩ = some true := by rfl) (ht : Nat.blt t sz = true := by rfl)
    (hb : n * bytes ≤ 140737488355328 := by omega) (hml : n ≤ 9223372036854775807 := by omega) : T P ops (⟨some t, .makeSlice T' x y, ty, pos, af, gd⟩ :: rest) ⟨nb, sz, tmp, mem⟩ K := T_makeK hx hy hi hg ht hb hml hxs k
theorem go_bld8 {zs : List Value} {zd : List D} {place : Nat → Option (Nat × Nat)} {parts : Array (Nat × Operand)} {ds : List (Nat × D)} {e1 e2 e3 e4 e5 e6 e7 e8 : D} [hz : TyBuild P T' zs zd place] (k : T P ops rest ⟨nb, sz, (t, .agg [e1, e2, e3, e4, e5, e6, e7, e8]) :: tmp, mem⟩ K) (hp : St.evParts ⟨nb, sz, tmp, mem⟩ parts.toList = some ds := by rfl) (hf : fillD place ds zd = some [e1, e2, e3, e4, e5, e6, e7, e8] := by rfl)
    (hg : St.guard ⟨nb, sz, tmp, mem⟩ ops ⟨some t, .build T' parts, ty, pos, af, gd⟩ = some true := by rfl) (ht : Nat.blt t sz = true := by rfl) : T P ops (⟨some t, .build T' parts, ty, pos, af, gd⟩ :: rest) ⟨nb, sz, tmp, mem⟩ K := T_step (P_build rfl hp hf) hg ht k
theorem go_bld11 {zs : List Value} {zd : List D} {place : Nat → Option (Nat × Nat)} {parts : Array (Nat × Operand)} {ds : List (Nat × D)} {e1 e2 e3 e4 e5 e6 e7 e8 e9 e10 e11 : D} [hz : TyBuild P T' zs zd place] (k : T P ops rest ⟨nb, sz, (t, .agg [e1, e2, e3, e4, e5, e6, e7, e8, e9, e10, e11]) :: tmp, mem⟩ K) (hp : St.evParts ⟨nb, sz, tmp, mem⟩ parts.toList = some ds := by rfl) (hf : fillD place ds zd = some [e1, e2, e3, e4, e5, e6, e7, e8, e9, e10, e11] := by rfl)
    (hg : St.guard ⟨nb, sz, tmp, mem⟩ ops ⟨some t, .build T' parts, ty, pos, af, gd⟩ = some true := by rfl) (ht : Nat.blt t sz = true := by rfl) : T P ops (⟨some t, .build T' parts, ty, pos, af, gd⟩ :: rest) ⟨nb, sz, tmp, mem⟩ K := T_step (P_build rfl hp hf) hg ht k
end
theorem spots_made (n : Nat) : madeD [.val (.bool false), .val (.bool false), .val (.int .i64 0)] (n * 3) = spotsD n (fun _ => false) (fun _ => false) (fun _ => 0) := by
  apply List.ext_getElem?
  intro q
  have hlt := Nat.mod_lt q (show 0 < 3 by omega)
  have e : q = q / 3 * 3 + q % 3 := by omega
  by_cases hq : q < n * 3
  · have h1 : (madeD [.val (.bool false), .val (.bool false), .val (.int .i64 0)] (n * 3))[q]? = some (([.val (.bool false), .val (.bool false), .val (.int .i64 0)] : List D).getD (q % 3) .junk) := by simp [madeD, hq]
    have h2 : (spotsD n (fun _ => false) (fun _ => false) (fun _ => 0))[q]? = (spotD (fun _ => false) (fun _ => false) (fun _ => 0) (q / 3))[q % 3]? := by
      have h := spots_get (n := n) (fun _ => false) (fun _ => false) (fun _ => 0) (p := q / 3) (r := q % 3) (by omega) hlt
      rw [Int.toNat_natCast, ← e] at h
      exact h
    rw [h1, h2]
    have : q % 3 = 0 ∨ q % 3 = 1 ∨ q % 3 = 2 := by omega
    rcases this with h | h | h <;> rw [h] <;> rfl
  · rw [List.getElem?_eq_none (by simp [madeD]; omega), List.getElem?_eq_none (by rw [spots_len]; omega)]
def ring0 (n : Nat) : Rng := ⟨n, upF (fun _ => false) 0 true, fun _ => false, fun _ => 0, [], 0, 0, false, true, false, 0⟩
theorem new_ok (n : Nat) (h0 : 0 < n) (h8 : n ≤ 8) : DM Try.prog 14 none 0 [] [iD n] 3 (ringM (ring0 n)) (.tup [.ptr 0 0, iD 0]) := by
  have M := spots_made n
  have s0 := spots_act (n := n) (p := 0) (fun _ => false) (fun _ => false) (fun _ => 0) true h0
  have hl := spots_len n (fun _ => false) (fun _ => false) (fun _ => 0)
  refine DM.of Try.func14 Try.ntmps14 Try.results14 rfl (by decide +kernel) rfl ?_
  repeat (first | refine Z1 ?_ | refine Z2 ?_ | (refine Z3 ?_; (repeat (first | (apply gS; first | refine go_mkK M ?_ | refine go_bld8 ?_ | refine go_pin ?_ | refine go_no ?_ | refine go_f ?_ | refine gx ?_ | refine gm ?_ | refine gp ?_) | (apply gZ; first | refine go_st8 ?_ | refine go_f ?_ | refine gx ?_ | refine gm ?_))); refine T_nil ?_) | (apply ZK; first | refine Z4 ?_ | refine Z5 ?_) | refine Z6 ?_ | refine Z7 ?_ | refine ZF ?_)
  refine kEndM_g (S' := ⟨3, 22, [(2, .ptr 0 0), (3, iD 0)], ringM (ring0 n)⟩) (Wk.trans (Wk.adoptM 1 1 49 2 rfl rfl) (Wk.mk (fun b => cond (Nat.beq b 0) 1 (cond (Nat.beq b 1) 0 b)) (.cons rfl (Ren.ptr rfl rfl rfl) (.cons rfl (Ren.im rfl) .nil)) ?_ rfl)) (by first | exact .inl rfl | exact .inr rfl) (.tmp rfl (.tmp rfl .nil)) rfl rfl rfl (fun q hq => by cases hq)
  unfold ringM
  refine .cons rfl rfl rfl ?_ (.cons rfl rfl rfl (RenL.im rfl (spots_ids _ _ _ _ _)) (.cons rfl rfl rfl (RenL.im rfl rfl) .nil))
  exact .cons (Ren.own rfl rfl rfl) (.cons (Ren.own rfl rfl rfl) (.cons (Ren.im rfl) (.cons (Ren.im rfl) (.cons (Ren.im rfl) (.cons (Ren.im rfl) (.cons (Ren.im rfl) (.cons (Ren.im rfl) .nil)))))))
theorem new_bad (n : Int) (h : n < 1 ∨ 8 < n) : DM Try.prog 14 none 0 [] [iD n] 0 [] (.tup [.val (.pointer none), iD 2]) := by
  by_cases h1 : n < 1
  all_goals
    refine DM.of Try.func14 Try.ntmps14 Try.results14 rfl (by decide +kernel) rfl ?_
    repeat (first | refine Z1 ?_ | refine Z2 ?_ | (refine Z3 ?_; (repeat (first | (apply gS; first | refine go_no ?_ | refine go_f ?_ | refine gx ?_ | refine gm ?_ | refine gp ?_) | (apply gZ; first | refine go_f ?_ | refine gx ?_ | refine gm ?_))); refine T_nil ?_) | (apply ZK; first | refine Z4 ?_ | refine Z5 ?_) | refine Z6 ?_ | refine Z7 ?_ | refine ZF ?_)
    exact kEndM_g (S' := ⟨0, 22, [(2, .val (.pointer none)), (3, iD 2)], []⟩) (Wk.mk (fun b => b) (.cons rfl (Ren.im rfl) (.cons rfl (Ren.im rfl) .nil)) .nil rfl) (by first | exact .inl rfl | exact .inr rfl) (.tmp rfl (.tmp rfl .nil)) rfl rfl rfl (fun q hq => by cases hq)
end Go.Proofs.Ytpomhnmfkdgafaa
