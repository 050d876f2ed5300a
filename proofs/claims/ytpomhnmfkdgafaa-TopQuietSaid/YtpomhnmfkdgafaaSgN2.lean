/- The reference's New: its three makes float. -/
import Derived.Test.YtpomhnmfkdgafaaSgN
namespace Go.Proofs.Ytpomhnmfkdgafaa
open Go.RowKit
set_option linter.unusedVariables false
set_option maxHeartbeats 16000000
set_option linter.unusedSimpArgs false
set_option maxRecDepth 100000
theorem MkOk.make {P : Program} {T' : TypeId} {x y : Operand} {sz t : Nat} {ty : TypeId} {pos : String} {af : Array Edge} {gd : Option (Nat × Bool)} {tmp : List (Nat × D)} {n size bytes : Nat} {e : TypeId} {zs : List Value} {zd xs : List D} {kz : Nat} {i : Int} {k1 k2 : IntKind} [hT : TySlice P T' e size bytes] [hz : TyZero P e kz zs zd]
    (hx : ∀ nb, St.ev ⟨nb, sz, tmp, []⟩ x = some (.val (.int k1 i))) (hy : ∀ nb, St.ev ⟨nb, sz, tmp, []⟩ y = some (.val (.int k2 i))) (hi : i = (n : Int)) (hb : n * bytes ≤ 140737488355328) (hml : n ≤ 9223372036854775807) (hxs : madeD zd (n * size) = xs) :
    MkOk P sz tmp ⟨some t, .makeSlice T' x y, ty, pos, af, gd⟩ ⟨false, e, size, n, xs⟩ := fun w0 I0 nb ρ I a w g => by
  subst hi hxs
  obtain ⟨i, z', h1, h2, h3, h4, h5⟩ := hT.info
  obtain ⟨i2, z2, h6, h7, h8, h9⟩ := hz.info
  rw [h1] at h6
  obtain rfl : i = i2 := by simpa using h6
  rw [h2] at h7
  obtain rfl : z' = z2 := by simpa using h7
  obtain ⟨w', hr, ho, hgr⟩ := run_make_full (P := P) w w0.heap.size T' e i z' size hT.ty h1 h2 h3 k1 k2 n (by rw [h4, Nat.mul_comm]; omega) (by unfold maxLen; omega) (Below.size g.later)
  have e1 := (g.ev (hx nb)).val_eq
  have e2 := (g.ev (hy nb)).val_eq
  have hrr : (execOp a.eval ⟨some t, .makeSlice T' x y, ty, pos, af, gd⟩).run P w = .ok (.value (.slice (some ⟨w.heap.size, 0, none⟩) n n)) w' := by
    simp [execOp, e1, e2, hr]
  have hzl : z'.cells.size = zs.length := by rw [← h8, Array.length_toList]
  have hsz : zs.length = size := by rw [← hzl]; exact h5
  have hpos : 0 < zs.length := by rw [hsz]; exact hT.pos
  have hone := hz.one
  rw [List.all_eq_true] at hone
  have hu : ∀ j, j < n * size → (madeCells z'.cells (n * size)).toList[j]? = some (zs[j % zs.length]'(Nat.mod_lt _ hpos)) := fun j hj => by
    have hm := Nat.mod_lt j hpos
    simp only [madeCells, Array.getElem?_toList, Array.getElem?_map, Array.getElem?_range]
    rw [if_pos hj, Option.map_some]
    congr 1
    rw [hzl]
    have : z'.cells[j % zs.length]! = z'.cells[j % zs.length]'(by omega) := getElem!_pos _ _ _
    rw [this]
    simp only [← h8, Array.getElem_toList]
  have hlen : (madeCells z'.cells (n * size)).toList.length = n * size := by rw [Array.length_toList, size_madeCells]
  have hzdl : zd.length = zs.length := by rw [← hz.data, List.length_map]
  refine ⟨w', hrr, Ext.same (Below.grown (Later.refl w) hgr (Nat.le_refl _) (fun k hk => by cases hk)), (ho.lt w.heap.size rfl).2, (madeCells z'.cells (n * size)).toList, ho, ?_, ?_⟩
  · apply List.ext_getElem?
    intro j
    by_cases hj : j < n * size
    · rw [List.getElem?_map, hu j hj]
      show _ = (madeD zd (n * size))[j]?
      have hm := Nat.mod_lt j hpos
      have h1' : (madeD zd (n * size))[j]? = some (zd.getD (j % zd.length) .junk) := by simp [madeD, hj]
      rw [h1', hzdl, ← hz.data]
      simp [List.getD_eq_getElem?_getD, hm]
    · rw [List.getElem?_eq_none (by rw [List.length_map, hlen]; omega), List.getElem?_eq_none (by simp [madeD]; omega)]
  · rw [List.all_eq_true]
    intro u hu'
    obtain ⟨j, hj, rfl⟩ := List.mem_iff_getElem.1 hu'
    have h := hu j (by omega)
    rw [List.getElem?_eq_getElem hj] at h
    rw [Option.some.inj h]
    exact hone _ (List.getElem_mem _)
section
variable {P : Program} {ops : Array Oper} {o : Oper} {x y : Operand} {T' : TypeId}
variable {sz : Nat} {t : Nat} {op : Op} {ty : TypeId} {pos : String} {af : Array Edge} {gd : Option (Nat × Bool)}
variable {nb0 i : Nat} {bs : Nat → List (Nat × D)} {mem0 : List (Nat × Option M)} {l : List Oper} {KA : Acc → Prop}
variable {fs : Fs} {al : List (Nat × Nat × Al)} {ch : List Lk} {nd : List (Nat × List Nat)}
theorem vmk {j n size bytes : Nat} {e : TypeId} {zs : List Value} {zd xs : List D} {kz : Nat} {iz : Int} {k1 k2 : IntKind} [hT : TySlice P T' e size bytes] [hz : TyZero P e kz zs zd] (hxs : madeD zd (n * size) = xs) (k : Walk P ops sz bs nb0 mem0 l j ⟨fs, (i, t, ⟨false, e, size, n, xs⟩) :: al, [], nd⟩ KA)
    (hx : ∀ nb, St.ev ⟨nb, sz, depX ⟨some t, .makeSlice T' x y, ty, pos, af, none⟩ (bs i) fs, []⟩ x = some (.val (.int k1 iz)) := by intro nb; rfl) (hy : ∀ nb, St.ev ⟨nb, sz, depX ⟨some t, .makeSlice T' x y, ty, pos, af, none⟩ (bs i) fs, []⟩ y = some (.val (.int k2 iz)) := by intro nb; rfl) (hi : iz = (n : Int) := by rfl)
    (hb : n * bytes ≤ 140737488355328 := by omega) (hml : n ≤ 9223372036854775807 := by omega) (hj : i + 1 = j := by simp only [Nat.reduceAdd]; rfl) (ht : Nat.blt t sz = true := by rfl) : Walk P ops sz bs nb0 mem0 (⟨some t, .makeSlice T' x y, ty, pos, af, none⟩ :: l) i ⟨fs, al, [], nd⟩ KA := by subst hj; exact W_make (MkOk.make hx hy hi hb hml hxs) ht k
/-- a struct of eleven cells, as an operation of the chain -/
theorem vbldC {j : Nat} {zs : List Value} {zd : List D} {place : Nat → Option (Nat × Nat)} {parts : Array (Nat × Operand)} {ds : List (Nat × D)} {e1 e2 e3 e4 e5 e6 e7 e8 e9 e10 e11 : D} [hz : TyBuild P T' zs zd place] (k : Walk P ops sz bs nb0 mem0 l j ⟨(i, (t, .agg [e1, e2, e3, e4, e5, e6, e7, e8, e9, e10, e11]) :: pickT nb0 al ch) :: fs, al, ⟨i, pickN nb0 al ch, pickM nb0 mem0 al ch, ((pickM nb0 mem0 al ch).take ((pickM nb0 mem0 al ch).length - (curMem mem0 ch).length)).map (·.1)⟩ :: ch, nd⟩ KA)
    (hp : ∀ extra, St.evParts ⟨pickN nb0 al ch, sz, pickT nb0 al ch ++ (depX ⟨some t, .build T' parts, ty, pos, af, gd⟩ (bs i) fs ++ extra), pickM nb0 mem0 al ch⟩ parts.toList = some ds := by intro extra; rfl) (hf : fillD place ds zd = some [e1, e2, e3, e4, e5, e6, e7, e8, e9, e10, e11] := by rfl) (hj : i + 1 = j := by simp only [Nat.reduceAdd]; rfl) (hm : (pickM nb0 mem0 al ch).drop ((pickM nb0 mem0 al ch).length - (curMem mem0 ch).length) = curMem mem0 ch := by rfl)
    (hg : ∀ extra, St.guard ⟨pickN nb0 al ch, sz, pickT nb0 al ch ++ (depX ⟨some t, .build T' parts, ty, pos, af, gd⟩ (bs i) fs ++ extra), pickM nb0 mem0 al ch⟩ ops ⟨some t, .build T' parts, ty, pos, af, gd⟩ = some true := by intro extra; rfl) (ht : Nat.blt t sz = true := by rfl) : Walk P ops sz bs nb0 mem0 (⟨some t, .build T' parts, ty, pos, af, gd⟩ :: l) i ⟨fs, al, ch, nd⟩ KA :=
  W_t j (fun extra => ⟨fun _ _ k => T_step (P_build rfl (hp extra) hf) (hg extra) ht k⟩) k hj hm
end
theorem made_one (d : D) (n : Nat) : madeD [d] (n * 1) = List.replicate n d := by
  apply List.ext_getElem?
  intro q
  by_cases hq : q < n
  · simp [madeD, hq, Nat.mod_one]
  · rw [List.getElem?_eq_none (by simp [madeD]; omega), List.getElem?_eq_none (by simp; omega)]
theorem newS_ok (n : Nat) (h0 : 0 < n) (h8 : n ≤ 8) : DM Try.prog 15 none 0 [] [iD n] 5 (ringSM (ring0 n)) (.tup [.ptr 0 0, iD 0]) := by
  have r1 : madeD [D.val (.bool false)] (n * 1) = boolsD n fun _ => false := (made_one _ _).trans (rep_bools n)
  have r2 : madeD [D.val (.int .i64 0)] (n * 1) = cntsD n fun _ => 0 := (made_one _ _).trans (rep_cnts n)
  have s0 : (boolsD n fun _ => false).set ((0 : Int).toNat * 1) (bD true) = boolsD n (upF (fun _ => false) 0 true) := bools_set (n := n) (p := 0) (fun _ => false) true h0
  have hl := bools_len n fun _ => false
  refine DM.of Try.func15 Try.ntmps15 Try.results15 rfl (by decide +kernel) rfl ?_
  repeat (first | refine Z1 ?_ | refine Z2 ?_ | (refine Z3 ?_; (repeat (first | (apply gS; first | refine go_pin ?_ | refine go_no ?_ | refine go_f ?_ | refine gx ?_ | refine gm ?_ | refine gp ?_) | (apply gZ; first | refine go_st11 ?_ | refine go_f ?_ | refine gx ?_ | refine gm ?_))); refine T_nil ?_) | (apply ZR; (try dsimp only [List.map_cons, List.map_nil]); refine C_dr mixed ?_; (repeat (first | (apply vS; first | refine vmk r1 ?_ | refine vmk r2 ?_ | refine vbldC ?_ | refine vn ?_ | refine va ?_ | refine vp ?_ | refine vr ?_ | refine vt ?_) | (apply vZ; first | refine vs ?_ | refine vw ?_))); refine W_e ?_) | (apply ZK; first | refine Z4 ?_ | refine Z5 ?_) | refine Z6 ?_ | refine Z7 ?_ | refine ZF ?_)
  dsimp only [Al.dat, cond_false]
  repeat (first | refine Z1 ?_ | refine Z2 ?_ | (refine Z3 ?_; (repeat (first | (apply gS; first | refine go_pin ?_ | refine go_no ?_ | refine go_f ?_ | refine gx ?_ | refine gm ?_ | refine gp ?_) | (apply gZ; first | refine go_st11 ?_ | refine go_f ?_ | refine gx ?_ | refine gm ?_))); refine T_nil ?_) | (apply ZR; (try dsimp only [List.map_cons, List.map_nil]); refine C_dr mixed ?_; (repeat (first | (apply vS; first | refine vmk r1 ?_ | refine vmk r2 ?_ | refine vbldC ?_ | refine vn ?_ | refine va ?_ | refine vp ?_ | refine vr ?_ | refine vt ?_) | (apply vZ; first | refine vs ?_ | refine vw ?_))); refine W_e ?_) | (apply ZK; first | refine Z4 ?_ | refine Z5 ?_) | refine Z6 ?_ | refine Z7 ?_ | refine ZF ?_)
  refine kEndM_g (S' := ⟨5, 26, [(2, .ptr 0 0), (3, iD 0)], ringSM (ring0 n)⟩) (Wk.trans (Wk.adoptM 3 4 49 2 rfl rfl) (Wk.mk (fun b => cond (Nat.beq b 0) 3 (cond (Nat.beq b 1) 0 (cond (Nat.beq b 2) 1 (cond (Nat.beq b 3) 2 b)))) (.cons rfl (Ren.ptr rfl rfl rfl) (.cons rfl (Ren.im rfl) .nil)) ?_ rfl)) (by first | exact .inl rfl | exact .inr rfl) (.tmp rfl (.tmp rfl .nil)) rfl rfl rfl (fun q hq => by cases hq)
  unfold ringSM
  refine .cons rfl rfl rfl ?_ (.cons rfl rfl rfl (RenL.im rfl (bools_ids _ _ _)) (.cons rfl rfl rfl (RenL.im rfl (bools_ids _ _ _)) (.cons rfl rfl rfl (RenL.im rfl (cnts_ids _ _ _)) (.cons rfl rfl rfl (RenL.im rfl rfl) .nil))))
  exact .cons (Ren.im rfl) (.cons (Ren.own rfl rfl rfl) (.cons (Ren.own rfl rfl rfl) (.cons (Ren.own rfl rfl rfl) (.cons (Ren.own rfl rfl rfl) (.cons (Ren.im rfl) (.cons (Ren.im rfl) (.cons (Ren.im rfl) (.cons (Ren.im rfl) (.cons (Ren.im rfl) (.cons (Ren.im rfl) .nil))))))))))
end Go.Proofs.Ytpomhnmfkdgafaa
