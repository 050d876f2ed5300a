/- A slice literal whose capacity is its length, and an append to it: both float. -/
import Derived.Test.YtpomhnmfkdgafaaRun
import Derived.Test.YtpomhnmfkdgafaaCutA
namespace Go.Proofs.Ytpomhnmfkdgafaa
open Go.RowKit
set_option linter.unusedVariables false
set_option linter.unusedSimpArgs false
section
variable {P : Program} {ops : Array Oper} {o : Oper} {x y : Operand} {T' : TypeId} {w0 : World} {I0 : Bs} {ρ : Rho} {I : Nat → Prop} {a : Act} {w w' : World}
variable {nb sz : Nat} {tmp : List (Nat × D)} {mem : List (Nat × Option M)} {t : Nat} {op : Op} {ty : TypeId} {pos : String} {af : Array Edge} {gd : Option (Nat × Bool)}
/-- a slice literal, of just its length -/
theorem P_litE {len size bytes : Nat} {e : TypeId} {kz : Nat} {zs : List Value} {zd : List D} {parts : Array (Nat × Operand)} {ds : List (Nat × D)} {r : List D} [hT : TySlice P T' e size bytes] [hz : TyZero P e kz zs zd] (ho : o.op = .buildSlice T' len parts) (hp : St.evParts ⟨nb, sz, tmp, mem⟩ parts.toList = some ds)
    (hf : fillD (fun i => some (i * size, size)) ds (List.replicate (len * size) .junk) = some r) (hc : D.idsL (fun _ => false) r = true) (hl : Nat.ble (len * size) 16777216 = true) : PStep P o ⟨nb, sz, tmp, mem⟩ (.lit len r) :=
  PStep.run fun w0 I0 ρ I a w g => by
    obtain ⟨i, z, h1, h2, h3, h4, h5⟩ := hT.info
    obtain ⟨i2, z2, h6, h7, h8, h9⟩ := hz.info
    rw [h1] at h6
    obtain rfl : i = i2 := by simpa using h6
    rw [h2] at h7
    obtain rfl : z = z2 := by simpa using h7
    have hl := Nat.le_of_ble_eq_true hl
    have hpos := hT.pos
    subst h3
    let z0 : Array Value := if len * i.size = 0 then #[] else z.cells
    let cells0 : Array Value := (Array.range (len * i.size)).map fun j => z0[j % z0.size]!
    have hall : AllRA ρ nb I w (List.replicate (len * i.size) .junk) cells0.toList := by
      refine ⟨by simp [cells0], fun u hu => ?_, fun j d u h1 h2 => ?_⟩
      · simp only [cells0, Array.toList_map, List.mem_map] at hu
        obtain ⟨j, hj, rfl⟩ := hu
        have hj' : j < len * i.size := by simpa using hj
        have hne : ¬ len * i.size = 0 := by omega
        have hz0 : z0 = z.cells := if_neg hne
        have hsz : 0 < z0.size := by rw [hz0, h5]; exact hpos
        have hlt : j % z0.size < z0.size := Nat.mod_lt _ hsz
        rw [getElem!_pos z0 _ hlt]
        have hm : z0[j % z0.size] ∈ z.cells.toList := by rw [← hz0]; simp
        rw [h8] at hm
        exact List.all_eq_true.1 hz.one _ hm
      · rw [List.getElem?_replicate] at h1
        by_cases hj : j < len * i.size
        · rw [if_pos hj] at h1; cases h1; exact .im (.junk _)
        · rw [if_neg hj] at h1; cases h1
    obtain ⟨us', h10, h11⟩ := fill_sound g (place := fun k => some (k * i.size, i.size)) (us := cells0) hp hall hf
    have hr : (execOp a.eval o).run P w = .ok (.value (.slice (some ⟨w.heap.size, 0, none⟩) len len)) (w.alloc (.cells us' e)) := by
      have hmap : (parts.map fun x => (x.1, a.eval x.2)).toList = parts.toList.map fun x => (x.1, a.eval x.2) := Array.toList_map ..
      have hsmall : ¬ 16777216 < len * i.size := by omega
      by_cases h0 : len * i.size = 0
      · have hz0 : z0 = #[] := if_pos h0
        have h10' : Instr.fill (fun k => some (k * i.size, i.size)) ((Array.range (len * i.size)).map fun j => (#[] : Array Value)[j % (#[] : Array Value).size]!) (parts.map fun x => (x.1, a.eval x.2)).toList = some us' := by rw [hmap, ← hz0]; exact h10
        simp only [execOp, ho, Instr.buildSlice, Sem.run_bind, run_underlying hT.ty, Result.andThen_ok, run_sizeOf'' h1, if_pos h0, Sem.run_pure]
        rw [if_neg (by simpa using hsmall)]
        simp only [Sem.run_bind, Sem.run_pure, Result.andThen_ok, h10']
        rfl
      · have hz0 : z0 = z.cells := if_neg h0
        have h10' : Instr.fill (fun k => some (k * i.size, i.size)) ((Array.range (len * i.size)).map fun j => z.cells[j % z.cells.size]!) (parts.map fun x => (x.1, a.eval x.2)).toList = some us' := by rw [hmap, ← hz0]; exact h10
        simp only [execOp, ho, Sem.run_bind, run_buildSlice w T' e len _ us' i z hT.ty h1 h2 (by simpa using hsmall) h0 h10', Result.andThen_ok, Sem.run_pure]
    have hext : Ext I w (fun b => I b ∨ (w.heap.size ≤ b ∧ b < (w.alloc (.cells us' e)).heap.size)) (w.alloc (.cells us' e)) := ⟨fun b h => .inl h, fun b h => h, (Later.refl w).alloc _⟩
    have hlen : us'.toList.length = len * i.size := by
      rw [← h11.1]
      have : ∀ (ds : List (Nat × D)) (cs r : List D), fillD (fun k => some (k * i.size, i.size)) ds cs = some r → r.length = cs.length := by
        intro ds
        induction ds with
        | nil => intro cs r h; cases h; rfl
        | cons x l ih =>
          intro cs r h
          obtain ⟨k, d⟩ := x
          unfold fillD at h
          simp only at h
          cases hb : (cellD d && Nat.beq (flatD d).length i.size && Nat.ble (k * i.size + i.size) cs.length) with
          | false => rw [hb] at h; cases h
          | true => rw [hb] at h; rw [ih _ _ h, putAt_length]
      rw [this _ _ _ hf]; simp
    refine ⟨_, _, _, hr, hext, .im (.lit (by have : len ≤ len * i.size := Nat.le_mul_of_pos_right _ hpos; unfold maxLen; omega) (us := us'.toList) (.inr ⟨Nat.le_refl _, by simp⟩) h11.1 (fun j u hu => ?_) h11.2.1 fun j d u hj hu => (h11.closed hc j d u hj hu).ext g.lt hext)⟩
    have hb := box_cell w us' e j u (by simpa using hu)
    rw [Nat.zero_add]; exact hb
/-- an append to a literal of just its length: a new row, or the literal itself -/
theorem P_appLit {n k' size bytes : Nat} {e : TypeId} {d : D} {xs ys : List D} [hT : TySlice P T' e size bytes] (ho : o.op = .call { callee := .builtin .append, args := #[x, y], argTypes := #[T', T'] }) (hx : St.ev ⟨nb, sz, tmp, mem⟩ x = some (.lit n xs)) (hy : St.ev ⟨nb, sz, tmp, mem⟩ y = some d) (hs : sliceD [] d = some (k', ys))
    (hn : xs.length = n * size) (hl : ys.length = k' * size) (hb : (n + k') * bytes ≤ 140737488355328) (hml : n + k' ≤ 9223372036854775807) (hc : D.idsL (fun _ => false) (xs ++ ys) = true) : PStep P o ⟨nb, sz, tmp, mem⟩ (.row (n + k') (xs ++ ys)) :=
  PStep.run fun w0 I0 ρ I a w g => by
    obtain ⟨i, z, hi, hz, hsz, hby, hzs⟩ := hT.info
    have hpos := hT.pos
    have hs' : sliceD mem d = some (k', ys) := by
      cases d with
      | row m zs => exact hs
      | val u =>
        cases u with
        | slice ao l c => cases ao <;> cases l <;> cases c <;> first | exact hs | cases hs
        | _ => cases hs
      | own b m => cases hs
      | _ => cases hs
    obtain ⟨ao, cap, b', off, vs, hv, hc1, hc2, hc3, hc4, hc5, hc6⟩ := g.sliced (g.ev hy) hs'
    have hxv := g.ev hx
    obtain ⟨b, us, hxe, hI, hl1, hs1, ho1, hr1, hm1⟩ : ∃ (b : Nat) (us : List Value), a.eval x = .slice (some ⟨b, 0, none⟩) n n ∧ I b ∧ xs.length = us.length ∧ (∀ j u, us[j]? = some u → w.cell? ⟨b, 0 + j, none⟩ = some u) ∧ (∀ u ∈ us, u.oneCell' = true) ∧ (∀ (j : Nat) (d : D) (u : Value), xs[j]? = some d → us[j]? = some u → RC I w d u) ∧ n ≤ maxLen := by
      generalize a.eval x = v at hxv
      cases hxv with
      | im h => cases h with
        | lit hm hI hl hs ho hr => exact ⟨_, _, rfl, hI, hl, hs, ho, hr, hm⟩
    have hx6 : AllRA ρ nb I w xs us := ⟨hl1, ho1, fun j d u h1 h2 => .im (hr1 j d u h1 h2)⟩
    have hall := hx6.append hc6
    subst hsz
    by_cases hk : k' = 0
    · subst hk
      have hnil : ys = [] := List.eq_nil_of_length_eq_zero (by omega)
      subst hnil
      have hvn : vs = [] := List.eq_nil_of_length_eq_zero (by have := hc6.1; simp at this; exact this.symm ▸ rfl)
      have hrr : (execOp a.eval o).run P w = .ok (.value (.slice (some ⟨b, 0, none⟩) n n)) w := by
        cases ao with
        | none =>
          have := hc3 rfl
          subst this
          simp [execOp, ho, resolve, invoke, builtin, hxe, hv, Builtin.append_, run_underlying hT.ty, sizeOf, typeInfo, hi, Builtin.lenOf, Builtin.firstCells, loadCells, loadCellsFrom, storeCells]
        | some ad =>
          simp [execOp, ho, resolve, invoke, builtin, hxe, hv, Builtin.append_, run_underlying hT.ty, sizeOf, typeInfo, hi, Builtin.lenOf, Builtin.firstCells, loadCells, loadCellsFrom, storeCells]
      refine ⟨_, _, I, hrr, Ext.refl I w, ?_⟩
      rw [List.append_nil, Nat.add_zero]
      exact .im (.row (Nat.le_refl _) hm1 (fun h => by cases h) hl1 (fun _ => ⟨rfl, hI⟩) hs1 ho1 hr1)
    · obtain ⟨ad, rfl⟩ : ∃ ad, ao = some ad := by
        cases ao with
        | none => have := hc3 rfl; omega
        | some ad => exact ⟨ad, rfl⟩
      have hvl : vs.length = k' * i.size := by rw [← hc6.1]; exact hl
      have had : 0 < vs.length := by rw [hvl]; exact Nat.mul_pos (Nat.pos_of_ne_zero hk) hpos
      obtain ⟨hae, hbl⟩ := hc4 had
      simp only [Option.some.injEq] at hae
      subst hae
      have e1 := run_append_grow (P := P) (w := w) T' o.type e i z hT.ty hi hz ⟨b, 0, none⟩ n n us (by rw [← hl1]; exact hn) (fun j u hj => by rw [Addr.add_mid]; exact hs1 j u hj) ⟨b', off, none⟩ k' cap vs hvl (fun j u hj => by rw [Addr.add_mid]; exact hc5 j u hj) (by omega) (by omega) (growslice_fits (by omega) (by rw [hby]; exact hb))
      have hrr : (execOp a.eval o).run P w = .ok (.value (.slice (some ⟨w.heap.size, 0, none⟩) (n + k') (grownCap w (n + k') n e))) (w.drew.alloc (.cells (us.toArray ++ vs.toArray ++ Builtin.zeroCells z.cells (grownCap w (n + k') n e - (n + k'))) e)) := by
        simp [execOp, ho, resolve, invoke, builtin, hxe, hv, e1]
      generalize hcs : us.toArray ++ vs.toArray ++ Builtin.zeroCells z.cells (grownCap w (n + k') n e - (n + k')) = cs at hrr
      have hext : Ext I w (fun b => I b ∨ (w.heap.size ≤ b ∧ b < (w.drew.alloc (.cells cs e)).heap.size)) (w.drew.alloc (.cells cs e)) := ⟨fun b h => .inl h, fun b h => h, ((Later.refl w).drew).alloc _⟩
      refine ⟨_, _, _, hrr, hext, .im (.row (grownCap_ge _ _ _ _) (grownCap_le_maxLen _ _ _ _ (by unfold maxLen; omega)) (fun h => by cases h) (us := us ++ vs) hall.1 (fun _ => ⟨rfl, .inr ⟨Nat.le_refl _, by show w.heap.size < (w.heap.push _).size; simp⟩⟩) (fun j u hu => ?_) hall.2.1 fun j d u hj hu => (hall.closed hc j d u hj hu).ext g.lt hext)⟩
      have hjl := (List.getElem?_eq_some_iff.1 hu).1
      have hb2 := box_cell w.drew cs e j u (by
        rw [← hcs]
        have h1 : (us.toArray ++ vs.toArray ++ Builtin.zeroCells z.cells (grownCap w (n + k') n e - (n + k')))[j]? = (us ++ vs)[j]? := by
          rw [Array.getElem?_append_left (by simpa using hjl)]
          simp
        rw [h1]; exact hu)
      rw [Nat.zero_add]; exact hb2
end
end Go.Proofs.Ytpomhnmfkdgafaa
