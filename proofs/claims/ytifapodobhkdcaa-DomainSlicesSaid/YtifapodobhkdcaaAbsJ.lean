/- The abstract machine: a region that draws its order, with operations that write; allocations float (no program in sight). -/
import Derived.Test.YtifapodobhkdcaaAbsH
namespace Go.Proofs.Ytifapodobhkdcaa
open Go.RowKit
set_option linter.unusedVariables false
set_option linter.unusedSimpArgs false
section
variable {P : Program} {ops : Array Oper} {o : Oper} {rest : List Oper} {x y : Operand} {T' : TypeId} {w0 : World} {I0 : Nat → Prop} {ρ : Rho} {I : Nat → Prop} {a : Act} {w w' : World} {K : St → Prop}
variable {nb sz : Nat} {tmp : List (Nat × D)} {mem : List (Nat × Option M)} {t : Nat} {op : Op} {ty : TypeId} {pos : String} {af : Array Edge} {gd : Option (Nat × Bool)}
theorem fillD_length {place : Nat → Option (Nat × Nat)} : ∀ (ds : List (Nat × D)) (cs r : List D), fillD place ds cs = some r → r.length = cs.length := by
  intro ds
  induction ds with
  | nil => intro cs r h; cases h; rfl
  | cons x l ih =>
    intro cs r h
    obtain ⟨k, d⟩ := x
    unfold fillD at h
    cases hp : place k with
    | none => simp only [hp] at h; cases h
    | some q =>
      obtain ⟨q1, q2⟩ := q
      simp only [hp] at h
      cases hb : (cellD d && Nat.beq (flatD d).length q2 && Nat.ble (q1 + q2) cs.length) with
      | false => rw [hb] at h; cases h
      | true => rw [hb] at h; rw [ih _ _ h, putAt_length]
/-- a slice literal, as a row of the call's own -/
theorem T_lit {len size bytes : Nat} {e : TypeId} {kz : Nat} {zs : List Value} {zd : List D} {parts : Array (Nat × Operand)} {ds : List (Nat × D)} {r : List D} [hT : TySlice P T' e size bytes] [hz : TyZero P e kz zs zd] (hp : St.evParts ⟨nb, sz, tmp, mem⟩ parts.toList = some ds)
    (hf : fillD (fun i => some (i * size, size)) ds (List.replicate (len * size) .junk) = some r) (hg : St.guard ⟨nb, sz, tmp, mem⟩ ops ⟨some t, .buildSlice T' len parts, ty, pos, af, gd⟩ = some true) (ht : Nat.blt t sz = true) (hl : Nat.ble (len * size) 16777216 = true)
    (k : T P ops rest ⟨nb + 1, sz, (t, .own nb len) :: tmp, (nb, some ⟨e, size, len, r⟩) :: mem⟩ K) : T P ops (⟨some t, .buildSlice T' len parts, ty, pos, af, gd⟩ :: rest) ⟨nb, sz, tmp, mem⟩ K :=
  T_of_wp hg fun w0 I0 ρ I a w Q next g hk q => by
    obtain ⟨i, z, h1, h2, h3, h4, h5⟩ := hT.info
    obtain ⟨i2, z2, h6, h7, h8, h9⟩ := hz.info
    rw [h1] at h6
    obtain rfl : i = i2 := by simpa using h6
    rw [h2] at h7
    obtain rfl : z = z2 := by simpa using h7
    have hl := Nat.le_of_ble_eq_true hl
    have hpos := hT.pos
    subst h3
    let z0 : Array Value := if len * i.size = 0 then #[] else z.cells
    let cells0 : Array Value := (Array.range (len * i.size)).map fun j => z0[j % z0.size]!
    have hall : AllRA ρ nb I w (List.replicate (len * i.size) .junk) cells0.toList := by
      refine ⟨by simp [cells0], fun u hu => ?_, fun j d u h1 h2 => ?_⟩
      · simp only [cells0, Array.toList_map, List.mem_map] at hu
        obtain ⟨j, hj, rfl⟩ := hu
        have hj' : j < len * i.size := by simpa using hj
        have hne : ¬ len * i.size = 0 := by omega
        have hz0 : z0 = z.cells := if_neg hne
        have hsz : 0 < z0.size := by rw [hz0, h5]; exact hpos
        have hlt : j % z0.size < z0.size := Nat.mod_lt _ hsz
        rw [getElem!_pos z0 _ hlt]
        have hm : z0[j % z0.size] ∈ z.cells.toList := by rw [← hz0]; simp
        rw [h8] at hm
        exact List.all_eq_true.1 hz.one _ hm
      · rw [List.getElem?_replicate] at h1
        by_cases hj : j < len * i.size
        · rw [if_pos hj] at h1; cases h1; exact .im (.junk _)
        · rw [if_neg hj] at h1; cases h1
    obtain ⟨us', h10, h11⟩ := fill_sound g (place := fun k => some (k * i.size, i.size)) (us := cells0) hp hall hf
    have hr : (execOp a.eval ⟨some t, .buildSlice T' len parts, ty, pos, af, gd⟩).run P w = .ok (.value (.slice (some ⟨w.heap.size, 0, none⟩) len len)) (w.alloc (.cells us' e)) := by
      have hmap : (parts.map fun x => (x.1, a.eval x.2)).toList = parts.toList.map fun x => (x.1, a.eval x.2) := Array.toList_map ..
      have hsmall : ¬ 16777216 < len * i.size := by omega
      by_cases h0 : len * i.size = 0
      · have hz0 : z0 = #[] := if_pos h0
        have h10' : Instr.fill (fun k => some (k * i.size, i.size)) ((Array.range (len * i.size)).map fun j => (#[] : Array Value)[j % (#[] : Array Value).size]!) (parts.map fun x => (x.1, a.eval x.2)).toList = some us' := by rw [hmap, ← hz0]; exact h10
        simp only [execOp, Instr.buildSlice, Sem.run_bind, run_underlying hT.ty, Result.andThen_ok, run_sizeOf'' h1, if_pos h0, Sem.run_pure]
        rw [if_neg (by simpa using hsmall)]
        simp only [Sem.run_bind, Sem.run_pure, Result.andThen_ok, h10']
        rfl
      · have hz0 : z0 = z.cells := if_neg h0
        have h10' : Instr.fill (fun k => some (k * i.size, i.size)) ((Array.range (len * i.size)).map fun j => z.cells[j % z.cells.size]!) (parts.map fun x => (x.1, a.eval x.2)).toList = some us' := by rw [hmap, ← hz0]; exact h10
        simp only [execOp, Sem.run_bind, run_buildSlice w T' e len _ us' i z hT.ty h1 h2 (by simpa using hsmall) h0 h10', Result.andThen_ok, Sem.run_pure]
    have hlen : us'.size = len * i.size := by
      rw [← Array.length_toList, ← h11.1, fillD_length _ _ _ hf]; simp
    unfold Oper.wp; rw [hr]
    have hmx : len ≤ maxLen := by have : len ≤ len * i.size := Nat.le_mul_of_pos_right _ hpos; unfold maxLen; omega
    have g2 := g.fresh (cs := us') (e := e) (size := i.size) (n := len) hlen hmx h11
    exact hk _ _ (k.h w0 I0 _ I _ _ Q (g2.put (by simpa using ht) (G.fresh_own ρ nb I w _ len)) q)
theorem T_lit0 {size bytes : Nat} {e : TypeId} {kz : Nat} {zs : List Value} {zd : List D} {parts : Array (Nat × Operand)} [hT : TySlice P T' e size bytes] [hz : TyZero P e kz zs zd] (hp : St.evParts ⟨nb, sz, tmp, mem⟩ parts.toList = some [])
    (hg : St.guard ⟨nb, sz, tmp, mem⟩ ops ⟨some t, .buildSlice T' 0 parts, ty, pos, af, gd⟩ = some true) (ht : Nat.blt t sz = true)
    (k : T P ops rest ⟨nb + 1, sz, (t, .own nb 0) :: tmp, (nb, some ⟨e, size, 0, []⟩) :: mem⟩ K) : T P ops (⟨some t, .buildSlice T' 0 parts, ty, pos, af, gd⟩ :: rest) ⟨nb, sz, tmp, mem⟩ K :=
  T_lit hp (by rw [Nat.zero_mul]; rfl) hg ht (by rw [Nat.zero_mul]; rfl) k
theorem T_lit1 {len size bytes : Nat} {e : TypeId} {kz : Nat} {zs : List Value} {zd : List D} {parts : Array (Nat × Operand)} {ds : List (Nat × D)} {e1 : D} [hT : TySlice P T' e size bytes] [hz : TyZero P e kz zs zd] (hp : St.evParts ⟨nb, sz, tmp, mem⟩ parts.toList = some ds)
    (hf : fillD (fun i => some (i * size, size)) ds (List.replicate (len * size) .junk) = some [e1]) (hg : St.guard ⟨nb, sz, tmp, mem⟩ ops ⟨some t, .buildSlice T' len parts, ty, pos, af, gd⟩ = some true) (ht : Nat.blt t sz = true) (hl : Nat.ble (len * size) 16777216 = true)
    (k : T P ops rest ⟨nb + 1, sz, (t, .own nb len) :: tmp, (nb, some ⟨e, size, len, [e1]⟩) :: mem⟩ K) : T P ops (⟨some t, .buildSlice T' len parts, ty, pos, af, gd⟩ :: rest) ⟨nb, sz, tmp, mem⟩ K := T_lit hp hf hg ht hl k
/-! ### a row that is no more written to, wherever a slot holds it -/
def frz1 (b n : Nat) (xs : List D) : D → D
  | .own b' n' => cond (Nat.beq b' b) (.row n xs) (.own b' n')
  | .ptr b' off => cond (Nat.beq b' b) (.obj (xs.drop off)) (.ptr b' off)
  | d => d
def frz2 (b n : Nat) (xs : List D) : D → D
  | .agg l => .agg (l.map (frz1 b n xs))
  | d => frz1 b n xs d
def okD (b n : Nat) : D → Prop
  | .own b' n' => cond (Nat.beq b' b) (n' = n) True
  | _ => True
def okL (b n : Nat) : List D → Prop
  | [] => True
  | d :: l => okD b n d ∧ okL b n l
def okD2 (b n : Nat) : D → Prop
  | .agg l => okL b n l
  | d => okD b n d
/-- every slot that holds the row holds all of it -/
def okT (b n : Nat) : List (Nat × D) → Prop
  | [] => True
  | e :: l => okD2 b n e.2 ∧ okT b n l
theorem okL_get {b n : Nat} : ∀ {l : List D}, okL b n l → ∀ (j : Nat) (d : D), l[j]? = some d → okD b n d
  | [], _, j, d, h => by simp at h
  | x :: l, h, j, d, hj => by
    cases j with
    | zero => simp at hj; subst hj; exact h.1
    | succ j => exact okL_get h.2 j d (by simpa using hj)
theorem okT_look {b n t : Nat} : ∀ {l : List (Nat × D)}, okT b n l → ∀ {d : D}, look t l = some d → okD2 b n d
  | [], _, d, h => by cases h
  | e :: l, h, d, hd => by
    have h' : cond (Nat.beq e.1 t) (some e.2) (look t l) = some d := hd
    cases hb : Nat.beq e.1 t with
    | true => rw [hb] at h'; cases h'; exact h.1
    | false => rw [hb] at h'; exact okT_look h.2 h'
section
variable {b : Nat} {m : M} (h1 : ∀ v, RA ρ nb I w (.own b m.n) v → RA ρ nb I w (.row m.n m.xs) v) (h2 : ∀ off v, RA ρ nb I w (.ptr b off) v → RA ρ nb I w (.obj (m.xs.drop off)) v)
include h1 h2
theorem frz1_ok {d : D} {v : Value} (hd : okD b m.n d) (h : RA ρ nb I w d v) : RA ρ nb I w (frz1 b m.n m.xs d) v := by
  cases d with
  | own b' n =>
    simp only [frz1]
    simp only [okD] at hd
    cases hb : Nat.beq b' b with
    | false => exact h
    | true =>
      rw [hb] at hd
      have e1 := Nat.eq_of_beq_eq_true hb
      have e2 : n = m.n := hd
      subst e1; subst e2; exact h1 v h
  | ptr b' off =>
    simp only [frz1]
    cases hb : Nat.beq b' b with
    | false => exact h
    | true => have e1 := Nat.eq_of_beq_eq_true hb; subst e1; exact h2 off v h
  | _ => exact h
theorem frz2_ok {d : D} {v : Value} (hd : okD2 b m.n d) (h : RA ρ nb I w d v) : RA ρ nb I w (frz2 b m.n m.xs d) v := by
  cases d with
  | agg xs =>
    have hd' : okL b m.n xs := hd
    have key : ∀ us : List Value, (∀ (j : Nat) (d : D) (u : Value), xs[j]? = some d → us[j]? = some u → RA ρ nb I w d u) → ∀ (j : Nat) (d : D) (u : Value), (xs.map (frz1 b m.n m.xs))[j]? = some d → us[j]? = some u → RA ρ nb I w d u := by
      intro us hr j d u hd hu
      rw [List.getElem?_map] at hd
      cases hx : xs[j]? with
      | none => rw [hx] at hd; cases hd
      | some e => rw [hx] at hd; cases hd; exact frz1_ok h1 h2 (okL_get hd' j e hx) (hr j e u hx hu)
    cases h with
    | im h =>
      cases h with
      | agg hl ho hr => exact .agg (by simpa using hl) ho (key _ fun j d u a b => .im (hr j d u a b))
    | agg hl ho hr => exact .agg (by simpa using hl) ho (key _ hr)
  | _ => exact frz1_ok (d := _) h1 h2 (by exact hd) h
end
theorem Wk.freeze2 (b : Nat) {m : M} (hm : getM b mem = some m) (hc : D.idsL (fun _ => false) m.xs = true) (hk : okT b m.n tmp) : Wk ⟨nb, sz, tmp, mem⟩ ⟨nb, sz, tmp.map fun e => (e.1, frz2 b m.n m.xs e.2), (b, none) :: mem⟩ := fun w0 I0 ρ I a w g => by
  obtain ⟨I', g', hI, h1, h2⟩ := g.freeze hm hc
  refine ⟨ρ, I', ⟨g'.later, g'.lt, g'.base, g'.old, g'.defers, g'.sz, fun t d h => ?_, g'.mem, g'.inj⟩⟩
  obtain ⟨e, he, rfl⟩ := look_map h
  exact frz2_ok h1 h2 (okT_look hk he) (g'.tmp t e he)
/-- the row in slot t is no more written to -/
theorem T_frz (t : Nat) {b n n' size : Nat} {e : TypeId} {xs : List D} (h : look t tmp = some (.own b n)) (hm : getM b mem = some ⟨e, size, n', xs⟩) (hc : D.idsL (fun _ => false) xs = true) (hk : okT b n' tmp) (k : T P ops rest ⟨nb, sz, tmp.map fun e => (e.1, frz2 b n' xs e.2), (b, none) :: mem⟩ K) : T P ops rest ⟨nb, sz, tmp, mem⟩ K := T_wk (Wk.freeze2 b hm hc hk) k
/-- the row that a field of slot t holds -/
theorem T_frzA (t j : Nat) {b n n' size : Nat} {e : TypeId} {ys xs : List D} (h : look t tmp = some (.agg ys)) (hj : ys[j]? = some (.own b n)) (hm : getM b mem = some ⟨e, size, n', xs⟩) (hc : D.idsL (fun _ => false) xs = true) (hk : okT b n' tmp) (k : T P ops rest ⟨nb, sz, tmp.map fun e => (e.1, frz2 b n' xs e.2), (b, none) :: mem⟩ K) : T P ops rest ⟨nb, sz, tmp, mem⟩ K := T_wk (Wk.freeze2 b hm hc hk) k
end
end Go.Proofs.Ytifapodobhkdcaa
namespace Go.Proofs.Ytifapodobhkdcaa
open Go.RowKit
set_option linter.unusedVariables false
set_option linter.unusedSimpArgs false
section
variable {P : Program} {w0 : World} {I0 : Nat → Prop} {ρ : Rho} {I I' : Nat → Prop} {a : Act} {w w' : World}
variable {nb sz : Nat} {tmp : List (Nat × D)} {mem : List (Nat × Option M)} {t : Nat}
/-- a new row of the call's own that has no number yet -/
structure Fresh (w0 : World) (ρ : Rho) (mem : List (Nat × Option M)) (I : Nat → Prop) (w : World) (m : M) (v : Value) (g : Nat) : Prop where
  eq : v = .pointer (some ⟨g, 0, none⟩)
  own : ∃ us, w.ownsRow w0.heap.size m.ty m.size (sv (some (g, m.n)) m.n) m.n us ∧ us.map D.val = m.xs ∧ us.all (·.oneCell') = true
  not : ¬ I g
  lt : g < w.heap.size
  apart : ∀ b m', getM b mem = some m' → ∀ c, ρ b ≠ some (g, c)
theorem Fresh.ext {m : M} {v : Value} {g : Nat} (h : Fresh w0 ρ mem I w m v g) (e : Ext I w I' w') : Fresh w0 ρ mem I' w' m v g := by
  obtain ⟨h1, ⟨us, ho, hx, hz⟩, hn, hl, ha⟩ := h
  refine ⟨h1, ⟨us, ho.kept (row := none) (e.later.grows none) (by cases (sv (some (g, m.n)) m.n).ownBlock <;> simp), hx, hz⟩, fun hI => ?_, Nat.lt_of_lt_of_le hl (Below.size e.later), ha⟩
  rcases e.new g hI with h | h
  · exact hn h
  · omega
theorem adopt_one {m : M} {gb : Nat} (g : G w0 I0 ⟨nb, sz, tmp, mem⟩ ρ I a w) (f : Fresh w0 ρ mem I w m (a.tmps.getD t undef) gb) :
    G w0 I0 ⟨nb + 1, sz, (t, .ptr nb 0) :: tmp, (nb, some m) :: mem⟩ (upd ρ nb (some (gb, m.n))) I a w := by
  obtain ⟨h1, ⟨us, ho, hx, hz⟩, hn, hl, ha⟩ := f
  have g2 := g.renew m mem (some (gb, m.n)) none (us := us) (grown_refl w none) (fun k hk => by cases hk) (fun b m h => ⟨h, fun k c _ hh => by cases hh⟩)
    (fun b m' k c c' h hk hk' => by
      cases hk'
      exact ha b m' h c hk)
    (fun k c hk hI => by cases hk; exact hn hI) ho (by rw [← hx]; exact allRA_vals hz)
  refine g2.know ?_
  rw [h1]
  exact .ptr (Nat.lt_succ_self _) (upd_same ρ nb _)
theorem Fresh.other {m m' : M} {v : Value} {g g' c nb : Nat} (f : Fresh w0 ρ mem I w m v g) (hne : g ≠ g') (hm : ∀ b m, getM b mem = some m → b < nb) : Fresh w0 (upd ρ nb (some (g', c))) ((nb, some m') :: mem) I w m v g := by
  obtain ⟨h1, h2, hn, hl, ha⟩ := f
  refine ⟨h1, h2, hn, hl, fun b m1 h c' => ?_⟩
  have h' : cond (Nat.beq nb b) (some m') (getM b mem) = some m1 := h
  cases hb : Nat.beq nb b with
  | true =>
    have e := Nat.eq_of_beq_eq_true hb
    subst e
    rw [upd_same]
    intro h
    cases h
    exact hne rfl
  | false =>
    rw [hb] at h'
    rw [upd_other _ _ (hm b m1 h')]
    exact ha b m1 h' c'
/-- the rows get their numbers, the last one in the list first -/
def adoptT (nb : Nat) : List (Nat × Nat × M) → List (Nat × D)
  | [] => []
  | x :: l => (x.2.1, .ptr (nb + l.length) 0) :: adoptT nb l
def adoptM (nb : Nat) : List (Nat × Nat × M) → List (Nat × Option M)
  | [] => []
  | x :: l => (nb + l.length, some x.2.2) :: adoptM nb l
theorem adopt_all (g : G w0 I0 ⟨nb, sz, tmp, mem⟩ ρ I a w) : ∀ (al : List (Nat × Nat × M)) (gs : Nat → Nat), (∀ x ∈ al, Fresh w0 ρ mem I w x.2.2 (a.tmps.getD x.2.1 undef) (gs x.1)) → (∀ x ∈ al, ∀ y ∈ al, gs x.1 = gs y.1 → x.1 = y.1) → (al.map (·.1)).Nodup →
    ∃ ρ', G w0 I0 ⟨nb + al.length, sz, adoptT nb al ++ tmp, adoptM nb al ++ mem⟩ ρ' I a w ∧ (∀ d v, RA ρ nb I w d v → RA ρ' (nb + al.length) I w d v) ∧
      ∀ (m : M) (v : Value) (gb : Nat), Fresh w0 ρ mem I w m v gb → (∀ x ∈ al, gs x.1 ≠ gb) → Fresh w0 ρ' (adoptM nb al ++ mem) I w m v gb
  | [], gs, _, _, _ => ⟨ρ, g, fun d v h => h, fun m v gb h _ => h⟩
  | x :: l, gs, hf, hi, hn => by
    obtain ⟨hx, hn'⟩ := List.nodup_cons.1 hn
    obtain ⟨ρ', g', h1, h2⟩ := adopt_all g l gs (fun y hy => hf y (List.mem_cons_of_mem _ hy)) (fun y hy z hz => hi y (List.mem_cons_of_mem _ hy) z (List.mem_cons_of_mem _ hz)) hn'
    have hne : ∀ y ∈ l, gs y.1 ≠ gs x.1 := fun y hy e => hx (by
      show x.1 ∈ _
      rw [← hi y (List.mem_cons_of_mem _ hy) x List.mem_cons_self e]
      exact List.mem_map.2 ⟨y, hy, rfl⟩)
    have fx := h2 _ _ _ (hf x List.mem_cons_self) hne
    have g2 := adopt_one g' fx
    refine ⟨_, g2, fun d v h => ?_, fun m v gb h hall => ?_⟩
    · exact (h1 d v h).grow (Nat.le_succ _) fun b hb => upd_other _ _ hb
    · refine (h2 m v gb h fun y hy => hall y (List.mem_cons_of_mem _ hy)).other (fun e => hall x List.mem_cons_self e.symm) fun b m' hb => (g'.mem b m' hb).parts.1
end
end Go.Proofs.Ytifapodobhkdcaa
