/- The abstract machine's rules for making and writing memory (no program in sight). -/
import Derived.Test.YtifapodobhkdcaaAbsC
namespace Go.Proofs.Ytifapodobhkdcaa
open Go.RowKit
set_option linter.unusedVariables false
set_option linter.unusedSimpArgs false
theorem RA.grow {ρ ρ' : Rho} {nb nb' : Nat} {I : Nat → Prop} {w : World} {d : D} {v : Value} (h : RA ρ nb I w d v) (hn : nb ≤ nb') (hp : ∀ b, b < nb → ρ' b = ρ b) : RA ρ' nb' I w d v := by
  induction h with
  | im h => exact .im h
  | ptr hb h => exact .ptr (Nat.lt_of_lt_of_le hb hn) (by rw [hp _ hb]; exact h)
  | own hb h => rw [← hp _ hb] at h ⊢; exact .own (Nat.lt_of_lt_of_le hb hn) h
  | agg hl ho hr ih => exact .agg hl ho ih
  | tup hl hr ih => exact .tup hl ih
  | fn hl hk hr hq ih ih2 => exact .fn hl hk ih ih2
theorem AllRA.grow {ρ ρ' : Rho} {nb nb' : Nat} {I : Nat → Prop} {w : World} {xs : List D} {us : List Value} (h : AllRA ρ nb I w xs us) (hn : nb ≤ nb') (hp : ∀ b, b < nb → ρ' b = ρ b) : AllRA ρ' nb' I w xs us :=
  ⟨h.1, h.2.1, fun j d u a b => (h.2.2 j d u a b).grow hn hp⟩
theorem AllRA.move {ρ : Rho} {nb nb' : Nat} {I I' : Nat → Prop} {w w' : World} {xs : List D} {us : List Value} (h : AllRA ρ nb I w xs us) (hn : nb ≤ nb') (hI : ∀ b, I b → I' b) (hw : ∀ b, I b → w'.heap[b]? = w.heap[b]?) : AllRA ρ nb' I' w' xs us :=
  ⟨h.1, h.2.1, fun j d u a b => (h.2.2 j d u a b).move hn hI hw⟩
def upd (ρ : Rho) (nb : Nat) (x : Option (Nat × Nat)) : Rho := fun b => if b = nb then x else ρ b
theorem upd_same (ρ : Rho) (nb : Nat) (x : Option (Nat × Nat)) : upd ρ nb x nb = x := if_pos rfl
theorem upd_other (ρ : Rho) {nb b : Nat} (x : Option (Nat × Nat)) (h : b < nb) : upd ρ nb x b = ρ b := if_neg (by omega)
section
variable {P : Program} {ops : Array Oper} {o : Oper} {rest : List Oper} {x y : Operand} {T' : TypeId} {w0 : World} {I0 : Nat → Prop} {ρ : Rho} {I : Nat → Prop} {a : Act} {w w' : World} {K : St → Prop}
variable {nb sz : Nat} {tmp : List (Nat × D)} {mem : List (Nat × Option M)} {t : Nat} {op : Op} {ty : TypeId} {pos : String} {af : Array Edge} {gd : Option (Nat × Bool)}
theorem MemOk.parts {b : Nat} {m : M} (h : MemOk w0 ρ nb I w b m) : b < nb ∧ (∃ us, w.ownsRow w0.heap.size m.ty m.size (sv (ρ b) m.n) m.n us ∧ AllRA ρ nb I w m.xs us) ∧ ∀ g cap, ρ b = some (g, cap) → ¬ I g := by
  obtain ⟨h1, ⟨us, ho, hl, h1c, hr⟩, hn⟩ := h
  exact ⟨h1, ⟨us, ho, hl, h1c, hr⟩, hn⟩
theorem MemOk.mk' {b : Nat} {m : M} {us : List Value} (h1 : b < nb) (ho : w.ownsRow w0.heap.size m.ty m.size (sv (ρ b) m.n) m.n us) (hx : AllRA ρ nb I w m.xs us) (hn : ∀ g cap, ρ b = some (g, cap) → ¬ I g) : MemOk w0 ρ nb I w b m :=
  ⟨h1, ⟨us, ho, hx.1, hx.2.1, hx.2.2⟩, hn⟩
/-- a row's block, if it has one -/
theorem MemOk.lt {b : Nat} {m : M} (h : MemOk w0 ρ nb I w b m) {g c : Nat} (hg : ρ b = some (g, c)) : w0.heap.size ≤ g ∧ g < w.heap.size := by
  obtain ⟨_, ⟨us, ho, _⟩, _⟩ := h.parts
  exact ho.lt g (by rw [hg]; rfl)
/-- a row dealt a new number, where the world has turned at most in that row's elder block -/
theorem G.renew (g : G w0 I0 ⟨nb, sz, tmp, mem⟩ ρ I a w) (m' : M) (mem' : List (Nat × Option M)) (pl : Option (Nat × Nat)) (row : Option Nat) {us : List Value} (hgr : w.grownBy w' row) (hrow : ∀ k, row = some k → w0.heap.size ≤ k ∧ ¬ I k)
    (hsub : ∀ b m, getM b mem' = some m → getM b mem = some m ∧ ∀ k c, ρ b = some (k, c) → row ≠ some k)
    (hnew : ∀ b m k c c', getM b mem' = some m → ρ b = some (k, c) → pl = some (k, c') → False) (hpl : ∀ k c, pl = some (k, c) → ¬ I k)
    (ho : w'.ownsRow w0.heap.size m'.ty m'.size (sv pl m'.n) m'.n us) (hx : AllRA ρ nb I w m'.xs us) : G w0 I0 ⟨nb + 1, sz, tmp, (nb, some m') :: mem'⟩ (upd ρ nb pl) I a w' := by
  have hup : ∀ b, b < nb → upd ρ nb pl b = ρ b := fun b hb => upd_other ρ pl hb
  have hw : ∀ b, I b → w'.heap[b]? = w.heap[b]? := fun b hb => hgr.block b (g.lt b hb) (fun e => (hrow b e.symm).2 hb)
  have hlater : Later w0 w' := Below.grown g.later hgr (Below.size g.later) (fun k hk => (hrow k hk).1)
  have hmem : ∀ b m, getM b ((nb, some m') :: mem') = some m → (b = nb ∧ m = m') ∨ (b ≠ nb ∧ getM b mem' = some m) := by
    intro b m h
    have h' : cond (Nat.beq nb b) (some m') (getM b mem') = some m := h
    cases hb : Nat.beq nb b with
    | true => rw [hb] at h'; cases h'; exact .inl ⟨(Nat.eq_of_beq_eq_true hb).symm, rfl⟩
    | false => rw [hb] at h'; exact .inr ⟨fun e => Nat.ne_of_beq_eq_false hb e.symm, h'⟩
  refine ⟨hlater, fun b hb => Nat.lt_of_lt_of_le (g.lt b hb) hgr.size, g.base, g.old, g.defers, g.sz, fun t d h => ((g.tmp t d h).grow (Nat.le_succ _) hup).move (Nat.le_refl _) (fun _ h => h) hw, fun b m hm => ?_, fun b m b' m1 hm hm1 k c c' hk hk' => ?_⟩
  · rcases hmem b m hm with ⟨rfl, rfl⟩ | ⟨hne, h⟩
    · refine MemOk.mk' (Nat.lt_succ_self _) (us := us) (by rw [upd_same]; exact ho) ((hx.grow (Nat.le_succ _) hup).move (Nat.le_refl _) (fun _ h => h) hw) fun k c hk => ?_
      rw [upd_same] at hk
      exact hpl k c hk
    · obtain ⟨h1, h2⟩ := hsub b m h
      obtain ⟨h3, ⟨vs, ho', hx'⟩, hn'⟩ := (g.mem b m h1).parts
      have e := hup b h3
      refine MemOk.mk' (Nat.lt_succ_of_lt h3) (us := vs) ?_ ((hx'.grow (Nat.le_succ _) hup).move (Nat.le_refl _) (fun _ h => h) hw) fun k c hk => by rw [e] at hk; exact hn' k c hk
      rw [e]
      refine ho'.kept hgr ?_
      cases hρ : ρ b with
      | none => left; rfl
      | some kc => right; intro hh; exact h2 kc.1 kc.2 hρ hh.symm
  · rcases hmem b m hm with ⟨rfl, rfl⟩ | ⟨hne, h⟩ <;> rcases hmem b' m1 hm1 with ⟨rfl, rfl⟩ | ⟨hne', h'⟩
    · rfl
    · rw [upd_same] at hk
      have hlt := (g.mem b' m1 (hsub b' m1 h').1).parts.1
      rw [hup b' hlt] at hk'
      exact (hnew b' m1 k c' c h' hk' hk).elim
    · rw [upd_same] at hk'
      have hlt := (g.mem b m (hsub b m h).1).parts.1
      rw [hup b hlt] at hk
      exact (hnew b m k c c' h hk hk').elim
    · have h1 := (hsub b m h).1
      have h1' := (hsub b' m1 h').1
      rw [hup b (g.mem b m h1).parts.1] at hk
      rw [hup b' (g.mem b' m1 h1').parts.1] at hk'
      exact g.inj b m b' m1 h1 h1' k c c' hk hk'
/-- a new block -/
theorem G.fresh (g : G w0 I0 ⟨nb, sz, tmp, mem⟩ ρ I a w) {cs : Array Value} {xs : List D} {e : TypeId} {size n : Nat} (hcs : cs.size = n * size) (hn : n ≤ maxLen) (hx : AllRA ρ nb I w xs cs.toList) :
    G w0 I0 ⟨nb + 1, sz, tmp, (nb, some ⟨e, size, n, xs⟩) :: mem⟩ (upd ρ nb (some (w.heap.size, n))) I a (w.alloc (.cells cs e)) := by
  refine g.renew ⟨e, size, n, xs⟩ mem (some (w.heap.size, n)) none (us := cs.toList) (World.grownBy_alloc w _ none) (fun k hk => by cases hk) (fun b m h => ⟨h, fun k c _ hh => by cases hh⟩) (fun b m k c c' h hk hk' => ?_) (fun k c hk hI => ?_) (World.ownsRow_lit w cs n (Below.size g.later) hn hcs) hx
  · have := ((g.mem b m h).lt hk).2
    simp only [Option.some.injEq, Prod.mk.injEq] at hk'
    omega
  · have := g.lt k hI
    simp only [Option.some.injEq, Prod.mk.injEq] at hk
    omega
theorem G.fresh_ptr (ρ : Rho) (nb : Nat) (I : Nat → Prop) (w w' : World) (n : Nat) : RA (upd ρ nb (some (w.heap.size, n))) (nb + 1) I w' (.ptr nb 0) (.pointer (some ⟨w.heap.size, 0, none⟩)) :=
  .ptr (Nat.lt_succ_self _) (upd_same ρ nb _)
theorem G.fresh_own (ρ : Rho) (nb : Nat) (I : Nat → Prop) (w w' : World) (n : Nat) : RA (upd ρ nb (some (w.heap.size, n))) (nb + 1) I w' (.own nb n) (.slice (some ⟨w.heap.size, 0, none⟩) n n) := by
  have h := RA.own (ρ := upd ρ nb (some (w.heap.size, n))) (nb := nb + 1) (I := I) (w := w') (b := nb) (n := n) (Nat.lt_succ_self _) (fun h => by rw [upd_same] at h; cases h)
  rw [upd_same] at h
  exact h
theorem allRA_vals {zs : List Value} (h : zs.all (·.oneCell') = true) : AllRA ρ nb I w (zs.map D.val) zs := by
  have h1 : ∀ u ∈ zs, u.oneCell' = true := List.all_eq_true.1 h
  refine ⟨by simp, h1, fun j d u hj hu => ?_⟩
  simp only [List.getElem?_map, hu, Option.map_some, Option.some.injEq] at hj
  subst hj
  exact .im (.val _ (h1 u (List.mem_of_getElem? hu)))
theorem T_alloc {kz : Nat} {zs : List Value} {zd : List D} [hz : TyZero P T' kz zs zd] (hg : St.guard ⟨nb, sz, tmp, mem⟩ ops ⟨some t, .alloc T', ty, pos, af, gd⟩ = some true) (ht : Nat.blt t sz = true)
    (k : T P ops rest ⟨nb + 1, sz, (t, .ptr nb 0) :: tmp, (nb, some ⟨T', kz, 1, zd⟩) :: mem⟩ K) : T P ops (⟨some t, .alloc T', ty, pos, af, gd⟩ :: rest) ⟨nb, sz, tmp, mem⟩ K :=
  T_of_wp hg fun w0 I0 ρ I a w Q next g hk q => by
    obtain ⟨i, z, h1, h2, h3, h4⟩ := hz.info
    have hr : (execOp a.eval ⟨some t, .alloc T', ty, pos, af, gd⟩).run P w = .ok (.value (.pointer (some ⟨w.heap.size, 0, none⟩))) (w.alloc (.cells z.cells T')) := by
      simp [execOp, Instr.alloc, zeroValue, typeInfo, h1, h2, newVar, newRow, newObj]
      rfl
    unfold Oper.wp; rw [hr]
    have hx : AllRA ρ nb I w zd z.cells.toList := by rw [h3, ← hz.data]; exact allRA_vals hz.one
    have g2 := g.fresh (cs := z.cells) (e := T') (size := kz) (n := 1) (by rw [← Array.length_toList, h3, hz.len]; simp) (by unfold maxLen; omega) hx
    exact hk _ _ (k.h w0 I0 _ I _ _ Q (g2.put (by simpa using ht) (G.fresh_ptr ρ nb I w _ 1)) q)
def flatD : D → List D
  | .agg ds => ds
  | d => [d]
def oneD : D → Bool
  | .tup _ | .agg _ | .junk => false
  | _ => true
theorem RA.one {d : D} {v : Value} (h : RA ρ nb I w d v) (hd : oneD d = true) : v.oneCell' = true := by
  cases h with
  | im h => cases h with
    | val _ h => exact h
    | junk => cases hd
    | agg => cases hd
    | tup => cases hd
    | _ => rfl
  | own hb h => cases ρ _ <;> rfl
  | agg => cases hd
  | tup => cases hd
  | _ => rfl
def cellD : D → Bool
  | .agg _ => true
  | d => oneD d
theorem RA.flat {d : D} {v : Value} (h : RA ρ nb I w d v) (hd : cellD d = true) : AllRA ρ nb I w (flatD d) v.cells.toList := by
  by_cases ha : ∃ ds, d = .agg ds
  · obtain ⟨ds, rfl⟩ := ha
    obtain ⟨us, rfl, h1, h2, h3⟩ := h.cells
    exact ⟨h1, h2, h3⟩
  · have h1 : flatD d = [d] := by cases d <;> first | rfl | exact absurd ⟨_, rfl⟩ ha
    have h2 : oneD d = true := by cases d <;> first | exact hd | exact absurd ⟨_, rfl⟩ ha
    have h3 := h.one h2
    have h4 : v.cells.toList = [v] := by cases v <;> first | rfl | cases h3
    rw [h1, h4]
    refine ⟨rfl, fun u hu => by simp at hu; subst hu; exact h3, fun j e u hj hu => ?_⟩
    cases j with
    | zero => simp at hj hu; subst hj; subst hu; exact h
    | succ j => simp at hj
theorem T_box {d : D} {kz : Nat} {ys : List D} (hx : St.ev ⟨nb, sz, tmp, mem⟩ x = some d) (hg : St.guard ⟨nb, sz, tmp, mem⟩ ops ⟨some t, .box T' x, ty, pos, af, gd⟩ = some true) (ht : Nat.blt t sz = true) (hd : cellD d = true) (hf : flatD d = ys) (hkz : ys.length = kz)
    (k : T P ops rest ⟨nb + 1, sz, (t, .ptr nb 0) :: tmp, (nb, some ⟨T', kz, 1, ys⟩) :: mem⟩ K) : T P ops (⟨some t, .box T' x, ty, pos, af, gd⟩ :: rest) ⟨nb, sz, tmp, mem⟩ K :=
  T_of_wp hg fun w0 I0 ρ I a w Q next g hk q => by
    have hr : (execOp a.eval ⟨some t, .box T' x, ty, pos, af, gd⟩).run P w = .ok (.value (.pointer (some ⟨w.heap.size, 0, none⟩))) (w.alloc (.cells (a.eval x).cells T')) := by
      simp [execOp, Instr.box, newVar, newRow, newObj]
      rfl
    unfold Oper.wp; rw [hr]
    subst hf
    have hx := (g.ev hx).flat hd
    have g2 := g.fresh (cs := (a.eval x).cells) (e := T') (size := kz) (n := 1) (by rw [← Array.length_toList, ← hx.1, hkz]; simp) (by unfold maxLen; omega) hx
    exact hk _ _ (k.h w0 I0 _ I _ _ Q (g2.put (by simpa using ht) (G.fresh_ptr ρ nb I w _ 1)) q)
theorem T_boxAgg {ys : List D} {kz : Nat} (hx : St.ev ⟨nb, sz, tmp, mem⟩ x = some (.agg ys)) (hg : St.guard ⟨nb, sz, tmp, mem⟩ ops ⟨some t, .box T' x, ty, pos, af, gd⟩ = some true) (ht : Nat.blt t sz = true) (hs : (P.info? T').map (·.size) = some kz) (hk : ys.length = kz)
    (k : T P ops rest ⟨nb + 1, sz, (t, .ptr nb 0) :: tmp, (nb, some ⟨T', kz, 1, ys⟩) :: mem⟩ K) : T P ops (⟨some t, .box T' x, ty, pos, af, gd⟩ :: rest) ⟨nb, sz, tmp, mem⟩ K := T_box hx hg ht rfl rfl hk k
theorem T_boxOne {d : D} (hx : St.ev ⟨nb, sz, tmp, mem⟩ x = some d) (hg : St.guard ⟨nb, sz, tmp, mem⟩ ops ⟨some t, .box T' x, ty, pos, af, gd⟩ = some true) (ht : Nat.blt t sz = true) (hd : oneD d = true)
    (k : T P ops rest ⟨nb + 1, sz, (t, .ptr nb 0) :: tmp, (nb, some ⟨T', 1, 1, [d]⟩) :: mem⟩ K) : T P ops (⟨some t, .box T' x, ty, pos, af, gd⟩ :: rest) ⟨nb, sz, tmp, mem⟩ K :=
  T_box hx hg ht (by cases d <;> first | exact hd | rfl) (ys := [d]) (by cases d <;> first | rfl | cases hd) rfl k
/-! ### stores -/
def putAt {α : Type} (xs : List α) (off : Nat) : List α → List α
  | [] => xs
  | y :: ys => putAt (xs.set off y) (off + 1) ys
theorem putAt_length {α : Type} : ∀ (ys xs : List α) (off : Nat), (putAt xs off ys).length = xs.length
  | [], _, _ => rfl
  | y :: ys, xs, off => by rw [putAt, putAt_length ys]; simp
theorem AllRA.set {xs : List D} {us : List Value} (h : AllRA ρ nb I w xs us) {d : D} {u : Value} (j : Nat) (hd : RA ρ nb I w d u) (hu : u.oneCell' = true) : AllRA ρ nb I w (xs.set j d) (us.set j u) := by
  refine ⟨by simp [h.1], fun v hv => ?_, fun i e v h1 h2 => ?_⟩
  · rcases List.mem_or_eq_of_mem_set hv with h' | h'
    · exact h.2.1 v h'
    · subst h'; exact hu
  · rw [List.getElem?_set] at h1 h2
    by_cases hij : j = i
    · subst hij
      by_cases hl : j < xs.length
      · rw [if_pos rfl, if_pos hl] at h1
        rw [if_pos rfl, if_pos (by rw [← h.1]; exact hl)] at h2
        cases h1; cases h2; exact hd
      · rw [if_pos rfl, if_neg hl] at h1; cases h1
    · rw [if_neg hij] at h1 h2; exact h.2.2 i e v h1 h2
theorem AllRA.putAt {ys : List D} {vs : List Value} : ∀ {xs : List D} {us : List Value} (off : Nat), AllRA ρ nb I w xs us → AllRA ρ nb I w ys vs → AllRA ρ nb I w (putAt xs off ys) (Go.Proofs.Ytifapodobhkdcaa.putAt us off vs) := by
  induction ys generalizing vs with
  | nil =>
    intro xs us off h h2
    have : vs = [] := List.eq_nil_of_length_eq_zero (by rw [← h2.1]; rfl)
    subst this; exact h
  | cons y ys ih =>
    intro xs us off h h2
    cases vs with
    | nil => have := h2.1; simp at this
    | cons v vs =>
      exact ih (off + 1) (h.set off (h2.2.2 0 y v rfl rfl) (h2.2.1 v (by simp))) ⟨by have := h2.1; simpa using this, fun u hu => h2.2.1 u (by simp [hu]), fun j d u h3 h4 => h2.2.2 (j + 1) d u (by simpa using h3) (by simpa using h4)⟩
/-- stores into a row of the call's own -/
theorem run_storeOwn {base : Nat} {e : TypeId} {size g cap n : Nat} : ∀ (vs : List Value) (i off : Nat) (us : List Value) (w : World), w.ownsRow base e size (sv (some (g, cap)) n) n us → off + i + vs.length ≤ us.length → (∀ u ∈ vs, u.oneCell' = true) →
    ∃ w', (storeCells ⟨g, off, none⟩ vs i).run P w = .ok () w' ∧ w'.ownsRow base e size (sv (some (g, cap)) n) n (putAt us (off + i) vs) ∧ w.grownBy w' (some g)
  | [], i, off, us, w, ho, _, _ => ⟨w, by simp [storeCells], ho, ⟨rfl, rfl, rfl, Nat.le_refl _, fun _ _ _ => rfl⟩⟩
  | v :: vs, i, off, us, w, ho, hl, h1 => by
    simp only [List.length_cons] at hl
    have hadd : (⟨g, off, none⟩ : Addr).add i = ⟨g, off + i, none⟩ := Addr.add_mid _ _ _
    have hcell : w.cell? ⟨g, off + i, none⟩ = some us[off + i] := by
      have := ownsRow_lies ho (off + i) us[off + i] (List.getElem?_eq_getElem (by omega))
      rwa [Nat.zero_add] at this
    have hfro : w.frozen? ⟨g, off + i, none⟩ = false := ho.frozenAt (off + i)
    have hst : (store ((⟨g, off, none⟩ : Addr).add i) v).run P w = .ok () (w.setCell ⟨g, off + i, none⟩ v) := by
      rw [hadd, run_store P w _ v _ (h1 v (by simp)), hcell]
      simp [hfro]
    obtain ⟨h2, h3⟩ := World.ownsRow.stored ho (off + i) v
    obtain ⟨w', h4, h5, h6⟩ := run_storeOwn vs (i + 1) off (us.set (off + i) v) _ h2 (by simp; omega) (fun u hu => h1 u (by simp [hu]))
    exact ⟨w', by simp [storeCells, hst, h4], h5, grown_trans h3 h6⟩
theorem G.stored (g : G w0 I0 ⟨nb, sz, tmp, mem⟩ ρ I a w) {b gb cap : Nat} {m : M} (hm : getM b mem = some m) (hρ : ρ b = some (gb, cap)) {ys : List D} {us' : List Value} {off : Nat} (hgr : w.grownBy w' (some gb)) {us vs : List Value}
    (hx : AllRA ρ nb I w m.xs us) (hy : AllRA ρ nb I w ys vs) (ho : w'.ownsRow w0.heap.size m.ty m.size (sv (some (gb, cap)) m.n) m.n (putAt us off vs)) : G w0 I0 ⟨nb, sz, tmp, (b, some ⟨m.ty, m.size, m.n, putAt m.xs off ys⟩) :: mem⟩ ρ I a w' := by
  obtain ⟨h1, _, hn⟩ := (g.mem b m hm).parts
  have hlt := (g.mem b m hm).lt hρ
  have hw : ∀ b, I b → w'.heap[b]? = w.heap[b]? := fun b hb => hgr.block b (g.lt b hb) (fun e => by cases e; exact hn gb cap hρ hb)
  have hmem : ∀ b' m', getM b' ((b, some ⟨m.ty, m.size, m.n, putAt m.xs off ys⟩) :: mem) = some m' → (b' = b ∧ m' = ⟨m.ty, m.size, m.n, putAt m.xs off ys⟩) ∨ (b' ≠ b ∧ getM b' mem = some m') := by
    intro b' m' h
    have h' : cond (Nat.beq b b') (some ⟨m.ty, m.size, m.n, putAt m.xs off ys⟩) (getM b' mem) = some m' := h
    cases hb : Nat.beq b b' with
    | true => rw [hb] at h'; cases h'; exact .inl ⟨(Nat.eq_of_beq_eq_true hb).symm, rfl⟩
    | false => rw [hb] at h'; exact .inr ⟨fun e => Nat.ne_of_beq_eq_false hb e.symm, h'⟩
  refine ⟨Below.grown g.later hgr (Below.size g.later) (fun k hk => by cases hk; exact hlt.1), fun b hb => Nat.lt_of_lt_of_le (g.lt b hb) hgr.size, g.base, g.old, g.defers, g.sz, fun t d h => (g.tmp t d h).move (Nat.le_refl _) (fun _ h => h) hw, fun b' m' hm' => ?_, fun b1 m1 b2 m2 h1 h2 => ?_⟩
  · rcases hmem b' m' hm' with ⟨rfl, rfl⟩ | ⟨hne, h⟩
    · exact MemOk.mk' h1 (us := putAt us off vs) (by rw [hρ]; exact ho) ((AllRA.putAt off hx hy).move (Nat.le_refl _) (fun _ h => h) hw) hn
    · obtain ⟨h3, ⟨vs', ho', hx'⟩, hn'⟩ := (g.mem b' m' h).parts
      refine MemOk.mk' h3 (us := vs') (ho'.kept hgr ?_) (hx'.move (Nat.le_refl _) (fun _ h => h) hw) hn'
      cases hρ' : ρ b' with
      | none => left; rfl
      | some kc => right; intro hh; obtain ⟨k, c⟩ := kc; cases hh; exact hne (g.inj b' m' b m h hm _ _ _ hρ' hρ)
  · have e1 : ∃ m, getM b1 mem = some m := by
      rcases hmem b1 m1 h1 with ⟨rfl, _⟩ | ⟨_, h⟩
      · exact ⟨m, hm⟩
      · exact ⟨_, h⟩
    have e2 : ∃ m, getM b2 mem = some m := by
      rcases hmem b2 m2 h2 with ⟨rfl, _⟩ | ⟨_, h⟩
      · exact ⟨m, hm⟩
      · exact ⟨_, h⟩
    obtain ⟨n1, e1⟩ := e1
    obtain ⟨n2, e2⟩ := e2
    exact g.inj b1 n1 b2 n2 e1 e2
theorem T_store {b off k' : Nat} {m : M} {d : D} {ys xs' : List D} (hx : St.ev ⟨nb, sz, tmp, mem⟩ x = some (.ptr b off)) (hy : St.ev ⟨nb, sz, tmp, mem⟩ y = some d) (hm : getM b mem = some m) (hg : St.guard ⟨nb, sz, tmp, mem⟩ ops ⟨none, .store T' x y, ty, pos, af, gd⟩ = some true)
    (hs : (P.info? T').map (·.size) = some k') (hd : cellD d = true) (hf : flatD d = ys) (hk : ys.length = k') (hl : Nat.ble (off + k') m.xs.length = true) (hp : putAt m.xs off ys = xs')
    (k : T P ops rest ⟨nb, sz, tmp, (b, some ⟨m.ty, m.size, m.n, xs'⟩) :: mem⟩ K) : T P ops (⟨none, .store T' x y, ty, pos, af, gd⟩ :: rest) ⟨nb, sz, tmp, mem⟩ K :=
  T_of_wp hg fun w0 I0 ρ I a w Q next g hk' q => by
    subst hf
    subst hp
    have hl := Nat.le_of_ble_eq_true hl
    obtain ⟨h1, ⟨us, ho, hxs⟩, hn⟩ := (g.mem b m hm).parts
    have hv := (g.ev hy).flat hd
    have hxv := g.ev hx
    generalize hxe : a.eval x = v at hxv
    cases hxv with
    | im h => cases h
    | ptr hb hρ =>
      rename_i gb cap
      rw [hρ] at ho
      have hlen : (a.eval y).cells.toList.length = k' := by rw [← hv.1]; exact hk
      obtain ⟨w', h4, h5, h6⟩ := run_storeOwn (P := P) (a.eval y).cells.toList 0 off us w ho (by rw [hlen, ← hxs.1]; omega) hv.2.1
      have hr : (execOp a.eval ⟨none, .store T' x y, ty, pos, af, gd⟩).run P w = .ok .skip w' := by
        have hlen' : (a.eval y).cells.size = k' := by rw [← Array.length_toList]; exact hlen
        simp [execOp, hxe, Instr.storeAt, Instr.sureAddr, storeVar, run_sizeOf' hs, hlen', h4]
      unfold Oper.wp; rw [hr]
      exact hk' _ _ (k.h w0 I0 ρ I _ _ Q (g.stored (us' := []) hm hρ h6 hxs hv h5) q)
theorem T_storeOne1 {b off sz' n' : Nat} {ty' : TypeId} {d e1 : D} {xs : List D} (hx : St.ev ⟨nb, sz, tmp, mem⟩ x = some (.ptr b off)) (hy : St.ev ⟨nb, sz, tmp, mem⟩ y = some d) (hm : getM b mem = some ⟨ty', sz', n', xs⟩) (hp : xs.set off d = [e1]) (hg : St.guard ⟨nb, sz, tmp, mem⟩ ops ⟨none, .store T' x y, ty, pos, af, gd⟩ = some true)
    (hs : (P.info? T').map (·.size) = some 1) (hd : oneD d = true) (hl : Nat.ble (off + 1) xs.length = true)
    (k : T P ops rest ⟨nb, sz, tmp, (b, some ⟨ty', sz', n', [e1]⟩) :: mem⟩ K) : T P ops (⟨none, .store T' x y, ty, pos, af, gd⟩ :: rest) ⟨nb, sz, tmp, mem⟩ K :=
  T_store hx hy hm hg hs (by cases d <;> first | exact hd | rfl) (ys := [d]) (by cases d <;> first | rfl | cases hd) rfl hl hp k
theorem T_storeOne2 {b off sz' n' : Nat} {ty' : TypeId} {d e1 e2 : D} {xs : List D} (hx : St.ev ⟨nb, sz, tmp, mem⟩ x = some (.ptr b off)) (hy : St.ev ⟨nb, sz, tmp, mem⟩ y = some d) (hm : getM b mem = some ⟨ty', sz', n', xs⟩) (hp : xs.set off d = [e1, e2]) (hg : St.guard ⟨nb, sz, tmp, mem⟩ ops ⟨none, .store T' x y, ty, pos, af, gd⟩ = some true)
    (hs : (P.info? T').map (·.size) = some 1) (hd : oneD d = true) (hl : Nat.ble (off + 1) xs.length = true)
    (k : T P ops rest ⟨nb, sz, tmp, (b, some ⟨ty', sz', n', [e1, e2]⟩) :: mem⟩ K) : T P ops (⟨none, .store T' x y, ty, pos, af, gd⟩ :: rest) ⟨nb, sz, tmp, mem⟩ K :=
  T_store hx hy hm hg hs (by cases d <;> first | exact hd | rfl) (ys := [d]) (by cases d <;> first | rfl | cases hd) rfl hl hp k
theorem T_storeOne3 {b off sz' n' : Nat} {ty' : TypeId} {d e1 e2 e3 : D} {xs : List D} (hx : St.ev ⟨nb, sz, tmp, mem⟩ x = some (.ptr b off)) (hy : St.ev ⟨nb, sz, tmp, mem⟩ y = some d) (hm : getM b mem = some ⟨ty', sz', n', xs⟩) (hp : xs.set off d = [e1, e2, e3]) (hg : St.guard ⟨nb, sz, tmp, mem⟩ ops ⟨none, .store T' x y, ty, pos, af, gd⟩ = some true)
    (hs : (P.info? T').map (·.size) = some 1) (hd : oneD d = true) (hl : Nat.ble (off + 1) xs.length = true)
    (k : T P ops rest ⟨nb, sz, tmp, (b, some ⟨ty', sz', n', [e1, e2, e3]⟩) :: mem⟩ K) : T P ops (⟨none, .store T' x y, ty, pos, af, gd⟩ :: rest) ⟨nb, sz, tmp, mem⟩ K :=
  T_store hx hy hm hg hs (by cases d <;> first | exact hd | rfl) (ys := [d]) (by cases d <;> first | rfl | cases hd) rfl hl hp k
theorem T_storeOne4 {b off sz' n' : Nat} {ty' : TypeId} {d e1 e2 e3 e4 : D} {xs : List D} (hx : St.ev ⟨nb, sz, tmp, mem⟩ x = some (.ptr b off)) (hy : St.ev ⟨nb, sz, tmp, mem⟩ y = some d) (hm : getM b mem = some ⟨ty', sz', n', xs⟩) (hp : xs.set off d = [e1, e2, e3, e4]) (hg : St.guard ⟨nb, sz, tmp, mem⟩ ops ⟨none, .store T' x y, ty, pos, af, gd⟩ = some true)
    (hs : (P.info? T').map (·.size) = some 1) (hd : oneD d = true) (hl : Nat.ble (off + 1) xs.length = true)
    (k : T P ops rest ⟨nb, sz, tmp, (b, some ⟨ty', sz', n', [e1, e2, e3, e4]⟩) :: mem⟩ K) : T P ops (⟨none, .store T' x y, ty, pos, af, gd⟩ :: rest) ⟨nb, sz, tmp, mem⟩ K :=
  T_store hx hy hm hg hs (by cases d <;> first | exact hd | rfl) (ys := [d]) (by cases d <;> first | rfl | cases hd) rfl hl hp k
theorem T_storeOne {b off sz' n' : Nat} {ty' : TypeId} {d : D} {xs xs' : List D} (hx : St.ev ⟨nb, sz, tmp, mem⟩ x = some (.ptr b off)) (hy : St.ev ⟨nb, sz, tmp, mem⟩ y = some d) (hm : getM b mem = some ⟨ty', sz', n', xs⟩) (hg : St.guard ⟨nb, sz, tmp, mem⟩ ops ⟨none, .store T' x y, ty, pos, af, gd⟩ = some true)
    (hs : (P.info? T').map (·.size) = some 1) (hd : oneD d = true) (hl : off + 1 ≤ xs.length) (hp : xs.set off d = xs')
    (k : T P ops rest ⟨nb, sz, tmp, (b, some ⟨ty', sz', n', xs'⟩) :: mem⟩ K) : T P ops (⟨none, .store T' x y, ty, pos, af, gd⟩ :: rest) ⟨nb, sz, tmp, mem⟩ K :=
  T_store hx hy hm hg hs (by cases d <;> first | exact hd | rfl) (ys := [d]) (by cases d <;> first | rfl | cases hd) rfl (Nat.ble_eq_true_of_le hl) hp k
theorem T_storeAll {b sz' n' k' : Nat} {ty' : TypeId} {xs ys : List D} (hx : St.ev ⟨nb, sz, tmp, mem⟩ x = some (.ptr b 0)) (hy : St.ev ⟨nb, sz, tmp, mem⟩ y = some (.agg ys)) (hm : getM b mem = some ⟨ty', sz', n', xs⟩) (hg : St.guard ⟨nb, sz, tmp, mem⟩ ops ⟨none, .store T' x y, ty, pos, af, gd⟩ = some true)
    (hs : (P.info? T').map (·.size) = some k') (hk : ys.length = k') (hl : Nat.beq xs.length k' = true)
    (k : T P ops rest ⟨nb, sz, tmp, (b, some ⟨ty', sz', n', ys⟩) :: mem⟩ K) : T P ops (⟨none, .store T' x y, ty, pos, af, gd⟩ :: rest) ⟨nb, sz, tmp, mem⟩ K := by
  have hl := Nat.eq_of_beq_eq_true hl
  refine T_store hx hy hm hg hs rfl rfl hk (Nat.ble_eq_true_of_le (by rw [Nat.zero_add]; exact Nat.le_of_eq hl.symm)) ?_ k
  have key : ∀ (ys xs pre : List D), xs.length = ys.length → putAt (pre ++ xs) pre.length ys = pre ++ ys := by
    intro ys
    induction ys with
    | nil => intro xs pre h; have : xs = [] := List.eq_nil_of_length_eq_zero h; subst this; rfl
    | cons y ys ih =>
      intro xs pre h
      cases xs with
      | nil => cases h
      | cons x xs =>
        rw [putAt]
        have e : (pre ++ x :: xs).set pre.length y = (pre ++ [y]) ++ xs := by
          rw [List.set_append_right _ _ (Nat.le_refl _), Nat.sub_self]; simp
        have := ih xs (pre ++ [y]) (by simpa using h)
        rw [e]
        simpa using this
  exact key ys xs [] (by rw [hl, hk])
end
end Go.Proofs.Ytifapodobhkdcaa
