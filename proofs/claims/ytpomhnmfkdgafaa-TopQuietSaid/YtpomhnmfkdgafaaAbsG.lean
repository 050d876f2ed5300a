/- The abstract machine: a region that draws its order, whose operations but a tail leave what is known (no program in sight). -/
import Derived.Test.YtpomhnmfkdgafaaAbsC
import Derived.Laws.Tables
import Derived.Great.BuildSlice
namespace Go.Proofs.Ytpomhnmfkdgafaa
open Go.RowKit
set_option linter.unusedVariables false
set_option linter.unusedSimpArgs false
theorem RA.grow {ρ ρ' : Rho} {nb nb' : Nat} {I : Nat → Prop} {w : World} {d : D} {v : Value} (h : RA ρ nb I w d v) (hn : nb ≤ nb') (hp : ∀ b, b < nb → ρ' b = ρ b) : RA ρ' nb' I w d v := by
  induction h with
  | im h => exact .im h
  | ptr hb h => exact .ptr (Nat.lt_of_lt_of_le hb hn) (by rw [hp _ hb]; exact h)
  | own hb h => rw [← hp _ hb] at h ⊢; exact .own (Nat.lt_of_lt_of_le hb hn) h
  | pin hb h => exact .pin (Nat.lt_of_lt_of_le hb hn) (by rw [hp _ hb]; exact h)
  | agg hl ho hr ih => exact .agg hl ho ih
  | tup hl hr ih => exact .tup hl ih
  | fn hl hk hr hq ih ih2 => exact .fn hl hk ih ih2
theorem AllRA.grow {ρ ρ' : Rho} {nb nb' : Nat} {I : Nat → Prop} {w : World} {xs : List D} {us : List Value} (h : AllRA ρ nb I w xs us) (hn : nb ≤ nb') (hp : ∀ b, b < nb → ρ' b = ρ b) : AllRA ρ' nb' I w xs us :=
  ⟨h.1, h.2.1, fun j d u a b => (h.2.2 j d u a b).grow hn hp⟩
theorem AllRA.move {ρ : Rho} {nb nb' : Nat} {I I' : Nat → Prop} {w w' : World} {xs : List D} {us : List Value} (h : AllRA ρ nb I w xs us) (hn : nb ≤ nb') (hI : ∀ b, I b → I' b) (hw : ∀ b, I b → w'.heap[b]? = w.heap[b]?) : AllRA ρ nb' I' w' xs us :=
  ⟨h.1, h.2.1, fun j d u a b => (h.2.2 j d u a b).move hn hI hw⟩
def upd (ρ : Rho) (nb : Nat) (x : Option (Nat × Nat)) : Rho := fun b => if b = nb then x else ρ b
theorem upd_same (ρ : Rho) (nb : Nat) (x : Option (Nat × Nat)) : upd ρ nb x nb = x := if_pos rfl
theorem upd_other (ρ : Rho) {nb b : Nat} (x : Option (Nat × Nat)) (h : b < nb) : upd ρ nb x b = ρ b := if_neg (by omega)
section
variable {P : Program} {ops : Array Oper} {o : Oper} {rest : List Oper} {x y : Operand} {T' : TypeId} {w0 : World} {I0 : Bs} {ρ : Rho} {I : Nat → Prop} {a : Act} {w w' : World} {K : St → Prop}
variable {nb sz : Nat} {tmp : List (Nat × D)} {mem : List (Nat × Option M)} {t : Nat} {op : Op} {ty : TypeId} {pos : String} {af : Array Edge} {gd : Option (Nat × Bool)}
theorem MemOk.parts {b : Nat} {m : M} (h : MemOk w0 ρ nb I w b m) : b < nb ∧ (∃ us, w.ownsRow w0.heap.size m.ty m.size (sv (ρ b) m.n) m.n us ∧ AllRA ρ nb I w m.xs us) ∧ ∀ g cap, ρ b = some (g, cap) → ¬ I g := by
  obtain ⟨h1, ⟨us, ho, hl, h1c, hr⟩, hn⟩ := h
  exact ⟨h1, ⟨us, ho, hl, h1c, hr⟩, hn⟩
theorem MemOk.mk' {b : Nat} {m : M} {us : List Value} (h1 : b < nb) (ho : w.ownsRow w0.heap.size m.ty m.size (sv (ρ b) m.n) m.n us) (hx : AllRA ρ nb I w m.xs us) (hn : ∀ g cap, ρ b = some (g, cap) → ¬ I g) : MemOk w0 ρ nb I w b m :=
  ⟨h1, ⟨us, ho, hx.1, hx.2.1, hx.2.2⟩, hn⟩
/-- a row's block, if it has one -/
theorem MemOk.lt {b : Nat} {m : M} (h : MemOk w0 ρ nb I w b m) {g c : Nat} (hg : ρ b = some (g, c)) : w0.heap.size ≤ g ∧ g < w.heap.size := by
  obtain ⟨_, ⟨us, ho, _⟩, _⟩ := h.parts
  exact ho.lt g (by rw [hg]; rfl)
/-- a row dealt a new number, where the world has turned at most in that row's elder block -/
theorem G.renew (g : G w0 I0 ⟨nb, sz, tmp, mem⟩ ρ I a w) (m' : M) (mem' : List (Nat × Option M)) (pl : Option (Nat × Nat)) (row : Option Nat) {us : List Value} (hgr : w.grownBy w' row) (hrow : ∀ k, row = some k → w0.heap.size ≤ k ∧ ¬ I k)
    (hsub : ∀ b m, getM b mem' = some m → getM b mem = some m ∧ ∀ k c, ρ b = some (k, c) → row ≠ some k)
    (hnew : ∀ b m k c c', getM b mem' = some m → ρ b = some (k, c) → pl = some (k, c') → False) (hpl : ∀ k c, pl = some (k, c) → ¬ I k)
    (ho : w'.ownsRow w0.heap.size m'.ty m'.size (sv pl m'.n) m'.n us) (hx : AllRA ρ nb I w m'.xs us) : G w0 I0 ⟨nb + 1, sz, tmp, (nb, some m') :: mem'⟩ (upd ρ nb pl) I a w' := by
  have hup : ∀ b, b < nb → upd ρ nb pl b = ρ b := fun b hb => upd_other ρ pl hb
  have hw : ∀ b, I b → w'.heap[b]? = w.heap[b]? := fun b hb => hgr.block b (g.lt b hb) (fun e => (hrow b e.symm).2 hb)
  have hlater : Later w0 w' := Below.grown g.later hgr (Below.size g.later) (fun k hk => (hrow k hk).1)
  have hmem : ∀ b m, getM b ((nb, some m') :: mem') = some m → (b = nb ∧ m = m') ∨ (b ≠ nb ∧ getM b mem' = some m) := by
    intro b m h
    have h' : cond (Nat.beq nb b) (some m') (getM b mem') = some m := h
    cases hb : Nat.beq nb b with
    | true => rw [hb] at h'; cases h'; exact .inl ⟨(Nat.eq_of_beq_eq_true hb).symm, rfl⟩
    | false => rw [hb] at h'; exact .inr ⟨fun e => Nat.ne_of_beq_eq_false hb e.symm, h'⟩
  refine ⟨hlater, fun b hb => Nat.lt_of_lt_of_le (g.lt b hb) hgr.size, g.base, fun b hb => ⟨(g.old b hb).1, by rw [hw b (g.old b hb).1]; exact (g.old b hb).2⟩, g.defers, g.sz, fun t d h => ((g.tmp t d h).grow (Nat.le_succ _) hup).move (Nat.le_refl _) (fun _ h => h) hw, fun b m hm => ?_, fun b m b' m1 hm hm1 k c c' hk hk' => ?_⟩
  · rcases hmem b m hm with ⟨rfl, rfl⟩ | ⟨hne, h⟩
    · refine MemOk.mk' (Nat.lt_succ_self _) (us := us) (by rw [upd_same]; exact ho) ((hx.grow (Nat.le_succ _) hup).move (Nat.le_refl _) (fun _ h => h) hw) fun k c hk => ?_
      rw [upd_same] at hk
      exact hpl k c hk
    · obtain ⟨h1, h2⟩ := hsub b m h
      obtain ⟨h3, ⟨vs, ho', hx'⟩, hn'⟩ := (g.mem b m h1).parts
      have e := hup b h3
      refine MemOk.mk' (Nat.lt_succ_of_lt h3) (us := vs) ?_ ((hx'.grow (Nat.le_succ _) hup).move (Nat.le_refl _) (fun _ h => h) hw) fun k c hk => by rw [e] at hk; exact hn' k c hk
      rw [e]
      refine ho'.kept hgr ?_
      cases hρ : ρ b with
      | none => left; rfl
      | some kc => right; intro hh; exact h2 kc.1 kc.2 hρ hh.symm
  · rcases hmem b m hm with ⟨rfl, rfl⟩ | ⟨hne, h⟩ <;> rcases hmem b' m1 hm1 with ⟨rfl, rfl⟩ | ⟨hne', h'⟩
    · rfl
    · rw [upd_same] at hk
      have hlt := (g.mem b' m1 (hsub b' m1 h').1).parts.1
      rw [hup b' hlt] at hk'
      exact (hnew b' m1 k c' c h' hk' hk).elim
    · rw [upd_same] at hk'
      have hlt := (g.mem b m (hsub b m h).1).parts.1
      rw [hup b hlt] at hk
      exact (hnew b m k c c' h hk hk').elim
    · have h1 := (hsub b m h).1
      have h1' := (hsub b' m1 h').1
      rw [hup b (g.mem b m h1).parts.1] at hk
      rw [hup b' (g.mem b' m1 h1').parts.1] at hk'
      exact g.inj b m b' m1 h1 h1' k c c' hk hk'
/-- a new block -/
theorem G.fresh (g : G w0 I0 ⟨nb, sz, tmp, mem⟩ ρ I a w) {cs : Array Value} {xs : List D} {e : TypeId} {size n : Nat} (hcs : cs.size = n * size) (hn : n ≤ maxLen) (hx : AllRA ρ nb I w xs cs.toList) :
    G w0 I0 ⟨nb + 1, sz, tmp, (nb, some ⟨e, size, n, xs⟩) :: mem⟩ (upd ρ nb (some (w.heap.size, n))) I a (w.alloc (.cells cs e)) := by
  refine g.renew ⟨e, size, n, xs⟩ mem (some (w.heap.size, n)) none (us := cs.toList) (World.grownBy_alloc w _ none) (fun k hk => by cases hk) (fun b m h => ⟨h, fun k c _ hh => by cases hh⟩) (fun b m k c c' h hk hk' => ?_) (fun k c hk hI => ?_) (World.ownsRow_lit w cs n (Below.size g.later) hn hcs) hx
  · have := ((g.mem b m h).lt hk).2
    simp only [Option.some.injEq, Prod.mk.injEq] at hk'
    omega
  · have := g.lt k hI
    simp only [Option.some.injEq, Prod.mk.injEq] at hk
    omega
theorem G.fresh_ptr (ρ : Rho) (nb : Nat) (I : Nat → Prop) (w w' : World) (n : Nat) : RA (upd ρ nb (some (w.heap.size, n))) (nb + 1) I w' (.ptr nb 0) (.pointer (some ⟨w.heap.size, 0, none⟩)) :=
  .ptr (Nat.lt_succ_self _) (upd_same ρ nb _)
theorem G.fresh_own (ρ : Rho) (nb : Nat) (I : Nat → Prop) (w w' : World) (n : Nat) : RA (upd ρ nb (some (w.heap.size, n))) (nb + 1) I w' (.own nb n) (.slice (some ⟨w.heap.size, 0, none⟩) n n) := by
  have h := RA.own (ρ := upd ρ nb (some (w.heap.size, n))) (nb := nb + 1) (I := I) (w := w') (b := nb) (n := n) (Nat.lt_succ_self _) (fun h => by rw [upd_same] at h; cases h)
  rw [upd_same] at h
  exact h
theorem allRA_vals {zs : List Value} (h : zs.all (·.oneCell') = true) : AllRA ρ nb I w (zs.map D.val) zs := by
  have h1 : ∀ u ∈ zs, u.oneCell' = true := List.all_eq_true.1 h
  refine ⟨by simp, h1, fun j d u hj hu => ?_⟩
  simp only [List.getElem?_map, hu, Option.map_some, Option.some.injEq] at hj
  subst hj
  exact .im (.val _ (h1 u (List.mem_of_getElem? hu)))
theorem T_alloc {kz : Nat} {zs : List Value} {zd : List D} [hz : TyZero P T' kz zs zd] (hg : St.guard ⟨nb, sz, tmp, mem⟩ ops ⟨some t, .alloc T', ty, pos, af, gd⟩ = some true) (ht : Nat.blt t sz = true)
    (k : T P ops rest ⟨nb + 1, sz, (t, .ptr nb 0) :: tmp, (nb, some ⟨T', kz, 1, zd⟩) :: mem⟩ K) : T P ops (⟨some t, .alloc T', ty, pos, af, gd⟩ :: rest) ⟨nb, sz, tmp, mem⟩ K :=
  T_of_wp hg fun w0 I0 ρ I a w Q next g hk q => by
    obtain ⟨i, z, h1, h2, h3, h4⟩ := hz.info
    have hr : (execOp a.eval ⟨some t, .alloc T', ty, pos, af, gd⟩).run P w = .ok (.value (.pointer (some ⟨w.heap.size, 0, none⟩))) (w.alloc (.cells z.cells T')) := by
      simp [execOp, Instr.alloc, zeroValue, typeInfo, h1, h2, newVar, newRow, newObj]
      rfl
    unfold Oper.wp; rw [hr]
    have hx : AllRA ρ nb I w zd z.cells.toList := by rw [h3, ← hz.data]; exact allRA_vals hz.one
    have g2 := g.fresh (cs := z.cells) (e := T') (size := kz) (n := 1) (by rw [← Array.length_toList, h3, hz.len]; simp) (by unfold maxLen; omega) hx
    exact hk _ _ (k.h w0 I0 _ I _ _ Q (g2.put (by simpa using ht) (G.fresh_ptr ρ nb I w _ 1)) q)
def flatD : D → List D
  | .agg ds => ds
  | d => [d]
def oneD : D → Bool
  | .tup _ | .agg _ | .junk => false
  | _ => true
theorem RA.one {d : D} {v : Value} (h : RA ρ nb I w d v) (hd : oneD d = true) : v.oneCell' = true := by
  cases h with
  | im h => cases h with
    | val _ h => exact h
    | junk => cases hd
    | agg => cases hd
    | tup => cases hd
    | _ => rfl
  | own hb h => cases ρ _ <;> rfl
  | agg => cases hd
  | tup => cases hd
  | _ => rfl
def cellD : D → Bool
  | .agg _ => true
  | d => oneD d
theorem RA.flat {d : D} {v : Value} (h : RA ρ nb I w d v) (hd : cellD d = true) : AllRA ρ nb I w (flatD d) v.cells.toList := by
  by_cases ha : ∃ ds, d = .agg ds
  · obtain ⟨ds, rfl⟩ := ha
    obtain ⟨us, rfl, h1, h2, h3⟩ := h.cells
    exact ⟨h1, h2, h3⟩
  · have h1 : flatD d = [d] := by cases d <;> first | rfl | exact absurd ⟨_, rfl⟩ ha
    have h2 : oneD d = true := by cases d <;> first | exact hd | exact absurd ⟨_, rfl⟩ ha
    have h3 := h.one h2
    have h4 : v.cells.toList = [v] := by cases v <;> first | rfl | cases h3
    rw [h1, h4]
    refine ⟨rfl, fun u hu => by simp at hu; subst hu; exact h3, fun j e u hj hu => ?_⟩
    cases j with
    | zero => simp at hj hu; subst hj; subst hu; exact h
    | succ j => simp at hj
theorem T_box {d : D} {kz : Nat} {ys : List D} (hx : St.ev ⟨nb, sz, tmp, mem⟩ x = some d) (hg : St.guard ⟨nb, sz, tmp, mem⟩ ops ⟨some t, .box T' x, ty, pos, af, gd⟩ = some true) (ht : Nat.blt t sz = true) (hd : cellD d = true) (hf : flatD d = ys) (hkz : ys.length = kz)
    (k : T P ops rest ⟨nb + 1, sz, (t, .ptr nb 0) :: tmp, (nb, some ⟨T', kz, 1, ys⟩) :: mem⟩ K) : T P ops (⟨some t, .box T' x, ty, pos, af, gd⟩ :: rest) ⟨nb, sz, tmp, mem⟩ K :=
  T_of_wp hg fun w0 I0 ρ I a w Q next g hk q => by
    have hr : (execOp a.eval ⟨some t, .box T' x, ty, pos, af, gd⟩).run P w = .ok (.value (.pointer (some ⟨w.heap.size, 0, none⟩))) (w.alloc (.cells (a.eval x).cells T')) := by
      simp [execOp, Instr.box, newVar, newRow, newObj]
      rfl
    unfold Oper.wp; rw [hr]
    subst hf
    have hx := (g.ev hx).flat hd
    have g2 := g.fresh (cs := (a.eval x).cells) (e := T') (size := kz) (n := 1) (by rw [← Array.length_toList, ← hx.1, hkz]; simp) (by unfold maxLen; omega) hx
    exact hk _ _ (k.h w0 I0 _ I _ _ Q (g2.put (by simpa using ht) (G.fresh_ptr ρ nb I w _ 1)) q)
theorem T_boxAgg {ys : List D} {kz : Nat} (hx : St.ev ⟨nb, sz, tmp, mem⟩ x = some (.agg ys)) (hg : St.guard ⟨nb, sz, tmp, mem⟩ ops ⟨some t, .box T' x, ty, pos, af, gd⟩ = some true) (ht : Nat.blt t sz = true) (hs : (P.info? T').map (·.size) = some kz) (hk : ys.length = kz)
    (k : T P ops rest ⟨nb + 1, sz, (t, .ptr nb 0) :: tmp, (nb, some ⟨T', kz, 1, ys⟩) :: mem⟩ K) : T P ops (⟨some t, .box T' x, ty, pos, af, gd⟩ :: rest) ⟨nb, sz, tmp, mem⟩ K := T_box hx hg ht rfl rfl hk k
theorem T_boxOne {d : D} (hx : St.ev ⟨nb, sz, tmp, mem⟩ x = some d) (hg : St.guard ⟨nb, sz, tmp, mem⟩ ops ⟨some t, .box T' x, ty, pos, af, gd⟩ = some true) (ht : Nat.blt t sz = true) (hd : oneD d = true)
    (k : T P ops rest ⟨nb + 1, sz, (t, .ptr nb 0) :: tmp, (nb, some ⟨T', 1, 1, [d]⟩) :: mem⟩ K) : T P ops (⟨some t, .box T' x, ty, pos, af, gd⟩ :: rest) ⟨nb, sz, tmp, mem⟩ K :=
  T_box hx hg ht (by cases d <;> first | exact hd | rfl) (ys := [d]) (by cases d <;> first | rfl | cases hd) rfl k
/-! ### stores -/
def putAt {α : Type} (xs : List α) (off : Nat) : List α → List α
  | [] => xs
  | y :: ys => putAt (xs.set off y) (off + 1) ys
theorem putAt_length {α : Type} : ∀ (ys xs : List α) (off : Nat), (putAt xs off ys).length = xs.length
  | [], _, _ => rfl
  | y :: ys, xs, off => by rw [putAt, putAt_length ys]; simp
theorem AllRA.set {xs : List D} {us : List Value} (h : AllRA ρ nb I w xs us) {d : D} {u : Value} (j : Nat) (hd : RA ρ nb I w d u) (hu : u.oneCell' = true) : AllRA ρ nb I w (xs.set j d) (us.set j u) := by
  refine ⟨by simp [h.1], fun v hv => ?_, fun i e v h1 h2 => ?_⟩
  · rcases List.mem_or_eq_of_mem_set hv with h' | h'
    · exact h.2.1 v h'
    · subst h'; exact hu
  · rw [List.getElem?_set] at h1 h2
    by_cases hij : j = i
    · subst hij
      by_cases hl : j < xs.length
      · rw [if_pos rfl, if_pos hl] at h1
        rw [if_pos rfl, if_pos (by rw [← h.1]; exact hl)] at h2
        cases h1; cases h2; exact hd
      · rw [if_pos rfl, if_neg hl] at h1; cases h1
    · rw [if_neg hij] at h1 h2; exact h.2.2 i e v h1 h2
theorem AllRA.putAt {ys : List D} {vs : List Value} : ∀ {xs : List D} {us : List Value} (off : Nat), AllRA ρ nb I w xs us → AllRA ρ nb I w ys vs → AllRA ρ nb I w (putAt xs off ys) (Go.Proofs.Ytpomhnmfkdgafaa.putAt us off vs) := by
  induction ys generalizing vs with
  | nil =>
    intro xs us off h h2
    have : vs = [] := List.eq_nil_of_length_eq_zero (by rw [← h2.1]; rfl)
    subst this; exact h
  | cons y ys ih =>
    intro xs us off h h2
    cases vs with
    | nil => have := h2.1; simp at this
    | cons v vs =>
      exact ih (off + 1) (h.set off (h2.2.2 0 y v rfl rfl) (h2.2.1 v (by simp))) ⟨by have := h2.1; simpa using this, fun u hu => h2.2.1 u (by simp [hu]), fun j d u h3 h4 => h2.2.2 (j + 1) d u (by simpa using h3) (by simpa using h4)⟩
/-- stores into a row of the call's own -/
theorem run_storeOwn {base : Nat} {e : TypeId} {size g cap n : Nat} : ∀ (vs : List Value) (i off : Nat) (us : List Value) (w : World), w.ownsRow base e size (sv (some (g, cap)) n) n us → off + i + vs.length ≤ us.length → (∀ u ∈ vs, u.oneCell' = true) →
    ∃ w', (storeCells ⟨g, off, none⟩ vs i).run P w = .ok () w' ∧ w'.ownsRow base e size (sv (some (g, cap)) n) n (putAt us (off + i) vs) ∧ w.grownBy w' (some g)
  | [], i, off, us, w, ho, _, _ => ⟨w, by simp [storeCells], ho, ⟨rfl, rfl, rfl, Nat.le_refl _, fun _ _ _ => rfl⟩⟩
  | v :: vs, i, off, us, w, ho, hl, h1 => by
    simp only [List.length_cons] at hl
    have hadd : (⟨g, off, none⟩ : Addr).add i = ⟨g, off + i, none⟩ := Addr.add_mid _ _ _
    have hcell : w.cell? ⟨g, off + i, none⟩ = some us[off + i] := by
      have := ownsRow_lies ho (off + i) us[off + i] (List.getElem?_eq_getElem (by omega))
      rwa [Nat.zero_add] at this
    have hfro : w.frozen? ⟨g, off + i, none⟩ = false := ho.frozenAt (off + i)
    have hst : (store ((⟨g, off, none⟩ : Addr).add i) v).run P w = .ok () (w.setCell ⟨g, off + i, none⟩ v) := by
      rw [hadd, run_store P w _ v _ (h1 v (by simp)), hcell]
      simp [hfro]
    obtain ⟨h2, h3⟩ := World.ownsRow.stored ho (off + i) v
    obtain ⟨w', h4, h5, h6⟩ := run_storeOwn vs (i + 1) off (us.set (off + i) v) _ h2 (by simp; omega) (fun u hu => h1 u (by simp [hu]))
    exact ⟨w', by simp [storeCells, hst, h4], h5, grown_trans h3 h6⟩
theorem G.stored (g : G w0 I0 ⟨nb, sz, tmp, mem⟩ ρ I a w) {b gb cap : Nat} {m : M} (hm : getM b mem = some m) (hρ : ρ b = some (gb, cap)) {ys : List D} {us' : List Value} {off : Nat} (hgr : w.grownBy w' (some gb)) {us vs : List Value}
    (hx : AllRA ρ nb I w m.xs us) (hy : AllRA ρ nb I w ys vs) (ho : w'.ownsRow w0.heap.size m.ty m.size (sv (some (gb, cap)) m.n) m.n (putAt us off vs)) : G w0 I0 ⟨nb, sz, tmp, (b, some ⟨m.ty, m.size, m.n, putAt m.xs off ys⟩) :: mem⟩ ρ I a w' := by
  obtain ⟨h1, _, hn⟩ := (g.mem b m hm).parts
  have hlt := (g.mem b m hm).lt hρ
  have hw : ∀ b, I b → w'.heap[b]? = w.heap[b]? := fun b hb => hgr.block b (g.lt b hb) (fun e => by cases e; exact hn gb cap hρ hb)
  have hmem : ∀ b' m', getM b' ((b, some ⟨m.ty, m.size, m.n, putAt m.xs off ys⟩) :: mem) = some m' → (b' = b ∧ m' = ⟨m.ty, m.size, m.n, putAt m.xs off ys⟩) ∨ (b' ≠ b ∧ getM b' mem = some m') := by
    intro b' m' h
    have h' : cond (Nat.beq b b') (some ⟨m.ty, m.size, m.n, putAt m.xs off ys⟩) (getM b' mem) = some m' := h
    cases hb : Nat.beq b b' with
    | true => rw [hb] at h'; cases h'; exact .inl ⟨(Nat.eq_of_beq_eq_true hb).symm, rfl⟩
    | false => rw [hb] at h'; exact .inr ⟨fun e => Nat.ne_of_beq_eq_false hb e.symm, h'⟩
  refine ⟨Below.grown g.later hgr (Below.size g.later) (fun k hk => by cases hk; exact hlt.1), fun b hb => Nat.lt_of_lt_of_le (g.lt b hb) hgr.size, g.base, fun b hb => ⟨(g.old b hb).1, by rw [hw b (g.old b hb).1]; exact (g.old b hb).2⟩, g.defers, g.sz, fun t d h => (g.tmp t d h).move (Nat.le_refl _) (fun _ h => h) hw, fun b' m' hm' => ?_, fun b1 m1 b2 m2 h1 h2 => ?_⟩
  · rcases hmem b' m' hm' with ⟨rfl, rfl⟩ | ⟨hne, h⟩
    · exact MemOk.mk' h1 (us := putAt us off vs) (by rw [hρ]; exact ho) ((AllRA.putAt off hx hy).move (Nat.le_refl _) (fun _ h => h) hw) hn
    · obtain ⟨h3, ⟨vs', ho', hx'⟩, hn'⟩ := (g.mem b' m' h).parts
      refine MemOk.mk' h3 (us := vs') (ho'.kept hgr ?_) (hx'.move (Nat.le_refl _) (fun _ h => h) hw) hn'
      cases hρ' : ρ b' with
      | none => left; rfl
      | some kc => right; intro hh; obtain ⟨k, c⟩ := kc; cases hh; exact hne (g.inj b' m' b m h hm _ _ _ hρ' hρ)
  · have e1 : ∃ m, getM b1 mem = some m := by
      rcases hmem b1 m1 h1 with ⟨rfl, _⟩ | ⟨_, h⟩
      · exact ⟨m, hm⟩
      · exact ⟨_, h⟩
    have e2 : ∃ m, getM b2 mem = some m := by
      rcases hmem b2 m2 h2 with ⟨rfl, _⟩ | ⟨_, h⟩
      · exact ⟨m, hm⟩
      · exact ⟨_, h⟩
    obtain ⟨n1, e1⟩ := e1
    obtain ⟨n2, e2⟩ := e2
    exact g.inj b1 n1 b2 n2 e1 e2
theorem T_store {b off k' : Nat} {m : M} {d : D} {ys xs' : List D} (hx : St.ev ⟨nb, sz, tmp, mem⟩ x = some (.ptr b off)) (hy : St.ev ⟨nb, sz, tmp, mem⟩ y = some d) (hm : getM b mem = some m) (hg : St.guard ⟨nb, sz, tmp, mem⟩ ops ⟨none, .store T' x y, ty, pos, af, gd⟩ = some true)
    (hs : (P.info? T').map (·.size) = some k') (hd : cellD d = true) (hf : flatD d = ys) (hk : ys.length = k') (hl : Nat.ble (off + k') m.xs.length = true) (hp : putAt m.xs off ys = xs')
    (k : T P ops rest ⟨nb, sz, tmp, (b, some ⟨m.ty, m.size, m.n, xs'⟩) :: mem⟩ K) : T P ops (⟨none, .store T' x y, ty, pos, af, gd⟩ :: rest) ⟨nb, sz, tmp, mem⟩ K :=
  T_of_wp hg fun w0 I0 ρ I a w Q next g hk' q => by
    subst hf
    subst hp
    have hl := Nat.le_of_ble_eq_true hl
    obtain ⟨h1, ⟨us, ho, hxs⟩, hn⟩ := (g.mem b m hm).parts
    have hv := (g.ev hy).flat hd
    have hxv := g.ev hx
    generalize hxe : a.eval x = v at hxv
    cases hxv with
    | im h => cases h
    | ptr hb hρ =>
      rename_i gb cap
      rw [hρ] at ho
      have hlen : (a.eval y).cells.toList.length = k' := by rw [← hv.1]; exact hk
      obtain ⟨w', h4, h5, h6⟩ := run_storeOwn (P := P) (a.eval y).cells.toList 0 off us w ho (by rw [hlen, ← hxs.1]; omega) hv.2.1
      have hr : (execOp a.eval ⟨none, .store T' x y, ty, pos, af, gd⟩).run P w = .ok .skip w' := by
        have hlen' : (a.eval y).cells.size = k' := by rw [← Array.length_toList]; exact hlen
        simp [execOp, hxe, Instr.storeAt, Instr.sureAddr, storeVar, run_sizeOf' hs, hlen', h4]
      unfold Oper.wp; rw [hr]
      exact hk' _ _ (k.h w0 I0 ρ I _ _ Q (g.stored (us' := []) hm hρ h6 hxs hv h5) q)
theorem T_storeOne1 {b off sz' n' : Nat} {ty' : TypeId} {d e1 : D} {xs : List D} (hx : St.ev ⟨nb, sz, tmp, mem⟩ x = some (.ptr b off)) (hy : St.ev ⟨nb, sz, tmp, mem⟩ y = some d) (hm : getM b mem = some ⟨ty', sz', n', xs⟩) (hp : xs.set off d = [e1]) (hg : St.guard ⟨nb, sz, tmp, mem⟩ ops ⟨none, .store T' x y, ty, pos, af, gd⟩ = some true)
    (hs : (P.info? T').map (·.size) = some 1) (hd : oneD d = true) (hl : Nat.ble (off + 1) xs.length = true)
    (k : T P ops rest ⟨nb, sz, tmp, (b, some ⟨ty', sz', n', [e1]⟩) :: mem⟩ K) : T P ops (⟨none, .store T' x y, ty, pos, af, gd⟩ :: rest) ⟨nb, sz, tmp, mem⟩ K :=
  T_store hx hy hm hg hs (by cases d <;> first | exact hd | rfl) (ys := [d]) (by cases d <;> first | rfl | cases hd) rfl hl hp k
theorem T_storeOne2 {b off sz' n' : Nat} {ty' : TypeId} {d e1 e2 : D} {xs : List D} (hx : St.ev ⟨nb, sz, tmp, mem⟩ x = some (.ptr b off)) (hy : St.ev ⟨nb, sz, tmp, mem⟩ y = some d) (hm : getM b mem = some ⟨ty', sz', n', xs⟩) (hp : xs.set off d = [e1, e2]) (hg : St.guard ⟨nb, sz, tmp, mem⟩ ops ⟨none, .store T' x y, ty, pos, af, gd⟩ = some true)
    (hs : (P.info? T').map (·.size) = some 1) (hd : oneD d = true) (hl : Nat.ble (off + 1) xs.length = true)
    (k : T P ops rest ⟨nb, sz, tmp, (b, some ⟨ty', sz', n', [e1, e2]⟩) :: mem⟩ K) : T P ops (⟨none, .store T' x y, ty, pos, af, gd⟩ :: rest) ⟨nb, sz, tmp, mem⟩ K :=
  T_store hx hy hm hg hs (by cases d <;> first | exact hd | rfl) (ys := [d]) (by cases d <;> first | rfl | cases hd) rfl hl hp k
theorem T_storeOne3 {b off sz' n' : Nat} {ty' : TypeId} {d e1 e2 e3 : D} {xs : List D} (hx : St.ev ⟨nb, sz, tmp, mem⟩ x = some (.ptr b off)) (hy : St.ev ⟨nb, sz, tmp, mem⟩ y = some d) (hm : getM b mem = some ⟨ty', sz', n', xs⟩) (hp : xs.set off d = [e1, e2, e3]) (hg : St.guard ⟨nb, sz, tmp, mem⟩ ops ⟨none, .store T' x y, ty, pos, af, gd⟩ = some true)
    (hs : (P.info? T').map (·.size) = some 1) (hd : oneD d = true) (hl : Nat.ble (off + 1) xs.length = true)
    (k : T P ops rest ⟨nb, sz, tmp, (b, some ⟨ty', sz', n', [e1, e2, e3]⟩) :: mem⟩ K) : T P ops (⟨none, .store T' x y, ty, pos, af, gd⟩ :: rest) ⟨nb, sz, tmp, mem⟩ K :=
  T_store hx hy hm hg hs (by cases d <;> first | exact hd | rfl) (ys := [d]) (by cases d <;> first | rfl | cases hd) rfl hl hp k
theorem T_storeOne4 {b off sz' n' : Nat} {ty' : TypeId} {d e1 e2 e3 e4 : D} {xs : List D} (hx : St.ev ⟨nb, sz, tmp, mem⟩ x = some (.ptr b off)) (hy : St.ev ⟨nb, sz, tmp, mem⟩ y = some d) (hm : getM b mem = some ⟨ty', sz', n', xs⟩) (hp : xs.set off d = [e1, e2, e3, e4]) (hg : St.guard ⟨nb, sz, tmp, mem⟩ ops ⟨none, .store T' x y, ty, pos, af, gd⟩ = some true)
    (hs : (P.info? T').map (·.size) = some 1) (hd : oneD d = true) (hl : Nat.ble (off + 1) xs.length = true)
    (k : T P ops rest ⟨nb, sz, tmp, (b, some ⟨ty', sz', n', [e1, e2, e3, e4]⟩) :: mem⟩ K) : T P ops (⟨none, .store T' x y, ty, pos, af, gd⟩ :: rest) ⟨nb, sz, tmp, mem⟩ K :=
  T_store hx hy hm hg hs (by cases d <;> first | exact hd | rfl) (ys := [d]) (by cases d <;> first | rfl | cases hd) rfl hl hp k
theorem T_storeOne {b off sz' n' : Nat} {ty' : TypeId} {d : D} {xs xs' : List D} (hx : St.ev ⟨nb, sz, tmp, mem⟩ x = some (.ptr b off)) (hy : St.ev ⟨nb, sz, tmp, mem⟩ y = some d) (hm : getM b mem = some ⟨ty', sz', n', xs⟩) (hg : St.guard ⟨nb, sz, tmp, mem⟩ ops ⟨none, .store T' x y, ty, pos, af, gd⟩ = some true)
    (hs : (P.info? T').map (·.size) = some 1) (hd : oneD d = true) (hl : off + 1 ≤ xs.length) (hp : xs.set off d = xs')
    (k : T P ops rest ⟨nb, sz, tmp, (b, some ⟨ty', sz', n', xs'⟩) :: mem⟩ K) : T P ops (⟨none, .store T' x y, ty, pos, af, gd⟩ :: rest) ⟨nb, sz, tmp, mem⟩ K :=
  T_store hx hy hm hg hs (by cases d <;> first | exact hd | rfl) (ys := [d]) (by cases d <;> first | rfl | cases hd) rfl (Nat.ble_eq_true_of_le hl) hp k
theorem T_storeAll {b sz' n' k' : Nat} {ty' : TypeId} {xs ys : List D} (hx : St.ev ⟨nb, sz, tmp, mem⟩ x = some (.ptr b 0)) (hy : St.ev ⟨nb, sz, tmp, mem⟩ y = some (.agg ys)) (hm : getM b mem = some ⟨ty', sz', n', xs⟩) (hg : St.guard ⟨nb, sz, tmp, mem⟩ ops ⟨none, .store T' x y, ty, pos, af, gd⟩ = some true)
    (hs : (P.info? T').map (·.size) = some k') (hk : ys.length = k') (hl : Nat.beq xs.length k' = true)
    (k : T P ops rest ⟨nb, sz, tmp, (b, some ⟨ty', sz', n', ys⟩) :: mem⟩ K) : T P ops (⟨none, .store T' x y, ty, pos, af, gd⟩ :: rest) ⟨nb, sz, tmp, mem⟩ K := by
  have hl := Nat.eq_of_beq_eq_true hl
  refine T_store hx hy hm hg hs rfl rfl hk (Nat.ble_eq_true_of_le (by rw [Nat.zero_add]; exact Nat.le_of_eq hl.symm)) ?_ k
  have key : ∀ (ys xs pre : List D), xs.length = ys.length → putAt (pre ++ xs) pre.length ys = pre ++ ys := by
    intro ys
    induction ys with
    | nil => intro xs pre h; have : xs = [] := List.eq_nil_of_length_eq_zero h; subst this; rfl
    | cons y ys ih =>
      intro xs pre h
      cases xs with
      | nil => cases h
      | cons x xs =>
        rw [putAt]
        have e : (pre ++ x :: xs).set pre.length y = (pre ++ [y]) ++ xs := by
          rw [List.set_append_right _ _ (Nat.le_refl _), Nat.sub_self]; simp
        have := ih xs (pre ++ [y]) (by simpa using h)
        rw [e]
        simpa using this
  exact key ys xs [] (by rw [hl, hk])
end
end Go.Proofs.Ytpomhnmfkdgafaa
namespace Go.Proofs.Ytpomhnmfkdgafaa
open Go.RowKit
set_option linter.unusedVariables false
set_option linter.unusedSimpArgs false
section
variable {P : Program} {ops : Array Oper} {o : Oper} {rest : List Oper} {x y : Operand} {T' : TypeId} {w0 : World} {I0 : Bs} {ρ : Rho} {I : Nat → Prop} {a : Act} {w w' : World} {K : St → Prop}
variable {nb sz : Nat} {tmp : List (Nat × D)} {mem : List (Nat × Option M)} {t : Nat} {op : Op} {ty : TypeId} {pos : String} {af : Array Edge} {gd : Option (Nat × Bool)}
/-- append onto a row of the call's own: the row lies where it lay, or in a new block -/
theorem append_run {base : Nat} {e : TypeId} {size bytes : Nat} (hT : TySlice P T' e size bytes) {v : Value} {n : Nat} {xs : List Value} (hown : w.ownsRow base e size v n xs)
    {ao : Option Addr} {b off m c : Nat} {news : List Value} (hl : news.length = m * size) (ha : 0 < news.length → ao = some ⟨b, off, none⟩) (hc : m ≤ c) (hn : ao = none → c = 0) (hnews : LiesAt w b off news) (h1 : ∀ u ∈ news, u.oneCell' = true)
    (h63 : n + m ≤ maxLen) (hbytes : (n + m) * bytes ≤ 140737488355328) (hbase : base ≤ w.heap.size) :
    ∃ pl w', (Builtin.append_ #[T', T'] ty #[v, .slice ao m c]).run P w = .ok (sv pl (n + m)) w' ∧ w'.ownsRow base e size (sv pl (n + m)) (n + m) (xs ++ news) ∧ w.grownBy w' v.ownBlock ∧ (∀ g c, pl = some (g, c) → v.ownBlock = some g ∨ g = w.heap.size) := by
  obtain ⟨i, z, hi, hz, hsz, hby, hzs⟩ := hT.info
  have hpos := hT.pos
  have shape : v.ownBlock = none ∧ v = .slice none 0 0 ∧ n = 0 ∧ xs = [] ∨ ∃ g cap, v = .slice (some ⟨g, 0, none⟩) n cap := by
    rcases hown.2 with ⟨rfl, rfl⟩ | ⟨g, cap, cur, rfl, _⟩
    · exact .inl ⟨rfl, rfl, rfl, List.eq_nil_of_length_eq_zero (by have := hown.1; simpa using this)⟩
    · exact .inr ⟨g, cap, rfl⟩
  by_cases hm0 : m = 0 ∧ ao = none
  · obtain ⟨rfl, rfl⟩ := hm0
    have hc0 := hn rfl
    subst hc0
    have hnil : news = [] := List.eq_nil_of_length_eq_zero (by omega)
    subst hnil
    have hrun := run_append_owned_none (P := P) (w := w) base T' ty e i size hT.ty hi v n xs hown
    have hpl : ∃ pl, sv pl n = v ∧ ∀ g c, pl = some (g, c) → v.ownBlock = some g := by
      rcases shape with ⟨_, rfl, rfl, _⟩ | ⟨g, cap, rfl⟩
      · exact ⟨none, rfl, fun g c h => by cases h⟩
      · exact ⟨some (g, cap), rfl, fun g' c h => by cases h; rfl⟩
    obtain ⟨pl, rfl, hpl⟩ := hpl
    exact ⟨pl, w, hrun, by simpa using hown, ⟨rfl, rfl, rfl, Nat.le_refl _, fun _ _ _ => rfl⟩, fun g c h => .inl (hpl g c h)⟩
  · obtain ⟨ad, rfl⟩ : ∃ ad, ao = some ad := by
      cases ao with
      | none => exact absurd ⟨by have := hn rfl; omega, rfl⟩ hm0
      | some ad => exact ⟨ad, rfl⟩
    have hcc : ∀ j u, news[j]? = some u → w.cell? (ad.add j) = some u := by
      intro j u hj
      have hjl : j < news.length := (List.getElem?_eq_some_iff.1 hj).1
      have := ha (by omega)
      simp only [Option.some.injEq] at this
      subst this
      rw [Addr.add_mid]; exact hnews j u hj
    obtain ⟨v', w', hr, h2, h3, _⟩ := run_append_own (P := P) w base T' ty e i z size bytes hT.ty hi hz hsz hby hzs hpos v n xs hown ad m c news hl hcc h1 h63 hbytes hbase
    subst hsz
    have h63i : ((n + m : Nat) : Int) ≤ 9223372036854775807 := by simp only [maxLen] at h63; omega
    have key : ∃ pl, v' = sv pl (n + m) ∧ ∀ g c, pl = some (g, c) → v.ownBlock = some g ∨ g = w.heap.size := by
      rcases shape with ⟨_, rfl, rfl, rfl⟩ | ⟨g, cap, rfl⟩
      · by_cases hm : m = 0
        · subst hm
          have hnil : news = [] := List.eq_nil_of_length_eq_zero (by omega)
          subst hnil
          have e1 : (Builtin.append_ #[T', T'] ty #[.slice none 0 0, .slice (some ad) 0 c]).run P w = .ok (.slice none 0 0) w := by
            simp [Builtin.append_, run_underlying hT.ty, sizeOf, typeInfo, hi, Builtin.lenOf, Builtin.firstCells, loadCells, loadCellsFrom]
          rw [hr] at e1
          cases e1
          exact ⟨none, rfl, fun g c h => by cases h⟩
        · have e1 := run_append_nil (P := P) w T' ty e i z hT.ty hi hz ad m c news hl hcc (by omega) (by omega) (by rw [hby]; have hb := hbytes; rw [Nat.zero_add] at hb; omega)
          rw [hr] at e1
          cases e1
          exact ⟨some (w.heap.size, grownCap w m 0 e), by simp [sv], fun g c h => by cases h; exact .inr rfl⟩
      · rcases hown.2 with ⟨h', _⟩ | ⟨g', cap', cur, h', hbg, hg, hnc, hcm, hcs, htake⟩
        · cases h'
        · simp only [Value.slice.injEq, Option.some.injEq, Addr.mk.injEq, and_true, true_and] at h'
          obtain ⟨rfl, rfl⟩ := h'
          by_cases hroom : n + m ≤ cap
          · have hfit : n * i.size + news.length ≤ cur.size := by rw [hl, hcs, ← Nat.add_mul]; exact Nat.mul_le_mul_right _ hroom
            have e1 := run_append_room (P := P) w T' ty e i hT.ty hi g n cap cur hg ad m c news hl hcc h1 hroom hfit
            rw [hr] at e1
            cases e1
            exact ⟨some (g, cap), rfl, fun g' c h => by cases h; exact .inl rfl⟩
          · have holds : ∀ j u, xs[j]? = some u → w.cell? ((⟨g, 0, none⟩ : Addr).add j) = some u := hown.cells (g := g) rfl
            have e1 := run_append_grow (P := P) w T' ty e i z hT.ty hi hz ⟨g, 0, none⟩ n cap xs hown.1 holds ad m c news hl hcc (by omega) h63i (growslice_fits (by omega) (by rw [hby]; exact hbytes))
            rw [hr] at e1
            cases e1
            exact ⟨some (w.heap.size, _), rfl, fun g c h => by cases h; exact .inr rfl⟩
    obtain ⟨pl, rfl, hpl⟩ := key
    exact ⟨pl, w', hr, h2, h3, hpl⟩
theorem AllRA.append {xs ys : List D} {us vs : List Value} (h : AllRA ρ nb I w xs us) (h2 : AllRA ρ nb I w ys vs) : AllRA ρ nb I w (xs ++ ys) (us ++ vs) := by
  refine ⟨by simp [h.1, h2.1], fun u hu => (List.mem_append.1 hu).elim (h.2.1 u) (h2.2.1 u), fun j d u a b => ?_⟩
  by_cases hj : j < xs.length
  · rw [List.getElem?_append_left hj] at a
    rw [List.getElem?_append_left (by rw [← h.1]; exact hj)] at b
    exact h.2.2 j d u a b
  · rw [List.getElem?_append_right (by omega)] at a
    rw [List.getElem?_append_right (by rw [← h.1]; omega)] at b
    exact h2.2.2 _ d u a (by rw [h.1]; exact b)
theorem T_append {b n k' size bytes : Nat} {e : TypeId} {m : M} {d : D} {ys xs' : List D} [hT : TySlice P T' e size bytes] (hx : St.ev ⟨nb, sz, tmp, mem⟩ x = some (.own b n)) (hy : St.ev ⟨nb, sz, tmp, mem⟩ y = some d) (hm : getM b mem = some m) (hs : sliceD mem d = some (k', ys)) (hg : St.guard ⟨nb, sz, tmp, mem⟩ ops ⟨some t, .call { callee := .builtin .append, args := #[x, y], argTypes := #[T', T'] }, ty, pos, af, gd⟩ = some true) (ht : Nat.blt t sz = true)
    (h1 : m.ty = e) (h2 : m.size = size) (h3 : m.n = n) (hl : ys.length = k' * size) (hxs : m.xs ++ ys = xs') (hb : (n + k') * bytes ≤ 140737488355328) (hml : n + k' ≤ 9223372036854775807)
    (k : T P ops rest ⟨nb + 1, sz, (t, .own nb (n + k')) :: tmp, (nb, some ⟨e, size, n + k', xs'⟩) :: (b, none) :: mem⟩ K) : T P ops (⟨some t, .call { callee := .builtin .append, args := #[x, y], argTypes := #[T', T'] }, ty, pos, af, gd⟩ :: rest) ⟨nb, sz, tmp, mem⟩ K :=
  T_of_wp hg fun w0 I0 ρ I a w Q next g hk' q => by
    subst hxs
    obtain ⟨hb1, ⟨us, ho, hxs⟩, hn⟩ := (g.mem b m hm).parts
    rw [h1, h2, h3] at ho
    have hxv := g.ev hx
    have hxe : a.eval x = sv (ρ b) n := by
      generalize a.eval x = v at hxv
      cases hxv with
      | im h => cases h
      | own => rfl
    obtain ⟨ao, cap, b', off, vs, hv, hc1, hc2, hc3, hc4, hc5, hc6⟩ := g.sliced (g.ev hy) hs
    obtain ⟨pl, w', hr, ho', hgr, hpl⟩ := append_run (ty := ty) hT ho (by rw [← hc6.1]; exact hl) (fun h => (hc4 h).1) hc1 hc3 hc5 hc6.2.1 (by unfold maxLen; omega) hb (Below.size g.later)
    have hrr : (execOp a.eval ⟨some t, .call { callee := .builtin .append, args := #[x, y], argTypes := #[T', T'] }, ty, pos, af, gd⟩).run P w = .ok (.value (sv pl (n + k'))) w' := by
      simp [execOp, resolve, invoke, builtin, hxe, hv, hr]
    unfold Oper.wp; rw [hrr]
    have hown : ∀ k, (sv (ρ b) n).ownBlock = some k → ∃ c, ρ b = some (k, c) := fun k hk => by
      cases hρ : ρ b with
      | none => rw [hρ] at hk; cases hk
      | some gc => obtain ⟨g', c⟩ := gc; rw [hρ] at hk; cases hk; exact ⟨c, rfl⟩
    have hsubm : ∀ b1 m1, getM b1 ((b, none) :: mem) = some m1 → b1 ≠ b ∧ getM b1 mem = some m1 := fun b1 m1 h => by
      have h' : cond (Nat.beq b b1) none (getM b1 mem) = some m1 := h
      cases hbb : Nat.beq b b1 with
      | true => rw [hbb] at h'; cases h'
      | false => rw [hbb] at h'; exact ⟨fun e => Nat.ne_of_beq_eq_false hbb e.symm, h'⟩
    have g2 := g.renew ⟨e, size, n + k', m.xs ++ ys⟩ ((b, none) :: mem) pl (sv (ρ b) n).ownBlock hgr
      (fun k hk => by obtain ⟨c, hc⟩ := hown k hk; exact ⟨((g.mem b m hm).lt hc).1, hn k c hc⟩)
      (fun b1 m1 h => ⟨(hsubm b1 m1 h).2, fun k c hk hk2 => by obtain ⟨c', hc'⟩ := hown k hk2; exact (hsubm b1 m1 h).1 (g.inj b1 m1 b m (hsubm b1 m1 h).2 hm _ _ _ hk hc')⟩)
      (fun b1 m1 k c c' h hk hk2 => by
        rcases hpl k c' hk2 with h' | h'
        · obtain ⟨c2, hc2⟩ := hown k h'; exact (hsubm b1 m1 h).1 (g.inj b1 m1 b m (hsubm b1 m1 h).2 hm _ _ _ hk hc2)
        · have := ((g.mem b1 m1 (hsubm b1 m1 h).2).lt hk).2; omega)
      (fun k c hk hI => by
        rcases hpl k c hk with h' | h'
        · obtain ⟨c2, hc2⟩ := hown k h'; exact hn k c2 hc2 hI
        · have := g.lt k hI; omega)
      ho' (hxs.append hc6)
    have hnew : RA (upd ρ nb pl) (nb + 1) I w' (.own nb (n + k')) (sv pl (n + k')) := by
      have h := RA.own (ρ := upd ρ nb pl) (nb := nb + 1) (I := I) (w := w') (b := nb) (n := n + k') (Nat.lt_succ_self _) (fun h => by
        rw [upd_same] at h
        subst h
        rcases ho'.2 with ⟨_, h0⟩ | ⟨g', cap', cur, h', _⟩
        · exact h0
        · simp [sv] at h')
      rw [upd_same] at h
      exact h
    exact hk' _ _ (k.h w0 I0 _ I _ _ Q (g2.put (by simpa using ht) hnew) q)
theorem T_push {b n k' size bytes n' : Nat} {e : TypeId} {d : D} {xs ys : List D} [hT : TySlice P T' e size bytes] (hx : St.ev ⟨nb, sz, tmp, mem⟩ x = some (.own b n)) (hy : St.ev ⟨nb, sz, tmp, mem⟩ y = some d) (hm : getM b mem = some ⟨e, size, n', xs⟩) (hs : sliceD mem d = some (k', ys)) (hg : St.guard ⟨nb, sz, tmp, mem⟩ ops ⟨some t, .call { callee := .builtin .append, args := #[x, y], argTypes := #[T', T'] }, ty, pos, af, gd⟩ = some true) (ht : Nat.blt t sz = true)
    (h3 : n' = n) (hl : ys.length = k' * size) (hb : (n + k') * bytes ≤ 140737488355328) (hml : n + k' ≤ 9223372036854775807)
    (k : T P ops rest ⟨nb + 1, sz, (t, .own nb (n + k')) :: tmp, (nb, some ⟨e, size, n + k', xs ++ ys⟩) :: (b, none) :: mem⟩ K) : T P ops (⟨some t, .call { callee := .builtin .append, args := #[x, y], argTypes := #[T', T'] }, ty, pos, af, gd⟩ :: rest) ⟨nb, sz, tmp, mem⟩ K :=
  T_append hx hy hm hs hg ht rfl rfl h3 hl rfl hb hml k
theorem T_make {n size bytes : Nat} {e : TypeId} {z : Value} {zd : List D} {kz : Nat} {i : Int} {k1 k2 : IntKind} [hT : TySlice P T' e size bytes] [hz : TyZero P e kz [z] zd] (hx : St.ev ⟨nb, sz, tmp, mem⟩ x = some (.val (.int k1 i))) (hy : St.ev ⟨nb, sz, tmp, mem⟩ y = some (.val (.int k2 i))) (hi : i = (n : Int)) (hg : St.guard ⟨nb, sz, tmp, mem⟩ ops ⟨some t, .makeSlice T' x y, ty, pos, af, gd⟩ = some true) (ht : Nat.blt t sz = true)
    (hb : n * bytes ≤ 140737488355328) (hml : n ≤ 9223372036854775807) (k : T P ops rest ⟨nb + 1, sz, (t, .own nb n) :: tmp, (nb, some ⟨e, 1, n, List.replicate n (.val z)⟩) :: mem⟩ K) : T P ops (⟨some t, .makeSlice T' x y, ty, pos, af, gd⟩ :: rest) ⟨nb, sz, tmp, mem⟩ K :=
  T_of_wp hg fun w0 I0 ρ I a w Q next g hk' q => by
    subst hi
    obtain ⟨i, z', h1, h2, h3, h4, h5⟩ := hT.info
    obtain ⟨i2, z2, h6, h7, h8, h9⟩ := hz.info
    rw [h1] at h6
    obtain rfl : i = i2 := by simpa using h6
    rw [h2] at h7
    obtain rfl : z' = z2 := by simpa using h7
    have hs1 : size = 1 := by rw [← h3, h9]; rfl
    subst hs1
    have hzc : z'.cells = #[z] := by
      apply Array.ext'; rw [h8]
    obtain ⟨w', hr, ho, hgr⟩ := run_make_full (P := P) w w0.heap.size T' e i z' 1 hT.ty h1 h2 h3 k1 k2 n (by rw [h4, Nat.mul_comm]; omega) (by unfold maxLen; omega) (Below.size g.later)
    have e1 := (g.ev hx).val_eq
    have e2 := (g.ev hy).val_eq
    have hrr : (execOp a.eval ⟨some t, .makeSlice T' x y, ty, pos, af, gd⟩).run P w = .ok (.value (.slice (some ⟨w.heap.size, 0, none⟩) n n)) w' := by
      simp [execOp, e1, e2, hr]
    unfold Oper.wp; rw [hrr]
    rw [hzc, Nat.mul_one, toList_madeCells_one] at ho
    have hone : z.oneCell' = true := by have := hz.one; simpa using this
    have g2 := g.renew ⟨e, 1, n, List.replicate n (.val z)⟩ mem (some (w.heap.size, n)) none (us := List.replicate n z) hgr (fun k hk => by cases hk) (fun b m h => ⟨h, fun k c _ hh => by cases hh⟩)
      (fun b m k c c' h hk hk' => by
        have := ((g.mem b m h).lt hk).2
        simp only [Option.some.injEq, Prod.mk.injEq] at hk'
        omega)
      (fun k c hk hI => by
        have := g.lt k hI
        simp only [Option.some.injEq, Prod.mk.injEq] at hk
        omega)
      ho ⟨by simp, fun u hu => by rw [List.eq_of_mem_replicate hu]; exact hone, fun j d u h1 h2 => by
        rw [List.getElem?_replicate] at h1 h2
        by_cases hj : j < n
        · rw [if_pos hj] at h1 h2; cases h1; cases h2; exact .im (.val _ hone)
        · rw [if_neg hj] at h1; cases h1⟩
    exact hk' _ _ (k.h w0 I0 _ I _ _ Q (g2.put (by simpa using ht) (G.fresh_own ρ nb I w _ n)) q)
/-! ### literals -/
class TyBuild (P : Program) (t : TypeId) (zs : outParam (List Value)) (zd : outParam (List D)) (place : outParam (Nat → Option (Nat × Nat))) : Prop where
  data : zs.map D.val = zd
  built : ∀ parts, P.built t parts = Instr.fill place zs.toArray parts
  one : zs.all (·.oneCell') = true
def fillD (place : Nat → Option (Nat × Nat)) : List (Nat × D) → List D → Option (List D)
  | [], cells => some cells
  | (i, d) :: rest, cells => match place i with
    | none => none
    | some (off, size) => cond (cellD d && Nat.beq (flatD d).length size && Nat.ble (off + size) cells.length) (fillD place rest (putAt cells off (flatD d))) none
theorem foldl_put : ∀ (vs : List Value) (off j : Nat) (cs : Array Value), ((vs.zipIdx j).foldl (fun cs x => cs.setIfInBounds (off + x.2) x.1) cs).toList = putAt cs.toList (off + j) vs
  | [], _, _, _ => rfl
  | v :: vs, off, j, cs => by
    rw [List.zipIdx_cons, List.foldl_cons, foldl_put vs off (j + 1)]
    simp [putAt, Nat.add_assoc]
def St.evParts (S : St) : List (Nat × Operand) → Option (List (Nat × D))
  | [] => some []
  | (i, x) :: l => match S.ev x, S.evParts l with
    | some d, some ds => some ((i, d) :: ds)
    | _, _ => none
theorem fill_sound (g : G w0 I0 ⟨nb, sz, tmp, mem⟩ ρ I a w) {place : Nat → Option (Nat × Nat)} : ∀ {parts : List (Nat × Operand)} {ds : List (Nat × D)} {cells : List D} {us : Array Value} {r : List D}, St.evParts ⟨nb, sz, tmp, mem⟩ parts = some ds → AllRA ρ nb I w cells us.toList → fillD place ds cells = some r →
    ∃ us', Instr.fill place us (parts.map fun x => (x.1, a.eval x.2)) = some us' ∧ AllRA ρ nb I w r us'.toList
  | [], ds, cells, us, r, h, hc, hf => by cases h; cases hf; exact ⟨us, rfl, hc⟩
  | (i, x) :: l, ds, cells, us, r, h, hc, hf => by
    unfold St.evParts at h
    cases hx : St.ev ⟨nb, sz, tmp, mem⟩ x with
    | none => rw [hx] at h; cases h
    | some d =>
      cases hl : St.evParts ⟨nb, sz, tmp, mem⟩ l with
      | none => rw [hx, hl] at h; cases h
      | some es =>
        rw [hx, hl] at h
        cases h
        unfold fillD at hf
        cases hp : place i with
        | none => rw [hp] at hf; cases hf
        | some os =>
          obtain ⟨off, size⟩ := os
          rw [hp] at hf
          simp only at hf
          cases hb : (cellD d && Nat.beq (flatD d).length size && Nat.ble (off + size) cells.length) with
          | false => rw [hb] at hf; cases hf
          | true =>
            rw [hb] at hf
            simp only [Bool.and_eq_true] at hb
            obtain ⟨⟨hb1, hb2⟩, hb3⟩ := hb
            have hb2 := Nat.eq_of_beq_eq_true hb2
            have hb3 := Nat.le_of_ble_eq_true hb3
            have hv := (g.ev hx).flat hb1
            have hvl : (a.eval x).cells.size = size := by rw [← Array.length_toList, ← hv.1]; exact hb2
            have hput := hc.putAt off hv
            have hfold := foldl_put (a.eval x).cells.toList off 0 us
            rw [Nat.add_zero] at hfold
            obtain ⟨us', h1, h2⟩ := fill_sound g (us := (putAt us.toList off (a.eval x).cells.toList).toArray) hl hput hf
            refine ⟨us', ?_, h2⟩
            rw [← h1]
            have hle : ¬ (us.size < off + (a.eval x).cells.size) := by
              have := hc.1
              have h2 : us.toList.length = us.size := Array.length_toList
              omega
            have e : ((a.eval x).cells.zipIdx.foldl (fun cs x => cs.setIfInBounds (off + x.2) x.1) us) = (putAt us.toList off (a.eval x).cells.toList).toArray := by
              apply Array.ext'
              rw [← hfold, ← Array.foldl_toList, Array.toList_zipIdx]
            simp only [List.map_cons, Instr.fill, hp, hvl]
            rw [← e]
            simp [hvl] at hle ⊢
            intro h; omega
theorem P_build {zs : List Value} {place : Nat → Option (Nat × Nat)} {parts : Array (Nat × Operand)} {ds : List (Nat × D)} {r zd : List D} [hz : TyBuild P T' zs zd place] (ho : o.op = .build T' parts) (hp : St.evParts ⟨nb, sz, tmp, mem⟩ parts.toList = some ds) (hf : fillD place ds zd = some r) : PStep P o ⟨nb, sz, tmp, mem⟩ (.agg r) :=
  PStep.pure fun w0 I0 ρ I a w g => by
    obtain ⟨us', h1, h2⟩ := fill_sound g (place := place) (us := zs.toArray) hp (hz.data ▸ allRA_vals hz.one) hf
    have hb : P.built T' (parts.map fun x => (x.1, a.eval x.2)).toList = some us' := by
      rw [hz.built, Array.toList_map]; exact h1
    have e : us' = us'.toList.toArray := rfl
    refine ⟨.agg us'.toList.toArray, ?_, .agg h2.1 h2.2.1 h2.2.2⟩
    simp only [execOp, ho, Sem.run_bind, run_build w T' _ us' hb, Result.andThen_ok, Sem.run_pure]
theorem P_build1 {zs : List Value} {zd : List D} {place : Nat → Option (Nat × Nat)} {parts : Array (Nat × Operand)} {ds : List (Nat × D)} {e1 : D} [hz : TyBuild P T' zs zd place] (ho : o.op = .build T' parts) (hp : St.evParts ⟨nb, sz, tmp, mem⟩ parts.toList = some ds) (hf : fillD place ds zd = some [e1]) : PStep P o ⟨nb, sz, tmp, mem⟩ (.agg [e1]) := P_build ho hp hf
theorem P_build2 {zs : List Value} {zd : List D} {place : Nat → Option (Nat × Nat)} {parts : Array (Nat × Operand)} {ds : List (Nat × D)} {e1 e2 : D} [hz : TyBuild P T' zs zd place] (ho : o.op = .build T' parts) (hp : St.evParts ⟨nb, sz, tmp, mem⟩ parts.toList = some ds) (hf : fillD place ds zd = some [e1, e2]) : PStep P o ⟨nb, sz, tmp, mem⟩ (.agg [e1, e2]) := P_build ho hp hf
theorem P_build3 {zs : List Value} {zd : List D} {place : Nat → Option (Nat × Nat)} {parts : Array (Nat × Operand)} {ds : List (Nat × D)} {e1 e2 e3 : D} [hz : TyBuild P T' zs zd place] (ho : o.op = .build T' parts) (hp : St.evParts ⟨nb, sz, tmp, mem⟩ parts.toList = some ds) (hf : fillD place ds zd = some [e1, e2, e3]) : PStep P o ⟨nb, sz, tmp, mem⟩ (.agg [e1, e2, e3]) := P_build ho hp hf
theorem P_build4 {zs : List Value} {zd : List D} {place : Nat → Option (Nat × Nat)} {parts : Array (Nat × Operand)} {ds : List (Nat × D)} {e1 e2 e3 e4 : D} [hz : TyBuild P T' zs zd place] (ho : o.op = .build T' parts) (hp : St.evParts ⟨nb, sz, tmp, mem⟩ parts.toList = some ds) (hf : fillD place ds zd = some [e1, e2, e3, e4]) : PStep P o ⟨nb, sz, tmp, mem⟩ (.agg [e1, e2, e3, e4]) := P_build ho hp hf
theorem AllRA.closed {xs : List D} {us : List Value} (h : AllRA ρ nb I w xs us) (hc : D.idsL (fun _ => false) xs = true) (j : Nat) (d : D) (u : Value) (h1 : xs[j]? = some d) (h2 : us[j]? = some u) : RC I w d u := (h.2.2 j d u h1 h2).closed (idsL_mem hc j d h1)
theorem RC.ext {d : D} {v : Value} {I' : Nat → Prop} (h : RC I w d v) (lt : ∀ b, I b → b < w.heap.size) (e : Ext I w I' w') : RC I' w' d v := h.move e.more fun b hb => later_block e.later (lt b hb)
/-- a slice literal, never written to -/
theorem P_lit {len size bytes : Nat} {e : TypeId} {kz : Nat} {zs : List Value} {zd : List D} {parts : Array (Nat × Operand)} {ds : List (Nat × D)} {r : List D} [hT : TySlice P T' e size bytes] [hz : TyZero P e kz zs zd] (ho : o.op = .buildSlice T' len parts) (hp : St.evParts ⟨nb, sz, tmp, mem⟩ parts.toList = some ds)
    (hf : fillD (fun i => some (i * size, size)) ds (List.replicate (len * size) .junk) = some r) (hc : D.idsL (fun _ => false) r = true) (hl : Nat.ble (len * size) 16777216 = true) : PStep P o ⟨nb, sz, tmp, mem⟩ (.row len r) :=
  PStep.run fun w0 I0 ρ I a w g => by
    obtain ⟨i, z, h1, h2, h3, h4, h5⟩ := hT.info
    obtain ⟨i2, z2, h6, h7, h8, h9⟩ := hz.info
    rw [h1] at h6
    obtain rfl : i = i2 := by simpa using h6
    rw [h2] at h7
    obtain rfl : z = z2 := by simpa using h7
    have hl := Nat.le_of_ble_eq_true hl
    have hpos := hT.pos
    subst h3
    let z0 : Array Value := if len * i.size = 0 then #[] else z.cells
    let cells0 : Array Value := (Array.range (len * i.size)).map fun j => z0[j % z0.size]!
    have hall : AllRA ρ nb I w (List.replicate (len * i.size) .junk) cells0.toList := by
      refine ⟨by simp [cells0], fun u hu => ?_, fun j d u h1 h2 => ?_⟩
      · simp only [cells0, Array.toList_map, List.mem_map] at hu
        obtain ⟨j, hj, rfl⟩ := hu
        have hj' : j < len * i.size := by simpa using hj
        have hne : ¬ len * i.size = 0 := by omega
        have hz0 : z0 = z.cells := if_neg hne
        have hsz : 0 < z0.size := by rw [hz0, h5]; exact hpos
        have hlt : j % z0.size < z0.size := Nat.mod_lt _ hsz
        rw [getElem!_pos z0 _ hlt]
        have hm : z0[j % z0.size] ∈ z.cells.toList := by rw [← hz0]; simp
        rw [h8] at hm
        exact List.all_eq_true.1 hz.one _ hm
      · rw [List.getElem?_replicate] at h1
        by_cases hj : j < len * i.size
        · rw [if_pos hj] at h1; cases h1; exact .im (.junk _)
        · rw [if_neg hj] at h1; cases h1
    obtain ⟨us', h10, h11⟩ := fill_sound g (place := fun k => some (k * i.size, i.size)) (us := cells0) hp hall hf
    have hr : (execOp a.eval o).run P w = .ok (.value (.slice (some ⟨w.heap.size, 0, none⟩) len len)) (w.alloc (.cells us' e)) := by
      have hmap : (parts.map fun x => (x.1, a.eval x.2)).toList = parts.toList.map fun x => (x.1, a.eval x.2) := Array.toList_map ..
      have hsmall : ¬ 16777216 < len * i.size := by omega
      by_cases h0 : len * i.size = 0
      · have hz0 : z0 = #[] := if_pos h0
        have h10' : Instr.fill (fun k => some (k * i.size, i.size)) ((Array.range (len * i.size)).map fun j => (#[] : Array Value)[j % (#[] : Array Value).size]!) (parts.map fun x => (x.1, a.eval x.2)).toList = some us' := by rw [hmap, ← hz0]; exact h10
        simp only [execOp, ho, Instr.buildSlice, Sem.run_bind, run_underlying hT.ty, Result.andThen_ok, run_sizeOf'' h1, if_pos h0, Sem.run_pure]
        rw [if_neg (by simpa using hsmall)]
        simp only [Sem.run_bind, Sem.run_pure, Result.andThen_ok, h10']
        rfl
      · have hz0 : z0 = z.cells := if_neg h0
        have h10' : Instr.fill (fun k => some (k * i.size, i.size)) ((Array.range (len * i.size)).map fun j => z.cells[j % z.cells.size]!) (parts.map fun x => (x.1, a.eval x.2)).toList = some us' := by rw [hmap, ← hz0]; exact h10
        simp only [execOp, ho, Sem.run_bind, run_buildSlice w T' e len _ us' i z hT.ty h1 h2 (by simpa using hsmall) h0 h10', Result.andThen_ok, Sem.run_pure]
    have hext : Ext I w (fun b => I b ∨ (w.heap.size ≤ b ∧ b < (w.alloc (.cells us' e)).heap.size)) (w.alloc (.cells us' e)) := ⟨fun b h => .inl h, fun b h => h, (Later.refl w).alloc _⟩
    have hlen : us'.toList.length = len * i.size := by
      rw [← h11.1]
      have : ∀ (ds : List (Nat × D)) (cs r : List D), fillD (fun k => some (k * i.size, i.size)) ds cs = some r → r.length = cs.length := by
        intro ds
        induction ds with
        | nil => intro cs r h; cases h; rfl
        | cons x l ih =>
          intro cs r h
          obtain ⟨k, d⟩ := x
          unfold fillD at h
          simp only at h
          cases hb : (cellD d && Nat.beq (flatD d).length i.size && Nat.ble (k * i.size + i.size) cs.length) with
          | false => rw [hb] at h; cases h
          | true => rw [hb] at h; rw [ih _ _ h, putAt_length]
      rw [this _ _ _ hf]; simp
    refine ⟨_, _, _, hr, hext, .im (.row (Nat.le_refl _) (by have : len ≤ len * i.size := Nat.le_mul_of_pos_right _ hpos; unfold maxLen; omega) (fun h => by cases h) (us := us'.toList) h11.1 (fun _ => ⟨rfl, .inr ⟨Nat.le_refl _, by simp⟩⟩) (fun j u hu => ?_) h11.2.1 fun j d u hj hu => (h11.closed hc j d u hj hu).ext g.lt hext)⟩
    have hb := box_cell w us' e j u (by simpa using hu)
    rw [Nat.zero_add]; exact hb
theorem P_lit1 {len size bytes : Nat} {e : TypeId} {kz : Nat} {zs : List Value} {zd : List D} {parts : Array (Nat × Operand)} {ds : List (Nat × D)} {e1 : D} [hT : TySlice P T' e size bytes] [hz : TyZero P e kz zs zd] (ho : o.op = .buildSlice T' len parts) (hp : St.evParts ⟨nb, sz, tmp, mem⟩ parts.toList = some ds)
    (hf : fillD (fun i => some (i * size, size)) ds (List.replicate (len * size) .junk) = some [e1]) (hc : D.idsL (fun _ => false) [e1] = true) (hl : Nat.ble (len * size) 16777216 = true) : PStep P o ⟨nb, sz, tmp, mem⟩ (.row len [e1]) := P_lit ho hp hf hc hl
theorem P_lit2 {len size bytes : Nat} {e : TypeId} {kz : Nat} {zs : List Value} {zd : List D} {parts : Array (Nat × Operand)} {ds : List (Nat × D)} {e1 e2 : D} [hT : TySlice P T' e size bytes] [hz : TyZero P e kz zs zd] (ho : o.op = .buildSlice T' len parts) (hp : St.evParts ⟨nb, sz, tmp, mem⟩ parts.toList = some ds)
    (hf : fillD (fun i => some (i * size, size)) ds (List.replicate (len * size) .junk) = some [e1, e2]) (hc : D.idsL (fun _ => false) [e1, e2] = true) (hl : Nat.ble (len * size) 16777216 = true) : PStep P o ⟨nb, sz, tmp, mem⟩ (.row len [e1, e2]) := P_lit ho hp hf hc hl
theorem P_lit3 {len size bytes : Nat} {e : TypeId} {kz : Nat} {zs : List Value} {zd : List D} {parts : Array (Nat × Operand)} {ds : List (Nat × D)} {e1 e2 e3 : D} [hT : TySlice P T' e size bytes] [hz : TyZero P e kz zs zd] (ho : o.op = .buildSlice T' len parts) (hp : St.evParts ⟨nb, sz, tmp, mem⟩ parts.toList = some ds)
    (hf : fillD (fun i => some (i * size, size)) ds (List.replicate (len * size) .junk) = some [e1, e2, e3]) (hc : D.idsL (fun _ => false) [e1, e2, e3] = true) (hl : Nat.ble (len * size) 16777216 = true) : PStep P o ⟨nb, sz, tmp, mem⟩ (.row len [e1, e2, e3]) := P_lit ho hp hf hc hl
theorem P_lit4 {len size bytes : Nat} {e : TypeId} {kz : Nat} {zs : List Value} {zd : List D} {parts : Array (Nat × Operand)} {ds : List (Nat × D)} {e1 e2 e3 e4 : D} [hT : TySlice P T' e size bytes] [hz : TyZero P e kz zs zd] (ho : o.op = .buildSlice T' len parts) (hp : St.evParts ⟨nb, sz, tmp, mem⟩ parts.toList = some ds)
    (hf : fillD (fun i => some (i * size, size)) ds (List.replicate (len * size) .junk) = some [e1, e2, e3, e4]) (hc : D.idsL (fun _ => false) [e1, e2, e3, e4] = true) (hl : Nat.ble (len * size) 16777216 = true) : PStep P o ⟨nb, sz, tmp, mem⟩ (.row len [e1, e2, e3, e4]) := P_lit ho hp hf hc hl
theorem P_lit6 {len size bytes : Nat} {e : TypeId} {kz : Nat} {zs : List Value} {zd : List D} {parts : Array (Nat × Operand)} {ds : List (Nat × D)} {e1 e2 e3 e4 e5 e6 : D} [hT : TySlice P T' e size bytes] [hz : TyZero P e kz zs zd] (ho : o.op = .buildSlice T' len parts) (hp : St.evParts ⟨nb, sz, tmp, mem⟩ parts.toList = some ds)
    (hf : fillD (fun i => some (i * size, size)) ds (List.replicate (len * size) .junk) = some [e1, e2, e3, e4, e5, e6]) (hc : D.idsL (fun _ => false) [e1, e2, e3, e4, e5, e6] = true) (hl : Nat.ble (len * size) 16777216 = true) : PStep P o ⟨nb, sz, tmp, mem⟩ (.row len [e1, e2, e3, e4, e5, e6]) := P_lit ho hp hf hc hl
theorem P_lit0 {size bytes : Nat} {e : TypeId} {kz : Nat} {zs : List Value} {zd : List D} {parts : Array (Nat × Operand)} {ds : List (Nat × D)} [hT : TySlice P T' e size bytes] [hz : TyZero P e kz zs zd] (ho : o.op = .buildSlice T' 0 parts) (hp : St.evParts ⟨nb, sz, tmp, mem⟩ parts.toList = some []) : PStep P o ⟨nb, sz, tmp, mem⟩ (.row 0 []) := P_lit ho hp (by rw [Nat.zero_mul]; rfl) rfl (by rw [Nat.zero_mul]; rfl)
end
end Go.Proofs.Ytpomhnmfkdgafaa
namespace Go.Proofs.Ytpomhnmfkdgafaa
open Go.RowKit
set_option linter.unusedVariables false
set_option linter.unusedSimpArgs false
section
variable {P : Program} {w0 : World} {I0 : Bs} {ρ : Rho} {I : Nat → Prop} {a : Act} {w w' : World}
variable {nb nb' sz : Nat} {tmp tmp' : List (Nat × D)} {mem mem' : List (Nat × Option M)} {t : Nat} {σ : Nat → Nat}
/-! ### weakening, with the rows' numbers dealt anew -/
def Ren (σ : Nat → Nat) (nb' : Nat) (d' d : D) : Prop := ∀ ρ nb I w v, RA ρ nb I w d v → RA (fun b => ρ (σ b)) nb' I w d' v
theorem Ren.im {d : D} (h : d.ids (fun _ => false) = true) : Ren σ nb' d d := fun ρ nb I w v hv => .im (hv.closed h)
theorem Ren.eq {d d' : D} (e : d = d') (h : d.ids (fun _ => false) = true) : Ren σ nb' d' d := e ▸ Ren.im h
theorem Ren.junk (d : D) : Ren σ nb' .junk d := fun ρ nb I w v hv => .im (.junk v)
theorem RC.nil_row {v : Value} (h : RC I w (.val (.slice none 0 0)) v) : RC I w (.row 0 []) v := by
  cases h
  exact .row (Nat.le_refl _) (Nat.zero_le _) (fun _ => rfl) (b := 0) (off := 0) (us := []) rfl (fun h => by simp at h) (fun j u hu => by simp at hu) (fun u hu => by simp at hu) (fun j d u hj => by simp at hj)
theorem Ren.nil : Ren σ nb' (.row 0 []) (.val (.slice none 0 0)) := fun ρ nb I w v hv => .im (hv.closed rfl).nil_row
theorem Ren.own {b b' n n' : Nat} (hb : Nat.blt b' nb' = true) (h : Nat.beq (σ b') b = true) (hn : n' = n) : Ren σ nb' (.own b' n') (.own b n) := fun ρ nb I w v hv => by
  have h := Nat.eq_of_beq_eq_true h
  subst h
  subst hn
  have hlt : b' < nb' := by simpa using hb
  generalize hx : D.own (σ b') n' = x at hv
  cases hv with
  | im h => subst hx; cases h
  | own hb' h0 => cases hx; exact RA.own (ρ := fun b => ρ (σ b)) (b := b') hlt h0
  | _ => cases hx
theorem Ren.ptr {b b' off off' : Nat} (hb : Nat.blt b' nb' = true) (h : Nat.beq (σ b') b = true) (hn : off' = off) : Ren σ nb' (.ptr b' off') (.ptr b off) := fun ρ nb I w v hv => by
  have h := Nat.eq_of_beq_eq_true h
  subst h
  subst hn
  have hlt : b' < nb' := by simpa using hb
  generalize hx : D.ptr (σ b') off' = x at hv
  cases hv with
  | im h => subst hx; cases h
  | ptr hb' h0 => cases hx; exact RA.ptr (ρ := fun b => ρ (σ b)) (b := b') hlt h0
  | _ => cases hx
def RenL (σ : Nat → Nat) (nb' : Nat) (xs' xs : List D) : Prop := xs'.length = xs.length ∧ ∀ (j : Nat) (d' d : D), xs'[j]? = some d' → xs[j]? = some d → Ren σ nb' d' d
theorem RenL.nil : RenL σ nb' [] [] := ⟨rfl, fun j d' d h => by simp at h⟩
theorem RenL.cons {d d' : D} {xs xs' : List D} (h : Ren σ nb' d' d) (k : RenL σ nb' xs' xs) : RenL σ nb' (d' :: xs') (d :: xs) := ⟨by simp [k.1], fun j e' e h1 h2 => by
  cases j with
  | zero => simp at h1 h2; subst h1; subst h2; exact h
  | succ j => exact k.2 j e' e (by simpa using h1) (by simpa using h2)⟩
theorem RenL.im {xs xs' : List D} (e : xs' = xs) (h : D.idsL (fun _ => false) xs' = true) : RenL σ nb' xs' xs := by
  subst e
  exact ⟨rfl, fun j d' d h1 h2 => by rw [h1] at h2; cases h2; exact Ren.im (idsL_mem h j _ h1)⟩
theorem Ren.agg {xs xs' : List D} (k : RenL σ nb' xs' xs) : Ren σ nb' (.agg xs') (.agg xs) := fun ρ nb I w v hv => by
  obtain ⟨us, rfl, h1, h2, h3⟩ := hv.cells
  exact .agg (by rw [k.1, h1]) h2 fun j d' u hd hu => by
    obtain ⟨d, hd'⟩ : ∃ d, xs[j]? = some d := ⟨_, List.getElem?_eq_getElem (by rw [← k.1]; exact (List.getElem?_eq_some_iff.1 hd).1)⟩
    exact k.2 j d' d hd hd' _ _ _ _ _ (h3 j d u hd' hu)
inductive WkT (σ : Nat → Nat) (nb' : Nat) (tmp : List (Nat × D)) : List (Nat × D) → Prop
  | nil : WkT σ nb' tmp []
  | cons {t : Nat} {d d' : D} {l : List (Nat × D)} (h : look t tmp = some d) (r : Ren σ nb' d' d) (k : WkT σ nb' tmp l) : WkT σ nb' tmp ((t, d') :: l)
inductive WkM (σ : Nat → Nat) (nb' : Nat) (mem : List (Nat × Option M)) : List (Nat × Option M) → Prop
  | nil : WkM σ nb' mem []
  | cons {b size n n' : Nat} {ty : TypeId} {xs xs' : List D} {l : List (Nat × Option M)} (hb : Nat.blt b nb' = true) (h : getM (σ b) mem = some ⟨ty, size, n, xs⟩) (hn : n' = n) (r : RenL σ nb' xs' xs) (k : WkM σ nb' mem l) : WkM σ nb' mem ((b, some ⟨ty, size, n', xs'⟩) :: l)
theorem WkT.look {l : List (Nat × D)} (h : WkT σ nb' tmp l) {d' : D} (hl : look t l = some d') : ∃ d, Go.Proofs.Ytpomhnmfkdgafaa.look t tmp = some d ∧ Ren σ nb' d' d := by
  induction h with
  | nil => cases hl
  | cons h r k ih =>
    rename_i s d e l'
    have hl' : cond (Nat.beq s t) (some e) (Go.Proofs.Ytpomhnmfkdgafaa.look t l') = some d' := hl
    cases hb : Nat.beq s t with
    | true => rw [hb] at hl'; cases hl'; have := Nat.eq_of_beq_eq_true hb; subst this; exact ⟨d, h, r⟩
    | false => rw [hb] at hl'; exact ih hl'
theorem WkM.get {l : List (Nat × Option M)} (h : WkM σ nb' mem l) {b : Nat} {m' : M} (hl : getM b l = some m') : b < nb' ∧ b ∈ l.map Prod.fst ∧ ∃ m, getM (σ b) mem = some m ∧ m'.ty = m.ty ∧ m'.size = m.size ∧ m'.n = m.n ∧ RenL σ nb' m'.xs m.xs := by
  induction h with
  | nil => cases hl
  | cons hb h hn r k ih =>
    rename_i b' size n n' ty xs xs' l'
    have hl' : cond (Nat.beq b' b) (some ⟨ty, size, n', xs'⟩) (getM b l') = some m' := hl
    cases hb' : Nat.beq b' b with
    | true => rw [hb'] at hl'; cases hl'; have := Nat.eq_of_beq_eq_true hb'; subst this; exact ⟨by simpa using hb, by simp, _, h, rfl, rfl, hn, r⟩
    | false => rw [hb'] at hl'; obtain ⟨h1, h2, h3⟩ := ih hl'; exact ⟨h1, by simp only [List.map_cons, List.mem_cons]; exact .inr h2, h3⟩
def nodupB : List Nat → Bool
  | [] => true
  | x :: l => l.all (fun y => !Nat.beq x y) && nodupB l
theorem nodupB_inj {α : Type} {f : α → Nat} {g : α → Nat} : ∀ {l : List α}, nodupB (l.map fun e => σ (f e)) = true → ∀ x ∈ l.map f, ∀ y ∈ l.map f, σ x = σ y → x = y
  | [], _, x, hx, _, _, _ => by simp at hx
  | e :: l, h, x, hx, y, hy, hxy => by
    simp only [List.map_cons, nodupB, Bool.and_eq_true, List.all_eq_true, Bool.not_eq_true'] at h
    obtain ⟨h1, h2⟩ := h
    have key : ∀ z ∈ l.map f, σ (f e) ≠ σ z := fun z hz hh => by
      obtain ⟨u, hu, rfl⟩ := List.mem_map.1 hz
      have := h1 (σ (f u)) (List.mem_map.2 ⟨u, hu, rfl⟩)
      rw [hh] at this
      simp at this
    rcases List.mem_cons.1 hx with rfl | hx <;> rcases List.mem_cons.1 hy with rfl | hy
    · rfl
    · exact absurd hxy (key y hy)
    · exact absurd hxy.symm (key x hx)
    · exact nodupB_inj (g := g) h2 x hx y hy hxy
theorem Wk.mk (σ : Nat → Nat) (h1 : WkT σ nb' tmp tmp') (h2 : WkM σ nb' mem mem') (h3 : nodupB (mem'.map fun e => σ e.1) = true) : Wk ⟨nb, sz, tmp, mem⟩ ⟨nb', sz, tmp', mem'⟩ := fun w0 I0 ρ I a w g => by
  refine ⟨fun b => ρ (σ b), I, ⟨g.later, g.lt, g.base, g.old, g.defers, g.sz, fun t d' ht => ?_, fun b m' hb => ?_, fun b m b' m1 hb hb' k c c' hk hk' => ?_⟩⟩
  · obtain ⟨d, hd, r⟩ := h1.look ht
    exact r _ _ _ _ _ (g.tmp t d hd)
  · obtain ⟨hlt, _, m, hm, e1, e2, e3, r⟩ := h2.get hb
    obtain ⟨_, ⟨us, ho, hx⟩, hn⟩ := (g.mem (σ b) m hm).parts
    refine MemOk.mk' (us := us) hlt (by rw [e1, e2, e3]; exact ho) ⟨by rw [r.1, hx.1], hx.2.1, fun j d' u hd hu => ?_⟩ hn
    obtain ⟨d, hd'⟩ : ∃ d, m.xs[j]? = some d := ⟨_, List.getElem?_eq_getElem (by rw [← r.1]; exact (List.getElem?_eq_some_iff.1 hd).1)⟩
    exact r.2 j d' d hd hd' _ _ _ _ _ (hx.2.2 j d u hd' hu)
  · obtain ⟨_, hb1, n1, hn1, _⟩ := h2.get hb
    obtain ⟨_, hb2, n2, hn2, _⟩ := h2.get hb'
    exact nodupB_inj (σ := σ) (f := Prod.fst) (g := Prod.fst) h3 b hb1 b' hb2 (g.inj (σ b) n1 (σ b') n2 hn1 hn2 k c c' hk hk')
theorem set_same {α : Type} {l : List α} {j : Nat} {u : α} (h : l[j]? = some u) : l.set j u = l := by
  apply List.ext_getElem?
  intro i
  rw [List.getElem?_set]
  by_cases hij : j = i
  · subst hij; rw [if_pos rfl, if_pos (List.getElem?_eq_some_iff.1 h).1, h]
  · rw [if_neg hij]
/-! ### a nil slice as a row of the call's own -/
theorem G.know (g : G w0 I0 ⟨nb, sz, tmp, mem⟩ ρ I a w) {d : D} (h : RA ρ nb I w d (a.tmps.getD t undef)) : G w0 I0 ⟨nb, sz, (t, d) :: tmp, mem⟩ ρ I a w :=
  ⟨g.later, g.lt, g.base, g.old, g.defers, g.sz, fun s e hs => by
    have hs' : cond (Nat.beq t s) (some d) (look s tmp) = some e := hs
    cases hb : Nat.beq t s with
    | true => rw [hb] at hs'; cases hs'; have := Nat.eq_of_beq_eq_true hb; subst this; exact h
    | false => rw [hb] at hs'; exact g.tmp s e hs', g.mem, g.inj⟩
theorem G.recell (g : G w0 I0 ⟨nb, sz, tmp, mem⟩ ρ I a w) {c : Nat} {m : M} {xs' : List D} (hm : getM c mem = some m) (h : ∀ us, AllRA ρ nb I w m.xs us → AllRA ρ nb I w xs' us) : G w0 I0 ⟨nb, sz, tmp, (c, some ⟨m.ty, m.size, m.n, xs'⟩) :: mem⟩ ρ I a w := by
  have hmem : ∀ b' m', getM b' ((c, some ⟨m.ty, m.size, m.n, xs'⟩) :: mem) = some m' → (b' = c ∧ m' = ⟨m.ty, m.size, m.n, xs'⟩) ∨ getM b' mem = some m' := by
    intro b' m' h
    have h' : cond (Nat.beq c b') (some ⟨m.ty, m.size, m.n, xs'⟩) (getM b' mem) = some m' := h
    cases hb : Nat.beq c b' with
    | true => rw [hb] at h'; cases h'; exact .inl ⟨(Nat.eq_of_beq_eq_true hb).symm, rfl⟩
    | false => rw [hb] at h'; exact .inr h'
  refine ⟨g.later, g.lt, g.base, g.old, g.defers, g.sz, g.tmp, fun b' m' hm' => ?_, fun b1 m1 b2 m2 h1 h2 => ?_⟩
  · rcases hmem b' m' hm' with ⟨rfl, rfl⟩ | h'
    · obtain ⟨h1, ⟨us, ho, hx⟩, hn⟩ := (g.mem b' m hm).parts
      exact MemOk.mk' h1 (us := us) ho (h us hx) hn
    · exact g.mem b' m' h'
  · have e1 : ∃ m, getM b1 mem = some m := by
      rcases hmem b1 m1 h1 with ⟨rfl, _⟩ | h
      · exact ⟨m, hm⟩
      · exact ⟨_, h⟩
    have e2 : ∃ m, getM b2 mem = some m := by
      rcases hmem b2 m2 h2 with ⟨rfl, _⟩ | h
      · exact ⟨m, hm⟩
      · exact ⟨_, h⟩
    obtain ⟨n1, e1⟩ := e1
    obtain ⟨n2, e2⟩ := e2
    exact g.inj b1 n1 b2 n2 e1 e2
theorem G.void (g : G w0 I0 ⟨nb, sz, tmp, mem⟩ ρ I a w) (e : TypeId) (size : Nat) : G w0 I0 ⟨nb + 1, sz, tmp, (nb, some ⟨e, size, 0, []⟩) :: mem⟩ (upd ρ nb none) I a w :=
  g.renew ⟨e, size, 0, []⟩ mem none none (us := []) (grown_refl w none) (fun k hk => by cases hk) (fun b m h => ⟨h, fun k c _ hh => by cases hh⟩) (fun b m k c c' h hk hk' => by cases hk') (fun k c hk => by cases hk) (World.ownsRow_nil _ _ _ _) ⟨rfl, fun u hu => by simp at hu, fun j d u hj => by simp at hj⟩
theorem void_own (ρ : Rho) (nb : Nat) (I : Nat → Prop) (w : World) : RA (upd ρ nb none) (nb + 1) I w (.own nb 0) (.slice none 0 0) := by
  have h := RA.own (ρ := upd ρ nb none) (nb := nb + 1) (I := I) (w := w) (b := nb) (n := 0) (Nat.lt_succ_self _) (fun _ => rfl)
  rw [upd_same] at h
  exact h
theorem Wk.adoptT (t : Nat) (e : TypeId) (size : Nat) (h : look t tmp = some (.val (.slice none 0 0))) : Wk ⟨nb, sz, tmp, mem⟩ ⟨nb + 1, sz, (t, .own nb 0) :: tmp, (nb, some ⟨e, size, 0, []⟩) :: mem⟩ := fun w0 I0 ρ I a w g =>
  ⟨_, I, (g.void e size).know (by rw [(g.tmp t _ h).val_eq]; exact void_own ρ nb I w)⟩
theorem Wk.adoptM (c j : Nat) (e : TypeId) (size : Nat) {m : M} (hm : getM c mem = some m) (h : m.xs[j]? = some (.val (.slice none 0 0))) : Wk ⟨nb, sz, tmp, mem⟩ ⟨nb + 1, sz, tmp, (c, some ⟨m.ty, m.size, m.n, m.xs.set j (.own nb 0)⟩) :: (nb, some ⟨e, size, 0, []⟩) :: mem⟩ := fun w0 I0 ρ I a w g => by
  have hc : c < nb := (g.mem c m hm).parts.1
  have hne : Nat.beq nb c = false := by
    cases hb : Nat.beq nb c with
    | true => have := Nat.eq_of_beq_eq_true hb; omega
    | false => rfl
  refine ⟨_, I, (g.void e size).recell (c := c) (m := m) (by show cond (Nat.beq nb c) _ _ = _; rw [hne]; exact hm) fun us hx => ?_⟩
  obtain ⟨u, hu⟩ : ∃ u, us[j]? = some u := ⟨_, List.getElem?_eq_getElem (by rw [← hx.1]; exact (List.getElem?_eq_some_iff.1 h).1)⟩
  have hv := (hx.2.2 j _ u h hu).val_eq
  subst hv
  have := hx.set j (void_own ρ nb I w) rfl
  have e2 : us.set j (.slice none 0 0) = us := set_same hu
  rw [e2] at this
  exact this
/-! ### a row that is no more written to -/
theorem G.freeze (g : G w0 I0 ⟨nb, sz, tmp, mem⟩ ρ I a w) {b : Nat} {m : M} (hm : getM b mem = some m) (hc : D.idsL (fun _ => false) m.xs = true) : ∃ I', G w0 I0 ⟨nb, sz, tmp, (b, none) :: mem⟩ ρ I' a w ∧ (∀ b, I b → I' b) ∧
    (∀ v, RA ρ nb I' w (.own b m.n) v → RA ρ nb I' w (.row m.n m.xs) v) ∧ (∀ off v, RA ρ nb I' w (.ptr b off) v → RA ρ nb I' w (.obj (m.xs.drop off)) v) := by
  obtain ⟨hb, ⟨us, ho, hx⟩, hn⟩ := (g.mem b m hm).parts
  have hsub : ∀ b1 m1, getM b1 ((b, none) :: mem) = some m1 → b1 ≠ b ∧ getM b1 mem = some m1 := fun b1 m1 h => by
    have h' : cond (Nat.beq b b1) none (getM b1 mem) = some m1 := h
    cases hbb : Nat.beq b b1 with
    | true => rw [hbb] at h'; cases h'
    | false => rw [hbb] at h'; exact ⟨fun e => Nat.ne_of_beq_eq_false hbb e.symm, h'⟩
  have hI : ∀ k, I k → (fun k => I k ∨ ∃ c, ρ b = some (k, c)) k := fun k h => .inl h
  have hmv : ∀ d v, RA ρ nb I w d v → RA ρ nb (fun k => I k ∨ ∃ c, ρ b = some (k, c)) w d v := fun d v h => h.move (Nat.le_refl _) hI (fun _ _ => rfl)
  have hcl : ∀ (j : Nat) (d : D) (u : Value), m.xs[j]? = some d → us[j]? = some u → RC (fun k => I k ∨ ∃ c, ρ b = some (k, c)) w d u := fun j d u h1 h2 => (hmv _ _ (hx.2.2 j d u h1 h2)).closed (idsL_mem hc j d h1)
  refine ⟨fun k => I k ∨ ∃ c, ρ b = some (k, c), ⟨g.later, fun k hk => ?_, fun k hk => ?_, fun k hk => ⟨.inl (g.old k hk).1, (g.old k hk).2⟩, g.defers, g.sz, fun t d h => hmv _ _ (g.tmp t d h), fun b1 m1 h => ?_, fun b1 m1 b2 m2 h1 h2 => g.inj b1 m1 b2 m2 (hsub _ _ h1).2 (hsub _ _ h2).2⟩, hI, fun v hv => ?_, fun off v hv => ?_⟩
  · rcases hk with h | ⟨c, h⟩
    · exact g.lt k h
    · exact ((g.mem b m hm).lt h).2
  · rcases hk with h | ⟨c, h⟩
    · exact g.base k h
    · exact .inr ((g.mem b m hm).lt h).1
  · obtain ⟨hne, h1⟩ := hsub b1 m1 h
    obtain ⟨h3, ⟨vs, ho', hx'⟩, hn'⟩ := (g.mem b1 m1 h1).parts
    refine MemOk.mk' h3 (us := vs) ho' ⟨hx'.1, hx'.2.1, fun j d u a b => hmv _ _ (hx'.2.2 j d u a b)⟩ fun k c hk hI' => ?_
    rcases hI' with h | ⟨c', h⟩
    · exact hn' k c hk h
    · exact hne (g.inj b1 m1 b m h1 hm _ _ _ hk h)
  · cases hv with
    | im h => cases h
    | own hb' h0 =>
      refine .im ?_
      cases hρ : ρ b with
      | none =>
        have hz := h0 hρ
        rw [hρ] at ho
        have hu : us = [] := List.eq_nil_of_length_eq_zero (by have := ho.1; rw [hz] at this; simpa using this)
        subst hu
        have hxs : m.xs = [] := List.eq_nil_of_length_eq_zero hx.1
        rw [hxs, hz]
        exact (RC.val (.slice none 0 0) rfl).nil_row
      | some gc =>
        obtain ⟨gb, cap⟩ := gc
        rw [hρ] at ho
        simp only [hρ] at hcl
        rcases ho.2 with ⟨h', _⟩ | ⟨g', cap', cur, h', _, _, hnc, hcm, _, _⟩
        · simp [sv] at h'
        · simp only [sv, Value.slice.injEq, Option.some.injEq, Addr.mk.injEq, and_true, true_and] at h'
          obtain ⟨rfl, rfl⟩ := h'
          exact .row hnc hcm (fun h => by cases h) (us := us) hx.1 (fun _ => ⟨rfl, .inr ⟨cap, rfl⟩⟩) (ownsRow_lies ho) hx.2.1 hcl
  · cases hv with
    | im h => cases h
    | ptr hb' hρ =>
      rename_i gb cap
      rw [hρ] at ho
      have hl := (ownsRow_lies ho).drop off
      rw [Nat.zero_add] at hl
      exact .im (.obj (.inr ⟨cap, hρ⟩) (us := us.drop off) (by simp [hx.1]) hl (fun u hu => hx.2.1 u (List.mem_of_mem_drop hu)) fun j d u h1 h2 => hcl (off + j) d u (by simpa using h1) (by simpa using h2))
def frz (b : Nat) (m : M) : D → D
  | .own b' n => cond (Nat.beq b' b && Nat.beq n m.n) (.row n m.xs) (.own b' n)
  | .ptr b' off => cond (Nat.beq b' b) (.obj (m.xs.drop off)) (.ptr b' off)
  | d => d
theorem frz_ok {b : Nat} {m : M} (h1 : ∀ v, RA ρ nb I w (.own b m.n) v → RA ρ nb I w (.row m.n m.xs) v) (h2 : ∀ off v, RA ρ nb I w (.ptr b off) v → RA ρ nb I w (.obj (m.xs.drop off)) v) {d : D} {v : Value} (h : RA ρ nb I w d v) : RA ρ nb I w (frz b m d) v := by
  cases d with
  | own b' n =>
    simp only [frz]
    cases hb : (Nat.beq b' b && Nat.beq n m.n) with
    | false => exact h
    | true =>
      simp only [Bool.and_eq_true] at hb
      have e1 := Nat.eq_of_beq_eq_true hb.1
      have e2 := Nat.eq_of_beq_eq_true hb.2
      subst e1; subst e2; exact h1 v h
  | ptr b' off =>
    simp only [frz]
    cases hb : Nat.beq b' b with
    | false => exact h
    | true => have e1 := Nat.eq_of_beq_eq_true hb; subst e1; exact h2 off v h
  | _ => exact h
theorem look_map {f : D → D} {t : Nat} : ∀ {l : List (Nat × D)} {d : D}, look t (l.map fun e => (e.1, f e.2)) = some d → ∃ e, look t l = some e ∧ d = f e
  | [], _, h => by cases h
  | e :: l, d, h => by
    have h' : cond (Nat.beq e.1 t) (some (f e.2)) (look t (l.map fun e => (e.1, f e.2))) = some d := h
    cases hb : Nat.beq e.1 t with
    | true => rw [hb] at h'; cases h'; exact ⟨e.2, by show cond (Nat.beq e.1 t) _ _ = _; rw [hb]; rfl, rfl⟩
    | false => rw [hb] at h'; obtain ⟨x, h1, h2⟩ := look_map (show look t (l.map fun e => (e.1, f e.2)) = some d from h'); exact ⟨x, by show cond (Nat.beq e.1 t) _ _ = _; rw [hb]; exact h1, h2⟩
theorem Wk.freeze (b : Nat) {m : M} (hm : getM b mem = some m) (hc : D.idsL (fun _ => false) m.xs = true) : Wk ⟨nb, sz, tmp, mem⟩ ⟨nb, sz, tmp.map fun e => (e.1, frz b m e.2), (b, none) :: mem⟩ := fun w0 I0 ρ I a w g => by
  obtain ⟨I', g', hI, h1, h2⟩ := g.freeze hm hc
  refine ⟨ρ, I', ⟨g'.later, g'.lt, g'.base, g'.old, g'.defers, g'.sz, fun t d h => ?_, g'.mem, g'.inj⟩⟩
  obtain ⟨e, he, rfl⟩ := look_map h
  exact frz_ok h1 h2 (g'.tmp t e he)
/-- the row that a cell of another row holds -/
theorem Wk.freezeM (c j b : Nat) {m mc : M} (hm : getM b mem = some m) (hc : D.idsL (fun _ => false) m.xs = true) (hmc : getM c mem = some mc) (hj : mc.xs[j]? = some (.own b m.n)) (hne : Nat.beq b c = false) :
    Wk ⟨nb, sz, tmp, mem⟩ ⟨nb, sz, tmp.map fun e => (e.1, frz b m e.2), (c, some ⟨mc.ty, mc.size, mc.n, mc.xs.set j (.row m.n m.xs)⟩) :: (b, none) :: mem⟩ := fun w0 I0 ρ I a w g => by
  obtain ⟨I', g', hI, h1, h2⟩ := g.freeze hm hc
  have g2 : G w0 I0 ⟨nb, sz, tmp.map fun e => (e.1, frz b m e.2), (b, none) :: mem⟩ ρ I' a w := ⟨g'.later, g'.lt, g'.base, g'.old, g'.defers, g'.sz, fun t d h => by
    obtain ⟨e, he, rfl⟩ := look_map h
    exact frz_ok h1 h2 (g'.tmp t e he), g'.mem, g'.inj⟩
  refine ⟨ρ, I', g2.recell (c := c) (m := mc) (by show cond (Nat.beq b c) _ _ = _; rw [hne]; exact hmc) fun us hx => ?_⟩
  obtain ⟨u, hu⟩ : ∃ u, us[j]? = some u := ⟨_, List.getElem?_eq_getElem (by rw [← hx.1]; exact (List.getElem?_eq_some_iff.1 hj).1)⟩
  have := hx.set j (h1 u (hx.2.2 j _ u hj hu)) (hx.2.1 u (List.mem_of_getElem? hu))
  have e2 : us.set j u = us := set_same hu
  rw [e2] at this
  exact this
/-! ### the frame of a function -/
inductive ResV (P : Program) (S : St) : List ResultVar → List D → Prop
  | nil : ResV P S [] []
  | tmp {t : Nat} {d : D} {l : List ResultVar} {ds : List D} (h : look t S.tmp = some d) (k : ResV P S l ds) : ResV P S (.tmp t :: l) (d :: ds)
  | cell {t : Nat} {T : TypeId} {p d : D} {ys : List D} {l : List ResultVar} {ds : List D} [hT : TyCell P T] (h : look t S.tmp = some p) (hc : cellsD S.mem p = some (d :: ys)) (k : ResV P S l ds) : ResV P S (.cell t T :: l) (d :: ds)
  | agg {t n : Nat} {T : TypeId} {p : D} {ys zs : List D} {l : List ResultVar} {ds : List D} [hT : TyAgg P T n] (h : look t S.tmp = some p) (hc : cellsD S.mem p = some ys) (hz : ys.take n = zs) (hl : zs.length = n) (k : ResV P S l ds) : ResV P S (.cell t T :: l) (.agg zs :: ds)
theorem ResV.agg1 {S : St} {t : Nat} {T : TypeId} {p e1 : D} {ys : List D} {l : List ResultVar} {ds : List D} [hT : TyAgg P T 1] (h : look t S.tmp = some p) (hc : cellsD S.mem p = some (e1 :: ys)) (k : ResV P S l ds) : ResV P S (.cell t T :: l) (.agg [e1] :: ds) := .agg h hc rfl rfl k
theorem ResV.agg2 {S : St} {t : Nat} {T : TypeId} {p e1 e2 : D} {ys : List D} {l : List ResultVar} {ds : List D} [hT : TyAgg P T 2] (h : look t S.tmp = some p) (hc : cellsD S.mem p = some (e1 :: e2 :: ys)) (k : ResV P S l ds) : ResV P S (.cell t T :: l) (.agg [e1, e2] :: ds) := .agg h hc rfl rfl k
theorem ResV.agg3 {S : St} {t : Nat} {T : TypeId} {p e1 e2 e3 : D} {ys : List D} {l : List ResultVar} {ds : List D} [hT : TyAgg P T 3] (h : look t S.tmp = some p) (hc : cellsD S.mem p = some (e1 :: e2 :: e3 :: ys)) (k : ResV P S l ds) : ResV P S (.cell t T :: l) (.agg [e1, e2, e3] :: ds) := .agg h hc rfl rfl k
theorem ResV.agg4 {S : St} {t : Nat} {T : TypeId} {p e1 e2 e3 e4 : D} {ys : List D} {l : List ResultVar} {ds : List D} [hT : TyAgg P T 4] (h : look t S.tmp = some p) (hc : cellsD S.mem p = some (e1 :: e2 :: e3 :: e4 :: ys)) (k : ResV P S l ds) : ResV P S (.cell t T :: l) (.agg [e1, e2, e3, e4] :: ds) := .agg h hc rfl rfl k
def tupD : List D → D
  | [d] => d
  | ds => .tup ds
/-- whatever reads as d reads as r -/
def Sub (d r : D) : Prop := ∀ ρ nb I w v, RA ρ nb I w d v → RC I w r v
theorem Sub.im {d : D} (h : d.ids (fun _ => false) = true) : Sub d d := fun ρ nb I w v hv => hv.closed h
theorem Sub.eq {d r : D} (e : d = r) (h : r.ids (fun _ => false) = true) : Sub d r := by subst e; exact Sub.im h
theorem Sub.nil : Sub (.val (.slice none 0 0)) (.row 0 []) := fun ρ nb I w v hv => (hv.closed rfl).nil_row
def SubL (xs ys : List D) : Prop := ys.length = xs.length ∧ ∀ (j : Nat) (d r : D), xs[j]? = some d → ys[j]? = some r → Sub d r
theorem SubL.nil : SubL [] [] := ⟨rfl, fun j d r h => by simp at h⟩
theorem SubL.cons {d r : D} {xs ys : List D} (h : Sub d r) (k : SubL xs ys) : SubL (d :: xs) (r :: ys) := ⟨by simp [k.1], fun j e s h1 h2 => by
  cases j with
  | zero => simp at h1 h2; subst h1; subst h2; exact h
  | succ j => exact k.2 j e s (by simpa using h1) (by simpa using h2)⟩
theorem Sub.tup {xs ys : List D} (k : SubL xs ys) : Sub (.tup xs) (.tup ys) := fun ρ nb I w v hv => by
  obtain ⟨us, rfl, h1, h3⟩ := hv.parts
  exact .tup (by rw [k.1, h1]) fun j r u hr hu => by
    obtain ⟨d, hd⟩ : ∃ d, xs[j]? = some d := ⟨_, List.getElem?_eq_getElem (by rw [← k.1]; exact (List.getElem?_eq_some_iff.1 hr).1)⟩
    exact k.2 j d r hd hr _ _ _ _ _ (h3 j d u hd hu)
theorem Sub.agg {xs ys : List D} (k : SubL xs ys) : Sub (.agg xs) (.agg ys) := fun ρ nb I w v hv => by
  obtain ⟨us, rfl, h1, h2, h3⟩ := hv.cells
  exact .agg (by rw [k.1, h1]) h2 fun j r u hr hu => by
    obtain ⟨d, hd⟩ : ∃ d, xs[j]? = some d := ⟨_, List.getElem?_eq_getElem (by rw [← k.1]; exact (List.getElem?_eq_some_iff.1 hr).1)⟩
    exact k.2 j d r hd hr _ _ _ _ _ (h3 j d u hd hu)
def kEnd0 (P : Program) (rs : List ResultVar) (r : D) : Exit → St → Prop
  | .normal, S | .ret, S => ∃ S' ds, Wk S S' ∧ ResV P S' rs ds ∧ Sub (tupD ds) r
  | _, _ => False
structure kEnd (P : Program) (rs : List ResultVar) (r : D) (e : Exit) (S : St) : Prop where
  h : kEnd0 P rs r e S
theorem kEnd_n {rs : List ResultVar} {r : D} {S S' : St} {ds : List D} (h : Wk S S') (h1 : ResV P S' rs ds) (h2 : Sub (tupD ds) r) : kEnd P rs r .normal S := ⟨⟨S', ds, h, h1, h2⟩⟩
theorem kEnd_r {rs : List ResultVar} {r : D} {S S' : St} {ds : List D} (h : Wk S S') (h1 : ResV P S' rs ds) (h2 : Sub (tupD ds) r) : kEnd P rs r .ret S := ⟨⟨S', ds, h, h1, h2⟩⟩
def resSem (tmps : Array Value) : ResultVar → Sem Value
  | .tmp t => pure (tmps.getD t undef)
  | .cell p t => do loadVar t (← asAddr (tmps.getD p undef))
theorem ResV.run {S : St} (g : G w0 I0 S ρ I a w) : ∀ {rs : List ResultVar} {ds : List D}, ResV P S rs ds → ∃ us : List Value, (rs.mapM (resSem a.tmps)).run P w = .ok us w ∧ ds.length = us.length ∧ ∀ (j : Nat) (d : D) (u : Value), ds[j]? = some d → us[j]? = some u → RA ρ S.nb I w d u
  | [], _, h => by cases h; exact ⟨[], by simp, rfl, fun j d u hj => by simp at hj⟩
  | .tmp t :: rs, _, h => by
    cases h with
    | tmp h k =>
      rename_i d ds
      obtain ⟨us, h1, h2, h3⟩ := k.run g
      refine ⟨a.tmps.getD t undef :: us, by simp [List.mapM_cons, resSem]; simp [h1], by simp [h2], fun j e u hj hu => ?_⟩
      cases j with
      | zero => simp at hj; simp only [List.getElem?_cons_zero, Option.some.injEq] at hu; subst hj; subst hu; exact g.tmp t _ h
      | succ j => exact h3 j e u (by simpa using hj) (by simpa using hu)
  | .cell t T :: rs, _, h => by
    cases h with
    | cell h hc k =>
      rename_i p d ys ds hT
      obtain ⟨us, h1, h2, h3⟩ := k.run g
      obtain ⟨b, off, vs, e1, e2, hl, _, hr⟩ := g.pointed (g.tmp t _ h) hc
      obtain ⟨u, us', rfl⟩ : ∃ u us', vs = u :: us' := by cases vs with | nil => simp at hl | cons u us' => exact ⟨u, us', rfl⟩
      have hcell : w.cell? ⟨b, off, none⟩ = some u := e2 0 u rfl
      obtain ⟨dd, hd1, hd2⟩ := hT.desc
      have hagg : (isAgg T).run P w = .ok false w := by
        unfold isAgg
        rw [Sem.run_bind, run_underlying hd1 w]
        cases dd <;> simp_all [aggDesc]
      have e1' : a.tmps[t]?.getD undef = .pointer (some ⟨b, off, none⟩) := by simpa using e1
      refine ⟨u :: us, by simp [List.mapM_cons, resSem]; simp [e1', asAddr, loadVar, hagg, run_load, hcell, h1], by simp [h2], fun j e v hj hu => ?_⟩
      cases j with
      | zero => simp at hj hu; subst hj; subst hu; exact hr 0 _ _ rfl rfl
      | succ j => exact h3 j e v (by simpa using hj) (by simpa using hu)
    | agg h hc hz hl0 k =>
      rename_i n p ys zs ds hT
      obtain ⟨us, h1, h2, h3⟩ := k.run g
      obtain ⟨b, off, vs, e1, e2, e3⟩ := g.pointed (g.tmp t _ h) hc
      obtain ⟨dd, hd1, hd2⟩ := hT.desc
      have h4 := e3.take n
      rw [hz] at h4
      have hlen : (vs.take n).length = n := by rw [← h4.1, hl0]
      have hr := run_loadVar_mid (P := P) w b off T (vs.take n) dd (e2.take n) hd1 (by cases dd <;> simp_all [aggDesc]) (by rw [hlen]; exact hT.size)
      have e1' : a.tmps[t]?.getD undef = .pointer (some ⟨b, off, none⟩) := by simpa using e1
      refine ⟨.agg (vs.take n).toArray :: us, by simp [List.mapM_cons, resSem]; simp [e1', asAddr, hr, h1], by simp [h2], fun j e v hj hu => ?_⟩
      cases j with
      | zero => simp only [List.getElem?_cons_zero, Option.some.injEq] at hj hu; subst hj; subst hu; exact .agg h4.1 h4.2.1 h4.2.2
      | succ j => exact h3 j e v (by simpa using hj) (by simpa using hu)
theorem results_run {S : St} {fn : Func} (g : G w0 I0 S ρ I a w) {ds : List D} (h : ResV P S fn.results.toList ds) : ∃ v, (results fn a.tmps).run P w = .ok v w ∧ RA ρ S.nb I w (tupD ds) v := by
  obtain ⟨us, h1, h2, h3⟩ := h.run g
  have hm : (fn.results.mapM (resSem a.tmps)).run P w = .ok us.toArray w := by
    rw [Array.mapM_eq_mapM_toList]
    simp only [Sem.run_map]
    rw [h1]; rfl
  unfold results
  rw [Sem.run_bind]
  refine ⟨if h : us.toArray.size = 1 then us.toArray[0] else .tuple us.toArray, ?_, ?_⟩
  · exact (congrArg (fun r => Result.andThen r _) hm).trans rfl
  · match ds, us, h2, h3 with
    | [], [], _, _ => exact .tup rfl fun j d u hj => by simp at hj
    | [d], [u], _, h3 => exact h3 0 d u rfl rfl
    | d :: e :: ds, u :: v :: us, h2, h3 => simp; exact .tup h2 h3
def slots : Nat → List D → List (Nat × D)
  | _, [] => []
  | i, d :: ds => (i, d) :: slots (i + 1) ds
theorem look_slots {t : Nat} : ∀ {ds : List D} {i : Nat} {d : D}, look t (slots i ds) = some d → i ≤ t ∧ ds[t - i]? = some d
  | [], i, d, h => by cases h
  | e :: ds, i, d, h => by
    have h' : cond (Nat.beq i t) (some e) (look t (slots (i + 1) ds)) = some d := h
    cases hb : Nat.beq i t with
    | true => rw [hb] at h'; cases h'; have := Nat.eq_of_beq_eq_true hb; subst this; simp
    | false =>
      rw [hb] at h'
      obtain ⟨h1, h2⟩ := look_slots (show look t (slots (i + 1) ds) = some d from h')
      refine ⟨by omega, ?_⟩
      rw [show t - i = (t - (i + 1)) + 1 by omega]
      simpa using h2
theorem DC.of {f sz : Nat} {fn : Func} {c : Code} {ds : List D} {r : D} {rs : List ResultVar} (hf : P.funcs[f]? = some fn) (hsz : fn.ntmps = sz) (hrs : fn.results = rs.toArray) (hb : fn.body = some c) (hn : (fn.name == "runtime.NumGoroutine") = false) (hs : Nat.ble ds.length sz = true)
    (h : C P c ⟨0, sz, slots 0 ds, []⟩ (kEnd P rs r)) : DC P f ds r := by
  subst hsz
  obtain rfl : rs = fn.results.toList := by rw [hrs]
  refine ⟨⟨fn, hf, hn, by rw [hb]; rfl⟩, fun w I vs hI hl hv => ?_⟩
  have hs := Nat.le_of_ble_eq_true hs
  refine calls_of_wp hf hb (h.h w ⟨I, fun b => w.heap[b]?⟩ (fun _ => none) I _ w _ ?_ ?_)
  · refine ⟨Later.refl w, hI, fun b h => .inl h, fun b h => ⟨h, rfl⟩, rfl, by simp; omega, fun t d ht => ?_, (fun b m h => by cases h), (fun b m b' m' h => by cases h)⟩
    obtain ⟨_, h2⟩ := look_slots ht
    have hlt := (List.getElem?_eq_some_iff.1 h2).1
    rw [Nat.sub_zero] at h2 hlt
    have e : (vs.toArray ++ Array.replicate (fn.ntmps - vs.toArray.size) undef).getD t undef = vs[t]'(by omega) := by
      simp [Array.getElem?_append, show t < vs.length by omega]
    rw [e]
    exact .im (hv t d _ h2 (List.getElem?_eq_getElem (by omega)))
  · intro e S' ρ' I' a' w' hk g
    have key : ∀ S1 ds', Wk S' S1 → ResV P S1 fn.results.toList ds' → Sub (tupD ds') r → a'.defers = [] ∧ ∃ v, (results fn a'.tmps).run P w' = .ok v w' ∧ ∃ v', Ending.returned v = .returned v' ∧ RC (fun b => I b ∨ (w.heap.size ≤ b ∧ b < w'.heap.size)) w' r v' ∧ Later w w' := by
      intro S1 ds' h1 h2 h3
      obtain ⟨ρ2, I2, g2⟩ := h1 _ _ _ _ _ _ g
      obtain ⟨v, hr, hv⟩ := results_run g2 h2
      exact ⟨g2.defers, v, hr, v, rfl, (h3 _ _ _ _ _ hv).move (fun b hb => (g2.base b hb).elim .inl fun h => .inr ⟨h, g2.lt b hb⟩) (fun _ _ => rfl), g2.later⟩
    replace hk := hk.h
    cases e with
    | normal => obtain ⟨S1, ds', h1, h2, h3⟩ := hk; exact key S1 ds' h1 h2 h3
    | ret => obtain ⟨S1, ds', h1, h2, h3⟩ := hk; exact key S1 ds' h1 h2 h3
    | _ => exact hk.elim
end
end Go.Proofs.Ytpomhnmfkdgafaa
namespace Go.Proofs.Ytpomhnmfkdgafaa
open Go.RowKit
set_option linter.unusedVariables false
set_option linter.unusedSimpArgs false
def dependsB (o : Oper) (j : Nat) : Bool := o.after.toList.any fun e => Region.binds .any e && Nat.beq e.on j
def depF (o : Oper) (tmp : List (Nat × D)) : List (Nat × Nat × D) → List (Nat × D)
  | [] => tmp
  | x :: fs => cond (dependsB o x.1) (x.2 :: depF o tmp fs) (depF o tmp fs)
theorem look_dep {o : Oper} {tmp : List (Nat × D)} {t : Nat} {d : D} : ∀ {fs : List (Nat × Nat × D)}, look t (depF o tmp fs) = some d → (∃ j, (j, t, d) ∈ fs ∧ dependsB o j = true) ∨ look t tmp = some d
  | [], h => .inr h
  | x :: fs, h => by
    unfold depF at h
    cases hx : dependsB o x.1 with
    | false =>
      rw [hx] at h
      rcases look_dep h with ⟨j, h1, h2⟩ | h
      · exact .inl ⟨j, List.mem_cons_of_mem _ h1, h2⟩
      · exact .inr h
    | true =>
      rw [hx] at h
      have h' : cond (Nat.beq x.2.1 t) (some x.2.2) (look t (depF o tmp fs)) = some d := h
      cases hb : Nat.beq x.2.1 t with
      | true =>
        rw [hb] at h'
        have := Nat.eq_of_beq_eq_true hb
        cases h'
        obtain ⟨j, s, e⟩ := x
        simp only at this
        subst this
        exact .inl ⟨j, List.mem_cons_self, hx⟩
      | false =>
        rw [hb] at h'
        rcases look_dep h' with ⟨j, h1, h2⟩ | h
        · exact .inl ⟨j, List.mem_cons_of_mem _ h1, h2⟩
        · exact .inr h
def Head0 (P : Program) (ops : Array Oper) (nb sz : Nat) (tmp : List (Nat × D)) (mem : List (Nat × Option M)) : List Oper → Nat → List (Nat × Nat × D) → (List (Nat × Nat × D) → Prop) → Prop
  | [], _, fs, K => K fs
  | o :: l, i, fs, K => ∃ t d, o.dst = some t ∧ Nat.blt t sz = true ∧
      ((St.guard ⟨nb, sz, depF o tmp fs, mem⟩ ops o = some true ∧ PStep P o ⟨nb, sz, depF o tmp fs, mem⟩ d) ∨ (St.guard ⟨nb, sz, depF o tmp fs, mem⟩ ops o = some false ∧ d = .junk)) ∧ Head0 P ops nb sz tmp mem l (i + 1) ((i, t, d) :: fs) K
structure Head (P : Program) (ops : Array Oper) (nb sz : Nat) (tmp : List (Nat × D)) (mem : List (Nat × Option M)) (l : List Oper) (i : Nat) (fs : List (Nat × Nat × D)) (K : List (Nat × Nat × D) → Prop) : Prop where
  h : Head0 P ops nb sz tmp mem l i fs K
def factsOf : List (Nat × Nat × D) → List (Nat × D) → List (Nat × D)
  | [], tmp => tmp
  | x :: fs, tmp => x.2 :: factsOf fs tmp
def junks : List Oper → List (Nat × D) → List (Nat × D)
  | [], tmp => tmp
  | o :: l, tmp => match o.dst with
    | some t => (t, .junk) :: junks l tmp
    | none => junks l tmp
section
variable {P : Program} {ops : Array Oper} {nb sz : Nat} {tmp : List (Nat × D)} {mem : List (Nat × Option M)}
variable {l : List Oper} {i : Nat} {fs : List (Nat × Nat × D)} {K : List (Nat × Nat × D) → Prop} {t : Nat} {op : Op} {ty : TypeId} {pos : String} {af : Array Edge} {gd : Option (Nat × Bool)}
theorem H_nil (h : K fs) : Head P ops nb sz tmp mem [] i fs K := ⟨h⟩
theorem H_step {d : D} (h : PStep P ⟨some t, op, ty, pos, af, gd⟩ ⟨nb, sz, depF ⟨some t, op, ty, pos, af, gd⟩ tmp fs, mem⟩ d) (hg : St.guard ⟨nb, sz, depF ⟨some t, op, ty, pos, af, gd⟩ tmp fs, mem⟩ ops ⟨some t, op, ty, pos, af, gd⟩ = some true) (ht : Nat.blt t sz = true)
    (k : Head P ops nb sz tmp mem l (i + 1) ((i, t, d) :: fs) K) : Head P ops nb sz tmp mem (⟨some t, op, ty, pos, af, gd⟩ :: l) i fs K := ⟨⟨t, d, rfl, ht, .inl ⟨hg, h⟩, k.h⟩⟩
theorem H_pass (hg : St.guard ⟨nb, sz, depF ⟨some t, op, ty, pos, af, gd⟩ tmp fs, mem⟩ ops ⟨some t, op, ty, pos, af, gd⟩ = some false) (ht : Nat.blt t sz = true)
    (k : Head P ops nb sz tmp mem l (i + 1) ((i, t, .junk) :: fs) K) : Head P ops nb sz tmp mem (⟨some t, op, ty, pos, af, gd⟩ :: l) i fs K := ⟨⟨t, .junk, rfl, ht, .inr ⟨hg, rfl⟩, k.h⟩⟩
theorem H_guard {o : Oper} {b : Bool} (hg : St.guard ⟨nb, sz, depF o tmp fs, mem⟩ ops o = some b) (h1 : b = true → Head P ops nb sz tmp mem (o :: l) i fs K) (h2 : b = false → Head P ops nb sz tmp mem (o :: l) i fs K) : Head P ops nb sz tmp mem (o :: l) i fs K := by
  cases b
  · exact h2 rfl
  · exact h1 rfl
/-- each operation of the head, by itself -/
def StepsOK (P : Program) (ops : Array Oper) (nb sz : Nat) (tmp : List (Nat × D)) (mem : List (Nat × Option M)) (l : List Oper) (i : Nat) (all : List (Nat × Nat × D)) : Prop :=
  ∀ k o, l[k]? = some o → ∃ t d fs, (i + k, t, d) ∈ all ∧ (∀ x ∈ fs, x ∈ all) ∧ o.dst = some t ∧ t < sz ∧
    ((St.guard ⟨nb, sz, depF o tmp fs, mem⟩ ops o = some true ∧ PStep P o ⟨nb, sz, depF o tmp fs, mem⟩ d) ∨ (St.guard ⟨nb, sz, depF o tmp fs, mem⟩ ops o = some false ∧ d = .junk))
theorem Head0.steps : ∀ {l : List Oper} {i : Nat} {fs : List (Nat × Nat × D)}, (∀ x ∈ fs, x.1 < i) → (∀ x ∈ fs, ∀ y ∈ fs, x.1 = y.1 → x = y) → Head0 P ops nb sz tmp mem l i fs K → ∃ all, K all ∧ (∀ x ∈ fs, x ∈ all) ∧ (∀ x ∈ all, x ∈ fs ∨ ∃ k o, l[k]? = some o ∧ x.1 = i + k ∧ o.dst = some x.2.1) ∧ StepsOK P ops nb sz tmp mem l i all ∧ (∀ x ∈ all, ∀ y ∈ all, x.1 = y.1 → x = y)
  | [], i, fs, _, hu, h => ⟨fs, h, fun x hx => hx, fun x hx => .inl hx, fun k o hk => by simp at hk, hu⟩
  | o :: l, i, fs, hlt, hu, ⟨t, d, h1, h2, h3, h4⟩ => by
    obtain ⟨all, a1, a2, a3, a4, a5⟩ := Head0.steps (fun x hx => by
      rcases List.mem_cons.1 hx with rfl | hx
      · exact Nat.lt_succ_self _
      · exact Nat.lt_succ_of_lt (hlt x hx)) (fun x hx y hy hxy => by
      rcases List.mem_cons.1 hx with rfl | hx <;> rcases List.mem_cons.1 hy with rfl | hy
      · rfl
      · have := hlt y hy; simp only at hxy; omega
      · have := hlt x hx; simp only at hxy; omega
      · exact hu x hx y hy hxy) h4
    refine ⟨all, a1, fun x hx => a2 x (List.mem_cons_of_mem _ hx), fun x hx => ?_, fun k o' hk => ?_, a5⟩
    · rcases a3 x hx with h | ⟨k, o', h5, h6, h7⟩
      · rcases List.mem_cons.1 h with rfl | h
        · exact .inr ⟨0, o, rfl, rfl, h1⟩
        · exact .inl h
      · exact .inr ⟨k + 1, o', by simpa using h5, by omega, h7⟩
    · cases k with
      | zero =>
        simp only [List.getElem?_cons_zero, Option.some.injEq] at hk
        subst hk
        exact ⟨t, d, fs, a2 _ List.mem_cons_self, fun x hx => a2 x (List.mem_cons_of_mem _ hx), h1, by simpa using h2, h3⟩
      | succ k =>
        obtain ⟨t', d', fs', h5, h6⟩ := a4 k o' (by simpa using hk)
        exact ⟨t', d', fs', by rw [show i + (k + 1) = i + 1 + k by omega]; exact h5, h6⟩
end
def fwdB (l : List Oper) (n : Nat) : Bool := (l.take n).zipIdx.all fun x => x.1.after.toList.all fun e => !Region.binds .any e || Nat.blt e.on x.2
def dstsB (l : List Oper) : Bool := nodupB (l.filterMap (·.dst))
def canonL (n s : Nat) : Array Bool := (List.replicate n true ++ List.replicate (s - n) false).toArray
/-- the region's tail: from the n-th operation on each waits for the one ahead, and for the head -/
def drawB (l : List Oper) (n : Nat) : Bool :=
  Nat.ble n l.length && (Nat.beq n l.length || (Region.sinkB .any l.toArray n && Region.chainB .any l.toArray n)) && fwdB l n && dstsB (l.take n) && Region.seqB .any l.toArray (l.length - n) n (canonL n l.length)
theorem look_junks {t : Nat} {d : D} {tmp : List (Nat × D)} : ∀ {l : List Oper}, look t (junks l tmp) = some d → (d = .junk ∧ ∃ o ∈ l, o.dst = some t) ∨ (look t tmp = some d ∧ ∀ o ∈ l, o.dst ≠ some t)
  | [], h => .inr ⟨h, fun o ho => by simp at ho⟩
  | o :: l, h => by
    unfold junks at h
    cases ho : o.dst with
    | none =>
      rw [ho] at h
      rcases look_junks h with ⟨h1, o', h2, h3⟩ | ⟨h1, h2⟩
      · exact .inl ⟨h1, o', List.mem_cons_of_mem _ h2, h3⟩
      · exact .inr ⟨h1, fun o' ho' => by
          rcases List.mem_cons.1 ho' with rfl | ho'
          · rw [ho]; simp
          · exact h2 o' ho'⟩
    | some s =>
      rw [ho] at h
      have h' : cond (Nat.beq s t) (some .junk) (look t (junks l tmp)) = some d := h
      cases hb : Nat.beq s t with
      | true => rw [hb] at h'; cases h'; have := Nat.eq_of_beq_eq_true hb; subst this; exact .inl ⟨rfl, o, List.mem_cons_self, ho⟩
      | false =>
        rw [hb] at h'
        rcases look_junks h' with ⟨h1, o', h2, h3⟩ | ⟨h1, h2⟩
        · exact .inl ⟨h1, o', List.mem_cons_of_mem _ h2, h3⟩
        · exact .inr ⟨h1, fun o' ho' => by
            rcases List.mem_cons.1 ho' with rfl | ho'
            · rw [ho]; intro e; cases e; simp at hb
            · exact h2 o' ho'⟩
theorem nodup_dsts : ∀ {l : List Oper}, dstsB l = true → ∀ (i j : Nat) (oi oj : Oper) (t : Nat), l[i]? = some oi → l[j]? = some oj → oi.dst = some t → oj.dst = some t → i = j
  | [], _, i, j, oi, oj, t, h, _, _, _ => by simp at h
  | o :: l, h, i, j, oi, oj, t, hi, hj, di, dj => by
    have hl : dstsB l = true := by
      unfold dstsB at h ⊢
      rw [List.filterMap_cons] at h
      cases ho : o.dst with
      | none => rw [ho] at h; exact h
      | some s => rw [ho] at h; simp only [nodupB, Bool.and_eq_true] at h; exact h.2
    have key : ∀ (k : Nat) (ok : Oper), l[k]? = some ok → o.dst = some t → ok.dst = some t → False := fun k ok hk h1 h2 => by
      unfold dstsB at h
      rw [List.filterMap_cons, h1] at h
      simp only [nodupB, Bool.and_eq_true, List.all_eq_true, Bool.not_eq_true'] at h
      have := h.1 t (List.mem_filterMap.2 ⟨ok, List.mem_of_getElem? hk, h2⟩)
      simp at this
    cases i with
    | zero =>
      simp only [List.getElem?_cons_zero, Option.some.injEq] at hi
      subst hi
      cases j with
      | zero => rfl
      | succ j => exact (key j oj (by simpa using hj) di dj).elim
    | succ i =>
      cases j with
      | zero =>
        simp only [List.getElem?_cons_zero, Option.some.injEq] at hj
        subst hj
        exact (key i oi (by simpa using hi) dj di).elim
      | succ j => exact congrArg (· + 1) (nodup_dsts hl i j oi oj t (by simpa using hi) (by simpa using hj) di dj)
/-- how many of the head are still to come -/
def leftOf (listed : Array Bool) (n : Nat) : Nat := ((List.range n).filter fun i => !listed.getD i false).length
theorem left_zero {listed : Array Bool} {n : Nat} (h : leftOf listed n = 0) : ∀ i, i < n → listed.getD i false = true := fun i hi => by
  have h0 : ((List.range n).filter fun i => !listed.getD i false) = [] := List.eq_nil_of_length_eq_zero h
  have := (List.filter_eq_nil_iff.1 h0) i (List.mem_range.2 hi)
  simpa using this
theorem filter_drop_one {p q : Nat → Bool} : ∀ {l : List Nat} {i : Nat}, l.Nodup → i ∈ l → p i = true → q i = false → (∀ j, j ≠ i → q j = p j) → (l.filter p).length = (l.filter q).length + 1
  | x :: l, i, hn, hi, hp, hq, hs => by
    have hnl := (List.nodup_cons.1 hn)
    by_cases hx : x = i
    · subst hx
      have hsame : l.filter p = l.filter q := List.filter_congr fun j hj => (hs j (fun e => hnl.1 (e ▸ hj))).symm
      rw [List.filter_cons_of_pos hp, List.filter_cons_of_neg (by rw [hq]; decide), hsame]; rfl
    · have hil : i ∈ l := by
        rcases List.mem_cons.1 hi with h | h
        · exact absurd h.symm hx
        · exact h
      have ih := filter_drop_one hnl.2 hil hp hq hs
      cases hpx : p x with
      | true => rw [List.filter_cons_of_pos hpx, List.filter_cons_of_pos (by rw [hs x hx]; exact hpx)]; simp [ih]
      | false => rw [List.filter_cons_of_neg (by rw [hpx]; decide), List.filter_cons_of_neg (by rw [hs x hx, hpx]; decide)]; exact ih
theorem left_set {listed : Array Bool} {n i : Nat} (hi : i < n) (hs : i < listed.size) (h : listed.getD i false = false) : leftOf listed n = leftOf (listed.setIfInBounds i true) n + 1 :=
  filter_drop_one List.nodup_range (List.mem_range.2 hi) (by simpa using h) (by simp [hs]) fun j hj => by simp [Array.getElem?_setIfInBounds_ne (Ne.symm hj)]
section
variable {P : Program} {w0 : World} {I0 : Bs}
variable {nb sz : Nat} {tmp : List (Nat × D)} {mem : List (Nat × Option M)} {l : List Oper} {n : Nat} {all : List (Nat × Nat × D)} {Q : Exit → Act → World → Prop}
theorem draw_any (hst : StepsOK P l.toArray nb sz (junks (l.take n) tmp) mem (l.take n) 0 all) (hall : ∀ x ∈ all, ∃ o, (l.take n)[x.1]? = some o ∧ o.dst = some x.2.1) (huniq : ∀ x ∈ all, ∀ y ∈ all, x.1 = y.1 → x = y) (hn : n ≤ l.length) (hch : n = l.length ∨ (Region.sinkB .any l.toArray n = true ∧ Region.chainB .any l.toArray n = true)) (hf : fwdB l n = true) (hd : dstsB (l.take n) = true)
    (hseq : Region.seqB .any l.toArray (l.length - n) n (canonL n l.length) = true)
    (hT : ∀ ρ I a w, G w0 I0 ⟨nb, sz, junks (l.take n) tmp, mem⟩ ρ I a w → (∀ x ∈ all, RA ρ nb I w x.2.2 (a.tmps.getD x.2.1 undef)) → wpList P l.toArray Q (l.drop n) a w) :
    ∀ (f : Nat) (listed : Array Bool) (ρ : Rho) (I : Nat → Prop) (a : Act) (w : World), HeadInv .any l.toArray n listed → leftOf listed n = f → G w0 I0 ⟨nb, sz, junks (l.take n) tmp, mem⟩ ρ I a w →
      (∀ x ∈ all, listed.getD x.1 false = true → RA ρ nb I w x.2.2 (a.tmps.getD x.2.1 undef)) → wpAny P .any l.toArray Q (f + (l.length - n)) listed a w := by
  intro f
  induction f with
  | zero =>
    intro listed ρ I a w inv hl g hfacts
    have hlt := left_zero hl
    have hcan : listed = canonL n l.length := by
      have hsz : listed.size = l.length := by have := inv.size; simpa using this
      refine Array.ext (by rw [hsz]; simp [canonL]; omega) fun i h1 h2 => ?_
      by_cases hin : i < n
      · have := hlt i hin
        have e1 : listed.getD i false = listed[i] := by simp [h1]
        rw [e1] at this
        rw [this]
        simp [canonL, List.getElem_append, hin]
      · have := inv.tail i (by omega) (by rw [hsz] at h1; simpa using h1)
        have e1 : listed.getD i true = listed[i] := by simp [h1]
        rw [e1] at this
        rw [this]
        simp [canonL, List.getElem_append, hin]
    have hw := hT ρ I a w g fun x hx => hfacts x hx (by
      obtain ⟨o, ho, _⟩ := hall x hx
      have := (List.getElem?_eq_some_iff.1 ho).1
      rw [List.length_take] at this
      exact hlt _ (by omega))
    subst hcan
    have := wpAny_of_seq (md := .any) (Q' := Q) (l.drop n) n (canonL n l.length) a w (fun j => by simp [List.getElem?_drop]) (by rw [List.length_drop]; exact hseq) hw
    rw [List.length_drop] at this
    rw [Nat.zero_add]
    exact this
  | succ f ih =>
    intro listed ρ I a w inv hl g hfacts
    have hsz : listed.size = l.length := by have := inv.size; simpa using this
    rw [show f + 1 + (l.length - n) = (f + (l.length - n)) + 1 by omega]
    have hex : ∃ i, i < n ∧ listed.getD i false = false := by
      apply Classical.byContradiction
      intro hno
      have : leftOf listed n = 0 := by
        unfold leftOf
        rw [List.filter_eq_nil_iff.2 fun i hi => ?_]; rfl
        intro h
        exact hno ⟨i, List.mem_range.1 hi, by simpa using h⟩
      omega
    have hready : Region.ready .any l.toArray listed ≠ [] := by
      obtain ⟨i, hi, hli⟩ := hex
      induction i using Nat.strongRecOn with
      | _ i ihi =>
        by_cases hlow : ∃ j, j < i ∧ listed.getD j false = false
        · obtain ⟨j, hj, hlj⟩ := hlow
          exact ihi j hj (by omega) hlj
        · refine List.ne_nil_of_mem (a := i) (mem_ready.2 ⟨getD_in (by omega) hli, l[i], by simp, fun e he hb => ?_⟩)
          have h1 := List.all_eq_true.1 hf (l[i], i) (by
            rw [List.mem_zipIdx_iff_getElem?]
            simp [hi])
          have h2 := List.all_eq_true.1 h1 e (Array.mem_toList_iff.2 he)
          simp only [hb, Bool.not_true, Bool.false_or] at h2
          have h3 : e.on < i := by simpa using h2
          cases hle : listed.getD e.on false with
          | true => rfl
          | false => exact absurd ⟨e.on, h3, hle⟩ hlow
    refine ⟨fun h => absurd h hready, fun i hi => ?_⟩
    have hin : i < n := by
      rcases hch with h | ⟨h1, h2⟩
      · obtain ⟨_, oi, hoi, _⟩ := mem_ready.1 hi
        have := (Array.getElem?_eq_some_iff.1 hoi).1
        simp at this
        omega
      · obtain ⟨j, hj, hlj⟩ := hex
        apply Classical.byContradiction
        intro hge
        by_cases hnl : n < l.length
        · exact tail_waits h1 h2 (by simpa using hnl) inv _ j rfl hj (getD_in (by omega) hlj) i (by omega) hi
        · obtain ⟨_, oi, hoi, _⟩ := mem_ready.1 hi
          have := (Array.getElem?_eq_some_iff.1 hoi).1
          simp at this
          omega
    obtain ⟨hun, oi, hoi, hedges⟩ := mem_ready.1 hi
    have hoil : (l.take n)[i]? = some oi := by
      rw [List.getElem?_take, if_pos hin]
      simpa using hoi
    obtain ⟨t, d, fs, hmem, hfs, hdst, htsz, hstep⟩ := hst i oi hoil
    rw [Nat.zero_add] at hmem
    have gdep : G w0 I0 ⟨nb, sz, depF oi (junks (l.take n) tmp) fs, mem⟩ ρ I a w := ⟨g.later, g.lt, g.base, g.old, g.defers, g.sz, fun s e hs => by
      rcases look_dep hs with ⟨j, h1, h2⟩ | h
      · refine hfacts _ (hfs _ h1) ?_
        unfold dependsB at h2
        obtain ⟨ed, he1, he2⟩ := List.any_eq_true.1 h2
        simp only [Bool.and_eq_true] at he2
        have := Nat.eq_of_beq_eq_true he2.2
        have h3 := hedges ed (Array.mem_toList_iff.1 he1) he2.1
        rw [this] at h3
        exact h3
      · exact g.tmp s e h, g.mem, g.inj⟩
    have next : ∀ v w' I', Ext I w I' w' → RA ρ nb I' w' d v → wpAny P .any l.toArray Q (f + (l.length - n)) (listed.setIfInBounds i true) (a.put oi.dst v) w' := by
      intro v w' I' he hv
      have hisz : i < listed.size := by omega
      have hl' := left_set hin hisz (getD_both hun)
      have ge := g.ext he
      refine ih (listed.setIfInBounds i true) ρ I' (a.put oi.dst v) w' (inv.set hi hin) (by omega) ?_ ?_
      · refine ⟨ge.later, ge.lt, ge.base, ge.old, by rw [hdst]; exact ge.defers, by rw [hdst]; simp [Act.put]; exact ge.sz, fun s e hs => ?_, ge.mem, ge.inj⟩
        rw [hdst]
        by_cases hst' : s = t
        · subst hst'
          rcases look_junks hs with ⟨rfl, _⟩ | ⟨_, h2⟩
          · exact .im (.junk _)
          · exact absurd hdst (h2 oi (List.mem_of_getElem? hoil))
        · simp only [Act.put]
          rw [getD_set_other _ _ _ _ _ hst']
          exact ge.tmp s e hs
      · intro x hx hlx
        rw [hdst]
        by_cases hxi : x.1 = i
        · obtain ⟨o, ho, hox⟩ := hall x hx
          rw [hxi, hoil] at ho
          cases ho
          have ht : x.2.1 = t := by rw [hdst] at hox; exact (Option.some.inj hox).symm
          -- two facts of one operation
          have hxe := huniq x hx _ hmem hxi
          simp only [Act.put]
          rw [ht, getD_set_same _ _ _ _ (by rw [g.sz]; exact htsz), hxe]
          exact hv
        · have hlx' : listed.getD x.1 false = true := by rwa [getD_set_ne false (fun e => hxi e.symm)] at hlx
          have hne : x.2.1 ≠ t := by
            intro e
            obtain ⟨o, ho, hox⟩ := hall x hx
            rw [e] at hox
            exact hxi (nodup_dsts hd _ _ _ _ t ho hoil hox hdst)
          simp only [Act.put]
          rw [getD_set_other _ _ _ _ _ hne]
          exact (hfacts x hx hlx').ext (Nat.le_refl _) g.lt he
    unfold wpOp
    simp only [hoi]
    rcases hstep with ⟨hg, hp⟩ | ⟨hg, rfl⟩
    · rw [if_pos (guard_wanted gdep hg)]
      exact .inl (hp w0 I0 ρ I a w _ Q gdep fun v w' I' he hv => next v w' I' he hv)
    · rw [if_neg (by rw [guard_wanted gdep hg]; decide)]
      exact next undef w I (Ext.refl I w) (.im (.junk _))
theorem factsOf_look {t : Nat} {d : D} : ∀ {fs : List (Nat × Nat × D)} {tmp : List (Nat × D)}, look t (factsOf fs tmp) = some d → (∃ j, (j, t, d) ∈ fs) ∨ look t tmp = some d
  | [], _, h => .inr h
  | x :: fs, tmp, h => by
    have h' : cond (Nat.beq x.2.1 t) (some x.2.2) (look t (factsOf fs tmp)) = some d := h
    cases hb : Nat.beq x.2.1 t with
    | true =>
      rw [hb] at h'
      cases h'
      have := Nat.eq_of_beq_eq_true hb
      obtain ⟨j, s, e⟩ := x
      simp only at this
      subst this
      exact .inl ⟨j, List.mem_cons_self⟩
    | false =>
      rw [hb] at h'
      rcases factsOf_look h' with ⟨j, h1⟩ | h
      · exact .inl ⟨j, List.mem_cons_of_mem _ h1⟩
      · exact .inr h
theorem C_draw (n : Nat) {id : Nat} {Kc : Exit → St → Prop} (hm : P.follows .mixedOrders = true) (hB : drawB l n = true)
    (h : Head P l.toArray nb sz (junks (l.take n) tmp) mem (l.take n) 0 [] fun fs => T P l.toArray (l.drop n) ⟨nb, sz, factsOf fs (junks (l.take n) tmp), mem⟩ (Kc .normal)) : C P (.region id l.toArray true) ⟨nb, sz, tmp, mem⟩ Kc := ⟨fun w0 I0 ρ I a w Q g q => by
  simp only [drawB, Bool.and_eq_true, Bool.or_eq_true] at hB
  obtain ⟨⟨⟨⟨hn, hch⟩, hf⟩, hd⟩, hseq⟩ := hB
  have hn := Nat.le_of_ble_eq_true hn
  have hch' : n = l.length ∨ (Region.sinkB .any l.toArray n = true ∧ Region.chainB .any l.toArray n = true) := hch.elim (fun h => .inl (Nat.eq_of_beq_eq_true h)) .inr
  obtain ⟨all, hK, _, hall, hst, huniq⟩ := Head0.steps (fun x hx => by simp at hx) (fun x hx => by simp at hx) h.h
  have hall' : ∀ x ∈ all, ∃ o, (l.take n)[x.1]? = some o ∧ o.dst = some x.2.1 := fun x hx => by
    rcases hall x hx with h | ⟨k, o, h1, h2, h3⟩
    · simp at h
    · exact ⟨o, by rw [h2, Nat.zero_add]; exact h1, h3⟩
  have gd : Ext I w I w.drew := Ext.same (Later.drew (Later.refl w))
  have g0 : G w0 I0 ⟨nb, sz, junks (l.take n) tmp, mem⟩ ρ I a w.drew := by
    have g' := g.ext gd
    exact ⟨g'.later, g'.lt, g'.base, g'.old, g'.defers, g'.sz, fun t d h => by
      rcases look_junks h with ⟨rfl, _⟩ | ⟨h, _⟩
      · exact .im (.junk _)
      · exact g'.tmp t d h, g'.mem, g'.inj⟩
  have inv0 : HeadInv .any l.toArray n (Array.replicate l.toArray.size false) := by
    refine ⟨by simp, fun j oj _ hl => ?_, fun t _ ht => getD_in (by simpa using ht) (getD_replicate_false _ _)⟩
    rw [getD_replicate_false] at hl; cases hl
  have hleft : leftOf (Array.replicate l.toArray.size false) n = n := by
    unfold leftOf
    rw [List.filter_eq_self.2 fun i hi => by rw [getD_replicate_false]; rfl, List.length_range]
  have hA := draw_any (Q := Q) hst hall' huniq hn hch' hf hd hseq (fun ρ I a w g hfacts => hK.h w0 I0 ρ I a w Q ⟨g.later, g.lt, g.base, g.old, g.defers, g.sz, fun t d h => by
      rcases factsOf_look h with ⟨j, hj⟩ | h
      · exact hfacts _ hj
      · exact g.tmp t d h, g.mem, g.inj⟩ fun S' ρ' I' a' w' hk g' => q _ S' ρ' I' a' w' hk g') _ _ ρ I a _ inv0 hleft g0 (fun x _ hl => by rw [getD_replicate_false] at hl; cases hl)
  refine wp_region_any hm ?_
  rw [show n + (l.length - n) = l.toArray.size by simp; omega] at hA
  exact hA⟩
end
end Go.Proofs.Ytpomhnmfkdgafaa
