/- The abstract machine's rules for reading memory and for calls (no program in sight). -/
import Derived.WalkKit
import Derived.WalkSpells
import Derived.WalkLawsBesides
import Derived.Lib.Hide
import Derived.OpenShut
import Derived.Laws.AppendOwnNone
import Derived.StillTail
import Derived.Laws.OwnMore
import Derived.Laws.Unary
import Derived.Deep.MidRow
import Derived.Laws.StructEq
namespace Go.Proofs.Ytpomhnmfkdgafaa
open Go.RowKit

theorem bcell {W w1 : World} (hb : Below W.heap.size W w1) : (∀ b o, b < W.heap.size → w1.cell? ⟨b, o, none⟩ = W.cell? ⟨b, o, none⟩) ∧ (∀ b o, b < W.heap.size → w1.frozen? ⟨b, o, none⟩ = W.frozen? ⟨b, o, none⟩) :=
  ⟨fun b o h => hb.cell (p := ⟨b, o, none⟩) h, fun b o h => hb.frozen (p := ⟨b, o, none⟩) h⟩

/-- the cell of an int -/
def i64v (n : Int) : Value := .int .i64 n
def okI (n : Int) : Prop := -9223372036854775808 ≤ n ∧ n ≤ 9223372036854775807
theorem okI_wf {n : Int} (h : (Lit.int .i64 n).wf = true) : okI n := by simpa [Lit.wf, IntKind.min, IntKind.max, IntKind.signed, IntKind.bits, okI] using h
theorem wf_okI {n : Int} (h : okI n) : (Lit.int .i64 n).wf = true := WalkArith.wf_i64 h

/-- the j-th number, by a name that simp does not open -/
def at_ (l : List Int) (j : Nat) : Int := l.getD j 0
theorem at_eq (l : List Int) (j : Nat) (h : j < l.length) : at_ l j = l[j] := by simp [at_, h]
theorem at_mem (l : List Int) (j : Nat) (h : j < l.length) : at_ l j ∈ l := by rw [at_eq l j h]; exact List.getElem_mem h

/-- In the world w the value v is a slice of n elements, of `size` cells each, that reads as the cells xs. -/
def RowIn (w : World) (v : Value) (n size : Nat) (xs : List Value) : Prop :=
  xs.length = n * size ∧ ∃ ao cap b off, v = .slice ao n cap ∧ n ≤ cap ∧ cap ≤ maxLen ∧ (ao = none → cap = 0) ∧ (0 < n → ao = some ⟨b, off, none⟩) ∧
    ∀ j u, xs[j]? = some u → w.cell? ⟨b, off + j, none⟩ = some u
theorem RowIn.below {w w' : World} {v : Value} {n size : Nat} {xs : List Value} (h : RowIn w v n size xs) (hb : Below w.heap.size w w') : RowIn w' v n size xs := by
  obtain ⟨hl, ao, cap, b, off, hv, hc, hm, hn, ha, hcell⟩ := h
  exact ⟨hl, ao, cap, b, off, hv, hc, hm, hn, ha, fun j u hj => (hb.cell (p := ⟨b, off + j, none⟩) (World.block_lt_of_cell? w _ (hcell j u hj))).trans (hcell j u hj)⟩
theorem row_nil (w : World) (size : Nat) : RowIn w (.slice none 0 0) 0 size [] :=
  ⟨by simp, none, 0, 0, 0, rfl, Nat.le_refl _, Nat.zero_le _, fun _ => rfl, fun h => absurd h (by simp), fun j u hj => by simp at hj⟩
theorem row_own {w : World} {base : Nat} {e : TypeId} {v : Value} {n size : Nat} {xs : List Value} (h : w.ownsRow base e size v n xs) : RowIn w v n size xs := by
  refine ⟨h.1, ?_⟩
  rcases h.2 with ⟨rfl, h0⟩ | ⟨g, cap, cur, rfl, hb, hg, hc, hm, hs, ht⟩
  · subst h0; exact (row_nil w size).2.imp fun _ ⟨cap, b, off, hr⟩ => ⟨cap, b, off, hr.1, hr.2.1, hr.2.2.1, hr.2.2.2.1, hr.2.2.2.2.1, fun j u hj => by have := h.1; simp at this; subst this; simp at hj⟩
  · refine ⟨some ⟨g, 0, none⟩, cap, g, 0, rfl, hc, hm, (fun h => by cases h), fun _ => rfl, fun j u hj => ?_⟩
    have hc := h.cells (g := g) (by simp [Value.ownBlock]) j u hj
    have hadd : (⟨g, 0, none⟩ : Addr).add j = ⟨g, 0 + j, none⟩ := by unfold Addr.add; split <;> simp_all
    rwa [hadd] at hc

/-- In the world w the value v is a slice that reads as the numbers l. -/
def IntsIn (w : World) (v : Value) (l : List Int) : Prop :=
  ∃ ao cap b off, v = .slice ao l.length cap ∧ l.length ≤ cap ∧ cap ≤ maxLen ∧ (0 < l.length → ao = some ⟨b, off, none⟩) ∧
    (∀ j, j < l.length → w.cell? ⟨b, off + j, none⟩ = some (.int .i64 (at_ l j))) ∧ (∀ x ∈ l, okI x) ∧ (ao = none → cap = 0)

theorem IntsIn.row {w : World} {v : Value} {l : List Int} (h : IntsIn w v l) : RowIn w v l.length 1 (l.map (Value.int .i64)) := by
  obtain ⟨ao, cap, b, off, hv, hc, hm, ha, hcell, hok, hn⟩ := h
  refine ⟨by simp, ao, cap, b, off, hv, hc, hm, hn, ha, fun j u hj => ?_⟩
  by_cases h : j < l.length
  · rw [hcell j h, at_eq l j h]; simpa [h] using hj
  · rw [List.getElem?_eq_none (by simp; omega)] at hj; cases hj
theorem ints_of {w : World} {v : Value} {n : Nat} {l : List Int} (h : RowIn w v n 1 (l.map (Value.int .i64))) (hok : ∀ x ∈ l, okI x) : IntsIn w v l := by
  obtain ⟨hl, ao, cap, b, off, hv, hc, hm, hn, ha, hcell⟩ := h
  have hl : l.length = n := by simpa using hl
  subst hl
  exact ⟨ao, cap, b, off, hv, hc, hm, ha, fun j hj => hcell j _ (by simp [at_eq l j hj, hj]), hok, hn⟩
theorem IntsIn.below {w w' : World} {v : Value} {l : List Int} (h : IntsIn w v l) (hb : Below w.heap.size w w') : IntsIn w' v l := by
  have hok : ∀ x ∈ l, okI x := by obtain ⟨_, _, _, _, _, _, _, _, _, hok, _⟩ := h; exact hok
  exact ints_of (h.row.below hb) hok

theorem IntsIn.len {w : World} {v : Value} {l : List Int} (h : IntsIn w v l) : l.length ≤ 9223372036854775807 := by
  obtain ⟨ao, cap, b, off, hv, hc, hm, _⟩ := h
  unfold maxLen at hm; omega

theorem ints_nil (w : World) : IntsIn w (.slice none 0 0) [] := ints_of (row_nil w 1) (fun x hx => by simp at hx)

theorem ints_own {w : World} {base : Nat} {e : TypeId} {v : Value} {n : Nat} {l : List Int} (h : w.ownsRow base e 1 v n (l.map (Value.int .i64))) (hok : ∀ x ∈ l, okI x) : IntsIn w v l := ints_of (row_own h) hok

/-- a slice of ints that came in reads as some numbers -/
theorem ints_came {H : Type} {enc : TypeId × Value → H} {P : Program} {w : World} {t e : TypeId} {ao : Option Addr} {len cap : Nat} {d : DataW H} {p : List MemPlace} (ht : P.underlying t = some (.slice e)) (he : P.underlying e = some (.int .i64)) (hc : P.cellsOf e = 1)
    (h : DataW.Trod enc P w 0 (fun _ => true) true t (.slice ao len cap) d p) : ∃ l, IntsIn w (.slice ao len cap) l := by
  obtain ⟨fuel, hf⟩ := h
  rcases ChangeShapes.open_ints ht he hc hf with ⟨hcs, _⟩ | ⟨x, l, c, zs, hcs, _, hl, hm, hz, _, hcell, hwz⟩
  · simp [Value.cells] at hcs
    obtain ⟨rfl, rfl, rfl⟩ := hcs
    exact ⟨[], ints_nil w⟩
  · simp [Value.cells] at hcs
    obtain ⟨rfl, rfl, rfl⟩ := hcs
    have hz' : zs.length = cap := by simpa using hz
    have hlen : (zs.take len).length = len := by rw [List.length_take]; omega
    by_cases h0 : 0 < zs.length
    · obtain ⟨b, off, hx, hc2⟩ := ints_at hcell h0
      refine ⟨zs.take len, some x, cap, b, off, by rw [hlen], by omega, hm, fun _ => by rw [hx], fun j hj => ?_, fun y hy => okI_wf (hwz y (List.mem_of_mem_take hy)), (fun h => by cases h)⟩
      rw [hlen] at hj
      rw [hc2 j (by omega)]
      simp [at_, hj]
    · have : zs = [] := List.eq_nil_of_length_eq_zero (by omega)
      subst this
      have hl0 : len = 0 := by simp at hz'; omega
      subst hl0
      exact ⟨[], some x, cap, 0, 0, rfl, Nat.zero_le _, hm, fun h => absurd h (by simp), fun j hj => absurd hj (by simp), (fun y hy => by simp at hy), (fun h => by cases h)⟩

/-- w' is w with new blocks: nothing that was there has turned -/
def Later (w w' : World) : Prop := Below w.heap.size w w'
theorem Later.refl (w : World) : Later w w := Below.refl _ _
theorem Later.trans {a b c : World} (h : Later a b) (k : Later b c) : Later a c := Below.trans h (Below.mono k (Below.size h))
theorem Later.drewN {a b : World} (h : Later a b) (n : Nat) : Later a (b.drewN n) := below_drewN h n
theorem Later.drew {a b : World} (h : Later a b) : Later a b.drew := h.drewN 1
theorem Later.of_drewN {w w' : World} (h : ∃ n, w' = w.drewN n) : Later w w' := by obtain ⟨n, rfl⟩ := h; exact (Later.refl w).drewN n
theorem Later.alloc {a b : World} (h : Later a b) (o : Obj) : Later a (b.alloc o) := Below.alloc h (Below.size h) o
theorem IntsIn.later {w w' : World} {v : Value} {l : List Int} (h : IntsIn w v l) (hb : Later w w') : IntsIn w' v l := h.below hb
theorem Later.cell {w w' : World} (h : Later w w') {a : Addr} {v : Value} (hc : w.cell? a = some v) : w'.cell? a = some v :=
  (Below.cell h (World.block_lt_of_cell? w _ hc)).trans hc
theorem Later.free {w w' : World} (h : Later w w') {a : Addr} {v : Value} (hc : w.cell? a = some v) (hf : w.frozen? a = false) : w'.frozen? a = false :=
  (Below.frozen h (World.block_lt_of_cell? w _ hc)).trans hf
theorem Later.set {w w' : World} (h : Later w w') {a : Addr} (ha : w.heap.size ≤ a.block) (u : Value) : Later w (w'.setCell a u) := Below.setCell h ha u
theorem Later.lt {w w' : World} (h : Later w w') {k : Nat} (hk : k < w.heap.size) : k < w'.heap.size := Nat.lt_of_lt_of_le hk (Below.size h)
/-- the slice v lies in a block from B on, or nowhere -/
def FreshV (B : Nat) (v : Value) : Prop := ∀ x n c, v = .slice (some x) n c → B ≤ x.block
theorem fresh_nil (B : Nat) : FreshV B (.slice none 0 0) := fun x n c h => by cases h
theorem fresh_own {w : World} {B : Nat} {e : TypeId} {size : Nat} {v : Value} {n : Nat} {xs : List Value} (h : w.ownsRow B e size v n xs) : FreshV B v := fun x n c hv => by
  subst hv; exact (h.lt x.block rfl).1
/-- w' is w with new blocks, and with block G turned -/
theorem grown_refl (w : World) (r : Option Nat) : w.grownBy w r := ⟨rfl, rfl, rfl, Nat.le_refl _, fun _ _ _ => rfl⟩
theorem grown_trans {a b c : World} {r : Option Nat} (h : a.grownBy b r) (k : b.grownBy c r) : a.grownBy c r :=
  ⟨k.os.trans h.os, k.tape.trans h.tape, k.output.trans h.output, Nat.le_trans h.size k.size, fun i hi hr => (k.block i (Nat.lt_of_lt_of_le hi h.size) hr).trans (h.block i hi hr)⟩
theorem grown_drewN {a b : World} {r : Option Nat} (h : a.grownBy b r) (n : Nat) : a.grownBy (b.drewN n) r := ⟨h.os, h.tape, h.output, h.size, h.block⟩
theorem grown_drew {a b : World} {r : Option Nat} (h : a.grownBy b r) : a.grownBy b.drew r := ⟨h.os, h.tape, h.output, h.size, h.block⟩
theorem grown_set {a b : World} {G : Nat} (h : a.grownBy b (some G)) (j : Nat) (u : Value) : a.grownBy (b.setCell ⟨G, j, none⟩ u) (some G) :=
  grown_trans h ⟨rfl, rfl, rfl, by simp, fun k hk hr => Below.heap_setCell _ _ _ _ (fun e => hr (by rw [e]))⟩
theorem Later.grown {a b c : World} {G : Nat} (h : Later a b) (hg : b.grownBy c (some G)) (hG : a.heap.size ≤ G) : Later a c :=
  Below.grown h hg (Below.size h) (fun k hk => by cases hk; exact hG)
theorem Later.grows {a b : World} (h : Later a b) (r : Option Nat) : a.grownBy b r := ⟨h.os, h.tape, h.output, h.size, fun k hk _ => h.block k hk⟩
/-- a call returns a slice of ints that reads as l, and an error -/
def RetIE (l : List Int) (err : Int) (w : World) (e : Ending) (w' : World) : Prop :=
  ∃ v, e = .returned (.tuple #[v, .int .i64 err]) ∧ IntsIn w' v l ∧ Later w w' ∧ FreshV w.heap.size v
/-- a cell of a block that was just made -/
theorem box_cell (w : World) (cs : Array Value) (t : TypeId) (j : Nat) (v : Value) (h : cs[j]? = some v) : (w.alloc (.cells cs t)).cell? ⟨w.heap.size, j, none⟩ = some v := by
  have : (w.alloc (.cells cs t)).heap[w.heap.size]? = some (.cells cs t) := heap_alloc_new w _
  simp only [World.cell?, this]
  exact h
theorem box_later {w w' : World} {cs : Array Value} {t : TypeId} (h : Later (w.alloc (.cells cs t)) w') (j : Nat) (v : Value) (hc : cs[j]? = some v) : w'.cell? ⟨w.heap.size, j, none⟩ = some v :=
  h.cell (box_cell w cs t j v hc)
theorem later_box {w w' : World} {o : Obj} (h : Later (w.alloc o) w') : Later w w' := ((Later.refl w).alloc o).trans h

/-! ### append on a slice of the call's own -/
/-- what append asks of a slice type T, its element type E (`size` cells, `bytes` bytes) -/
structure Elem (P : Program) (T E : TypeId) (size bytes : Nat) : Prop where
  ty : P.underlying T = some (.slice E)
  info : ∃ i z, P.info? E = some i ∧ i.zero = some z ∧ i.size = size ∧ i.bytes = bytes ∧ z.cells.size = size
  pos : 0 < size
theorem Elem.of {P : Program} {T E : TypeId} {size bytes : Nat} {z : Value} (hT : P.underlying T = some (.slice E)) (hi : (P.info? E).map (fun i => (i.zero, i.size, i.bytes)) = some (some z, size, bytes)) (hz : z.cells.size = size) (hp : 0 < size) : Elem P T E size bytes := by
  obtain ⟨i0, hi, hz0, hz1, hz2⟩ := info_parts hi
  exact ⟨hT, ⟨i0, z, hi, hz0, hz1, hz2, hz⟩, hp⟩
/-- an operation that is wanted (no guard, or a guard that says yes) -/
theorem wpList_want {P : Program} {ops : Array Oper} {rest : List Oper} {o : Oper} {a : Act} {Q : Exit → Act → World → Prop} {w : World} (hg : Region.wanted o (yielded ops a.tmps) = true)
    (h : ∀ K : Act → World → Prop, (∀ a w, wpList P ops Q rest a w → K a w) → o.wp P a w K Q) : wpList P ops Q (o :: rest) a w :=
  wpList_step fun K hK => by rw [if_pos hg]; exact h K hK
/-- 'out = append(out, x)', x of the cells ys -/
theorem push {P : Program} {T E : TypeId} {size bytes : Nat} (el : Elem P T E size bytes) {wr : World} {ops : Array Oper} {rest : List Oper} {o : Oper} {a : Act} {Q : Exit → Act → World → Prop} (hgd : Region.wanted o (yielded ops a.tmps) = true) (s x : Operand)
    (ho : o.op = .call { callee := .builtin .append, args := #[s, x], argTypes := #[T, T] }) (B : Nat) (v : Value) (n : Nat) (xs : List Value) (hs : a.eval s = v) (hown : wr.ownsRow B E size v n xs) (ys : Array Value)
    (hx : a.eval x = .slice (some ⟨wr.heap.size, 0, none⟩) 1 1) (hys : ys.size = size) (h1 : ∀ u ∈ ys.toList, u.oneCell' = true) (hn : (n + 1) * bytes ≤ 140737488355328) (hn' : n + 1 ≤ maxLen) (hB : B ≤ wr.heap.size)
    (h : ∀ v' w1, w1.ownsRow B E size v' (n + 1) (xs ++ ys.toList) → (∀ w0, Below B w0 wr → Below B w0 w1) → (wr.alloc (.cells ys E)).grownBy w1 v.ownBlock → wpList P ops Q rest (a.put o.dst v') w1) : wpList P ops Q (o :: rest) a (wr.alloc (.cells ys E)) := by
  obtain ⟨i, z, hi, hz, hsz, hby, hzs⟩ := el.info
  have hc : ∀ j u, ys.toList[j]? = some u → (wr.alloc (.cells ys E)).cell? ((⟨wr.heap.size, 0, none⟩ : Addr).add j) = some u := by
    intro j u hj
    have hadd : (⟨wr.heap.size, 0, none⟩ : Addr).add j = ⟨wr.heap.size, j, none⟩ := by unfold Addr.add; split <;> simp_all
    rw [hadd]
    have : (wr.alloc (.cells ys E)).heap[wr.heap.size]? = some (.cells ys E) := heap_alloc_new wr _
    simp only [World.cell?, this]
    simpa using hj
  exact wpList_want hgd fun K hK => wp_append_own _ s x T ho B E i z size bytes el.ty hi hz hsz hby hzs el.pos v n xs hs (hown.alloc _) ⟨wr.heap.size, 0, none⟩ 1 1 ys.toList hx (by simp [hys]) hc h1 hn' hn (by simp; omega)
    fun v' w1 h2 h3 _ => hK _ _ (h v' w1 h2 (fun w0 hb => (hb.alloc hB _).grown h3 (by simp; omega) (fun k hk => (hown.lt k hk).1)) h3)
/-- 'out = append(out, src...)' -/
theorem splice {P : Program} {T E : TypeId} {size bytes : Nat} (el : Elem P T E size bytes) {wr : World} {ops : Array Oper} {rest : List Oper} {o : Oper} {a : Act} {Q : Exit → Act → World → Prop} (hgd : Region.wanted o (yielded ops a.tmps) = true) (s x : Operand)
    (ho : o.op = .call { callee := .builtin .append, args := #[s, x], argTypes := #[T, T] }) (B : Nat) (v : Value) (n : Nat) (xs : List Value) (hs : a.eval s = v) (hown : wr.ownsRow B E size v n xs) (src : Value) (m : Nat) (ys : List Value)
    (hx : a.eval x = src) (hsrc : RowIn wr src m size ys) (h1 : ∀ u ∈ ys, u.oneCell' = true) (hn : (n + m) * bytes ≤ 140737488355328) (hn' : n + m ≤ maxLen) (hB : B ≤ wr.heap.size)
    (h : ∀ v' w1, w1.ownsRow B E size v' (n + m) (xs ++ ys) → (∀ w0, Below B w0 wr → Below B w0 w1) → wr.grownBy w1 v.ownBlock → wpList P ops Q rest (a.put o.dst v') w1) : wpList P ops Q (o :: rest) a wr := by
  obtain ⟨i, z, hi, hz, hsz, hby, hzs⟩ := el.info
  obtain ⟨hl, ao, cap, b, off, rfl, hc, hm, hnil, ha, hcell⟩ := hsrc
  cases ao with
  | none =>
    have h0 := hnil rfl
    subst h0
    have hm0 : m = 0 := by omega
    subst hm0
    have hy : ys = [] := List.eq_nil_of_length_eq_zero (by omega)
    subst hy
    refine wpList_want hgd fun K hK => ?_
    have hrun := run_append_owned_none (P := P) (w := wr) B T o.type E i size el.ty hi v n xs hown
    unfold Oper.wp
    simp [execOp, ho, resolve, invoke, builtin, hs, hx, hrun, Result.andThen]
    refine hK _ _ ?_
    exact h v wr (by simpa using hown) (fun _ hb => hb) ⟨rfl, rfl, rfl, Nat.le_refl _, fun _ _ _ => rfl⟩
  | some ad =>
    have hcc : ∀ j u, ys[j]? = some u → wr.cell? (ad.add j) = some u := by
      intro j u hj
      have hjl : j < ys.length := by
        rcases Nat.lt_or_ge j ys.length with h | h
        · exact h
        · rw [List.getElem?_eq_none h] at hj; cases hj
      have hm0 : 0 < m := by
        rcases Nat.eq_zero_or_pos m with h | h
        · subst h; omega
        · exact h
      have had := ha hm0
      simp only [Option.some.injEq] at had
      subst had
      have hadd : (⟨b, off, none⟩ : Addr).add j = ⟨b, off + j, none⟩ := by unfold Addr.add; split <;> simp_all
      rw [hadd]; exact hcell j u hj
    exact wpList_want hgd fun K hK => wp_append_own _ s x T ho B E i z size bytes el.ty hi hz hsz hby hzs el.pos v n xs hs hown ad m cap ys hx hl hcc h1 hn' hn hB
      fun v' w1 h2 h3 _ => hK _ _ (h v' w1 h2 (fun w0 hb => hb.grown h3 hB (fun k hk => (hown.lt k hk).1)) h3)
theorem IntsIn.at {w : World} {v : Value} {l : List Int} (h : IntsIn w v l) (n : Nat) (hn : l.length = n) : ∃ ao cap b off, v = .slice ao n cap ∧ n ≤ cap ∧ cap ≤ maxLen ∧ (0 < n → ao = some ⟨b, off, none⟩) ∧
    (∀ j, j < n → w.cell? ⟨b, off + j, none⟩ = some (.int .i64 (at_ l j))) := by
  obtain ⟨ao, cap, b, off, hv, hc, hm, ha, hcell, hok, _⟩ := h
  subst hn
  exact ⟨ao, cap, b, off, hv, hc, hm, ha, hcell⟩
theorem at_take (l : List Int) (k j : Nat) (h : j < k) : at_ (l.take k) j = at_ l j := by
  unfold at_
  simp [h]
/-- the first k of a slice -/
theorem IntsIn.take {w : World} {ao : Option Addr} {n cap c : Nat} {l : List Int} (h : IntsIn w (.slice ao n cap) l) (k : Nat) (hk : k ≤ n) (hc : k ≤ c) (hcc : c ≤ cap) : IntsIn w (.slice ao k c) (l.take k) := by
  obtain ⟨ao', cap', b, off, hv, hc', hm, ha, hcell, hok, hnil⟩ := h
  simp only [Value.slice.injEq] at hv
  obtain ⟨rfl, rfl, rfl⟩ := hv
  have hl : (l.take k).length = k := by rw [List.length_take]; omega
  refine ⟨ao, c, b, off, by rw [hl], by omega, by omega, fun hp => ha (by omega), fun j hj => ?_, fun x hx => hok x (List.mem_of_mem_take hx), fun h0 => by have := hnil h0; omega⟩
  rw [hl] at hj
  rw [hcell j (by omega), at_take _ _ _ hj]
theorem IntsIn.capLe {w : World} {ao : Option Addr} {n cap : Nat} {l : List Int} (h : IntsIn w (.slice ao n cap) l) : n ≤ cap ∧ cap ≤ maxLen ∧ l.length = n := by
  obtain ⟨ao', cap', b, off, hv, hc', hm, ha, hcell, hok, hnil⟩ := h
  simp only [Value.slice.injEq] at hv
  obtain ⟨rfl, rfl, rfl⟩ := hv
  exact ⟨hc', hm, rfl⟩
theorem FreshV.cut {B : Nat} {ao : Option Addr} {n cap k c : Nat} (h : FreshV B (.slice ao n cap)) : FreshV B (.slice ao k c) := fun x m d hv => by
  simp only [Value.slice.injEq] at hv
  exact h x n cap (by rw [hv.1])

/-! ### boxes of three cells -/
theorem box3_facts {w : World} {a b c : Value} {T : TypeId} {W : World} (h : Later (w.alloc (.cells #[a, b, c] T)) W) :
    W.cell? ⟨w.heap.size, 0, none⟩ = some a ∧ W.cell? ⟨w.heap.size, 1, none⟩ = some b ∧ W.cell? ⟨w.heap.size, 2, none⟩ = some c :=
  ⟨box_later h 0 _ rfl, box_later h 1 _ rfl, box_later h 2 _ rfl⟩
theorem box_free (w : World) (cs : Array Value) (t : TypeId) (j : Nat) : (w.alloc (.cells cs t)).frozen? ⟨w.heap.size, j, none⟩ = false := by
  have : (w.alloc (.cells cs t)).heap[w.heap.size]? = some (.cells cs t) := heap_alloc_new w _
  simp only [World.frozen?, this]
  simp
theorem own3_facts {w : World} {a b c : Value} {T : TypeId} {W : World} (h : Later (w.alloc (.cells #[a, b, c] T)) W) :
    (W.cell? ⟨w.heap.size, 0, none⟩ = some a ∧ W.cell? ⟨w.heap.size, 1, none⟩ = some b ∧ W.cell? ⟨w.heap.size, 2, none⟩ = some c) ∧
    (W.frozen? ⟨w.heap.size, 0, none⟩ = false ∧ W.frozen? ⟨w.heap.size, 1, none⟩ = false ∧ W.frozen? ⟨w.heap.size, 2, none⟩ = false) :=
  ⟨box3_facts h, h.free (box_cell w _ T 0 _ rfl) (box_free _ _ _ _), h.free (box_cell w _ T 1 _ rfl) (box_free _ _ _ _), h.free (box_cell w _ T 2 _ rfl) (box_free _ _ _ _)⟩
/-- a box, and behind it the block of a result -/
theorem pair3_facts {w : World} {o : Obj} {a b c d e f : Value} {T T' : TypeId} {W : World} (ho : o = .cells #[a, b, c] T) (h : Later ((w.alloc o).alloc (.cells #[d, e, f] T')) W) :
    (W.cell? ⟨w.heap.size, 0, none⟩ = some a ∧ W.cell? ⟨w.heap.size, 1, none⟩ = some b ∧ W.cell? ⟨w.heap.size, 2, none⟩ = some c) ∧
    (W.cell? ⟨w.heap.size + 1, 0, none⟩ = some d ∧ W.cell? ⟨w.heap.size + 1, 1, none⟩ = some e ∧ W.cell? ⟨w.heap.size + 1, 2, none⟩ = some f) ∧
    (W.frozen? ⟨w.heap.size + 1, 0, none⟩ = false ∧ W.frozen? ⟨w.heap.size + 1, 1, none⟩ = false ∧ W.frozen? ⟨w.heap.size + 1, 2, none⟩ = false) := by
  have h1 := own3_facts h
  rw [World.size_alloc] at h1
  subst ho
  exact ⟨box3_facts (later_box h), h1⟩
theorem box_size {w : World} {o : Obj} {W : World} (h : Later (w.alloc o) W) : w.heap.size < W.heap.size := by
  have := Below.size h; rw [World.size_alloc] at this; omega
theorem pair_size {w : World} {o o' : Obj} {W : World} (h : Later ((w.alloc o).alloc o') W) : w.heap.size + 1 < W.heap.size := by
  have := Below.size h; rw [World.size_alloc, World.size_alloc] at this; omega
end Go.Proofs.Ytpomhnmfkdgafaa
namespace Go.Proofs.Ytpomhnmfkdgafaa
open Go.RowKit
set_option linter.unusedVariables false

/-- a value as data -/
inductive D where
  | junk
  | val (v : Value)
  | row (n : Nat) (xs : List D)
  | obj (xs : List D)
  | agg (xs : List D)
  | tup (xs : List D)
  | fn (f : Nat) (es cs : List D)
  | ptr (b off : Nat)
  | own (b n : Nat)
  | lit (n : Nat) (xs : List D)
  | pin (B c b off : Nat)
  | sized (n : Nat)
  deriving Inhabited
def D.int (n : Int) : D := .val (.int .i64 n)
def D.bool (b : Bool) : D := .val (.bool b)
def D.nil : D := .val (.slice none 0 0)

/-- v reads as d, in cells of blocks of I -/
inductive RC (I : Nat → Prop) (w : World) : D → Value → Prop
  | junk (v : Value) : RC I w .junk v
  | val (v : Value) (h : v.oneCell' = true) : RC I w (.val v) v
  | row {n : Nat} {xs : List D} {ao : Option Addr} {cap b off : Nat} {us : List Value} (hc : n ≤ cap) (hm : cap ≤ maxLen) (hn : ao = none → cap = 0) (hl : xs.length = us.length)
      (ha : 0 < us.length → ao = some ⟨b, off, none⟩ ∧ I b) (hs : ∀ j u, us[j]? = some u → w.cell? ⟨b, off + j, none⟩ = some u)
      (ho : ∀ u ∈ us, u.oneCell' = true)
      (hr : ∀ (j : Nat) (d : D) (u : Value), xs[j]? = some d → us[j]? = some u → RC I w d u) : RC I w (.row n xs) (.slice ao n cap)
  | obj {xs : List D} {b off : Nat} {us : List Value} (hI : I b) (hl : xs.length = us.length)
      (hs : ∀ j u, us[j]? = some u → w.cell? ⟨b, off + j, none⟩ = some u) (ho : ∀ u ∈ us, u.oneCell' = true)
      (hr : ∀ (j : Nat) (d : D) (u : Value), xs[j]? = some d → us[j]? = some u → RC I w d u) : RC I w (.obj xs) (.pointer (some ⟨b, off, none⟩))
  | agg {xs : List D} {us : List Value} (hl : xs.length = us.length) (ho : ∀ u ∈ us, u.oneCell' = true)
      (hr : ∀ (j : Nat) (d : D) (u : Value), xs[j]? = some d → us[j]? = some u → RC I w d u) : RC I w (.agg xs) (.agg us.toArray)
  | tup {xs : List D} {us : List Value} (hl : xs.length = us.length)
      (hr : ∀ (j : Nat) (d : D) (u : Value), xs[j]? = some d → us[j]? = some u → RC I w d u) : RC I w (.tup xs) (.tuple us.toArray)
  | fn {f : Nat} {es cs : List D} {us vs : List Value} (hl : es.length = us.length) (hk : cs.length = vs.length)
      (hr : ∀ (j : Nat) (d : D) (u : Value), es[j]? = some d → us[j]? = some u → RC I w d u)
      (hq : ∀ (j : Nat) (d : D) (u : Value), cs[j]? = some d → vs[j]? = some u → RC I w d u) : RC I w (.fn f es cs) (.func (.func f) us.toArray vs.toArray)
  | lit {n : Nat} {xs : List D} {b : Nat} {us : List Value} (hm : n ≤ maxLen) (hI : I b) (hl : xs.length = us.length)
      (hs : ∀ j u, us[j]? = some u → w.cell? ⟨b, 0 + j, none⟩ = some u) (ho : ∀ u ∈ us, u.oneCell' = true)
      (hr : ∀ (j : Nat) (d : D) (u : Value), xs[j]? = some d → us[j]? = some u → RC I w d u) : RC I w (.lit n xs) (.slice (some ⟨b, 0, none⟩) n n)
  | sized (ao : Option Addr) (n cap : Nat) (hm : n ≤ maxLen) : RC I w (.sized n) (.slice ao n cap)

theorem cell_block {w w' : World} {b o : Nat} (h : w'.heap[b]? = w.heap[b]?) : w'.cell? ⟨b, o, none⟩ = w.cell? ⟨b, o, none⟩ := World.cell?_of_block (a := ⟨b, o, none⟩) h
theorem RC.move {I I' : Nat → Prop} {w w' : World} {d : D} {v : Value} (h : RC I w d v) (hI : ∀ b, I b → I' b) (hw : ∀ b, I b → w'.heap[b]? = w.heap[b]?) : RC I' w' d v := by
  induction h with
  | junk v => exact .junk v
  | val v h => exact .val v h
  | row hc hm hn hl ha hs ho hr ih =>
    refine .row hc hm hn hl (fun h => ⟨(ha h).1, hI _ (ha h).2⟩) (fun j u hu => ?_) ho ih
    have h0 : j < _ := (List.getElem?_eq_some_iff.1 hu).1
    rw [cell_block (hw _ (ha (by omega)).2)]; exact hs j u hu
  | obj hi hl hs ho hr ih => exact .obj (hI _ hi) hl (fun j u hu => by rw [cell_block (hw _ hi)]; exact hs j u hu) ho ih
  | agg hl ho hr ih => exact .agg hl ho ih
  | tup hl hr ih => exact .tup hl ih
  | fn hl hk hr hq ih ih2 => exact .fn hl hk ih ih2
  | lit hm hi hl hs ho hr ih => exact .lit hm (hI _ hi) hl (fun j u hu => by rw [cell_block (hw _ hi)]; exact hs j u hu) ho ih
  | sized ao n cap hm => exact .sized ao n cap hm

/-- the address of a numbered row -/
def sv : Option (Nat × Nat) → Nat → Value
  | none, n => .slice none n n
  | some (g, cap), n => .slice (some ⟨g, 0, none⟩) n cap
abbrev Rho := Nat → Option (Nat × Nat)
/-- v reads as d, or is an address of a numbered row -/
inductive RA (ρ : Rho) (nb : Nat) (I : Nat → Prop) (w : World) : D → Value → Prop
  | im {d : D} {v : Value} (h : RC I w d v) : RA ρ nb I w d v
  | ptr {b off g cap : Nat} (hb : b < nb) (h : ρ b = some (g, cap)) : RA ρ nb I w (.ptr b off) (.pointer (some ⟨g, off, none⟩))
  | own {b n : Nat} (hb : b < nb) (h : ρ b = none → n = 0) : RA ρ nb I w (.own b n) (sv (ρ b) n)
  | pin {B c b off : Nat} (hb : b < nb) (h : ρ b = some (B, c)) : RA ρ nb I w (.pin B c b off) (.pointer (some ⟨B, off, none⟩))
  | agg {xs : List D} {us : List Value} (hl : xs.length = us.length) (ho : ∀ u ∈ us, u.oneCell' = true)
      (hr : ∀ (j : Nat) (d : D) (u : Value), xs[j]? = some d → us[j]? = some u → RA ρ nb I w d u) : RA ρ nb I w (.agg xs) (.agg us.toArray)
  | tup {xs : List D} {us : List Value} (hl : xs.length = us.length)
      (hr : ∀ (j : Nat) (d : D) (u : Value), xs[j]? = some d → us[j]? = some u → RA ρ nb I w d u) : RA ρ nb I w (.tup xs) (.tuple us.toArray)
  | fn {f : Nat} {es cs : List D} {us vs : List Value} (hl : es.length = us.length) (hk : cs.length = vs.length)
      (hr : ∀ (j : Nat) (d : D) (u : Value), es[j]? = some d → us[j]? = some u → RA ρ nb I w d u)
      (hq : ∀ (j : Nat) (d : D) (u : Value), cs[j]? = some d → vs[j]? = some u → RA ρ nb I w d u) : RA ρ nb I w (.fn f es cs) (.func (.func f) us.toArray vs.toArray)
theorem RA.move {ρ : Rho} {nb nb' : Nat} {I I' : Nat → Prop} {w w' : World} {d : D} {v : Value} (h : RA ρ nb I w d v) (hn : nb ≤ nb') (hI : ∀ b, I b → I' b) (hw : ∀ b, I b → w'.heap[b]? = w.heap[b]?) : RA ρ nb' I' w' d v := by
  induction h with
  | im h => exact .im (h.move hI hw)
  | ptr hb h => exact .ptr (Nat.lt_of_lt_of_le hb hn) h
  | own hb h => exact .own (Nat.lt_of_lt_of_le hb hn) h
  | pin hb h => exact .pin (Nat.lt_of_lt_of_le hb hn) h
  | agg hl ho hr ih => exact .agg hl ho ih
  | tup hl hr ih => exact .tup hl ih
  | fn hl hk hr hq ih ih2 => exact .fn hl hk ih ih2

mutual
/-- all numbers of rows in d meet p -/
def D.ids (p : Nat → Bool) : D → Bool
  | .junk | .val _ | .row _ _ | .obj _ | .lit _ _ | .sized _ => true
  | .agg xs | .tup xs => D.idsL p xs
  | .fn _ es cs => D.idsL p es && D.idsL p cs
  | .ptr b _ | .own b _ | .pin _ _ b _ => p b
def D.idsL (p : Nat → Bool) : List D → Bool
  | [] => true
  | d :: l => D.ids p d && D.idsL p l
end
theorem idsL_mem {p : Nat → Bool} : ∀ {l : List D}, D.idsL p l = true → ∀ (j : Nat) (d : D), l[j]? = some d → d.ids p = true
  | [], _, j, d, h => by simp at h
  | x :: l, h, j, d, hj => by
    simp only [D.idsL, Bool.and_eq_true] at h
    cases j with
    | zero => simp at hj; subst hj; exact h.1
    | succ j => exact idsL_mem h.2 j d (by simpa using hj)
theorem idsL_of {p : Nat → Bool} : ∀ {l : List D}, (∀ (j : Nat) (d : D), l[j]? = some d → d.ids p = true) → D.idsL p l = true
  | [], _ => rfl
  | x :: l, h => by
    simp only [D.idsL, Bool.and_eq_true]
    exact ⟨h 0 x rfl, idsL_of fun j d hj => h (j + 1) d (by simpa using hj)⟩
/-- the numbers may be dealt out anew, but for those that d has -/
theorem RA.rho {ρ ρ' : Rho} {nb nb' : Nat} {I : Nat → Prop} {w : World} {d : D} {v : Value} (h : RA ρ nb I w d v) (p : Nat → Bool) (hd : d.ids p = true) (hp : ∀ b, b < nb → p b = true → b < nb' ∧ ρ' b = ρ b) : RA ρ' nb' I w d v := by
  induction h with
  | im h => exact .im h
  | ptr hb h => obtain ⟨h1, h2⟩ := hp _ hb hd; exact .ptr h1 (by rw [h2]; exact h)
  | own hb h => obtain ⟨h1, h2⟩ := hp _ hb hd; rw [← h2] at h ⊢; exact .own h1 h
  | pin hb h => obtain ⟨h1, h2⟩ := hp _ hb hd; exact .pin h1 (by rw [h2]; exact h)
  | agg hl ho hr ih => exact .agg hl ho fun j d u h1 h2 => ih j d u h1 h2 (idsL_mem hd j d h1)
  | tup hl hr ih => exact .tup hl fun j d u h1 h2 => ih j d u h1 h2 (idsL_mem hd j d h1)
  | fn hl hk hr hq ih ih2 =>
    simp only [D.ids, Bool.and_eq_true] at hd
    exact .fn hl hk (fun j d u h1 h2 => ih j d u h1 h2 (idsL_mem hd.1 j d h1)) (fun j d u h1 h2 => ih2 j d u h1 h2 (idsL_mem hd.2 j d h1))
/-- without numbers: plain data -/
theorem RA.closed {ρ : Rho} {nb : Nat} {I : Nat → Prop} {w : World} {d : D} {v : Value} (h : RA ρ nb I w d v) (hd : d.ids (fun _ => false) = true) : RC I w d v := by
  induction h with
  | im h => exact h
  | ptr hb h => cases hd
  | own hb h => cases hd
  | pin hb h => cases hd
  | agg hl ho hr ih => exact .agg hl ho fun j d u h1 h2 => ih j d u h1 h2 (idsL_mem hd j d h1)
  | tup hl hr ih => exact .tup hl fun j d u h1 h2 => ih j d u h1 h2 (idsL_mem hd j d h1)
  | fn hl hk hr hq ih ih2 =>
    simp only [D.ids, Bool.and_eq_true] at hd
    exact .fn hl hk (fun j d u h1 h2 => ih j d u h1 h2 (idsL_mem hd.1 j d h1)) (fun j d u h1 h2 => ih2 j d u h1 h2 (idsL_mem hd.2 j d h1))
theorem RA.val_eq {ρ : Rho} {nb : Nat} {I : Nat → Prop} {w : World} {u v : Value} (h : RA ρ nb I w (.val u) v) : v = u := by
  cases h with | im h => cases h; rfl

/-- a row of the call's own: its elements' type, their cells, how many, what its cells hold -/
structure M where
  ty : TypeId
  size : Nat
  n : Nat
  xs : List D
/-- what is known: numbers below nb, sz slots, slots, rows -/
structure St where
  nb : Nat
  sz : Nat
  tmp : List (Nat × D)
  mem : List (Nat × Option M)
def getM (b : Nat) : List (Nat × Option M) → Option M
  | [] => none
  | (c, m) :: l => cond (Nat.beq c b) m (getM b l)
def look (t : Nat) : List (Nat × D) → Option D
  | [] => none
  | (s, d) :: l => cond (Nat.beq s t) (some d) (look t l)
structure MemOk (w0 : World) (ρ : Rho) (nb : Nat) (I : Nat → Prop) (w : World) (b : Nat) (m : M) : Prop where
  id : b < nb
  row : ∃ us, w.ownsRow w0.heap.size m.ty m.size (sv (ρ b) m.n) m.n us ∧ m.xs.length = us.length ∧ (∀ u ∈ us, u.oneCell' = true) ∧ ∀ (j : Nat) (d : D) (u : Value), m.xs[j]? = some d → us[j]? = some u → RA ρ nb I w d u
  not : ∀ g cap, ρ b = some (g, cap) → ¬ I g
/-- blocks that are not written to, and what they hold -/
structure Bs where
  i : Nat → Prop
  h : Nat → Option Obj
structure G (w0 : World) (I0 : Bs) (S : St) (ρ : Rho) (I : Nat → Prop) (a : Act) (w : World) : Prop where
  later : Later w0 w
  lt : ∀ b, I b → b < w.heap.size
  base : ∀ b, I b → I0.i b ∨ w0.heap.size ≤ b
  old : ∀ b, I0.i b → I b ∧ w.heap[b]? = I0.h b
  defers : a.defers = []
  sz : a.tmps.size = S.sz
  tmp : ∀ t d, look t S.tmp = some d → RA ρ S.nb I w d (a.tmps.getD t undef)
  mem : ∀ b m, getM b S.mem = some m → MemOk w0 ρ S.nb I w b m
  inj : ∀ b m b' m', getM b S.mem = some m → getM b' S.mem = some m' → ∀ g c c', ρ b = some (g, c) → ρ b' = some (g, c') → b = b'
/-- new blocks alone -/
structure Ext (I : Nat → Prop) (w : World) (I' : Nat → Prop) (w' : World) : Prop where
  more : ∀ b, I b → I' b
  new : ∀ b, I' b → I b ∨ (w.heap.size ≤ b ∧ b < w'.heap.size)
  later : Later w w'
theorem Ext.refl (I : Nat → Prop) (w : World) : Ext I w I w := ⟨fun _ h => h, fun _ h => .inl h, Later.refl w⟩
theorem Ext.same {I : Nat → Prop} {w w' : World} (h : Later w w') : Ext I w I w' := ⟨fun _ h => h, fun _ h => .inl h, h⟩
theorem later_block {w w' : World} (h : Later w w') {b : Nat} (hb : b < w.heap.size) : w'.heap[b]? = w.heap[b]? := h.block b hb
theorem RA.ext {ρ : Rho} {nb nb' : Nat} {I I' : Nat → Prop} {w w' : World} {d : D} {v : Value} (h : RA ρ nb I w d v) (hn : nb ≤ nb') (lt : ∀ b, I b → b < w.heap.size) (e : Ext I w I' w') : RA ρ nb' I' w' d v :=
  h.move hn e.more fun b hb => later_block e.later (lt b hb)
theorem MemOk.ext {w0 : World} {ρ : Rho} {nb : Nat} {I I' : Nat → Prop} {w w' : World} {b : Nat} {m : M} (h : MemOk w0 ρ nb I w b m) (lt : ∀ b, I b → b < w.heap.size) (e : Ext I w I' w') : MemOk w0 ρ nb I' w' b m := by
  obtain ⟨h1, ⟨us, ho, hl, h1c, hr⟩, hn⟩ := h
  refine ⟨h1, ⟨us, ho.kept (row := none) (e.later.grows none) (by cases (sv (ρ b) m.n).ownBlock <;> simp), hl, h1c, fun j d u a b => (hr j d u a b).ext (Nat.le_refl _) lt e⟩, fun g cap hg hI => ?_⟩
  rcases e.new g hI with h | h
  · exact hn g cap hg h
  · have hlt := (ho.lt g (by rw [hg]; rfl)).2
    omega
/-- a step that only makes new blocks, and writes no slot that is known -/
theorem G.ext {w0 : World} {I0 : Bs} {S : St} {ρ : Rho} {I I' : Nat → Prop} {a : Act} {w w' : World} (g : G w0 I0 S ρ I a w) (e : Ext I w I' w') : G w0 I0 S ρ I' a w' :=
  ⟨g.later.trans e.later, fun b hb => by
      rcases e.new b hb with h | h
      · exact Nat.lt_of_lt_of_le (g.lt b h) (Below.size e.later)
      · exact h.2,
    fun b hb => by
      rcases e.new b hb with h | h
      · exact g.base b h
      · exact .inr (Nat.le_trans (Below.size g.later) h.1),
    fun b hb => ⟨e.more b (g.old b hb).1, by rw [later_block e.later (g.lt b (g.old b hb).1)]; exact (g.old b hb).2⟩, g.defers, g.sz, fun t d h => (g.tmp t d h).ext (Nat.le_refl _) g.lt e, fun b m hm => (g.mem b m hm).ext g.lt e, g.inj⟩
def St.put (S : St) (t : Nat) (d : D) : St := { S with tmp := (t, d) :: S.tmp }
theorem getD_set_same {α : Type} (xs : Array α) (t : Nat) (v z : α) (h : t < xs.size) : (xs.setIfInBounds t v).getD t z = v := by simp [h]
theorem getD_set_other {α : Type} (xs : Array α) (t s : Nat) (v z : α) (h : s ≠ t) : (xs.setIfInBounds t v).getD s z = xs.getD s z := by simp [Array.getElem?_setIfInBounds_ne (Ne.symm h)]
theorem G.put {w0 : World} {I0 : Bs} {S : St} {ρ : Rho} {I : Nat → Prop} {a : Act} {w : World} (g : G w0 I0 S ρ I a w) {t : Nat} (ht : t < S.sz) {d : D} {v : Value} (h : RA ρ S.nb I w d v) : G w0 I0 (S.put t d) ρ I (a.put (some t) v) w := by
  refine ⟨g.later, g.lt, g.base, g.old, g.defers, by simp [g.sz, Act.put, St.put], fun s e he => ?_, g.mem, g.inj⟩
  unfold St.put Act.put
  simp only
  have he' : cond (Nat.beq t s) (some d) (look s S.tmp) = some e := he
  cases hts : Nat.beq t s with
  | true =>
    rw [hts] at he'
    cases he'
    have := Nat.eq_of_beq_eq_true hts
    subst this
    rw [getD_set_same _ _ _ _ (by rw [g.sz]; exact ht)]; exact h
  | false =>
    rw [hts] at he'
    have := Nat.ne_of_beq_eq_false hts
    rw [getD_set_other _ _ _ _ _ (Ne.symm this)]; exact g.tmp s e he'
def constD : Value → Option D
  | .agg us => if us.all (·.oneCell') then some (.agg (us.toList.map D.val)) else none
  | .tuple _ => none
  | v => some (.val v)
def St.ev (S : St) : Operand → Option D
  | .tmp t => look t S.tmp
  | .const v => constD v
  | .func f => some (.fn f [] [])
  | .global _ => none
theorem G.ev {w0 : World} {I0 : Bs} {S : St} {ρ : Rho} {I : Nat → Prop} {a : Act} {w : World} (g : G w0 I0 S ρ I a w) {x : Operand} {d : D} (h : S.ev x = some d) : RA ρ S.nb I w d (a.eval x) := by
  cases x with
  | tmp t => exact g.tmp t d h
  | const v =>
    refine .im ?_
    cases v <;> simp only [St.ev, constD, Option.some.injEq, reduceCtorEq] at h <;> try (subst h; exact .val _ rfl)
    rename_i us
    by_cases hu : (us.all fun x => x.oneCell') = true
    · rw [if_pos hu] at h
      cases h
      have : (a.eval (.const (.agg us)) : Value) = .agg us.toList.toArray := by simp [Act.eval]
      rw [this]
      have h1 : ∀ u ∈ us.toList, u.oneCell' = true := by
        intro u hu'
        rw [Array.all_eq_true'] at hu
        exact hu u (by simpa using hu')
      refine .agg (by simp) h1 fun j d u hj hu => ?_
      simp only [List.getElem?_map, hu, Option.map_some, Option.some.injEq] at hj
      subst hj
      exact .val _ (h1 u (List.mem_of_getElem? hu))
    · rw [if_neg hu] at h; cases h
  | func f =>
    cases h
    exact .im (.fn (us := []) (vs := []) rfl rfl (fun j d u hj => by simp at hj) (fun j d u hj => by simp at hj))
  | global gl => cases h

/-! ### bodies -/
/-- a list of operations, from what is known -/
structure T (P : Program) (ops : Array Oper) (l : List Oper) (S : St) (K : St → Prop) : Prop where
  h : ∀ w0 I0 ρ I a w Q, G w0 I0 S ρ I a w → (∀ S' ρ' I' a' w', K S' → G w0 I0 S' ρ' I' a' w' → Q Exit.normal a' w') → wpList P ops Q l a w
structure C (P : Program) (c : Code) (S : St) (K : Exit → St → Prop) : Prop where
  h : ∀ w0 I0 ρ I a w Q, G w0 I0 S ρ I a w → (∀ e S' ρ' I' a' w', K e S' → G w0 I0 S' ρ' I' a' w' → Q e a' w') → c.wp P Q a w
def kSeq0 (P : Program) (y : Code) (K : Exit → St → Prop) : Exit → St → Prop
  | .normal, S => C P y S K
  | e, S => K e S
structure kSeq (P : Program) (y : Code) (K : Exit → St → Prop) (e : Exit) (S : St) : Prop where
  h : kSeq0 P y K e S
def kBlock0 (id : Nat) (K : Exit → St → Prop) : Exit → St → Prop
  | .exit i, S => if i = id then K .normal S else K (.exit i) S
  | e, S => K e S
structure kBlock (id : Nat) (K : Exit → St → Prop) (e : Exit) (S : St) : Prop where
  h : kBlock0 id K e S
def kLoop0 (J : St → Prop) (K : Exit → St → Prop) : Exit → St → Prop
  | .normal, S => J S
  | e, S => K e S
structure kLoop (J : St → Prop) (K : Exit → St → Prop) (e : Exit) (S : St) : Prop where
  h : kLoop0 J K e S
section
variable {P : Program} {S : St} {K : Exit → St → Prop}
theorem C_seq {x y : Code} (h : C P x S (kSeq P y K)) : C P (.seq x y) S K := ⟨fun w0 I0 ρ I a w Q g q =>
  wp_seq (h.h w0 I0 ρ I a w _ g fun e S' ρ' I' a' w' hk g' => by
    replace hk := hk.h
    cases e <;> first | exact C.h hk w0 I0 ρ' I' a' w' Q g' q | exact q _ S' ρ' I' a' w' hk g')⟩
theorem C_skip (h : K .normal S) : C P .skip S K := ⟨fun _ _ ρ I a w Q g q => wp_skip (q _ _ ρ I _ _ h g)⟩
theorem C_exit {id : Nat} (h : K (.exit id) S) : C P (.exit id) S K := ⟨fun _ _ ρ I a w Q g q => wp_exit (q _ _ ρ I _ _ h g)⟩
theorem C_ret (h : K .ret S) : C P .ret S K := ⟨fun _ _ ρ I a w Q g q => wp_ret (q _ _ ρ I _ _ h g)⟩
theorem C_block {id : Nat} {c : Code} (h : C P c S (kBlock id K)) : C P (.block id c) S K := ⟨fun w0 I0 ρ I a w Q g q =>
  wp_block (h.h w0 I0 ρ I a w _ g fun e S' ρ' I' a' w' hk g' => by
    replace hk := hk.h
    cases e with
    | exit i =>
      unfold kBlock0 at hk
      unfold Exit.inBlock
      by_cases hi : i = id
      · simp only [hi, if_true] at hk ⊢; exact q _ S' ρ' I' a' w' hk g'
      · simp only [hi, if_false] at hk ⊢; exact q _ S' ρ' I' a' w' hk g'
    | _ => exact q _ S' ρ' I' a' w' hk g')⟩
theorem C_cond {c : Operand} {x y : Code} {t : Bool} (hc : S.ev c = some (.val (.bool t))) (h1 : t = true → C P x S K) (h2 : t = false → C P y S K) : C P (.cond c x y) S K := ⟨fun w0 I0 ρ I a w Q g q =>
  wp_cond_split (g.ev hc).val_eq (fun h => (h1 h).h w0 I0 ρ I a w Q g q) (fun h => (h2 h).h w0 I0 ρ I a w Q g q)⟩
theorem C_cond_t {c : Operand} {x y : Code} (hc : S.ev c = some (.val (.bool true))) (h1 : C P x S K) : C P (.cond c x y) S K := C_cond hc (fun _ => h1) (fun h => by cases h)
theorem C_cond_f {c : Operand} {x y : Code} (hc : S.ev c = some (.val (.bool false))) (h1 : C P y S K) : C P (.cond c x y) S K := C_cond hc (fun h => by cases h) (fun _ => h1)
theorem C_cond_p {p : Prop} [inst : Decidable p] {c : Operand} {x y : Code} (hc : S.ev c = some (.val (.bool (decide p)))) (h1 : p → C P x S K) (h2 : ¬ p → C P y S K) : C P (.cond c x y) S K := C_cond hc (fun h => h1 (of_decide_eq_true h)) (fun h => h2 (of_decide_eq_false h))
theorem kSeq_n {y : Code} (h : C P y S K) : kSeq P y K .normal S := ⟨h⟩
theorem kSeq_x {y : Code} {i : Nat} (h : K (.exit i) S) : kSeq P y K (.exit i) S := ⟨h⟩
theorem kSeq_r {y : Code} (h : K .ret S) : kSeq P y K .ret S := ⟨h⟩
theorem kBlock_n {id : Nat} (h : K .normal S) : kBlock id K .normal S := ⟨h⟩
theorem kBlock_r {id : Nat} (h : K .ret S) : kBlock id K .ret S := ⟨h⟩
theorem kBlock_x {id : Nat} (h : K .normal S) : kBlock id K (.exit id) S := ⟨by show (if id = id then _ else _); rw [if_pos rfl]; exact h⟩
theorem kBlock_y {id i : Nat} (hi : (i == id) = false) (h : K (.exit i) S) : kBlock id K (.exit i) S := ⟨by show (if i = id then _ else _); rw [if_neg (by simpa using hi)]; exact h⟩
theorem kLoop_n {J : St → Prop} (h : J S) : kLoop J K .normal S := ⟨h⟩
theorem kLoop_x {J : St → Prop} {i : Nat} (h : K (.exit i) S) : kLoop J K (.exit i) S := ⟨h⟩
theorem kLoop_r {J : St → Prop} (h : K .ret S) : kLoop J K .ret S := ⟨h⟩
/-- S knows what S' knows -/
def Wk (S S' : St) : Prop := ∀ w0 I0 ρ I a w, G w0 I0 S ρ I a w → ∃ ρ' I', G w0 I0 S' ρ' I' a w
theorem Wk.refl (S : St) : Wk S S := fun _ _ ρ I _ _ g => ⟨ρ, I, g⟩
theorem Wk.trans {a b c : St} (h : Wk a b) (k : Wk b c) : Wk a c := fun w0 I0 ρ I x w g => by
  obtain ⟨ρ', I', g'⟩ := h w0 I0 ρ I x w g
  exact k w0 I0 ρ' I' x w g'
theorem C_wk {c : Code} {S' : St} (hw : Wk S S') (h : C P c S' K) : C P c S K := ⟨fun w0 I0 ρ I a w Q g q => by
  obtain ⟨ρ', I', g'⟩ := hw w0 I0 ρ I a w g
  exact h.h w0 I0 ρ' I' a w Q g' q⟩
theorem C_mono {c : Code} {K' : Exit → St → Prop} (h : C P c S K) (hk : ∀ e S, K e S → K' e S) : C P c S K' := ⟨fun w0 I0 ρ I a w Q g q => h.h w0 I0 ρ I a w Q g fun e S' ρ' I' a' w' h1 g' => q e S' ρ' I' a' w' (hk e S' h1) g'⟩
theorem T_wk {ops : Array Oper} {l : List Oper} {S' : St} {K : St → Prop} (hw : Wk S S') (h : T P ops l S' K) : T P ops l S K := ⟨fun w0 I0 ρ I a w Q g q => by
  obtain ⟨ρ', I', g'⟩ := hw w0 I0 ρ I a w g
  exact h.h w0 I0 ρ' I' a w Q g' q⟩
theorem C_loop {c : Code} {σ : Type} (J : σ → St) (μ : σ → Nat) (s0 : σ) (h0 : Wk S (J s0)) (round : ∀ s, C P c (J s) (kLoop (fun S' => ∃ s', μ s' < μ s ∧ Wk S' (J s')) K)) : C P (.loop c) S K := ⟨fun w0 I0 ρ I a w Q g q => by
  obtain ⟨ρ', I', g'⟩ := h0 w0 I0 ρ I a w g
  let V : Act → World → Nat → Prop := fun a w n => ∃ s ρ I, μ s = n ∧ G w0 I0 (J s) ρ I a w
  have least : ∀ a w, (∃ n, V a w n) → ∃ n, V a w n ∧ ∀ m, V a w m → n ≤ m := by
    intro a w ⟨n, hn⟩
    induction n using Nat.strongRecOn with
    | _ n ih =>
      by_cases h : ∃ m, m < n ∧ V a w m
      · obtain ⟨m, hm, hv⟩ := h; exact ih m hm hv
      · exact ⟨n, hn, fun m hm => by
          apply Classical.byContradiction; intro hlt; exact h ⟨m, by omega, hm⟩⟩
  classical
  let ν : Act → World → Nat := fun a w => if h : ∃ n, V a w n then Classical.choose (least a w h) else 0
  have hν : ∀ a w, (h : ∃ n, V a w n) → V a w (ν a w) ∧ ∀ m, V a w m → ν a w ≤ m := by
    intro a w h
    have e : ν a w = Classical.choose (least a w h) := dif_pos h
    rw [e]; exact Classical.choose_spec (least a w h)
  refine wp_loop (fun a w => ∃ n, V a w n) ν ⟨_, s0, ρ', I', rfl, g'⟩ fun a w hV => ?_
  obtain ⟨⟨s, ρ, I, hs, g⟩, _⟩ := hν a w hV
  refine (round s).h w0 I0 ρ I a w _ g fun e S' ρ' I' a' w' hk g' => ?_
  replace hk := hk.h
  cases e with
  | normal =>
    obtain ⟨s', hlt, hw⟩ := hk
    obtain ⟨ρ2, I2, g2⟩ := hw w0 I0 ρ' I' a' w' g'
    have hV' : V a' w' (μ s') := ⟨s', ρ2, I2, rfl, g2⟩
    refine ⟨⟨_, hV'⟩, ?_⟩
    have := (hν a' w' ⟨_, hV'⟩).2 _ hV'
    omega
  | _ => exact q _ S' ρ' I' a' w' hk g'⟩
end
end Go.Proofs.Ytpomhnmfkdgafaa
namespace Go.Proofs.Ytpomhnmfkdgafaa
open Go.RowKit
set_option linter.unusedVariables false
set_option linter.unusedSimpArgs false
section
variable {P : Program} {ops : Array Oper} {S : St} {K : St → Prop} {o : Oper} {rest : List Oper}
/-- an operation that leaves what is known, makes at most new memory, and yields d -/
def PStep (P : Program) (o : Oper) (S : St) (d : D) : Prop := ∀ w0 I0 ρ I a w (next : Act → World → Prop) (Q : Exit → Act → World → Prop), G w0 I0 S ρ I a w →
  (∀ v w' I', Ext I w I' w' → RA ρ S.nb I' w' d v → next (a.put o.dst v) w') → o.wp P a w next Q
theorem PStep.run {d : D} (h : ∀ w0 I0 ρ I a w, G w0 I0 S ρ I a w → ∃ v w' I', (execOp a.eval o).run P w = .ok (.value v) w' ∧ Ext I w I' w' ∧ RA ρ S.nb I' w' d v) : PStep P o S d := fun w0 I0 ρ I a w next Q g q => by
  obtain ⟨v, w', I', hr, he, hd⟩ := h w0 I0 ρ I a w g
  unfold Oper.wp; rw [hr]; exact q v w' I' he hd
theorem PStep.pure {d : D} (h : ∀ w0 I0 ρ I a w, G w0 I0 S ρ I a w → ∃ v, (execOp a.eval o).run P w = .ok (.value v) w ∧ RA ρ S.nb I w d v) : PStep P o S d :=
  PStep.run fun w0 I0 ρ I a w g => by obtain ⟨v, h1, h2⟩ := h w0 I0 ρ I a w g; exact ⟨v, w, I, h1, Ext.refl I w, h2⟩
theorem PStep.value {v : Value} (hv : v.oneCell' = true) (h : ∀ w0 I0 ρ I a w, G w0 I0 S ρ I a w → (execOp a.eval o).run P w = .ok (.value v) w) : PStep P o S (.val v) :=
  PStep.pure fun w0 I0 ρ I a w g => ⟨v, h w0 I0 ρ I a w g, .im (.val v hv)⟩
/-! ### lists of operations -/
def St.guard (S : St) (ops : Array Oper) (o : Oper) : Option Bool :=
  match o.guard with
  | none => some true
  | some (j, want) => match ((ops[j]?).bind (·.dst)).bind fun t => look t S.tmp with
    | some (.val (.bool b)) => some (b == want)
    | some (.tup []) => some false
    | _ => none
theorem guard_wanted {w0 : World} {I0 : Bs} {ρ : Rho} {I : Nat → Prop} {a : Act} {w : World} (g : G w0 I0 S ρ I a w) {b : Bool} (h : S.guard ops o = some b) : Region.wanted o (yielded ops a.tmps) = b := by
  unfold St.guard at h
  unfold Region.wanted
  cases hg : o.guard with
  | none => rw [hg] at h; simpa using h
  | some jw =>
    obtain ⟨j, want⟩ := jw
    rw [hg] at h
    simp only at h ⊢
    cases ht : (ops[j]?).bind (·.dst) with
    | none => rw [ht] at h; simp at h
    | some t =>
      rw [ht] at h
      simp only [Option.bind_some] at h
      cases hl : look t S.tmp with
      | none => rw [hl] at h; simp at h
      | some d =>
        rw [hl] at h
        cases d with
        | val v =>
          cases v with
          | bool c =>
            have hv := (g.tmp _ _ hl).val_eq
            have hy : yielded ops a.tmps j = some c := by
              unfold yielded
              rw [ht]
              simp only [Option.bind_some]
              by_cases hs : t < a.tmps.size
              · have : a.tmps[t]? = some (.bool c) := by
                  rw [Array.getElem?_eq_getElem hs]
                  simpa [hs] using hv
                rw [this]
              · have hn : a.tmps[t]? = none := Array.getElem?_eq_none (Nat.le_of_not_lt hs)
                simp [hn, undef] at hv
            rw [hy]
            simp only [Option.some.injEq] at h
            rw [← h]
            cases c <;> cases want <;> rfl
          | _ => simp at h
        | tup l =>
          cases l with
          | cons _ _ => simp at h
          | nil =>
            have hv : a.tmps.getD t undef = .tuple #[] := by
              have hr := g.tmp _ _ hl
              generalize a.tmps.getD t undef = v at hr
              cases hr with
              | im hr =>
                cases hr with
                | tup hl hr => rename_i us; have : us = [] := List.eq_nil_of_length_eq_zero hl.symm; subst this; rfl
              | tup hl hr => rename_i us; have : us = [] := List.eq_nil_of_length_eq_zero hl.symm; subst this; rfl
            have hy : yielded ops a.tmps j = none := by
              unfold yielded
              rw [ht]
              simp only [Option.bind_some]
              by_cases hs : t < a.tmps.size
              · have : a.tmps[t]? = some (.tuple #[]) := by
                  rw [Array.getElem?_eq_getElem hs]
                  simpa [hs] using hv
                rw [this]
              · rw [Array.getElem?_eq_none (Nat.le_of_not_lt hs)]
            rw [hy]
            simp only [Option.some.injEq] at h
            rw [← h]
            rfl
        | _ => simp at h
theorem undef_tup {ρ : Rho} {nb : Nat} {I : Nat → Prop} {w : World} : RA ρ nb I w (.tup []) undef := .im (.tup (us := []) rfl fun j d u hj => by simp at hj)
theorem T_nil (h : K S) : T P ops [] S K := ⟨fun w0 I0 ρ I a w Q g q => q S ρ I a w h g⟩
theorem T_of_wp (hg : S.guard ops o = some true) (h : ∀ w0 I0 ρ I a w Q (next : Act → World → Prop), G w0 I0 S ρ I a w → (∀ a' w', wpList P ops Q rest a' w' → next a' w') → (∀ S' ρ' I' a' w', K S' → G w0 I0 S' ρ' I' a' w' → Q Exit.normal a' w') → o.wp P a w next Q) : T P ops (o :: rest) S K := ⟨fun w0 I0 ρ I a w Q g q => by
  refine wpList_want (guard_wanted g hg) fun k hk => h w0 I0 ρ I a w Q k g hk q⟩
theorem T_step' {d : D} {S' : St} (hg : S.guard ops o = some true) (h : PStep P o S d) (hS : ∀ w0 I0 ρ I a w v, G w0 I0 S ρ I a w → RA ρ S.nb I w d v → G w0 I0 S' ρ I (a.put o.dst v) w) (k : T P ops rest S' K) : T P ops (o :: rest) S K :=
  T_of_wp hg fun w0 I0 ρ I a w Q next g hk q => h w0 I0 ρ I a w next Q g fun v w' I' e r => hk _ _ (k.h w0 I0 ρ I' _ w' Q (hS _ _ _ _ _ _ _ (g.ext e) r) q)
theorem T_pass' {S' : St} (hg : S.guard ops o = some false) (hS : ∀ w0 I0 ρ I a w v, G w0 I0 S ρ I a w → v = undef → G w0 I0 S' ρ I (a.put o.dst v) w) (k : T P ops rest S' K) : T P ops (o :: rest) S K := ⟨fun w0 I0 ρ I a w Q g q => by
  have hw := guard_wanted g hg
  unfold wpList
  rw [if_neg (by rw [hw]; decide)]
  exact k.h w0 I0 ρ I _ w Q (hS _ _ _ _ _ _ _ g rfl) q⟩
section
variable {nb sz : Nat} {tmp : List (Nat × D)} {mem : List (Nat × Option M)} {t : Nat} {op : Op} {ty : TypeId} {pos : String} {af : Array Edge} {gd : Option (Nat × Bool)}
theorem T_step {d : D} (h : PStep P ⟨some t, op, ty, pos, af, gd⟩ ⟨nb, sz, tmp, mem⟩ d) (hg : St.guard ⟨nb, sz, tmp, mem⟩ ops ⟨some t, op, ty, pos, af, gd⟩ = some true) (ht : Nat.blt t sz = true) (k : T P ops rest ⟨nb, sz, (t, d) :: tmp, mem⟩ K) : T P ops (⟨some t, op, ty, pos, af, gd⟩ :: rest) ⟨nb, sz, tmp, mem⟩ K :=
  T_step' hg h (fun _ _ _ _ _ _ _ g r => g.put (by simpa using ht) r) k
theorem T_pass (hg : St.guard ⟨nb, sz, tmp, mem⟩ ops ⟨some t, op, ty, pos, af, gd⟩ = some false) (ht : Nat.blt t sz = true) (k : T P ops rest ⟨nb, sz, (t, .tup []) :: tmp, mem⟩ K) : T P ops (⟨some t, op, ty, pos, af, gd⟩ :: rest) ⟨nb, sz, tmp, mem⟩ K :=
  T_pass' hg (fun _ _ _ _ _ _ v g r => by subst r; exact g.put (by simpa using ht) undef_tup) k
end
theorem T_guard {b : Bool} (hg : S.guard ops o = some b) (h1 : b = true → T P ops (o :: rest) S K) (h2 : b = false → T P ops (o :: rest) S K) : T P ops (o :: rest) S K := by
  cases b
  · exact h2 rfl
  · exact h1 rfl
theorem C_region {id : Nat} {l : List Oper} {Kc : Exit → St → Prop} (h : T P l.toArray l S (Kc .normal)) : C P (.region id l.toArray false) S Kc := ⟨fun w0 I0 ρ I a w Q g q =>
  wp_region_lit (h.h w0 I0 ρ I a w Q g fun S' ρ' I' a' w' hk g' => q _ S' ρ' I' a' w' hk g')⟩
/-! ### numbers -/
variable {x y : Operand} {t yt : TypeId} {k : IntKind} {a b c : Int}
theorem P_move {d : D} (ho : o.op = .move x) (hx : S.ev x = some d) : PStep P o S d := PStep.pure fun w0 I0 ρ I a w g => ⟨a.eval x, by simp [execOp, ho], g.ev hx⟩
theorem P_assign {d : D} (ho : o.op = .assign x) (hx : S.ev x = some d) : PStep P o S d := PStep.pure fun w0 I0 ρ I a w g => ⟨a.eval x, by simp [execOp, ho], g.ev hx⟩
theorem P_add (ho : o.op = .binOp .add t x y yt) (hx : S.ev x = some (.val (.int k a))) (hy : S.ev y = some (.val (.int k b))) (hc : k.wrap (a + b) = c) : PStep P o S (.val (.int k c)) :=
  PStep.value rfl fun w0 I0 ρ I ac w g => by have h1 := (g.ev hx).val_eq; have h2 := (g.ev hy).val_eq; simp [execOp, ho, h1, h2, eqGuard_at_int, eqGuard_at_string, eqGuard_at_bool, binOp_add, binOp_sub, binOp_mul, binOp_quo, binOp_rem, binOp_eql, binOp_neq, binOp_lss, binOp_leq, binOp_gtr, binOp_geq, Op.intArith, Op.intDiv, hc]
theorem P_sub (ho : o.op = .binOp .sub t x y yt) (hx : S.ev x = some (.val (.int k a))) (hy : S.ev y = some (.val (.int k b))) (hc : k.wrap (a - b) = c) : PStep P o S (.val (.int k c)) :=
  PStep.value rfl fun w0 I0 ρ I ac w g => by have h1 := (g.ev hx).val_eq; have h2 := (g.ev hy).val_eq; simp [execOp, ho, h1, h2, eqGuard_at_int, eqGuard_at_string, eqGuard_at_bool, binOp_add, binOp_sub, binOp_mul, binOp_quo, binOp_rem, binOp_eql, binOp_neq, binOp_lss, binOp_leq, binOp_gtr, binOp_geq, Op.intArith, Op.intDiv, hc]
theorem P_mul (ho : o.op = .binOp .mul t x y yt) (hx : S.ev x = some (.val (.int k a))) (hy : S.ev y = some (.val (.int k b))) (hc : k.wrap (a * b) = c) : PStep P o S (.val (.int k c)) :=
  PStep.value rfl fun w0 I0 ρ I ac w g => by have h1 := (g.ev hx).val_eq; have h2 := (g.ev hy).val_eq; simp [execOp, ho, h1, h2, eqGuard_at_int, eqGuard_at_string, eqGuard_at_bool, binOp_add, binOp_sub, binOp_mul, binOp_quo, binOp_rem, binOp_eql, binOp_neq, binOp_lss, binOp_leq, binOp_gtr, binOp_geq, Op.intArith, Op.intDiv, hc]
theorem P_quo (ho : o.op = .binOp .quo t x y yt) (hx : S.ev x = some (.val (.int k a))) (hy : S.ev y = some (.val (.int k b))) (hb : b ≠ 0) (hc : k.wrap (a.tdiv b) = c) : PStep P o S (.val (.int k c)) :=
  PStep.value rfl fun w0 I0 ρ I ac w g => by have h1 := (g.ev hx).val_eq; have h2 := (g.ev hy).val_eq; simp [execOp, ho, h1, h2, eqGuard_at_int, eqGuard_at_string, eqGuard_at_bool, binOp_add, binOp_sub, binOp_mul, binOp_quo, binOp_rem, binOp_eql, binOp_neq, binOp_lss, binOp_leq, binOp_gtr, binOp_geq, Op.intArith, Op.intDiv, hc, hb]
theorem P_rem (ho : o.op = .binOp .rem t x y yt) (hx : S.ev x = some (.val (.int k a))) (hy : S.ev y = some (.val (.int k b))) (hb : b ≠ 0) (hc : a.tmod b = c) : PStep P o S (.val (.int k c)) :=
  PStep.value rfl fun w0 I0 ρ I ac w g => by have h1 := (g.ev hx).val_eq; have h2 := (g.ev hy).val_eq; simp [execOp, ho, h1, h2, eqGuard_at_int, eqGuard_at_string, eqGuard_at_bool, binOp_add, binOp_sub, binOp_mul, binOp_quo, binOp_rem, binOp_eql, binOp_neq, binOp_lss, binOp_leq, binOp_gtr, binOp_geq, Op.intArith, Op.intDiv, hc, hb]
theorem P_eql (ho : o.op = .binOp .eql t x y yt) (hx : S.ev x = some (.val (.int k a))) (hy : S.ev y = some (.val (.int k b))) : PStep P o S (.val (.bool (decide (a = b)))) :=
  PStep.value rfl fun w0 I0 ρ I ac w g => by
    have h1 := (g.ev hx).val_eq; have h2 := (g.ev hy).val_eq
    have e : (a == b) = decide (a = b) := rfl
    simp [execOp, ho, h1, h2, eqGuard_at_int, eqGuard_at_string, eqGuard_at_bool, binOp_add, binOp_sub, binOp_mul, binOp_quo, binOp_rem, binOp_eql, binOp_neq, binOp_lss, binOp_leq, binOp_gtr, binOp_geq, Op.intArith, Op.intDiv, e]
theorem P_neq (ho : o.op = .binOp .neq t x y yt) (hx : S.ev x = some (.val (.int k a))) (hy : S.ev y = some (.val (.int k b))) : PStep P o S (.val (.bool (decide (a ≠ b)))) :=
  PStep.value rfl fun w0 I0 ρ I ac w g => by
    have h1 := (g.ev hx).val_eq; have h2 := (g.ev hy).val_eq
    have e : (a != b) = !decide (a = b) := rfl
    simp [execOp, ho, h1, h2, eqGuard_at_int, eqGuard_at_string, eqGuard_at_bool, binOp_add, binOp_sub, binOp_mul, binOp_quo, binOp_rem, binOp_eql, binOp_neq, binOp_lss, binOp_leq, binOp_gtr, binOp_geq, Op.intArith, Op.intDiv, e]
theorem P_lss (ho : o.op = .binOp .lss t x y yt) (hx : S.ev x = some (.val (.int k a))) (hy : S.ev y = some (.val (.int k b))) : PStep P o S (.val (.bool (decide (a < b)))) :=
  PStep.value rfl fun w0 I0 ρ I ac w g => by have h1 := (g.ev hx).val_eq; have h2 := (g.ev hy).val_eq; simp [execOp, ho, h1, h2, eqGuard_at_int, eqGuard_at_string, eqGuard_at_bool, binOp_add, binOp_sub, binOp_mul, binOp_quo, binOp_rem, binOp_eql, binOp_neq, binOp_lss, binOp_leq, binOp_gtr, binOp_geq, Op.intArith, Op.intDiv]
theorem P_leq (ho : o.op = .binOp .leq t x y yt) (hx : S.ev x = some (.val (.int k a))) (hy : S.ev y = some (.val (.int k b))) : PStep P o S (.val (.bool (decide (a ≤ b)))) :=
  PStep.value rfl fun w0 I0 ρ I ac w g => by have h1 := (g.ev hx).val_eq; have h2 := (g.ev hy).val_eq; simp [execOp, ho, h1, h2, eqGuard_at_int, eqGuard_at_string, eqGuard_at_bool, binOp_add, binOp_sub, binOp_mul, binOp_quo, binOp_rem, binOp_eql, binOp_neq, binOp_lss, binOp_leq, binOp_gtr, binOp_geq, Op.intArith, Op.intDiv]
theorem P_gtr (ho : o.op = .binOp .gtr t x y yt) (hx : S.ev x = some (.val (.int k a))) (hy : S.ev y = some (.val (.int k b))) : PStep P o S (.val (.bool (decide (b < a)))) :=
  PStep.value rfl fun w0 I0 ρ I ac w g => by have h1 := (g.ev hx).val_eq; have h2 := (g.ev hy).val_eq; simp [execOp, ho, h1, h2, eqGuard_at_int, eqGuard_at_string, eqGuard_at_bool, binOp_add, binOp_sub, binOp_mul, binOp_quo, binOp_rem, binOp_eql, binOp_neq, binOp_lss, binOp_leq, binOp_gtr, binOp_geq, Op.intArith, Op.intDiv]
theorem P_geq (ho : o.op = .binOp .geq t x y yt) (hx : S.ev x = some (.val (.int k a))) (hy : S.ev y = some (.val (.int k b))) : PStep P o S (.val (.bool (decide (b ≤ a)))) :=
  PStep.value rfl fun w0 I0 ρ I ac w g => by have h1 := (g.ev hx).val_eq; have h2 := (g.ev hy).val_eq; simp [execOp, ho, h1, h2, eqGuard_at_int, eqGuard_at_string, eqGuard_at_bool, binOp_add, binOp_sub, binOp_mul, binOp_quo, binOp_rem, binOp_eql, binOp_neq, binOp_lss, binOp_leq, binOp_gtr, binOp_geq, Op.intArith, Op.intDiv]
theorem P_not {c : Bool} (ho : o.op = .unOp .not t x) (hx : S.ev x = some (.val (.bool c))) : PStep P o S (.val (.bool (!c))) :=
  PStep.value rfl fun w0 I0 ρ I ac w g => by have h1 := (g.ev hx).val_eq; simp [execOp, ho, h1, Op.unary]
theorem P_neg (ho : o.op = .unOp .neg t x) (hx : S.ev x = some (.val (.int k a))) (hc : k.wrap (0 - a) = c) : PStep P o S (.val (.int k c)) :=
  PStep.value rfl fun w0 I0 ρ I ac w g => by have h1 := (g.ev hx).val_eq; rw [← hc]; simp [execOp, ho, h1, Op.unary, Op.intArith]
theorem P_eqs {r s : ByteArray} (ho : o.op = .binOp .eql t x y yt) (hx : S.ev x = some (.val (.string r))) (hy : S.ev y = some (.val (.string s))) : PStep P o S (.val (.bool (decide (r.toList = s.toList)))) :=
  PStep.value rfl fun w0 I0 ρ I ac w g => by
    have h1 := (g.ev hx).val_eq; have h2 := (g.ev hy).val_eq
    have e : (r.toList == s.toList) = decide (r.toList = s.toList) := by rw [Bool.eq_iff_iff]; simp
    simp [execOp, ho, h1, h2, eqGuard_at_int, eqGuard_at_string, eqGuard_at_bool, binOp_add, binOp_sub, binOp_mul, binOp_quo, binOp_rem, binOp_eql, binOp_neq, binOp_lss, binOp_leq, binOp_gtr, binOp_geq, Op.intArith, Op.intDiv, binOp, Op.stringOp, e]
theorem P_pick {c : Bool} {z : Operand} {d e : D} (ho : o.op = .pick z x y) (hz : S.ev z = some (.val (.bool c))) (hx : c = true → S.ev x = some d) (hy : c = false → S.ev y = some e) : PStep P o S (if c then d else e) :=
  PStep.pure fun w0 I0 ρ I ac w g => by
    have h1 := (g.ev hz).val_eq
    cases c
    · exact ⟨ac.eval y, by simp [execOp, ho, h1, asBool], g.ev (hy rfl)⟩
    · exact ⟨ac.eval x, by simp [execOp, ho, h1, asBool], g.ev (hx rfl)⟩
theorem P_convert {src dst : TypeId} {j : IntKind} (ho : o.op = .convert src dst x) (hs : (P.underlying src).isSome = true) (hd : P.underlying dst = some (.int k)) (hx : S.ev x = some (.val (.int j a))) (hc : k.wrap a = c) : PStep P o S (.val (.int k c)) :=
  PStep.value rfl fun w0 I0 ρ I ac w g => by
    have h1 := (g.ev hx).val_eq
    obtain ⟨d, hd'⟩ := Option.isSome_iff_exists.mp hs
    simp [execOp, ho, h1, convert, run_underlying hd', run_underlying hd, Conv.intToInt, hc]
theorem P_min {ts : Array TypeId} (ho : o.op = .call { callee := .builtin .min, args := #[x, y], argTypes := ts }) (hx : S.ev x = some (.val (.int k a))) (hy : S.ev y = some (.val (.int k b))) (hc : (if b < a then b else a) = c) : PStep P o S (.val (.int k c)) :=
  PStep.value rfl fun w0 I0 ρ I ac w g => by
    have h1 := (g.ev hx).val_eq; have h2 := (g.ev hy).val_eq
    subst hc
    simp [execOp, ho, h1, h2, resolve, invoke, builtin, Builtin.min_, Builtin.min2]
theorem P_max {ts : Array TypeId} (ho : o.op = .call { callee := .builtin .max, args := #[x, y], argTypes := ts }) (hx : S.ev x = some (.val (.int k a))) (hy : S.ev y = some (.val (.int k b))) (hc : (if a < b then b else a) = c) : PStep P o S (.val (.int k c)) :=
  PStep.value rfl fun w0 I0 ρ I ac w g => by
    have h1 := (g.ev hx).val_eq; have h2 := (g.ev hy).val_eq
    subst hc
    simp [execOp, ho, h1, h2, resolve, invoke, builtin, Builtin.max_, Builtin.max2]
/-! ### tuples, functions -/
theorem RA.parts {ρ : Rho} {nb : Nat} {I : Nat → Prop} {w : World} {xs : List D} {v : Value} (h : RA ρ nb I w (.tup xs) v) : ∃ us : List Value, v = .tuple us.toArray ∧ xs.length = us.length ∧ ∀ (j : Nat) (d : D) (u : Value), xs[j]? = some d → us[j]? = some u → RA ρ nb I w d u := by
  cases h with
  | im h => cases h with | tup hl hr => exact ⟨_, rfl, hl, fun j d u h1 h2 => .im (hr j d u h1 h2)⟩
  | tup hl hr => exact ⟨_, rfl, hl, hr⟩
theorem RA.cells {ρ : Rho} {nb : Nat} {I : Nat → Prop} {w : World} {xs : List D} {v : Value} (h : RA ρ nb I w (.agg xs) v) : ∃ us : List Value, v = .agg us.toArray ∧ xs.length = us.length ∧ (∀ u ∈ us, u.oneCell' = true) ∧ ∀ (j : Nat) (d : D) (u : Value), xs[j]? = some d → us[j]? = some u → RA ρ nb I w d u := by
  cases h with
  | im h => cases h with | agg hl ho hr => exact ⟨_, rfl, hl, ho, fun j d u h1 h2 => .im (hr j d u h1 h2)⟩
  | agg hl ho hr => exact ⟨_, rfl, hl, ho, hr⟩
theorem P_extract {xs : List D} {i : Nat} {d : D} (ho : o.op = .extract x i) (hx : S.ev x = some (.tup xs)) (hi : xs[i]? = some d) : PStep P o S d :=
  PStep.pure fun w0 I0 ρ I ac w g => by
    obtain ⟨us, h1, h2, h3⟩ := (g.ev hx).parts
    have hlt : i < us.length := by have := (List.getElem?_eq_some_iff.1 hi).1; omega
    exact ⟨us[i], by simp [execOp, ho, h1, Instr.extract, hlt], h3 i d _ hi (List.getElem?_eq_getElem hlt)⟩
def St.evs (S : St) : List Operand → Option (List D)
  | [] => some []
  | x :: l => match S.ev x, S.evs l with
    | some d, some ds => some (d :: ds)
    | _, _ => none
theorem G.evs {w0 : World} {I0 : Bs} {ρ : Rho} {I : Nat → Prop} {a : Act} {w : World} (g : G w0 I0 S ρ I a w) : ∀ {l : List Operand} {ds : List D}, S.evs l = some ds → ds.length = (l.map a.eval).length ∧ ∀ (j : Nat) (d : D) (u : Value), ds[j]? = some d → (l.map a.eval)[j]? = some u → RA ρ S.nb I w d u
  | [], ds, h => by cases h; exact ⟨rfl, fun j d u hj => by simp at hj⟩
  | x :: l, ds, h => by
    unfold St.evs at h
    cases hx : S.ev x with
    | none => rw [hx] at h; cases h
    | some d =>
      cases hl : S.evs l with
      | none => rw [hx, hl] at h; cases h
      | some es =>
        rw [hx, hl] at h
        cases h
        obtain ⟨h1, h2⟩ := g.evs hl
        refine ⟨by simp [h1], fun j d' u h3 h4 => ?_⟩
        cases j with
        | zero => simp at h3 h4; subst h3; subst h4; exact g.ev hx
        | succ j => exact h2 j d' u (by simpa using h3) (by simpa using h4)
theorem P_makeFunc {f : Nat} {fs cs : Array Operand} {ds es : List D} (ho : o.op = .makeFunc (.func f) fs cs) (hf : S.evs fs.toList = some ds) (hc : S.evs cs.toList = some es) : PStep P o S (.fn f ds es) :=
  PStep.pure fun w0 I0 ρ I ac w g => by
    obtain ⟨h1, h2⟩ := g.evs hf
    obtain ⟨h3, h4⟩ := g.evs hc
    refine ⟨.func (.func f) (fs.toList.map ac.eval).toArray (cs.toList.map ac.eval).toArray, ?_, .fn h1 h3 h2 h4⟩
    cases fs; cases cs
    simp [execOp, ho, Instr.makeFunc]
theorem P_nilPtr {b off : Nat} (ho : o.op = .nilCheck x) (hx : S.ev x = some (.ptr b off)) : PStep P o S (.ptr b off) :=
  PStep.pure fun w0 I0 ρ I ac w g => by
    have h := g.ev hx
    have hp : ∃ ad, ac.eval x = .pointer (some ad) := by
      generalize ac.eval x = v at h; cases h with
      | im h => cases h
      | ptr => exact ⟨_, rfl⟩
    obtain ⟨ad, hp⟩ := hp
    exact ⟨.pointer (some ad), by simp [execOp, ho, hp], by rw [hp] at h; exact h⟩
theorem P_nilObj {xs : List D} (ho : o.op = .nilCheck x) (hx : S.ev x = some (.obj xs)) : PStep P o S (.obj xs) :=
  PStep.pure fun w0 I0 ρ I ac w g => by
    have h := g.ev hx
    have hp : ∃ ad, ac.eval x = .pointer (some ad) := by
      generalize ac.eval x = v at h; cases h with | im h => cases h; exact ⟨_, rfl⟩
    obtain ⟨ad, hp⟩ := hp
    exact ⟨.pointer (some ad), by simp [execOp, ho, hp], by rw [hp] at h; exact h⟩
end
end Go.Proofs.Ytpomhnmfkdgafaa
namespace Go.Proofs.Ytpomhnmfkdgafaa
open Go.RowKit
set_option linter.unusedVariables false
set_option linter.unusedSimpArgs false
/-! ### what is known of types -/
def aggDesc : TypeDesc → Bool
  | .struct _ | .array _ _ => true
  | _ => false
class TyCell (P : Program) (t : TypeId) : Prop where
  desc : ∃ d, P.underlying t = some d ∧ aggDesc d = false
  size : (P.info? t).map (·.size) = some 1
class TyAgg (P : Program) (t : TypeId) (k : outParam Nat) : Prop where
  desc : ∃ d, P.underlying t = some d ∧ aggDesc d = true
  size : (P.info? t).map (·.size) = some k
class TyField (P : Program) (t : TypeId) (f : Nat) (off : outParam Nat) (ft : outParam TypeId) : Prop where
  field : ∃ fs fd, P.underlying t = some (.struct fs) ∧ fs[f]? = some fd ∧ fd.offset = off ∧ fd.type = ft
  size : ∃ i, P.info? ft = some i ∧ i.size ≠ 0
class TySlice (P : Program) (t : TypeId) (e : outParam TypeId) (size bytes : outParam Nat) : Prop where
  ty : P.underlying t = some (.slice e)
  info : ∃ i z, P.info? e = some i ∧ i.zero = some z ∧ i.size = size ∧ i.bytes = bytes ∧ z.cells.size = size
  pos : 0 < size
class TyArr (P : Program) (t : TypeId) (n : outParam Nat) (e : outParam TypeId) (size : outParam Nat) : Prop where
  ty : P.underlying t = some (.array n e)
  info : (P.info? e).map (·.size) = some size
  pos : 0 < size
class TyZero (P : Program) (t : TypeId) (k : outParam Nat) (zs : outParam (List Value)) (zd : outParam (List D)) : Prop where
  info : ∃ i z, P.info? t = some i ∧ i.zero = some z ∧ z.cells.toList = zs ∧ i.size = zs.length
  one : zs.all (·.oneCell') = true
  len : zs.length = k
  data : zs.map D.val = zd
/-- a struct of ints is compared number by number -/
class TyEqI (P : Program) (t : TypeId) (n : outParam Nat) : Prop where
  guard : P.eqGuardType P.depth t = false
  eq : ∀ (w : World) (xs ys : List Int), xs.length = n → ys.length = n → (Op.equalIn (9999 + 1) t (.agg (xs.map (Value.int .i64)).toArray) (.agg (ys.map (Value.int .i64)).toArray)).run P w = .ok (decide (xs = ys)) w
section
variable {P : Program} {ops : Array Oper} {S : St} {o : Oper} {x y : Operand} {t : TypeId} {w0 : World} {I0 : Bs} {ρ : Rho} {I : Nat → Prop} {a : Act} {w : World}
/-- the cells behind a pointer -/
def cellsD (mem : List (Nat × Option M)) : D → Option (List D)
  | .obj xs => some xs
  | .ptr b off => match getM b mem with
    | some m => some (m.xs.drop off)
    | none => none
  | _ => none
/-- the cells b, off, .. hold us -/
def LiesAt (w : World) (b off : Nat) (us : List Value) : Prop := ∀ j u, us[j]? = some u → w.cell? ⟨b, off + j, none⟩ = some u
def AllRA (ρ : Rho) (nb : Nat) (I : Nat → Prop) (w : World) (xs : List D) (us : List Value) : Prop := xs.length = us.length ∧ (∀ u ∈ us, u.oneCell' = true) ∧ ∀ (j : Nat) (d : D) (u : Value), xs[j]? = some d → us[j]? = some u → RA ρ nb I w d u
theorem AllRA.drop {nb : Nat} {xs : List D} {us : List Value} (h : AllRA ρ nb I w xs us) (k : Nat) : AllRA ρ nb I w (xs.drop k) (us.drop k) :=
  ⟨by simp [h.1], fun u hu => h.2.1 u (List.mem_of_mem_drop hu), fun j d u h1 h2 => h.2.2 (k + j) d u (by simpa using h1) (by simpa using h2)⟩
theorem AllRA.take {nb : Nat} {xs : List D} {us : List Value} (h : AllRA ρ nb I w xs us) (k : Nat) : AllRA ρ nb I w (xs.take k) (us.take k) := by
  refine ⟨by simp [h.1], fun u hu => h.2.1 u (List.mem_of_mem_take hu), fun j d u h1 h2 => ?_⟩
  rw [List.getElem?_take] at h1 h2
  by_cases hj : j < k
  · rw [if_pos hj] at h1 h2; exact h.2.2 j d u h1 h2
  · rw [if_neg hj] at h1; cases h1
theorem ownsRow_lies {base : Nat} {e : TypeId} {size g cap n : Nat} {us : List Value} (h : w.ownsRow base e size (sv (some (g, cap)) n) n us) : LiesAt w g 0 us := fun j u hu => by
  have := h.cells (g := g) rfl j u hu
  rw [Addr.add_mid] at this
  exact this
theorem LiesAt.drop {b off : Nat} {us : List Value} (h : LiesAt w b off us) (k : Nat) : LiesAt w b (off + k) (us.drop k) := fun j u hu => by
  rw [Nat.add_assoc]; exact h (k + j) u (by simpa using hu)
theorem LiesAt.take {b off : Nat} {us : List Value} (h : LiesAt w b off us) (k : Nat) : LiesAt w b off (us.take k) := fun j u hu => by
  rw [List.getElem?_take] at hu
  by_cases hj : j < k
  · rw [if_pos hj] at hu; exact h j u hu
  · rw [if_neg hj] at hu; cases hu
theorem G.pointed (g : G w0 I0 S ρ I a w) {d : D} {xs : List D} {v : Value} (h : RA ρ S.nb I w d v) (hc : cellsD S.mem d = some xs) : ∃ b off us, v = .pointer (some ⟨b, off, none⟩) ∧ LiesAt w b off us ∧ AllRA ρ S.nb I w xs us := by
  cases d with
  | obj ys =>
    cases hc
    cases h with | im h => cases h with | obj hI hl hs ho hr => exact ⟨_, _, _, rfl, hs, hl, ho, fun j d u h1 h2 => .im (hr j d u h1 h2)⟩
  | ptr b off =>
    simp only [cellsD] at hc
    cases hm : getM b S.mem with
    | none => rw [hm] at hc; cases hc
    | some m =>
      rw [hm] at hc
      cases hc
      obtain ⟨_, ⟨us, ho, hl, h1c, hr⟩, _⟩ := g.mem b m hm
      cases h with
      | im h => cases h
      | ptr hb hρ =>
        rw [hρ] at ho
        have hl2 := (ownsRow_lies ho).drop off
        rw [Nat.zero_add] at hl2
        exact ⟨_, _, us.drop off, rfl, hl2, AllRA.drop ⟨hl, h1c, hr⟩ off⟩
  | _ => cases hc
theorem P_load {d e : D} {ys : List D} [hT : TyCell P t] (ho : o.op = .load t x) (hx : S.ev x = some d) (hc : cellsD S.mem d = some (e :: ys)) : PStep P o S e :=
  PStep.pure fun w0 I0 ρ I ac w g => by
    obtain ⟨b, off, us, h1, h2, hl, _, hr⟩ := g.pointed (g.ev hx) hc
    obtain ⟨u, us', rfl⟩ : ∃ u us', us = u :: us' := by cases us with | nil => simp at hl | cons u us' => exact ⟨u, us', rfl⟩
    have hcell : w.cell? ⟨b, off, none⟩ = some u := h2 0 u rfl
    obtain ⟨dd, hd1, hd2⟩ := hT.desc
    have hagg : (isAgg t).run P w = .ok false w := by
      unfold isAgg
      rw [Sem.run_bind, run_underlying hd1 w]
      cases dd <;> simp_all [aggDesc]
    exact ⟨u, by simp [execOp, ho, h1, Instr.loadAt, Instr.sureAddr, loadVar, hagg, run_load, hcell], hr 0 e u rfl rfl⟩
theorem P_loadAgg {d : D} {k : Nat} {ys zs : List D} [hT : TyAgg P t k] (ho : o.op = .load t x) (hx : S.ev x = some d) (hc : cellsD S.mem d = some ys) (hz : ys.take k = zs) (hk : zs.length = k) : PStep P o S (.agg zs) :=
  PStep.pure fun w0 I0 ρ I ac w g => by
    obtain ⟨b, off, us, h1, h2, h3⟩ := g.pointed (g.ev hx) hc
    obtain ⟨dd, hd1, hd2⟩ := hT.desc
    have h4 := h3.take k
    rw [hz] at h4
    have hlen : (us.take k).length = k := by rw [← h4.1, hk]
    have hr := run_loadAt_mid (P := P) w b off t (us.take k) dd (h2.take k) hd1 (by cases dd <;> simp_all [aggDesc]) (by rw [hlen]; exact hT.size)
    exact ⟨.agg (us.take k).toArray, by simp [execOp, ho, h1, hr], .agg h4.1 h4.2.1 h4.2.2⟩
theorem P_loadAgg1 {d d1 : D} {ys : List D} [hT : TyAgg P t 1] (ho : o.op = .load t x) (hx : S.ev x = some d) (hc : cellsD S.mem d = some (d1 :: ys)) : PStep P o S (.agg [d1]) := P_loadAgg ho hx hc rfl rfl
theorem P_loadAgg2 {d d1 d2 : D} {ys : List D} [hT : TyAgg P t 2] (ho : o.op = .load t x) (hx : S.ev x = some d) (hc : cellsD S.mem d = some (d1 :: d2 :: ys)) : PStep P o S (.agg [d1, d2]) := P_loadAgg ho hx hc rfl rfl
theorem P_loadAgg3 {d d1 d2 d3 : D} {ys : List D} [hT : TyAgg P t 3] (ho : o.op = .load t x) (hx : S.ev x = some d) (hc : cellsD S.mem d = some (d1 :: d2 :: d3 :: ys)) : PStep P o S (.agg [d1, d2, d3]) := P_loadAgg ho hx hc rfl rfl
theorem P_loadAgg4 {d d1 d2 d3 d4 : D} {ys : List D} [hT : TyAgg P t 4] (ho : o.op = .load t x) (hx : S.ev x = some d) (hc : cellsD S.mem d = some (d1 :: d2 :: d3 :: d4 :: ys)) : PStep P o S (.agg [d1, d2, d3, d4]) := P_loadAgg ho hx hc rfl rfl
theorem run_sizeOf' {e : TypeId} {k : Nat} (h : (P.info? e).map (·.size) = some k) : (sizeOf e).run P w = .ok k w := by
  cases hi : P.info? e with
  | none => rw [hi] at h; cases h
  | some i => rw [hi] at h; simp only [Option.map_some, Option.some.injEq] at h; simp [sizeOf, typeInfo, hi, h]
theorem run_sizeOf'' {e : TypeId} {i : TypeInfo} (h : P.info? e = some i) : (sizeOf e).run P w = .ok i.size w := by
  simp [sizeOf, typeInfo, h]
theorem P_fieldObj {f off : Nat} {ft : TypeId} {xs : List D} [hT : TyField P t f off ft] (ho : o.op = .fieldAddr t x f) (hx : S.ev x = some (.obj xs)) : PStep P o S (.obj (xs.drop off)) :=
  PStep.pure fun w0 I0 ρ I ac w g => by
    obtain ⟨fs, fd, h1, h2, h3, h4⟩ := hT.field
    obtain ⟨i, h5, h6⟩ := hT.size
    have h := g.ev hx
    generalize hv : ac.eval x = v at h
    cases h with | im h => cases h with
    | obj hI hl hs ho' hr =>
      rename_i b o' us
      refine ⟨.pointer (some ⟨b, o' + off, none⟩), ?_, .im (.obj hI (us := us.drop off) (by simp [hl]) (LiesAt.drop hs off) (fun u hu => ho' u (List.mem_of_mem_drop hu)) fun j d u h7 h8 => hr (off + j) d u (by simpa using h7) (by simpa using h8))⟩
      simp [execOp, ho, hv, Instr.fieldAt, run_underlying h1, h2, Instr.sureAddr, fieldPlace, h4, run_sizeOf'' h5, h6, h3, Addr.add_mid]
theorem P_fieldPtr {f off b o' : Nat} {ft : TypeId} [hT : TyField P t f off ft] (ho : o.op = .fieldAddr t x f) (hx : S.ev x = some (.ptr b o')) : PStep P o S (.ptr b (o' + off)) :=
  PStep.pure fun w0 I0 ρ I ac w g => by
    obtain ⟨fs, fd, h1, h2, h3, h4⟩ := hT.field
    obtain ⟨i, h5, h6⟩ := hT.size
    have h := g.ev hx
    generalize hv : ac.eval x = v at h
    cases h with
    | im h => cases h
    | ptr hb hρ =>
      refine ⟨_, ?_, .ptr hb hρ⟩
      simp [execOp, ho, hv, Instr.fieldAt, run_underlying h1, h2, Instr.sureAddr, fieldPlace, h4, run_sizeOf'' h5, h6, h3, Addr.add_mid]
theorem P_field {f off : Nat} {ft : TypeId} {xs : List D} {e : D} [hT : TyField P t f off ft] [hC : TyCell P ft] (ho : o.op = .field t x f) (hx : S.ev x = some (.agg xs)) (he : xs[off]? = some e) : PStep P o S e :=
  PStep.pure fun w0 I0 ρ I ac w g => by
    obtain ⟨fs, fd, h1, h2, h3, h4⟩ := hT.field
    obtain ⟨us, h5, h6, _, h8⟩ := (g.ev hx).cells
    have hlt : off < us.length := by have := (List.getElem?_eq_some_iff.1 he).1; omega
    obtain ⟨dd, hd1, hd2⟩ := hC.desc
    have hagg : (isAgg ft).run P w = .ok false w := by
      unfold isAgg
      rw [Sem.run_bind, run_underlying hd1 w]
      cases dd <;> simp_all [aggDesc]
    exact ⟨us[off], by simp [execOp, ho, h5, Instr.field, run_underlying h1, h2, asAgg, part, h3, h4, hagg, hlt], h8 off e _ he (List.getElem?_eq_getElem hlt)⟩
theorem P_fieldAgg {f off k : Nat} {ft : TypeId} {xs zs : List D} [hT : TyField P t f off ft] [hC : TyAgg P ft k] (ho : o.op = .field t x f) (hx : S.ev x = some (.agg xs)) (he : (xs.drop off).take k = zs) (hk : zs.length = k) : PStep P o S (.agg zs) :=
  PStep.pure fun w0 I0 ρ I ac w g => by
    obtain ⟨fs, fd, h1, h2, h3, h4⟩ := hT.field
    obtain ⟨us, h5, h6, h7, h8⟩ := (g.ev hx).cells
    have h9 : AllRA ρ S.nb I w zs ((us.drop off).take k) := by rw [← he]; exact AllRA.take (AllRA.drop ⟨h6, h7, h8⟩ off) k
    obtain ⟨dd, hd1, hd2⟩ := hC.desc
    have hagg : (isAgg ft).run P w = .ok true w := by
      unfold isAgg
      rw [Sem.run_bind, run_underlying hd1 w]
      cases dd <;> simp_all [aggDesc]
    have hsz : (sizeOf ft).run P w = .ok k w := by
      have hs := hC.size
      cases hi : P.info? ft with
      | none => rw [hi] at hs; cases hs
      | some i => rw [hi] at hs; simp only [Option.map_some, Option.some.injEq] at hs; simp [sizeOf, typeInfo, hi, hs]
    have e1 : us.toArray.extract off (off + k) = ((us.drop off).take k).toArray := by
      apply Array.ext'; simp [List.extract_eq_take_drop]
    refine ⟨.agg ((us.drop off).take k).toArray, ?_, .agg h9.1 h9.2.1 h9.2.2⟩
    simp [execOp, ho, h5, Instr.field, run_underlying h1, h2, asAgg, part, h3, h4, hagg, hsz, e1]
/-- the slice d: how many elements, its cells -/
def sliceD (mem : List (Nat × Option M)) : D → Option (Nat × List D)
  | .row n xs => some (n, xs)
  | .val (.slice none 0 0) => some (0, [])
  | .own b n => match getM b mem with
    | some m => cond (Nat.beq m.n n) (some (n, m.xs)) none
    | none => none
  | _ => none
theorem G.sliced (g : G w0 I0 S ρ I a w) {d : D} {n : Nat} {xs : List D} {v : Value} (h : RA ρ S.nb I w d v) (hc : sliceD S.mem d = some (n, xs)) : ∃ ao cap b off us, v = .slice ao n cap ∧ n ≤ cap ∧ cap ≤ maxLen ∧ (ao = none → cap = 0) ∧ (0 < us.length → ao = some ⟨b, off, none⟩ ∧ b < w.heap.size) ∧ LiesAt w b off us ∧ AllRA ρ S.nb I w xs us := by
  cases d with
  | row m ys =>
    cases hc
    cases h with | im h => cases h with | row hc hm hn hl ha hs ho hr => exact ⟨_, _, _, _, _, rfl, hc, hm, hn, fun h => ⟨(ha h).1, g.lt _ (ha h).2⟩, hs, hl, ho, fun j d u h1 h2 => .im (hr j d u h1 h2)⟩
  | val u =>
    have hv := h.val_eq
    subst hv
    cases v with
    | slice ao l c =>
      cases ao with
      | none =>
        cases l with
        | zero =>
          cases c with
          | zero => cases hc; exact ⟨none, 0, 0, 0, [], rfl, Nat.le_refl _, Nat.zero_le _, fun _ => rfl, fun h => by simp at h, fun j u hu => by simp at hu, rfl, fun u hu => by simp at hu, fun j d u hj => by simp at hj⟩
          | succ c => cases hc
        | succ l => cases hc
      | some ad => cases hc
    | _ => cases hc
  | own b m =>
    simp only [sliceD] at hc
    cases hm : getM b S.mem with
    | none => rw [hm] at hc; cases hc
    | some r =>
      rw [hm] at hc
      simp only at hc
      cases hn : Nat.beq r.n m with
      | false => rw [hn] at hc; cases hc
      | true =>
        rw [hn] at hc
        simp only [cond_true, Option.some.injEq, Prod.mk.injEq] at hc
        obtain ⟨rfl, rfl⟩ := hc
        have hn := Nat.eq_of_beq_eq_true hn
        obtain ⟨_, ⟨us, ho, hl, h1c, hr⟩, _⟩ := g.mem b r hm
        rw [hn] at ho
        cases h with
        | im h => cases h
        | own hb h0 =>
          cases hρ : ρ b with
          | none =>
            rw [hρ] at ho
            have hm0 := h0 hρ
            subst hm0
            have hu : us = [] := List.eq_nil_of_length_eq_zero (by have := ho.1; simpa using this)
            subst hu
            exact ⟨none, 0, 0, 0, [], rfl, Nat.le_refl _, Nat.zero_le _, fun _ => rfl, fun h => by simp at h, fun j u hu => by simp at hu, hl, fun u hu => by simp at hu, hr⟩
          | some gc =>
            obtain ⟨gb, cap⟩ := gc
            rw [hρ] at ho
            have hlt := ho.lt gb rfl
            rcases ho.2 with ⟨h', _⟩ | ⟨g', cap', cur, h', _, _, hnc, hcm, _, _⟩
            · simp [sv] at h'
            · simp only [sv, Value.slice.injEq, Option.some.injEq, Addr.mk.injEq, and_true, true_and] at h'
              obtain ⟨rfl, rfl⟩ := h'
              exact ⟨_, cap, gb, 0, us, rfl, hnc, hcm, (fun h => by cases h), fun _ => ⟨rfl, hlt.2⟩, ownsRow_lies ho, hl, h1c, hr⟩
  | _ => cases hc
theorem P_len {d : D} {n : Nat} {xs : List D} {e : TypeId} {size bytes : Nat} {c : Int} [hT : TySlice P t e size bytes] (ho : o.op = .call { callee := .builtin .len, args := #[x], argTypes := #[t] }) (hx : S.ev x = some d) (hc : sliceD S.mem d = some (n, xs)) (hn : (n : Int) = c) : PStep P o S (.val (.int .i64 c)) :=
  PStep.value rfl fun w0 I0 ρ I ac w g => by
    obtain ⟨ao, cap, b, off, us, h1, _⟩ := g.sliced (g.ev hx) hc
    simp [execOp, ho, h1, resolve, invoke, builtin, Builtin.len_, run_underlying hT.ty, goInt, ← hn]
/-- the i-th element's cells -/
def ElemAt (size : Nat) (xs : List D) (i : Nat) (zs : List D) : Prop := zs.length = size ∧ ∀ j, j < size → xs[i * size + j]? = zs[j]?
theorem P_indexRow {n : Nat} {xs zs : List D} {e : TypeId} {size bytes : Nat} {k : IntKind} {i : Int} [hT : TySlice P t e size bytes] (ho : o.op = .indexAddr t x y) (hx : S.ev x = some (.row n xs)) (hy : S.ev y = some (.val (.int k i)))
    (h0 : 0 ≤ i) (hi : i < n) (he : ElemAt size xs i.toNat zs) : PStep P o S (.obj zs) :=
  PStep.pure fun w0 I0 ρ I ac w g => by
    have h2 := (g.ev hy).val_eq
    have h := g.ev hx
    generalize hv : ac.eval x = v at h
    cases h with | im h => cases h with
    | row hc hm hn hl ha hs ho' hr =>
      rename_i ao cap b off us
      obtain ⟨ii, zz, hii, hzz, hsz, hby, hzs⟩ := hT.info
      have hpos := hT.pos
      obtain ⟨he1, he2⟩ := he
      have hlen : i.toNat * size + size ≤ us.length := by
        have := he2 (size - 1) (by omega)
        rw [List.getElem?_eq_getElem (by omega : size - 1 < zs.length)] at this
        have := (List.getElem?_eq_some_iff.1 this).1
        omega
      obtain ⟨rfl, hI⟩ := ha (by omega)
      have hlen2 : ((us.drop (i.toNat * size)).take size).length = size := by rw [List.length_take, List.length_drop]; omega
      refine ⟨.pointer (some ⟨b, off + i.toNat * size, none⟩), ?_, .im (.obj hI (us := (us.drop (i.toNat * size)).take size) (by rw [hlen2, he1]) ((LiesAt.drop hs _).take _) (fun u hu => ho' u (List.mem_of_mem_drop (List.mem_of_mem_take hu))) fun j d u h7 h8 => ?_)⟩
      · simp [execOp, ho, hv, h2, Instr.indexAt, asIntOf, run_underlying hT.ty, h0, hi, sizeOf, typeInfo, hii, hsz, Addr.add_mid]
      · have hj : j < size := by have := (List.getElem?_eq_some_iff.1 h7).1; omega
        rw [List.getElem?_take, if_pos hj, List.getElem?_drop] at h8
        exact hr (i.toNat * size + j) d u (by rw [he2 j hj]; exact h7) h8
theorem P_indexOwn {n b : Nat} {e : TypeId} {size bytes : Nat} {k : IntKind} {i : Int} [hT : TySlice P t e size bytes] (ho : o.op = .indexAddr t x y) (hx : S.ev x = some (.own b n)) (hy : S.ev y = some (.val (.int k i)))
    (h0 : 0 ≤ i) (hi : i < n) : PStep P o S (.ptr b (i.toNat * size)) :=
  PStep.pure fun w0 I0 ρ I ac w g => by
    have h2 := (g.ev hy).val_eq
    have h := g.ev hx
    generalize hv : ac.eval x = v at h
    cases h with
    | im h => cases h
    | own hb h0' =>
      cases hρ : ρ b with
      | none => have := h0' hρ; omega
      | some gc =>
        obtain ⟨gb, cap⟩ := gc
        obtain ⟨ii, zz, hii, hzz, hsz, hby, hzs⟩ := hT.info
        refine ⟨_, ?_, .ptr hb hρ⟩
        rw [hρ] at hv
        simp [execOp, ho, hv, sv, h2, Instr.indexAt, asIntOf, run_underlying hT.ty, h0, hi, sizeOf, typeInfo, hii, hsz, Addr.add_mid]
theorem RA.ints : ∀ {nb : Nat} {xs : List Int} {v : Value}, RA ρ nb I w (.agg (xs.map D.int)) v → v = .agg (xs.map (Value.int .i64)).toArray := fun {nb} {xs} {v} h => by
  obtain ⟨us, rfl, h1, h2, h3⟩ := h.cells
  congr 2
  refine List.ext_getElem (by simpa using h1.symm) fun j a b => ?_
  have hj : j < xs.length := by simpa using b
  have := (h3 j (D.int xs[j]) us[j] (by rw [List.getElem?_map, List.getElem?_eq_getElem hj]; rfl) (List.getElem?_eq_getElem a)).val_eq
  rw [this]; simp
theorem P_eqR {yt : TypeId} {n : Nat} {xs ys : List Int} [hE : TyEqI P t n] (ho : o.op = .binOp .eql t x y yt) (hx : S.ev x = some (.agg (xs.map D.int))) (hy : S.ev y = some (.agg (ys.map D.int))) (h1 : xs.length = n) (h2 : ys.length = n) : PStep P o S (.val (.bool (decide (xs = ys)))) :=
  PStep.value rfl fun w0 I0 ρ I ac w g => by
    have e1 := (g.ev hx).ints
    have e2 := (g.ev hy).ints
    simp only [execOp, ho, e1, e2, Sem.run_bind, run_eqGuard_agg w .eql t x y _ _ hE.guard, Result.andThen_ok, run_eql_struct, hE.eq w xs ys h1 h2, Sem.run_pure]
theorem P_neR {yt : TypeId} {n : Nat} {xs ys : List Int} [hE : TyEqI P t n] (ho : o.op = .binOp .neq t x y yt) (hx : S.ev x = some (.agg (xs.map D.int))) (hy : S.ev y = some (.agg (ys.map D.int))) (h1 : xs.length = n) (h2 : ys.length = n) : PStep P o S (.val (.bool (!decide (xs = ys)))) :=
  PStep.value rfl fun w0 I0 ρ I ac w g => by
    have e1 := (g.ev hx).ints
    have e2 := (g.ev hy).ints
    simp only [execOp, ho, e1, e2, Sem.run_bind, run_eqGuard_agg w .neq t x y _ _ hE.guard, Result.andThen_ok, run_neq_struct, hE.eq w xs ys h1 h2, Sem.run_pure]
theorem P_eqR3 {yt : TypeId} {a b c d e f : Int} [hE : TyEqI P t 3] (ho : o.op = .binOp .eql t x y yt) (hx : S.ev x = some (.agg [.val (.int .i64 a), .val (.int .i64 b), .val (.int .i64 c)])) (hy : S.ev y = some (.agg [.val (.int .i64 d), .val (.int .i64 e), .val (.int .i64 f)])) : PStep P o S (.val (.bool (decide (a = d ∧ b = e ∧ c = f)))) := by
  have h := P_eqR (P := P) (n := 3) (xs := [a, b, c]) (ys := [d, e, f]) ho hx hy rfl rfl
  have e : decide ([a, b, c] = [d, e, f]) = decide (a = d ∧ b = e ∧ c = f) := by simp
  rwa [e] at h
theorem P_neR3 {yt : TypeId} {a b c d e f : Int} [hE : TyEqI P t 3] (ho : o.op = .binOp .neq t x y yt) (hx : S.ev x = some (.agg [.val (.int .i64 a), .val (.int .i64 b), .val (.int .i64 c)])) (hy : S.ev y = some (.agg [.val (.int .i64 d), .val (.int .i64 e), .val (.int .i64 f)])) : PStep P o S (.val (.bool (decide (¬ (a = d ∧ b = e ∧ c = f))))) := by
  have h := P_neR (P := P) (n := 3) (xs := [a, b, c]) (ys := [d, e, f]) ho hx hy rfl rfl
  have e : (!decide ([a, b, c] = [d, e, f])) = decide (¬ (a = d ∧ b = e ∧ c = f)) := by simp
  rwa [e] at h
theorem P_eqR3T {yt : TypeId} {a b c d e f : Int} [hE : TyEqI P t 3] (ho : o.op = .binOp .eql t x y yt) (hx : S.ev x = some (.agg [.val (.int .i64 a), .val (.int .i64 b), .val (.int .i64 c)])) (hy : S.ev y = some (.agg [.val (.int .i64 d), .val (.int .i64 e), .val (.int .i64 f)])) (h : a = d ∧ b = e ∧ c = f) : PStep P o S (.val (.bool true)) := by
  have k := P_eqR3 (P := P) ho hx hy; rwa [decide_eq_true h] at k
theorem P_neR3F {yt : TypeId} {a b c d e f : Int} [hE : TyEqI P t 3] (ho : o.op = .binOp .neq t x y yt) (hx : S.ev x = some (.agg [.val (.int .i64 a), .val (.int .i64 b), .val (.int .i64 c)])) (hy : S.ev y = some (.agg [.val (.int .i64 d), .val (.int .i64 e), .val (.int .i64 f)])) (h : a = d ∧ b = e ∧ c = f) : PStep P o S (.val (.bool false)) := by
  have k := P_neR3 (P := P) ho hx hy; rwa [decide_eq_false (fun n => n h)] at k
theorem P_eqR3F {yt : TypeId} {a b c d e f : Int} [hE : TyEqI P t 3] (ho : o.op = .binOp .eql t x y yt) (hx : S.ev x = some (.agg [.val (.int .i64 a), .val (.int .i64 b), .val (.int .i64 c)])) (hy : S.ev y = some (.agg [.val (.int .i64 d), .val (.int .i64 e), .val (.int .i64 f)])) (h : ¬ (a = d ∧ b = e ∧ c = f)) : PStep P o S (.val (.bool false)) := by
  have k := P_eqR3 (P := P) ho hx hy; rwa [decide_eq_false h] at k
theorem P_neR3T {yt : TypeId} {a b c d e f : Int} [hE : TyEqI P t 3] (ho : o.op = .binOp .neq t x y yt) (hx : S.ev x = some (.agg [.val (.int .i64 a), .val (.int .i64 b), .val (.int .i64 c)])) (hy : S.ev y = some (.agg [.val (.int .i64 d), .val (.int .i64 e), .val (.int .i64 f)])) (h : ¬ (a = d ∧ b = e ∧ c = f)) : PStep P o S (.val (.bool true)) := by
  have k := P_neR3 (P := P) ho hx hy; rwa [decide_eq_true h] at k
class TyBool (P : Program) (t : TypeId) : Prop where
  ty : P.underlying t = some .bool
theorem P_eqlB {yt : TypeId} {a b : Bool} [hT : TyBool P t] (ho : o.op = .binOp .eql t x y yt) (hx : S.ev x = some (.val (.bool a))) (hy : S.ev y = some (.val (.bool b))) : PStep P o S (.val (.bool (a == b))) :=
  PStep.value rfl fun w0 I0 ρ I ac w g => by
    have h1 := (g.ev hx).val_eq; have h2 := (g.ev hy).val_eq
    have e : (Op.equalIn 10000 t (.bool a) (.bool b)).run P w = .ok (a == b) w := run_equalIn_bool' w 9999 t a b hT.ty
    simp [execOp, ho, h1, h2, eqGuard_at_bool, binOp, Op.equal, Op.maxDepth, e]
theorem P_neqB {yt : TypeId} {a b : Bool} [hT : TyBool P t] (ho : o.op = .binOp .neq t x y yt) (hx : S.ev x = some (.val (.bool a))) (hy : S.ev y = some (.val (.bool b))) : PStep P o S (.val (.bool (!(a == b)))) :=
  PStep.value rfl fun w0 I0 ρ I ac w g => by
    have h1 := (g.ev hx).val_eq; have h2 := (g.ev hy).val_eq
    have e : (Op.equalIn 10000 t (.bool a) (.bool b)).run P w = .ok (a == b) w := run_equalIn_bool' w 9999 t a b hT.ty
    simp [execOp, ho, h1, h2, eqGuard_at_bool, binOp, Op.equal, Op.maxDepth, e]
/-! ### calls -/
structure DC (P : Program) (f : Nat) (ds : List D) (r : D) : Prop where
  fn : ∃ fn, P.funcs[f]? = some fn ∧ (fn.name == "runtime.NumGoroutine") = false ∧ fn.body.isNone = false
  calls : ∀ (w : World) (I : Nat → Prop) (vs : List Value), (∀ b, I b → b < w.heap.size) → ds.length = vs.length → (∀ (j : Nat) (d : D) (v : Value), ds[j]? = some d → vs[j]? = some v → RC I w d v) →
    Calls P f vs.toArray w fun e w' => ∃ v, e = .returned v ∧ RC (fun b => I b ∨ (w.heap.size ≤ b ∧ b < w'.heap.size)) w' r v ∧ Later w w'
theorem DC.to {f : Nat} {ds ds' : List D} {r r' : D} (h : DC P f ds r) (hd : ds = ds') (hr : r = r') : DC P f ds' r' := by subst hd; subst hr; exact h
theorem exec_call {f : Nat} {c : Operand} {args : Array Operand} {ats : Array TypeId} {es cs : List Value} (hf : ∃ fn, P.funcs[f]? = some fn ∧ (fn.name == "runtime.NumGoroutine") = false ∧ fn.body.isNone = false)
    (ho : o.op = .call { callee := .value c, args := args, argTypes := ats }) (hc : a.eval c = .func (.func f) es.toArray cs.toArray) : (execOp a.eval o).run P w = .ok (.enter f (es ++ args.toList.map a.eval ++ cs).toArray) w := by
  obtain ⟨fn, h1, h2, h3⟩ := hf
  cases args
  have h2' : ¬ fn.name = "runtime.NumGoroutine" := by simpa using h2
  have h3' : ¬ fn.body = none := by intro h; rw [h] at h3; cases h3
  simp [execOp, ho, resolve, hc, Deferred.ofValue, invoke, callFunc, program, Sem.run, h1, h2', h3']
theorem P_call {f : Nat} {c : Operand} {args : Array Operand} {ats : Array TypeId} {es ds cs : List D} {r : D} (hc : S.ev c = some (.fn f es cs)) (hd : S.evs args.toList = some ds) (ho : o.op = .call { callee := .value c, args := args, argTypes := ats })
    (hcl : D.idsL (fun _ => false) (es ++ ds ++ cs) = true) (h : DC P f (es ++ ds ++ cs) r) : PStep P o S r := fun w0 I0 ρ I ac w next Q g q => by
  obtain ⟨us, vs, h1, h2, h3, h4, h5⟩ : ∃ us vs : List Value, ac.eval c = .func (.func f) us.toArray vs.toArray ∧ es.length = us.length ∧ cs.length = vs.length ∧ (∀ (j : Nat) (d : D) (u : Value), es[j]? = some d → us[j]? = some u → RA ρ S.nb I w d u) ∧ (∀ (j : Nat) (d : D) (u : Value), cs[j]? = some d → vs[j]? = some u → RA ρ S.nb I w d u) := by
    have hh := g.ev hc
    generalize ac.eval c = v at hh
    cases hh with
    | im hh => cases hh with | fn hl hk hr hq => exact ⟨_, _, rfl, hl, hk, fun j d u h1 h2 => .im (hr j d u h1 h2), fun j d u h1 h2 => .im (hq j d u h1 h2)⟩
    | fn hl hk hr hq => exact ⟨_, _, rfl, hl, hk, hr, hq⟩
  obtain ⟨h6, h7⟩ := g.evs hd
  unfold Oper.wp
  rw [exec_call h.fn ho h1]
  refine (h.calls w I _ g.lt (by simp only [List.length_append]; omega) fun j d v hj hv => ?_).mono ?_
  · refine RA.closed (ρ := ρ) (nb := S.nb) ?_ (idsL_mem hcl j d hj)
    by_cases j1 : j < es.length
    · rw [List.append_assoc, List.getElem?_append_left j1] at hj
      rw [List.append_assoc, List.getElem?_append_left (by omega)] at hv
      exact h4 j d v hj hv
    · rw [List.append_assoc, List.getElem?_append_right (by omega)] at hj
      rw [List.append_assoc, List.getElem?_append_right (by omega)] at hv
      by_cases j2 : j - es.length < ds.length
      · rw [List.getElem?_append_left j2] at hj
        rw [List.getElem?_append_left (by omega)] at hv
        exact h7 _ d v hj (by rw [h2]; exact hv)
      · rw [List.getElem?_append_right (by omega)] at hj
        rw [List.getElem?_append_right (by omega)] at hv
        exact h5 _ d v hj (by rw [h2, h6]; exact hv)
  · rintro e w' ⟨v, rfl, hv, hl⟩
    exact q v w' _ ⟨fun b h => .inl h, fun b h => h, hl⟩ (.im hv)
end
end Go.Proofs.Ytpomhnmfkdgafaa
