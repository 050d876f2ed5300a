/- What a slice of ints reads as in a world, and that it reads so in later worlds (no program in sight). -/
import Derived.WalkKit
import Derived.WalkSpells
import Derived.WalkLawsBesides
import Derived.Lib.Hide
import Derived.OpenShut
import Derived.Laws.AppendOwnNone
namespace Go.Proofs.Ytifapodobhkdcaa
open Go.RowKit

theorem bcell {W w1 : World} (hb : Below W.heap.size W w1) : (∀ b o, b < W.heap.size → w1.cell? ⟨b, o, none⟩ = W.cell? ⟨b, o, none⟩) ∧ (∀ b o, b < W.heap.size → w1.frozen? ⟨b, o, none⟩ = W.frozen? ⟨b, o, none⟩) :=
  ⟨fun b o h => hb.cell (p := ⟨b, o, none⟩) h, fun b o h => hb.frozen (p := ⟨b, o, none⟩) h⟩

/-- the cell of an int -/
def i64v (n : Int) : Value := .int .i64 n
def okI (n : Int) : Prop := -9223372036854775808 ≤ n ∧ n ≤ 9223372036854775807
theorem okI_wf {n : Int} (h : (Lit.int .i64 n).wf = true) : okI n := by simpa [Lit.wf, IntKind.min, IntKind.max, IntKind.signed, IntKind.bits, okI] using h
theorem wf_okI {n : Int} (h : okI n) : (Lit.int .i64 n).wf = true := WalkArith.wf_i64 h

/-- the j-th number, by a name that simp does not open -/
def at_ (l : List Int) (j : Nat) : Int := l.getD j 0
theorem at_eq (l : List Int) (j : Nat) (h : j < l.length) : at_ l j = l[j] := by simp [at_, h]
theorem at_mem (l : List Int) (j : Nat) (h : j < l.length) : at_ l j ∈ l := by rw [at_eq l j h]; exact List.getElem_mem h

/-- In the world w the value v is a slice of n elements, of `size` cells each, that reads as the cells xs. -/
def RowIn (w : World) (v : Value) (n size : Nat) (xs : List Value) : Prop :=
  xs.length = n * size ∧ ∃ ao cap b off, v = .slice ao n cap ∧ n ≤ cap ∧ cap ≤ maxLen ∧ (ao = none → cap = 0) ∧ (0 < n → ao = some ⟨b, off, none⟩) ∧
    ∀ j u, xs[j]? = some u → w.cell? ⟨b, off + j, none⟩ = some u
theorem RowIn.below {w w' : World} {v : Value} {n size : Nat} {xs : List Value} (h : RowIn w v n size xs) (hb : Below w.heap.size w w') : RowIn w' v n size xs := by
  obtain ⟨hl, ao, cap, b, off, hv, hc, hm, hn, ha, hcell⟩ := h
  exact ⟨hl, ao, cap, b, off, hv, hc, hm, hn, ha, fun j u hj => (hb.cell (p := ⟨b, off + j, none⟩) (World.block_lt_of_cell? w _ (hcell j u hj))).trans (hcell j u hj)⟩
theorem row_nil (w : World) (size : Nat) : RowIn w (.slice none 0 0) 0 size [] :=
  ⟨by simp, none, 0, 0, 0, rfl, Nat.le_refl _, Nat.zero_le _, fun _ => rfl, fun h => absurd h (by simp), fun j u hj => by simp at hj⟩
theorem row_own {w : World} {base : Nat} {e : TypeId} {v : Value} {n size : Nat} {xs : List Value} (h : w.ownsRow base e size v n xs) : RowIn w v n size xs := by
  refine ⟨h.1, ?_⟩
  rcases h.2 with ⟨rfl, h0⟩ | ⟨g, cap, cur, rfl, hb, hg, hc, hm, hs, ht⟩
  · subst h0; exact (row_nil w size).2.imp fun _ ⟨cap, b, off, hr⟩ => ⟨cap, b, off, hr.1, hr.2.1, hr.2.2.1, hr.2.2.2.1, hr.2.2.2.2.1, fun j u hj => by have := h.1; simp at this; subst this; simp at hj⟩
  · refine ⟨some ⟨g, 0, none⟩, cap, g, 0, rfl, hc, hm, (fun h => by cases h), fun _ => rfl, fun j u hj => ?_⟩
    have hc := h.cells (g := g) (by simp [Value.ownBlock]) j u hj
    have hadd : (⟨g, 0, none⟩ : Addr).add j = ⟨g, 0 + j, none⟩ := by unfold Addr.add; split <;> simp_all
    rwa [hadd] at hc

/-- In the world w the value v is a slice that reads as the numbers l. -/
def IntsIn (w : World) (v : Value) (l : List Int) : Prop :=
  ∃ ao cap b off, v = .slice ao l.length cap ∧ l.length ≤ cap ∧ cap ≤ maxLen ∧ (0 < l.length → ao = some ⟨b, off, none⟩) ∧
    (∀ j, j < l.length → w.cell? ⟨b, off + j, none⟩ = some (.int .i64 (at_ l j))) ∧ (∀ x ∈ l, okI x) ∧ (ao = none → cap = 0)

theorem IntsIn.row {w : World} {v : Value} {l : List Int} (h : IntsIn w v l) : RowIn w v l.length 1 (l.map (Value.int .i64)) := by
  obtain ⟨ao, cap, b, off, hv, hc, hm, ha, hcell, hok, hn⟩ := h
  refine ⟨by simp, ao, cap, b, off, hv, hc, hm, hn, ha, fun j u hj => ?_⟩
  by_cases h : j < l.length
  · rw [hcell j h, at_eq l j h]; simpa [h] using hj
  · rw [List.getElem?_eq_none (by simp; omega)] at hj; cases hj
theorem ints_of {w : World} {v : Value} {n : Nat} {l : List Int} (h : RowIn w v n 1 (l.map (Value.int .i64))) (hok : ∀ x ∈ l, okI x) : IntsIn w v l := by
  obtain ⟨hl, ao, cap, b, off, hv, hc, hm, hn, ha, hcell⟩ := h
  have hl : l.length = n := by simpa using hl
  subst hl
  exact ⟨ao, cap, b, off, hv, hc, hm, ha, fun j hj => hcell j _ (by simp [at_eq l j hj, hj]), hok, hn⟩
theorem IntsIn.below {w w' : World} {v : Value} {l : List Int} (h : IntsIn w v l) (hb : Below w.heap.size w w') : IntsIn w' v l := by
  have hok : ∀ x ∈ l, okI x := by obtain ⟨_, _, _, _, _, _, _, _, _, hok, _⟩ := h; exact hok
  exact ints_of (h.row.below hb) hok

theorem IntsIn.len {w : World} {v : Value} {l : List Int} (h : IntsIn w v l) : l.length ≤ 9223372036854775807 := by
  obtain ⟨ao, cap, b, off, hv, hc, hm, _⟩ := h
  unfold maxLen at hm; omega

theorem ints_nil (w : World) : IntsIn w (.slice none 0 0) [] := ints_of (row_nil w 1) (fun x hx => by simp at hx)

theorem ints_own {w : World} {base : Nat} {e : TypeId} {v : Value} {n : Nat} {l : List Int} (h : w.ownsRow base e 1 v n (l.map (Value.int .i64))) (hok : ∀ x ∈ l, okI x) : IntsIn w v l := ints_of (row_own h) hok

/-- a slice of ints that came in reads as some numbers -/
theorem ints_came {H : Type} {enc : TypeId × Value → H} {P : Program} {w : World} {t e : TypeId} {ao : Option Addr} {len cap : Nat} {d : DataW H} {p : List MemPlace} (ht : P.underlying t = some (.slice e)) (he : P.underlying e = some (.int .i64)) (hc : P.cellsOf e = 1)
    (h : DataW.Trod enc P w 0 (fun _ => true) true t (.slice ao len cap) d p) : ∃ l, IntsIn w (.slice ao len cap) l := by
  obtain ⟨fuel, hf⟩ := h
  rcases ChangeShapes.open_ints ht he hc hf with ⟨hcs, _⟩ | ⟨x, l, c, zs, hcs, _, hl, hm, hz, _, hcell, hwz⟩
  · simp [Value.cells] at hcs
    obtain ⟨rfl, rfl, rfl⟩ := hcs
    exact ⟨[], ints_nil w⟩
  · simp [Value.cells] at hcs
    obtain ⟨rfl, rfl, rfl⟩ := hcs
    have hz' : zs.length = cap := by simpa using hz
    have hlen : (zs.take len).length = len := by rw [List.length_take]; omega
    by_cases h0 : 0 < zs.length
    · obtain ⟨b, off, hx, hc2⟩ := ints_at hcell h0
      refine ⟨zs.take len, some x, cap, b, off, by rw [hlen], by omega, hm, fun _ => by rw [hx], fun j hj => ?_, fun y hy => okI_wf (hwz y (List.mem_of_mem_take hy)), (fun h => by cases h)⟩
      rw [hlen] at hj
      rw [hc2 j (by omega)]
      simp [at_, hj]
    · have : zs = [] := List.eq_nil_of_length_eq_zero (by omega)
      subst this
      have hl0 : len = 0 := by simp at hz'; omega
      subst hl0
      exact ⟨[], some x, cap, 0, 0, rfl, Nat.zero_le _, hm, fun h => absurd h (by simp), fun j hj => absurd hj (by simp), (fun y hy => by simp at hy), (fun h => by cases h)⟩

/-- w' is w with new blocks: nothing that was there has turned -/
def Later (w w' : World) : Prop := Below w.heap.size w w'
theorem Later.refl (w : World) : Later w w := Below.refl _ _
theorem Later.trans {a b c : World} (h : Later a b) (k : Later b c) : Later a c := Below.trans h (Below.mono k (Below.size h))
theorem Later.drewN {a b : World} (h : Later a b) (n : Nat) : Later a (b.drewN n) := below_drewN h n
theorem Later.drew {a b : World} (h : Later a b) : Later a b.drew := h.drewN 1
theorem Later.of_drewN {w w' : World} (h : ∃ n, w' = w.drewN n) : Later w w' := by obtain ⟨n, rfl⟩ := h; exact (Later.refl w).drewN n
theorem Later.alloc {a b : World} (h : Later a b) (o : Obj) : Later a (b.alloc o) := Below.alloc h (Below.size h) o
theorem IntsIn.later {w w' : World} {v : Value} {l : List Int} (h : IntsIn w v l) (hb : Later w w') : IntsIn w' v l := h.below hb
theorem Later.cell {w w' : World} (h : Later w w') {a : Addr} {v : Value} (hc : w.cell? a = some v) : w'.cell? a = some v :=
  (Below.cell h (World.block_lt_of_cell? w _ hc)).trans hc
theorem Later.free {w w' : World} (h : Later w w') {a : Addr} {v : Value} (hc : w.cell? a = some v) (hf : w.frozen? a = false) : w'.frozen? a = false :=
  (Below.frozen h (World.block_lt_of_cell? w _ hc)).trans hf
theorem Later.set {w w' : World} (h : Later w w') {a : Addr} (ha : w.heap.size ≤ a.block) (u : Value) : Later w (w'.setCell a u) := Below.setCell h ha u
theorem Later.lt {w w' : World} (h : Later w w') {k : Nat} (hk : k < w.heap.size) : k < w'.heap.size := Nat.lt_of_lt_of_le hk (Below.size h)
/-- the slice v lies in a block from B on, or nowhere -/
def FreshV (B : Nat) (v : Value) : Prop := ∀ x n c, v = .slice (some x) n c → B ≤ x.block
theorem fresh_nil (B : Nat) : FreshV B (.slice none 0 0) := fun x n c h => by cases h
theorem fresh_own {w : World} {B : Nat} {e : TypeId} {size : Nat} {v : Value} {n : Nat} {xs : List Value} (h : w.ownsRow B e size v n xs) : FreshV B v := fun x n c hv => by
  subst hv; exact (h.lt x.block rfl).1
/-- w' is w with new blocks, and with block G turned -/
theorem grown_refl (w : World) (r : Option Nat) : w.grownBy w r := ⟨rfl, rfl, rfl, Nat.le_refl _, fun _ _ _ => rfl⟩
theorem grown_trans {a b c : World} {r : Option Nat} (h : a.grownBy b r) (k : b.grownBy c r) : a.grownBy c r :=
  ⟨k.os.trans h.os, k.tape.trans h.tape, k.output.trans h.output, Nat.le_trans h.size k.size, fun i hi hr => (k.block i (Nat.lt_of_lt_of_le hi h.size) hr).trans (h.block i hi hr)⟩
theorem grown_drewN {a b : World} {r : Option Nat} (h : a.grownBy b r) (n : Nat) : a.grownBy (b.drewN n) r := ⟨h.os, h.tape, h.output, h.size, h.block⟩
theorem grown_drew {a b : World} {r : Option Nat} (h : a.grownBy b r) : a.grownBy b.drew r := ⟨h.os, h.tape, h.output, h.size, h.block⟩
theorem grown_set {a b : World} {G : Nat} (h : a.grownBy b (some G)) (j : Nat) (u : Value) : a.grownBy (b.setCell ⟨G, j, none⟩ u) (some G) :=
  grown_trans h ⟨rfl, rfl, rfl, by simp, fun k hk hr => Below.heap_setCell _ _ _ _ (fun e => hr (by rw [e]))⟩
theorem Later.grown {a b c : World} {G : Nat} (h : Later a b) (hg : b.grownBy c (some G)) (hG : a.heap.size ≤ G) : Later a c :=
  Below.grown h hg (Below.size h) (fun k hk => by cases hk; exact hG)
theorem Later.grows {a b : World} (h : Later a b) (r : Option Nat) : a.grownBy b r := ⟨h.os, h.tape, h.output, h.size, fun k hk _ => h.block k hk⟩
/-- a call returns a slice of ints that reads as l, and an error -/
def RetIE (l : List Int) (err : Int) (w : World) (e : Ending) (w' : World) : Prop :=
  ∃ v, e = .returned (.tuple #[v, .int .i64 err]) ∧ IntsIn w' v l ∧ Later w w' ∧ FreshV w.heap.size v
/-- a cell of a block that was just made -/
theorem box_cell (w : World) (cs : Array Value) (t : TypeId) (j : Nat) (v : Value) (h : cs[j]? = some v) : (w.alloc (.cells cs t)).cell? ⟨w.heap.size, j, none⟩ = some v := by
  have : (w.alloc (.cells cs t)).heap[w.heap.size]? = some (.cells cs t) := heap_alloc_new w _
  simp only [World.cell?, this]
  exact h
theorem box_later {w w' : World} {cs : Array Value} {t : TypeId} (h : Later (w.alloc (.cells cs t)) w') (j : Nat) (v : Value) (hc : cs[j]? = some v) : w'.cell? ⟨w.heap.size, j, none⟩ = some v :=
  h.cell (box_cell w cs t j v hc)
theorem later_box {w w' : World} {o : Obj} (h : Later (w.alloc o) w') : Later w w' := ((Later.refl w).alloc o).trans h

/-! ### append on a slice of the call's own -/
/-- what append asks of a slice type T, its element type E (`size` cells, `bytes` bytes) -/
structure Elem (P : Program) (T E : TypeId) (size bytes : Nat) : Prop where
  ty : P.underlying T = some (.slice E)
  info : ∃ i z, P.info? E = some i ∧ i.zero = some z ∧ i.size = size ∧ i.bytes = bytes ∧ z.cells.size = size
  pos : 0 < size
theorem Elem.of {P : Program} {T E : TypeId} {size bytes : Nat} {z : Value} (hT : P.underlying T = some (.slice E)) (hi : (P.info? E).map (fun i => (i.zero, i.size, i.bytes)) = some (some z, size, bytes)) (hz : z.cells.size = size) (hp : 0 < size) : Elem P T E size bytes := by
  obtain ⟨i0, hi, hz0, hz1, hz2⟩ := info_parts hi
  exact ⟨hT, ⟨i0, z, hi, hz0, hz1, hz2, hz⟩, hp⟩
/-- an operation that is wanted (no guard, or a guard that says yes) -/
theorem wpList_want {P : Program} {ops : Array Oper} {rest : List Oper} {o : Oper} {a : Act} {Q : Exit → Act → World → Prop} {w : World} (hg : Region.wanted o (yielded ops a.tmps) = true)
    (h : ∀ K : Act → World → Prop, (∀ a w, wpList P ops Q rest a w → K a w) → o.wp P a w K Q) : wpList P ops Q (o :: rest) a w :=
  wpList_step fun K hK => by rw [if_pos hg]; exact h K hK
/-- 'out = append(out, x)', x of the cells ys -/
theorem push {P : Program} {T E : TypeId} {size bytes : Nat} (el : Elem P T E size bytes) {wr : World} {ops : Array Oper} {rest : List Oper} {o : Oper} {a : Act} {Q : Exit → Act → World → Prop} (hgd : Region.wanted o (yielded ops a.tmps) = true) (s x : Operand)
    (ho : o.op = .call { callee := .builtin .append, args := #[s, x], argTypes := #[T, T] }) (B : Nat) (v : Value) (n : Nat) (xs : List Value) (hs : a.eval s = v) (hown : wr.ownsRow B E size v n xs) (ys : Array Value)
    (hx : a.eval x = .slice (some ⟨wr.heap.size, 0, none⟩) 1 1) (hys : ys.size = size) (h1 : ∀ u ∈ ys.toList, u.oneCell' = true) (hn : (n + 1) * bytes ≤ 140737488355328) (hn' : n + 1 ≤ maxLen) (hB : B ≤ wr.heap.size)
    (h : ∀ v' w1, w1.ownsRow B E size v' (n + 1) (xs ++ ys.toList) → (∀ w0, Below B w0 wr → Below B w0 w1) → (wr.alloc (.cells ys E)).grownBy w1 v.ownBlock → wpList P ops Q rest (a.put o.dst v') w1) : wpList P ops Q (o :: rest) a (wr.alloc (.cells ys E)) := by
  obtain ⟨i, z, hi, hz, hsz, hby, hzs⟩ := el.info
  have hc : ∀ j u, ys.toList[j]? = some u → (wr.alloc (.cells ys E)).cell? ((⟨wr.heap.size, 0, none⟩ : Addr).add j) = some u := by
    intro j u hj
    have hadd : (⟨wr.heap.size, 0, none⟩ : Addr).add j = ⟨wr.heap.size, j, none⟩ := by unfold Addr.add; split <;> simp_all
    rw [hadd]
    have : (wr.alloc (.cells ys E)).heap[wr.heap.size]? = some (.cells ys E) := heap_alloc_new wr _
    simp only [World.cell?, this]
    simpa using hj
  exact wpList_want hgd fun K hK => wp_append_own _ s x T ho B E i z size bytes el.ty hi hz hsz hby hzs el.pos v n xs hs (hown.alloc _) ⟨wr.heap.size, 0, none⟩ 1 1 ys.toList hx (by simp [hys]) hc h1 hn' hn (by simp; omega)
    fun v' w1 h2 h3 _ => hK _ _ (h v' w1 h2 (fun w0 hb => (hb.alloc hB _).grown h3 (by simp; omega) (fun k hk => (hown.lt k hk).1)) h3)
/-- 'out = append(out, src...)' -/
theorem splice {P : Program} {T E : TypeId} {size bytes : Nat} (el : Elem P T E size bytes) {wr : World} {ops : Array Oper} {rest : List Oper} {o : Oper} {a : Act} {Q : Exit → Act → World → Prop} (hgd : Region.wanted o (yielded ops a.tmps) = true) (s x : Operand)
    (ho : o.op = .call { callee := .builtin .append, args := #[s, x], argTypes := #[T, T] }) (B : Nat) (v : Value) (n : Nat) (xs : List Value) (hs : a.eval s = v) (hown : wr.ownsRow B E size v n xs) (src : Value) (m : Nat) (ys : List Value)
    (hx : a.eval x = src) (hsrc : RowIn wr src m size ys) (h1 : ∀ u ∈ ys, u.oneCell' = true) (hn : (n + m) * bytes ≤ 140737488355328) (hn' : n + m ≤ maxLen) (hB : B ≤ wr.heap.size)
    (h : ∀ v' w1, w1.ownsRow B E size v' (n + m) (xs ++ ys) → (∀ w0, Below B w0 wr → Below B w0 w1) → wr.grownBy w1 v.ownBlock → wpList P ops Q rest (a.put o.dst v') w1) : wpList P ops Q (o :: rest) a wr := by
  obtain ⟨i, z, hi, hz, hsz, hby, hzs⟩ := el.info
  obtain ⟨hl, ao, cap, b, off, rfl, hc, hm, hnil, ha, hcell⟩ := hsrc
  cases ao with
  | none =>
    have h0 := hnil rfl
    subst h0
    have hm0 : m = 0 := by omega
    subst hm0
    have hy : ys = [] := List.eq_nil_of_length_eq_zero (by omega)
    subst hy
    refine wpList_want hgd fun K hK => ?_
    have hrun := run_append_owned_none (P := P) (w := wr) B T o.type E i size el.ty hi v n xs hown
    unfold Oper.wp
    simp [execOp, ho, resolve, invoke, builtin, hs, hx, hrun, Result.andThen]
    refine hK _ _ ?_
    exact h v wr (by simpa using hown) (fun _ hb => hb) ⟨rfl, rfl, rfl, Nat.le_refl _, fun _ _ _ => rfl⟩
  | some ad =>
    have hcc : ∀ j u, ys[j]? = some u → wr.cell? (ad.add j) = some u := by
      intro j u hj
      have hjl : j < ys.length := by
        rcases Nat.lt_or_ge j ys.length with h | h
        · exact h
        · rw [List.getElem?_eq_none h] at hj; cases hj
      have hm0 : 0 < m := by
        rcases Nat.eq_zero_or_pos m with h | h
        · subst h; omega
        · exact h
      have had := ha hm0
      simp only [Option.some.injEq] at had
      subst had
      have hadd : (⟨b, off, none⟩ : Addr).add j = ⟨b, off + j, none⟩ := by unfold Addr.add; split <;> simp_all
      rw [hadd]; exact hcell j u hj
    exact wpList_want hgd fun K hK => wp_append_own _ s x T ho B E i z size bytes el.ty hi hz hsz hby hzs el.pos v n xs hs hown ad m cap ys hx hl hcc h1 hn' hn hB
      fun v' w1 h2 h3 _ => hK _ _ (h v' w1 h2 (fun w0 hb => hb.grown h3 hB (fun k hk => (hown.lt k hk).1)) h3)
theorem IntsIn.at {w : World} {v : Value} {l : List Int} (h : IntsIn w v l) (n : Nat) (hn : l.length = n) : ∃ ao cap b off, v = .slice ao n cap ∧ n ≤ cap ∧ cap ≤ maxLen ∧ (0 < n → ao = some ⟨b, off, none⟩) ∧
    (∀ j, j < n → w.cell? ⟨b, off + j, none⟩ = some (.int .i64 (at_ l j))) := by
  obtain ⟨ao, cap, b, off, hv, hc, hm, ha, hcell, hok, _⟩ := h
  subst hn
  exact ⟨ao, cap, b, off, hv, hc, hm, ha, hcell⟩
theorem at_take (l : List Int) (k j : Nat) (h : j < k) : at_ (l.take k) j = at_ l j := by
  unfold at_
  simp [h]
/-- the first k of a slice -/
theorem IntsIn.take {w : World} {ao : Option Addr} {n cap c : Nat} {l : List Int} (h : IntsIn w (.slice ao n cap) l) (k : Nat) (hk : k ≤ n) (hc : k ≤ c) (hcc : c ≤ cap) : IntsIn w (.slice ao k c) (l.take k) := by
  obtain ⟨ao', cap', b, off, hv, hc', hm, ha, hcell, hok, hnil⟩ := h
  simp only [Value.slice.injEq] at hv
  obtain ⟨rfl, rfl, rfl⟩ := hv
  have hl : (l.take k).length = k := by rw [List.length_take]; omega
  refine ⟨ao, c, b, off, by rw [hl], by omega, by omega, fun hp => ha (by omega), fun j hj => ?_, fun x hx => hok x (List.mem_of_mem_take hx), fun h0 => by have := hnil h0; omega⟩
  rw [hl] at hj
  rw [hcell j (by omega), at_take _ _ _ hj]
theorem IntsIn.capLe {w : World} {ao : Option Addr} {n cap : Nat} {l : List Int} (h : IntsIn w (.slice ao n cap) l) : n ≤ cap ∧ cap ≤ maxLen ∧ l.length = n := by
  obtain ⟨ao', cap', b, off, hv, hc', hm, ha, hcell, hok, hnil⟩ := h
  simp only [Value.slice.injEq] at hv
  obtain ⟨rfl, rfl, rfl⟩ := hv
  exact ⟨hc', hm, rfl⟩
theorem FreshV.cut {B : Nat} {ao : Option Addr} {n cap k c : Nat} (h : FreshV B (.slice ao n cap)) : FreshV B (.slice ao k c) := fun x m d hv => by
  simp only [Value.slice.injEq] at hv
  exact h x n cap (by rw [hv.1])

/-! ### boxes of three cells -/
theorem box3_facts {w : World} {a b c : Value} {T : TypeId} {W : World} (h : Later (w.alloc (.cells #[a, b, c] T)) W) :
    W.cell? ⟨w.heap.size, 0, none⟩ = some a ∧ W.cell? ⟨w.heap.size, 1, none⟩ = some b ∧ W.cell? ⟨w.heap.size, 2, none⟩ = some c :=
  ⟨box_later h 0 _ rfl, box_later h 1 _ rfl, box_later h 2 _ rfl⟩
theorem box_free (w : World) (cs : Array Value) (t : TypeId) (j : Nat) : (w.alloc (.cells cs t)).frozen? ⟨w.heap.size, j, none⟩ = false := by
  have : (w.alloc (.cells cs t)).heap[w.heap.size]? = some (.cells cs t) := heap_alloc_new w _
  simp only [World.frozen?, this]
  simp
theorem own3_facts {w : World} {a b c : Value} {T : TypeId} {W : World} (h : Later (w.alloc (.cells #[a, b, c] T)) W) :
    (W.cell? ⟨w.heap.size, 0, none⟩ = some a ∧ W.cell? ⟨w.heap.size, 1, none⟩ = some b ∧ W.cell? ⟨w.heap.size, 2, none⟩ = some c) ∧
    (W.frozen? ⟨w.heap.size, 0, none⟩ = false ∧ W.frozen? ⟨w.heap.size, 1, none⟩ = false ∧ W.frozen? ⟨w.heap.size, 2, none⟩ = false) :=
  ⟨box3_facts h, h.free (box_cell w _ T 0 _ rfl) (box_free _ _ _ _), h.free (box_cell w _ T 1 _ rfl) (box_free _ _ _ _), h.free (box_cell w _ T 2 _ rfl) (box_free _ _ _ _)⟩
/-- a box, and behind it the block of a result -/
theorem pair3_facts {w : World} {o : Obj} {a b c d e f : Value} {T T' : TypeId} {W : World} (ho : o = .cells #[a, b, c] T) (h : Later ((w.alloc o).alloc (.cells #[d, e, f] T')) W) :
    (W.cell? ⟨w.heap.size, 0, none⟩ = some a ∧ W.cell? ⟨w.heap.size, 1, none⟩ = some b ∧ W.cell? ⟨w.heap.size, 2, none⟩ = some c) ∧
    (W.cell? ⟨w.heap.size + 1, 0, none⟩ = some d ∧ W.cell? ⟨w.heap.size + 1, 1, none⟩ = some e ∧ W.cell? ⟨w.heap.size + 1, 2, none⟩ = some f) ∧
    (W.frozen? ⟨w.heap.size + 1, 0, none⟩ = false ∧ W.frozen? ⟨w.heap.size + 1, 1, none⟩ = false ∧ W.frozen? ⟨w.heap.size + 1, 2, none⟩ = false) := by
  have h1 := own3_facts h
  rw [World.size_alloc] at h1
  subst ho
  exact ⟨box3_facts (later_box h), h1⟩
theorem box_size {w : World} {o : Obj} {W : World} (h : Later (w.alloc o) W) : w.heap.size < W.heap.size := by
  have := Below.size h; rw [World.size_alloc] at this; omega
theorem pair_size {w : World} {o o' : Obj} {W : World} (h : Later ((w.alloc o).alloc o') W) : w.heap.size + 1 < W.heap.size := by
  have := Below.size h; rw [World.size_alloc, World.size_alloc] at this; omega
end Go.Proofs.Ytifapodobhkdcaa
