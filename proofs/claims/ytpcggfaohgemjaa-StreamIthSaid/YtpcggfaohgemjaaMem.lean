/- What a slice of ints reads as in a world, and that it reads so in later worlds (no program in sight). -/
import Derived.WalkKit
import Derived.WalkSpells
import Derived.WalkLawsBesides
import Derived.Lib.Hide
import Derived.OpenShut
namespace Go.Proofs.Ytpcggfaohgemjaa
open Go.RowKit

theorem bcell {W w1 : World} (hb : Below W.heap.size W w1) : (∀ b o, b < W.heap.size → w1.cell? ⟨b, o, none⟩ = W.cell? ⟨b, o, none⟩) ∧ (∀ b o, b < W.heap.size → w1.frozen? ⟨b, o, none⟩ = W.frozen? ⟨b, o, none⟩) :=
  ⟨fun b o h => hb.cell (p := ⟨b, o, none⟩) h, fun b o h => hb.frozen (p := ⟨b, o, none⟩) h⟩

/-- the cell of an int -/
def i64v (n : Int) : Value := .int .i64 n
def okI (n : Int) : Prop := -9223372036854775808 ≤ n ∧ n ≤ 9223372036854775807
theorem okI_wf {n : Int} (h : (Lit.int .i64 n).wf = true) : okI n := by simpa [Lit.wf, IntKind.min, IntKind.max, IntKind.signed, IntKind.bits, okI] using h
theorem wf_okI {n : Int} (h : okI n) : (Lit.int .i64 n).wf = true := WalkArith.wf_i64 h

/-- the j-th number, by a name that simp does not open -/
def at_ (l : List Int) (j : Nat) : Int := l.getD j 0
theorem at_eq (l : List Int) (j : Nat) (h : j < l.length) : at_ l j = l[j] := by simp [at_, h]
theorem at_mem (l : List Int) (j : Nat) (h : j < l.length) : at_ l j ∈ l := by rw [at_eq l j h]; exact List.getElem_mem h

/-- In the world w the value v is a slice that reads as the numbers l. -/
def IntsIn (w : World) (v : Value) (l : List Int) : Prop :=
  ∃ ao cap b off, v = .slice ao l.length cap ∧ l.length ≤ cap ∧ cap ≤ maxLen ∧ (0 < l.length → ao = some ⟨b, off, none⟩) ∧
    (∀ j, j < l.length → w.cell? ⟨b, off + j, none⟩ = some (.int .i64 (at_ l j))) ∧ (∀ x ∈ l, okI x)

theorem IntsIn.below {w w' : World} {v : Value} {l : List Int} (h : IntsIn w v l) (hb : Below w.heap.size w w') : IntsIn w' v l := by
  obtain ⟨ao, cap, b, off, hv, hc, hm, ha, hcell, hok⟩ := h
  exact ⟨ao, cap, b, off, hv, hc, hm, ha, fun j hj => (hb.cell (p := ⟨b, off + j, none⟩) (World.block_lt_of_cell? w _ (hcell j hj))).trans (hcell j hj), hok⟩

theorem IntsIn.len {w : World} {v : Value} {l : List Int} (h : IntsIn w v l) : l.length ≤ 9223372036854775807 := by
  obtain ⟨ao, cap, b, off, hv, hc, hm, _⟩ := h
  unfold maxLen at hm; omega

theorem ints_nil (w : World) : IntsIn w (.slice none 0 0) [] :=
  ⟨none, 0, 0, 0, rfl, Nat.le_refl _, Nat.zero_le _, fun h => absurd h (by simp), fun j hj => absurd hj (by simp), fun x hx => by simp at hx⟩

theorem ints_own {w : World} {base : Nat} {e : TypeId} {v : Value} {n : Nat} {l : List Int} (h : w.ownsRow base e 1 v n (l.map (Value.int .i64))) (hok : ∀ x ∈ l, okI x) : IntsIn w v l := by
  have hn : l.length = n := by have := h.1; simpa using this
  rcases h.2 with ⟨rfl, h0⟩ | ⟨g, cap, cur, rfl, hb, hg, hc, hm, hs, ht⟩
  · have : l = [] := List.eq_nil_of_length_eq_zero (by omega)
    subst this; exact ints_nil w
  · refine ⟨some ⟨g, 0, none⟩, cap, g, 0, by rw [hn], by omega, hm, fun _ => rfl, fun j hj => ?_, hok⟩
    have hc := h.cells (g := g) (by simp [Value.ownBlock]) j (.int .i64 (at_ l j)) (by simp [at_eq l j hj, hj])
    have hadd : (⟨g, 0, none⟩ : Addr).add j = ⟨g, 0 + j, none⟩ := by unfold Addr.add; split <;> simp_all
    rwa [hadd] at hc

/-- a slice of ints that came in reads as some numbers -/
theorem ints_came {H : Type} {enc : TypeId × Value → H} {P : Program} {w : World} {t e : TypeId} {ao : Option Addr} {len cap : Nat} {d : DataW H} {p : List MemPlace} (ht : P.underlying t = some (.slice e)) (he : P.underlying e = some (.int .i64)) (hc : P.cellsOf e = 1)
    (h : DataW.Trod enc P w 0 (fun _ => true) true t (.slice ao len cap) d p) : ∃ l, IntsIn w (.slice ao len cap) l := by
  obtain ⟨fuel, hf⟩ := h
  rcases ChangeShapes.open_ints ht he hc hf with ⟨hcs, _⟩ | ⟨x, l, c, zs, hcs, _, hl, hm, hz, _, hcell, hwz⟩
  · simp [Value.cells] at hcs
    obtain ⟨rfl, rfl, rfl⟩ := hcs
    exact ⟨[], ints_nil w⟩
  · simp [Value.cells] at hcs
    obtain ⟨rfl, rfl, rfl⟩ := hcs
    have hz' : zs.length = cap := by simpa using hz
    have hlen : (zs.take len).length = len := by rw [List.length_take]; omega
    by_cases h0 : 0 < zs.length
    · obtain ⟨b, off, hx, hc2⟩ := ints_at hcell h0
      refine ⟨zs.take len, some x, cap, b, off, by rw [hlen], by omega, hm, fun _ => by rw [hx], fun j hj => ?_, fun y hy => okI_wf (hwz y (List.mem_of_mem_take hy))⟩
      rw [hlen] at hj
      rw [hc2 j (by omega)]
      simp [at_, hj]
    · have : zs = [] := List.eq_nil_of_length_eq_zero (by omega)
      subst this
      have hl0 : len = 0 := by simp at hz'; omega
      subst hl0
      exact ⟨[], some x, cap, 0, 0, rfl, Nat.zero_le _, hm, fun h => absurd h (by simp), fun j hj => absurd hj (by simp), fun y hy => by simp at hy⟩

/-- behind 'out = append(out, x)': what was there before the call is as it was -/
theorem below_push {w wr w1 : World} {B : Nat} {o : Obj} {e : TypeId} {size : Nat} {v : Value} {n : Nat} {xs : List Value} (hb : Below B w wr) (hB : B ≤ wr.heap.size) (hown : wr.ownsRow B e size v n xs) (hg : (wr.alloc o).grownBy w1 v.ownBlock) : Below B w w1 :=
  (hb.alloc hB o).grown hg (by simp; omega) (fun k hk => (hown.lt k hk).1)

/-- w' is w with new blocks: nothing that was there has turned -/
def Later (w w' : World) : Prop := Below w.heap.size w w'
theorem Later.refl (w : World) : Later w w := Below.refl _ _
theorem Later.trans {a b c : World} (h : Later a b) (k : Later b c) : Later a c := Below.trans h (Below.mono k (Below.size h))
theorem Later.drewN {a b : World} (h : Later a b) (n : Nat) : Later a (b.drewN n) := below_drewN h n
theorem Later.of_drewN {w w' : World} (h : ∃ n, w' = w.drewN n) : Later w w' := by obtain ⟨n, rfl⟩ := h; exact (Later.refl w).drewN n
theorem Later.alloc {a b : World} (h : Later a b) (o : Obj) : Later a (b.alloc o) := Below.alloc h (Below.size h) o
theorem IntsIn.later {w w' : World} {v : Value} {l : List Int} (h : IntsIn w v l) (hb : Later w w') : IntsIn w' v l := h.below hb
theorem Later.cell {w w' : World} (h : Later w w') {a : Addr} {v : Value} (hc : w.cell? a = some v) : w'.cell? a = some v :=
  (Below.cell h (World.block_lt_of_cell? w _ hc)).trans hc
theorem Later.lt {w w' : World} (h : Later w w') {k : Nat} (hk : k < w.heap.size) : k < w'.heap.size := Nat.lt_of_lt_of_le hk (Below.size h)
/-- a call returns a slice of ints that reads as l, and an error -/
def RetIE (l : List Int) (err : Int) (w : World) (e : Ending) (w' : World) : Prop :=
  ∃ v, e = .returned (.tuple #[v, .int .i64 err]) ∧ IntsIn w' v l ∧ Later w w'
/-- a cell of a block that was just made -/
theorem box_cell (w : World) (cs : Array Value) (t : TypeId) (j : Nat) (v : Value) (h : cs[j]? = some v) : (w.alloc (.cells cs t)).cell? ⟨w.heap.size, j, none⟩ = some v := by
  have : (w.alloc (.cells cs t)).heap[w.heap.size]? = some (.cells cs t) := heap_alloc_new w _
  simp only [World.cell?, this]
  exact h
theorem box_later {w w' : World} {cs : Array Value} {t : TypeId} (h : Later (w.alloc (.cells cs t)) w') (j : Nat) (v : Value) (hc : cs[j]? = some v) : w'.cell? ⟨w.heap.size, j, none⟩ = some v :=
  h.cell (box_cell w cs t j v hc)
theorem later_box {w w' : World} {o : Obj} (h : Later (w.alloc o) w') : Later w w' := ((Later.refl w).alloc o).trans h
end Go.Proofs.Ytpcggfaohgemjaa
