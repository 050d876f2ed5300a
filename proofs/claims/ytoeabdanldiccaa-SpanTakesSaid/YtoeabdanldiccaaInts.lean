/- Walks of small functions on slices of ints. -/
import Derived.Test.YtoeabdanldiccaaRows
import Derived.Test.YtoeabdanldiccaaMem
import Derived.Deep.QuietTactic
import Derived.BigQuiet
namespace Go.Proofs.Ytoeabdanldiccaa
open Go.RowKit
theorem elem_int : Elem Try.prog 24 3 1 8 := Elem.of Try.underlying24 (z := .int .i64 0) (by kernel_rfl) rfl (by decide)
theorem ext_at {la lb : List Int} (h : la.length = lb.length) (he : ∀ j, j < la.length → at_ la j = at_ lb j) : la = lb :=
  List.ext_getElem h fun j h1 h2 => by rw [← at_eq la j h1, ← at_eq lb j h2]; exact he j h1
theorem SameInts_calls (va vb : Value) (la lb : List Int) (w : World) (ha : IntsIn w va la) (hb : IntsIn w vb lb) :
    Calls Try.prog 15 #[va, vb] w fun e w' => e = .returned (.bool (decide (la = lb))) ∧ ∃ n, w' = w.drewN n := by
  have hla := ha.len
  have hlb := hb.len
  obtain ⟨ao, cap, b, off, rfl, _, _, hao, hac, _, _⟩ := ha
  obtain ⟨bo, bcap, bb, boff, rfl, _, _, hbo, hbc, _, _⟩ := hb
  by_cases hn : la.length = lb.length
  · have hF : (((la.length : Nat) : Int) != ((lb.length : Nat) : Int)) = false := by simp [hn]
    have Hn := Lib.hid hn
    clear hn
    have Hao := Lib.hid hao
    have Hbo := Lib.hid hbo
    have Hac := Lib.hid hac
    have Hbc := Lib.hid hbc
    clear hao hbo hac hbc
    go_enter Try.func15, Try.ntmps15
    go_wp2
    go_loopw [5] (fun i wr => ∃ k n : Nat, k ≤ la.length ∧ i = .int .i64 k ∧ (∀ j, j < k → at_ la j = at_ lb j) ∧ wr = w.drewN n) (fun i _ => la.length - (intOf i).toNat)
    case atStart => exact ⟨0, 0, Nat.zero_le _, rfl, fun j hj => absurd hj (by omega), rfl⟩
    case round =>
      obtain ⟨k, n, hk, rfl, hsame, rfl⟩ := hrel
      have Hs := Lib.hid hsame
      clear hsame
      by_cases hlt : k < la.length
      · have hlt2 : k < lb.length := by have := Hn.out; omega
        obtain rfl := Hao.out (by omega)
        obtain rfl := Hbo.out (by omega)
        have c1 := Hac.out k hlt
        have c2 := Hbc.out k hlt2
        by_cases he : at_ la k = at_ lb k
        · have hf : (at_ la k != at_ lb k) = false := by simp [he]
          have He := Lib.hid he
          clear he
          go_wp2
          go_quiet (fail)
          go_wp2
          go_roundw
          case rel =>
            refine ⟨k + 1, _, by omega, by go_num, fun j hj => ?_, rfl⟩
            rcases Nat.lt_succ_iff_lt_or_eq.1 hj with h | h
            · exact Hs.out j h
            · rw [h]; exact He.out
          case measure => simp [intOf]; omega
        · have hf : (at_ la k != at_ lb k) = true := by simp [he]
          go_wp2
          go_quiet (fail)
          go_wp2
          go_ret
          refine ⟨?_, n + nq, by rw [World.drewN_drewN]⟩
          have : ¬ la = lb := fun h => he (by rw [h])
          simp [this]
      · go_wp2
        go_ret
        refine ⟨?_, _, rfl⟩
        have : la = lb := ext_at Hn.out fun j hj => Hs.out j (by omega)
        simp [this]
  · have hF : (((la.length : Nat) : Int) != ((lb.length : Nat) : Int)) = true := by simp; omega
    have : ¬ la = lb := fun h => hn (by rw [h])
    go_enter Try.func15, Try.ntmps15
    go_wp2
    go_ret
    exact ⟨by simp [this], 0, rfl⟩
/-- the slice of ints v, of the call's own (from block B on), holds l -/
def OwnI (w : World) (B : Nat) (v : Value) (l : List Int) : Prop := w.ownsRow B 3 1 v l.length (l.map (Value.int .i64))
theorem ownI_nil (w : World) (B : Nat) : OwnI w B (.slice none 0 0) [] := World.ownsRow_nil _ _ _ _
theorem OwnI.fresh {w : World} {B : Nat} {v : Value} {l : List Int} (h : OwnI w B v l) : FreshV B v := fresh_own h
theorem OwnI.ints {w : World} {B : Nat} {v : Value} {l : List Int} (h : OwnI w B v l) (hok : ∀ x ∈ l, okI x) : IntsIn w v l := ints_own h hok
theorem ownI_lit0 (w : World) (B : Nat) (hB : B ≤ w.heap.size) : OwnI (w.alloc (.cells #[] 3)) B (.slice (some ⟨w.heap.size, 0, none⟩) 0 0) [] := World.ownsRow_lit w #[] 0 hB (Nat.zero_le _) rfl
/-- 'out = append(out, y)' on a slice of ints of the call's own -/
theorem push_int {wr : World} {ops : Array Oper} {rest : List Oper} {o : Oper} {a : Act} {Q : Exit → Act → World → Prop} (hgd : Region.wanted o (yielded ops a.tmps) = true) (s x : Operand)
    (ho : o.op = .call { callee := .builtin .append, args := #[s, x], argTypes := #[24, 24] }) (B : Nat) (v : Value) (l : List Int) (hs : a.eval s = v) (hown : OwnI wr B v l) (y : Int) (l' : List Int) (hl : l' = l ++ [y])
    (hx : a.eval x = .slice (some ⟨wr.heap.size, 0, none⟩) 1 1) (hn : l.length + 1 ≤ 1099511627776) (hB : B ≤ wr.heap.size)
    (h : ∀ v' w1, OwnI w1 B v' l' → (∀ w0, Below B w0 wr → Below B w0 w1) → wpList Try.prog ops Q rest (a.put o.dst v') w1) : wpList Try.prog ops Q (o :: rest) a (wr.alloc (.cells #[.int .i64 y] 3)) :=
  push elem_int hgd s x ho B v l.length _ hs hown #[.int .i64 y] hx rfl (fun u hu => by simp at hu; subst hu; rfl) (by omega) (by unfold maxLen; omega) hB
    fun v' w1 h2 h3 _ => h v' w1 (by subst hl; simpa [OwnI] using h2) h3
theorem splice_int {wr : World} {ops : Array Oper} {rest : List Oper} {o : Oper} {a : Act} {Q : Exit → Act → World → Prop} (hgd : Region.wanted o (yielded ops a.tmps) = true) (s x : Operand)
    (ho : o.op = .call { callee := .builtin .append, args := #[s, x], argTypes := #[24, 24] }) (B : Nat) (v : Value) (l : List Int) (hs : a.eval s = v) (hown : OwnI wr B v l) (src : Value) (k l' : List Int) (hl : l' = l ++ k)
    (hx : a.eval x = src) (hsrc : IntsIn wr src k) (hn : l.length + k.length ≤ 1099511627776) (hB : B ≤ wr.heap.size)
    (h : ∀ v' w1, OwnI w1 B v' l' → (∀ w0, Below B w0 wr → Below B w0 w1) → wpList Try.prog ops Q rest (a.put o.dst v') w1) : wpList Try.prog ops Q (o :: rest) a wr :=
  splice elem_int hgd s x ho B v l.length _ hs hown src k.length _ hx hsrc.row (fun u hu => by simp at hu; obtain ⟨_, _, rfl⟩ := hu; rfl) (by omega) (by unfold maxLen; omega) hB
    fun v' w1 h2 h3 _ => h v' w1 (by subst hl; simpa [OwnI] using h2) h3
/-- 'make([]int, n)' -/
theorem make_int {w : World} {ops : Array Oper} {rest : List Oper} {o : Oper} {a : Act} {Q : Exit → Act → World → Prop} (hg : o.guard = none) (l c : Operand) (hop : o.op = Op.makeSlice 24 l c) (n : Nat)
    (hl : a.eval l = .int .i64 n) (hc : a.eval c = .int .i64 n) (hn : n ≤ 1099511627776)
    (h : ∀ w1, OwnI w1 w.heap.size (.slice (some ⟨w.heap.size, 0, none⟩) n n) (List.replicate n 0) → Later w w1 → wpList Try.prog ops Q rest (a.put o.dst (.slice (some ⟨w.heap.size, 0, none⟩) n n)) w1) : wpList Try.prog ops Q (o :: rest) a w := by
  obtain ⟨i, z, hi, hz, hsz, hby, hzs⟩ := elem_int.info
  obtain ⟨i0, hi', hz0, _, _⟩ := info_parts (show (Try.prog.info? 3).map (fun i => (i.zero, i.size, i.bytes)) = some (some (.int .i64 0), 1, 8) by kernel_rfl)
  rw [hi] at hi'
  obtain rfl : i = i0 := by simpa using hi'
  rw [hz] at hz0
  obtain rfl : z = .int .i64 0 := by simpa using hz0
  refine wpList_make_full w hg l c 24 hop w.heap.size 3 i (.int .i64 0) 1 elem_int.ty hi hz hsz .i64 .i64 n n n hl hc rfl rfl (by rw [hby]; omega) (by unfold maxLen; omega) (Nat.le_refl _) ?_
  intro w' h1 h2
  refine h w' ?_ ⟨h2.os, h2.tape, h2.output, h2.size, fun k hk => h2.block k hk (by simp)⟩
  have e : (madeCells (Value.int .i64 0).cells (n * 1)).toList = (List.replicate n (0 : Int)).map (Value.int .i64) := by
    rw [Nat.mul_one, List.map_replicate]; exact toList_madeCells_one _ _
  rw [e] at h1
  simpa [OwnI] using h1
theorem OwnI.cell {w : World} {B g n cap : Nat} {l : List Int} (h : OwnI w B (.slice (some ⟨g, 0, none⟩) n cap) l) (hn : l.length = n) (j : Nat) (hj : j < n) : w.cell? ⟨g, j, none⟩ = some (.int .i64 (at_ l j)) := by
  subst hn
  rw [World.ownsRow.cellAt h j (by simpa using hj)]
  simp [at_eq l j hj, hj]
theorem OwnI.free {w : World} {B g n cap : Nat} {l : List Int} (h : OwnI w B (.slice (some ⟨g, 0, none⟩) n cap) l) (hn : l.length = n) (j : Nat) : w.frozen? ⟨g, j, none⟩ = false := by
  subst hn
  exact World.ownsRow.frozenAt h j
theorem OwnI.store {w : World} {B g n cap : Nat} {l : List Int} (h : OwnI w B (.slice (some ⟨g, 0, none⟩) n cap) l) (hn : l.length = n) (j : Nat) (y : Int) : OwnI (w.setCell ⟨g, j, none⟩ (.int .i64 y)) B (.slice (some ⟨g, 0, none⟩) n cap) (l.set j y) := by
  subst hn
  have := (World.ownsRow.stored h j (.int .i64 y)).1
  unfold OwnI
  rw [List.length_set, List.map_set]
  exact this
theorem OwnI.drewN {w : World} {B : Nat} {v : Value} {l : List Int} (h : OwnI w B v l) (n : Nat) : OwnI (w.drewN n) B v l := h
theorem OwnI.base {w : World} {B g n cap : Nat} {l : List Int} (h : OwnI w B (.slice (some ⟨g, 0, none⟩) n cap) l) : B ≤ g ∧ g < w.heap.size := World.ownsRow.lt h g rfl
theorem OwnI.kept {w w' : World} {B : Nat} {v : Value} {l : List Int} (h : OwnI w B v l) (hl : Later w w') : OwnI w' B v l :=
  World.ownsRow.kept h (row := none) ⟨hl.os, hl.tape, hl.output, hl.size, fun k hk _ => hl.block k hk⟩ (by cases v.ownBlock <;> simp)
theorem at_set (l : List Int) (j k : Nat) (y : Int) (hj : j < l.length) : at_ (l.set j y) k = if k = j then y else at_ l k := by
  unfold at_
  by_cases h : k = j
  · subst h; simp [hj]
  · simp [h, List.getElem?_set_ne (by omega : j ≠ k)]
theorem OwnI.shape {w : World} {B : Nat} {v : Value} {l : List Int} (h : OwnI w B v l) (n : Nat) (hn : l.length = n) (hp : 0 < n) : ∃ g cap, v = .slice (some ⟨g, 0, none⟩) n cap := by
  subst hn
  rcases h.2 with ⟨_, h0⟩ | ⟨g, cap, cur, hv, _⟩
  · omega
  · exact ⟨g, cap, hv⟩
end Go.Proofs.Ytoeabdanldiccaa
