/- Small words of the abstract machine: sums in range, sizes, loops that count, rows of lists. -/
import Derived.Test.YtifapodobhkdcaaAbsTy
namespace Go.Proofs.Ytifapodobhkdcaa
set_option linter.unusedVariables false
set_option linter.unusedSimpArgs false
open Go.RowKit
theorem w64 {n : Int} (h1 : -9223372036854775808 ≤ n) (h2 : n ≤ 9223372036854775807) : IntKind.i64.wrap n = n := IntWalk.i64_in _ ⟨h1, h2⟩
theorem neg64 {n : Int} (h1 : -9223372036854775807 ≤ n) (h2 : n ≤ 9223372036854775807) : IntKind.i64.wrap (0 - n) = -n := by rw [show 0 - n = -n by omega]; exact w64 (by omega) (by omega)
theorem quo64 {a b : Int} (h1 : -9223372036854775807 ≤ a) (h2 : a ≤ 9223372036854775807) : IntKind.i64.wrap (a.tdiv b) = a.tdiv b := by
  have h := Int.natAbs_tdiv a b
  have h' : a.natAbs.div b.natAbs ≤ a.natAbs := Nat.div_le_self _ _
  rw [← h] at h'
  clear h
  generalize a.tdiv b = q at *
  exact w64 (by omega) (by omega)
class TySz (P : Program) (t : TypeId) (k : outParam Nat) : Prop where
  size : (P.info? t).map (·.size) = some k
instance {P : Program} {t : TypeId} [h : TyCell P t] : TySz P t 1 := ⟨h.size⟩
instance {P : Program} {t : TypeId} {k : Nat} [h : TyAgg P t k] : TySz P t k := ⟨h.size⟩
section
variable {P : Program} {S : St} {o : Oper} {x y z : Operand} {d : D}
theorem P_pickT (ho : o.op = .pick z x y) (hz : S.ev z = some (.val (.bool true))) (hx : S.ev x = some d) : PStep P o S d := P_pick (c := true) (e := .junk) ho hz (fun _ => hx) (fun h => by cases h)
theorem P_pickF (ho : o.op = .pick z x y) (hz : S.ev z = some (.val (.bool false))) (hy : S.ev y = some d) : PStep P o S d := P_pick (c := false) (d := .junk) ho hz (fun h => by cases h) (fun _ => hy)
theorem P_lssT {t yt : TypeId} {k : IntKind} {a b : Int} (ho : o.op = .binOp .lss t x y yt) (hx : S.ev x = some (.val (.int k a))) (hy : S.ev y = some (.val (.int k b))) (h : a < b) : PStep P o S (.val (.bool true)) := by
  have := P_lss (P := P) ho hx hy; rwa [decide_eq_true h] at this
theorem P_lssF {t yt : TypeId} {k : IntKind} {a b : Int} (ho : o.op = .binOp .lss t x y yt) (hx : S.ev x = some (.val (.int k a))) (hy : S.ev y = some (.val (.int k b))) (h : ¬ (a < b)) : PStep P o S (.val (.bool false)) := by
  have := P_lss (P := P) ho hx hy; rwa [decide_eq_false h] at this
theorem P_leqT {t yt : TypeId} {k : IntKind} {a b : Int} (ho : o.op = .binOp .leq t x y yt) (hx : S.ev x = some (.val (.int k a))) (hy : S.ev y = some (.val (.int k b))) (h : a ≤ b) : PStep P o S (.val (.bool true)) := by
  have := P_leq (P := P) ho hx hy; rwa [decide_eq_true h] at this
theorem P_leqF {t yt : TypeId} {k : IntKind} {a b : Int} (ho : o.op = .binOp .leq t x y yt) (hx : S.ev x = some (.val (.int k a))) (hy : S.ev y = some (.val (.int k b))) (h : ¬ (a ≤ b)) : PStep P o S (.val (.bool false)) := by
  have := P_leq (P := P) ho hx hy; rwa [decide_eq_false h] at this
theorem P_gtrT {t yt : TypeId} {k : IntKind} {a b : Int} (ho : o.op = .binOp .gtr t x y yt) (hx : S.ev x = some (.val (.int k a))) (hy : S.ev y = some (.val (.int k b))) (h : b < a) : PStep P o S (.val (.bool true)) := by
  have := P_gtr (P := P) ho hx hy; rwa [decide_eq_true h] at this
theorem P_gtrF {t yt : TypeId} {k : IntKind} {a b : Int} (ho : o.op = .binOp .gtr t x y yt) (hx : S.ev x = some (.val (.int k a))) (hy : S.ev y = some (.val (.int k b))) (h : ¬ (b < a)) : PStep P o S (.val (.bool false)) := by
  have := P_gtr (P := P) ho hx hy; rwa [decide_eq_false h] at this
theorem P_geqT {t yt : TypeId} {k : IntKind} {a b : Int} (ho : o.op = .binOp .geq t x y yt) (hx : S.ev x = some (.val (.int k a))) (hy : S.ev y = some (.val (.int k b))) (h : b ≤ a) : PStep P o S (.val (.bool true)) := by
  have := P_geq (P := P) ho hx hy; rwa [decide_eq_true h] at this
theorem P_geqF {t yt : TypeId} {k : IntKind} {a b : Int} (ho : o.op = .binOp .geq t x y yt) (hx : S.ev x = some (.val (.int k a))) (hy : S.ev y = some (.val (.int k b))) (h : ¬ (b ≤ a)) : PStep P o S (.val (.bool false)) := by
  have := P_geq (P := P) ho hx hy; rwa [decide_eq_false h] at this
theorem P_eqlT {t yt : TypeId} {k : IntKind} {a b : Int} (ho : o.op = .binOp .eql t x y yt) (hx : S.ev x = some (.val (.int k a))) (hy : S.ev y = some (.val (.int k b))) (h : a = b) : PStep P o S (.val (.bool true)) := by
  have := P_eql (P := P) ho hx hy; rwa [decide_eq_true h] at this
theorem P_eqlF {t yt : TypeId} {k : IntKind} {a b : Int} (ho : o.op = .binOp .eql t x y yt) (hx : S.ev x = some (.val (.int k a))) (hy : S.ev y = some (.val (.int k b))) (h : ¬ (a = b)) : PStep P o S (.val (.bool false)) := by
  have := P_eql (P := P) ho hx hy; rwa [decide_eq_false h] at this
theorem P_neqT {t yt : TypeId} {k : IntKind} {a b : Int} (ho : o.op = .binOp .neq t x y yt) (hx : S.ev x = some (.val (.int k a))) (hy : S.ev y = some (.val (.int k b))) (h : a ≠ b) : PStep P o S (.val (.bool true)) := by
  have := P_neq (P := P) ho hx hy; rwa [decide_eq_true h] at this
theorem P_neqF {t yt : TypeId} {k : IntKind} {a b : Int} (ho : o.op = .binOp .neq t x y yt) (hx : S.ev x = some (.val (.int k a))) (hy : S.ev y = some (.val (.int k b))) (h : ¬ (a ≠ b)) : PStep P o S (.val (.bool false)) := by
  have := P_neq (P := P) ho hx hy; rwa [decide_eq_false h] at this
theorem P_notT {t : TypeId} (ho : o.op = .unOp .not t x) (hx : S.ev x = some (.val (.bool false))) : PStep P o S (.val (.bool true)) := P_not ho hx
theorem P_notF {t : TypeId} (ho : o.op = .unOp .not t x) (hx : S.ev x = some (.val (.bool true))) : PStep P o S (.val (.bool false)) := P_not ho hx
theorem P_minL {k : IntKind} {a b : Int} {ts : Array TypeId} (ho : o.op = .call { callee := .builtin .min, args := #[x, y], argTypes := ts }) (hx : S.ev x = some (.val (.int k a))) (hy : S.ev y = some (.val (.int k b))) (h : a ≤ b) : PStep P o S (.val (.int k a)) := P_min ho hx hy (if_neg (by omega))
theorem P_minR {k : IntKind} {a b : Int} {ts : Array TypeId} (ho : o.op = .call { callee := .builtin .min, args := #[x, y], argTypes := ts }) (hx : S.ev x = some (.val (.int k a))) (hy : S.ev y = some (.val (.int k b))) (h : b ≤ a) : PStep P o S (.val (.int k b)) := P_min ho hx hy (by split <;> omega)
theorem P_maxL {k : IntKind} {a b : Int} {ts : Array TypeId} (ho : o.op = .call { callee := .builtin .max, args := #[x, y], argTypes := ts }) (hx : S.ev x = some (.val (.int k a))) (hy : S.ev y = some (.val (.int k b))) (h : b ≤ a) : PStep P o S (.val (.int k a)) := P_max ho hx hy (if_neg (by omega))
theorem P_maxR {k : IntKind} {a b : Int} {ts : Array TypeId} (ho : o.op = .call { callee := .builtin .max, args := #[x, y], argTypes := ts }) (hx : S.ev x = some (.val (.int k a))) (hy : S.ev y = some (.val (.int k b))) (h : a ≤ b) : PStep P o S (.val (.int k b)) := P_max ho hx hy (by split <;> omega)
end
abbrev iD (n : Int) : D := .val (.int .i64 n)
abbrev bD (b : Bool) : D := .val (.bool b)
abbrev intsD (l : List Int) : List D := l.map iD
abbrev rowI (l : List Int) : D := .row l.length (intsD l)
theorem DC.as {P : Program} {f : Nat} {ds : List D} {r r' : D} (h : DC P f ds r) (hr : r = r') : DC P f ds r' := hr ▸ h
theorem idsL_map {α : Type} {p : Nat → Bool} {f : α → D} (h : ∀ a, (f a).ids p = true) (l : List α) : D.idsL p (l.map f) = true :=
  idsL_of fun j d hj => by
    rw [List.getElem?_map] at hj
    cases hl : l[j]? with
    | none => rw [hl] at hj; cases hj
    | some a => rw [hl] at hj; cases hj; exact h a
theorem idsL_append {p : Nat → Bool} : ∀ {xs ys : List D}, D.idsL p xs = true → D.idsL p ys = true → D.idsL p (xs ++ ys) = true
  | [], _, _, h => h
  | x :: xs, ys, h, k => by
    simp only [D.idsL, Bool.and_eq_true, List.cons_append] at h ⊢
    exact ⟨h.1, idsL_append h.2 k⟩
theorem idsL_flat {α : Type} {p : Nat → Bool} {f : α → List D} (h : ∀ a, D.idsL p (f a) = true) : ∀ l : List α, D.idsL p (l.flatMap f) = true
  | [] => rfl
  | a :: l => by rw [List.flatMap_cons]; exact idsL_append (h a) (idsL_flat h l)
theorem elem_map {α : Type} {f : α → D} {l : List α} {k : Nat} (h : k < l.length) : ElemAt 1 (l.map f) k [f l[k]] :=
  ⟨rfl, fun j hj => by
    have : j = 0 := by omega
    subst this
    simp [h]⟩
theorem flat_get {α : Type} {f : α → List D} {m : Nat} (hf : ∀ a, (f a).length = m) : ∀ {l : List α} {k : Nat} (h : k < l.length) {j : Nat}, j < m → (l.flatMap f)[k * m + j]? = (f l[k])[j]?
  | a :: l, 0, h, j, hj => by
    rw [List.flatMap_cons, List.getElem?_append_left (by rw [hf]; omega)]; simp
  | a :: l, k + 1, h, j, hj => by
    rw [List.flatMap_cons, List.getElem?_append_right (by rw [hf, Nat.add_mul]; omega), hf, show (k + 1) * m + j - m = k * m + j by rw [Nat.add_mul]; omega]
    exact flat_get hf (by simpa using h) hj
theorem elem_flat {α : Type} {f : α → List D} {m : Nat} (hf : ∀ a, (f a).length = m) {l : List α} {k : Nat} (h : k < l.length) : ElemAt m (l.flatMap f) k (f l[k]) := ⟨hf _, fun j hj => flat_get hf h hj⟩
section
variable {P : Program} {S : St} {o : Oper} {x y z : Operand} {d : D} {K : Exit → St → Prop}
theorem P_index1 {α : Type} {f : α → D} {l : List α} {n k bytes : Nat} {t e : TypeId} {ki : IntKind} [hT : TySlice P t e 1 bytes] (ho : o.op = .indexAddr t x y) (hx : S.ev x = some (.row n (l.map f))) (hy : S.ev y = some (.val (.int ki ((k : Nat) : Int)))) (hn : n = l.length) (hk : k < l.length) : PStep P o S (.obj [f l[k]]) :=
  P_indexRow ho hx hy (by omega) (by omega) (by rw [Int.toNat_natCast]; exact elem_map hk)
theorem P_index1' {α : Type} {f : α → D} {l : List α} {n bytes : Nat} {i : Int} {t e : TypeId} {ki : IntKind} [hT : TySlice P t e 1 bytes] (ho : o.op = .indexAddr t x y) (hx : S.ev x = some (.row n (l.map f))) (hy : S.ev y = some (.val (.int ki i))) (hn : n = l.length) (h0 : 0 ≤ i) (hk : i.toNat < l.length) : PStep P o S (.obj [f l[i.toNat]]) :=
  P_indexRow ho hx hy h0 (by omega) (elem_map hk)
theorem P_index1_0 {α : Type} {f : α → D} {l : List α} {n bytes : Nat} {t e : TypeId} {ki : IntKind} [hT : TySlice P t e 1 bytes] (ho : o.op = .indexAddr t x y) (hx : S.ev x = some (.row n (l.map f))) (hy : S.ev y = some (.val (.int ki 0))) (hn : n = l.length) (hk : 0 < l.length) : PStep P o S (.obj [f l[0]]) :=
  P_index1 (k := 0) ho hx hy hn hk
theorem P_index1_1 {α : Type} {f : α → D} {l : List α} {n bytes : Nat} {t e : TypeId} {ki : IntKind} [hT : TySlice P t e 1 bytes] (ho : o.op = .indexAddr t x y) (hx : S.ev x = some (.row n (l.map f))) (hy : S.ev y = some (.val (.int ki 1))) (hn : n = l.length) (hk : 1 < l.length) : PStep P o S (.obj [f l[1]]) :=
  P_index1 (k := 1) ho hx hy hn hk
theorem P_indexF {α : Type} {f : α → List D} {m : Nat} {l : List α} {n k bytes : Nat} {t e : TypeId} {ki : IntKind} [hT : TySlice P t e m bytes] (hf : ∀ a, (f a).length = m) (ho : o.op = .indexAddr t x y) (hx : S.ev x = some (.row n (l.flatMap f))) (hy : S.ev y = some (.val (.int ki ((k : Nat) : Int)))) (hn : n = l.length) (hk : k < l.length) : PStep P o S (.obj (f l[k])) :=
  P_indexRow ho hx hy (by omega) (by omega) (by rw [Int.toNat_natCast]; exact elem_flat hf hk)
theorem P_indexF_0 {α : Type} {f : α → List D} {m : Nat} {l : List α} {n bytes : Nat} {t e : TypeId} {ki : IntKind} [hT : TySlice P t e m bytes] (hf : ∀ a, (f a).length = m) (ho : o.op = .indexAddr t x y) (hx : S.ev x = some (.row n (l.flatMap f))) (hy : S.ev y = some (.val (.int ki 0))) (hn : n = l.length) (hk : 0 < l.length) : PStep P o S (.obj (f l[0])) :=
  P_indexF (k := 0) hf ho hx hy hn hk
theorem P_indexF_1 {α : Type} {f : α → List D} {m : Nat} {l : List α} {n bytes : Nat} {t e : TypeId} {ki : IntKind} [hT : TySlice P t e m bytes] (hf : ∀ a, (f a).length = m) (ho : o.op = .indexAddr t x y) (hx : S.ev x = some (.row n (l.flatMap f))) (hy : S.ev y = some (.val (.int ki 1))) (hn : n = l.length) (hk : 1 < l.length) : PStep P o S (.obj (f l[1])) :=
  P_indexF (k := 1) hf ho hx hy hn hk
theorem P_indexF' {α : Type} {f : α → List D} {m : Nat} {l : List α} {n bytes : Nat} {i : Int} {t e : TypeId} {ki : IntKind} [hT : TySlice P t e m bytes] (hf : ∀ a, (f a).length = m) (ho : o.op = .indexAddr t x y) (hx : S.ev x = some (.row n (l.flatMap f))) (hy : S.ev y = some (.val (.int ki i))) (hn : n = l.length) (h0 : 0 ≤ i) (hk : i.toNat < l.length) : PStep P o S (.obj (f l[i.toNat])) :=
  P_indexRow ho hx hy h0 (by omega) (elem_flat hf hk)
/-- a loop whose rounds are counted -/
theorem C_count {c : Code} (N : Nat) (Φ : Nat → Prop) (J : Nat → St) (h0 : Wk S (J 0)) (hΦ : Φ 0) (round : ∀ k, k ≤ N → Φ k → C P c (J k) (kLoop (fun S' => k < N ∧ Φ (k + 1) ∧ Wk S' (J (k + 1))) K)) : C P (.loop c) S K :=
  C_loop (σ := {k : Nat // k ≤ N ∧ Φ k}) (fun s => J s.1) (fun s => N - s.1) ⟨0, Nat.zero_le _, hΦ⟩ h0 fun ⟨k, hk, hp⟩ => C_mono (round k hk hp) fun e S' h => by
    refine ⟨?_⟩
    replace h := h.h
    cases e with
    | normal =>
      obtain ⟨h1, h2, h3⟩ := h
      exact ⟨⟨k + 1, h1, h2⟩, by simp only; omega, h3⟩
    | _ => exact h
theorem Ren.int {σ : Nat → Nat} {nb' : Nat} {k : IntKind} {a b : Int} (h : b = a) : Ren σ nb' (.val (.int k b)) (.val (.int k a)) := h ▸ Ren.im rfl
end
end Go.Proofs.Ytifapodobhkdcaa
