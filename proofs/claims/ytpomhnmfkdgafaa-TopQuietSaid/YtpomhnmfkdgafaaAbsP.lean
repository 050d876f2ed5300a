/- The abstract machine: the rule for a region that draws its order, with operations that write (no program in sight). -/
import Derived.Test.YtpomhnmfkdgafaaAbsTy
namespace Go.Proofs.Ytpomhnmfkdgafaa
set_option linter.unusedVariables false
set_option linter.unusedSimpArgs false
open Go.RowKit
theorem w64 {n : Int} (h1 : -9223372036854775808 ≤ n) (h2 : n ≤ 9223372036854775807) : IntKind.i64.wrap n = n := IntWalk.i64_in _ ⟨h1, h2⟩
theorem neg64 {n : Int} (h1 : -9223372036854775807 ≤ n) (h2 : n ≤ 9223372036854775807) : IntKind.i64.wrap (0 - n) = -n := by rw [show 0 - n = -n by omega]; exact w64 (by omega) (by omega)
theorem quo64 {a b : Int} (h1 : -9223372036854775807 ≤ a) (h2 : a ≤ 9223372036854775807) : IntKind.i64.wrap (a.tdiv b) = a.tdiv b := by
  have h := Int.natAbs_tdiv a b
  have h' : a.natAbs.div b.natAbs ≤ a.natAbs := Nat.div_le_self _ _
  rw [← h] at h'
  clear h
  generalize a.tdiv b = q at *
  exact w64 (by omega) (by omega)
class TySz (P : Program) (t : TypeId) (k : outParam Nat) : Prop where
  size : (P.info? t).map (·.size) = some k
instance {P : Program} {t : TypeId} [h : TyCell P t] : TySz P t 1 := ⟨h.size⟩
instance {P : Program} {t : TypeId} {k : Nat} [h : TyAgg P t k] : TySz P t k := ⟨h.size⟩
section
variable {P : Program} {S : St} {o : Oper} {x y z : Operand} {d : D}
theorem P_pickT (ho : o.op = .pick z x y) (hz : S.ev z = some (.val (.bool true))) (hx : S.ev x = some d) : PStep P o S d := P_pick (c := true) (e := .junk) ho hz (fun _ => hx) (fun h => by cases h)
theorem P_pickF (ho : o.op = .pick z x y) (hz : S.ev z = some (.val (.bool false))) (hy : S.ev y = some d) : PStep P o S d := P_pick (c := false) (d := .junk) ho hz (fun h => by cases h) (fun _ => hy)
theorem P_lssT {t yt : TypeId} {k : IntKind} {a b : Int} (ho : o.op = .binOp .lss t x y yt) (hx : S.ev x = some (.val (.int k a))) (hy : S.ev y = some (.val (.int k b))) (h : a < b) : PStep P o S (.val (.bool true)) := by
  have := P_lss (P := P) ho hx hy; rwa [decide_eq_true h] at this
theorem P_lssF {t yt : TypeId} {k : IntKind} {a b : Int} (ho : o.op = .binOp .lss t x y yt) (hx : S.ev x = some (.val (.int k a))) (hy : S.ev y = some (.val (.int k b))) (h : ¬ (a < b)) : PStep P o S (.val (.bool false)) := by
  have := P_lss (P := P) ho hx hy; rwa [decide_eq_false h] at this
theorem P_leqT {t yt : TypeId} {k : IntKind} {a b : Int} (ho : o.op = .binOp .leq t x y yt) (hx : S.ev x = some (.val (.int k a))) (hy : S.ev y = some (.val (.int k b))) (h : a ≤ b) : PStep P o S (.val (.bool true)) := by
  have := P_leq (P := P) ho hx hy; rwa [decide_eq_true h] at this
theorem P_leqF {t yt : TypeId} {k : IntKind} {a b : Int} (ho : o.op = .binOp .leq t x y yt) (hx : S.ev x = some (.val (.int k a))) (hy : S.ev y = some (.val (.int k b))) (h : ¬ (a ≤ b)) : PStep P o S (.val (.bool false)) := by
  have := P_leq (P := P) ho hx hy; rwa [decide_eq_false h] at this
theorem P_gtrT {t yt : TypeId} {k : IntKind} {a b : Int} (ho : o.op = .binOp .gtr t x y yt) (hx : S.ev x = some (.val (.int k a))) (hy : S.ev y = some (.val (.int k b))) (h : b < a) : PStep P o S (.val (.bool true)) := by
  have := P_gtr (P := P) ho hx hy; rwa [decide_eq_true h] at this
theorem P_gtrF {t yt : TypeId} {k : IntKind} {a b : Int} (ho : o.op = .binOp .gtr t x y yt) (hx : S.ev x = some (.val (.int k a))) (hy : S.ev y = some (.val (.int k b))) (h : ¬ (b < a)) : PStep P o S (.val (.bool false)) := by
  have := P_gtr (P := P) ho hx hy; rwa [decide_eq_false h] at this
theorem P_geqT {t yt : TypeId} {k : IntKind} {a b : Int} (ho : o.op = .binOp .geq t x y yt) (hx : S.ev x = some (.val (.int k a))) (hy : S.ev y = some (.val (.int k b))) (h : b ≤ a) : PStep P o S (.val (.bool true)) := by
  have := P_geq (P := P) ho hx hy; rwa [decide_eq_true h] at this
theorem P_geqF {t yt : TypeId} {k : IntKind} {a b : Int} (ho : o.op = .binOp .geq t x y yt) (hx : S.ev x = some (.val (.int k a))) (hy : S.ev y = some (.val (.int k b))) (h : ¬ (b ≤ a)) : PStep P o S (.val (.bool false)) := by
  have := P_geq (P := P) ho hx hy; rwa [decide_eq_false h] at this
theorem P_eqlT {t yt : TypeId} {k : IntKind} {a b : Int} (ho : o.op = .binOp .eql t x y yt) (hx : S.ev x = some (.val (.int k a))) (hy : S.ev y = some (.val (.int k b))) (h : a = b) : PStep P o S (.val (.bool true)) := by
  have := P_eql (P := P) ho hx hy; rwa [decide_eq_true h] at this
theorem P_eqlF {t yt : TypeId} {k : IntKind} {a b : Int} (ho : o.op = .binOp .eql t x y yt) (hx : S.ev x = some (.val (.int k a))) (hy : S.ev y = some (.val (.int k b))) (h : ¬ (a = b)) : PStep P o S (.val (.bool false)) := by
  have := P_eql (P := P) ho hx hy; rwa [decide_eq_false h] at this
theorem P_neqT {t yt : TypeId} {k : IntKind} {a b : Int} (ho : o.op = .binOp .neq t x y yt) (hx : S.ev x = some (.val (.int k a))) (hy : S.ev y = some (.val (.int k b))) (h : a ≠ b) : PStep P o S (.val (.bool true)) := by
  have := P_neq (P := P) ho hx hy; rwa [decide_eq_true h] at this
theorem P_neqF {t yt : TypeId} {k : IntKind} {a b : Int} (ho : o.op = .binOp .neq t x y yt) (hx : S.ev x = some (.val (.int k a))) (hy : S.ev y = some (.val (.int k b))) (h : ¬ (a ≠ b)) : PStep P o S (.val (.bool false)) := by
  have := P_neq (P := P) ho hx hy; rwa [decide_eq_false h] at this
theorem P_notT {t : TypeId} (ho : o.op = .unOp .not t x) (hx : S.ev x = some (.val (.bool false))) : PStep P o S (.val (.bool true)) := P_not ho hx
theorem P_notF {t : TypeId} (ho : o.op = .unOp .not t x) (hx : S.ev x = some (.val (.bool true))) : PStep P o S (.val (.bool false)) := P_not ho hx
theorem P_minL {k : IntKind} {a b : Int} {ts : Array TypeId} (ho : o.op = .call { callee := .builtin .min, args := #[x, y], argTypes := ts }) (hx : S.ev x = some (.val (.int k a))) (hy : S.ev y = some (.val (.int k b))) (h : a ≤ b) : PStep P o S (.val (.int k a)) := P_min ho hx hy (if_neg (by omega))
theorem P_minR {k : IntKind} {a b : Int} {ts : Array TypeId} (ho : o.op = .call { callee := .builtin .min, args := #[x, y], argTypes := ts }) (hx : S.ev x = some (.val (.int k a))) (hy : S.ev y = some (.val (.int k b))) (h : b ≤ a) : PStep P o S (.val (.int k b)) := P_min ho hx hy (by split <;> omega)
theorem P_maxL {k : IntKind} {a b : Int} {ts : Array TypeId} (ho : o.op = .call { callee := .builtin .max, args := #[x, y], argTypes := ts }) (hx : S.ev x = some (.val (.int k a))) (hy : S.ev y = some (.val (.int k b))) (h : b ≤ a) : PStep P o S (.val (.int k a)) := P_max ho hx hy (if_neg (by omega))
theorem P_maxR {k : IntKind} {a b : Int} {ts : Array TypeId} (ho : o.op = .call { callee := .builtin .max, args := #[x, y], argTypes := ts }) (hx : S.ev x = some (.val (.int k a))) (hy : S.ev y = some (.val (.int k b))) (h : a ≤ b) : PStep P o S (.val (.int k b)) := P_max ho hx hy (by split <;> omega)
end
abbrev iD (n : Int) : D := .val (.int .i64 n)
abbrev bD (b : Bool) : D := .val (.bool b)
abbrev intsD (l : List Int) : List D := l.map iD
abbrev rowI (l : List Int) : D := .row l.length (intsD l)
theorem DC.as {P : Program} {f : Nat} {ds : List D} {r r' : D} (h : DC P f ds r) (hr : r = r') : DC P f ds r' := hr ▸ h
theorem idsL_map {α : Type} {p : Nat → Bool} {f : α → D} (h : ∀ a, (f a).ids p = true) (l : List α) : D.idsL p (l.map f) = true :=
  idsL_of fun j d hj => by
    rw [List.getElem?_map] at hj
    cases hl : l[j]? with
    | none => rw [hl] at hj; cases hj
    | some a => rw [hl] at hj; cases hj; exact h a
theorem idsL_append {p : Nat → Bool} : ∀ {xs ys : List D}, D.idsL p xs = true → D.idsL p ys = true → D.idsL p (xs ++ ys) = true
  | [], _, _, h => h
  | x :: xs, ys, h, k => by
    simp only [D.idsL, Bool.and_eq_true, List.cons_append] at h ⊢
    exact ⟨h.1, idsL_append h.2 k⟩
theorem idsL_flat {α : Type} {p : Nat → Bool} {f : α → List D} (h : ∀ a, D.idsL p (f a) = true) : ∀ l : List α, D.idsL p (l.flatMap f) = true
  | [] => rfl
  | a :: l => by rw [List.flatMap_cons]; exact idsL_append (h a) (idsL_flat h l)
theorem elem_map {α : Type} {f : α → D} {l : List α} {k : Nat} (h : k < l.length) : ElemAt 1 (l.map f) k [f l[k]] :=
  ⟨rfl, fun j hj => by
    have : j = 0 := by omega
    subst this
    simp [h]⟩
theorem flat_get {α : Type} {f : α → List D} {m : Nat} (hf : ∀ a, (f a).length = m) : ∀ {l : List α} {k : Nat} (h : k < l.length) {j : Nat}, j < m → (l.flatMap f)[k * m + j]? = (f l[k])[j]?
  | a :: l, 0, h, j, hj => by
    rw [List.flatMap_cons, List.getElem?_append_left (by rw [hf]; omega)]; simp
  | a :: l, k + 1, h, j, hj => by
    rw [List.flatMap_cons, List.getElem?_append_right (by rw [hf, Nat.add_mul]; omega), hf, show (k + 1) * m + j - m = k * m + j by rw [Nat.add_mul]; omega]
    exact flat_get hf (by simpa using h) hj
theorem elem_flat {α : Type} {f : α → List D} {m : Nat} (hf : ∀ a, (f a).length = m) {l : List α} {k : Nat} (h : k < l.length) : ElemAt m (l.flatMap f) k (f l[k]) := ⟨hf _, fun j hj => flat_get hf h hj⟩
section
variable {P : Program} {S : St} {o : Oper} {x y z : Operand} {d : D} {K : Exit → St → Prop}
theorem P_index1 {α : Type} {f : α → D} {l : List α} {n k bytes : Nat} {t e : TypeId} {ki : IntKind} [hT : TySlice P t e 1 bytes] (ho : o.op = .indexAddr t x y) (hx : S.ev x = some (.row n (l.map f))) (hy : S.ev y = some (.val (.int ki ((k : Nat) : Int)))) (hn : n = l.length) (hk : k < l.length) : PStep P o S (.obj [f l[k]]) :=
  P_indexRow ho hx hy (by omega) (by omega) (by rw [Int.toNat_natCast]; exact elem_map hk)
theorem P_index1' {α : Type} {f : α → D} {l : List α} {n bytes : Nat} {i : Int} {t e : TypeId} {ki : IntKind} [hT : TySlice P t e 1 bytes] (ho : o.op = .indexAddr t x y) (hx : S.ev x = some (.row n (l.map f))) (hy : S.ev y = some (.val (.int ki i))) (hn : n = l.length) (h0 : 0 ≤ i) (hk : i.toNat < l.length) : PStep P o S (.obj [f l[i.toNat]]) :=
  P_indexRow ho hx hy h0 (by omega) (elem_map hk)
theorem P_index1_0 {α : Type} {f : α → D} {l : List α} {n bytes : Nat} {t e : TypeId} {ki : IntKind} [hT : TySlice P t e 1 bytes] (ho : o.op = .indexAddr t x y) (hx : S.ev x = some (.row n (l.map f))) (hy : S.ev y = some (.val (.int ki 0))) (hn : n = l.length) (hk : 0 < l.length) : PStep P o S (.obj [f l[0]]) :=
  P_index1 (k := 0) ho hx hy hn hk
theorem P_index1_1 {α : Type} {f : α → D} {l : List α} {n bytes : Nat} {t e : TypeId} {ki : IntKind} [hT : TySlice P t e 1 bytes] (ho : o.op = .indexAddr t x y) (hx : S.ev x = some (.row n (l.map f))) (hy : S.ev y = some (.val (.int ki 1))) (hn : n = l.length) (hk : 1 < l.length) : PStep P o S (.obj [f l[1]]) :=
  P_index1 (k := 1) ho hx hy hn hk
theorem P_indexF {α : Type} {f : α → List D} {m : Nat} {l : List α} {n k bytes : Nat} {t e : TypeId} {ki : IntKind} [hT : TySlice P t e m bytes] (hf : ∀ a, (f a).length = m) (ho : o.op = .indexAddr t x y) (hx : S.ev x = some (.row n (l.flatMap f))) (hy : S.ev y = some (.val (.int ki ((k : Nat) : Int)))) (hn : n = l.length) (hk : k < l.length) : PStep P o S (.obj (f l[k])) :=
  P_indexRow ho hx hy (by omega) (by omega) (by rw [Int.toNat_natCast]; exact elem_flat hf hk)
theorem P_indexF_0 {α : Type} {f : α → List D} {m : Nat} {l : List α} {n bytes : Nat} {t e : TypeId} {ki : IntKind} [hT : TySlice P t e m bytes] (hf : ∀ a, (f a).length = m) (ho : o.op = .indexAddr t x y) (hx : S.ev x = some (.row n (l.flatMap f))) (hy : S.ev y = some (.val (.int ki 0))) (hn : n = l.length) (hk : 0 < l.length) : PStep P o S (.obj (f l[0])) :=
  P_indexF (k := 0) hf ho hx hy hn hk
theorem P_indexF_1 {α : Type} {f : α → List D} {m : Nat} {l : List α} {n bytes : Nat} {t e : TypeId} {ki : IntKind} [hT : TySlice P t e m bytes] (hf : ∀ a, (f a).length = m) (ho : o.op = .indexAddr t x y) (hx : S.ev x = some (.row n (l.flatMap f))) (hy : S.ev y = some (.val (.int ki 1))) (hn : n = l.length) (hk : 1 < l.length) : PStep P o S (.obj (f l[1])) :=
  P_indexF (k := 1) hf ho hx hy hn hk
theorem P_indexF' {α : Type} {f : α → List D} {m : Nat} {l : List α} {n bytes : Nat} {i : Int} {t e : TypeId} {ki : IntKind} [hT : TySlice P t e m bytes] (hf : ∀ a, (f a).length = m) (ho : o.op = .indexAddr t x y) (hx : S.ev x = some (.row n (l.flatMap f))) (hy : S.ev y = some (.val (.int ki i))) (hn : n = l.length) (h0 : 0 ≤ i) (hk : i.toNat < l.length) : PStep P o S (.obj (f l[i.toNat])) :=
  P_indexRow ho hx hy h0 (by omega) (elem_flat hf hk)
/-- a loop whose rounds are counted -/
theorem C_count {c : Code} (N : Nat) (Φ : Nat → Prop) (J : Nat → St) (h0 : Wk S (J 0)) (hΦ : Φ 0) (round : ∀ k, k ≤ N → Φ k → C P c (J k) (kLoop (fun S' => k < N ∧ Φ (k + 1) ∧ Wk S' (J (k + 1))) K)) : C P (.loop c) S K :=
  C_loop (σ := {k : Nat // k ≤ N ∧ Φ k}) (fun s => J s.1) (fun s => N - s.1) ⟨0, Nat.zero_le _, hΦ⟩ h0 fun ⟨k, hk, hp⟩ => C_mono (round k hk hp) fun e S' h => by
    refine ⟨?_⟩
    replace h := h.h
    cases e with
    | normal =>
      obtain ⟨h1, h2, h3⟩ := h
      exact ⟨⟨k + 1, h1, h2⟩, by simp only; omega, h3⟩
    | _ => exact h
theorem Ren.int {σ : Nat → Nat} {nb' : Nat} {k : IntKind} {a b : Int} (h : b = a) : Ren σ nb' (.val (.int k b)) (.val (.int k a)) := h ▸ Ren.im rfl
end
end Go.Proofs.Ytpomhnmfkdgafaa
namespace Go.Proofs.Ytpomhnmfkdgafaa
open Go.RowKit
set_option linter.unusedVariables false
set_option linter.unusedSimpArgs false
section
variable {P : Program} {ops : Array Oper} {o : Oper} {rest : List Oper} {x y : Operand} {T' : TypeId} {w0 : World} {I0 : Bs} {ρ : Rho} {I : Nat → Prop} {a : Act} {w w' : World} {K : St → Prop}
variable {nb sz : Nat} {tmp : List (Nat × D)} {mem : List (Nat × Option M)} {t : Nat} {op : Op} {ty : TypeId} {pos : String} {af : Array Edge} {gd : Option (Nat × Bool)}
theorem fillD_length {place : Nat → Option (Nat × Nat)} : ∀ (ds : List (Nat × D)) (cs r : List D), fillD place ds cs = some r → r.length = cs.length := by
  intro ds
  induction ds with
  | nil => intro cs r h; cases h; rfl
  | cons x l ih =>
    intro cs r h
    obtain ⟨k, d⟩ := x
    unfold fillD at h
    cases hp : place k with
    | none => simp only [hp] at h; cases h
    | some q =>
      obtain ⟨q1, q2⟩ := q
      simp only [hp] at h
      cases hb : (cellD d && Nat.beq (flatD d).length q2 && Nat.ble (q1 + q2) cs.length) with
      | false => rw [hb] at h; cases h
      | true => rw [hb] at h; rw [ih _ _ h, putAt_length]
/-- a slice literal, as a row of the call's own -/
theorem T_lit {len size bytes : Nat} {e : TypeId} {kz : Nat} {zs : List Value} {zd : List D} {parts : Array (Nat × Operand)} {ds : List (Nat × D)} {r : List D} [hT : TySlice P T' e size bytes] [hz : TyZero P e kz zs zd] (hp : St.evParts ⟨nb, sz, tmp, mem⟩ parts.toList = some ds)
    (hf : fillD (fun i => some (i * size, size)) ds (List.replicate (len * size) .junk) = some r) (hg : St.guard ⟨nb, sz, tmp, mem⟩ ops ⟨some t, .buildSlice T' len parts, ty, pos, af, gd⟩ = some true) (ht : Nat.blt t sz = true) (hl : Nat.ble (len * size) 16777216 = true)
    (k : T P ops rest ⟨nb + 1, sz, (t, .own nb len) :: tmp, (nb, some ⟨e, size, len, r⟩) :: mem⟩ K) : T P ops (⟨some t, .buildSlice T' len parts, ty, pos, af, gd⟩ :: rest) ⟨nb, sz, tmp, mem⟩ K :=
  T_of_wp hg fun w0 I0 ρ I a w Q next g hk q => by
    obtain ⟨i, z, h1, h2, h3, h4, h5⟩ := hT.info
    obtain ⟨i2, z2, h6, h7, h8, h9⟩ := hz.info
    rw [h1] at h6
    obtain rfl : i = i2 := by simpa using h6
    rw [h2] at h7
    obtain rfl : z = z2 := by simpa using h7
    have hl := Nat.le_of_ble_eq_true hl
    have hpos := hT.pos
    subst h3
    let z0 : Array Value := if len * i.size = 0 then #[] else z.cells
    let cells0 : Array Value := (Array.range (len * i.size)).map fun j => z0[j % z0.size]!
    have hall : AllRA ρ nb I w (List.replicate (len * i.size) .junk) cells0.toList := by
      refine ⟨by simp [cells0], fun u hu => ?_, fun j d u h1 h2 => ?_⟩
      · simp only [cells0, Array.toList_map, List.mem_map] at hu
        obtain ⟨j, hj, rfl⟩ := hu
        have hj' : j < len * i.size := by simpa using hj
        have hne : ¬ len * i.size = 0 := by omega
        have hz0 : z0 = z.cells := if_neg hne
        have hsz : 0 < z0.size := by rw [hz0, h5]; exact hpos
        have hlt : j % z0.size < z0.size := Nat.mod_lt _ hsz
        rw [getElem!_pos z0 _ hlt]
        have hm : z0[j % z0.size] ∈ z.cells.toList := by rw [← hz0]; simp
        rw [h8] at hm
        exact List.all_eq_true.1 hz.one _ hm
      · rw [List.getElem?_replicate] at h1
        by_cases hj : j < len * i.size
        · rw [if_pos hj] at h1; cases h1; exact .im (.junk _)
        · rw [if_neg hj] at h1; cases h1
    obtain ⟨us', h10, h11⟩ := fill_sound g (place := fun k => some (k * i.size, i.size)) (us := cells0) hp hall hf
    have hr : (execOp a.eval ⟨some t, .buildSlice T' len parts, ty, pos, af, gd⟩).run P w = .ok (.value (.slice (some ⟨w.heap.size, 0, none⟩) len len)) (w.alloc (.cells us' e)) := by
      have hmap : (parts.map fun x => (x.1, a.eval x.2)).toList = parts.toList.map fun x => (x.1, a.eval x.2) := Array.toList_map ..
      have hsmall : ¬ 16777216 < len * i.size := by omega
      by_cases h0 : len * i.size = 0
      · have hz0 : z0 = #[] := if_pos h0
        have h10' : Instr.fill (fun k => some (k * i.size, i.size)) ((Array.range (len * i.size)).map fun j => (#[] : Array Value)[j % (#[] : Array Value).size]!) (parts.map fun x => (x.1, a.eval x.2)).toList = some us' := by rw [hmap, ← hz0]; exact h10
        simp only [execOp, Instr.buildSlice, Sem.run_bind, run_underlying hT.ty, Result.andThen_ok, run_sizeOf'' h1, if_pos h0, Sem.run_pure]
        rw [if_neg (by simpa using hsmall)]
        simp only [Sem.run_bind, Sem.run_pure, Result.andThen_ok, h10']
        rfl
      · have hz0 : z0 = z.cells := if_neg h0
        have h10' : Instr.fill (fun k => some (k * i.size, i.size)) ((Array.range (len * i.size)).map fun j => z.cells[j % z.cells.size]!) (parts.map fun x => (x.1, a.eval x.2)).toList = some us' := by rw [hmap, ← hz0]; exact h10
        simp only [execOp, Sem.run_bind, run_buildSlice w T' e len _ us' i z hT.ty h1 h2 (by simpa using hsmall) h0 h10', Result.andThen_ok, Sem.run_pure]
    have hlen : us'.size = len * i.size := by
      rw [← Array.length_toList, ← h11.1, fillD_length _ _ _ hf]; simp
    unfold Oper.wp; rw [hr]
    have hmx : len ≤ maxLen := by have : len ≤ len * i.size := Nat.le_mul_of_pos_right _ hpos; unfold maxLen; omega
    have g2 := g.fresh (cs := us') (e := e) (size := i.size) (n := len) hlen hmx h11
    exact hk _ _ (k.h w0 I0 _ I _ _ Q (g2.put (by simpa using ht) (G.fresh_own ρ nb I w _ len)) q)
theorem T_lit0 {size bytes : Nat} {e : TypeId} {kz : Nat} {zs : List Value} {zd : List D} {parts : Array (Nat × Operand)} [hT : TySlice P T' e size bytes] [hz : TyZero P e kz zs zd] (hp : St.evParts ⟨nb, sz, tmp, mem⟩ parts.toList = some [])
    (hg : St.guard ⟨nb, sz, tmp, mem⟩ ops ⟨some t, .buildSlice T' 0 parts, ty, pos, af, gd⟩ = some true) (ht : Nat.blt t sz = true)
    (k : T P ops rest ⟨nb + 1, sz, (t, .own nb 0) :: tmp, (nb, some ⟨e, size, 0, []⟩) :: mem⟩ K) : T P ops (⟨some t, .buildSlice T' 0 parts, ty, pos, af, gd⟩ :: rest) ⟨nb, sz, tmp, mem⟩ K :=
  T_lit hp (by rw [Nat.zero_mul]; rfl) hg ht (by rw [Nat.zero_mul]; rfl) k
theorem T_lit1 {len size bytes : Nat} {e : TypeId} {kz : Nat} {zs : List Value} {zd : List D} {parts : Array (Nat × Operand)} {ds : List (Nat × D)} {e1 : D} [hT : TySlice P T' e size bytes] [hz : TyZero P e kz zs zd] (hp : St.evParts ⟨nb, sz, tmp, mem⟩ parts.toList = some ds)
    (hf : fillD (fun i => some (i * size, size)) ds (List.replicate (len * size) .junk) = some [e1]) (hg : St.guard ⟨nb, sz, tmp, mem⟩ ops ⟨some t, .buildSlice T' len parts, ty, pos, af, gd⟩ = some true) (ht : Nat.blt t sz = true) (hl : Nat.ble (len * size) 16777216 = true)
    (k : T P ops rest ⟨nb + 1, sz, (t, .own nb len) :: tmp, (nb, some ⟨e, size, len, [e1]⟩) :: mem⟩ K) : T P ops (⟨some t, .buildSlice T' len parts, ty, pos, af, gd⟩ :: rest) ⟨nb, sz, tmp, mem⟩ K := T_lit hp hf hg ht hl k
/-! ### a row that is no more written to, wherever a slot holds it -/
def frz1 (b n : Nat) (xs : List D) : D → D
  | .own b' n' => cond (Nat.beq b' b) (.row n xs) (.own b' n')
  | .ptr b' off => cond (Nat.beq b' b) (.obj (xs.drop off)) (.ptr b' off)
  | d => d
def frz2 (b n : Nat) (xs : List D) : D → D
  | .agg l => .agg (l.map (frz1 b n xs))
  | d => frz1 b n xs d
def okD (b n : Nat) : D → Prop
  | .own b' n' => cond (Nat.beq b' b) (n' = n) True
  | _ => True
def okL (b n : Nat) : List D → Prop
  | [] => True
  | d :: l => okD b n d ∧ okL b n l
def okD2 (b n : Nat) : D → Prop
  | .agg l => okL b n l
  | d => okD b n d
/-- every slot that holds the row holds all of it -/
def okT (b n : Nat) : List (Nat × D) → Prop
  | [] => True
  | e :: l => okD2 b n e.2 ∧ okT b n l
theorem okL_get {b n : Nat} : ∀ {l : List D}, okL b n l → ∀ (j : Nat) (d : D), l[j]? = some d → okD b n d
  | [], _, j, d, h => by simp at h
  | x :: l, h, j, d, hj => by
    cases j with
    | zero => simp at hj; subst hj; exact h.1
    | succ j => exact okL_get h.2 j d (by simpa using hj)
theorem okT_look {b n t : Nat} : ∀ {l : List (Nat × D)}, okT b n l → ∀ {d : D}, look t l = some d → okD2 b n d
  | [], _, d, h => by cases h
  | e :: l, h, d, hd => by
    have h' : cond (Nat.beq e.1 t) (some e.2) (look t l) = some d := hd
    cases hb : Nat.beq e.1 t with
    | true => rw [hb] at h'; cases h'; exact h.1
    | false => rw [hb] at h'; exact okT_look h.2 h'
section
variable {b : Nat} {m : M} (h1 : ∀ v, RA ρ nb I w (.own b m.n) v → RA ρ nb I w (.row m.n m.xs) v) (h2 : ∀ off v, RA ρ nb I w (.ptr b off) v → RA ρ nb I w (.obj (m.xs.drop off)) v)
include h1 h2
theorem frz1_ok {d : D} {v : Value} (hd : okD b m.n d) (h : RA ρ nb I w d v) : RA ρ nb I w (frz1 b m.n m.xs d) v := by
  cases d with
  | own b' n =>
    simp only [frz1]
    simp only [okD] at hd
    cases hb : Nat.beq b' b with
    | false => exact h
    | true =>
      rw [hb] at hd
      have e1 := Nat.eq_of_beq_eq_true hb
      have e2 : n = m.n := hd
      subst e1; subst e2; exact h1 v h
  | ptr b' off =>
    simp only [frz1]
    cases hb : Nat.beq b' b with
    | false => exact h
    | true => have e1 := Nat.eq_of_beq_eq_true hb; subst e1; exact h2 off v h
  | _ => exact h
theorem frz2_ok {d : D} {v : Value} (hd : okD2 b m.n d) (h : RA ρ nb I w d v) : RA ρ nb I w (frz2 b m.n m.xs d) v := by
  cases d with
  | agg xs =>
    have hd' : okL b m.n xs := hd
    have key : ∀ us : List Value, (∀ (j : Nat) (d : D) (u : Value), xs[j]? = some d → us[j]? = some u → RA ρ nb I w d u) → ∀ (j : Nat) (d : D) (u : Value), (xs.map (frz1 b m.n m.xs))[j]? = some d → us[j]? = some u → RA ρ nb I w d u := by
      intro us hr j d u hd hu
      rw [List.getElem?_map] at hd
      cases hx : xs[j]? with
      | none => rw [hx] at hd; cases hd
      | some e => rw [hx] at hd; cases hd; exact frz1_ok h1 h2 (okL_get hd' j e hx) (hr j e u hx hu)
    cases h with
    | im h =>
      cases h with
      | agg hl ho hr => exact .agg (by simpa using hl) ho (key _ fun j d u a b => .im (hr j d u a b))
    | agg hl ho hr => exact .agg (by simpa using hl) ho (key _ hr)
  | _ => exact frz1_ok (d := _) h1 h2 (by exact hd) h
end
theorem Wk.freeze2 (b : Nat) {m : M} (hm : getM b mem = some m) (hc : D.idsL (fun _ => false) m.xs = true) (hk : okT b m.n tmp) : Wk ⟨nb, sz, tmp, mem⟩ ⟨nb, sz, tmp.map fun e => (e.1, frz2 b m.n m.xs e.2), (b, none) :: mem⟩ := fun w0 I0 ρ I a w g => by
  obtain ⟨I', g', hI, h1, h2⟩ := g.freeze hm hc
  refine ⟨ρ, I', ⟨g'.later, g'.lt, g'.base, g'.old, g'.defers, g'.sz, fun t d h => ?_, g'.mem, g'.inj⟩⟩
  obtain ⟨e, he, rfl⟩ := look_map h
  exact frz2_ok h1 h2 (okT_look hk he) (g'.tmp t e he)
/-- the row in slot t is no more written to -/
theorem T_frz (t : Nat) {b n n' size : Nat} {e : TypeId} {xs : List D} (h : look t tmp = some (.own b n)) (hm : getM b mem = some ⟨e, size, n', xs⟩) (hc : D.idsL (fun _ => false) xs = true) (hk : okT b n' tmp) (k : T P ops rest ⟨nb, sz, tmp.map fun e => (e.1, frz2 b n' xs e.2), (b, none) :: mem⟩ K) : T P ops rest ⟨nb, sz, tmp, mem⟩ K := T_wk (Wk.freeze2 b hm hc hk) k
/-- the row that a field of slot t holds -/
theorem T_frzA (t j : Nat) {b n n' size : Nat} {e : TypeId} {ys xs : List D} (h : look t tmp = some (.agg ys)) (hj : ys[j]? = some (.own b n)) (hm : getM b mem = some ⟨e, size, n', xs⟩) (hc : D.idsL (fun _ => false) xs = true) (hk : okT b n' tmp) (k : T P ops rest ⟨nb, sz, tmp.map fun e => (e.1, frz2 b n' xs e.2), (b, none) :: mem⟩ K) : T P ops rest ⟨nb, sz, tmp, mem⟩ K := T_wk (Wk.freeze2 b hm hc hk) k
end
end Go.Proofs.Ytpomhnmfkdgafaa
namespace Go.Proofs.Ytpomhnmfkdgafaa
open Go.RowKit
set_option linter.unusedVariables false
set_option linter.unusedSimpArgs false
section
variable {P : Program} {w0 : World} {I0 : Bs} {ρ : Rho} {I I' : Nat → Prop} {a : Act} {w w' : World}
variable {nb sz : Nat} {tmp : List (Nat × D)} {mem : List (Nat × Option M)} {t : Nat}
/-- a new row that has no number yet: a pointer to it, or a slice of it -/
structure Al where
  p : Bool
  m : M
def Al.val (A : Al) (g : Nat) : Value := cond A.p (.pointer (some ⟨g, 0, none⟩)) (.slice (some ⟨g, 0, none⟩) A.m.n A.m.n)
def Al.dat (A : Al) (b : Nat) : D := cond A.p (.ptr b 0) (.own b A.m.n)
/-- a new row of the call's own that has no number yet -/
structure Fresh (w0 : World) (ρ : Rho) (mem : List (Nat × Option M)) (I : Nat → Prop) (w : World) (A : Al) (v : Value) (g : Nat) : Prop where
  eq : v = A.val g
  own : ∃ us, w.ownsRow w0.heap.size A.m.ty A.m.size (sv (some (g, A.m.n)) A.m.n) A.m.n us ∧ us.map D.val = A.m.xs ∧ us.all (·.oneCell') = true
  not : ¬ I g
  lt : g < w.heap.size
  apart : ∀ b m', getM b mem = some m' → ∀ c, ρ b ≠ some (g, c)
theorem Fresh.ext {m : Al} {v : Value} {g : Nat} (h : Fresh w0 ρ mem I w m v g) (e : Ext I w I' w') : Fresh w0 ρ mem I' w' m v g := by
  obtain ⟨h1, ⟨us, ho, hx, hz⟩, hn, hl, ha⟩ := h
  refine ⟨h1, ⟨us, ho.kept (row := none) (e.later.grows none) (by cases (sv (some (g, m.m.n)) m.m.n).ownBlock <;> simp), hx, hz⟩, fun hI => ?_, Nat.lt_of_lt_of_le hl (Below.size e.later), ha⟩
  rcases e.new g hI with h | h
  · exact hn h
  · omega
theorem adopt_one {m : Al} {gb : Nat} (g : G w0 I0 ⟨nb, sz, tmp, mem⟩ ρ I a w) (f : Fresh w0 ρ mem I w m (a.tmps.getD t undef) gb) :
    G w0 I0 ⟨nb + 1, sz, (t, m.dat nb) :: tmp, (nb, some m.m) :: mem⟩ (upd ρ nb (some (gb, m.m.n))) I a w := by
  obtain ⟨h1, ⟨us, ho, hx, hz⟩, hn, hl, ha⟩ := f
  have g2 := g.renew m.m mem (some (gb, m.m.n)) none (us := us) (grown_refl w none) (fun k hk => by cases hk) (fun b m h => ⟨h, fun k c _ hh => by cases hh⟩)
    (fun b m' k c c' h hk hk' => by
      cases hk'
      exact ha b m' h c hk)
    (fun k c hk hI => by cases hk; exact hn hI) ho (by rw [← hx]; exact allRA_vals hz)
  refine g2.know ?_
  rw [h1]
  unfold Al.val Al.dat
  cases m.p with
  | true => exact .ptr (Nat.lt_succ_self _) (upd_same ρ nb _)
  | false =>
    have h := RA.own (ρ := upd ρ nb (some (gb, m.m.n))) (I := I) (w := w) (b := nb) (n := m.m.n) (nb := nb + 1) (Nat.lt_succ_self _) (fun hh => by rw [upd_same] at hh; cases hh)
    rw [upd_same] at h
    exact h
theorem Fresh.other {m : Al} {m' : M} {v : Value} {g g' c nb : Nat} (f : Fresh w0 ρ mem I w m v g) (hne : g ≠ g') (hm : ∀ b m, getM b mem = some m → b < nb) : Fresh w0 (upd ρ nb (some (g', c))) ((nb, some m') :: mem) I w m v g := by
  obtain ⟨h1, h2, hn, hl, ha⟩ := f
  refine ⟨h1, h2, hn, hl, fun b m1 h c' => ?_⟩
  have h' : cond (Nat.beq nb b) (some m') (getM b mem) = some m1 := h
  cases hb : Nat.beq nb b with
  | true =>
    have e := Nat.eq_of_beq_eq_true hb
    subst e
    rw [upd_same]
    intro h
    cases h
    exact hne rfl
  | false =>
    rw [hb] at h'
    rw [upd_other _ _ (hm b m1 h')]
    exact ha b m1 h' c'
/-- the rows get their numbers, the last one in the list first -/
def adoptT (nb : Nat) : List (Nat × Nat × Al) → List (Nat × D)
  | [] => []
  | x :: l => (x.2.1, x.2.2.dat (nb + l.length)) :: adoptT nb l
def adoptM (nb : Nat) : List (Nat × Nat × Al) → List (Nat × Option M)
  | [] => []
  | x :: l => (nb + l.length, some x.2.2.m) :: adoptM nb l
theorem adopt_all (g : G w0 I0 ⟨nb, sz, tmp, mem⟩ ρ I a w) : ∀ (al : List (Nat × Nat × Al)) (gs : Nat → Nat), (∀ x ∈ al, Fresh w0 ρ mem I w x.2.2 (a.tmps.getD x.2.1 undef) (gs x.1)) → (∀ x ∈ al, ∀ y ∈ al, gs x.1 = gs y.1 → x.1 = y.1) → (al.map (·.1)).Nodup →
    ∃ ρ', G w0 I0 ⟨nb + al.length, sz, adoptT nb al ++ tmp, adoptM nb al ++ mem⟩ ρ' I a w ∧ (∀ d v, RA ρ nb I w d v → RA ρ' (nb + al.length) I w d v) ∧
      ∀ (m : Al) (v : Value) (gb : Nat), Fresh w0 ρ mem I w m v gb → (∀ x ∈ al, gs x.1 ≠ gb) → Fresh w0 ρ' (adoptM nb al ++ mem) I w m v gb
  | [], gs, _, _, _ => ⟨ρ, g, fun d v h => h, fun m v gb h _ => h⟩
  | x :: l, gs, hf, hi, hn => by
    obtain ⟨hx, hn'⟩ := List.nodup_cons.1 hn
    obtain ⟨ρ', g', h1, h2⟩ := adopt_all g l gs (fun y hy => hf y (List.mem_cons_of_mem _ hy)) (fun y hy z hz => hi y (List.mem_cons_of_mem _ hy) z (List.mem_cons_of_mem _ hz)) hn'
    have hne : ∀ y ∈ l, gs y.1 ≠ gs x.1 := fun y hy e => hx (by
      show x.1 ∈ _
      rw [← hi y (List.mem_cons_of_mem _ hy) x List.mem_cons_self e]
      exact List.mem_map.2 ⟨y, hy, rfl⟩)
    have fx := h2 _ _ _ (hf x List.mem_cons_self) hne
    have g2 := adopt_one g' fx
    refine ⟨_, g2, fun d v h => ?_, fun m v gb h hall => ?_⟩
    · exact (h1 d v h).grow (Nat.le_succ _) fun b hb => upd_other _ _ hb
    · refine (h2 m v gb h fun y hy => hall y (List.mem_cons_of_mem _ hy)).other (fun e => hall x List.mem_cons_self e.symm) fun b m' hb => (g'.mem b m' hb).parts.1
end
end Go.Proofs.Ytpomhnmfkdgafaa
namespace Go.Proofs.Ytpomhnmfkdgafaa
open Go.RowKit
set_option linter.unusedVariables false
set_option linter.unusedSimpArgs false
/-- what the operations that have come know: the operation's index, its slots -/
abbrev Fs := List (Nat × List (Nat × D))
def depX (o : Oper) (base : List (Nat × D)) : Fs → List (Nat × D)
  | [] => base
  | x :: fs => cond (dependsB o x.1) (x.2 ++ depX o base fs) (depX o base fs)
def flatX : Fs → List (Nat × D) → List (Nat × D)
  | [], b => b
  | x :: fs, b => x.2 ++ flatX fs b
/-- an operation of the chain: its index, the next free number, the rows behind it, which it touched -/
structure Lk where
  q : Nat
  nb : Nat
  mem : List (Nat × Option M)
  tc : List Nat
def curNb (nb0 : Nat) : List Lk → Nat
  | [] => nb0
  | x :: _ => x.nb
def curMem (mem0 : List (Nat × Option M)) : List Lk → List (Nat × Option M)
  | [] => mem0
  | x :: _ => x.mem
def memR (R : List Nat) (mem : List (Nat × Option M)) : List (Nat × Option M) := R.map fun b => (b, getM b mem)
theorem getM_memR {R : List Nat} {mem : List (Nat × Option M)} {b : Nat} {m : M} : getM b (memR R mem) = some m → b ∈ R ∧ getM b mem = some m := by
  induction R with
  | nil => intro h; cases h
  | cons c R ih =>
    intro h
    have h' : cond (Nat.beq c b) (getM c mem) (getM b (memR R mem)) = some m := h
    cases hb : Nat.beq c b with
    | true =>
      rw [hb] at h'
      have := Nat.eq_of_beq_eq_true hb
      subst this
      exact ⟨List.mem_cons_self, h'⟩
    | false =>
      rw [hb] at h'
      obtain ⟨h1, h2⟩ := ih h'
      exact ⟨List.mem_cons_of_mem _ h1, h2⟩
structure Acc where
  fs : Fs
  al : List (Nat × Nat × Al)
  ch : List Lk
  nd : List (Nat × List Nat)
def pickT (nb0 : Nat) (al : List (Nat × Nat × Al)) : List Lk → List (Nat × D)
  | [] => adoptT nb0 al
  | _ :: _ => []
def pickN (nb0 : Nat) (al : List (Nat × Nat × Al)) : List Lk → Nat
  | [] => nb0 + al.length
  | x :: _ => x.nb
def pickM (nb0 : Nat) (mem0 : List (Nat × Option M)) (al : List (Nat × Nat × Al)) : List Lk → List (Nat × Option M)
  | [] => adoptM nb0 al ++ mem0
  | x :: _ => x.mem
/-- an operation that makes a new row -/
def MkOk (P : Program) (sz : Nat) (tmp : List (Nat × D)) (o : Oper) (A : Al) : Prop :=
  ∀ w0 I0 nb ρ I a w, G w0 I0 ⟨nb, sz, tmp, []⟩ ρ I a w → ∃ w', (execOp a.eval o).run P w = .ok (.value (A.val w.heap.size)) w' ∧ Ext I w I w' ∧ w.heap.size < w'.heap.size ∧
    ∃ us, w'.ownsRow w0.heap.size A.m.ty A.m.size (sv (some (w.heap.size, A.m.n)) A.m.n) A.m.n us ∧ us.map D.val = A.m.xs ∧ us.all (·.oneCell') = true
theorem MkOk.alloc {P : Program} {sz : Nat} {tmp : List (Nat × D)} {o : Oper} {T' : TypeId} {kz : Nat} {zs : List Value} {zd : List D} (hz : TyZero P T' kz zs zd) (hop : o.op = .alloc T') : MkOk P sz tmp o ⟨true, T', kz, 1, zd⟩ := fun w0 I0 nb ρ I a w g => by
  obtain ⟨ii, z, h1, h2, h3, h4⟩ := hz.info
  have hr : (execOp a.eval o).run P w = .ok (.value (.pointer (some ⟨w.heap.size, 0, none⟩))) (w.alloc (.cells z.cells T')) := by
    simp [execOp, hop, Instr.alloc, zeroValue, typeInfo, h1, h2, newVar, newRow, newObj]
    rfl
  exact ⟨_, hr, Ext.same ((Later.refl w).alloc _), by simp, z.cells.toList, World.ownsRow_lit (base := w0.heap.size) (e := T') (size := kz) w z.cells 1 (Below.size g.later) (by unfold maxLen; omega) (by rw [← Array.length_toList, h3, hz.len]; simp), by rw [h3]; exact hz.data, by rw [h3]; exact hz.one⟩
/-- one operation's premise -/
def OpOk (P : Program) (ops : Array Oper) (sz : Nat) (bs : Nat → List (Nat × D)) (nb0 : Nat) (mem0 : List (Nat × Option M)) (o : Oper) (i : Nat) (A B : Acc) : Prop :=
  (∃ t d R, B = ⟨(i, [(t, d)]) :: A.fs, A.al, A.ch, (i, R) :: A.nd⟩ ∧ o.dst = some t ∧ t < sz ∧
    ((∀ nb, St.guard ⟨nb, sz, depX o (bs i) A.fs, []⟩ ops o = some true ∧ PStep P o ⟨nb, sz, depX o (bs i) A.fs, memR R (curMem mem0 A.ch)⟩ d) ∨ ((∀ nb, St.guard ⟨nb, sz, depX o (bs i) A.fs, []⟩ ops o = some false) ∧ d = .tup []))) ∨
  (∃ t L, B = ⟨A.fs, (i, t, L) :: A.al, A.ch, A.nd⟩ ∧ o.dst = some t ∧ t < sz ∧ o.guard = none ∧ MkOk P sz (depX o (bs i) A.fs) o L ∧ A.ch = []) ∨
  (∃ tf nb' mem' tc, B = ⟨(i, tf ++ pickT nb0 A.al A.ch) :: A.fs, A.al, ⟨i, nb', mem', tc⟩ :: A.ch, A.nd⟩ ∧ (∀ x ∈ tf, o.dst = some x.1) ∧ (∀ b, b ∉ tc → getM b mem' = getM b (curMem mem0 A.ch)) ∧
    ∀ extra, T P ops [o] ⟨pickN nb0 A.al A.ch, sz, pickT nb0 A.al A.ch ++ (depX o (bs i) A.fs ++ extra), pickM nb0 mem0 A.al A.ch⟩ fun S' => S' = ⟨nb', sz, tf ++ (pickT nb0 A.al A.ch ++ (depX o (bs i) A.fs ++ extra)), mem'⟩)
def Walk0 (P : Program) (ops : Array Oper) (sz : Nat) (bs : Nat → List (Nat × D)) (nb0 : Nat) (mem0 : List (Nat × Option M)) : List Oper → Nat → Acc → (Acc → Prop) → Prop
  | [], _, A, K => K A
  | o :: l, i, A, K => ∃ B, OpOk P ops sz bs nb0 mem0 o i A B ∧ Walk0 P ops sz bs nb0 mem0 l (i + 1) B K
structure Walk (P : Program) (ops : Array Oper) (sz : Nat) (bs : Nat → List (Nat × D)) (nb0 : Nat) (mem0 : List (Nat × Option M)) (l : List Oper) (i : Nat) (A : Acc) (K : Acc → Prop) : Prop where
  h : Walk0 P ops sz bs nb0 mem0 l i A K
section
variable {P : Program} {ops : Array Oper} {nb0 sz i : Nat} {bs : Nat → List (Nat × D)} {mem0 : List (Nat × Option M)} {l : List Oper} {K : Acc → Prop} {t : Nat} {op : Op} {ty : TypeId} {pos : String} {af : Array Edge} {gd : Option (Nat × Bool)}
variable {fs : Fs} {al : List (Nat × Nat × Al)} {ch : List Lk} {nd : List (Nat × List Nat)}
theorem W_nil {A : Acc} (h : K A) : Walk P ops sz bs nb0 mem0 [] i A K := ⟨h⟩
theorem W_step {d : D} (R : List Nat) (h : ∀ nb, PStep P ⟨some t, op, ty, pos, af, gd⟩ ⟨nb, sz, depX ⟨some t, op, ty, pos, af, gd⟩ (bs i) fs, memR R (curMem mem0 ch)⟩ d) (hg : ∀ nb, St.guard ⟨nb, sz, depX ⟨some t, op, ty, pos, af, gd⟩ (bs i) fs, []⟩ ops ⟨some t, op, ty, pos, af, gd⟩ = some true) (ht : Nat.blt t sz = true)
    (k : Walk P ops sz bs nb0 mem0 l (i + 1) ⟨(i, [(t, d)]) :: fs, al, ch, (i, R) :: nd⟩ K) : Walk P ops sz bs nb0 mem0 (⟨some t, op, ty, pos, af, gd⟩ :: l) i ⟨fs, al, ch, nd⟩ K :=
  ⟨⟨_, .inl ⟨t, d, R, rfl, rfl, by simpa using ht, .inl fun nb => ⟨hg nb, h nb⟩⟩, k.h⟩⟩
theorem W_pass (hg : ∀ nb, St.guard ⟨nb, sz, depX ⟨some t, op, ty, pos, af, gd⟩ (bs i) fs, []⟩ ops ⟨some t, op, ty, pos, af, gd⟩ = some false) (ht : Nat.blt t sz = true)
    (k : Walk P ops sz bs nb0 mem0 l (i + 1) ⟨(i, [(t, .tup [])]) :: fs, al, ch, (i, []) :: nd⟩ K) : Walk P ops sz bs nb0 mem0 (⟨some t, op, ty, pos, af, gd⟩ :: l) i ⟨fs, al, ch, nd⟩ K :=
  ⟨⟨_, .inl ⟨t, .tup [], [], rfl, rfl, by simpa using ht, .inr ⟨hg, rfl⟩⟩, k.h⟩⟩
theorem W_alloc {T' : TypeId} {kz : Nat} {zs : List Value} {zd : List D} [hz : TyZero P T' kz zs zd] (ht : Nat.blt t sz = true)
    (k : Walk P ops sz bs nb0 mem0 l (i + 1) ⟨fs, (i, t, ⟨true, T', kz, 1, zd⟩) :: al, [], nd⟩ K) : Walk P ops sz bs nb0 mem0 (⟨some t, .alloc T', ty, pos, af, none⟩ :: l) i ⟨fs, al, [], nd⟩ K :=
  ⟨⟨_, .inr (.inl ⟨t, _, rfl, rfl, by simpa using ht, rfl, MkOk.alloc hz rfl, rfl⟩), k.h⟩⟩
/-- a new row: an operation that floats -/
theorem W_make {L : Al} (h : MkOk P sz (depX ⟨some t, op, ty, pos, af, none⟩ (bs i) fs) ⟨some t, op, ty, pos, af, none⟩ L) (ht : Nat.blt t sz = true)
    (k : Walk P ops sz bs nb0 mem0 l (i + 1) ⟨fs, (i, t, L) :: al, [], nd⟩ K) : Walk P ops sz bs nb0 mem0 (⟨some t, op, ty, pos, af, none⟩ :: l) i ⟨fs, al, [], nd⟩ K :=
  ⟨⟨_, .inr (.inl ⟨t, L, rfl, rfl, by simpa using ht, rfl, h, rfl⟩), k.h⟩⟩
theorem tc_ok {mem' mem : List (Nat × Option M)} (h : mem'.drop (mem'.length - mem.length) = mem) : ∀ b, b ∉ (mem'.take (mem'.length - mem.length)).map (·.1) → getM b mem' = getM b mem := by
  intro b hb
  have e : mem' = mem'.take (mem'.length - mem.length) ++ mem := by
    conv => lhs; rw [← List.take_append_drop (mem'.length - mem.length) mem', h]
  rw [e]
  generalize mem'.take (mem'.length - mem.length) = p at hb
  clear e h
  induction p with
  | nil => rfl
  | cons x p ih =>
    simp only [List.map_cons, List.mem_cons, not_or] at hb
    have hx : Nat.beq x.1 b = false := by
      cases h : Nat.beq x.1 b with
      | true => exact absurd (Nat.eq_of_beq_eq_true h).symm hb.1
      | false => rfl
    show cond (Nat.beq x.1 b) x.2 (getM b (p ++ mem)) = getM b mem
    rw [hx]
    exact ih hb.2
/-- an operation of the chain that fills a slot -/
theorem W_chainT {d : D} {nb' : Nat} {mem' : List (Nat × Option M)} (h : ∀ extra, T P ops [⟨some t, op, ty, pos, af, gd⟩] ⟨pickN nb0 al ch, sz, pickT nb0 al ch ++ (depX ⟨some t, op, ty, pos, af, gd⟩ (bs i) fs ++ extra), pickM nb0 mem0 al ch⟩ fun S' => S' = ⟨nb', sz, (t, d) :: (pickT nb0 al ch ++ (depX ⟨some t, op, ty, pos, af, gd⟩ (bs i) fs ++ extra)), mem'⟩)
    (hm : mem'.drop (mem'.length - (curMem mem0 ch).length) = curMem mem0 ch)
    (k : Walk P ops sz bs nb0 mem0 l (i + 1) ⟨(i, (t, d) :: pickT nb0 al ch) :: fs, al, ⟨i, nb', mem', (mem'.take (mem'.length - (curMem mem0 ch).length)).map (·.1)⟩ :: ch, nd⟩ K) : Walk P ops sz bs nb0 mem0 (⟨some t, op, ty, pos, af, gd⟩ :: l) i ⟨fs, al, ch, nd⟩ K :=
  ⟨⟨_, .inr (.inr ⟨[(t, d)], nb', mem', _, rfl, fun x hx => by simp at hx; subst hx; rfl, tc_ok hm, h⟩), k.h⟩⟩
/-- an operation of the chain that fills none -/
theorem W_chainN {nb' : Nat} {mem' : List (Nat × Option M)} (h : ∀ extra, T P ops [⟨none, op, ty, pos, af, gd⟩] ⟨pickN nb0 al ch, sz, pickT nb0 al ch ++ (depX ⟨none, op, ty, pos, af, gd⟩ (bs i) fs ++ extra), pickM nb0 mem0 al ch⟩ fun S' => S' = ⟨nb', sz, pickT nb0 al ch ++ (depX ⟨none, op, ty, pos, af, gd⟩ (bs i) fs ++ extra), mem'⟩)
    (hm : mem'.drop (mem'.length - (curMem mem0 ch).length) = curMem mem0 ch)
    (k : Walk P ops sz bs nb0 mem0 l (i + 1) ⟨(i, pickT nb0 al ch) :: fs, al, ⟨i, nb', mem', (mem'.take (mem'.length - (curMem mem0 ch).length)).map (·.1)⟩ :: ch, nd⟩ K) : Walk P ops sz bs nb0 mem0 (⟨none, op, ty, pos, af, gd⟩ :: l) i ⟨fs, al, ch, nd⟩ K :=
  ⟨⟨_, .inr (.inr ⟨[], nb', mem', _, rfl, fun x hx => by simp at hx, tc_ok hm, h⟩), k.h⟩⟩
end
end Go.Proofs.Ytpomhnmfkdgafaa
namespace Go.Proofs.Ytpomhnmfkdgafaa
open Go.RowKit
set_option linter.unusedVariables false
set_option linter.unusedSimpArgs false
def clean (l : List Oper) (tmp : List (Nat × D)) : List (Nat × D) := tmp.filter fun e => !(l.any fun o => match o.dst with
  | some t => Nat.beq t e.1
  | none => false)
def dep (l : List Oper) (i j : Nat) : Bool := match l[i]? with
  | some o => dependsB o j
  | none => false
def chainOk (l : List Oper) (al : List (Nat × Nat × Al)) : List Lk → Bool
  | [] => al.isEmpty
  | [x] => al.all fun y => dep l x.q y.1
  | x :: y :: C => dep l x.q y.q && chainOk l al (y :: C)
/-- operation j writes slot s -/
def wrs (l : List Oper) (j s : Nat) : Bool := match l[j]? with
  | some o => match o.dst with
    | some t => Nat.beq t s
    | none => false
  | none => false
structure Chk (l : List Oper) (ow base : List (Nat × D)) (Z : Acc) : Prop where
  slots : nodupB ((flatX Z.fs []).map (·.1)) = true
  free : (flatX Z.fs []).all (fun e => (look e.1 base).isNone) = true
  chain : chainOk l Z.al Z.ch = true
  apart : Z.nd.all (fun n => Z.ch.all fun x => !Nat.beq n.1 x.q && (dep l n.1 x.q || dep l x.q n.1 || n.2.all fun b => !x.tc.any (Nat.beq b))) = true
  fwd : fwdB l l.length = true
  alidx : Z.al.all (fun x => Z.nd.all (fun n => !Nat.beq n.1 x.1) && Z.ch.all (fun c => !Nat.beq c.q x.1) && Z.fs.all (fun y => !Nat.beq y.1 x.1)) = true
  alslot : Z.al.all (fun x => Z.fs.all fun y => y.2.all (fun e => !Nat.beq e.1 x.2.1) || Z.ch.any fun c => Nat.beq c.q y.1) = true
  nal : nodupB (Z.al.map (·.1)) = true
  nals : nodupB (Z.al.map (·.2.1)) = true
  nfs : nodupB (Z.fs.map (·.1)) = true
  nch : nodupB (Z.ch.map (·.q)) = true
  inb : (Z.ch.all (fun x => Nat.blt x.q l.length) && Z.fs.all (fun x => Nat.blt x.1 l.length)) = true
  alow : Z.al.all (fun x => (look x.2.1 ow).isNone) = true
  wrf : Z.fs.all (fun x => x.2.all fun e => wrs l x.1 e.1 || Z.al.any fun y => Nat.beq y.2.1 e.1) = true
  alfree : Z.al.all (fun x => (look x.2.1 base).isNone) = true
/-- Z came of A by operations from the i-th on -/
structure Le (i : Nat) (A Z : Acc) : Prop where
  fs : ∃ E, Z.fs = E ++ A.fs
  al : ∃ E, Z.al = E ++ A.al ∧ (A.ch ≠ [] → E = [])
  ch : ∃ E : List Lk, Z.ch = E ++ A.ch ∧ ∀ x ∈ E, i ≤ x.q
  nd : ∃ E, Z.nd = E ++ A.nd
section
variable {P : Program} {ops : Array Oper} {nb0 sz i : Nat} {bs : Nat → List (Nat × D)} {mem0 : List (Nat × Option M)} {l : List Oper} {K : Acc → Prop}
theorem Le.refl (i : Nat) (A : Acc) : Le i A A := ⟨⟨[], rfl⟩, ⟨[], rfl, fun _ => rfl⟩, ⟨[], rfl, fun x hx => by simp at hx⟩, ⟨[], rfl⟩⟩
theorem Le.step {o : Oper} {A B Z : Acc} (h : OpOk P ops sz bs nb0 mem0 o i A B) (k : Le (i + 1) B Z) : Le i A Z := by
  obtain ⟨⟨E1, e1⟩, ⟨E2, e2, e2'⟩, ⟨E3, e3, e3'⟩, ⟨E4, e4⟩⟩ := k
  rcases h with ⟨t, d, R, rfl, _⟩ | ⟨t, L, rfl, _, _, _, _, hch⟩ | ⟨tf, nb', mem', tc, rfl, _⟩
  · exact ⟨⟨E1 ++ [_], by rw [e1]; simp; rfl⟩, ⟨E2, e2, e2'⟩, ⟨E3, e3, fun x hx => by have := e3' x hx; omega⟩, ⟨E4 ++ [_], by rw [e4]; simp; rfl⟩⟩
  · exact ⟨⟨E1, e1⟩, ⟨E2 ++ [_], by rw [e2]; simp; rfl, fun h => absurd hch h⟩, ⟨E3, e3, fun x hx => by have := e3' x hx; omega⟩, ⟨E4, e4⟩⟩
  · have h2 : E2 = [] := e2' (by simp)
    subst h2
    exact ⟨⟨E1 ++ [_], by rw [e1]; simp; rfl⟩, ⟨[], e2, fun _ => rfl⟩, ⟨E3 ++ [⟨i, nb', mem', tc⟩], by rw [e3]; simp, fun x hx => by
      rcases List.mem_append.1 hx with h | h
      · have := e3' x h; omega
      · simp at h; subst h; exact Nat.le_refl _⟩, ⟨E4, e4⟩⟩
/-- the chain's indexes lie below i -/
def Bd (i : Nat) (A : Acc) : Prop := ∀ x ∈ A.ch, x.q < i
theorem Bd.step {o : Oper} {A B : Acc} (h : OpOk P ops sz bs nb0 mem0 o i A B) (k : Bd i A) : Bd (i + 1) B := by
  rcases h with ⟨t, d, R, rfl, _⟩ | ⟨t, L, rfl, _⟩ | ⟨tf, nb', mem', tc, rfl, _⟩
  · exact fun x hx => Nat.lt_succ_of_lt (k x hx)
  · exact fun x hx => Nat.lt_succ_of_lt (k x hx)
  · intro x hx
    rcases List.mem_cons.1 hx with rfl | hx
    · exact Nat.lt_succ_self _
    · exact Nat.lt_succ_of_lt (k x hx)
/-- each link says what it touched -/
def ChOk (mem0 : List (Nat × Option M)) : List Lk → Prop
  | [] => True
  | x :: C => (∀ b, b ∉ x.tc → getM b x.mem = getM b (curMem mem0 C)) ∧ ChOk mem0 C
theorem ChOk.step {o : Oper} {A B : Acc} (h : OpOk P ops sz bs nb0 mem0 o i A B) (k : ChOk mem0 A.ch) : ChOk mem0 B.ch := by
  rcases h with ⟨t, d, R, rfl, _⟩ | ⟨t, L, rfl, _⟩ | ⟨tf, nb', mem', tc, rfl, _, h2, _⟩
  · exact k
  · exact k
  · exact ⟨h2, k⟩
theorem ChOk.same : ∀ {E C : List Lk}, ChOk mem0 (E ++ C) → ∀ b, (∀ x ∈ E, b ∉ x.tc) → getM b (curMem mem0 (E ++ C)) = getM b (curMem mem0 C)
  | [], C, _, b, _ => rfl
  | x :: E, C, h, b, hb => by
    have h1 := h.1 b (hb x List.mem_cons_self)
    show getM b x.mem = _
    rw [h1]
    exact ChOk.same h.2 b fun y hy => hb y (List.mem_cons_of_mem _ hy)
theorem Walk0.all : ∀ {l : List Oper} {i : Nat} {A : Acc}, Walk0 P ops sz bs nb0 mem0 l i A K → Bd i A → ChOk mem0 A.ch → ∃ Z, K Z ∧ Le i A Z ∧ ChOk mem0 Z.ch ∧
    (∀ k o, l[k]? = some o → ∃ A' B', OpOk P ops sz bs nb0 mem0 o (i + k) A' B' ∧ Le (i + k) A' Z ∧ Le (i + k + 1) B' Z ∧ Bd (i + k) A') ∧
    (∀ x ∈ Z.fs, x ∈ A.fs ∨ ∃ k o A' B', l[k]? = some o ∧ x.1 = i + k ∧ OpOk P ops sz bs nb0 mem0 o (i + k) A' B' ∧ Le (i + k) A' Z ∧ Le (i + k + 1) B' Z ∧ Bd (i + k) A' ∧ x ∈ B'.fs)
  | [], i, A, h, hb, hc => ⟨A, h, Le.refl i A, hc, fun k o hk => by simp at hk, fun x hx => .inl hx⟩
  | o :: l, i, A, ⟨B, h1, h2⟩, hb, hc => by
    obtain ⟨Z, z1, z2, z3, z4, z5⟩ := Walk0.all h2 (hb.step h1) (hc.step h1)
    refine ⟨Z, z1, z2.step h1, z3, fun k o' hk => ?_, fun x hx => ?_⟩
    · cases k with
      | zero =>
        simp only [List.getElem?_cons_zero, Option.some.injEq] at hk
        subst hk
        exact ⟨A, B, h1, z2.step h1, z2, hb⟩
      | succ k =>
        obtain ⟨A', B', h3, h4, h5, h6⟩ := z4 k o' (by simpa using hk)
        rw [show i + 1 + k = i + (k + 1) by omega] at h3 h4 h5 h6
        exact ⟨A', B', h3, h4, h5, h6⟩
    · rcases z5 x hx with h | ⟨k, o', A', B', h3, h4, h5, h6, h7, h8, h9⟩
      · by_cases hxA : x ∈ A.fs
        · exact .inl hxA
        · refine .inr ⟨0, o, A, B, rfl, ?_, h1, z2.step h1, z2, hb, h⟩
          rcases h1 with ⟨t, d, R, rfl, _⟩ | ⟨t, L, rfl, _⟩ | ⟨tf, nb', mem', tc, rfl, _⟩
          · rcases List.mem_cons.1 h with rfl | h
            · rfl
            · exact absurd h hxA
          · exact absurd h hxA
          · rcases List.mem_cons.1 h with rfl | h
            · rfl
            · exact absurd h hxA
      · rw [show i + 1 + k = i + (k + 1) by omega] at h4 h5 h6 h7 h8
        exact .inr ⟨k + 1, o', A', B', by simpa using h3, h4, h5, h6, h7, h8, h9⟩
end
end Go.Proofs.Ytpomhnmfkdgafaa
namespace Go.Proofs.Ytpomhnmfkdgafaa
open Go.RowKit
set_option linter.unusedVariables false
set_option linter.unusedSimpArgs false
theorem flat_mem : ∀ {fs : Fs} {b : List (Nat × D)} {x : Nat × List (Nat × D)} {e : Nat × D}, x ∈ fs → e ∈ x.2 → e ∈ flatX fs b
  | y :: fs, b, x, e, hx, he => by
    unfold flatX
    rcases List.mem_cons.1 hx with rfl | hx
    · exact List.mem_append_left _ he
    · exact List.mem_append_right _ (flat_mem hx he)
theorem nodupB_nodup : ∀ {l : List Nat}, nodupB l = true → l.Nodup
  | [], _ => List.nodup_nil
  | x :: l, h => by
    simp only [nodupB, Bool.and_eq_true, List.all_eq_true, Bool.not_eq_true'] at h
    refine List.nodup_cons.2 ⟨fun hx => ?_, nodupB_nodup h.2⟩
    have := h.1 x hx
    simp at this
theorem flat_split : ∀ (fs : Fs) (b : List (Nat × D)), flatX fs b = flatX fs [] ++ b
  | [], b => rfl
  | x :: fs, b => by show x.2 ++ flatX fs b = (x.2 ++ flatX fs []) ++ b; rw [flat_split fs b, List.append_assoc]
theorem nodup_eq {l : List (Nat × D)} (h : (l.map (·.1)).Nodup) : ∀ e ∈ l, ∀ e' ∈ l, e.1 = e'.1 → e = e' := by
  induction l with
  | nil => intro e he; simp at he
  | cons x l ih =>
    obtain ⟨h1, h2⟩ := List.nodup_cons.1 h
    intro e he e' he' hee
    rcases List.mem_cons.1 he with h5 | h5 <;> rcases List.mem_cons.1 he' with h6 | h6
    · rw [h5, h6]
    · exact absurd (List.mem_map.2 ⟨e', h6, by rw [← hee, h5]⟩) h1
    · exact absurd (List.mem_map.2 ⟨e, h5, by rw [hee, h6]⟩) h1
    · exact ih h2 e h5 e' h6 hee
/-- entries that share a slot are of one operation -/
theorem flat_same : ∀ {fs : Fs}, ((flatX fs []).map (·.1)).Nodup → ∀ x ∈ fs, ∀ y ∈ fs, ∀ e ∈ x.2, ∀ e' ∈ y.2, e.1 = e'.1 → x = y ∧ e = e'
  | z :: fs, h, x, hx, y, hy, e, he, e', he', hee => by
    have hz : ((z.2 ++ flatX fs []).map (·.1)).Nodup := h
    rw [List.map_append] at hz
    obtain ⟨h1, h2, h3⟩ := List.nodup_append.1 hz
    rcases List.mem_cons.1 hx with h5 | h5 <;> rcases List.mem_cons.1 hy with h6 | h6
    · rw [h5] at he ⊢
      rw [h6] at he' ⊢
      exact ⟨rfl, nodup_eq h1 e he e' he' hee⟩
    · rw [h5] at he
      exact absurd hee (h3 _ (List.mem_map.2 ⟨e, he, rfl⟩) _ (List.mem_map.2 ⟨e', flat_mem h6 he', rfl⟩))
    · rw [h6] at he'
      exact absurd hee.symm (h3 _ (List.mem_map.2 ⟨e', he', rfl⟩) _ (List.mem_map.2 ⟨e, flat_mem h5 he, rfl⟩))
    · exact flat_same h2 x h5 y h6 e he e' he' hee
theorem look_mem : ∀ {l : List (Nat × D)} {t : Nat} {d : D}, look t l = some d → (t, d) ∈ l
  | e :: l, t, d, h => by
    have h' : cond (Nat.beq e.1 t) (some e.2) (look t l) = some d := h
    cases hb : Nat.beq e.1 t with
    | true =>
      rw [hb] at h'
      cases h'
      have := Nat.eq_of_beq_eq_true hb
      subst this
      exact List.mem_cons_self
    | false => rw [hb] at h'; exact List.mem_cons_of_mem _ (look_mem h')
theorem look_some : ∀ {l : List (Nat × D)} {t : Nat} {d : D}, (t, d) ∈ l → ∃ d', look t l = some d'
  | e :: l, t, d, h => by
    show ∃ d', cond (Nat.beq e.1 t) (some e.2) (look t l) = some d'
    cases hb : Nat.beq e.1 t with
    | true => exact ⟨_, rfl⟩
    | false =>
      rcases List.mem_cons.1 h with rfl | h
      · simp at hb
      · exact look_some h
theorem depX_mem {o : Oper} {base : List (Nat × D)} {e : Nat × D} : ∀ {fs : Fs}, e ∈ depX o base fs → (∃ x ∈ fs, dependsB o x.1 = true ∧ e ∈ x.2) ∨ e ∈ base
  | [], h => .inr h
  | x :: fs, h => by
    unfold depX at h
    cases hx : dependsB o x.1 with
    | false =>
      rw [hx] at h
      rcases depX_mem (fs := fs) h with ⟨y, h1, h2, h3⟩ | h
      · exact .inl ⟨y, List.mem_cons_of_mem _ h1, h2, h3⟩
      · exact .inr h
    | true =>
      rw [hx] at h
      rcases List.mem_append.1 (show e ∈ x.2 ++ depX o base fs from h) with h | h
      · exact .inl ⟨x, List.mem_cons_self, hx, h⟩
      · rcases depX_mem (fs := fs) h with ⟨y, h1, h2, h3⟩ | h
        · exact .inl ⟨y, List.mem_cons_of_mem _ h1, h2, h3⟩
        · exact .inr h
theorem look_dX {o : Oper} {base : List (Nat × D)} {t : Nat} {d : D} : ∀ {fs : Fs}, look t (depX o base fs) = some d → (∃ x ∈ fs, dependsB o x.1 = true ∧ (t, d) ∈ x.2) ∨ look t base = some d
  | [], h => .inr h
  | x :: fs, h => by
    unfold depX at h
    have app : ∀ (p q : List (Nat × D)), look t (p ++ q) = some d → (t, d) ∈ p ∨ look t q = some d := by
      intro p
      induction p with
      | nil => intro q h; exact .inr h
      | cons e p ih =>
        intro q h
        have h' : cond (Nat.beq e.1 t) (some e.2) (look t (p ++ q)) = some d := h
        cases hb : Nat.beq e.1 t with
        | true =>
          rw [hb] at h'
          cases h'
          have := Nat.eq_of_beq_eq_true hb
          subst this
          exact .inl List.mem_cons_self
        | false =>
          rw [hb] at h'
          exact (ih q h').elim (fun h => .inl (List.mem_cons_of_mem _ h)) .inr
    cases hx : dependsB o x.1 with
    | false =>
      rw [hx] at h
      rcases look_dX (fs := fs) h with ⟨y, h1, h2, h3⟩ | h
      · exact .inl ⟨y, List.mem_cons_of_mem _ h1, h2, h3⟩
      · exact .inr h
    | true =>
      rw [hx] at h
      rcases app _ _ (show look t (x.2 ++ depX o base fs) = some d from h) with h | h
      · exact .inl ⟨x, List.mem_cons_self, hx, h⟩
      · rcases look_dX (fs := fs) h with ⟨y, h1, h2, h3⟩ | h
        · exact .inl ⟨y, List.mem_cons_of_mem _ h1, h2, h3⟩
        · exact .inr h
/-- what T shows of one operation, as the order's next one -/
theorem wpOp_of_T {P : Program} {l : List Oper} {i : Nat} {o : Oper} {a : Act} {w : World} {next : Act → World → Prop} {Q : Exit → Act → World → Prop} (ho : l.toArray[i]? = some o)
    (h : ∀ Q' : Exit → Act → World → Prop, (∀ a' w', next a' w' → Q' .normal a' w') → wpList P l.toArray Q' [o] a w) : wpOp P l.toArray Q i next a w := by
  have h1 := h (fun e a w => match e with
    | .normal => next a w
    | e => Q e a w) fun a' w' hn => hn
  unfold wpOp
  rw [ho]
  simp only
  unfold wpList at h1
  split
  · rename_i hw
    rw [if_pos hw] at h1
    rcases h1 with h1 | ⟨h1, h2⟩
    · refine .inl ?_
      unfold Oper.wp at h1 ⊢
      generalize (execOp a.eval o).run P w = r at *
      cases r with
      | ok n w' =>
        cases n <;> simp only [Oper.upon] at h1 ⊢ <;>
          first
            | exact h1
            | exact Calls.mono h1 (fun e w'' he => by cases e <;> exact he)
            | exact Rows.mono h1 (fun _ _ he => he)
      | halt x w' => cases x <;> simp only [Oper.upon] at h1 ⊢ <;> exact h1
    · exact .inr ⟨h1, h2⟩
  · rename_i hw
    rw [if_neg hw] at h1
    exact h1
end Go.Proofs.Ytpomhnmfkdgafaa
namespace Go.Proofs.Ytpomhnmfkdgafaa
open Go.RowKit
set_option linter.unusedVariables false
set_option linter.unusedSimpArgs false
theorem put_other {a : Act} {t s : Nat} {v : Value} (h : s ≠ t) : (a.put (some t) v).tmps.getD s undef = a.tmps.getD s undef := by
  simp only [Act.put]
  exact getD_set_other _ _ _ _ _ h
theorem put_same {a : Act} {t : Nat} {v : Value} (h : t < a.tmps.size) : (a.put (some t) v).tmps.getD t undef = v := by
  simp only [Act.put]
  exact getD_set_same _ _ _ _ h
theorem listed_set {listed : Array Bool} {i j : Nat} (hs : i < listed.size) : (listed.setIfInBounds i true).getD j false = true ↔ j = i ∨ listed.getD j false = true := by
  by_cases h : i = j
  · subst h; simp [hs]
  · rw [getD_set_ne false h]
    exact ⟨.inr, fun h' => h'.elim (fun e => absurd e.symm h) id⟩
theorem look_skip {t : Nat} {p q : List (Nat × D)} (h : ∀ e ∈ p, e.1 ≠ t) : look t (p ++ q) = look t q := by
  induction p with
  | nil => rfl
  | cons e p ih =>
    have h1 : Nat.beq e.1 t = false := by
      cases hb : Nat.beq e.1 t with
      | true => exact absurd (Nat.eq_of_beq_eq_true hb) (h e List.mem_cons_self)
      | false => rfl
    show cond (Nat.beq e.1 t) (some e.2) (look t (p ++ q)) = look t q
    rw [h1]
    exact ih fun e he => h e (List.mem_cons_of_mem _ he)
theorem look_here {t : Nat} {d : D} {p q : List (Nat × D)} (h : look t p = some d) : look t (p ++ q) = some d := by
  induction p with
  | nil => cases h
  | cons e p ih =>
    have h' : cond (Nat.beq e.1 t) (some e.2) (look t p) = some d := h
    show cond (Nat.beq e.1 t) (some e.2) (look t (p ++ q)) = some d
    cases hb : Nat.beq e.1 t with
    | true => rw [hb] at h'; exact h'
    | false => rw [hb] at h'; exact ih h'
theorem look_or {t : Nat} {d : D} : ∀ {p q : List (Nat × D)}, look t (p ++ q) = some d → look t p = some d ∨ (look t p = none ∧ look t q = some d)
  | [], q, h => .inr ⟨rfl, h⟩
  | e :: p, q, h => by
    have h' : cond (Nat.beq e.1 t) (some e.2) (look t (p ++ q)) = some d := h
    cases hb : Nat.beq e.1 t with
    | true => rw [hb] at h'; exact .inl (by show cond (Nat.beq e.1 t) _ _ = _; rw [hb]; exact h')
    | false =>
      rw [hb] at h'
      rcases look_or (p := p) h' with h | ⟨h0, h⟩
      · exact .inl (by show cond (Nat.beq e.1 t) _ _ = _; rw [hb]; exact h)
      · exact .inr ⟨by show cond (Nat.beq e.1 t) _ _ = _; rw [hb]; exact h0, h⟩
theorem depX_app {o : Oper} {base : List (Nat × D)} : ∀ fs : Fs, ∃ p, depX o base fs = p ++ base ∧ ∀ e ∈ p, ∃ x ∈ fs, dependsB o x.1 = true ∧ e ∈ x.2
  | [] => ⟨[], rfl, fun e he => by simp at he⟩
  | x :: fs => by
    obtain ⟨p, h1, h2⟩ := depX_app (o := o) (base := base) fs
    unfold depX
    cases hx : dependsB o x.1 with
    | true =>
      refine ⟨x.2 ++ p, by show x.2 ++ depX o base fs = _; rw [h1, List.append_assoc], fun e he => ?_⟩
      rcases List.mem_append.1 he with h | h
      · exact ⟨x, List.mem_cons_self, hx, h⟩
      · obtain ⟨y, hy, hy2⟩ := h2 e h; exact ⟨y, List.mem_cons_of_mem _ hy, hy2⟩
    | false =>
      refine ⟨p, h1, fun e he => ?_⟩
      obtain ⟨y, hy, hy2⟩ := h2 e he
      exact ⟨y, List.mem_cons_of_mem _ hy, hy2⟩
theorem flat_inv : ∀ {fs : Fs} {b : List (Nat × D)} {e : Nat × D}, e ∈ flatX fs b → (∃ x ∈ fs, e ∈ x.2) ∨ e ∈ b
  | [], b, e, h => .inr h
  | x :: fs, b, e, h => by
    rcases List.mem_append.1 (show e ∈ x.2 ++ flatX fs b from h) with h | h
    · exact .inl ⟨x, List.mem_cons_self, h⟩
    · rcases flat_inv h with ⟨y, hy, h⟩ | h
      · exact .inl ⟨y, List.mem_cons_of_mem _ hy, h⟩
      · exact .inr h
theorem nodup_map_eq {α : Type} {f : α → Nat} : ∀ {l : List α}, (l.map f).Nodup → ∀ x ∈ l, ∀ y ∈ l, f x = f y → x = y
  | [], _, x, hx, _, _, _ => by simp at hx
  | z :: l, h, x, hx, y, hy, hxy => by
    obtain ⟨h1, h2⟩ := List.nodup_cons.1 h
    rcases List.mem_cons.1 hx with h5 | h5 <;> rcases List.mem_cons.1 hy with h6 | h6
    · rw [h5, h6]
    · exact absurd (List.mem_map.2 ⟨y, h6, by rw [← hxy, h5]⟩) h1
    · exact absurd (List.mem_map.2 ⟨x, h5, by rw [hxy, h6]⟩) h1
    · exact nodup_map_eq h2 x h5 y h6 hxy
theorem dep_edge {l : List Oper} {i j : Nat} (h : dep l i j = true) : ∃ o, l[i]? = some o ∧ ∃ e ∈ o.after, Region.binds .any e = true ∧ e.on = j := by
  unfold dep at h
  cases ho : l[i]? with
  | none => rw [ho] at h; cases h
  | some o =>
    rw [ho] at h
    simp only [dependsB, List.any_eq_true, Bool.and_eq_true] at h
    obtain ⟨e, he1, he2, he3⟩ := h
    exact ⟨o, rfl, e, Array.mem_toList_iff.1 he1, he2, Nat.eq_of_beq_eq_true he3⟩
theorem dep_lt {l : List Oper} (hf : fwdB l l.length = true) {i j : Nat} (h : dep l i j = true) : j < i := by
  obtain ⟨o, ho, e, he, hb, rfl⟩ := dep_edge h
  have hl := (List.getElem?_eq_some_iff.1 ho).1
  have h1 := List.all_eq_true.1 hf (o, i) (by rw [List.mem_zipIdx_iff_getElem?]; simpa [List.take_length] using ho)
  have h2 := List.all_eq_true.1 h1 e (Array.mem_toList_iff.2 he)
  simp only [hb, Bool.not_true, Bool.false_or] at h2
  simpa using h2
theorem look_filter {p : Nat → Bool} {t : Nat} : ∀ {q : List (Nat × D)}, look t (q.filter fun e => p e.1) = if p t then look t q else none
  | [] => by cases p t <;> rfl
  | e :: q => by
    have ih := look_filter (p := p) (t := t) (q := q)
    rw [List.filter_cons]
    cases hb : Nat.beq e.1 t with
    | true =>
      have := Nat.eq_of_beq_eq_true hb
      subst this
      cases hp : p e.1 with
      | true =>
        rw [if_pos rfl, if_pos rfl]
        show cond (Nat.beq e.1 e.1) _ _ = cond (Nat.beq e.1 e.1) _ _
        rw [hb]; rfl
      | false =>
        rw [hp] at ih
        rw [if_neg (by decide), if_neg (by decide)]
        rw [ih, if_neg (by decide)]
    | false =>
      have hr : look t (e :: q) = look t q := by show cond (Nat.beq e.1 t) _ _ = _; rw [hb]; rfl
      rw [hr, ← ih]
      cases hp : p e.1 with
      | true =>
        rw [if_pos rfl]
        show cond (Nat.beq e.1 t) _ _ = _; rw [hb]; rfl
      | false => rw [if_neg (by decide)]
/-- all that write slot s wait for operation i -/
def pOld (l : List Oper) (i s : Nat) : Bool := (List.range l.length).all fun j => !wrs l j s || dep l j i
/-- what operation i may know of slots that the region writes later -/
def bsAt (l : List Oper) (ow base : List (Nat × D)) (i : Nat) : List (Nat × D) := (ow.filter fun e => pOld l i e.1) ++ base
theorem wrs_lt {l : List Oper} {j s : Nat} (h : wrs l j s = true) : j < l.length := by
  unfold wrs at h
  cases ho : l[j]? with
  | none => rw [ho] at h; cases h
  | some o => exact (List.getElem?_eq_some_iff.1 ho).1
theorem wrs_of {l : List Oper} {j s : Nat} {o : Oper} (h : l[j]? = some o) (hd : o.dst = some s) : wrs l j s = true := by
  unfold wrs; rw [h]; simp [hd]
theorem pOld_dep {l : List Oper} {i s j : Nat} (h : pOld l i s = true) (hw : wrs l j s = true) : dep l j i = true := by
  have := List.all_eq_true.1 h j (List.mem_range.2 (wrs_lt hw))
  simpa [hw] using this
structure Sta (P : Program) (l : List Oper) (sz : Nat) (ow base : List (Nat × D)) (nb0 : Nat) (mem0 : List (Nat × Option M)) (Z : Acc) : Prop where
  chk : Chk l ow base Z
  bw : ∀ e ∈ base, ∀ j, wrs l j e.1 = false
  ow' : ∀ e ∈ ow, ∃ j, wrs l j e.1 = true
  ch : ChOk mem0 Z.ch
  ops : ∀ k o, l[k]? = some o → ∃ A B, OpOk P l.toArray sz (bsAt l ow base) nb0 mem0 o k A B ∧ Le k A Z ∧ Le (k + 1) B Z ∧ Bd k A
structure InvX (l : List Oper) (w0 : World) (I0 : Bs) (nb0 sz : Nat) (ow base : List (Nat × D)) (mem0 : List (Nat × Option M)) (Z : Acc) (listed : Array Bool) (C : List Lk) (gs : Nat → Nat) (ρ : Rho) (I : Nat → Prop) (a : Act) (w : World) : Prop where
  size : listed.size = l.length
  closed : ∀ j oj, l[j]? = some oj → listed.getD j false = true → ∀ e ∈ oj.after, Region.binds .any e = true → listed.getD e.on false = true
  suf : ∃ E, Z.ch = E ++ C
  lk : ∀ x ∈ Z.ch, listed.getD x.q false = true ↔ x ∈ C
  g : G w0 I0 ⟨curNb nb0 C, sz, base, curMem mem0 C⟩ ρ I a w
  facts : ∀ x ∈ Z.fs, listed.getD x.1 false = true → ∀ e ∈ x.2, RA ρ (curNb nb0 C) I w e.2 (a.tmps.getD e.1 undef)
  old : ∀ s d, look s ow = some d → (∀ j, wrs l j s = true → listed.getD j false = false) → RA ρ (curNb nb0 C) I w d (a.tmps.getD s undef)
  al : C = [] → ∀ x ∈ Z.al, listed.getD x.1 false = true → Fresh w0 ρ mem0 I w x.2.2 (a.tmps.getD x.2.1 undef) (gs x.1)
  inj : C = [] → ∀ x ∈ Z.al, ∀ y ∈ Z.al, listed.getD x.1 false = true → listed.getD y.1 false = true → gs x.1 = gs y.1 → x.1 = y.1
theorem ChOk.suffix {mem0 : List (Nat × Option M)} : ∀ {E C : List Lk}, ChOk mem0 (E ++ C) → ChOk mem0 C
  | [], _, h => h
  | _ :: _, _, h => ChOk.suffix h.2
theorem chain_last {l : List Oper} {al : List (Nat × Nat × Al)} : ∀ {E C : List Lk}, chainOk l al (E ++ C) = true → C ≠ [] → ∃ x ∈ C, ∀ y ∈ al, dep l x.q y.1 = true
  | [], [], _, h => absurd rfl h
  | [], [x], hc, _ => ⟨x, by simp, fun y hy => List.all_eq_true.1 hc y hy⟩
  | [], x :: y :: C, hc, _ => by
    have hc' : (dep l x.q y.q && chainOk l al (y :: C)) = true := hc
    simp only [Bool.and_eq_true] at hc'
    obtain ⟨z, hz, h⟩ := chain_last (E := []) (C := y :: C) hc'.2 (by simp)
    exact ⟨z, List.mem_cons_of_mem _ hz, h⟩
  | [x], y :: C, hc, _ => by
    have hc' : (dep l x.q y.q && chainOk l al (y :: C)) = true := hc
    simp only [Bool.and_eq_true] at hc'
    exact chain_last (E := []) (C := y :: C) hc'.2 (by simp)
  | [x], [], _, h => absurd rfl h
  | x :: y :: E, C, hc, h => by
    have hc' : (dep l x.q y.q && chainOk l al (y :: (E ++ C))) = true := hc
    simp only [Bool.and_eq_true] at hc'
    exact chain_last (E := y :: E) hc'.2 h
theorem chain_at {l : List Oper} {al : List (Nat × Nat × Al)} {x y : Lk} {C : List Lk} : ∀ {E : List Lk}, chainOk l al (E ++ x :: y :: C) = true → dep l x.q y.q = true
  | [], hc => by
    have hc' : (dep l x.q y.q && chainOk l al (y :: C)) = true := hc
    simp only [Bool.and_eq_true] at hc'
    exact hc'.1
  | [z], hc => by
    have hc' : (dep l z.q x.q && chainOk l al (x :: y :: C)) = true := hc
    simp only [Bool.and_eq_true] at hc'
    exact chain_at (E := []) hc'.2
  | z :: u :: E, hc => by
    have hc' : (dep l z.q u.q && chainOk l al (u :: (E ++ x :: y :: C))) = true := hc
    simp only [Bool.and_eq_true] at hc'
    exact chain_at (E := u :: E) hc'.2
theorem chain_end {l : List Oper} {al : List (Nat × Nat × Al)} {x : Lk} : ∀ {E : List Lk}, chainOk l al (E ++ [x]) = true → ∀ y ∈ al, dep l x.q y.1 = true
  | [], hc => fun y hy => List.all_eq_true.1 hc y hy
  | [z], hc => by
    have hc' : (dep l z.q x.q && chainOk l al [x]) = true := hc
    simp only [Bool.and_eq_true] at hc'
    exact chain_end (E := []) hc'.2
  | z :: u :: E, hc => by
    have hc' : (dep l z.q u.q && chainOk l al (u :: (E ++ [x]))) = true := hc
    simp only [Bool.and_eq_true] at hc'
    exact chain_end (E := u :: E) hc'.2
section
variable {P : Program} {l : List Oper} {nb0 sz i : Nat} {ow base : List (Nat × D)} {mem0 : List (Nat × Option M)} {Z A B : Acc} {o : Oper}
variable {w0 : World} {I0 : Bs} {listed : Array Bool} {C : List Lk} {gs : Nat → Nat} {ρ : Rho} {I : Nat → Prop} {a : Act} {w : World}
/-- G of a state whose slots are fewer -/
theorem G.slots' {nb : Nat} {tmp tmp' : List (Nat × D)} {mem mem' : List (Nat × Option M)} (g : G w0 I0 ⟨nb, sz, tmp, mem⟩ ρ I a w) (h : ∀ t d, look t tmp' = some d → RA ρ nb I w d (a.tmps.getD t undef)) (hm : ∀ b m, getM b mem' = some m → getM b mem = some m) : G w0 I0 ⟨nb, sz, tmp', mem'⟩ ρ I a w :=
  ⟨g.later, g.lt, g.base, g.old, g.defers, g.sz, h, fun b m hb => g.mem b m (hm b m hb), fun b m b' m' h1 h2 => g.inj b m b' m' (hm _ _ h1) (hm _ _ h2)⟩
theorem Chk.slotsN (h : Chk l ow base Z) : ((flatX Z.fs []).map (·.1)).Nodup := nodupB_nodup h.slots
theorem Chk.notBase (h : Chk l ow base Z) {x : Nat × List (Nat × D)} {e : Nat × D} (hx : x ∈ Z.fs) (he : e ∈ x.2) : look e.1 base = none := by
  have := List.all_eq_true.1 h.free e (flat_mem hx he)
  simpa using this
theorem Chk.ndCh (h : Chk l ow base Z) {n : Nat × List Nat} {x : Lk} (hn : n ∈ Z.nd) (hx : x ∈ Z.ch) : n.1 ≠ x.q ∧ (dep l n.1 x.q = true ∨ dep l x.q n.1 = true ∨ ∀ b ∈ n.2, b ∉ x.tc) := by
  have h1 := List.all_eq_true.1 (List.all_eq_true.1 h.apart n hn) x hx
  simp only [Bool.and_eq_true, Bool.or_eq_true, Bool.not_eq_true'] at h1
  refine ⟨fun e => ?_, ?_⟩
  · rw [e] at h1; simp at h1
  · rcases h1.2 with (h2 | h2) | h2
    · exact .inl h2
    · exact .inr (.inl h2)
    · refine .inr (.inr fun b hb hbx => ?_)
      have h3 := List.all_eq_true.1 h2 b hb
      simp only [Bool.not_eq_true'] at h3
      have : x.tc.any (Nat.beq b) = true := List.any_eq_true.2 ⟨b, hbx, Nat.beq_refl b⟩
      rw [this] at h3; cases h3
theorem Chk.alNd (h : Chk l ow base Z) {x : Nat × Nat × Al} (hx : x ∈ Z.al) : (∀ n ∈ Z.nd, n.1 ≠ x.1) ∧ (∀ c ∈ Z.ch, c.q ≠ x.1) ∧ (∀ y ∈ Z.fs, y.1 ≠ x.1) := by
  have h1 := List.all_eq_true.1 h.alidx x hx
  simp only [Bool.and_eq_true] at h1
  refine ⟨fun n hn e => ?_, fun c hc e => ?_, fun y hy e => ?_⟩
  · have h2 := List.all_eq_true.1 h1.1.1 n hn; rw [e] at h2; simp at h2
  · have h2 := List.all_eq_true.1 h1.1.2 c hc; rw [e] at h2; simp at h2
  · have h2 := List.all_eq_true.1 h1.2 y hy; rw [e] at h2; simp at h2
theorem Chk.alSl (h : Chk l ow base Z) {x : Nat × Nat × Al} {y : Nat × List (Nat × D)} (hx : x ∈ Z.al) (hy : y ∈ Z.fs) : (∀ e ∈ y.2, e.1 ≠ x.2.1) ∨ ∃ c ∈ Z.ch, c.q = y.1 := by
  have h1 := List.all_eq_true.1 (List.all_eq_true.1 h.alslot x hx) y hy
  simp only [Bool.or_eq_true] at h1
  rcases h1 with h1 | h1
  · refine .inl fun e he hh => ?_
    have h2 := List.all_eq_true.1 h1 e he; rw [hh] at h2; simp at h2
  · obtain ⟨c, hc, h2⟩ := List.any_eq_true.1 h1
    exact .inr ⟨c, hc, Nat.eq_of_beq_eq_true h2⟩
theorem InvX.closed' (inv : InvX l w0 I0 nb0 sz ow base mem0 Z listed C gs ρ I a w) (hi : i ∈ Region.ready .any l.toArray listed) : ∀ j oj, l[j]? = some oj → (listed.setIfInBounds i true).getD j false = true → ∀ e ∈ oj.after, Region.binds .any e = true → (listed.setIfInBounds i true).getD e.on false = true := by
  intro j oj hj hl e he hb
  obtain ⟨_, oi, hoi, hedges⟩ := mem_ready.1 hi
  by_cases hij : i = j
  · subst hij
    have : oi = oj := by
      have h1 : l[i]? = some oi := by simpa using hoi
      rw [h1] at hj; exact Option.some.inj hj
    subst this
    exact getD_set_true (hedges e he hb)
  · rw [getD_set_ne false hij] at hl
    exact getD_set_true (inv.closed j oj hj hl e he hb)
theorem InvX.dep (inv : InvX l w0 I0 nb0 sz ow base mem0 Z listed C gs ρ I a w) {j k : Nat} (h : dep l j k = true) (hl : listed.getD j false = true) : listed.getD k false = true := by
  obtain ⟨o, ho, e, he, hb, rfl⟩ := dep_edge h
  exact inv.closed j o ho hl e he hb
theorem ready_dep (hi : i ∈ Region.ready .any l.toArray listed) {k : Nat} (h : dep l i k = true) : listed.getD k false = true := by
  obtain ⟨o, ho, e, he, hb, rfl⟩ := dep_edge h
  obtain ⟨_, oi, hoi, hedges⟩ := mem_ready.1 hi
  have h1 : l[i]? = some oi := by simpa using hoi
  rw [h1] at ho
  cases ho
  exact hedges e he hb
theorem ready_not (hi : i ∈ Region.ready .any l.toArray listed) : listed.getD i false = false := by
  obtain ⟨h, oi, hoi, _⟩ := mem_ready.1 hi
  by_cases hs : i < listed.size
  · simpa [hs] using h
  · simp [hs]
theorem same_rows (S : Sta P l sz ow base nb0 mem0 Z) (inv : InvX l w0 I0 nb0 sz ow base mem0 Z listed C gs ρ I a w) (hi : i ∈ Region.ready .any l.toArray listed) (hA : Le i A Z) (hb : Bd i A) {R : List Nat} (hR : (i, R) ∈ Z.nd) {b : Nat} (hbR : b ∈ R) : getM b (curMem mem0 C) = getM b (curMem mem0 A.ch) := by
  obtain ⟨E, hE⟩ := inv.suf
  obtain ⟨E', hE', hq⟩ := hA.ch
  have hnd := nodupB_nodup S.chk.nch
  have s1 : C <:+ Z.ch := ⟨E, hE.symm⟩
  have s2 : A.ch <:+ Z.ch := ⟨E', hE'.symm⟩
  rcases List.suffix_or_suffix_of_suffix s1 s2 with ⟨D, hD⟩ | ⟨D, hD⟩
  · have hc : ChOk mem0 (D ++ C) := by rw [hD]; have := S.ch; rw [hE'] at this; exact this.suffix
    rw [← hD]
    refine (hc.same b fun x hx hbx => ?_).symm
    have hxA : x ∈ A.ch := by rw [← hD]; exact List.mem_append_left _ hx
    have hxZ : x ∈ Z.ch := by rw [hE']; exact List.mem_append_right _ hxA
    obtain ⟨_, h | h | h⟩ := S.chk.ndCh hR hxZ
    · have h1 := ready_dep hi h
      have h2 := (inv.lk x hxZ).1 h1
      have h3 : ((D ++ C).map (·.q)).Nodup := by
        rw [hD]; rw [hE', List.map_append] at hnd
        exact (List.nodup_append.1 hnd).2.1
      rw [List.map_append] at h3
      exact (List.nodup_append.1 h3).2.2 _ (List.mem_map.2 ⟨x, hx, rfl⟩) _ (List.mem_map.2 ⟨x, h2, rfl⟩) rfl
    · have h1 := dep_lt S.chk.fwd h
      have h2 := hb x hxA
      simp only at h1
      omega
    · exact h b hbR hbx
  · have hc : ChOk mem0 (D ++ A.ch) := by rw [hD]; have := S.ch; rw [hE] at this; exact this.suffix
    rw [← hD]
    refine hc.same b fun x hx hbx => ?_
    have hxC : x ∈ C := by rw [← hD]; exact List.mem_append_left _ hx
    have hxZ : x ∈ Z.ch := by rw [hE]; exact List.mem_append_right _ hxC
    have hiq : i ≤ x.q := by
      refine hq x ?_
      rw [hE'] at hxZ
      rcases List.mem_append.1 hxZ with h | h
      · exact h
      · have h3 : ((D ++ A.ch).map (·.q)).Nodup := by
          rw [hD]; rw [hE, List.map_append] at hnd
          exact (List.nodup_append.1 hnd).2.1
        rw [List.map_append] at h3
        exact absurd rfl ((List.nodup_append.1 h3).2.2 _ (List.mem_map.2 ⟨x, hx, rfl⟩) _ (List.mem_map.2 ⟨x, h, rfl⟩))
    obtain ⟨_, h | h | h⟩ := S.chk.ndCh hR hxZ
    · have h1 := dep_lt S.chk.fwd h
      simp only at h1
      omega
    · have h1 := inv.dep h ((inv.lk x hxZ).2 hxC)
      rw [ready_not hi] at h1; cases h1
    · exact h b hbR hbx
theorem listed_mono {s : Nat} (hi : i ∈ Region.ready .any l.toArray listed) (hs : listed.size = l.length) (hu : ∀ j, wrs l j s = true → (listed.setIfInBounds i true).getD j false = false) : wrs l i s = false ∧ ∀ j, wrs l j s = true → listed.getD j false = false := by
  obtain ⟨_, oi, hoi, _⟩ := mem_ready.1 hi
  have hil : i < l.length := by have := (Array.getElem?_eq_some_iff.1 hoi).1; simpa using this
  refine ⟨?_, fun j hj => ?_⟩
  · cases hw : wrs l i s with
    | false => rfl
    | true =>
      have := hu i hw
      rw [(listed_set (by rw [hs]; exact hil)).2 (.inl rfl)] at this; cases this
  · have := hu j hj
    cases hl : listed.getD j false with
    | false => rfl
    | true => rw [getD_set_true hl] at this; cases this
theorem Chk.alOld (h : Chk l ow base Z) {x : Nat × Nat × Al} (hx : x ∈ Z.al) : look x.2.1 ow = none := by
  have := List.all_eq_true.1 h.alow x hx; simpa using this
theorem Chk.fsW (h : Chk l ow base Z) {x : Nat × List (Nat × D)} {e : Nat × D} (hx : x ∈ Z.fs) (he : e ∈ x.2) : wrs l x.1 e.1 = true ∨ look e.1 ow = none := by
  have h1 := List.all_eq_true.1 (List.all_eq_true.1 h.wrf x hx) e he
  simp only [Bool.or_eq_true] at h1
  rcases h1 with h1 | h1
  · exact .inl h1
  · obtain ⟨y, hy, h2⟩ := List.any_eq_true.1 h1
    have := Nat.eq_of_beq_eq_true h2
    rw [← this]
    exact .inr (h.alOld hy)
theorem InvX.bs (inv : InvX l w0 I0 nb0 sz ow base mem0 Z listed C gs ρ I a w) (hi : i ∈ Region.ready .any l.toArray listed) {s : Nat} {d : D} (h : look s (bsAt l ow base i) = some d) : RA ρ (curNb nb0 C) I w d (a.tmps.getD s undef) := by
  rcases look_or h with h | ⟨_, h⟩
  · rw [look_filter] at h
    cases hp : pOld l i s with
    | false => rw [hp] at h; cases h
    | true =>
      rw [hp] at h
      refine inv.old s d h fun j hj => ?_
      cases hl : listed.getD j false with
      | false => rfl
      | true => have := inv.dep (pOld_dep hp hj) hl; rw [ready_not hi] at this; cases this
  · exact inv.g.tmp s d h
theorem step_pure {t : Nat} (hoil : l[i]? = some o) (S : Sta P l sz ow base nb0 mem0 Z) (inv : InvX l w0 I0 nb0 sz ow base mem0 Z listed C gs ρ I a w) (hi : i ∈ Region.ready .any l.toArray listed) (hdst : o.dst = some t) (ht : t < sz) {d : D} {R : List Nat} (hx : (i, [(t, d)]) ∈ Z.fs) (hn : (i, R) ∈ Z.nd) {v : Value} {w' : World} {I' : Nat → Prop} (he : Ext I w I' w') (hv : RA ρ (curNb nb0 C) I' w' d v) :
    InvX l w0 I0 nb0 sz ow base mem0 Z (listed.setIfInBounds i true) C gs ρ I' (a.put o.dst v) w' := by
  have hnot := ready_not hi
  have ge := inv.g.ext he
  have htb : look t base = none := S.chk.notBase (e := (t, d)) hx (by simp)
  have hne : ∀ x ∈ Z.ch, x.q ≠ i := fun x hx' e => (S.chk.ndCh hn hx').1 e.symm
  have ndfs := nodupB_nodup S.chk.nfs
  rw [hdst]
  refine ⟨by simp [inv.size], inv.closed' hi, inv.suf, fun x hx' => ?_, ?_, fun x hx' hl e he' => ?_, fun s e hs hu => ?_, fun hC x hx' hl => ?_, fun hC x hx' y hy hlx hly => ?_⟩
  · rw [getD_set_ne false (hne x hx').symm]; exact inv.lk x hx'
  · refine ⟨ge.later, ge.lt, ge.base, ge.old, ge.defers, by simp [Act.put]; exact ge.sz, fun s e hs => ?_, ge.mem, ge.inj⟩
    rw [put_other (fun h => by subst h; rw [htb] at hs; cases hs)]
    exact ge.tmp s e hs
  · by_cases hxi : x.1 = i
    · have := nodup_map_eq ndfs x hx' _ hx hxi
      subst this
      simp at he'
      subst he'
      rw [put_same (by rw [inv.g.sz]; exact ht)]
      exact hv
    · rw [getD_set_ne false (Ne.symm hxi)] at hl
      have hne2 : e.1 ≠ t := fun h => by
        have := (flat_same S.chk.slotsN x hx' _ hx e he' (t, d) (by simp) h).1
        rw [this] at hxi; exact hxi rfl
      rw [put_other hne2]
      exact (inv.facts x hx' hl e he').ext (Nat.le_refl _) inv.g.lt he
  · obtain ⟨h1, h2⟩ := listed_mono hi inv.size hu
    rw [put_other (fun h => by subst h; rw [wrs_of hoil hdst] at h1; cases h1)]
    exact (inv.old s e hs h2).ext (Nat.le_refl _) inv.g.lt he
  · have h1 := (S.chk.alNd hx').1 _ hn
    rw [getD_set_ne false h1] at hl
    have hne2 : x.2.1 ≠ t := fun h => by
      rcases S.chk.alSl hx' hx with h2 | ⟨c, hc, h2⟩
      · exact h2 (t, d) (by simp) h.symm
      · exact hne c hc h2
    rw [put_other hne2]
    exact (inv.al hC x hx' hl).ext he
  · have h1 := (S.chk.alNd hx').1 _ hn
    have h2 := (S.chk.alNd hy).1 _ hn
    rw [getD_set_ne false h1] at hlx
    rw [getD_set_ne false h2] at hly
    exact inv.inj hC x hx' y hy hlx hly
end
end Go.Proofs.Ytpomhnmfkdgafaa
namespace Go.Proofs.Ytpomhnmfkdgafaa
open Go.RowKit
set_option linter.unusedVariables false
set_option linter.unusedSimpArgs false
section
variable {P : Program} {l : List Oper} {nb0 sz i : Nat} {ow base : List (Nat × D)} {mem0 : List (Nat × Option M)} {Z A B : Acc} {o : Oper}
variable {w0 : World} {I0 : Bs} {listed : Array Bool} {C : List Lk} {gs : Nat → Nat} {ρ : Rho} {I : Nat → Prop} {a : Act} {w : World}
theorem step_alloc {t : Nat} (hoil : l[i]? = some o) {L : Al} (S : Sta P l sz ow base nb0 mem0 Z) (inv : InvX l w0 I0 nb0 sz ow base mem0 Z listed C gs ρ I a w) (hi : i ∈ Region.ready .any l.toArray listed) (hdst : o.dst = some t) (ht : t < sz) (hmk : ∃ w', (execOp a.eval o).run P w = .ok (.value (L.val w.heap.size)) w' ∧ Ext I w I w' ∧ w.heap.size < w'.heap.size ∧ ∃ us, w'.ownsRow w0.heap.size L.m.ty L.m.size (sv (some (w.heap.size, L.m.n)) L.m.n) L.m.n us ∧ us.map D.val = L.m.xs ∧ us.all (·.oneCell') = true) (hx : (i, t, L) ∈ Z.al) :
    ∃ v w' gs', (execOp a.eval o).run P w = .ok (.value v) w' ∧ InvX l w0 I0 nb0 sz ow base mem0 Z (listed.setIfInBounds i true) C gs' ρ I (a.put o.dst v) w' := by
  have hnot := ready_not hi
  have hC : C = [] := by
    apply Classical.byContradiction
    intro hne
    obtain ⟨E, hE⟩ := inv.suf
    have hc := S.chk.chain
    rw [hE] at hc
    obtain ⟨x, hxC, hdep⟩ := chain_last hc hne
    have h1 := inv.dep (hdep _ hx) ((inv.lk x (by rw [hE]; exact List.mem_append_right _ hxC)).2 hxC)
    simp only at h1
    rw [hnot] at h1; cases h1
  obtain ⟨w', hr, he, hsz, us, ho, hxs, hone⟩ := hmk
  have ge := inv.g.ext he
  have htb : look t base = none := by have := List.all_eq_true.1 S.chk.alfree _ hx; simpa using this
  obtain ⟨n1, n2, n3⟩ := S.chk.alNd hx
  have nal := nodupB_nodup S.chk.nal
  have nals := nodupB_nodup S.chk.nals
  refine ⟨_, _, fun k => if k = i then w.heap.size else gs k, hr, ?_⟩
  rw [hdst]
  have hold : ∀ x ∈ Z.al, x.1 ≠ i → (listed.setIfInBounds i true).getD x.1 false = true → Fresh w0 ρ mem0 I w x.2.2 (a.tmps.getD x.2.1 undef) (gs x.1) := fun x hx' hxi hl => by
    rw [getD_set_ne false (Ne.symm hxi)] at hl
    exact inv.al hC x hx' hl
  refine ⟨by simp [inv.size], inv.closed' hi, inv.suf, fun x hx' => ?_, ?_, fun x hx' hl e he' => ?_, fun s e hs hu => ?_, fun _ x hx' hl => ?_, fun _ x hx' y hy hlx hly hg => ?_⟩
  · rw [getD_set_ne false (n2 x hx').symm]; exact inv.lk x hx'
  · refine ⟨ge.later, ge.lt, ge.base, ge.old, ge.defers, by simp [Act.put]; exact ge.sz, fun s e hs => ?_, ge.mem, ge.inj⟩
    rw [put_other (fun h => by subst h; rw [htb] at hs; cases hs)]
    exact ge.tmp s e hs
  · rw [getD_set_ne false (n3 x hx').symm] at hl
    have hne2 : e.1 ≠ t := by
      rcases S.chk.alSl hx hx' with h | ⟨c, hc, h⟩
      · exact h e he'
      · have := (inv.lk c hc).1 (by rw [h]; exact hl)
        rw [hC] at this; simp at this
    rw [put_other hne2]
    exact (inv.facts x hx' hl e he').ext (Nat.le_refl _) inv.g.lt he
  · obtain ⟨h1, h2⟩ := listed_mono hi inv.size hu
    rw [put_other (fun h => by subst h; rw [wrs_of hoil hdst] at h1; cases h1)]
    exact (inv.old s e hs h2).ext (Nat.le_refl _) inv.g.lt he
  · by_cases hxi : x.1 = i
    · have := nodup_map_eq nal x hx' _ hx hxi
      subst this
      show Fresh w0 ρ mem0 I _ L ((a.put (some t) _).tmps.getD t undef) (if i = i then w.heap.size else gs i)
      rw [if_pos rfl, put_same (by rw [inv.g.sz]; exact ht)]
      refine ⟨rfl, ⟨us, ho, hxs, hone⟩, fun hI => Nat.lt_irrefl _ (inv.g.lt _ hI), hsz, fun b m' hb c hc => ?_⟩
      rw [hC] at inv
      have := ((inv.g.mem b m' hb).lt hc).2
      omega
    · rw [if_neg hxi]
      have hne2 : x.2.1 ≠ t := fun h => hxi (by rw [nodup_map_eq nals x hx' _ hx h])
      rw [put_other hne2]
      exact (hold x hx' hxi hl).ext he
  · by_cases hxi : x.1 = i <;> by_cases hyi : y.1 = i
    · rw [hxi, hyi]
    · rw [if_pos hxi, if_neg hyi] at hg
      have := (hold y hy hyi hly).lt
      omega
    · rw [if_neg hxi, if_pos hyi] at hg
      have := (hold x hx' hxi hlx).lt
      omega
    · rw [if_neg hxi, if_neg hyi] at hg
      rw [getD_set_ne false (Ne.symm hxi)] at hlx
      rw [getD_set_ne false (Ne.symm hyi)] at hly
      exact inv.inj hC x hx' y hy hlx hly hg
def listedFs (fs : Fs) (listed : Array Bool) : List (Nat × D) := flatX (fs.filter fun x => listed.getD x.1 false) []
def unl (l : List Oper) (listed : Array Bool) (s : Nat) : Bool := (List.range l.length).all fun j => !wrs l j s || !listed.getD j false
theorem unl_iff {s : Nat} : unl l listed s = true ↔ ∀ j, wrs l j s = true → listed.getD j false = false := by
  unfold unl
  rw [List.all_eq_true]
  refine ⟨fun h j hj => ?_, fun h j _ => ?_⟩
  · have := h j (List.mem_range.2 (wrs_lt hj)); simpa [hj] using this
  · cases hw : wrs l j s with
    | false => rfl
    | true => simp [h j hw]
def owFs (l : List Oper) (listed : Array Bool) (ow : List (Nat × D)) : List (Nat × D) := ow.filter fun e => unl l listed e.1
/-- the state ahead of an operation of the chain -/
theorem chain_state (S : Sta P l sz ow base nb0 mem0 Z) (inv : InvX l w0 I0 nb0 sz ow base mem0 Z listed C gs ρ I a w) (hi : i ∈ Region.ready .any l.toArray listed) (hoil : l[i]? = some o) (hC : C = A.ch) (hA : ∀ x ∈ A.fs, x ∈ Z.fs) (hal : A.al = Z.al) (hlal : A.ch = [] → ∀ x ∈ Z.al, listed.getD x.1 false = true) :
    ∃ ρ', G w0 I0 ⟨pickN nb0 A.al A.ch, sz, pickT nb0 A.al A.ch ++ (depX o (bsAt l ow base i) A.fs ++ (listedFs Z.fs listed ++ owFs l listed ow)), pickM nb0 mem0 A.al A.ch⟩ ρ' I a w := by
  have hdep : ∀ x ∈ A.fs, dependsB o x.1 = true → listed.getD x.1 false = true := fun x hx hd => ready_dep hi (by unfold dep; rw [hoil]; exact hd)
  have key : ∀ s d, look s (depX o (bsAt l ow base i) A.fs ++ (listedFs Z.fs listed ++ owFs l listed ow)) = some d → RA ρ (curNb nb0 C) I w d (a.tmps.getD s undef) := by
    intro s d hs
    rcases look_or hs with h | ⟨_, h⟩
    · rcases look_dX h with ⟨x, hx, hxd, he⟩ | h
      · exact inv.facts x (hA x hx) (hdep x hx hxd) _ he
      · exact inv.bs hi h
    · rcases look_or h with h | ⟨_, h⟩
      · rcases flat_inv (look_mem h) with ⟨x, hx, he⟩ | h
        · obtain ⟨h1, h2⟩ := List.mem_filter.1 hx
          exact inv.facts x h1 h2 _ he
        · simp at h
      · unfold owFs at h
        rw [look_filter] at h
        cases hu : unl l listed s with
        | false => rw [hu] at h; cases h
        | true => rw [hu] at h; exact inv.old s d h (unl_iff.1 hu)
  cases hch : A.ch with
  | cons y r =>
    rw [hch] at hC
    subst hC
    exact ⟨ρ, inv.g.slots' (by simpa [pickT] using key) (fun b m h => h)⟩
  | nil =>
    rw [hch] at hC
    subst hC
    have g := inv.g
    obtain ⟨ρ', g', h1, _⟩ := adopt_all g A.al gs (fun x hx => inv.al rfl x (hal ▸ hx) (hlal hch x (hal ▸ hx))) (fun x hx y hy h => inv.inj rfl x (hal ▸ hx) y (hal ▸ hy) (hlal hch x (hal ▸ hx)) (hlal hch y (hal ▸ hy)) h) (by rw [hal]; exact nodupB_nodup S.chk.nal)
    refine ⟨ρ', g'.slots' (fun s d hs => ?_) (fun b m h => h)⟩
    rcases look_or hs with h | ⟨h0, h⟩
    · exact g'.tmp s d (look_here h)
    · exact h1 _ _ (key s d h)
end
end Go.Proofs.Ytpomhnmfkdgafaa
namespace Go.Proofs.Ytpomhnmfkdgafaa
open Go.RowKit
set_option linter.unusedVariables false
set_option linter.unusedSimpArgs false
section
variable {P : Program} {l : List Oper} {nb0 sz i : Nat} {ow base : List (Nat × D)} {mem0 : List (Nat × Option M)} {Z A B : Acc} {o : Oper}
variable {w0 : World} {I0 : Bs} {listed : Array Bool} {C : List Lk} {gs : Nat → Nat} {ρ ρ' : Rho} {I I' : Nat → Prop} {a a' : Act} {w w' : World}
theorem adoptT_mem {nb : Nat} {e : Nat × D} : ∀ {al : List (Nat × Nat × Al)}, e ∈ adoptT nb al → ∃ y ∈ al, e.1 = y.2.1
  | x :: l, h => by
    rcases List.mem_cons.1 h with rfl | h
    · exact ⟨x, List.mem_cons_self, rfl⟩
    · obtain ⟨y, hy, hye⟩ := adoptT_mem h; exact ⟨y, List.mem_cons_of_mem _ hy, hye⟩
theorem step_chain (hoil : l[i]? = some o) {tf : List (Nat × D)} {nb' : Nat} {mem' : List (Nat × Option M)} {tc : List Nat} (S : Sta P l sz ow base nb0 mem0 Z) (inv : InvX l w0 I0 nb0 sz ow base mem0 Z listed C gs ρ I a w) (hi : i ∈ Region.ready .any l.toArray listed) (hC : C = A.ch)
    (htf : ∀ x ∈ tf, o.dst = some x.1) (hal : ∀ x ∈ A.al, x ∈ Z.al) (hA : ∀ x ∈ A.fs, x ∈ Z.fs) (hx : (i, tf ++ pickT nb0 A.al A.ch) ∈ Z.fs) (hch : ∃ E, Z.ch = E ++ ⟨i, nb', mem', tc⟩ :: A.ch)
    (g : G w0 I0 ⟨nb', sz, tf ++ (pickT nb0 A.al A.ch ++ (depX o (bsAt l ow base i) A.fs ++ (listedFs Z.fs listed ++ owFs l listed ow))), mem'⟩ ρ' I' a' w') :
    InvX l w0 I0 nb0 sz ow base mem0 Z (listed.setIfInBounds i true) (⟨i, nb', mem', tc⟩ :: A.ch) gs ρ' I' a' w' := by
  obtain ⟨E, hE⟩ := hch
  have ndfs := nodupB_nodup S.chk.nfs
  have ndch := nodupB_nodup S.chk.nch
  have hsl := S.chk.slotsN
  obtain ⟨p, hp, hpm⟩ := depX_app (o := o) (base := bsAt l ow base i) A.fs
  have hislt : i < listed.size := by
    have h1 := S.chk.inb
    simp only [Bool.and_eq_true, List.all_eq_true] at h1
    have h2 := h1.1 ⟨i, nb', mem', tc⟩ (by rw [hE]; simp)
    rw [inv.size]; simpa using h2
  have hpl : ∀ e ∈ p, ∃ x ∈ Z.fs, listed.getD x.1 false = true ∧ e ∈ x.2 := fun e he => by
    obtain ⟨x, hx', hd, he'⟩ := hpm e he
    exact ⟨x, hA x hx', ready_dep hi (by unfold dep; rw [hoil]; exact hd), he'⟩
  -- entries of slots that the region writes later
  have hlate : ∀ (s : Nat) (d : D), look s ow = some d → ∀ x ∈ Z.fs, ∀ e ∈ x.2, e.1 = s → wrs l x.1 s = true := fun s d hs x hx' e he h => by
    rcases S.chk.fsW hx' he with h1 | h1
    · rw [← h]; exact h1
    · rw [h, hs] at h1; cases h1
  have hold : ∀ z ∈ bsAt l ow base i, z ∈ base ∨ (∃ d, look z.1 ow = some d) ∧ ∀ j, wrs l j z.1 = true → listed.getD j false = false := by
    intro z hz
    rcases List.mem_append.1 hz with h | h
    · obtain ⟨h1, h2⟩ := List.mem_filter.1 h
      refine .inr ⟨look_some (d := z.2) h1, fun j hj => ?_⟩
      cases hl : listed.getD j false with
      | false => rfl
      | true => have := inv.dep (pOld_dep h2 hj) hl; rw [ready_not hi] at this; cases this
    · exact .inl h
  have howm : ∀ z ∈ owFs l listed ow, (∃ d, look z.1 ow = some d) ∧ ∀ j, wrs l j z.1 = true → listed.getD j false = false := fun z hz => by
    obtain ⟨h1, h2⟩ := List.mem_filter.1 hz
    exact ⟨look_some (d := z.2) h1, unl_iff.1 h2⟩
  have htop : ∀ e ∈ tf ++ pickT nb0 A.al A.ch, RA ρ' nb' I' w' e.2 (a'.tmps.getD e.1 undef) := by
    intro e he
    obtain ⟨d', hd'⟩ := look_some (t := e.1) (d := e.2) he
    have := (flat_same hsl _ hx _ hx e he (e.1, d') (look_mem hd') rfl).2
    have h2 := g.tmp e.1 d' (by rw [← List.append_assoc]; exact look_here hd')
    rw [this]
    exact h2
  have hbig : ∀ x ∈ Z.fs, listed.getD x.1 false = true → ∀ e ∈ x.2, RA ρ' nb' I' w' e.2 (a'.tmps.getD e.1 undef) := by
    intro x hx' hxl e he
    have hin : e ∈ tf ++ (pickT nb0 A.al A.ch ++ (depX o (bsAt l ow base i) A.fs ++ (listedFs Z.fs listed ++ owFs l listed ow))) :=
      List.mem_append_right _ (List.mem_append_right _ (List.mem_append_right _ (List.mem_append_left _ (flat_mem (List.mem_filter.2 ⟨hx', hxl⟩) he))))
    obtain ⟨d', hd'⟩ := look_some (t := e.1) (d := e.2) hin
    have hz := look_mem hd'
    have hfl : (∃ y ∈ Z.fs, (e.1, d') ∈ y.2) ∨ (e.1, d') ∈ base ∨ (∃ d, look e.1 ow = some d) ∧ ∀ j, wrs l j e.1 = true → listed.getD j false = false := by
      rcases List.mem_append.1 hz with h | h
      · exact .inl ⟨_, hx, List.mem_append_left _ h⟩
      rcases List.mem_append.1 h with h | h
      · exact .inl ⟨_, hx, List.mem_append_right _ h⟩
      rcases List.mem_append.1 h with h | h
      · rw [hp] at h
        rcases List.mem_append.1 h with h | h
        · obtain ⟨y, hy, _, hye⟩ := hpl _ h; exact .inl ⟨y, hy, hye⟩
        · exact .inr (hold (e.1, d') h)
      rcases List.mem_append.1 h with h | h
      · rcases flat_inv h with ⟨y, hy, hye⟩ | h
        · exact .inl ⟨y, (List.mem_filter.1 hy).1, hye⟩
        · simp at h
      · exact .inr (.inr (howm (e.1, d') h))
    rcases hfl with ⟨y, hy, hye⟩ | h | ⟨⟨d, hd⟩, hu⟩
    · have := (flat_same hsl x hx' y hy e he (e.1, d') hye rfl).2
      have h2 := g.tmp e.1 d' hd'
      rw [this]
      exact h2
    · obtain ⟨d2, hd2⟩ := look_some h
      rw [S.chk.notBase hx' he] at hd2; cases hd2
    · have h1 := hu _ (hlate _ d hd x hx' e he rfl)
      rw [hxl] at h1; cases h1
  refine ⟨by simp [inv.size], inv.closed' hi, ⟨E, hE⟩, fun x hx' => ?_, ?_, fun x hx' hl e he => ?_, fun s d hs hu => ?_, fun h => (by cases h), fun h => (by cases h)⟩
  · by_cases hxi : x.q = i
    · have := nodup_map_eq ndch x hx' ⟨i, nb', mem', tc⟩ (by rw [hE]; simp) hxi
      subst this
      simp [hislt]
    · rw [getD_set_ne false (Ne.symm hxi), inv.lk x hx', hC]
      refine ⟨fun h => List.mem_cons_of_mem _ h, fun h => ?_⟩
      rcases List.mem_cons.1 h with rfl | h
      · exact absurd rfl hxi
      · exact h
  · refine g.slots' (fun s d hs => ?_) (fun b m h => h)
    have hsb : ∀ x ∈ Z.fs, ∀ e ∈ x.2, e.1 ≠ s := fun x hx' e he h => by
      have := S.chk.notBase hx' he
      rw [h, hs] at this; cases this
    refine g.tmp s d ?_
    rw [look_skip (fun e he => hsb _ hx e (List.mem_append_left _ he)), look_skip (fun e he => hsb _ hx e (List.mem_append_right _ he)), hp, List.append_assoc, look_skip (fun e he => by obtain ⟨x, hx', _, he'⟩ := hpl e he; exact hsb x hx' e he')]
    unfold bsAt
    rw [List.append_assoc, look_skip (fun e he h => by
      obtain ⟨h1, _⟩ := List.mem_filter.1 he
      obtain ⟨j, hj⟩ := S.ow' e h1
      rw [h] at hj
      have := S.bw _ (look_mem hs) j
      simp only at this
      rw [hj] at this; cases this)]
    exact look_here hs
  · by_cases hxi : x.1 = i
    · have := nodup_map_eq ndfs x hx' _ hx hxi
      subst this
      exact htop e he
    · rw [getD_set_ne false (Ne.symm hxi)] at hl
      exact hbig x hx' hl e he
  · obtain ⟨h1, h2⟩ := listed_mono hi inv.size hu
    refine g.tmp s d ?_
    rw [look_skip (fun e he h => by rw [← h, wrs_of hoil (htf e he)] at h1; cases h1)]
    rw [look_skip (fun e he h => by
      have hal' : look e.1 ow = none := by
        cases hch : A.ch with
        | nil =>
          rw [hch] at he
          obtain ⟨y, hy, hye⟩ := adoptT_mem he
          rw [hye]; exact S.chk.alOld (hal y hy)
        | cons _ _ => rw [hch] at he; simp [pickT] at he
      rw [h, hs] at hal'; cases hal')]
    rw [hp, List.append_assoc, look_skip (fun e he h => by
      obtain ⟨x, hx', hxl, he'⟩ := hpl e he
      have := h2 _ (hlate s d hs x hx' e he' h)
      rw [hxl] at this; cases this)]
    unfold bsAt
    rw [List.append_assoc]
    cases hpo : pOld l i s with
    | true => exact look_here (by rw [look_filter, hpo]; exact hs)
    | false =>
      have hnow : ∀ q, look s ((ow.filter fun e => pOld l i e.1) ++ q) = look s q := fun q => look_skip fun e he h => by
        have := (List.mem_filter.1 he).2
        rw [h, hpo] at this; cases this
      rw [hnow, look_skip (fun e he h => by
        obtain ⟨j, hj⟩ := S.ow' _ (look_mem hs)
        have := S.bw e he j
        rw [h] at this
        simp only at hj
        rw [hj] at this; cases this), look_skip (fun e he h => by
        rcases flat_inv he with ⟨x, hx', he'⟩ | h'
        · obtain ⟨h3, h4⟩ := List.mem_filter.1 hx'
          have := h2 _ (hlate s d hs x h3 e he' h)
          rw [h4] at this; cases this
        · simp at h')]
      unfold owFs
      rw [look_filter, unl_iff.2 h2]
      exact hs
/-- the order's next one -/
theorem stepX {Q : Exit → Act → World → Prop} {next : Act → World → Prop} (S : Sta P l sz ow base nb0 mem0 Z) (inv : InvX l w0 I0 nb0 sz ow base mem0 Z listed C gs ρ I a w) (hi : i ∈ Region.ready .any l.toArray listed)
    (hk : ∀ C' gs' ρ' I' a' w', InvX l w0 I0 nb0 sz ow base mem0 Z (listed.setIfInBounds i true) C' gs' ρ' I' a' w' → next a' w') : wpOp P l.toArray Q i next a w := by
  have hnot := ready_not hi
  obtain ⟨hun, oi, hoi, hedges⟩ := mem_ready.1 hi
  have hoil : l[i]? = some oi := by simpa using hoi
  obtain ⟨A, B, hop, hA, hB, hbd⟩ := S.ops i oi hoil
  have hAfs : ∀ x ∈ A.fs, x ∈ Z.fs := by
    obtain ⟨E, hE⟩ := hA.fs
    intro x hx; rw [hE]; exact List.mem_append_right _ hx
  have hdep : ∀ x ∈ A.fs, dependsB oi x.1 = true → listed.getD x.1 false = true := fun x hx hd => ready_dep hi (by unfold dep; rw [hoil]; exact hd)
  rcases hop with ⟨t, d, R, rfl, hdst, ht, hp⟩ | ⟨t, L, rfl, hdst, ht, hgd, hmk, hch⟩ | ⟨tf, nb', mem', tc, rfl, htf, htc, hT⟩
  · have hx : (i, [(t, d)]) ∈ Z.fs := by obtain ⟨E, hE⟩ := hB.fs; rw [hE]; simp
    have hn : (i, R) ∈ Z.nd := by obtain ⟨E, hE⟩ := hB.nd; rw [hE]; simp
    have gt : ∀ s e, look s (depX oi (bsAt l ow base i) A.fs) = some e → RA ρ (curNb nb0 C) I w e (a.tmps.getD s undef) := fun s e hs => by
      rcases look_dX hs with ⟨x, hx, hd, he⟩ | h
      · exact inv.facts x (hAfs x hx) (hdep x hx hd) _ he
      · exact inv.bs hi h
    have g1 : G w0 I0 ⟨curNb nb0 C, sz, depX oi (bsAt l ow base i) A.fs, memR R (curMem mem0 A.ch)⟩ ρ I a w := inv.g.slots' gt fun b m hb => by
      obtain ⟨h1, h2⟩ := getM_memR hb
      rw [← same_rows S inv hi hA hbd hn h1] at h2
      exact h2
    have g2 : G w0 I0 ⟨curNb nb0 C, sz, depX oi (bsAt l ow base i) A.fs, []⟩ ρ I a w := inv.g.slots' gt fun b m hb => by cases hb
    unfold wpOp
    simp only [hoi]
    rcases hp with hp | ⟨hg, rfl⟩
    · obtain ⟨hg, hp⟩ := hp (curNb nb0 C)
      rw [if_pos (guard_wanted g2 hg)]
      exact .inl (hp w0 I0 ρ I a w _ Q g1 fun v w' I' he hv => hk _ _ _ _ _ _ (step_pure hoil S inv hi hdst ht hx hn he hv))
    · rw [if_neg (by rw [guard_wanted g2 (hg _)]; decide)]
      exact hk _ _ _ _ _ _ (step_pure hoil S inv hi hdst ht hx hn (Ext.refl I w) undef_tup)
  · have hx : (i, t, L) ∈ Z.al := by obtain ⟨E, hE, _⟩ := hB.al; rw [hE]; simp
    have gt : ∀ s e, look s (depX oi (bsAt l ow base i) A.fs) = some e → RA ρ (curNb nb0 C) I w e (a.tmps.getD s undef) := fun s e hs => by
      rcases look_dX hs with ⟨x, hx, hd, he⟩ | h
      · exact inv.facts x (hAfs x hx) (hdep x hx hd) _ he
      · exact inv.bs hi h
    have g2 : G w0 I0 ⟨curNb nb0 C, sz, depX oi (bsAt l ow base i) A.fs, []⟩ ρ I a w := inv.g.slots' gt fun b m hb => by cases hb
    obtain ⟨v, w', gs', hr, inv'⟩ := step_alloc hoil S inv hi hdst ht (hmk _ _ _ _ _ _ _ g2) hx
    unfold wpOp
    simp only [hoi]
    rw [if_pos (by unfold Region.wanted; rw [hgd])]
    refine .inl ?_
    unfold Oper.wp; rw [hr]
    exact hk _ _ _ _ _ _ inv'
  · have hx : (i, tf ++ pickT nb0 A.al A.ch) ∈ Z.fs := by obtain ⟨E, hE⟩ := hB.fs; rw [hE]; simp
    obtain ⟨E, hE, _⟩ := hB.ch
    have hal : A.al = Z.al := by
      obtain ⟨E2, h1, h2⟩ := hB.al
      rw [h2 (by simp)] at h1
      exact h1.symm
    have hC : C = A.ch := by
      obtain ⟨E1, hE1⟩ := inv.suf
      have s1 : C <:+ Z.ch := ⟨E1, hE1.symm⟩
      have s2 : A.ch <:+ Z.ch := ⟨E ++ [⟨i, nb', mem', tc⟩], by rw [hE]; simp⟩
      have hself : (⟨i, nb', mem', tc⟩ : Lk) ∈ Z.ch := by rw [hE]; simp
      rcases List.suffix_or_suffix_of_suffix s1 s2 with ⟨D, hD⟩ | ⟨D, hD⟩
      · cases hch : A.ch with
        | nil => rw [hch] at hD; exact (List.append_eq_nil_iff.1 hD).2
        | cons y r =>
          have hc := S.chk.chain
          rw [hE, hch] at hc
          have h1 := ready_dep hi (chain_at hc)
          have hy : y ∈ Z.ch := by rw [hE, hch]; simp
          have h2 := (inv.lk y hy).1 h1
          cases D with
          | nil => rw [← hch, ← hD]; rfl
          | cons z D =>
            rw [hch] at hD
            simp only [List.cons_append, List.cons.injEq] at hD
            obtain ⟨rfl, rfl⟩ := hD
            have hnd := nodupB_nodup S.chk.nch
            rw [hE, hch, List.map_append] at hnd
            have h3 := (List.nodup_append.1 hnd).2.1
            simp only [List.map_cons, List.nodup_cons] at h3
            exact absurd (List.mem_map.2 ⟨z, List.mem_append_right _ h2, rfl⟩) h3.2.1
      · cases D with
        | nil => rw [← hD]; rfl
        | cons z D =>
          have hc : E1 ++ (z :: D ++ A.ch) = E ++ ⟨i, nb', mem', tc⟩ :: A.ch := by rw [hD, ← hE1]; exact hE
          have h2 : (⟨i, nb', mem', tc⟩ : Lk) ∈ C := by
            rw [← hD]
            have e1 : (E1 ++ z :: D) ++ A.ch = (E ++ [⟨i, nb', mem', tc⟩]) ++ A.ch := by simpa using hc
            have e2 := List.append_cancel_right e1
            have e3 : (z :: D).getLast? = some ⟨i, nb', mem', tc⟩ := by
              have := congrArg List.getLast? e2
              simpa [List.getLast?_append] using this
            exact List.mem_append_left _ (List.mem_of_getLast? e3)
          have := (inv.lk _ hself).2 h2
          simp only at this
          rw [hnot] at this; cases this
    have hlal : A.ch = [] → ∀ x ∈ Z.al, listed.getD x.1 false = true := fun hch x hx' => by
      have hc := S.chk.chain
      rw [hE, hch] at hc
      exact ready_dep hi (chain_end hc x hx')
    obtain ⟨ρ1, g1⟩ := chain_state S inv hi hoil hC hAfs hal hlal
    refine wpOp_of_T hoi fun Q' hq => (hT (listedFs Z.fs listed ++ owFs l listed ow)).h w0 I0 ρ1 I a w Q' g1 fun S' ρ' I' a' w' hS g' => ?_
    subst hS
    exact hq _ _ (hk _ gs _ _ _ _ (step_chain hoil S inv hi hC htf (fun x hx => by rw [← hal]; exact hx) hAfs hx ⟨E, hE⟩ g'))
theorem runX {Q : Exit → Act → World → Prop} (S : Sta P l sz ow base nb0 mem0 Z) (hK : ∀ ρ I a w, G w0 I0 ⟨curNb nb0 Z.ch, sz, flatX Z.fs base, curMem mem0 Z.ch⟩ ρ I a w → Q .normal a w) :
    ∀ (f : Nat) (listed : Array Bool) (C : List Lk) (gs : Nat → Nat) (ρ : Rho) (I : Nat → Prop) (a : Act) (w : World), leftOf listed l.length = f → InvX l w0 I0 nb0 sz ow base mem0 Z listed C gs ρ I a w → wpAny P .any l.toArray Q f listed a w := by
  intro f
  induction f with
  | zero =>
    intro listed C gs ρ I a w hl inv
    have hlt := left_zero hl
    have hinb := S.chk.inb
    simp only [Bool.and_eq_true, List.all_eq_true] at hinb
    have hall : Region.ready .any l.toArray listed = [] := by
      cases hr : Region.ready .any l.toArray listed with
      | nil => rfl
      | cons i r =>
        have hi : i ∈ Region.ready .any l.toArray listed := by rw [hr]; simp
        have h1 := ready_not hi
        obtain ⟨_, oi, hoi, _⟩ := mem_ready.1 hi
        have h2 : i < l.length := by have := (Array.getElem?_eq_some_iff.1 hoi).1; simpa using this
        rw [hlt i h2] at h1; cases h1
    refine ⟨hall, ?_⟩
    have hCZ : C = Z.ch := by
      obtain ⟨E, hE⟩ := inv.suf
      cases E with
      | nil => rw [hE]; rfl
      | cons z E =>
        have hz : z ∈ Z.ch := by rw [hE]; simp
        have h1 := hinb.1 z hz
        have h2 := (inv.lk z hz).1 (hlt z.q (by simpa using h1))
        have hnd := nodupB_nodup S.chk.nch
        rw [hE] at hnd
        simp only [List.cons_append, List.map_cons, List.nodup_cons] at hnd
        exact absurd (List.mem_map.2 ⟨z, List.mem_append_right _ h2, rfl⟩) hnd.1
    subst hCZ
    refine hK ρ I a w (inv.g.slots' (fun s d hs => ?_) (fun b m h => h))
    rw [flat_split] at hs
    rcases look_or hs with h | ⟨_, h⟩
    · rcases flat_inv (look_mem h) with ⟨x, hx, he⟩ | h
      · have h1 := hinb.2 x hx
        exact inv.facts x hx (hlt x.1 (by simpa using h1)) _ he
      · simp at h
    · exact inv.g.tmp s d h
  | succ f ih =>
    intro listed C gs ρ I a w hl inv
    have hex : ∃ i, i < l.length ∧ listed.getD i false = false := by
      apply Classical.byContradiction
      intro hno
      have : leftOf listed l.length = 0 := by
        unfold leftOf
        rw [List.filter_eq_nil_iff.2 fun i hi => ?_]; rfl
        intro h
        exact hno ⟨i, List.mem_range.1 hi, by simpa using h⟩
      omega
    have hready : Region.ready .any l.toArray listed ≠ [] := by
      obtain ⟨i, hi, hli⟩ := hex
      induction i using Nat.strongRecOn with
      | _ i ihi =>
        by_cases hlow : ∃ j, j < i ∧ listed.getD j false = false
        · obtain ⟨j, hj, hlj⟩ := hlow
          exact ihi j hj (by omega) hlj
        · refine List.ne_nil_of_mem (a := i) (mem_ready.2 ⟨getD_in (by rw [inv.size]; exact hi) hli, l[i], by simp, fun e he hb => ?_⟩)
          have h1 : dep l i e.on = true := by
            unfold Go.Proofs.Ytpomhnmfkdgafaa.dep
            rw [List.getElem?_eq_getElem hi]
            simp only [dependsB]
            exact List.any_eq_true.2 ⟨e, Array.mem_toList_iff.2 he, by simp [hb]⟩
          have h3 := dep_lt S.chk.fwd h1
          cases hle : listed.getD e.on false with
          | true => rfl
          | false => exact absurd ⟨e.on, h3, hle⟩ hlow
    refine ⟨fun h => absurd h hready, fun i hi => ?_⟩
    have hnot := ready_not hi
    have hil : i < l.length := by
      obtain ⟨_, oi, hoi, _⟩ := mem_ready.1 hi
      have := (Array.getElem?_eq_some_iff.1 hoi).1
      simpa using this
    have hls := left_set hil (by rw [inv.size]; exact hil) hnot
    exact stepX S inv hi fun C' gs' ρ' I' a' w' inv' => ih _ C' gs' ρ' I' a' w' (by omega) inv'
end
/-- the slots that a region does not write, and those that it does -/
def wr (l : List Oper) (t : Nat) : Bool := l.any fun o => match o.dst with
  | some s => Nat.beq s t
  | none => false
theorem wr_iff {l : List Oper} {t : Nat} : wr l t = true ↔ ∃ j, wrs l j t = true := by
  unfold wr wrs
  rw [List.any_eq_true]
  constructor
  · rintro ⟨o, ho, h⟩
    obtain ⟨j, hj⟩ := List.getElem?_of_mem ho
    exact ⟨j, by rw [hj]; exact h⟩
  · rintro ⟨j, h⟩
    cases ho : l[j]? with
    | none => rw [ho] at h; cases h
    | some o => rw [ho] at h; exact ⟨o, List.mem_of_getElem? ho, h⟩
inductive Clean (l : List Oper) : List (Nat × D) → List (Nat × D) → List (Nat × D) → Prop
  | nil : Clean l [] [] []
  | keep {t : Nat} {d : D} {tmp ow base : List (Nat × D)} (h : wr l t = false) (k : Clean l tmp ow base) : Clean l ((t, d) :: tmp) ow ((t, d) :: base)
  | drop {t : Nat} {d : D} {tmp ow base : List (Nat × D)} (h : wr l t = true) (k : Clean l tmp ow base) : Clean l ((t, d) :: tmp) ((t, d) :: ow) base
theorem Clean.wr {l : List Oper} {tmp ow base : List (Nat × D)} (h : Clean l tmp ow base) : (∀ e ∈ base, Go.Proofs.Ytpomhnmfkdgafaa.wr l e.1 = false) ∧ ∀ e ∈ ow, Go.Proofs.Ytpomhnmfkdgafaa.wr l e.1 = true := by
  induction h with
  | nil => exact ⟨fun e he => by simp at he, fun e he => by simp at he⟩
  | keep h k ih =>
    refine ⟨fun e he => ?_, ih.2⟩
    rcases List.mem_cons.1 he with rfl | he
    · exact h
    · exact ih.1 e he
  | drop h k ih =>
    refine ⟨ih.1, fun e he => ?_⟩
    rcases List.mem_cons.1 he with rfl | he
    · exact h
    · exact ih.2 e he
theorem Clean.look {l : List Oper} {tmp ow base : List (Nat × D)} (h : Clean l tmp ow base) {t : Nat} {d : D} : (look t base = some d → look t tmp = some d) ∧ (look t ow = some d → look t tmp = some d) := by
  induction h with
  | nil => exact ⟨id, id⟩
  | keep h k ih =>
    rename_i s e tmp ow base
    refine ⟨fun hl => ?_, fun hl => ?_⟩
    · have hl' : cond (Nat.beq s t) (some e) (Go.Proofs.Ytpomhnmfkdgafaa.look t base) = some d := hl
      show cond (Nat.beq s t) (some e) (Go.Proofs.Ytpomhnmfkdgafaa.look t tmp) = some d
      cases hb : Nat.beq s t with
      | true => rw [hb] at hl'; exact hl'
      | false => rw [hb] at hl'; exact ih.1 hl'
    · show cond (Nat.beq s t) (some e) (Go.Proofs.Ytpomhnmfkdgafaa.look t tmp) = some d
      cases hb : Nat.beq s t with
      | true =>
        have := Nat.eq_of_beq_eq_true hb
        subst this
        have h2 := k.wr.2 _ (look_mem hl)
        simp only at h2
        rw [h] at h2; cases h2
      | false => exact ih.2 hl
  | drop h k ih =>
    rename_i s e tmp ow base
    refine ⟨fun hl => ?_, fun hl => ?_⟩
    · show cond (Nat.beq s t) (some e) (Go.Proofs.Ytpomhnmfkdgafaa.look t tmp) = some d
      cases hb : Nat.beq s t with
      | true =>
        have := Nat.eq_of_beq_eq_true hb
        subst this
        have h2 := k.wr.1 _ (look_mem hl)
        simp only at h2
        rw [h] at h2; cases h2
      | false => exact ih.1 hl
    · have hl' : cond (Nat.beq s t) (some e) (Go.Proofs.Ytpomhnmfkdgafaa.look t ow) = some d := hl
      show cond (Nat.beq s t) (some e) (Go.Proofs.Ytpomhnmfkdgafaa.look t tmp) = some d
      cases hb : Nat.beq s t with
      | true => rw [hb] at hl'; exact hl'
      | false => rw [hb] at hl'; exact ih.2 hl'
theorem C_drawX {P : Program} {l : List Oper} {nb sz : Nat} {tmp ow base : List (Nat × D)} {mem : List (Nat × Option M)} {id : Nat} {Kc : Exit → St → Prop} (hm : P.follows .mixedOrders = true) (hc : Clean l tmp ow base)
    (h : Walk P l.toArray sz (bsAt l ow base) nb mem l 0 ⟨[], [], [], []⟩ fun Z => Chk l ow base Z ∧ Kc .normal ⟨curNb nb Z.ch, sz, flatX Z.fs base, curMem mem Z.ch⟩) : C P (.region id l.toArray true) ⟨nb, sz, tmp, mem⟩ Kc := ⟨fun w0 I0 ρ I a w Q g q => by
  obtain ⟨Z, ⟨hchk, hK⟩, _, hch, hops, _⟩ := Walk0.all h.h (fun x hx => by simp at hx) trivial
  have S : Sta P l sz ow base nb mem Z := ⟨hchk, (fun e he j => by
      cases hw : wrs l j e.1 with
      | false => rfl
      | true => have := hc.wr.1 e he; rw [wr_iff.2 ⟨j, hw⟩] at this; cases this), fun e he => wr_iff.1 (hc.wr.2 e he), hch, fun k o hk => by
    have := hops k o hk
    rw [Nat.zero_add] at this
    exact this⟩
  have ge := g.ext (Ext.same (Later.drew (Later.refl w)) : Ext I w I w.drew)
  have inv0 : InvX l w0 I0 nb sz ow base mem Z (Array.replicate l.toArray.size false) [] (fun _ => 0) ρ I a w.drew := by
    refine ⟨by simp, fun j oj _ hl => ?_, ⟨Z.ch, by simp⟩, fun x hx => ?_, ge.slots' (fun s d hs => ge.tmp s d (hc.look.1 hs)) (fun b m h => h), fun x _ hl => ?_, fun s d hs _ => ge.tmp s d (hc.look.2 hs), fun _ x _ hl => ?_, fun _ x _ y _ hl => ?_⟩
    · rw [getD_replicate_false] at hl; cases hl
    · rw [getD_replicate_false]; simp
    · rw [getD_replicate_false] at hl; cases hl
    · rw [getD_replicate_false] at hl; cases hl
    · rw [getD_replicate_false] at hl; cases hl
  have hleft : leftOf (Array.replicate l.toArray.size false) l.length = l.toArray.size := by
    unfold leftOf
    rw [List.filter_eq_self.2 fun i hi => by rw [getD_replicate_false]; rfl, List.length_range]; simp
  exact wp_region_any hm (runX S (fun ρ I a w g => q _ _ ρ I a w hK g) _ _ _ _ ρ I a _ hleft inv0)⟩
end Go.Proofs.Ytpomhnmfkdgafaa
