/- The abstract machine's rules for reading memory and for calls (no program in sight). -/
import Derived.Test.YtifapodobhkdcaaAbsB
import Derived.Deep.MidRow
import Derived.Laws.StructEq
namespace Go.Proofs.Ytifapodobhkdcaa
open Go.RowKit
set_option linter.unusedVariables false
set_option linter.unusedSimpArgs false
/-! ### what is known of types -/
def aggDesc : TypeDesc → Bool
  | .struct _ | .array _ _ => true
  | _ => false
class TyCell (P : Program) (t : TypeId) : Prop where
  desc : ∃ d, P.underlying t = some d ∧ aggDesc d = false
  size : (P.info? t).map (·.size) = some 1
class TyAgg (P : Program) (t : TypeId) (k : outParam Nat) : Prop where
  desc : ∃ d, P.underlying t = some d ∧ aggDesc d = true
  size : (P.info? t).map (·.size) = some k
class TyField (P : Program) (t : TypeId) (f : Nat) (off : outParam Nat) (ft : outParam TypeId) : Prop where
  field : ∃ fs fd, P.underlying t = some (.struct fs) ∧ fs[f]? = some fd ∧ fd.offset = off ∧ fd.type = ft
  size : ∃ i, P.info? ft = some i ∧ i.size ≠ 0
class TySlice (P : Program) (t : TypeId) (e : outParam TypeId) (size bytes : outParam Nat) : Prop where
  ty : P.underlying t = some (.slice e)
  info : ∃ i z, P.info? e = some i ∧ i.zero = some z ∧ i.size = size ∧ i.bytes = bytes ∧ z.cells.size = size
  pos : 0 < size
class TyArr (P : Program) (t : TypeId) (n : outParam Nat) (e : outParam TypeId) (size : outParam Nat) : Prop where
  ty : P.underlying t = some (.array n e)
  info : (P.info? e).map (·.size) = some size
  pos : 0 < size
class TyZero (P : Program) (t : TypeId) (k : outParam Nat) (zs : outParam (List Value)) (zd : outParam (List D)) : Prop where
  info : ∃ i z, P.info? t = some i ∧ i.zero = some z ∧ z.cells.toList = zs ∧ i.size = zs.length
  one : zs.all (·.oneCell') = true
  len : zs.length = k
  data : zs.map D.val = zd
/-- a struct of ints is compared number by number -/
class TyEqI (P : Program) (t : TypeId) (n : outParam Nat) : Prop where
  guard : P.eqGuardType P.depth t = false
  eq : ∀ (w : World) (xs ys : List Int), xs.length = n → ys.length = n → (Op.equalIn (9999 + 1) t (.agg (xs.map (Value.int .i64)).toArray) (.agg (ys.map (Value.int .i64)).toArray)).run P w = .ok (decide (xs = ys)) w
section
variable {P : Program} {ops : Array Oper} {S : St} {o : Oper} {x y : Operand} {t : TypeId} {w0 : World} {I0 : Nat → Prop} {ρ : Rho} {I : Nat → Prop} {a : Act} {w : World}
/-- the cells behind a pointer -/
def cellsD (mem : List (Nat × Option M)) : D → Option (List D)
  | .obj xs => some xs
  | .ptr b off => match getM b mem with
    | some m => some (m.xs.drop off)
    | none => none
  | _ => none
/-- the cells b, off, .. hold us -/
def LiesAt (w : World) (b off : Nat) (us : List Value) : Prop := ∀ j u, us[j]? = some u → w.cell? ⟨b, off + j, none⟩ = some u
def AllRA (ρ : Rho) (nb : Nat) (I : Nat → Prop) (w : World) (xs : List D) (us : List Value) : Prop := xs.length = us.length ∧ (∀ u ∈ us, u.oneCell' = true) ∧ ∀ (j : Nat) (d : D) (u : Value), xs[j]? = some d → us[j]? = some u → RA ρ nb I w d u
theorem AllRA.drop {nb : Nat} {xs : List D} {us : List Value} (h : AllRA ρ nb I w xs us) (k : Nat) : AllRA ρ nb I w (xs.drop k) (us.drop k) :=
  ⟨by simp [h.1], fun u hu => h.2.1 u (List.mem_of_mem_drop hu), fun j d u h1 h2 => h.2.2 (k + j) d u (by simpa using h1) (by simpa using h2)⟩
theorem AllRA.take {nb : Nat} {xs : List D} {us : List Value} (h : AllRA ρ nb I w xs us) (k : Nat) : AllRA ρ nb I w (xs.take k) (us.take k) := by
  refine ⟨by simp [h.1], fun u hu => h.2.1 u (List.mem_of_mem_take hu), fun j d u h1 h2 => ?_⟩
  rw [List.getElem?_take] at h1 h2
  by_cases hj : j < k
  · rw [if_pos hj] at h1 h2; exact h.2.2 j d u h1 h2
  · rw [if_neg hj] at h1; cases h1
theorem ownsRow_lies {base : Nat} {e : TypeId} {size g cap n : Nat} {us : List Value} (h : w.ownsRow base e size (sv (some (g, cap)) n) n us) : LiesAt w g 0 us := fun j u hu => by
  have := h.cells (g := g) rfl j u hu
  rw [Addr.add_mid] at this
  exact this
theorem LiesAt.drop {b off : Nat} {us : List Value} (h : LiesAt w b off us) (k : Nat) : LiesAt w b (off + k) (us.drop k) := fun j u hu => by
  rw [Nat.add_assoc]; exact h (k + j) u (by simpa using hu)
theorem LiesAt.take {b off : Nat} {us : List Value} (h : LiesAt w b off us) (k : Nat) : LiesAt w b off (us.take k) := fun j u hu => by
  rw [List.getElem?_take] at hu
  by_cases hj : j < k
  · rw [if_pos hj] at hu; exact h j u hu
  · rw [if_neg hj] at hu; cases hu
theorem G.pointed (g : G w0 I0 S ρ I a w) {d : D} {xs : List D} {v : Value} (h : RA ρ S.nb I w d v) (hc : cellsD S.mem d = some xs) : ∃ b off us, v = .pointer (some ⟨b, off, none⟩) ∧ LiesAt w b off us ∧ AllRA ρ S.nb I w xs us := by
  cases d with
  | obj ys =>
    cases hc
    cases h with | im h => cases h with | obj hI hl hs ho hr => exact ⟨_, _, _, rfl, hs, hl, ho, fun j d u h1 h2 => .im (hr j d u h1 h2)⟩
  | ptr b off =>
    simp only [cellsD] at hc
    cases hm : getM b S.mem with
    | none => rw [hm] at hc; cases hc
    | some m =>
      rw [hm] at hc
      cases hc
      obtain ⟨_, ⟨us, ho, hl, h1c, hr⟩, _⟩ := g.mem b m hm
      cases h with
      | im h => cases h
      | ptr hb hρ =>
        rw [hρ] at ho
        have hl2 := (ownsRow_lies ho).drop off
        rw [Nat.zero_add] at hl2
        exact ⟨_, _, us.drop off, rfl, hl2, AllRA.drop ⟨hl, h1c, hr⟩ off⟩
  | _ => cases hc
theorem P_load {d e : D} {ys : List D} [hT : TyCell P t] (ho : o.op = .load t x) (hx : S.ev x = some d) (hc : cellsD S.mem d = some (e :: ys)) : PStep P o S e :=
  PStep.pure fun w0 I0 ρ I ac w g => by
    obtain ⟨b, off, us, h1, h2, hl, _, hr⟩ := g.pointed (g.ev hx) hc
    obtain ⟨u, us', rfl⟩ : ∃ u us', us = u :: us' := by cases us with | nil => simp at hl | cons u us' => exact ⟨u, us', rfl⟩
    have hcell : w.cell? ⟨b, off, none⟩ = some u := h2 0 u rfl
    obtain ⟨dd, hd1, hd2⟩ := hT.desc
    have hagg : (isAgg t).run P w = .ok false w := by
      unfold isAgg
      rw [Sem.run_bind, run_underlying hd1 w]
      cases dd <;> simp_all [aggDesc]
    exact ⟨u, by simp [execOp, ho, h1, Instr.loadAt, Instr.sureAddr, loadVar, hagg, run_load, hcell], hr 0 e u rfl rfl⟩
theorem P_loadAgg {d : D} {k : Nat} {ys zs : List D} [hT : TyAgg P t k] (ho : o.op = .load t x) (hx : S.ev x = some d) (hc : cellsD S.mem d = some ys) (hz : ys.take k = zs) (hk : zs.length = k) : PStep P o S (.agg zs) :=
  PStep.pure fun w0 I0 ρ I ac w g => by
    obtain ⟨b, off, us, h1, h2, h3⟩ := g.pointed (g.ev hx) hc
    obtain ⟨dd, hd1, hd2⟩ := hT.desc
    have h4 := h3.take k
    rw [hz] at h4
    have hlen : (us.take k).length = k := by rw [← h4.1, hk]
    have hr := run_loadAt_mid (P := P) w b off t (us.take k) dd (h2.take k) hd1 (by cases dd <;> simp_all [aggDesc]) (by rw [hlen]; exact hT.size)
    exact ⟨.agg (us.take k).toArray, by simp [execOp, ho, h1, hr], .agg h4.1 h4.2.1 h4.2.2⟩
theorem P_loadAgg1 {d d1 : D} {ys : List D} [hT : TyAgg P t 1] (ho : o.op = .load t x) (hx : S.ev x = some d) (hc : cellsD S.mem d = some (d1 :: ys)) : PStep P o S (.agg [d1]) := P_loadAgg ho hx hc rfl rfl
theorem P_loadAgg2 {d d1 d2 : D} {ys : List D} [hT : TyAgg P t 2] (ho : o.op = .load t x) (hx : S.ev x = some d) (hc : cellsD S.mem d = some (d1 :: d2 :: ys)) : PStep P o S (.agg [d1, d2]) := P_loadAgg ho hx hc rfl rfl
theorem P_loadAgg3 {d d1 d2 d3 : D} {ys : List D} [hT : TyAgg P t 3] (ho : o.op = .load t x) (hx : S.ev x = some d) (hc : cellsD S.mem d = some (d1 :: d2 :: d3 :: ys)) : PStep P o S (.agg [d1, d2, d3]) := P_loadAgg ho hx hc rfl rfl
theorem P_loadAgg4 {d d1 d2 d3 d4 : D} {ys : List D} [hT : TyAgg P t 4] (ho : o.op = .load t x) (hx : S.ev x = some d) (hc : cellsD S.mem d = some (d1 :: d2 :: d3 :: d4 :: ys)) : PStep P o S (.agg [d1, d2, d3, d4]) := P_loadAgg ho hx hc rfl rfl
theorem run_sizeOf' {e : TypeId} {k : Nat} (h : (P.info? e).map (·.size) = some k) : (sizeOf e).run P w = .ok k w := by
  cases hi : P.info? e with
  | none => rw [hi] at h; cases h
  | some i => rw [hi] at h; simp only [Option.map_some, Option.some.injEq] at h; simp [sizeOf, typeInfo, hi, h]
theorem run_sizeOf'' {e : TypeId} {i : TypeInfo} (h : P.info? e = some i) : (sizeOf e).run P w = .ok i.size w := by
  simp [sizeOf, typeInfo, h]
theorem P_fieldObj {f off : Nat} {ft : TypeId} {xs : List D} [hT : TyField P t f off ft] (ho : o.op = .fieldAddr t x f) (hx : S.ev x = some (.obj xs)) : PStep P o S (.obj (xs.drop off)) :=
  PStep.pure fun w0 I0 ρ I ac w g => by
    obtain ⟨fs, fd, h1, h2, h3, h4⟩ := hT.field
    obtain ⟨i, h5, h6⟩ := hT.size
    have h := g.ev hx
    generalize hv : ac.eval x = v at h
    cases h with | im h => cases h with
    | obj hI hl hs ho' hr =>
      rename_i b o' us
      refine ⟨.pointer (some ⟨b, o' + off, none⟩), ?_, .im (.obj hI (us := us.drop off) (by simp [hl]) (LiesAt.drop hs off) (fun u hu => ho' u (List.mem_of_mem_drop hu)) fun j d u h7 h8 => hr (off + j) d u (by simpa using h7) (by simpa using h8))⟩
      simp [execOp, ho, hv, Instr.fieldAt, run_underlying h1, h2, Instr.sureAddr, fieldPlace, h4, run_sizeOf'' h5, h6, h3, Addr.add_mid]
theorem P_fieldPtr {f off b o' : Nat} {ft : TypeId} [hT : TyField P t f off ft] (ho : o.op = .fieldAddr t x f) (hx : S.ev x = some (.ptr b o')) : PStep P o S (.ptr b (o' + off)) :=
  PStep.pure fun w0 I0 ρ I ac w g => by
    obtain ⟨fs, fd, h1, h2, h3, h4⟩ := hT.field
    obtain ⟨i, h5, h6⟩ := hT.size
    have h := g.ev hx
    generalize hv : ac.eval x = v at h
    cases h with
    | im h => cases h
    | ptr hb hρ =>
      refine ⟨_, ?_, .ptr hb hρ⟩
      simp [execOp, ho, hv, Instr.fieldAt, run_underlying h1, h2, Instr.sureAddr, fieldPlace, h4, run_sizeOf'' h5, h6, h3, Addr.add_mid]
theorem P_field {f off : Nat} {ft : TypeId} {xs : List D} {e : D} [hT : TyField P t f off ft] [hC : TyCell P ft] (ho : o.op = .field t x f) (hx : S.ev x = some (.agg xs)) (he : xs[off]? = some e) : PStep P o S e :=
  PStep.pure fun w0 I0 ρ I ac w g => by
    obtain ⟨fs, fd, h1, h2, h3, h4⟩ := hT.field
    obtain ⟨us, h5, h6, _, h8⟩ := (g.ev hx).cells
    have hlt : off < us.length := by have := (List.getElem?_eq_some_iff.1 he).1; omega
    obtain ⟨dd, hd1, hd2⟩ := hC.desc
    have hagg : (isAgg ft).run P w = .ok false w := by
      unfold isAgg
      rw [Sem.run_bind, run_underlying hd1 w]
      cases dd <;> simp_all [aggDesc]
    exact ⟨us[off], by simp [execOp, ho, h5, Instr.field, run_underlying h1, h2, asAgg, part, h3, h4, hagg, hlt], h8 off e _ he (List.getElem?_eq_getElem hlt)⟩
theorem P_fieldAgg {f off k : Nat} {ft : TypeId} {xs zs : List D} [hT : TyField P t f off ft] [hC : TyAgg P ft k] (ho : o.op = .field t x f) (hx : S.ev x = some (.agg xs)) (he : (xs.drop off).take k = zs) (hk : zs.length = k) : PStep P o S (.agg zs) :=
  PStep.pure fun w0 I0 ρ I ac w g => by
    obtain ⟨fs, fd, h1, h2, h3, h4⟩ := hT.field
    obtain ⟨us, h5, h6, h7, h8⟩ := (g.ev hx).cells
    have h9 : AllRA ρ S.nb I w zs ((us.drop off).take k) := by rw [← he]; exact AllRA.take (AllRA.drop ⟨h6, h7, h8⟩ off) k
    obtain ⟨dd, hd1, hd2⟩ := hC.desc
    have hagg : (isAgg ft).run P w = .ok true w := by
      unfold isAgg
      rw [Sem.run_bind, run_underlying hd1 w]
      cases dd <;> simp_all [aggDesc]
    have hsz : (sizeOf ft).run P w = .ok k w := by
      have hs := hC.size
      cases hi : P.info? ft with
      | none => rw [hi] at hs; cases hs
      | some i => rw [hi] at hs; simp only [Option.map_some, Option.some.injEq] at hs; simp [sizeOf, typeInfo, hi, hs]
    have e1 : us.toArray.extract off (off + k) = ((us.drop off).take k).toArray := by
      apply Array.ext'; simp [List.extract_eq_take_drop]
    refine ⟨.agg ((us.drop off).take k).toArray, ?_, .agg h9.1 h9.2.1 h9.2.2⟩
    simp [execOp, ho, h5, Instr.field, run_underlying h1, h2, asAgg, part, h3, h4, hagg, hsz, e1]
/-- the slice d: how many elements, its cells -/
def sliceD (mem : List (Nat × Option M)) : D → Option (Nat × List D)
  | .row n xs => some (n, xs)
  | .val (.slice none 0 0) => some (0, [])
  | .own b n => match getM b mem with
    | some m => cond (Nat.beq m.n n) (some (n, m.xs)) none
    | none => none
  | _ => none
theorem G.sliced (g : G w0 I0 S ρ I a w) {d : D} {n : Nat} {xs : List D} {v : Value} (h : RA ρ S.nb I w d v) (hc : sliceD S.mem d = some (n, xs)) : ∃ ao cap b off us, v = .slice ao n cap ∧ n ≤ cap ∧ cap ≤ maxLen ∧ (ao = none → cap = 0) ∧ (0 < us.length → ao = some ⟨b, off, none⟩ ∧ b < w.heap.size) ∧ LiesAt w b off us ∧ AllRA ρ S.nb I w xs us := by
  cases d with
  | row m ys =>
    cases hc
    cases h with | im h => cases h with | row hc hm hn hl ha hs ho hr => exact ⟨_, _, _, _, _, rfl, hc, hm, hn, fun h => ⟨(ha h).1, g.lt _ (ha h).2⟩, hs, hl, ho, fun j d u h1 h2 => .im (hr j d u h1 h2)⟩
  | val u =>
    have hv := h.val_eq
    subst hv
    cases v with
    | slice ao l c =>
      cases ao with
      | none =>
        cases l with
        | zero =>
          cases c with
          | zero => cases hc; exact ⟨none, 0, 0, 0, [], rfl, Nat.le_refl _, Nat.zero_le _, fun _ => rfl, fun h => by simp at h, fun j u hu => by simp at hu, rfl, fun u hu => by simp at hu, fun j d u hj => by simp at hj⟩
          | succ c => cases hc
        | succ l => cases hc
      | some ad => cases hc
    | _ => cases hc
  | own b m =>
    simp only [sliceD] at hc
    cases hm : getM b S.mem with
    | none => rw [hm] at hc; cases hc
    | some r =>
      rw [hm] at hc
      simp only at hc
      cases hn : Nat.beq r.n m with
      | false => rw [hn] at hc; cases hc
      | true =>
        rw [hn] at hc
        simp only [cond_true, Option.some.injEq, Prod.mk.injEq] at hc
        obtain ⟨rfl, rfl⟩ := hc
        have hn := Nat.eq_of_beq_eq_true hn
        obtain ⟨_, ⟨us, ho, hl, h1c, hr⟩, _⟩ := g.mem b r hm
        rw [hn] at ho
        cases h with
        | im h => cases h
        | own hb h0 =>
          cases hρ : ρ b with
          | none =>
            rw [hρ] at ho
            have hm0 := h0 hρ
            subst hm0
            have hu : us = [] := List.eq_nil_of_length_eq_zero (by have := ho.1; simpa using this)
            subst hu
            exact ⟨none, 0, 0, 0, [], rfl, Nat.le_refl _, Nat.zero_le _, fun _ => rfl, fun h => by simp at h, fun j u hu => by simp at hu, hl, fun u hu => by simp at hu, hr⟩
          | some gc =>
            obtain ⟨gb, cap⟩ := gc
            rw [hρ] at ho
            have hlt := ho.lt gb rfl
            rcases ho.2 with ⟨h', _⟩ | ⟨g', cap', cur, h', _, _, hnc, hcm, _, _⟩
            · simp [sv] at h'
            · simp only [sv, Value.slice.injEq, Option.some.injEq, Addr.mk.injEq, and_true, true_and] at h'
              obtain ⟨rfl, rfl⟩ := h'
              exact ⟨_, cap, gb, 0, us, rfl, hnc, hcm, (fun h => by cases h), fun _ => ⟨rfl, hlt.2⟩, ownsRow_lies ho, hl, h1c, hr⟩
  | _ => cases hc
theorem P_len {d : D} {n : Nat} {xs : List D} {e : TypeId} {size bytes : Nat} {c : Int} [hT : TySlice P t e size bytes] (ho : o.op = .call { callee := .builtin .len, args := #[x], argTypes := #[t] }) (hx : S.ev x = some d) (hc : sliceD S.mem d = some (n, xs)) (hn : (n : Int) = c) : PStep P o S (.val (.int .i64 c)) :=
  PStep.value rfl fun w0 I0 ρ I ac w g => by
    obtain ⟨ao, cap, b, off, us, h1, _⟩ := g.sliced (g.ev hx) hc
    simp [execOp, ho, h1, resolve, invoke, builtin, Builtin.len_, run_underlying hT.ty, goInt, ← hn]
/-- the i-th element's cells -/
def ElemAt (size : Nat) (xs : List D) (i : Nat) (zs : List D) : Prop := zs.length = size ∧ ∀ j, j < size → xs[i * size + j]? = zs[j]?
theorem P_indexRow {n : Nat} {xs zs : List D} {e : TypeId} {size bytes : Nat} {k : IntKind} {i : Int} [hT : TySlice P t e size bytes] (ho : o.op = .indexAddr t x y) (hx : S.ev x = some (.row n xs)) (hy : S.ev y = some (.val (.int k i)))
    (h0 : 0 ≤ i) (hi : i < n) (he : ElemAt size xs i.toNat zs) : PStep P o S (.obj zs) :=
  PStep.pure fun w0 I0 ρ I ac w g => by
    have h2 := (g.ev hy).val_eq
    have h := g.ev hx
    generalize hv : ac.eval x = v at h
    cases h with | im h => cases h with
    | row hc hm hn hl ha hs ho' hr =>
      rename_i ao cap b off us
      obtain ⟨ii, zz, hii, hzz, hsz, hby, hzs⟩ := hT.info
      have hpos := hT.pos
      obtain ⟨he1, he2⟩ := he
      have hlen : i.toNat * size + size ≤ us.length := by
        have := he2 (size - 1) (by omega)
        rw [List.getElem?_eq_getElem (by omega : size - 1 < zs.length)] at this
        have := (List.getElem?_eq_some_iff.1 this).1
        omega
      obtain ⟨rfl, hI⟩ := ha (by omega)
      have hlen2 : ((us.drop (i.toNat * size)).take size).length = size := by rw [List.length_take, List.length_drop]; omega
      refine ⟨.pointer (some ⟨b, off + i.toNat * size, none⟩), ?_, .im (.obj hI (us := (us.drop (i.toNat * size)).take size) (by rw [hlen2, he1]) ((LiesAt.drop hs _).take _) (fun u hu => ho' u (List.mem_of_mem_drop (List.mem_of_mem_take hu))) fun j d u h7 h8 => ?_)⟩
      · simp [execOp, ho, hv, h2, Instr.indexAt, asIntOf, run_underlying hT.ty, h0, hi, sizeOf, typeInfo, hii, hsz, Addr.add_mid]
      · have hj : j < size := by have := (List.getElem?_eq_some_iff.1 h7).1; omega
        rw [List.getElem?_take, if_pos hj, List.getElem?_drop] at h8
        exact hr (i.toNat * size + j) d u (by rw [he2 j hj]; exact h7) h8
theorem P_indexOwn {n b : Nat} {e : TypeId} {size bytes : Nat} {k : IntKind} {i : Int} [hT : TySlice P t e size bytes] (ho : o.op = .indexAddr t x y) (hx : S.ev x = some (.own b n)) (hy : S.ev y = some (.val (.int k i)))
    (h0 : 0 ≤ i) (hi : i < n) : PStep P o S (.ptr b (i.toNat * size)) :=
  PStep.pure fun w0 I0 ρ I ac w g => by
    have h2 := (g.ev hy).val_eq
    have h := g.ev hx
    generalize hv : ac.eval x = v at h
    cases h with
    | im h => cases h
    | own hb h0' =>
      cases hρ : ρ b with
      | none => have := h0' hρ; omega
      | some gc =>
        obtain ⟨gb, cap⟩ := gc
        obtain ⟨ii, zz, hii, hzz, hsz, hby, hzs⟩ := hT.info
        refine ⟨_, ?_, .ptr hb hρ⟩
        rw [hρ] at hv
        simp [execOp, ho, hv, sv, h2, Instr.indexAt, asIntOf, run_underlying hT.ty, h0, hi, sizeOf, typeInfo, hii, hsz, Addr.add_mid]
theorem RA.ints : ∀ {nb : Nat} {xs : List Int} {v : Value}, RA ρ nb I w (.agg (xs.map D.int)) v → v = .agg (xs.map (Value.int .i64)).toArray := fun {nb} {xs} {v} h => by
  obtain ⟨us, rfl, h1, h2, h3⟩ := h.cells
  congr 2
  refine List.ext_getElem (by simpa using h1.symm) fun j a b => ?_
  have hj : j < xs.length := by simpa using b
  have := (h3 j (D.int xs[j]) us[j] (by rw [List.getElem?_map, List.getElem?_eq_getElem hj]; rfl) (List.getElem?_eq_getElem a)).val_eq
  rw [this]; simp
theorem P_eqR {yt : TypeId} {n : Nat} {xs ys : List Int} [hE : TyEqI P t n] (ho : o.op = .binOp .eql t x y yt) (hx : S.ev x = some (.agg (xs.map D.int))) (hy : S.ev y = some (.agg (ys.map D.int))) (h1 : xs.length = n) (h2 : ys.length = n) : PStep P o S (.val (.bool (decide (xs = ys)))) :=
  PStep.value rfl fun w0 I0 ρ I ac w g => by
    have e1 := (g.ev hx).ints
    have e2 := (g.ev hy).ints
    simp only [execOp, ho, e1, e2, Sem.run_bind, run_eqGuard_agg w .eql t x y _ _ hE.guard, Result.andThen_ok, run_eql_struct, hE.eq w xs ys h1 h2, Sem.run_pure]
theorem P_neR {yt : TypeId} {n : Nat} {xs ys : List Int} [hE : TyEqI P t n] (ho : o.op = .binOp .neq t x y yt) (hx : S.ev x = some (.agg (xs.map D.int))) (hy : S.ev y = some (.agg (ys.map D.int))) (h1 : xs.length = n) (h2 : ys.length = n) : PStep P o S (.val (.bool (!decide (xs = ys)))) :=
  PStep.value rfl fun w0 I0 ρ I ac w g => by
    have e1 := (g.ev hx).ints
    have e2 := (g.ev hy).ints
    simp only [execOp, ho, e1, e2, Sem.run_bind, run_eqGuard_agg w .neq t x y _ _ hE.guard, Result.andThen_ok, run_neq_struct, hE.eq w xs ys h1 h2, Sem.run_pure]
theorem P_eqR3 {yt : TypeId} {a b c d e f : Int} [hE : TyEqI P t 3] (ho : o.op = .binOp .eql t x y yt) (hx : S.ev x = some (.agg [.val (.int .i64 a), .val (.int .i64 b), .val (.int .i64 c)])) (hy : S.ev y = some (.agg [.val (.int .i64 d), .val (.int .i64 e), .val (.int .i64 f)])) : PStep P o S (.val (.bool (decide (a = d ∧ b = e ∧ c = f)))) := by
  have h := P_eqR (P := P) (n := 3) (xs := [a, b, c]) (ys := [d, e, f]) ho hx hy rfl rfl
  have e : decide ([a, b, c] = [d, e, f]) = decide (a = d ∧ b = e ∧ c = f) := by simp
  rwa [e] at h
theorem P_neR3 {yt : TypeId} {a b c d e f : Int} [hE : TyEqI P t 3] (ho : o.op = .binOp .neq t x y yt) (hx : S.ev x = some (.agg [.val (.int .i64 a), .val (.int .i64 b), .val (.int .i64 c)])) (hy : S.ev y = some (.agg [.val (.int .i64 d), .val (.int .i64 e), .val (.int .i64 f)])) : PStep P o S (.val (.bool (decide (¬ (a = d ∧ b = e ∧ c = f))))) := by
  have h := P_neR (P := P) (n := 3) (xs := [a, b, c]) (ys := [d, e, f]) ho hx hy rfl rfl
  have e : (!decide ([a, b, c] = [d, e, f])) = decide (¬ (a = d ∧ b = e ∧ c = f)) := by simp
  rwa [e] at h
theorem P_eqR3T {yt : TypeId} {a b c d e f : Int} [hE : TyEqI P t 3] (ho : o.op = .binOp .eql t x y yt) (hx : S.ev x = some (.agg [.val (.int .i64 a), .val (.int .i64 b), .val (.int .i64 c)])) (hy : S.ev y = some (.agg [.val (.int .i64 d), .val (.int .i64 e), .val (.int .i64 f)])) (h : a = d ∧ b = e ∧ c = f) : PStep P o S (.val (.bool true)) := by
  have k := P_eqR3 (P := P) ho hx hy; rwa [decide_eq_true h] at k
theorem P_neR3F {yt : TypeId} {a b c d e f : Int} [hE : TyEqI P t 3] (ho : o.op = .binOp .neq t x y yt) (hx : S.ev x = some (.agg [.val (.int .i64 a), .val (.int .i64 b), .val (.int .i64 c)])) (hy : S.ev y = some (.agg [.val (.int .i64 d), .val (.int .i64 e), .val (.int .i64 f)])) (h : a = d ∧ b = e ∧ c = f) : PStep P o S (.val (.bool false)) := by
  have k := P_neR3 (P := P) ho hx hy; rwa [decide_eq_false (fun n => n h)] at k
theorem P_eqR3F {yt : TypeId} {a b c d e f : Int} [hE : TyEqI P t 3] (ho : o.op = .binOp .eql t x y yt) (hx : S.ev x = some (.agg [.val (.int .i64 a), .val (.int .i64 b), .val (.int .i64 c)])) (hy : S.ev y = some (.agg [.val (.int .i64 d), .val (.int .i64 e), .val (.int .i64 f)])) (h : ¬ (a = d ∧ b = e ∧ c = f)) : PStep P o S (.val (.bool false)) := by
  have k := P_eqR3 (P := P) ho hx hy; rwa [decide_eq_false h] at k
theorem P_neR3T {yt : TypeId} {a b c d e f : Int} [hE : TyEqI P t 3] (ho : o.op = .binOp .neq t x y yt) (hx : S.ev x = some (.agg [.val (.int .i64 a), .val (.int .i64 b), .val (.int .i64 c)])) (hy : S.ev y = some (.agg [.val (.int .i64 d), .val (.int .i64 e), .val (.int .i64 f)])) (h : ¬ (a = d ∧ b = e ∧ c = f)) : PStep P o S (.val (.bool true)) := by
  have k := P_neR3 (P := P) ho hx hy; rwa [decide_eq_true h] at k
class TyBool (P : Program) (t : TypeId) : Prop where
  ty : P.underlying t = some .bool
theorem P_eqlB {yt : TypeId} {a b : Bool} [hT : TyBool P t] (ho : o.op = .binOp .eql t x y yt) (hx : S.ev x = some (.val (.bool a))) (hy : S.ev y = some (.val (.bool b))) : PStep P o S (.val (.bool (a == b))) :=
  PStep.value rfl fun w0 I0 ρ I ac w g => by
    have h1 := (g.ev hx).val_eq; have h2 := (g.ev hy).val_eq
    have e : (Op.equalIn 10000 t (.bool a) (.bool b)).run P w = .ok (a == b) w := run_equalIn_bool' w 9999 t a b hT.ty
    simp [execOp, ho, h1, h2, eqGuard_at_bool, binOp, Op.equal, Op.maxDepth, e]
theorem P_neqB {yt : TypeId} {a b : Bool} [hT : TyBool P t] (ho : o.op = .binOp .neq t x y yt) (hx : S.ev x = some (.val (.bool a))) (hy : S.ev y = some (.val (.bool b))) : PStep P o S (.val (.bool (!(a == b)))) :=
  PStep.value rfl fun w0 I0 ρ I ac w g => by
    have h1 := (g.ev hx).val_eq; have h2 := (g.ev hy).val_eq
    have e : (Op.equalIn 10000 t (.bool a) (.bool b)).run P w = .ok (a == b) w := run_equalIn_bool' w 9999 t a b hT.ty
    simp [execOp, ho, h1, h2, eqGuard_at_bool, binOp, Op.equal, Op.maxDepth, e]
/-! ### calls -/
structure DC (P : Program) (f : Nat) (ds : List D) (r : D) : Prop where
  fn : ∃ fn, P.funcs[f]? = some fn ∧ (fn.name == "runtime.NumGoroutine") = false ∧ fn.body.isNone = false
  calls : ∀ (w : World) (I : Nat → Prop) (vs : List Value), (∀ b, I b → b < w.heap.size) → ds.length = vs.length → (∀ (j : Nat) (d : D) (v : Value), ds[j]? = some d → vs[j]? = some v → RC I w d v) →
    Calls P f vs.toArray w fun e w' => ∃ v, e = .returned v ∧ RC (fun b => I b ∨ (w.heap.size ≤ b ∧ b < w'.heap.size)) w' r v ∧ Later w w'
theorem DC.to {f : Nat} {ds ds' : List D} {r r' : D} (h : DC P f ds r) (hd : ds = ds') (hr : r = r') : DC P f ds' r' := by subst hd; subst hr; exact h
theorem exec_call {f : Nat} {c : Operand} {args : Array Operand} {ats : Array TypeId} {es cs : List Value} (hf : ∃ fn, P.funcs[f]? = some fn ∧ (fn.name == "runtime.NumGoroutine") = false ∧ fn.body.isNone = false)
    (ho : o.op = .call { callee := .value c, args := args, argTypes := ats }) (hc : a.eval c = .func (.func f) es.toArray cs.toArray) : (execOp a.eval o).run P w = .ok (.enter f (es ++ args.toList.map a.eval ++ cs).toArray) w := by
  obtain ⟨fn, h1, h2, h3⟩ := hf
  cases args
  have h2' : ¬ fn.name = "runtime.NumGoroutine" := by simpa using h2
  have h3' : ¬ fn.body = none := by intro h; rw [h] at h3; cases h3
  simp [execOp, ho, resolve, hc, Deferred.ofValue, invoke, callFunc, program, Sem.run, h1, h2', h3']
theorem P_call {f : Nat} {c : Operand} {args : Array Operand} {ats : Array TypeId} {es ds cs : List D} {r : D} (hc : S.ev c = some (.fn f es cs)) (hd : S.evs args.toList = some ds) (ho : o.op = .call { callee := .value c, args := args, argTypes := ats })
    (hcl : D.idsL (fun _ => false) (es ++ ds ++ cs) = true) (h : DC P f (es ++ ds ++ cs) r) : PStep P o S r := fun w0 I0 ρ I ac w next Q g q => by
  obtain ⟨us, vs, h1, h2, h3, h4, h5⟩ : ∃ us vs : List Value, ac.eval c = .func (.func f) us.toArray vs.toArray ∧ es.length = us.length ∧ cs.length = vs.length ∧ (∀ (j : Nat) (d : D) (u : Value), es[j]? = some d → us[j]? = some u → RA ρ S.nb I w d u) ∧ (∀ (j : Nat) (d : D) (u : Value), cs[j]? = some d → vs[j]? = some u → RA ρ S.nb I w d u) := by
    have hh := g.ev hc
    generalize ac.eval c = v at hh
    cases hh with
    | im hh => cases hh with | fn hl hk hr hq => exact ⟨_, _, rfl, hl, hk, fun j d u h1 h2 => .im (hr j d u h1 h2), fun j d u h1 h2 => .im (hq j d u h1 h2)⟩
    | fn hl hk hr hq => exact ⟨_, _, rfl, hl, hk, hr, hq⟩
  obtain ⟨h6, h7⟩ := g.evs hd
  unfold Oper.wp
  rw [exec_call h.fn ho h1]
  refine (h.calls w I _ g.lt (by simp only [List.length_append]; omega) fun j d v hj hv => ?_).mono ?_
  · refine RA.closed (ρ := ρ) (nb := S.nb) ?_ (idsL_mem hcl j d hj)
    by_cases j1 : j < es.length
    · rw [List.append_assoc, List.getElem?_append_left j1] at hj
      rw [List.append_assoc, List.getElem?_append_left (by omega)] at hv
      exact h4 j d v hj hv
    · rw [List.append_assoc, List.getElem?_append_right (by omega)] at hj
      rw [List.append_assoc, List.getElem?_append_right (by omega)] at hv
      by_cases j2 : j - es.length < ds.length
      · rw [List.getElem?_append_left j2] at hj
        rw [List.getElem?_append_left (by omega)] at hv
        exact h7 _ d v hj (by rw [h2]; exact hv)
      · rw [List.getElem?_append_right (by omega)] at hj
        rw [List.getElem?_append_right (by omega)] at hv
        exact h5 _ d v hj (by rw [h2, h6]; exact hv)
  · rintro e w' ⟨v, rfl, hv, hl⟩
    exact q v w' _ ⟨fun b h => .inl h, fun b h => h, hl⟩ (.im hv)
end
end Go.Proofs.Ytifapodobhkdcaa
