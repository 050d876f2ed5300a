/- The abstract machine's steps, with premises that are found by themselves. -/
import Derived.Test.YtifapodobhkdcaaAbsP
namespace Go.Proofs.Ytifapodobhkdcaa
open Go.RowKit
set_option linter.unusedVariables false
set_option linter.unusedSimpArgs false
theorem idsL_rep {p : Nat → Bool} {d : D} (h : d.ids p = true) (n : Nat) : D.idsL p (List.replicate n d) = true := idsL_of fun j e hj => by
  rw [List.getElem?_replicate] at hj
  split at hj <;> cases hj
  exact h
section
variable {P : Program} {ops : Array Oper} {S : St} {K : St → Prop} {o : Oper} {rest : List Oper} {x y : Operand} {T' : TypeId}
variable {nb sz : Nat} {tmp : List (Nat × D)} {mem : List (Nat × Option M)} {t : Nat} {op : Op} {ty : TypeId} {pos : String} {af : Array Edge} {gd : Option (Nat × Bool)}
/-- one operation, from what is known to what is known -/
structure MS (P : Program) (ops : Array Oper) (o : Oper) (S S' : St) : Prop where
  h : ∀ (rest : List Oper) (K : St → Prop), T P ops rest S' K → T P ops (o :: rest) S K
theorem P_loadAgg5 {d d1 d2 d3 d4 d5 : D} {ys : List D} [hT : TyAgg P T' 5] (ho : o.op = .load T' x) (hx : S.ev x = some d) (hc : cellsD S.mem d = some (d1 :: d2 :: d3 :: d4 :: d5 :: ys)) : PStep P o S (.agg [d1, d2, d3, d4, d5]) := P_loadAgg ho hx hc rfl rfl
theorem P_loadAgg6 {d d1 d2 d3 d4 d5 d6 : D} {ys : List D} [hT : TyAgg P T' 6] (ho : o.op = .load T' x) (hx : S.ev x = some d) (hc : cellsD S.mem d = some (d1 :: d2 :: d3 :: d4 :: d5 :: d6 :: ys)) : PStep P o S (.agg [d1, d2, d3, d4, d5, d6]) := P_loadAgg ho hx hc rfl rfl
theorem P_fieldAgg1 {f off : Nat} {ft : TypeId} {xs ys : List D} {d1 : D} [hT : TyField P T' f off ft] [hC : TyAgg P ft 1] (ho : o.op = .field T' x f) (hx : S.ev x = some (.agg xs)) (he : xs.drop off = d1 :: ys) : PStep P o S (.agg [d1]) := P_fieldAgg ho hx (by rw [he]; rfl) rfl
theorem P_fieldAgg2 {f off : Nat} {ft : TypeId} {xs ys : List D} {d1 d2 : D} [hT : TyField P T' f off ft] [hC : TyAgg P ft 2] (ho : o.op = .field T' x f) (hx : S.ev x = some (.agg xs)) (he : xs.drop off = d1 :: d2 :: ys) : PStep P o S (.agg [d1, d2]) := P_fieldAgg ho hx (by rw [he]; rfl) rfl
theorem P_fieldAgg3 {f off : Nat} {ft : TypeId} {xs ys : List D} {d1 d2 d3 : D} [hT : TyField P T' f off ft] [hC : TyAgg P ft 3] (ho : o.op = .field T' x f) (hx : S.ev x = some (.agg xs)) (he : xs.drop off = d1 :: d2 :: d3 :: ys) : PStep P o S (.agg [d1, d2, d3]) := P_fieldAgg ho hx (by rw [he]; rfl) rfl
theorem P_build5 {zs : List Value} {zd : List D} {place : Nat → Option (Nat × Nat)} {parts : Array (Nat × Operand)} {ds : List (Nat × D)} {e1 e2 e3 e4 e5 : D} [hz : TyBuild P T' zs zd place] (ho : o.op = .build T' parts) (hp : St.evParts ⟨nb, sz, tmp, mem⟩ parts.toList = some ds) (hf : fillD place ds zd = some [e1, e2, e3, e4, e5]) : PStep P o ⟨nb, sz, tmp, mem⟩ (.agg [e1, e2, e3, e4, e5]) := P_build ho hp hf
theorem P_build6 {zs : List Value} {zd : List D} {place : Nat → Option (Nat × Nat)} {parts : Array (Nat × Operand)} {ds : List (Nat × D)} {e1 e2 e3 e4 e5 e6 : D} [hz : TyBuild P T' zs zd place] (ho : o.op = .build T' parts) (hp : St.evParts ⟨nb, sz, tmp, mem⟩ parts.toList = some ds) (hf : fillD place ds zd = some [e1, e2, e3, e4, e5, e6]) : PStep P o ⟨nb, sz, tmp, mem⟩ (.agg [e1, e2, e3, e4, e5, e6]) := P_build ho hp hf
/-- a literal's element -/
theorem P_indexLit1 {n bytes i : Nat} {xs : List D} {e : TypeId} {d : D} {ki : IntKind} [hT : TySlice P T' e 1 bytes] (ho : o.op = .indexAddr T' x y) (hx : S.ev x = some (.row n xs)) (hy : S.ev y = some (.val (.int ki ((i : Nat) : Int)))) (hn : Nat.blt i n = true) (hd : xs[i]? = some d) : PStep P o S (.obj [d]) :=
  P_indexRow ho hx hy (by omega) (by have : i < n := by simpa using hn
                                     omega) ⟨rfl, fun j hj => by
    have h1 : j < 1 := hj
    have : j = 0 := by omega
    subst this
    show xs[((i : Nat) : Int).toNat * 1 + 0]? = _
    simp [hd]⟩
theorem P_indexLit3 {n bytes i : Nat} {xs ys : List D} {e : TypeId} {d1 d2 d3 : D} {ki : IntKind} [hT : TySlice P T' e 3 bytes] (ho : o.op = .indexAddr T' x y) (hx : S.ev x = some (.row n xs)) (hy : S.ev y = some (.val (.int ki ((i : Nat) : Int)))) (hn : Nat.blt i n = true) (hd : xs.drop (i * 3) = d1 :: d2 :: d3 :: ys) : PStep P o S (.obj [d1, d2, d3]) :=
  P_indexRow ho hx hy (by omega) (by have : i < n := by simpa using hn
                                     omega) ⟨rfl, fun j hj => by
    have h := List.getElem?_drop (xs := xs) (i := i * 3) (j := j)
    rw [hd] at h
    show xs[((i : Nat) : Int).toNat * 3 + j]? = _
    rw [Int.toNat_natCast, ← h]
    have h1 : j < 3 := hj
    clear h hj
    match j, h1 with
    | 0, _ => rfl
    | 1, _ => rfl
    | 2, _ => rfl⟩
theorem P_iF {α : Type} {f : α → List D} {m : Nat} {l : List α} {n k bytes : Nat} {e : TypeId} {ki : IntKind} [hT : TySlice P T' e m bytes] (ho : o.op = .indexAddr T' x y) (hx : S.ev x = some (.row n (l.flatMap f))) (hy : S.ev y = some (.val (.int ki ((k : Nat) : Int)))) (hn : n = l.length) (hf : ∀ a, (f a).length = m) (hk : k < l.length) : PStep P o S (.obj (f l[k])) := P_indexF hf ho hx hy hn hk
theorem P_iF' {α : Type} {f : α → List D} {m : Nat} {l : List α} {n bytes : Nat} {i : Int} {e : TypeId} {ki : IntKind} [hT : TySlice P T' e m bytes] (ho : o.op = .indexAddr T' x y) (hx : S.ev x = some (.row n (l.flatMap f))) (hy : S.ev y = some (.val (.int ki i))) (hn : n = l.length) (hf : ∀ a, (f a).length = m) (h0 : 0 ≤ i) (hk : i.toNat < l.length) : PStep P o S (.obj (f l[i.toNat])) := P_indexF' hf ho hx hy hn h0 hk
theorem P_iF0 {α : Type} {f : α → List D} {m : Nat} {l : List α} {n bytes : Nat} {e : TypeId} {ki : IntKind} [hT : TySlice P T' e m bytes] (ho : o.op = .indexAddr T' x y) (hx : S.ev x = some (.row n (l.flatMap f))) (hy : S.ev y = some (.val (.int ki 0))) (hn : n = l.length) (hf : ∀ a, (f a).length = m) (hk : 0 < l.length) : PStep P o S (.obj (f l[0])) := P_indexF_0 hf ho hx hy hn hk
theorem P_iF1 {α : Type} {f : α → List D} {m : Nat} {l : List α} {n bytes : Nat} {e : TypeId} {ki : IntKind} [hT : TySlice P T' e m bytes] (ho : o.op = .indexAddr T' x y) (hx : S.ev x = some (.row n (l.flatMap f))) (hy : S.ev y = some (.val (.int ki 1))) (hn : n = l.length) (hf : ∀ a, (f a).length = m) (hk : 1 < l.length) : PStep P o S (.obj (f l[1])) := P_indexF_1 hf ho hx hy hn hk
theorem P_lenOwn {b n size bytes : Nat} {e : TypeId} {m : M} {c : Int} [hT : TySlice P T' e size bytes] (ho : o.op = .call { callee := .builtin .len, args := #[x], argTypes := #[T'] }) (hx : S.ev x = some (.own b n)) (hm : getM b S.mem = some m) (hq : m.n = n) (hn : (n : Int) = c) : PStep P o S (.val (.int .i64 c)) :=
  P_len ho hx (n := n) (xs := m.xs) (by simp only [sliceD, hm, hq, Nat.beq_refl]; rfl) hn
theorem P_gLen {d : D} (h : PStep P o S d := by first | exact P_len rfl rfl rfl rfl | exact P_lenOwn rfl rfl rfl rfl rfl) : PStep P o S d := h
theorem P_gLss {d : D} (h : PStep P o S d := by first | exact P_lssT rfl rfl rfl (by omega) | exact P_lssF rfl rfl rfl (by omega) | exact P_lss rfl rfl rfl) : PStep P o S d := h
theorem P_gLeq {d : D} (h : PStep P o S d := by first | exact P_leqT rfl rfl rfl (by omega) | exact P_leqF rfl rfl rfl (by omega) | exact P_leq rfl rfl rfl) : PStep P o S d := h
theorem P_gGtr {d : D} (h : PStep P o S d := by first | exact P_gtrT rfl rfl rfl (by omega) | exact P_gtrF rfl rfl rfl (by omega) | exact P_gtr rfl rfl rfl) : PStep P o S d := h
theorem P_gGeq {d : D} (h : PStep P o S d := by first | exact P_geqT rfl rfl rfl (by omega) | exact P_geqF rfl rfl rfl (by omega) | exact P_geq rfl rfl rfl) : PStep P o S d := h
theorem P_gEql {d : D} (h : PStep P o S d := by first | exact P_eqlT rfl rfl rfl (by omega) | exact P_eqlF rfl rfl rfl (by omega) | exact P_eql rfl rfl rfl) : PStep P o S d := h
theorem P_gNeq {d : D} (h : PStep P o S d := by first | exact P_neqT rfl rfl rfl (by omega) | exact P_neqF rfl rfl rfl (by omega) | exact P_neq rfl rfl rfl) : PStep P o S d := h
theorem P_gEqs {d : D} (h : PStep P o S d := by first | exact P_eqsT rfl rfl rfl (by assumption) | exact P_eqsF rfl rfl rfl (by assumption) | exact P_eqs rfl rfl rfl) : PStep P o S d := h
theorem P_gNes {d : D} (h : PStep P o S d := by first | exact P_nesF rfl rfl rfl (by assumption) | exact P_nesT rfl rfl rfl (by assumption)) : PStep P o S d := h
theorem P_gEqR {d : D} (h : PStep P o S d := by first | exact P_eqR3T rfl rfl rfl ⟨rfl, rfl, rfl⟩ | exact P_eqR3T rfl rfl rfl (by assumption) | exact P_eqR3F rfl rfl rfl (by assumption) | exact P_eqR3 rfl rfl rfl) : PStep P o S d := h
theorem P_gNeR {d : D} (h : PStep P o S d := by first | exact P_neR3F rfl rfl rfl ⟨rfl, rfl, rfl⟩ | exact P_neR3F rfl rfl rfl (by assumption) | exact P_neR3T rfl rfl rfl (by assumption) | exact P_neR3 rfl rfl rfl) : PStep P o S d := h
theorem P_gEqB {d : D} (h : PStep P o S d := by first | exact P_eqlB rfl rfl rfl) : PStep P o S d := h
theorem P_gNeB {d : D} (h : PStep P o S d := by first | exact P_neqB rfl rfl rfl) : PStep P o S d := h
theorem P_gAdd {d : D} (h : PStep P o S d := by first | exact P_add rfl rfl rfl (w64 (by omega) (by omega))) : PStep P o S d := h
theorem P_gSub {d : D} (h : PStep P o S d := by first | exact P_sub rfl rfl rfl (w64 (by omega) (by omega))) : PStep P o S d := h
theorem P_gMul {d : D} (h : PStep P o S d := by first | exact P_mul rfl rfl rfl (w64 (by omega) (by omega))) : PStep P o S d := h
theorem P_gQuo {d : D} (h : PStep P o S d := by first | exact P_quo rfl rfl rfl (by omega) (quo64 (by omega) (by omega))) : PStep P o S d := h
theorem P_gRem {d : D} (h : PStep P o S d := by first | exact P_rem rfl rfl rfl (by omega) rfl) : PStep P o S d := h
theorem P_gNeg {d : D} (h : PStep P o S d := by first | exact P_neg rfl rfl (neg64 (by omega) (by omega))) : PStep P o S d := h
theorem P_gNot {d : D} (h : PStep P o S d := by first | exact P_notT rfl rfl | exact P_notF rfl rfl | exact P_not rfl rfl) : PStep P o S d := h
theorem P_gPick {d : D} (h : PStep P o S d := by first | exact P_pickT rfl rfl rfl | exact P_pickF rfl rfl rfl | exact P_pick rfl rfl (fun _ => rfl) (fun _ => rfl)) : PStep P o S d := h
theorem P_gFA {d : D} (h : PStep P o S d := by first | exact P_fieldPtr rfl rfl | exact P_fieldObj rfl rfl) : PStep P o S d := h
theorem P_gFld {d : D} (h : PStep P o S d := by first | exact P_field rfl rfl rfl | exact P_fieldAgg3 rfl rfl rfl | exact P_fieldAgg1 rfl rfl rfl | exact P_fieldAgg2 rfl rfl rfl) : PStep P o S d := h
theorem P_gNil {d : D} (h : PStep P o S d := by first | exact P_nilPtr rfl rfl | exact P_nilObj rfl rfl) : PStep P o S d := h
theorem P_gMin {d : D} (h : PStep P o S d := by first | exact P_minL rfl rfl rfl (by omega) | exact P_minR rfl rfl rfl (by omega) | exact P_min rfl rfl rfl (by assumption) | exact P_min rfl rfl rfl (Eq.refl _)) : PStep P o S d := h
theorem P_gMax {d : D} (h : PStep P o S d := by first | exact P_maxL rfl rfl rfl (by omega) | exact P_maxR rfl rfl rfl (by omega) | exact P_max rfl rfl rfl (by assumption) | exact P_max rfl rfl rfl (Eq.refl _)) : PStep P o S d := h
theorem P_gIdx1 {d : D} (h : PStep P o S d := by first | exact P_indexOwn rfl rfl rfl (by omega) (by omega) | exact P_index1 rfl rfl rfl (by first | rfl | omega) (by omega) | exact P_index1_0 rfl rfl rfl (by first | rfl | omega) (by omega) | exact P_index1_1 rfl rfl rfl (by first | rfl | omega) (by omega) | exact P_index1' rfl rfl rfl (by first | rfl | omega) (by omega) (by omega) | exact P_indexLit1 (i := 0) rfl rfl rfl rfl rfl | exact P_indexLit1 (i := 1) rfl rfl rfl rfl rfl | exact P_indexLit1 (i := 2) rfl rfl rfl rfl rfl) : PStep P o S d := h
theorem P_gIdxF {d : D} (h : PStep P o S d := by first | exact P_indexOwn rfl rfl rfl (by omega) (by omega) | exact P_iF rfl rfl rfl (by first | rfl | omega) (by intro _; rfl) (by omega) | exact P_iF0 rfl rfl rfl (by first | rfl | omega) (by intro _; rfl) (by omega) | exact P_iF1 rfl rfl rfl (by first | rfl | omega) (by intro _; rfl) (by omega) | exact P_iF' rfl rfl rfl (by first | rfl | omega) (by intro _; rfl) (by omega) (by omega) | exact P_indexLit3 (i := 0) rfl rfl rfl rfl rfl | exact P_indexLit3 (i := 1) rfl rfl rfl rfl rfl | exact P_indexLit3 (i := 2) rfl rfl rfl rfl rfl) : PStep P o S d := h
theorem P_gConv {d : D} (h : PStep P o S d := by first | exact P_convert rfl rfl rfl rfl (w64 (by omega) (by omega))) : PStep P o S d := h
theorem P_gB1 {d : D} (h : PStep P o S d := by exact P_build1 rfl rfl rfl) : PStep P o S d := h
theorem P_gB2 {d : D} (h : PStep P o S d := by exact P_build2 rfl rfl rfl) : PStep P o S d := h
theorem P_gB3 {d : D} (h : PStep P o S d := by exact P_build3 rfl rfl rfl) : PStep P o S d := h
theorem P_gB4 {d : D} (h : PStep P o S d := by exact P_build4 rfl rfl rfl) : PStep P o S d := h
theorem P_gB5 {d : D} (h : PStep P o S d := by exact P_build5 rfl rfl rfl) : PStep P o S d := h
theorem P_gB6 {d : D} (h : PStep P o S d := by exact P_build6 rfl rfl rfl) : PStep P o S d := h
theorem ev_nb {a b : Nat} (x : Operand) : St.ev ⟨a, sz, tmp, mem⟩ x = St.ev ⟨b, sz, tmp, mem⟩ x := by cases x <;> rfl
theorem PA_index1 {α : Type} {f : α → D} {l : List α} {n k bytes : Nat} {e : TypeId} {ki : IntKind} [hT : TySlice P T' e 1 bytes] (ho : o.op = .indexAddr T' x y) (hx : St.ev ⟨0, sz, tmp, mem⟩ x = some (.row n (l.map f))) (hy : St.ev ⟨0, sz, tmp, mem⟩ y = some (.val (.int ki ((k : Nat) : Int)))) (hn : n = l.length) (hk : k < l.length) : ∀ nb, PStep P o ⟨nb, sz, tmp, mem⟩ (.obj [f l[k]]) :=
  fun nb => P_index1 ho ((ev_nb x).trans hx) ((ev_nb y).trans hy) hn hk
theorem PA_index1' {α : Type} {f : α → D} {l : List α} {n bytes : Nat} {i : Int} {e : TypeId} {ki : IntKind} [hT : TySlice P T' e 1 bytes] (ho : o.op = .indexAddr T' x y) (hx : St.ev ⟨0, sz, tmp, mem⟩ x = some (.row n (l.map f))) (hy : St.ev ⟨0, sz, tmp, mem⟩ y = some (.val (.int ki i))) (hn : n = l.length) (h0 : 0 ≤ i) (hk : i.toNat < l.length) : ∀ nb, PStep P o ⟨nb, sz, tmp, mem⟩ (.obj [f l[i.toNat]]) :=
  fun nb => P_index1' ho ((ev_nb x).trans hx) ((ev_nb y).trans hy) hn h0 hk
theorem PA_index1_0 {α : Type} {f : α → D} {l : List α} {n bytes : Nat} {e : TypeId} {ki : IntKind} [hT : TySlice P T' e 1 bytes] (ho : o.op = .indexAddr T' x y) (hx : St.ev ⟨0, sz, tmp, mem⟩ x = some (.row n (l.map f))) (hy : St.ev ⟨0, sz, tmp, mem⟩ y = some (.val (.int ki 0))) (hn : n = l.length) (hk : 0 < l.length) : ∀ nb, PStep P o ⟨nb, sz, tmp, mem⟩ (.obj [f l[0]]) := PA_index1 (k := 0) ho hx hy hn hk
theorem PA_index1_1 {α : Type} {f : α → D} {l : List α} {n bytes : Nat} {e : TypeId} {ki : IntKind} [hT : TySlice P T' e 1 bytes] (ho : o.op = .indexAddr T' x y) (hx : St.ev ⟨0, sz, tmp, mem⟩ x = some (.row n (l.map f))) (hy : St.ev ⟨0, sz, tmp, mem⟩ y = some (.val (.int ki 1))) (hn : n = l.length) (hk : 1 < l.length) : ∀ nb, PStep P o ⟨nb, sz, tmp, mem⟩ (.obj [f l[1]]) := PA_index1 (k := 1) ho hx hy hn hk
theorem PA_indexF {α : Type} {f : α → List D} {m : Nat} {l : List α} {n k bytes : Nat} {e : TypeId} {ki : IntKind} [hT : TySlice P T' e m bytes] (ho : o.op = .indexAddr T' x y) (hx : St.ev ⟨0, sz, tmp, mem⟩ x = some (.row n (l.flatMap f))) (hy : St.ev ⟨0, sz, tmp, mem⟩ y = some (.val (.int ki ((k : Nat) : Int)))) (hn : n = l.length) (hf : ∀ a, (f a).length = m) (hk : k < l.length) : ∀ nb, PStep P o ⟨nb, sz, tmp, mem⟩ (.obj (f l[k])) :=
  fun nb => P_indexF hf ho ((ev_nb x).trans hx) ((ev_nb y).trans hy) hn hk
theorem PA_indexF' {α : Type} {f : α → List D} {m : Nat} {l : List α} {n bytes : Nat} {i : Int} {e : TypeId} {ki : IntKind} [hT : TySlice P T' e m bytes] (ho : o.op = .indexAddr T' x y) (hx : St.ev ⟨0, sz, tmp, mem⟩ x = some (.row n (l.flatMap f))) (hy : St.ev ⟨0, sz, tmp, mem⟩ y = some (.val (.int ki i))) (hn : n = l.length) (hf : ∀ a, (f a).length = m) (h0 : 0 ≤ i) (hk : i.toNat < l.length) : ∀ nb, PStep P o ⟨nb, sz, tmp, mem⟩ (.obj (f l[i.toNat])) :=
  fun nb => P_indexF' hf ho ((ev_nb x).trans hx) ((ev_nb y).trans hy) hn h0 hk
theorem PA_indexF_0 {α : Type} {f : α → List D} {m : Nat} {l : List α} {n bytes : Nat} {e : TypeId} {ki : IntKind} [hT : TySlice P T' e m bytes] (ho : o.op = .indexAddr T' x y) (hx : St.ev ⟨0, sz, tmp, mem⟩ x = some (.row n (l.flatMap f))) (hy : St.ev ⟨0, sz, tmp, mem⟩ y = some (.val (.int ki 0))) (hn : n = l.length) (hf : ∀ a, (f a).length = m) (hk : 0 < l.length) : ∀ nb, PStep P o ⟨nb, sz, tmp, mem⟩ (.obj (f l[0])) := PA_indexF (k := 0) ho hx hy hn hf hk
theorem PA_indexF_1 {α : Type} {f : α → List D} {m : Nat} {l : List α} {n bytes : Nat} {e : TypeId} {ki : IntKind} [hT : TySlice P T' e m bytes] (ho : o.op = .indexAddr T' x y) (hx : St.ev ⟨0, sz, tmp, mem⟩ x = some (.row n (l.flatMap f))) (hy : St.ev ⟨0, sz, tmp, mem⟩ y = some (.val (.int ki 1))) (hn : n = l.length) (hf : ∀ a, (f a).length = m) (hk : 1 < l.length) : ∀ nb, PStep P o ⟨nb, sz, tmp, mem⟩ (.obj (f l[1])) := PA_indexF (k := 1) ho hx hy hn hf hk
theorem PA_indexOwn {n b size bytes : Nat} {e : TypeId} {ki : IntKind} {i : Int} [hT : TySlice P T' e size bytes] (ho : o.op = .indexAddr T' x y) (hx : St.ev ⟨0, sz, tmp, mem⟩ x = some (.own b n)) (hy : St.ev ⟨0, sz, tmp, mem⟩ y = some (.val (.int ki i))) (h0 : 0 ≤ i) (hi : i < n) : ∀ nb, PStep P o ⟨nb, sz, tmp, mem⟩ (.ptr b (i.toNat * size)) :=
  fun nb => P_indexOwn ho ((ev_nb x).trans hx) ((ev_nb y).trans hy) h0 hi
theorem PA_gIdx1 {d : D} (h : ∀ nb, PStep P o ⟨nb, sz, tmp, mem⟩ d := by first | exact PA_indexOwn rfl rfl rfl (by omega) (by omega) | exact PA_index1 rfl rfl rfl (by first | rfl | omega) (by omega) | exact PA_index1_0 rfl rfl rfl (by first | rfl | omega) (by omega) | exact PA_index1_1 rfl rfl rfl (by first | rfl | omega) (by omega) | exact PA_index1' rfl rfl rfl (by first | rfl | omega) (by omega) (by omega) | exact (fun _ => P_indexLit1 (i := 0) rfl rfl rfl rfl rfl) | exact (fun _ => P_indexLit1 (i := 1) rfl rfl rfl rfl rfl) | exact (fun _ => P_indexLit1 (i := 2) rfl rfl rfl rfl rfl)) : ∀ nb, PStep P o ⟨nb, sz, tmp, mem⟩ d := h
theorem PA_gIdxF {d : D} (h : ∀ nb, PStep P o ⟨nb, sz, tmp, mem⟩ d := by first | exact PA_indexOwn rfl rfl rfl (by omega) (by omega) | exact PA_indexF rfl rfl rfl (by first | rfl | omega) (by intro _; rfl) (by omega) | exact PA_indexF_0 rfl rfl rfl (by first | rfl | omega) (by intro _; rfl) (by omega) | exact PA_indexF_1 rfl rfl rfl (by first | rfl | omega) (by intro _; rfl) (by omega) | exact PA_indexF' rfl rfl rfl (by first | rfl | omega) (by intro _; rfl) (by omega) (by omega) | exact (fun _ => P_indexLit3 (i := 0) rfl rfl rfl rfl rfl) | exact (fun _ => P_indexLit3 (i := 1) rfl rfl rfl rfl rfl) | exact (fun _ => P_indexLit3 (i := 2) rfl rfl rfl rfl rfl)) : ∀ nb, PStep P o ⟨nb, sz, tmp, mem⟩ d := h
theorem MS_p {d : D} (h : PStep P ⟨some t, op, ty, pos, af, gd⟩ ⟨nb, sz, tmp, mem⟩ d) (hg : St.guard ⟨nb, sz, tmp, mem⟩ ops ⟨some t, op, ty, pos, af, gd⟩ = some true) (ht : Nat.blt t sz = true) : MS P ops ⟨some t, op, ty, pos, af, gd⟩ ⟨nb, sz, tmp, mem⟩ ⟨nb, sz, (t, d) :: tmp, mem⟩ :=
  ⟨fun _ _ k => T_step h hg ht k⟩
theorem MS_pass (hg : St.guard ⟨nb, sz, tmp, mem⟩ ops ⟨some t, op, ty, pos, af, gd⟩ = some false) (ht : Nat.blt t sz = true) : MS P ops ⟨some t, op, ty, pos, af, gd⟩ ⟨nb, sz, tmp, mem⟩ ⟨nb, sz, (t, .tup []) :: tmp, mem⟩ :=
  ⟨fun _ _ k => T_pass hg ht k⟩
theorem T_storeAgg {b off sz' n' k' : Nat} {ty' : TypeId} {xs ys xs' : List D} (hx : St.ev ⟨nb, sz, tmp, mem⟩ x = some (.ptr b off)) (hy : St.ev ⟨nb, sz, tmp, mem⟩ y = some (.agg ys)) (hm : getM b mem = some ⟨ty', sz', n', xs⟩) (hg : St.guard ⟨nb, sz, tmp, mem⟩ ops ⟨none, .store T' x y, ty, pos, af, gd⟩ = some true)
    (hs : (P.info? T').map (·.size) = some k') (hk : ys.length = k') (hl : off + k' ≤ xs.length) (hp : putAt xs off ys = xs') (k : T P ops rest ⟨nb, sz, tmp, (b, some ⟨ty', sz', n', xs'⟩) :: mem⟩ K) : T P ops (⟨none, .store T' x y, ty, pos, af, gd⟩ :: rest) ⟨nb, sz, tmp, mem⟩ K :=
  T_store hx hy hm hg hs rfl rfl hk (Nat.ble_eq_true_of_le hl) hp k
theorem MS_Alloc {S' : St} (h : MS P ops o S S' := by first | exact ⟨fun _ _ k => T_alloc rfl rfl k⟩) : MS P ops o S S' := h
theorem MS_BoxA {S' : St} (h : MS P ops o S S' := by first | exact ⟨fun _ _ k => T_boxAgg rfl rfl rfl TySz.size rfl k⟩ | exact ⟨fun _ _ k => T_boxAgg rfl rfl rfl TySz.size (by assumption) k⟩) : MS P ops o S S' := h
theorem MS_BoxO {S' : St} (h : MS P ops o S S' := by first | exact ⟨fun _ _ k => T_boxOne rfl rfl rfl rfl k⟩) : MS P ops o S S' := h
theorem MS_StA {S' : St} (h : MS P ops o S S' := by first | exact ⟨fun _ _ k => T_storeAll rfl rfl rfl rfl TySz.size rfl rfl k⟩ | exact ⟨fun _ _ k => T_storeAgg rfl rfl rfl rfl TySz.size rfl (by omega) rfl k⟩) : MS P ops o S S' := h
theorem T_storeOne6 {b off sz' n' : Nat} {ty' : TypeId} {d e1 e2 e3 e4 e5 e6 : D} {xs : List D} (hx : St.ev ⟨nb, sz, tmp, mem⟩ x = some (.ptr b off)) (hy : St.ev ⟨nb, sz, tmp, mem⟩ y = some d) (hm : getM b mem = some ⟨ty', sz', n', xs⟩) (hp : xs.set off d = [e1, e2, e3, e4, e5, e6]) (hg : St.guard ⟨nb, sz, tmp, mem⟩ ops ⟨none, .store T' x y, ty, pos, af, gd⟩ = some true)
    (hs : (P.info? T').map (·.size) = some 1) (hd : oneD d = true) (hl : Nat.ble (off + 1) xs.length = true)
    (k : T P ops rest ⟨nb, sz, tmp, (b, some ⟨ty', sz', n', [e1, e2, e3, e4, e5, e6]⟩) :: mem⟩ K) : T P ops (⟨none, .store T' x y, ty, pos, af, gd⟩ :: rest) ⟨nb, sz, tmp, mem⟩ K :=
  T_store hx hy hm hg hs (by cases d <;> first | exact hd | rfl) (ys := [d]) (by cases d <;> first | rfl | cases hd) rfl hl hp k
theorem MS_StO {S' : St} (h : MS P ops o S S' := by first | exact ⟨fun _ _ k => T_storeOne1 rfl rfl rfl rfl rfl TySz.size rfl rfl k⟩ | exact ⟨fun _ _ k => T_storeOne3 rfl rfl rfl rfl rfl TySz.size rfl rfl k⟩ | exact ⟨fun _ _ k => T_storeOne2 rfl rfl rfl rfl rfl TySz.size rfl rfl k⟩ | exact ⟨fun _ _ k => T_storeOne4 rfl rfl rfl rfl rfl TySz.size rfl rfl k⟩ | exact ⟨fun _ _ k => T_storeOne6 rfl rfl rfl rfl rfl TySz.size rfl rfl k⟩ | exact ⟨fun _ _ k => T_storeOne rfl rfl rfl rfl TySz.size rfl (by first | omega | (simp only [List.length_map, List.length_replicate, List.length_set, List.length_append]; omega)) rfl k⟩) : MS P ops o S S' := h
theorem MS_Make {S' : St} (h : MS P ops o S S' := by first | exact ⟨fun _ _ k => T_make rfl rfl rfl rfl rfl (by omega) (by omega) k⟩ | exact ⟨fun _ _ k => T_make rfl rfl (by omega) rfl rfl (by omega) (by omega) k⟩) : MS P ops o S S' := h
theorem MS_Push {S' : St} (h : MS P ops o S S' := by first | exact ⟨fun _ _ k => T_push rfl rfl rfl rfl rfl rfl rfl rfl (by omega) (by omega) k⟩ | exact ⟨fun _ _ k => T_push rfl rfl rfl rfl rfl rfl rfl (by simp only [List.length_map, Nat.mul_one]) (by omega) (by omega) k⟩) : MS P ops o S S' := h
/-- a literal as a row of the call's own -/
theorem MS_lit {S' : St} (h : MS P ops o S S' := by
  first
  | exact ⟨fun _ _ k => T_lit0 rfl rfl rfl k⟩
  | exact ⟨fun _ _ k => T_lit1 rfl rfl rfl rfl rfl k⟩
  | exact ⟨fun _ _ k => T_lit rfl rfl rfl rfl rfl k⟩) : MS P ops o S S' := h
theorem go_m {S' : St} (h : MS P ops o S S') (k : T P ops rest S' K) : T P ops (o :: rest) S K := h.h rest K k
theorem go_p {d : D} (h : PStep P ⟨some t, op, ty, pos, af, gd⟩ ⟨nb, sz, tmp, mem⟩ d) (k : T P ops rest ⟨nb, sz, (t, d) :: tmp, mem⟩ K) (hg : St.guard ⟨nb, sz, tmp, mem⟩ ops ⟨some t, op, ty, pos, af, gd⟩ = some true := by rfl) (ht : Nat.blt t sz = true := by rfl) : T P ops (⟨some t, op, ty, pos, af, gd⟩ :: rest) ⟨nb, sz, tmp, mem⟩ K := T_step h hg ht k
theorem go_no (k : T P ops rest ⟨nb, sz, (t, .tup []) :: tmp, mem⟩ K) (hg : St.guard ⟨nb, sz, tmp, mem⟩ ops ⟨some t, op, ty, pos, af, gd⟩ = some false := by rfl) (ht : Nat.blt t sz = true := by rfl) : T P ops (⟨some t, op, ty, pos, af, gd⟩ :: rest) ⟨nb, sz, tmp, mem⟩ K := T_pass hg ht k
theorem go_l (t : Nat) {S' : St} (k : T P ops rest S' K) (h : MS P ops ⟨some t, op, ty, pos, af, gd⟩ S S' := by exact MS_lit) : T P ops (⟨some t, op, ty, pos, af, gd⟩ :: rest) S K := h.h rest K k
/-! calls; rows that are handed on are no more written to -/
theorem P_c {f : Nat} {c : Operand} {args : Array Operand} {ats : Array TypeId} {es ds cs : List D} {r : D} (h : DC P f (es ++ ds ++ cs) r) (hc : S.ev c = some (.fn f es cs)) (hd : S.evs args.toList = some ds) (ho : o.op = .call { callee := .value c, args := args, argTypes := ats })
    (hcl : D.idsL (fun _ => false) (es ++ ds ++ cs) = true) : PStep P o S r := P_call hc hd ho hcl h
theorem go_c {f : Nat} {c : Operand} {args : Array Operand} {ats : Array TypeId} {es ds cs : List D} {r : D} (hc : St.ev ⟨nb, sz, tmp, mem⟩ c = some (.fn f es cs)) (hd : St.evs ⟨nb, sz, tmp, mem⟩ args.toList = some ds) (h : DC P f (es ++ ds ++ cs) r) (k : T P ops rest ⟨nb, sz, (t, r) :: tmp, mem⟩ K)
    (hcl : D.idsL (fun _ => false) (es ++ ds ++ cs) = true := by first | rfl | assumption) (hg : St.guard ⟨nb, sz, tmp, mem⟩ ops ⟨some t, .call { callee := .value c, args := args, argTypes := ats }, ty, pos, af, gd⟩ = some true := by rfl) (ht : Nat.blt t sz = true := by rfl) : T P ops (⟨some t, .call { callee := .value c, args := args, argTypes := ats }, ty, pos, af, gd⟩ :: rest) ⟨nb, sz, tmp, mem⟩ K :=
  T_step (P_call hc hd rfl hcl h) hg ht k
def ownD : D → Option Nat
  | .own b _ => some b
  | .ptr b _ => some b
  | _ => none
def ownD1 : List D → Option Nat
  | [] => none
  | d :: l => match ownD d with
    | some b => some b
    | none => ownD1 l
def ownD2 : D → Option Nat
  | .agg l => ownD1 l
  | d => ownD d
def ownX (S : St) : List Operand → Option Nat
  | [] => none
  | x :: l => match (S.ev x).bind ownD2 with
    | some b => some b
    | none => ownX S l
def ownO (S : St) (o : Oper) : Option Nat := match o.op with
  | .call c => match c.callee with
    | .value _ => ownX S c.args.toList
    | _ => none
  | .buildSlice _ _ ps => ownX S (ps.toList.map (·.2))
  | .makeFunc _ fs cs => ownX S (fs.toList ++ cs.toList)
  | _ => none
theorem go_f {b n size : Nat} {e : TypeId} {xs : List D} (k : T P ops (o :: rest) ⟨nb, sz, tmp.map fun e => (e.1, frz2 b n xs e.2), (b, none) :: mem⟩ K) (hb : ownO ⟨nb, sz, tmp, mem⟩ o = some b := by rfl) (hm : getM b mem = some ⟨e, size, n, xs⟩ := by rfl) (hc : D.idsL (fun _ => false) xs = true := by repeat (first | rfl | exact idsL_map (fun _ => rfl) _ | exact idsL_flat (fun _ => rfl) _ | exact idsL_rep rfl _ | refine idsL_append ?_ ?_)) (hk : okT b n tmp := by repeat (first | exact trivial | exact rfl | refine And.intro ?_ ?_)) : T P ops (o :: rest) ⟨nb, sz, tmp, mem⟩ K :=
  T_wk (Wk.freeze2 b hm hc hk) k
/-! regions that draw their order -/
theorem P_loadR {b off : Nat} {m : M} {e : D} {ys : List D} [hT : TyCell P T'] (ho : o.op = .load T' x) (hx : St.ev ⟨nb, sz, tmp, memR [b] mem⟩ x = some (.ptr b off)) (hm : getM b mem = some m) (hc : m.xs.drop off = e :: ys) : PStep P o ⟨nb, sz, tmp, memR [b] mem⟩ e :=
  P_load (ys := ys) ho hx (by simp [cellsD, memR, getM, hm, hc])
theorem P_loadRA {b off k : Nat} {m : M} {ys zs : List D} [hT : TyAgg P T' k] (ho : o.op = .load T' x) (hx : St.ev ⟨nb, sz, tmp, memR [b] mem⟩ x = some (.ptr b off)) (hm : getM b mem = some m) (hc : m.xs.drop off = ys) (hz : ys.take k = zs) (hk : zs.length = k) : PStep P o ⟨nb, sz, tmp, memR [b] mem⟩ (.agg zs) :=
  P_loadAgg (ys := ys) ho hx (by simp [cellsD, memR, getM, hm, hc]) hz hk
theorem P_loadRA1 {b off : Nat} {m : M} {ys : List D} {d1 : D} [hT : TyAgg P T' 1] (ho : o.op = .load T' x) (hx : St.ev ⟨nb, sz, tmp, memR [b] mem⟩ x = some (.ptr b off)) (hm : getM b mem = some m) (hc : m.xs.drop off = d1 :: ys) : PStep P o ⟨nb, sz, tmp, memR [b] mem⟩ (.agg [d1]) := P_loadRA ho hx hm hc rfl rfl
theorem P_loadRA2 {b off : Nat} {m : M} {ys : List D} {d1 d2 : D} [hT : TyAgg P T' 2] (ho : o.op = .load T' x) (hx : St.ev ⟨nb, sz, tmp, memR [b] mem⟩ x = some (.ptr b off)) (hm : getM b mem = some m) (hc : m.xs.drop off = d1 :: d2 :: ys) : PStep P o ⟨nb, sz, tmp, memR [b] mem⟩ (.agg [d1, d2]) := P_loadRA ho hx hm hc rfl rfl
theorem P_loadRA3 {b off : Nat} {m : M} {ys : List D} {d1 d2 d3 : D} [hT : TyAgg P T' 3] (ho : o.op = .load T' x) (hx : St.ev ⟨nb, sz, tmp, memR [b] mem⟩ x = some (.ptr b off)) (hm : getM b mem = some m) (hc : m.xs.drop off = d1 :: d2 :: d3 :: ys) : PStep P o ⟨nb, sz, tmp, memR [b] mem⟩ (.agg [d1, d2, d3]) := P_loadRA ho hx hm hc rfl rfl
theorem P_loadRA4 {b off : Nat} {m : M} {ys : List D} {d1 d2 d3 d4 : D} [hT : TyAgg P T' 4] (ho : o.op = .load T' x) (hx : St.ev ⟨nb, sz, tmp, memR [b] mem⟩ x = some (.ptr b off)) (hm : getM b mem = some m) (hc : m.xs.drop off = d1 :: d2 :: d3 :: d4 :: ys) : PStep P o ⟨nb, sz, tmp, memR [b] mem⟩ (.agg [d1, d2, d3, d4]) := P_loadRA ho hx hm hc rfl rfl
theorem P_loadRA6 {b off : Nat} {m : M} {ys : List D} {d1 d2 d3 d4 d5 d6 : D} [hT : TyAgg P T' 6] (ho : o.op = .load T' x) (hx : St.ev ⟨nb, sz, tmp, memR [b] mem⟩ x = some (.ptr b off)) (hm : getM b mem = some m) (hc : m.xs.drop off = d1 :: d2 :: d3 :: d4 :: d5 :: d6 :: ys) : PStep P o ⟨nb, sz, tmp, memR [b] mem⟩ (.agg [d1, d2, d3, d4, d5, d6]) := P_loadRA ho hx hm hc rfl rfl
theorem P_lenR {b n size bytes : Nat} {e : TypeId} {m : M} {c : Int} [hT : TySlice P T' e size bytes] (ho : o.op = .call { callee := .builtin .len, args := #[x], argTypes := #[T'] }) (hx : St.ev ⟨nb, sz, tmp, memR [b] mem⟩ x = some (.own b n)) (hm : getM b mem = some m) (hq : m.n = n) (hn : (n : Int) = c) : PStep P o ⟨nb, sz, tmp, memR [b] mem⟩ (.val (.int .i64 c)) :=
  P_len ho hx (n := n) (xs := m.xs) (by simp [sliceD, memR, getM, hm, hq]) hn
section
variable {nb0 i : Nat} {bs : Nat → List (Nat × D)} {mem0 : List (Nat × Option M)} {l : List Oper} {KA : Acc → Prop}
variable {fs : Fs} {al : List (Nat × Nat × M)} {ch : List Lk} {nd : List (Nat × List Nat)}
theorem W_p (j : Nat) {d : D} (h : ∀ nb, PStep P ⟨some t, op, ty, pos, af, gd⟩ ⟨nb, sz, depX ⟨some t, op, ty, pos, af, gd⟩ (bs i) fs, memR [] (curMem mem0 ch)⟩ d) (k : Walk P ops sz bs nb0 mem0 l j ⟨(i, [(t, d)]) :: fs, al, ch, (i, []) :: nd⟩ KA) (hj : i + 1 = j := by rfl) (hg : ∀ nb, St.guard ⟨nb, sz, depX ⟨some t, op, ty, pos, af, gd⟩ (bs i) fs, []⟩ ops ⟨some t, op, ty, pos, af, gd⟩ = some true := by intro nb; rfl) (ht : Nat.blt t sz = true := by rfl) : Walk P ops sz bs nb0 mem0 (⟨some t, op, ty, pos, af, gd⟩ :: l) i ⟨fs, al, ch, nd⟩ KA := by subst hj; exact W_step [] h hg ht k
theorem W_r (j : Nat) {d : D} {b : Nat} (k : Walk P ops sz bs nb0 mem0 l j ⟨(i, [(t, d)]) :: fs, al, ch, (i, [b]) :: nd⟩ KA) (h : ∀ nb, PStep P ⟨some t, op, ty, pos, af, gd⟩ ⟨nb, sz, depX ⟨some t, op, ty, pos, af, gd⟩ (bs i) fs, memR [b] (curMem mem0 ch)⟩ d := by
      intro nb
      first
      | exact P_loadR rfl rfl rfl rfl
      | exact P_loadRA3 rfl rfl rfl rfl
      | exact P_loadRA1 rfl rfl rfl rfl
      | exact P_loadRA2 rfl rfl rfl rfl
      | exact P_loadRA4 rfl rfl rfl rfl
      | exact P_loadRA6 rfl rfl rfl rfl
      | exact P_lenR rfl rfl rfl rfl rfl) (hj : i + 1 = j := by rfl) (hg : ∀ nb, St.guard ⟨nb, sz, depX ⟨some t, op, ty, pos, af, gd⟩ (bs i) fs, []⟩ ops ⟨some t, op, ty, pos, af, gd⟩ = some true := by intro nb; rfl) (ht : Nat.blt t sz = true := by rfl) : Walk P ops sz bs nb0 mem0 (⟨some t, op, ty, pos, af, gd⟩ :: l) i ⟨fs, al, ch, nd⟩ KA := by subst hj; exact W_step [b] h hg ht k
theorem W_c (j : Nat) {f : Nat} {c : Operand} {args : Array Operand} {ats : Array TypeId} {es ds cs : List D} {r : D} (h : DC P f (es ++ ds ++ cs) r) (k : Walk P ops sz bs nb0 mem0 l j ⟨(i, [(t, r)]) :: fs, al, ch, (i, []) :: nd⟩ KA) (hj : i + 1 = j := by rfl)
    (hc : ∀ nb, St.ev ⟨nb, sz, depX ⟨some t, .call { callee := .value c, args := args, argTypes := ats }, ty, pos, af, gd⟩ (bs i) fs, memR [] (curMem mem0 ch)⟩ c = some (.fn f es cs) := by intro nb; rfl) (hd : ∀ nb, St.evs ⟨nb, sz, depX ⟨some t, .call { callee := .value c, args := args, argTypes := ats }, ty, pos, af, gd⟩ (bs i) fs, memR [] (curMem mem0 ch)⟩ args.toList = some ds := by intro nb; rfl)
    (hcl : D.idsL (fun _ => false) (es ++ ds ++ cs) = true := by first | rfl | assumption) (hg : ∀ nb, St.guard ⟨nb, sz, depX ⟨some t, .call { callee := .value c, args := args, argTypes := ats }, ty, pos, af, gd⟩ (bs i) fs, []⟩ ops ⟨some t, .call { callee := .value c, args := args, argTypes := ats }, ty, pos, af, gd⟩ = some true := by intro nb; rfl) (ht : Nat.blt t sz = true := by rfl) : Walk P ops sz bs nb0 mem0 (⟨some t, .call { callee := .value c, args := args, argTypes := ats }, ty, pos, af, gd⟩ :: l) i ⟨fs, al, ch, nd⟩ KA := by subst hj; exact W_step [] (fun nb => P_call (hc nb) (hd nb) rfl hcl h) hg ht k
theorem W_no (j : Nat) (k : Walk P ops sz bs nb0 mem0 l j ⟨(i, [(t, .tup [])]) :: fs, al, ch, (i, []) :: nd⟩ KA) (hj : i + 1 = j := by rfl) (hg : ∀ nb, St.guard ⟨nb, sz, depX ⟨some t, op, ty, pos, af, gd⟩ (bs i) fs, []⟩ ops ⟨some t, op, ty, pos, af, gd⟩ = some false := by intro nb; rfl) (ht : Nat.blt t sz = true := by rfl) : Walk P ops sz bs nb0 mem0 (⟨some t, op, ty, pos, af, gd⟩ :: l) i ⟨fs, al, ch, nd⟩ KA := by subst hj; exact W_pass hg ht k
theorem W_a (j : Nat) {kz : Nat} {zs : List Value} {zd : List D} [hz : TyZero P T' kz zs zd] (k : Walk P ops sz bs nb0 mem0 l j ⟨fs, (i, t, ⟨T', kz, 1, zd⟩) :: al, [], nd⟩ KA) (hj : i + 1 = j := by rfl) (ht : Nat.blt t sz = true := by rfl) : Walk P ops sz bs nb0 mem0 (⟨some t, .alloc T', ty, pos, af, none⟩ :: l) i ⟨fs, al, [], nd⟩ KA := by subst hj; exact W_alloc ht k
theorem W_t (j : Nat) {d : D} {nb' : Nat} {mem' : List (Nat × Option M)} (h : ∀ extra, MS P ops ⟨some t, op, ty, pos, af, gd⟩ ⟨pickN nb0 al ch, sz, pickT nb0 al ch ++ (depX ⟨some t, op, ty, pos, af, gd⟩ (bs i) fs ++ extra), pickM nb0 mem0 al ch⟩ ⟨nb', sz, (t, d) :: (pickT nb0 al ch ++ (depX ⟨some t, op, ty, pos, af, gd⟩ (bs i) fs ++ extra)), mem'⟩) (k : Walk P ops sz bs nb0 mem0 l j ⟨(i, (t, d) :: pickT nb0 al ch) :: fs, al, ⟨i, nb', mem', (mem'.take (mem'.length - (curMem mem0 ch).length)).map (·.1)⟩ :: ch, nd⟩ KA) (hj : i + 1 = j := by rfl) (hm : mem'.drop (mem'.length - (curMem mem0 ch).length) = curMem mem0 ch := by rfl) : Walk P ops sz bs nb0 mem0 (⟨some t, op, ty, pos, af, gd⟩ :: l) i ⟨fs, al, ch, nd⟩ KA := by subst hj; exact W_chainT (fun extra => (h extra).h _ _ (T_nil rfl)) hm k
theorem W_l (j : Nat) (t : Nat) {d : D} {nb' : Nat} {mem' : List (Nat × Option M)} (k : Walk P ops sz bs nb0 mem0 l j ⟨(i, (t, d) :: pickT nb0 al ch) :: fs, al, ⟨i, nb', mem', (mem'.take (mem'.length - (curMem mem0 ch).length)).map (·.1)⟩ :: ch, nd⟩ KA) (h : ∀ extra, MS P ops ⟨some t, op, ty, pos, af, gd⟩ ⟨pickN nb0 al ch, sz, pickT nb0 al ch ++ (depX ⟨some t, op, ty, pos, af, gd⟩ (bs i) fs ++ extra), pickM nb0 mem0 al ch⟩ ⟨nb', sz, (t, d) :: (pickT nb0 al ch ++ (depX ⟨some t, op, ty, pos, af, gd⟩ (bs i) fs ++ extra)), mem'⟩ := by intro extra; exact MS_lit) (hj : i + 1 = j := by rfl) (hm : mem'.drop (mem'.length - (curMem mem0 ch).length) = curMem mem0 ch := by rfl) : Walk P ops sz bs nb0 mem0 (⟨some t, op, ty, pos, af, gd⟩ :: l) i ⟨fs, al, ch, nd⟩ KA := W_t j h k hj hm
theorem W_n (j : Nat) {nb' : Nat} {mem' : List (Nat × Option M)} (h : ∀ extra, MS P ops ⟨none, op, ty, pos, af, gd⟩ ⟨pickN nb0 al ch, sz, pickT nb0 al ch ++ (depX ⟨none, op, ty, pos, af, gd⟩ (bs i) fs ++ extra), pickM nb0 mem0 al ch⟩ ⟨nb', sz, pickT nb0 al ch ++ (depX ⟨none, op, ty, pos, af, gd⟩ (bs i) fs ++ extra), mem'⟩) (k : Walk P ops sz bs nb0 mem0 l j ⟨(i, pickT nb0 al ch) :: fs, al, ⟨i, nb', mem', (mem'.take (mem'.length - (curMem mem0 ch).length)).map (·.1)⟩ :: ch, nd⟩ KA) (hj : i + 1 = j := by rfl) (hm : mem'.drop (mem'.length - (curMem mem0 ch).length) = curMem mem0 ch := by rfl) : Walk P ops sz bs nb0 mem0 (⟨none, op, ty, pos, af, gd⟩ :: l) i ⟨fs, al, ch, nd⟩ KA := by subst hj; exact W_chainN (fun extra => (h extra).h _ _ (T_nil rfl)) hm k
theorem W_e {Z : Acc} {Kc : Exit → St → Prop} {lb : List Oper} {ow base : List (Nat × D)} {nb1 : Nat} {tmp1 : List (Nat × D)} {mem1 : List (Nat × Option M)} (k : Kc .normal ⟨nb1, sz, tmp1, mem1⟩) (h1 : curNb nb Z.ch = nb1 := by first | (dsimp only [curNb, pickN, List.length_nil, List.length_cons, Nat.reduceAdd]; done) | (dsimp only [curNb, pickN, List.length_nil, List.length_cons, Nat.reduceAdd]; rfl) | rfl)
    (h2 : flatX Z.fs base = tmp1 := by first | (dsimp only [flatX, pickT, adoptT, pickN, curNb, List.cons_append, List.nil_append, List.append_eq, List.length_nil, List.length_cons, Nat.reduceAdd, Nat.add_zero, Nat.zero_add]; done) | (dsimp only [flatX, pickT, adoptT, pickN, curNb, List.cons_append, List.nil_append, List.append_eq, List.length_nil, List.length_cons, Nat.reduceAdd, Nat.add_zero, Nat.zero_add]; rfl) | rfl) (h3 : curMem mem Z.ch = mem1 := by first | (dsimp only [curMem, pickM, adoptM, pickN, curNb, List.cons_append, List.nil_append, List.append_eq, List.length_nil, List.length_cons, Nat.reduceAdd, Nat.add_zero, Nat.zero_add]; done) | (dsimp only [curMem, pickM, adoptM, pickN, curNb, List.cons_append, List.nil_append, List.append_eq, List.length_nil, List.length_cons, Nat.reduceAdd, Nat.add_zero, Nat.zero_add]; rfl) | rfl)
    (h : Chk lb ow base Z := by exact ⟨by kernel_rfl, by kernel_rfl, by kernel_rfl, by kernel_rfl, by kernel_rfl, by kernel_rfl, by kernel_rfl, by kernel_rfl, by kernel_rfl, by kernel_rfl, by kernel_rfl, by kernel_rfl, by kernel_rfl, by kernel_rfl, by kernel_rfl⟩) : Walk P ops sz bs nb0 mem0 [] i Z fun Z => Chk lb ow base Z ∧ Kc .normal ⟨curNb nb Z.ch, sz, flatX Z.fs base, curMem mem Z.ch⟩ := W_nil ⟨h, by rw [h1, h2, h3]; exact k⟩
end
theorem C_dr {l : List Oper} {ow base : List (Nat × D)} {id : Nat} {Kc : Exit → St → Prop} (hm : P.follows .mixedOrders = true) (h : Walk P l.toArray sz (bsAt l ow base) nb mem l 0 ⟨[], [], [], []⟩ fun Z => Chk l ow base Z ∧ Kc .normal ⟨curNb nb Z.ch, sz, flatX Z.fs base, curMem mem Z.ch⟩)
    (hc : Clean l tmp ow base := by repeat (first | exact Clean.nil | (apply Clean.keep; rfl) | (apply Clean.drop; rfl))) : C P (.region id l.toArray true) ⟨nb, sz, tmp, mem⟩ Kc := C_drawX hm hc h
theorem Wk.freezeTop (b : Nat) {m : M} (hm : getM b mem = some m) (hc : D.idsL (fun _ => false) m.xs = true) : Wk ⟨nb, sz, (t, .own b m.n) :: tmp, mem⟩ ⟨nb, sz, (t, .row m.n m.xs) :: tmp, (b, none) :: mem⟩ := fun w0 I0 ρ I a w g => by
  obtain ⟨I', g', hI, h1, h2⟩ := g.freeze hm hc
  refine ⟨ρ, I', ⟨g'.later, g'.lt, g'.base, g'.old, g'.defers, g'.sz, fun s d h => ?_, g'.mem, g'.inj⟩⟩
  have h' : cond (Nat.beq t s) (some (D.row m.n m.xs)) (look s tmp) = some d := h
  have hl : look s ((t, D.own b m.n) :: tmp) = cond (Nat.beq t s) (some (D.own b m.n)) (look s tmp) := rfl
  cases hb : Nat.beq t s with
  | true =>
    rw [hb] at h' hl
    cases h'
    exact h1 _ (g'.tmp s _ hl)
  | false =>
    rw [hb] at h' hl
    exact g'.tmp s d (hl.trans h')
/-- an append whose row is no more written to from then on -/
theorem MS_pushF {b n k' size bytes n' : Nat} {e : TypeId} {d : D} {xs ys : List D} [hT : TySlice P T' e size bytes] (hx : St.ev ⟨nb, sz, tmp, mem⟩ x = some (.own b n)) (hy : St.ev ⟨nb, sz, tmp, mem⟩ y = some d) (hm : getM b mem = some ⟨e, size, n', xs⟩) (hs : sliceD mem d = some (k', ys)) (hg : St.guard ⟨nb, sz, tmp, mem⟩ ops ⟨some t, .call { callee := .builtin .append, args := #[x, y], argTypes := #[T', T'] }, ty, pos, af, gd⟩ = some true) (ht : Nat.blt t sz = true)
    (h3 : n' = n) (hl : ys.length = k' * size) (hb : (n + k') * bytes ≤ 140737488355328) (hml : n + k' ≤ 9223372036854775807) (hc : D.idsL (fun _ => false) (xs ++ ys) = true) :
    MS P ops ⟨some t, .call { callee := .builtin .append, args := #[x, y], argTypes := #[T', T'] }, ty, pos, af, gd⟩ ⟨nb, sz, tmp, mem⟩ ⟨nb + 1, sz, (t, .row (n + k') (xs ++ ys)) :: tmp, (nb, none) :: (nb, some ⟨e, size, n + k', xs ++ ys⟩) :: (b, none) :: mem⟩ :=
  ⟨fun _ _ k => T_push hx hy hm hs hg ht h3 hl hb hml (T_wk (Wk.freezeTop nb (m := ⟨e, size, n + k', xs ++ ys⟩) (by show cond (Nat.beq nb nb) _ _ = _; rw [Nat.beq_refl]; rfl) hc) k)⟩
section
variable {nb0 i : Nat} {bs : Nat → List (Nat × D)} {mem0 : List (Nat × Option M)} {l : List Oper} {KA : Acc → Prop}
variable {fs : Fs} {al : List (Nat × Nat × M)} {ch : List Lk} {nd : List (Nat × List Nat)}
theorem W_pf (j : Nat) (t : Nat) {d : D} {nb' : Nat} {mem' : List (Nat × Option M)} (k : Walk P ops sz bs nb0 mem0 l j ⟨(i, (t, d) :: pickT nb0 al ch) :: fs, al, ⟨i, nb', mem', (mem'.take (mem'.length - (curMem mem0 ch).length)).map (·.1)⟩ :: ch, nd⟩ KA) (h : ∀ extra, MS P ops ⟨some t, op, ty, pos, af, gd⟩ ⟨pickN nb0 al ch, sz, pickT nb0 al ch ++ (depX ⟨some t, op, ty, pos, af, gd⟩ (bs i) fs ++ extra), pickM nb0 mem0 al ch⟩ ⟨nb', sz, (t, d) :: (pickT nb0 al ch ++ (depX ⟨some t, op, ty, pos, af, gd⟩ (bs i) fs ++ extra)), mem'⟩ := by
      intro extra
      first
      | exact MS_pushF rfl rfl rfl rfl rfl rfl rfl rfl (by omega) (by omega) (by repeat (first | rfl | exact idsL_map (fun _ => rfl) _ | exact idsL_flat (fun _ => rfl) _ | exact idsL_rep rfl _ | refine idsL_append ?_ ?_))
      | exact MS_pushF rfl rfl rfl rfl rfl rfl rfl (by simp only [List.length_map, Nat.mul_one]) (by omega) (by omega) (by repeat (first | rfl | exact idsL_map (fun _ => rfl) _ | exact idsL_flat (fun _ => rfl) _ | exact idsL_rep rfl _ | refine idsL_append ?_ ?_))) (hj : i + 1 = j := by rfl) (hm : mem'.drop (mem'.length - (curMem mem0 ch).length) = curMem mem0 ch := by rfl) : Walk P ops sz bs nb0 mem0 (⟨some t, op, ty, pos, af, gd⟩ :: l) i ⟨fs, al, ch, nd⟩ KA := W_t j h k hj hm
end
theorem Wk.go (σ : Nat → Nat) {nb' : Nat} {tmp' : List (Nat × D)} {mem' : List (Nat × Option M)} (h1 : WkT σ nb' tmp tmp' := by
    repeat (first | exact WkT.nil | refine WkT.cons rfl (Ren.im rfl) ?_ | refine WkT.cons rfl (Ren.own rfl rfl rfl) ?_ | refine WkT.cons rfl (Ren.ptr rfl rfl rfl) ?_ | refine WkT.cons rfl (Ren.int (by omega)) ?_ | refine WkT.cons rfl (Ren.own rfl rfl (by omega)) ?_ | refine WkT.cons rfl (Ren.eq (by assumption) rfl) ?_))
    (h2 : WkM σ nb' mem mem' := by
    repeat (first | exact WkM.nil | refine WkM.cons rfl rfl rfl (RenL.im rfl rfl) ?_ | refine WkM.cons rfl rfl rfl (RenL.cons (Ren.own rfl rfl rfl) RenL.nil) ?_ | refine WkM.cons rfl rfl rfl (RenL.cons (Ren.own rfl rfl (by omega)) RenL.nil) ?_ | refine WkM.cons rfl rfl rfl (RenL.im rfl (by repeat (first | rfl | exact idsL_map (fun _ => rfl) _ | exact idsL_flat (fun _ => rfl) _ | exact idsL_rep rfl _ | refine idsL_append ?_ ?_))) ?_ | refine WkM.cons rfl rfl (by omega) (RenL.im (by assumption) (by repeat (first | rfl | exact idsL_map (fun _ => rfl) _ | exact idsL_flat (fun _ => rfl) _ | exact idsL_rep rfl _ | refine idsL_append ?_ ?_))) ?_ | refine WkM.cons rfl rfl (by omega) (RenL.im rfl (by repeat (first | rfl | exact idsL_map (fun _ => rfl) _ | exact idsL_flat (fun _ => rfl) _ | exact idsL_rep rfl _ | refine idsL_append ?_ ?_))) ?_))
    (h3 : nodupB (mem'.map fun e => σ e.1) = true := by rfl) : Wk ⟨nb, sz, tmp, mem⟩ ⟨nb', sz, tmp', mem'⟩ := Wk.mk σ h1 h2 h3
/-! the end -/
theorem kEnd_wk {rs : List ResultVar} {r : D} {e : Exit} {S S' : St} (h : Wk S S') (k : kEnd P rs r e S') : kEnd P rs r e S := by
  cases e with
  | normal => obtain ⟨⟨S1, ds, h1, h2⟩⟩ := k; exact ⟨⟨S1, ds, h.trans h1, h2⟩⟩
  | ret => obtain ⟨⟨S1, ds, h1, h2⟩⟩ := k; exact ⟨⟨S1, ds, h.trans h1, h2⟩⟩
  | _ => exact k.h.elim
def ownRes (S : St) : List ResultVar → Option Nat
  | [] => none
  | .tmp t :: l => match (look t S.tmp).bind ownD2 with
    | some b => some b
    | none => ownRes S l
  | .cell _ _ :: l => ownRes S l
def ownAt : List D → Nat → Option (Nat × Nat)
  | [], _ => none
  | d :: l, j => match d with
    | .own b _ => some (j, b)
    | _ => ownAt l (j + 1)
def ownCell (S : St) : List ResultVar → Option (Nat × Nat × Nat)
  | [] => none
  | .tmp _ :: l => ownCell S l
  | .cell t _ :: l => match look t S.tmp with
    | some (.ptr c off) => match (getM c S.mem).bind fun m => ownAt (m.xs.drop off) off with
      | some (j, b) => some (c, j, b)
      | none => ownCell S l
    | _ => ownCell S l
theorem kEnd_f {rs : List ResultVar} {r : D} {ex : Exit} {b n size : Nat} {e : TypeId} {xs : List D} (k : kEnd P rs r ex ⟨nb, sz, tmp.map fun e => (e.1, frz2 b n xs e.2), (b, none) :: mem⟩) (hb : ownRes ⟨nb, sz, tmp, mem⟩ rs = some b := by rfl) (hm : getM b mem = some ⟨e, size, n, xs⟩ := by rfl) (hc : D.idsL (fun _ => false) xs = true := by repeat (first | rfl | exact idsL_map (fun _ => rfl) _ | exact idsL_flat (fun _ => rfl) _ | exact idsL_rep rfl _ | refine idsL_append ?_ ?_)) (hk : okT b n tmp := by repeat (first | exact trivial | exact rfl | refine And.intro ?_ ?_)) : kEnd P rs r ex ⟨nb, sz, tmp, mem⟩ :=
  kEnd_wk (Wk.freeze2 b hm hc hk) k
theorem kEnd_m {rs : List ResultVar} {r : D} {ex : Exit} {c j b n n' size size' : Nat} {e e' : TypeId} {xs ys : List D} (k : kEnd P rs r ex ⟨nb, sz, tmp.map fun x => (x.1, frz b ⟨e, size, n, xs⟩ x.2), (c, some ⟨e', size', n', ys.set j (.row n xs)⟩) :: (b, none) :: mem⟩) (hb : ownCell ⟨nb, sz, tmp, mem⟩ rs = some (c, j, b) := by rfl) (hm : getM b mem = some ⟨e, size, n, xs⟩ := by rfl) (hmc : getM c mem = some ⟨e', size', n', ys⟩ := by rfl) (hj : ys[j]? = some (.own b n) := by rfl) (hne : Nat.beq b c = false := by rfl)
    (hc : D.idsL (fun _ => false) xs = true := by repeat (first | rfl | exact idsL_map (fun _ => rfl) _ | exact idsL_flat (fun _ => rfl) _ | exact idsL_rep rfl _ | refine idsL_append ?_ ?_)) : kEnd P rs r ex ⟨nb, sz, tmp, mem⟩ :=
  kEnd_wk (Wk.freezeM c j b hm hc hmc hj hne) k
theorem kEnd_g {rs : List ResultVar} {r : D} {e : Exit} {S : St} {ds : List D} (h2 : Sub (tupD ds) r) (he : e = .ret ∨ e = .normal) (h1 : ResV P S rs ds := by repeat (first | exact ResV.nil | (apply ResV.tmp; rfl) | (apply ResV.agg3; rfl; rfl) | (apply ResV.agg1; rfl; rfl) | (apply ResV.agg2; rfl; rfl) | (apply ResV.agg4; rfl; rfl) | (apply ResV.cell; rfl; rfl))) : kEnd P rs r e S := by
  rcases he with rfl | rfl
  · exact kEnd_r (Wk.refl _) h1 h2
  · exact kEnd_n (Wk.refl _) h1 h2
end
end Go.Proofs.Ytifapodobhkdcaa
