/- The abstract machine's walk: one rule for all pure operations, one for all that write, so that a walk's text is short. -/
import Derived.Test.YtpomhnmfkdgafaaAbsP
import Derived.ChangeKeysEq
namespace Go.Proofs.Ytpomhnmfkdgafaa
open Go.RowKit
set_option linter.unusedVariables false
set_option linter.unusedSimpArgs false
theorem idsL_rep {p : Nat → Bool} {d : D} (h : d.ids p = true) (n : Nat) : D.idsL p (List.replicate n d) = true := idsL_of fun j e hj => by
  rw [List.getElem?_replicate] at hj
  split at hj <;> cases hj
  exact h
section
variable {P : Program} {ops : Array Oper} {S : St} {K : St → Prop} {o : Oper} {rest : List Oper} {x y : Operand} {T' : TypeId}
variable {nb sz : Nat} {tmp : List (Nat × D)} {mem : List (Nat × Option M)} {t : Nat} {op : Op} {ty : TypeId} {pos : String} {af : Array Edge} {gd : Option (Nat × Bool)}
/-- one operation, from what is known to what is known -/
structure MS (P : Program) (ops : Array Oper) (o : Oper) (S S' : St) : Prop where
  h : ∀ (rest : List Oper) (K : St → Prop), T P ops rest S' K → T P ops (o :: rest) S K
theorem P_loadAgg5 {d d1 d2 d3 d4 d5 : D} {ys : List D} [hT : TyAgg P T' 5] (ho : o.op = .load T' x) (hx : S.ev x = some d) (hc : cellsD S.mem d = some (d1 :: d2 :: d3 :: d4 :: d5 :: ys)) : PStep P o S (.agg [d1, d2, d3, d4, d5]) := P_loadAgg ho hx hc rfl rfl
theorem P_loadAgg6 {d d1 d2 d3 d4 d5 d6 : D} {ys : List D} [hT : TyAgg P T' 6] (ho : o.op = .load T' x) (hx : S.ev x = some d) (hc : cellsD S.mem d = some (d1 :: d2 :: d3 :: d4 :: d5 :: d6 :: ys)) : PStep P o S (.agg [d1, d2, d3, d4, d5, d6]) := P_loadAgg ho hx hc rfl rfl
theorem P_fieldAgg1 {f off : Nat} {ft : TypeId} {xs ys : List D} {d1 : D} [hT : TyField P T' f off ft] [hC : TyAgg P ft 1] (ho : o.op = .field T' x f) (hx : S.ev x = some (.agg xs)) (he : xs.drop off = d1 :: ys) : PStep P o S (.agg [d1]) := P_fieldAgg ho hx (by rw [he]; rfl) rfl
theorem P_fieldAgg2 {f off : Nat} {ft : TypeId} {xs ys : List D} {d1 d2 : D} [hT : TyField P T' f off ft] [hC : TyAgg P ft 2] (ho : o.op = .field T' x f) (hx : S.ev x = some (.agg xs)) (he : xs.drop off = d1 :: d2 :: ys) : PStep P o S (.agg [d1, d2]) := P_fieldAgg ho hx (by rw [he]; rfl) rfl
theorem P_fieldAgg3 {f off : Nat} {ft : TypeId} {xs ys : List D} {d1 d2 d3 : D} [hT : TyField P T' f off ft] [hC : TyAgg P ft 3] (ho : o.op = .field T' x f) (hx : S.ev x = some (.agg xs)) (he : xs.drop off = d1 :: d2 :: d3 :: ys) : PStep P o S (.agg [d1, d2, d3]) := P_fieldAgg ho hx (by rw [he]; rfl) rfl
theorem P_build5 {zs : List Value} {zd : List D} {place : Nat → Option (Nat × Nat)} {parts : Array (Nat × Operand)} {ds : List (Nat × D)} {e1 e2 e3 e4 e5 : D} [hz : TyBuild P T' zs zd place] (ho : o.op = .build T' parts) (hp : St.evParts ⟨nb, sz, tmp, mem⟩ parts.toList = some ds) (hf : fillD place ds zd = some [e1, e2, e3, e4, e5]) : PStep P o ⟨nb, sz, tmp, mem⟩ (.agg [e1, e2, e3, e4, e5]) := P_build ho hp hf
theorem P_build6 {zs : List Value} {zd : List D} {place : Nat → Option (Nat × Nat)} {parts : Array (Nat × Operand)} {ds : List (Nat × D)} {e1 e2 e3 e4 e5 e6 : D} [hz : TyBuild P T' zs zd place] (ho : o.op = .build T' parts) (hp : St.evParts ⟨nb, sz, tmp, mem⟩ parts.toList = some ds) (hf : fillD place ds zd = some [e1, e2, e3, e4, e5, e6]) : PStep P o ⟨nb, sz, tmp, mem⟩ (.agg [e1, e2, e3, e4, e5, e6]) := P_build ho hp hf
/-- a literal's element -/
theorem P_indexLit1 {n bytes i : Nat} {xs : List D} {e : TypeId} {d : D} {ki : IntKind} [hT : TySlice P T' e 1 bytes] (ho : o.op = .indexAddr T' x y) (hx : S.ev x = some (.row n xs)) (hy : S.ev y = some (.val (.int ki ((i : Nat) : Int)))) (hn : Nat.blt i n = true) (hd : xs[i]? = some d) : PStep P o S (.obj [d]) :=
  P_indexRow ho hx hy (by omega) (by have : i < n := by simpa using hn
                                     omega) ⟨rfl, fun j hj => by
    have h1 : j < 1 := hj
    have : j = 0 := by omega
    subst this
    show xs[((i : Nat) : Int).toNat * 1 + 0]? = _
    simp [hd]⟩
theorem P_indexLit3 {n bytes i : Nat} {xs ys : List D} {e : TypeId} {d1 d2 d3 : D} {ki : IntKind} [hT : TySlice P T' e 3 bytes] (ho : o.op = .indexAddr T' x y) (hx : S.ev x = some (.row n xs)) (hy : S.ev y = some (.val (.int ki ((i : Nat) : Int)))) (hn : Nat.blt i n = true) (hd : xs.drop (i * 3) = d1 :: d2 :: d3 :: ys) : PStep P o S (.obj [d1, d2, d3]) :=
  P_indexRow ho hx hy (by omega) (by have : i < n := by simpa using hn
                                     omega) ⟨rfl, fun j hj => by
    have h := List.getElem?_drop (xs := xs) (i := i * 3) (j := j)
    rw [hd] at h
    show xs[((i : Nat) : Int).toNat * 3 + j]? = _
    rw [Int.toNat_natCast, ← h]
    have h1 : j < 3 := hj
    clear h hj
    match j, h1 with
    | 0, _ => rfl
    | 1, _ => rfl
    | 2, _ => rfl⟩
theorem P_iF {α : Type} {f : α → List D} {m : Nat} {l : List α} {n k bytes : Nat} {e : TypeId} {ki : IntKind} [hT : TySlice P T' e m bytes] (ho : o.op = .indexAddr T' x y) (hx : S.ev x = some (.row n (l.flatMap f))) (hy : S.ev y = some (.val (.int ki ((k : Nat) : Int)))) (hn : n = l.length) (hf : ∀ a, (f a).length = m) (hk : k < l.length) : PStep P o S (.obj (f l[k])) := P_indexF hf ho hx hy hn hk
theorem P_iF' {α : Type} {f : α → List D} {m : Nat} {l : List α} {n bytes : Nat} {i : Int} {e : TypeId} {ki : IntKind} [hT : TySlice P T' e m bytes] (ho : o.op = .indexAddr T' x y) (hx : S.ev x = some (.row n (l.flatMap f))) (hy : S.ev y = some (.val (.int ki i))) (hn : n = l.length) (hf : ∀ a, (f a).length = m) (h0 : 0 ≤ i) (hk : i.toNat < l.length) : PStep P o S (.obj (f l[i.toNat])) := P_indexF' hf ho hx hy hn h0 hk
theorem P_iF0 {α : Type} {f : α → List D} {m : Nat} {l : List α} {n bytes : Nat} {e : TypeId} {ki : IntKind} [hT : TySlice P T' e m bytes] (ho : o.op = .indexAddr T' x y) (hx : S.ev x = some (.row n (l.flatMap f))) (hy : S.ev y = some (.val (.int ki 0))) (hn : n = l.length) (hf : ∀ a, (f a).length = m) (hk : 0 < l.length) : PStep P o S (.obj (f l[0])) := P_indexF_0 hf ho hx hy hn hk
theorem P_iF1 {α : Type} {f : α → List D} {m : Nat} {l : List α} {n bytes : Nat} {e : TypeId} {ki : IntKind} [hT : TySlice P T' e m bytes] (ho : o.op = .indexAddr T' x y) (hx : S.ev x = some (.row n (l.flatMap f))) (hy : S.ev y = some (.val (.int ki 1))) (hn : n = l.length) (hf : ∀ a, (f a).length = m) (hk : 1 < l.length) : PStep P o S (.obj (f l[1])) := P_indexF_1 hf ho hx hy hn hk
theorem P_lenOwn {b n size bytes : Nat} {e : TypeId} {m : M} {c : Int} [hT : TySlice P T' e size bytes] (ho : o.op = .call { callee := .builtin .len, args := #[x], argTypes := #[T'] }) (hx : S.ev x = some (.own b n)) (hm : getM b S.mem = some m) (hq : m.n = n) (hn : (n : Int) = c) : PStep P o S (.val (.int .i64 c)) :=
  P_len ho hx (n := n) (xs := m.xs) (by simp only [sliceD, hm, hq, Nat.beq_refl]; rfl) hn
theorem P_gLen {d : D} (h : PStep P o S d := by first | exact P_len rfl rfl rfl rfl | exact P_lenOwn rfl rfl rfl rfl rfl) : PStep P o S d := h
theorem P_gLss {d : D} (h : PStep P o S d := by first | exact P_lssT rfl rfl rfl (by omega) | exact P_lssF rfl rfl rfl (by omega) | exact P_lss rfl rfl rfl) : PStep P o S d := h
theorem P_gLeq {d : D} (h : PStep P o S d := by first | exact P_leqT rfl rfl rfl (by omega) | exact P_leqF rfl rfl rfl (by omega) | exact P_leq rfl rfl rfl) : PStep P o S d := h
theorem P_gGtr {d : D} (h : PStep P o S d := by first | exact P_gtrT rfl rfl rfl (by omega) | exact P_gtrF rfl rfl rfl (by omega) | exact P_gtr rfl rfl rfl) : PStep P o S d := h
theorem P_gGeq {d : D} (h : PStep P o S d := by first | exact P_geqT rfl rfl rfl (by omega) | exact P_geqF rfl rfl rfl (by omega) | exact P_geq rfl rfl rfl) : PStep P o S d := h
theorem P_gEql {d : D} (h : PStep P o S d := by first | exact P_eqlT rfl rfl rfl (by omega) | exact P_eqlF rfl rfl rfl (by omega) | exact P_eql rfl rfl rfl) : PStep P o S d := h
theorem P_gNeq {d : D} (h : PStep P o S d := by first | exact P_neqT rfl rfl rfl (by omega) | exact P_neqF rfl rfl rfl (by omega) | exact P_neq rfl rfl rfl) : PStep P o S d := h
theorem P_gEqs {d : D} (h : PStep P o S d := by first | exact P_eqsT rfl rfl rfl (by assumption) | exact P_eqsF rfl rfl rfl (by assumption) | exact P_eqs rfl rfl rfl) : PStep P o S d := h
theorem P_gNes {d : D} (h : PStep P o S d := by first | exact P_nesF rfl rfl rfl (by assumption) | exact P_nesT rfl rfl rfl (by assumption)) : PStep P o S d := h
theorem P_gEqR {d : D} (h : PStep P o S d := by first | exact P_eqR3T rfl rfl rfl ⟨rfl, rfl, rfl⟩ | exact P_eqR3T rfl rfl rfl (by assumption) | exact P_eqR3F rfl rfl rfl (by assumption) | exact P_eqR3 rfl rfl rfl) : PStep P o S d := h
theorem P_gNeR {d : D} (h : PStep P o S d := by first | exact P_neR3F rfl rfl rfl ⟨rfl, rfl, rfl⟩ | exact P_neR3F rfl rfl rfl (by assumption) | exact P_neR3T rfl rfl rfl (by assumption) | exact P_neR3 rfl rfl rfl) : PStep P o S d := h
theorem P_gEqB {d : D} (h : PStep P o S d := by first | exact P_eqlB rfl rfl rfl) : PStep P o S d := h
theorem P_gNeB {d : D} (h : PStep P o S d := by first | exact P_neqB rfl rfl rfl) : PStep P o S d := h
theorem P_gAdd {d : D} (h : PStep P o S d := by first | exact P_add rfl rfl rfl (w64 (by omega) (by omega))) : PStep P o S d := h
theorem P_gSub {d : D} (h : PStep P o S d := by first | exact P_sub rfl rfl rfl (w64 (by omega) (by omega))) : PStep P o S d := h
theorem P_gMul {d : D} (h : PStep P o S d := by first | exact P_mul rfl rfl rfl (w64 (by omega) (by omega))) : PStep P o S d := h
theorem P_gQuo {d : D} (h : PStep P o S d := by first | exact P_quo rfl rfl rfl (by omega) (quo64 (by omega) (by omega))) : PStep P o S d := h
theorem P_gRem {d : D} (h : PStep P o S d := by first | exact P_rem rfl rfl rfl (by omega) rfl) : PStep P o S d := h
theorem P_gNeg {d : D} (h : PStep P o S d := by first | exact P_neg rfl rfl (neg64 (by omega) (by omega))) : PStep P o S d := h
theorem P_gNot {d : D} (h : PStep P o S d := by first | exact P_notT rfl rfl | exact P_notF rfl rfl | exact P_not rfl rfl) : PStep P o S d := h
theorem P_gPick {d : D} (h : PStep P o S d := by first | exact P_pickT rfl rfl rfl | exact P_pickF rfl rfl rfl | exact P_pick rfl rfl (fun _ => rfl) (fun _ => rfl)) : PStep P o S d := h
theorem P_gFA {d : D} (h : PStep P o S d := by first | exact P_fieldPtr rfl rfl | exact P_fieldObj rfl rfl) : PStep P o S d := h
theorem P_gFld {d : D} (h : PStep P o S d := by first | exact P_field rfl rfl rfl | exact P_fieldAgg3 rfl rfl rfl | exact P_fieldAgg1 rfl rfl rfl | exact P_fieldAgg2 rfl rfl rfl) : PStep P o S d := h
theorem P_gNil {d : D} (h : PStep P o S d := by first | exact P_nilPtr rfl rfl | exact P_nilObj rfl rfl) : PStep P o S d := h
theorem P_gMin {d : D} (h : PStep P o S d := by first | exact P_minL rfl rfl rfl (by omega) | exact P_minR rfl rfl rfl (by omega) | exact P_min rfl rfl rfl (by assumption) | exact P_min rfl rfl rfl (Eq.refl _)) : PStep P o S d := h
theorem P_gMax {d : D} (h : PStep P o S d := by first | exact P_maxL rfl rfl rfl (by omega) | exact P_maxR rfl rfl rfl (by omega) | exact P_max rfl rfl rfl (by assumption) | exact P_max rfl rfl rfl (Eq.refl _)) : PStep P o S d := h
theorem P_gIdx1 {d : D} (h : PStep P o S d := by first | exact P_indexOwn rfl rfl rfl (by omega) (by omega) | exact P_index1 rfl rfl rfl (by first | rfl | omega) (by omega) | exact P_index1_0 rfl rfl rfl (by first | rfl | omega) (by omega) | exact P_index1_1 rfl rfl rfl (by first | rfl | omega) (by omega) | exact P_index1' rfl rfl rfl (by first | rfl | omega) (by omega) (by omega) | exact P_indexLit1 (i := 0) rfl rfl rfl rfl rfl | exact P_indexLit1 (i := 1) rfl rfl rfl rfl rfl | exact P_indexLit1 (i := 2) rfl rfl rfl rfl rfl) : PStep P o S d := h
theorem P_gIdxF {d : D} (h : PStep P o S d := by first | exact P_indexOwn rfl rfl rfl (by omega) (by omega) | exact P_iF rfl rfl rfl (by first | rfl | omega) (by intro _; rfl) (by omega) | exact P_iF0 rfl rfl rfl (by first | rfl | omega) (by intro _; rfl) (by omega) | exact P_iF1 rfl rfl rfl (by first | rfl | omega) (by intro _; rfl) (by omega) | exact P_iF' rfl rfl rfl (by first | rfl | omega) (by intro _; rfl) (by omega) (by omega) | exact P_indexLit3 (i := 0) rfl rfl rfl rfl rfl | exact P_indexLit3 (i := 1) rfl rfl rfl rfl rfl | exact P_indexLit3 (i := 2) rfl rfl rfl rfl rfl) : PStep P o S d := h
theorem P_gConv {d : D} (h : PStep P o S d := by first | exact P_convert rfl rfl rfl rfl (w64 (by omega) (by omega))) : PStep P o S d := h
theorem P_gB1 {d : D} (h : PStep P o S d := by exact P_build1 rfl rfl rfl) : PStep P o S d := h
theorem P_gB2 {d : D} (h : PStep P o S d := by exact P_build2 rfl rfl rfl) : PStep P o S d := h
theorem P_gB3 {d : D} (h : PStep P o S d := by exact P_build3 rfl rfl rfl) : PStep P o S d := h
theorem P_gB4 {d : D} (h : PStep P o S d := by exact P_build4 rfl rfl rfl) : PStep P o S d := h
theorem P_gB5 {d : D} (h : PStep P o S d := by exact P_build5 rfl rfl rfl) : PStep P o S d := h
theorem P_gB6 {d : D} (h : PStep P o S d := by exact P_build6 rfl rfl rfl) : PStep P o S d := h
theorem ev_nb {a b : Nat} (x : Operand) : St.ev ⟨a, sz, tmp, mem⟩ x = St.ev ⟨b, sz, tmp, mem⟩ x := by cases x <;> rfl
theorem PA_index1 {α : Type} {f : α → D} {l : List α} {n k bytes : Nat} {e : TypeId} {ki : IntKind} [hT : TySlice P T' e 1 bytes] (ho : o.op = .indexAddr T' x y) (hx : St.ev ⟨0, sz, tmp, mem⟩ x = some (.row n (l.map f))) (hy : St.ev ⟨0, sz, tmp, mem⟩ y = some (.val (.int ki ((k : Nat) : Int)))) (hn : n = l.length) (hk : k < l.length) : ∀ nb, PStep P o ⟨nb, sz, tmp, mem⟩ (.obj [f l[k]]) :=
  fun nb => P_index1 ho ((ev_nb x).trans hx) ((ev_nb y).trans hy) hn hk
theorem PA_index1' {α : Type} {f : α → D} {l : List α} {n bytes : Nat} {i : Int} {e : TypeId} {ki : IntKind} [hT : TySlice P T' e 1 bytes] (ho : o.op = .indexAddr T' x y) (hx : St.ev ⟨0, sz, tmp, mem⟩ x = some (.row n (l.map f))) (hy : St.ev ⟨0, sz, tmp, mem⟩ y = some (.val (.int ki i))) (hn : n = l.length) (h0 : 0 ≤ i) (hk : i.toNat < l.length) : ∀ nb, PStep P o ⟨nb, sz, tmp, mem⟩ (.obj [f l[i.toNat]]) :=
  fun nb => P_index1' ho ((ev_nb x).trans hx) ((ev_nb y).trans hy) hn h0 hk
theorem PA_index1_0 {α : Type} {f : α → D} {l : List α} {n bytes : Nat} {e : TypeId} {ki : IntKind} [hT : TySlice P T' e 1 bytes] (ho : o.op = .indexAddr T' x y) (hx : St.ev ⟨0, sz, tmp, mem⟩ x = some (.row n (l.map f))) (hy : St.ev ⟨0, sz, tmp, mem⟩ y = some (.val (.int ki 0))) (hn : n = l.length) (hk : 0 < l.length) : ∀ nb, PStep P o ⟨nb, sz, tmp, mem⟩ (.obj [f l[0]]) := PA_index1 (k := 0) ho hx hy hn hk
theorem PA_index1_1 {α : Type} {f : α → D} {l : List α} {n bytes : Nat} {e : TypeId} {ki : IntKind} [hT : TySlice P T' e 1 bytes] (ho : o.op = .indexAddr T' x y) (hx : St.ev ⟨0, sz, tmp, mem⟩ x = some (.row n (l.map f))) (hy : St.ev ⟨0, sz, tmp, mem⟩ y = some (.val (.int ki 1))) (hn : n = l.length) (hk : 1 < l.length) : ∀ nb, PStep P o ⟨nb, sz, tmp, mem⟩ (.obj [f l[1]]) := PA_index1 (k := 1) ho hx hy hn hk
theorem PA_indexF {α : Type} {f : α → List D} {m : Nat} {l : List α} {n k bytes : Nat} {e : TypeId} {ki : IntKind} [hT : TySlice P T' e m bytes] (ho : o.op = .indexAddr T' x y) (hx : St.ev ⟨0, sz, tmp, mem⟩ x = some (.row n (l.flatMap f))) (hy : St.ev ⟨0, sz, tmp, mem⟩ y = some (.val (.int ki ((k : Nat) : Int)))) (hn : n = l.length) (hf : ∀ a, (f a).length = m) (hk : k < l.length) : ∀ nb, PStep P o ⟨nb, sz, tmp, mem⟩ (.obj (f l[k])) :=
  fun nb => P_indexF hf ho ((ev_nb x).trans hx) ((ev_nb y).trans hy) hn hk
theorem PA_indexF' {α : Type} {f : α → List D} {m : Nat} {l : List α} {n bytes : Nat} {i : Int} {e : TypeId} {ki : IntKind} [hT : TySlice P T' e m bytes] (ho : o.op = .indexAddr T' x y) (hx : St.ev ⟨0, sz, tmp, mem⟩ x = some (.row n (l.flatMap f))) (hy : St.ev ⟨0, sz, tmp, mem⟩ y = some (.val (.int ki i))) (hn : n = l.length) (hf : ∀ a, (f a).length = m) (h0 : 0 ≤ i) (hk : i.toNat < l.length) : ∀ nb, PStep P o ⟨nb, sz, tmp, mem⟩ (.obj (f l[i.toNat])) :=
  fun nb => P_indexF' hf ho ((ev_nb x).trans hx) ((ev_nb y).trans hy) hn h0 hk
theorem PA_indexF_0 {α : Type} {f : α → List D} {m : Nat} {l : List α} {n bytes : Nat} {e : TypeId} {ki : IntKind} [hT : TySlice P T' e m bytes] (ho : o.op = .indexAddr T' x y) (hx : St.ev ⟨0, sz, tmp, mem⟩ x = some (.row n (l.flatMap f))) (hy : St.ev ⟨0, sz, tmp, mem⟩ y = some (.val (.int ki 0))) (hn : n = l.length) (hf : ∀ a, (f a).length = m) (hk : 0 < l.length) : ∀ nb, PStep P o ⟨nb, sz, tmp, mem⟩ (.obj (f l[0])) := PA_indexF (k := 0) ho hx hy hn hf hk
theorem PA_indexF_1 {α : Type} {f : α → List D} {m : Nat} {l : List α} {n bytes : Nat} {e : TypeId} {ki : IntKind} [hT : TySlice P T' e m bytes] (ho : o.op = .indexAddr T' x y) (hx : St.ev ⟨0, sz, tmp, mem⟩ x = some (.row n (l.flatMap f))) (hy : St.ev ⟨0, sz, tmp, mem⟩ y = some (.val (.int ki 1))) (hn : n = l.length) (hf : ∀ a, (f a).length = m) (hk : 1 < l.length) : ∀ nb, PStep P o ⟨nb, sz, tmp, mem⟩ (.obj (f l[1])) := PA_indexF (k := 1) ho hx hy hn hf hk
theorem PA_indexOwn {n b size bytes : Nat} {e : TypeId} {ki : IntKind} {i : Int} [hT : TySlice P T' e size bytes] (ho : o.op = .indexAddr T' x y) (hx : St.ev ⟨0, sz, tmp, mem⟩ x = some (.own b n)) (hy : St.ev ⟨0, sz, tmp, mem⟩ y = some (.val (.int ki i))) (h0 : 0 ≤ i) (hi : i < n) : ∀ nb, PStep P o ⟨nb, sz, tmp, mem⟩ (.ptr b (i.toNat * size)) :=
  fun nb => P_indexOwn ho ((ev_nb x).trans hx) ((ev_nb y).trans hy) h0 hi
theorem PA_gIdx1 {d : D} (h : ∀ nb, PStep P o ⟨nb, sz, tmp, mem⟩ d := by first | exact PA_indexOwn rfl rfl rfl (by omega) (by omega) | exact PA_index1 rfl rfl rfl (by first | rfl | omega) (by omega) | exact PA_index1_0 rfl rfl rfl (by first | rfl | omega) (by omega) | exact PA_index1_1 rfl rfl rfl (by first | rfl | omega) (by omega) | exact PA_index1' rfl rfl rfl (by first | rfl | omega) (by omega) (by omega) | exact (fun _ => P_indexLit1 (i := 0) rfl rfl rfl rfl rfl) | exact (fun _ => P_indexLit1 (i := 1) rfl rfl rfl rfl rfl) | exact (fun _ => P_indexLit1 (i := 2) rfl rfl rfl rfl rfl)) : ∀ nb, PStep P o ⟨nb, sz, tmp, mem⟩ d := h
theorem PA_gIdxF {d : D} (h : ∀ nb, PStep P o ⟨nb, sz, tmp, mem⟩ d := by first | exact PA_indexOwn rfl rfl rfl (by omega) (by omega) | exact PA_indexF rfl rfl rfl (by first | rfl | omega) (by intro _; rfl) (by omega) | exact PA_indexF_0 rfl rfl rfl (by first | rfl | omega) (by intro _; rfl) (by omega) | exact PA_indexF_1 rfl rfl rfl (by first | rfl | omega) (by intro _; rfl) (by omega) | exact PA_indexF' rfl rfl rfl (by first | rfl | omega) (by intro _; rfl) (by omega) (by omega) | exact (fun _ => P_indexLit3 (i := 0) rfl rfl rfl rfl rfl) | exact (fun _ => P_indexLit3 (i := 1) rfl rfl rfl rfl rfl) | exact (fun _ => P_indexLit3 (i := 2) rfl rfl rfl rfl rfl)) : ∀ nb, PStep P o ⟨nb, sz, tmp, mem⟩ d := h
theorem MS_p {d : D} (h : PStep P ⟨some t, op, ty, pos, af, gd⟩ ⟨nb, sz, tmp, mem⟩ d) (hg : St.guard ⟨nb, sz, tmp, mem⟩ ops ⟨some t, op, ty, pos, af, gd⟩ = some true) (ht : Nat.blt t sz = true) : MS P ops ⟨some t, op, ty, pos, af, gd⟩ ⟨nb, sz, tmp, mem⟩ ⟨nb, sz, (t, d) :: tmp, mem⟩ :=
  ⟨fun _ _ k => T_step h hg ht k⟩
theorem MS_pass (hg : St.guard ⟨nb, sz, tmp, mem⟩ ops ⟨some t, op, ty, pos, af, gd⟩ = some false) (ht : Nat.blt t sz = true) : MS P ops ⟨some t, op, ty, pos, af, gd⟩ ⟨nb, sz, tmp, mem⟩ ⟨nb, sz, (t, .tup []) :: tmp, mem⟩ :=
  ⟨fun _ _ k => T_pass hg ht k⟩
theorem T_storeAgg {b off sz' n' k' : Nat} {ty' : TypeId} {xs ys xs' : List D} (hx : St.ev ⟨nb, sz, tmp, mem⟩ x = some (.ptr b off)) (hy : St.ev ⟨nb, sz, tmp, mem⟩ y = some (.agg ys)) (hm : getM b mem = some ⟨ty', sz', n', xs⟩) (hg : St.guard ⟨nb, sz, tmp, mem⟩ ops ⟨none, .store T' x y, ty, pos, af, gd⟩ = some true)
    (hs : (P.info? T').map (·.size) = some k') (hk : ys.length = k') (hl : off + k' ≤ xs.length) (hp : putAt xs off ys = xs') (k : T P ops rest ⟨nb, sz, tmp, (b, some ⟨ty', sz', n', xs'⟩) :: mem⟩ K) : T P ops (⟨none, .store T' x y, ty, pos, af, gd⟩ :: rest) ⟨nb, sz, tmp, mem⟩ K :=
  T_store hx hy hm hg hs rfl rfl hk (Nat.ble_eq_true_of_le hl) hp k
theorem MS_Alloc {S' : St} (h : MS P ops o S S' := by first | exact ⟨fun _ _ k => T_alloc rfl rfl k⟩) : MS P ops o S S' := h
theorem MS_BoxA {S' : St} (h : MS P ops o S S' := by first | exact ⟨fun _ _ k => T_boxAgg rfl rfl rfl TySz.size rfl k⟩ | exact ⟨fun _ _ k => T_boxAgg rfl rfl rfl TySz.size (by assumption) k⟩) : MS P ops o S S' := h
theorem MS_BoxO {S' : St} (h : MS P ops o S S' := by first | exact ⟨fun _ _ k => T_boxOne rfl rfl rfl rfl k⟩) : MS P ops o S S' := h
theorem MS_StA {S' : St} (h : MS P ops o S S' := by first | exact ⟨fun _ _ k => T_storeAll rfl rfl rfl rfl TySz.size rfl rfl k⟩ | exact ⟨fun _ _ k => T_storeAgg rfl rfl rfl rfl TySz.size rfl (by omega) rfl k⟩) : MS P ops o S S' := h
theorem T_storeOne6 {b off sz' n' : Nat} {ty' : TypeId} {d e1 e2 e3 e4 e5 e6 : D} {xs : List D} (hx : St.ev ⟨nb, sz, tmp, mem⟩ x = some (.ptr b off)) (hy : St.ev ⟨nb, sz, tmp, mem⟩ y = some d) (hm : getM b mem = some ⟨ty', sz', n', xs⟩) (hp : xs.set off d = [e1, e2, e3, e4, e5, e6]) (hg : St.guard ⟨nb, sz, tmp, mem⟩ ops ⟨none, .store T' x y, ty, pos, af, gd⟩ = some true)
    (hs : (P.info? T').map (·.size) = some 1) (hd : oneD d = true) (hl : Nat.ble (off + 1) xs.length = true)
    (k : T P ops rest ⟨nb, sz, tmp, (b, some ⟨ty', sz', n', [e1, e2, e3, e4, e5, e6]⟩) :: mem⟩ K) : T P ops (⟨none, .store T' x y, ty, pos, af, gd⟩ :: rest) ⟨nb, sz, tmp, mem⟩ K :=
  T_store hx hy hm hg hs (by cases d <;> first | exact hd | rfl) (ys := [d]) (by cases d <;> first | rfl | cases hd) rfl hl hp k
theorem MS_StO {S' : St} (h : MS P ops o S S' := by first | exact ⟨fun _ _ k => T_storeOne1 rfl rfl rfl rfl rfl TySz.size rfl rfl k⟩ | exact ⟨fun _ _ k => T_storeOne3 rfl rfl rfl rfl rfl TySz.size rfl rfl k⟩ | exact ⟨fun _ _ k => T_storeOne2 rfl rfl rfl rfl rfl TySz.size rfl rfl k⟩ | exact ⟨fun _ _ k => T_storeOne4 rfl rfl rfl rfl rfl TySz.size rfl rfl k⟩ | exact ⟨fun _ _ k => T_storeOne6 rfl rfl rfl rfl rfl TySz.size rfl rfl k⟩ | exact ⟨fun _ _ k => T_storeOne rfl rfl rfl rfl TySz.size rfl (by first | omega | (simp only [List.length_map, List.length_replicate, List.length_set, List.length_append]; omega)) rfl k⟩) : MS P ops o S S' := h
theorem MS_Make {S' : St} (h : MS P ops o S S' := by first | exact ⟨fun _ _ k => T_make rfl rfl rfl rfl rfl (by omega) (by omega) k⟩ | exact ⟨fun _ _ k => T_make rfl rfl (by omega) rfl rfl (by omega) (by omega) k⟩) : MS P ops o S S' := h
theorem MS_Push {S' : St} (h : MS P ops o S S' := by first | exact ⟨fun _ _ k => T_push rfl rfl rfl rfl rfl rfl rfl rfl (by omega) (by omega) k⟩ | exact ⟨fun _ _ k => T_push rfl rfl rfl rfl rfl rfl rfl (by simp only [List.length_map, Nat.mul_one]) (by omega) (by omega) k⟩) : MS P ops o S S' := h
/-- a literal as a row of the call's own -/
theorem MS_lit {S' : St} (h : MS P ops o S S' := by
  first
  | exact ⟨fun _ _ k => T_lit0 rfl rfl rfl k⟩
  | exact ⟨fun _ _ k => T_lit1 rfl rfl rfl rfl rfl k⟩
  | exact ⟨fun _ _ k => T_lit rfl rfl rfl rfl rfl k⟩) : MS P ops o S S' := h
theorem go_m {S' : St} (h : MS P ops o S S') (k : T P ops rest S' K) : T P ops (o :: rest) S K := h.h rest K k
theorem go_p {d : D} (h : PStep P ⟨some t, op, ty, pos, af, gd⟩ ⟨nb, sz, tmp, mem⟩ d) (k : T P ops rest ⟨nb, sz, (t, d) :: tmp, mem⟩ K) (hg : St.guard ⟨nb, sz, tmp, mem⟩ ops ⟨some t, op, ty, pos, af, gd⟩ = some true := by rfl) (ht : Nat.blt t sz = true := by rfl) : T P ops (⟨some t, op, ty, pos, af, gd⟩ :: rest) ⟨nb, sz, tmp, mem⟩ K := T_step h hg ht k
theorem go_no (k : T P ops rest ⟨nb, sz, (t, .tup []) :: tmp, mem⟩ K) (hg : St.guard ⟨nb, sz, tmp, mem⟩ ops ⟨some t, op, ty, pos, af, gd⟩ = some false := by rfl) (ht : Nat.blt t sz = true := by rfl) : T P ops (⟨some t, op, ty, pos, af, gd⟩ :: rest) ⟨nb, sz, tmp, mem⟩ K := T_pass hg ht k
theorem go_l (t : Nat) {S' : St} (k : T P ops rest S' K) (h : MS P ops ⟨some t, op, ty, pos, af, gd⟩ S S' := by exact MS_lit) : T P ops (⟨some t, op, ty, pos, af, gd⟩ :: rest) S K := h.h rest K k
/-! calls; rows that are handed on are no more written to -/
theorem P_c {f : Nat} {c : Operand} {args : Array Operand} {ats : Array TypeId} {es ds cs : List D} {r : D} (h : DC P f (es ++ ds ++ cs) r) (hc : S.ev c = some (.fn f es cs)) (hd : S.evs args.toList = some ds) (ho : o.op = .call { callee := .value c, args := args, argTypes := ats })
    (hcl : D.idsL (fun _ => false) (es ++ ds ++ cs) = true) : PStep P o S r := P_call hc hd ho hcl h
theorem go_c {f : Nat} {c : Operand} {args : Array Operand} {ats : Array TypeId} {es ds cs : List D} {r : D} (hc : St.ev ⟨nb, sz, tmp, mem⟩ c = some (.fn f es cs)) (hd : St.evs ⟨nb, sz, tmp, mem⟩ args.toList = some ds) (h : DC P f (es ++ ds ++ cs) r) (k : T P ops rest ⟨nb, sz, (t, r) :: tmp, mem⟩ K)
    (hcl : D.idsL (fun _ => false) (es ++ ds ++ cs) = true := by first | rfl | assumption) (hg : St.guard ⟨nb, sz, tmp, mem⟩ ops ⟨some t, .call { callee := .value c, args := args, argTypes := ats }, ty, pos, af, gd⟩ = some true := by rfl) (ht : Nat.blt t sz = true := by rfl) : T P ops (⟨some t, .call { callee := .value c, args := args, argTypes := ats }, ty, pos, af, gd⟩ :: rest) ⟨nb, sz, tmp, mem⟩ K :=
  T_step (P_call hc hd rfl hcl h) hg ht k
def ownD : D → Option Nat
  | .own b _ => some b
  | .ptr b _ => some b
  | _ => none
def ownD1 : List D → Option Nat
  | [] => none
  | d :: l => match ownD d with
    | some b => some b
    | none => ownD1 l
def ownD2 : D → Option Nat
  | .agg l => ownD1 l
  | d => ownD d
def ownX (S : St) : List Operand → Option Nat
  | [] => none
  | x :: l => match (S.ev x).bind ownD2 with
    | some b => some b
    | none => ownX S l
def ownO (S : St) (o : Oper) : Option Nat := match o.op with
  | .call c => match c.callee with
    | .value _ => ownX S c.args.toList
    | _ => none
  | .buildSlice _ _ ps => ownX S (ps.toList.map (·.2))
  | .makeFunc _ fs cs => ownX S (fs.toList ++ cs.toList)
  | _ => none
theorem go_f {b n size : Nat} {e : TypeId} {xs : List D} (k : T P ops (o :: rest) ⟨nb, sz, tmp.map fun e => (e.1, frz2 b n xs e.2), (b, none) :: mem⟩ K) (hb : ownO ⟨nb, sz, tmp, mem⟩ o = some b := by rfl) (hm : getM b mem = some ⟨e, size, n, xs⟩ := by rfl) (hc : D.idsL (fun _ => false) xs = true := by repeat (first | rfl | exact idsL_map (fun _ => rfl) _ | exact idsL_flat (fun _ => rfl) _ | exact idsL_rep rfl _ | refine idsL_append ?_ ?_)) (hk : okT b n tmp := by repeat (first | exact trivial | exact rfl | refine And.intro ?_ ?_)) : T P ops (o :: rest) ⟨nb, sz, tmp, mem⟩ K :=
  T_wk (Wk.freeze2 b hm hc hk) k
/-! regions that draw their order -/
theorem P_loadR {b off : Nat} {m : M} {e : D} {ys : List D} [hT : TyCell P T'] (ho : o.op = .load T' x) (hx : St.ev ⟨nb, sz, tmp, memR [b] mem⟩ x = some (.ptr b off)) (hm : getM b mem = some m) (hc : m.xs.drop off = e :: ys) : PStep P o ⟨nb, sz, tmp, memR [b] mem⟩ e :=
  P_load (ys := ys) ho hx (by simp [cellsD, memR, getM, hm, hc])
theorem P_loadRA {b off k : Nat} {m : M} {ys zs : List D} [hT : TyAgg P T' k] (ho : o.op = .load T' x) (hx : St.ev ⟨nb, sz, tmp, memR [b] mem⟩ x = some (.ptr b off)) (hm : getM b mem = some m) (hc : m.xs.drop off = ys) (hz : ys.take k = zs) (hk : zs.length = k) : PStep P o ⟨nb, sz, tmp, memR [b] mem⟩ (.agg zs) :=
  P_loadAgg (ys := ys) ho hx (by simp [cellsD, memR, getM, hm, hc]) hz hk
theorem P_loadRA1 {b off : Nat} {m : M} {ys : List D} {d1 : D} [hT : TyAgg P T' 1] (ho : o.op = .load T' x) (hx : St.ev ⟨nb, sz, tmp, memR [b] mem⟩ x = some (.ptr b off)) (hm : getM b mem = some m) (hc : m.xs.drop off = d1 :: ys) : PStep P o ⟨nb, sz, tmp, memR [b] mem⟩ (.agg [d1]) := P_loadRA ho hx hm hc rfl rfl
theorem P_loadRA2 {b off : Nat} {m : M} {ys : List D} {d1 d2 : D} [hT : TyAgg P T' 2] (ho : o.op = .load T' x) (hx : St.ev ⟨nb, sz, tmp, memR [b] mem⟩ x = some (.ptr b off)) (hm : getM b mem = some m) (hc : m.xs.drop off = d1 :: d2 :: ys) : PStep P o ⟨nb, sz, tmp, memR [b] mem⟩ (.agg [d1, d2]) := P_loadRA ho hx hm hc rfl rfl
theorem P_loadRA3 {b off : Nat} {m : M} {ys : List D} {d1 d2 d3 : D} [hT : TyAgg P T' 3] (ho : o.op = .load T' x) (hx : St.ev ⟨nb, sz, tmp, memR [b] mem⟩ x = some (.ptr b off)) (hm : getM b mem = some m) (hc : m.xs.drop off = d1 :: d2 :: d3 :: ys) : PStep P o ⟨nb, sz, tmp, memR [b] mem⟩ (.agg [d1, d2, d3]) := P_loadRA ho hx hm hc rfl rfl
theorem P_loadRA4 {b off : Nat} {m : M} {ys : List D} {d1 d2 d3 d4 : D} [hT : TyAgg P T' 4] (ho : o.op = .load T' x) (hx : St.ev ⟨nb, sz, tmp, memR [b] mem⟩ x = some (.ptr b off)) (hm : getM b mem = some m) (hc : m.xs.drop off = d1 :: d2 :: d3 :: d4 :: ys) : PStep P o ⟨nb, sz, tmp, memR [b] mem⟩ (.agg [d1, d2, d3, d4]) := P_loadRA ho hx hm hc rfl rfl
theorem P_loadRA6 {b off : Nat} {m : M} {ys : List D} {d1 d2 d3 d4 d5 d6 : D} [hT : TyAgg P T' 6] (ho : o.op = .load T' x) (hx : St.ev ⟨nb, sz, tmp, memR [b] mem⟩ x = some (.ptr b off)) (hm : getM b mem = some m) (hc : m.xs.drop off = d1 :: d2 :: d3 :: d4 :: d5 :: d6 :: ys) : PStep P o ⟨nb, sz, tmp, memR [b] mem⟩ (.agg [d1, d2, d3, d4, d5, d6]) := P_loadRA ho hx hm hc rfl rfl
theorem P_lenR {b n size bytes : Nat} {e : TypeId} {m : M} {c : Int} [hT : TySlice P T' e size bytes] (ho : o.op = .call { callee := .builtin .len, args := #[x], argTypes := #[T'] }) (hx : St.ev ⟨nb, sz, tmp, memR [b] mem⟩ x = some (.own b n)) (hm : getM b mem = some m) (hq : m.n = n) (hn : (n : Int) = c) : PStep P o ⟨nb, sz, tmp, memR [b] mem⟩ (.val (.int .i64 c)) :=
  P_len ho hx (n := n) (xs := m.xs) (by simp [sliceD, memR, getM, hm, hq]) hn
section
variable {nb0 i : Nat} {bs : Nat → List (Nat × D)} {mem0 : List (Nat × Option M)} {l : List Oper} {KA : Acc → Prop}
variable {fs : Fs} {al : List (Nat × Nat × Al)} {ch : List Lk} {nd : List (Nat × List Nat)}
theorem W_p (j : Nat) {d : D} (h : ∀ nb, PStep P ⟨some t, op, ty, pos, af, gd⟩ ⟨nb, sz, depX ⟨some t, op, ty, pos, af, gd⟩ (bs i) fs, memR [] (curMem mem0 ch)⟩ d) (k : Walk P ops sz bs nb0 mem0 l j ⟨(i, [(t, d)]) :: fs, al, ch, (i, []) :: nd⟩ KA) (hj : i + 1 = j := by rfl) (hg : ∀ nb, St.guard ⟨nb, sz, depX ⟨some t, op, ty, pos, af, gd⟩ (bs i) fs, []⟩ ops ⟨some t, op, ty, pos, af, gd⟩ = some true := by intro nb; rfl) (ht : Nat.blt t sz = true := by rfl) : Walk P ops sz bs nb0 mem0 (⟨some t, op, ty, pos, af, gd⟩ :: l) i ⟨fs, al, ch, nd⟩ KA := by subst hj; exact W_step [] h hg ht k
theorem W_r (j : Nat) {d : D} {b : Nat} (k : Walk P ops sz bs nb0 mem0 l j ⟨(i, [(t, d)]) :: fs, al, ch, (i, [b]) :: nd⟩ KA) (h : ∀ nb, PStep P ⟨some t, op, ty, pos, af, gd⟩ ⟨nb, sz, depX ⟨some t, op, ty, pos, af, gd⟩ (bs i) fs, memR [b] (curMem mem0 ch)⟩ d := by
      intro nb
      first
      | exact P_loadR rfl rfl rfl rfl
      | exact P_loadRA3 rfl rfl rfl rfl
      | exact P_loadRA1 rfl rfl rfl rfl
      | exact P_loadRA2 rfl rfl rfl rfl
      | exact P_loadRA4 rfl rfl rfl rfl
      | exact P_loadRA6 rfl rfl rfl rfl
      | exact P_lenR rfl rfl rfl rfl rfl) (hj : i + 1 = j := by rfl) (hg : ∀ nb, St.guard ⟨nb, sz, depX ⟨some t, op, ty, pos, af, gd⟩ (bs i) fs, []⟩ ops ⟨some t, op, ty, pos, af, gd⟩ = some true := by intro nb; rfl) (ht : Nat.blt t sz = true := by rfl) : Walk P ops sz bs nb0 mem0 (⟨some t, op, ty, pos, af, gd⟩ :: l) i ⟨fs, al, ch, nd⟩ KA := by subst hj; exact W_step [b] h hg ht k
theorem W_c (j : Nat) {f : Nat} {c : Operand} {args : Array Operand} {ats : Array TypeId} {es ds cs : List D} {r : D} (h : DC P f (es ++ ds ++ cs) r) (k : Walk P ops sz bs nb0 mem0 l j ⟨(i, [(t, r)]) :: fs, al, ch, (i, []) :: nd⟩ KA) (hj : i + 1 = j := by rfl)
    (hc : ∀ nb, St.ev ⟨nb, sz, depX ⟨some t, .call { callee := .value c, args := args, argTypes := ats }, ty, pos, af, gd⟩ (bs i) fs, memR [] (curMem mem0 ch)⟩ c = some (.fn f es cs) := by intro nb; rfl) (hd : ∀ nb, St.evs ⟨nb, sz, depX ⟨some t, .call { callee := .value c, args := args, argTypes := ats }, ty, pos, af, gd⟩ (bs i) fs, memR [] (curMem mem0 ch)⟩ args.toList = some ds := by intro nb; rfl)
    (hcl : D.idsL (fun _ => false) (es ++ ds ++ cs) = true := by first | rfl | assumption) (hg : ∀ nb, St.guard ⟨nb, sz, depX ⟨some t, .call { callee := .value c, args := args, argTypes := ats }, ty, pos, af, gd⟩ (bs i) fs, []⟩ ops ⟨some t, .call { callee := .value c, args := args, argTypes := ats }, ty, pos, af, gd⟩ = some true := by intro nb; rfl) (ht : Nat.blt t sz = true := by rfl) : Walk P ops sz bs nb0 mem0 (⟨some t, .call { callee := .value c, args := args, argTypes := ats }, ty, pos, af, gd⟩ :: l) i ⟨fs, al, ch, nd⟩ KA := by subst hj; exact W_step [] (fun nb => P_call (hc nb) (hd nb) rfl hcl h) hg ht k
theorem W_no (j : Nat) (k : Walk P ops sz bs nb0 mem0 l j ⟨(i, [(t, .tup [])]) :: fs, al, ch, (i, []) :: nd⟩ KA) (hj : i + 1 = j := by rfl) (hg : ∀ nb, St.guard ⟨nb, sz, depX ⟨some t, op, ty, pos, af, gd⟩ (bs i) fs, []⟩ ops ⟨some t, op, ty, pos, af, gd⟩ = some false := by intro nb; rfl) (ht : Nat.blt t sz = true := by rfl) : Walk P ops sz bs nb0 mem0 (⟨some t, op, ty, pos, af, gd⟩ :: l) i ⟨fs, al, ch, nd⟩ KA := by subst hj; exact W_pass hg ht k
theorem W_a (j : Nat) {kz : Nat} {zs : List Value} {zd : List D} [hz : TyZero P T' kz zs zd] (k : Walk P ops sz bs nb0 mem0 l j ⟨fs, (i, t, ⟨true, T', kz, 1, zd⟩) :: al, [], nd⟩ KA) (hj : i + 1 = j := by rfl) (ht : Nat.blt t sz = true := by rfl) : Walk P ops sz bs nb0 mem0 (⟨some t, .alloc T', ty, pos, af, none⟩ :: l) i ⟨fs, al, [], nd⟩ KA := by subst hj; exact W_alloc ht k
theorem W_t (j : Nat) {d : D} {nb' : Nat} {mem' : List (Nat × Option M)} (h : ∀ extra, MS P ops ⟨some t, op, ty, pos, af, gd⟩ ⟨pickN nb0 al ch, sz, pickT nb0 al ch ++ (depX ⟨some t, op, ty, pos, af, gd⟩ (bs i) fs ++ extra), pickM nb0 mem0 al ch⟩ ⟨nb', sz, (t, d) :: (pickT nb0 al ch ++ (depX ⟨some t, op, ty, pos, af, gd⟩ (bs i) fs ++ extra)), mem'⟩) (k : Walk P ops sz bs nb0 mem0 l j ⟨(i, (t, d) :: pickT nb0 al ch) :: fs, al, ⟨i, nb', mem', (mem'.take (mem'.length - (curMem mem0 ch).length)).map (·.1)⟩ :: ch, nd⟩ KA) (hj : i + 1 = j := by rfl) (hm : mem'.drop (mem'.length - (curMem mem0 ch).length) = curMem mem0 ch := by rfl) : Walk P ops sz bs nb0 mem0 (⟨some t, op, ty, pos, af, gd⟩ :: l) i ⟨fs, al, ch, nd⟩ KA := by subst hj; exact W_chainT (fun extra => (h extra).h _ _ (T_nil rfl)) hm k
theorem W_l (j : Nat) (t : Nat) {d : D} {nb' : Nat} {mem' : List (Nat × Option M)} (k : Walk P ops sz bs nb0 mem0 l j ⟨(i, (t, d) :: pickT nb0 al ch) :: fs, al, ⟨i, nb', mem', (mem'.take (mem'.length - (curMem mem0 ch).length)).map (·.1)⟩ :: ch, nd⟩ KA) (h : ∀ extra, MS P ops ⟨some t, op, ty, pos, af, gd⟩ ⟨pickN nb0 al ch, sz, pickT nb0 al ch ++ (depX ⟨some t, op, ty, pos, af, gd⟩ (bs i) fs ++ extra), pickM nb0 mem0 al ch⟩ ⟨nb', sz, (t, d) :: (pickT nb0 al ch ++ (depX ⟨some t, op, ty, pos, af, gd⟩ (bs i) fs ++ extra)), mem'⟩ := by intro extra; exact MS_lit) (hj : i + 1 = j := by rfl) (hm : mem'.drop (mem'.length - (curMem mem0 ch).length) = curMem mem0 ch := by rfl) : Walk P ops sz bs nb0 mem0 (⟨some t, op, ty, pos, af, gd⟩ :: l) i ⟨fs, al, ch, nd⟩ KA := W_t j h k hj hm
theorem W_n (j : Nat) {nb' : Nat} {mem' : List (Nat × Option M)} (h : ∀ extra, MS P ops ⟨none, op, ty, pos, af, gd⟩ ⟨pickN nb0 al ch, sz, pickT nb0 al ch ++ (depX ⟨none, op, ty, pos, af, gd⟩ (bs i) fs ++ extra), pickM nb0 mem0 al ch⟩ ⟨nb', sz, pickT nb0 al ch ++ (depX ⟨none, op, ty, pos, af, gd⟩ (bs i) fs ++ extra), mem'⟩) (k : Walk P ops sz bs nb0 mem0 l j ⟨(i, pickT nb0 al ch) :: fs, al, ⟨i, nb', mem', (mem'.take (mem'.length - (curMem mem0 ch).length)).map (·.1)⟩ :: ch, nd⟩ KA) (hj : i + 1 = j := by rfl) (hm : mem'.drop (mem'.length - (curMem mem0 ch).length) = curMem mem0 ch := by rfl) : Walk P ops sz bs nb0 mem0 (⟨none, op, ty, pos, af, gd⟩ :: l) i ⟨fs, al, ch, nd⟩ KA := by subst hj; exact W_chainN (fun extra => (h extra).h _ _ (T_nil rfl)) hm k
theorem W_e {Z : Acc} {Kc : Exit → St → Prop} {lb : List Oper} {ow base : List (Nat × D)} {nb1 : Nat} {tmp1 : List (Nat × D)} {mem1 : List (Nat × Option M)} (k : Kc .normal ⟨nb1, sz, tmp1, mem1⟩) (h1 : curNb nb Z.ch = nb1 := by first | (dsimp only [curNb, pickN, List.length_nil, List.length_cons, Nat.reduceAdd]; done) | (dsimp only [curNb, pickN, List.length_nil, List.length_cons, Nat.reduceAdd]; rfl) | rfl)
    (h2 : flatX Z.fs base = tmp1 := by first | (dsimp only [flatX, pickT, adoptT, pickN, curNb, List.cons_append, List.nil_append, List.append_eq, List.length_nil, List.length_cons, Nat.reduceAdd, Nat.add_zero, Nat.zero_add]; done) | (dsimp only [flatX, pickT, adoptT, pickN, curNb, List.cons_append, List.nil_append, List.append_eq, List.length_nil, List.length_cons, Nat.reduceAdd, Nat.add_zero, Nat.zero_add]; rfl) | rfl) (h3 : curMem mem Z.ch = mem1 := by first | (dsimp only [curMem, pickM, adoptM, pickN, curNb, List.cons_append, List.nil_append, List.append_eq, List.length_nil, List.length_cons, Nat.reduceAdd, Nat.add_zero, Nat.zero_add]; done) | (dsimp only [curMem, pickM, adoptM, pickN, curNb, List.cons_append, List.nil_append, List.append_eq, List.length_nil, List.length_cons, Nat.reduceAdd, Nat.add_zero, Nat.zero_add]; rfl) | rfl)
    (h : Chk lb ow base Z := by exact ⟨by kernel_rfl, by kernel_rfl, by kernel_rfl, by kernel_rfl, by kernel_rfl, by kernel_rfl, by kernel_rfl, by kernel_rfl, by kernel_rfl, by kernel_rfl, by kernel_rfl, by kernel_rfl, by kernel_rfl, by kernel_rfl, by kernel_rfl⟩) : Walk P ops sz bs nb0 mem0 [] i Z fun Z => Chk lb ow base Z ∧ Kc .normal ⟨curNb nb Z.ch, sz, flatX Z.fs base, curMem mem Z.ch⟩ := W_nil ⟨h, by rw [h1, h2, h3]; exact k⟩
end
theorem C_dr {l : List Oper} {ow base : List (Nat × D)} {id : Nat} {Kc : Exit → St → Prop} (hm : P.follows .mixedOrders = true) (h : Walk P l.toArray sz (bsAt l ow base) nb mem l 0 ⟨[], [], [], []⟩ fun Z => Chk l ow base Z ∧ Kc .normal ⟨curNb nb Z.ch, sz, flatX Z.fs base, curMem mem Z.ch⟩)
    (hc : Clean l tmp ow base := by repeat (first | exact Clean.nil | (apply Clean.keep; rfl) | (apply Clean.drop; rfl))) : C P (.region id l.toArray true) ⟨nb, sz, tmp, mem⟩ Kc := C_drawX hm hc h
theorem Wk.freezeTop (b : Nat) {m : M} (hm : getM b mem = some m) (hc : D.idsL (fun _ => false) m.xs = true) : Wk ⟨nb, sz, (t, .own b m.n) :: tmp, mem⟩ ⟨nb, sz, (t, .row m.n m.xs) :: tmp, (b, none) :: mem⟩ := fun w0 I0 ρ I a w g => by
  obtain ⟨I', g', hI, h1, h2⟩ := g.freeze hm hc
  refine ⟨ρ, I', ⟨g'.later, g'.lt, g'.base, g'.old, g'.defers, g'.sz, fun s d h => ?_, g'.mem, g'.inj⟩⟩
  have h' : cond (Nat.beq t s) (some (D.row m.n m.xs)) (look s tmp) = some d := h
  have hl : look s ((t, D.own b m.n) :: tmp) = cond (Nat.beq t s) (some (D.own b m.n)) (look s tmp) := rfl
  cases hb : Nat.beq t s with
  | true =>
    rw [hb] at h' hl
    cases h'
    exact h1 _ (g'.tmp s _ hl)
  | false =>
    rw [hb] at h' hl
    exact g'.tmp s d (hl.trans h')
/-- an append whose row is no more written to from then on -/
theorem MS_pushF {b n k' size bytes n' : Nat} {e : TypeId} {d : D} {xs ys : List D} [hT : TySlice P T' e size bytes] (hx : St.ev ⟨nb, sz, tmp, mem⟩ x = some (.own b n)) (hy : St.ev ⟨nb, sz, tmp, mem⟩ y = some d) (hm : getM b mem = some ⟨e, size, n', xs⟩) (hs : sliceD mem d = some (k', ys)) (hg : St.guard ⟨nb, sz, tmp, mem⟩ ops ⟨some t, .call { callee := .builtin .append, args := #[x, y], argTypes := #[T', T'] }, ty, pos, af, gd⟩ = some true) (ht : Nat.blt t sz = true)
    (h3 : n' = n) (hl : ys.length = k' * size) (hb : (n + k') * bytes ≤ 140737488355328) (hml : n + k' ≤ 9223372036854775807) (hc : D.idsL (fun _ => false) (xs ++ ys) = true) :
    MS P ops ⟨some t, .call { callee := .builtin .append, args := #[x, y], argTypes := #[T', T'] }, ty, pos, af, gd⟩ ⟨nb, sz, tmp, mem⟩ ⟨nb + 1, sz, (t, .row (n + k') (xs ++ ys)) :: tmp, (nb, none) :: (nb, some ⟨e, size, n + k', xs ++ ys⟩) :: (b, none) :: mem⟩ :=
  ⟨fun _ _ k => T_push hx hy hm hs hg ht h3 hl hb hml (T_wk (Wk.freezeTop nb (m := ⟨e, size, n + k', xs ++ ys⟩) (by show cond (Nat.beq nb nb) _ _ = _; rw [Nat.beq_refl]; rfl) hc) k)⟩
section
variable {nb0 i : Nat} {bs : Nat → List (Nat × D)} {mem0 : List (Nat × Option M)} {l : List Oper} {KA : Acc → Prop}
variable {fs : Fs} {al : List (Nat × Nat × Al)} {ch : List Lk} {nd : List (Nat × List Nat)}
theorem W_pf (j : Nat) (t : Nat) {d : D} {nb' : Nat} {mem' : List (Nat × Option M)} (k : Walk P ops sz bs nb0 mem0 l j ⟨(i, (t, d) :: pickT nb0 al ch) :: fs, al, ⟨i, nb', mem', (mem'.take (mem'.length - (curMem mem0 ch).length)).map (·.1)⟩ :: ch, nd⟩ KA) (h : ∀ extra, MS P ops ⟨some t, op, ty, pos, af, gd⟩ ⟨pickN nb0 al ch, sz, pickT nb0 al ch ++ (depX ⟨some t, op, ty, pos, af, gd⟩ (bs i) fs ++ extra), pickM nb0 mem0 al ch⟩ ⟨nb', sz, (t, d) :: (pickT nb0 al ch ++ (depX ⟨some t, op, ty, pos, af, gd⟩ (bs i) fs ++ extra)), mem'⟩ := by
      intro extra
      first
      | exact MS_pushF rfl rfl rfl rfl rfl rfl rfl rfl (by omega) (by omega) (by repeat (first | rfl | exact idsL_map (fun _ => rfl) _ | exact idsL_flat (fun _ => rfl) _ | exact idsL_rep rfl _ | refine idsL_append ?_ ?_))
      | exact MS_pushF rfl rfl rfl rfl rfl rfl rfl (by simp only [List.length_map, Nat.mul_one]) (by omega) (by omega) (by repeat (first | rfl | exact idsL_map (fun _ => rfl) _ | exact idsL_flat (fun _ => rfl) _ | exact idsL_rep rfl _ | refine idsL_append ?_ ?_))) (hj : i + 1 = j := by rfl) (hm : mem'.drop (mem'.length - (curMem mem0 ch).length) = curMem mem0 ch := by rfl) : Walk P ops sz bs nb0 mem0 (⟨some t, op, ty, pos, af, gd⟩ :: l) i ⟨fs, al, ch, nd⟩ KA := W_t j h k hj hm
end
theorem Wk.go (σ : Nat → Nat) {nb' : Nat} {tmp' : List (Nat × D)} {mem' : List (Nat × Option M)} (h1 : WkT σ nb' tmp tmp' := by
    repeat (first | exact WkT.nil | refine WkT.cons rfl (Ren.im rfl) ?_ | refine WkT.cons rfl (Ren.own rfl rfl rfl) ?_ | refine WkT.cons rfl (Ren.ptr rfl rfl rfl) ?_ | refine WkT.cons rfl (Ren.int (by omega)) ?_ | refine WkT.cons rfl (Ren.own rfl rfl (by omega)) ?_ | refine WkT.cons rfl (Ren.eq (by assumption) rfl) ?_))
    (h2 : WkM σ nb' mem mem' := by
    repeat (first | exact WkM.nil | refine WkM.cons rfl rfl rfl (RenL.im rfl rfl) ?_ | refine WkM.cons rfl rfl rfl (RenL.cons (Ren.own rfl rfl rfl) RenL.nil) ?_ | refine WkM.cons rfl rfl rfl (RenL.cons (Ren.own rfl rfl (by omega)) RenL.nil) ?_ | refine WkM.cons rfl rfl rfl (RenL.im rfl (by repeat (first | rfl | exact idsL_map (fun _ => rfl) _ | exact idsL_flat (fun _ => rfl) _ | exact idsL_rep rfl _ | refine idsL_append ?_ ?_))) ?_ | refine WkM.cons rfl rfl (by omega) (RenL.im (by assumption) (by repeat (first | rfl | exact idsL_map (fun _ => rfl) _ | exact idsL_flat (fun _ => rfl) _ | exact idsL_rep rfl _ | refine idsL_append ?_ ?_))) ?_ | refine WkM.cons rfl rfl (by omega) (RenL.im rfl (by repeat (first | rfl | exact idsL_map (fun _ => rfl) _ | exact idsL_flat (fun _ => rfl) _ | exact idsL_rep rfl _ | refine idsL_append ?_ ?_))) ?_))
    (h3 : nodupB (mem'.map fun e => σ e.1) = true := by rfl) : Wk ⟨nb, sz, tmp, mem⟩ ⟨nb', sz, tmp', mem'⟩ := Wk.mk σ h1 h2 h3
/-! the end -/
theorem kEnd_wk {rs : List ResultVar} {r : D} {e : Exit} {S S' : St} (h : Wk S S') (k : kEnd P rs r e S') : kEnd P rs r e S := by
  cases e with
  | normal => obtain ⟨⟨S1, ds, h1, h2⟩⟩ := k; exact ⟨⟨S1, ds, h.trans h1, h2⟩⟩
  | ret => obtain ⟨⟨S1, ds, h1, h2⟩⟩ := k; exact ⟨⟨S1, ds, h.trans h1, h2⟩⟩
  | _ => exact k.h.elim
def ownRes (S : St) : List ResultVar → Option Nat
  | [] => none
  | .tmp t :: l => match (look t S.tmp).bind ownD2 with
    | some b => some b
    | none => ownRes S l
  | .cell _ _ :: l => ownRes S l
def ownAt : List D → Nat → Option (Nat × Nat)
  | [], _ => none
  | d :: l, j => match d with
    | .own b _ => some (j, b)
    | _ => ownAt l (j + 1)
def ownCell (S : St) : List ResultVar → Option (Nat × Nat × Nat)
  | [] => none
  | .tmp _ :: l => ownCell S l
  | .cell t _ :: l => match look t S.tmp with
    | some (.ptr c off) => match (getM c S.mem).bind fun m => ownAt (m.xs.drop off) off with
      | some (j, b) => some (c, j, b)
      | none => ownCell S l
    | _ => ownCell S l
theorem kEnd_f {rs : List ResultVar} {r : D} {ex : Exit} {b n size : Nat} {e : TypeId} {xs : List D} (k : kEnd P rs r ex ⟨nb, sz, tmp.map fun e => (e.1, frz2 b n xs e.2), (b, none) :: mem⟩) (hb : ownRes ⟨nb, sz, tmp, mem⟩ rs = some b := by rfl) (hm : getM b mem = some ⟨e, size, n, xs⟩ := by rfl) (hc : D.idsL (fun _ => false) xs = true := by repeat (first | rfl | exact idsL_map (fun _ => rfl) _ | exact idsL_flat (fun _ => rfl) _ | exact idsL_rep rfl _ | refine idsL_append ?_ ?_)) (hk : okT b n tmp := by repeat (first | exact trivial | exact rfl | refine And.intro ?_ ?_)) : kEnd P rs r ex ⟨nb, sz, tmp, mem⟩ :=
  kEnd_wk (Wk.freeze2 b hm hc hk) k
theorem kEnd_m {rs : List ResultVar} {r : D} {ex : Exit} {c j b n n' size size' : Nat} {e e' : TypeId} {xs ys : List D} (k : kEnd P rs r ex ⟨nb, sz, tmp.map fun x => (x.1, frz b ⟨e, size, n, xs⟩ x.2), (c, some ⟨e', size', n', ys.set j (.row n xs)⟩) :: (b, none) :: mem⟩) (hb : ownCell ⟨nb, sz, tmp, mem⟩ rs = some (c, j, b) := by rfl) (hm : getM b mem = some ⟨e, size, n, xs⟩ := by rfl) (hmc : getM c mem = some ⟨e', size', n', ys⟩ := by rfl) (hj : ys[j]? = some (.own b n) := by rfl) (hne : Nat.beq b c = false := by rfl)
    (hc : D.idsL (fun _ => false) xs = true := by repeat (first | rfl | exact idsL_map (fun _ => rfl) _ | exact idsL_flat (fun _ => rfl) _ | exact idsL_rep rfl _ | refine idsL_append ?_ ?_)) : kEnd P rs r ex ⟨nb, sz, tmp, mem⟩ :=
  kEnd_wk (Wk.freezeM c j b hm hc hmc hj hne) k
theorem kEnd_g {rs : List ResultVar} {r : D} {e : Exit} {S : St} {ds : List D} (h2 : Sub (tupD ds) r) (he : e = .ret ∨ e = .normal) (h1 : ResV P S rs ds := by repeat (first | exact ResV.nil | (apply ResV.tmp; rfl) | (apply ResV.agg3; rfl; rfl) | (apply ResV.agg1; rfl; rfl) | (apply ResV.agg2; rfl; rfl) | (apply ResV.agg4; rfl; rfl) | (apply ResV.cell; rfl; rfl))) : kEnd P rs r e S := by
  rcases he with rfl | rfl
  · exact kEnd_r (Wk.refl _) h1 h2
  · exact kEnd_n (Wk.refl _) h1 h2
end
end Go.Proofs.Ytpomhnmfkdgafaa
namespace Go.Proofs.Ytpomhnmfkdgafaa
open Go.RowKit
set_option linter.unusedVariables false
set_option linter.unusedSimpArgs false
theorem RC.cut {I : Nat → Prop} {w : World} {n lo hi m size : Nat} {xs : List D} {ao : Option Addr} {cap : Nat} (h : RC I w (.row n xs) (.slice ao n cap)) (h1 : lo ≤ hi) (h3 : hi ≤ m) (h4 : m ≤ cap) : RC I w (.row (hi - lo) ((xs.drop (lo * size)).take ((hi - lo) * size))) (sliced ao lo hi m size) := by
  cases h with
  | row hc hm hn hl ha hs ho hr =>
    rename_i b off us
    unfold sliced
    refine .row (b := b) (off := off + lo * size) (us := (us.drop (lo * size)).take ((hi - lo) * size)) (by omega) (by omega) (fun hh => ?_) (by simp [hl]) (fun hh => ?_) ((LiesAt.drop hs _).take _) (fun u hu => ho u (List.mem_of_mem_drop (List.mem_of_mem_take hu))) fun j d u h7 h8 => ?_
    · split at hh
      · omega
      · have : ao = none := by simpa using hh
        have := hn this
        omega
    · rw [List.length_take, List.length_drop] at hh
      have hlt : lo < hi := by
        rcases Nat.lt_or_ge lo hi with h | h
        · exact h
        · rw [show hi - lo = 0 by omega, Nat.zero_mul] at hh; omega
      obtain ⟨rfl, hI⟩ := ha (by omega)
      rw [if_neg (by omega)]
      exact ⟨by simp [Addr.add_mid], hI⟩
    · have hj : j < (hi - lo) * size := by
        have := (List.getElem?_eq_some_iff.1 h7).1
        rw [List.length_take] at this
        omega
      rw [List.getElem?_take, if_pos hj, List.getElem?_drop] at h7 h8
      exact hr _ d u h7 h8
section
variable {P : Program} {S : St} {o : Oper} {x y z u : Operand} {t : TypeId}
theorem elem_ty {size bytes : Nat} {e : TypeId} (hT : TySlice P t e size bytes) : P.underlying t = some (.slice (P.elem t)) ∧ ∀ w, (sizeOf (P.elem t)).run P w = .ok size w := by
  have e1 : P.elem t = e := by simp [Program.elem, hT.ty]
  obtain ⟨i, zz, h1, h2, h3, h4, h5⟩ := hT.info
  rw [e1]
  exact ⟨hT.ty, fun w => by rw [run_sizeOf'' h1, h3]⟩
theorem P_cut {n lo hi size bytes : Nat} {xs : List D} {e : TypeId} {a1 a2 a3 : Option Operand} (m : Nat → Nat) (hT : TySlice P t e size bytes) (ho : o.op = .slice t x a1 a2 a3) (hx : S.ev x = some (.row n xs)) (h1 : lo ≤ hi) (h2 : ∀ cap, n ≤ cap → hi ≤ m cap ∧ m cap ≤ cap)
    (hrun : ∀ w0 I0 ρ I a w, G w0 I0 S ρ I a w → ∀ ao cap, n ≤ cap → (Instr.slice t (.slice ao n cap) (a1.map a.eval) (a2.map a.eval) (a3.map a.eval)).run P w = .ok (sliced ao lo hi (m cap) size) w) : PStep P o S (.row (hi - lo) ((xs.drop (lo * size)).take ((hi - lo) * size))) :=
  PStep.pure fun w0 I0 ρ I ac w g => by
    have h := g.ev hx
    generalize hv : ac.eval x = v at h
    cases h with | im h =>
    have h' := h
    cases h with
    | row hc hm hn hl ha hs ho' hr =>
      rename_i ao cap b off us
      have hr := hrun w0 I0 ρ I ac w g ao cap hc
      obtain ⟨k1, k2⟩ := h2 cap hc
      refine ⟨_, ?_, .im (h'.cut h1 k1 k2)⟩
      simp [execOp, ho, hv, run_sliceAt_slice (h := (elem_ty hT).1), hr]
variable {k1 k2 k3 : IntKind} {n size bytes : Nat} {xs zs : List D} {e : TypeId} {lo hi mx : Int}
theorem P_cutLH [hT : TySlice P t e size bytes] (ho : o.op = .slice t x (some y) (some z) none) (hx : S.ev x = some (.row n xs)) (hy : S.ev y = some (.val (.int k1 lo))) (hz : S.ev z = some (.val (.int k2 hi))) (h0 : 0 ≤ lo) (h1 : lo ≤ hi) (h2 : hi ≤ n) :
    PStep P o S (.row (hi.toNat - lo.toNat) ((xs.drop (lo.toNat * size)).take ((hi.toNat - lo.toNat) * size))) :=
  P_cut (fun cap => cap) hT ho hx (by omega) (fun cap h => ⟨by omega, Nat.le_refl _⟩) fun w0 I0 ρ I a w g ao cap h => by
    have e1 := (g.ev hy).val_eq
    have e2 := (g.ev hz).val_eq
    simp only [Option.map_some, Option.map_none, e1, e2, run_slice_lh w t ao n cap (elem_ty hT).1 k1 k2 lo hi h0 h1 (by omega), (elem_ty hT).2, Result.andThen_ok]
theorem P_cutL [hT : TySlice P t e size bytes] (ho : o.op = .slice t x (some y) none none) (hx : S.ev x = some (.row n xs)) (hy : S.ev y = some (.val (.int k1 lo))) (h0 : 0 ≤ lo) (h1 : lo ≤ n) :
    PStep P o S (.row (n - lo.toNat) ((xs.drop (lo.toNat * size)).take ((n - lo.toNat) * size))) :=
  P_cut (fun cap => cap) hT ho hx (by omega) (fun cap h => ⟨by omega, Nat.le_refl _⟩) fun w0 I0 ρ I a w g ao cap h => by
    have e1 := (g.ev hy).val_eq
    simp only [Option.map_some, Option.map_none, e1, run_slice_l w t ao n cap (elem_ty hT).1 k1 lo h0 h1, (elem_ty hT).2, Result.andThen_ok]
theorem P_cutH [hT : TySlice P t e size bytes] (ho : o.op = .slice t x none (some z) none) (hx : S.ev x = some (.row n xs)) (hz : S.ev z = some (.val (.int k2 hi))) (h0 : 0 ≤ hi) (h2 : hi ≤ n) :
    PStep P o S (.row (hi.toNat - 0) ((xs.drop (0 * size)).take ((hi.toNat - 0) * size))) :=
  P_cut (fun cap => cap) hT ho hx (by omega) (fun cap h => ⟨by omega, Nat.le_refl _⟩) fun w0 I0 ρ I a w g ao cap h => by
    have e2 := (g.ev hz).val_eq
    simp only [Option.map_some, Option.map_none, e2, run_slice_h w t ao n cap (elem_ty hT).1 k2 hi h0 (by omega), (elem_ty hT).2, Result.andThen_ok]
theorem P_cutLHM [hT : TySlice P t e size bytes] (ho : o.op = .slice t x (some y) (some z) (some u)) (hx : S.ev x = some (.row n xs)) (hy : S.ev y = some (.val (.int k1 lo))) (hz : S.ev z = some (.val (.int k2 hi))) (hu : S.ev u = some (.val (.int k3 mx))) (h0 : 0 ≤ lo) (h1 : lo ≤ hi) (h2 : hi ≤ mx) (h3 : mx ≤ n) :
    PStep P o S (.row (hi.toNat - lo.toNat) ((xs.drop (lo.toNat * size)).take ((hi.toNat - lo.toNat) * size))) :=
  P_cut (fun _ => mx.toNat) hT ho hx (by omega) (fun cap h => ⟨by omega, by omega⟩) fun w0 I0 ρ I a w g ao cap h => by
    have e1 := (g.ev hy).val_eq
    have e2 := (g.ev hz).val_eq
    have e3 := (g.ev hu).val_eq
    simp only [Option.map_some, Option.map_none, e1, e2, e3, run_slice_lhm w t ao n cap (elem_ty hT).1 k1 k2 k3 lo hi mx h0 h1 h2 (by omega), (elem_ty hT).2, Result.andThen_ok]
end
/-! rows of lists -/
theorem cut_map {α : Type} {f : α → D} {l l' : List α} {n lo hi : Nat} (hn : n = l.length) (h1 : lo ≤ hi) (h2 : hi ≤ n) (hl : (l.drop lo).take (hi - lo) = l') : D.row (hi - lo) (((l.map f).drop (lo * 1)).take ((hi - lo) * 1)) = .row l'.length (l'.map f) := by
  subst hl
  rw [Nat.mul_one, Nat.mul_one, ← List.map_drop, ← List.map_take, List.length_take, List.length_drop]
  congr 1
  omega
theorem drop_flat {α β : Type} {f : α → List β} {m : Nat} (hf : ∀ a, (f a).length = m) : ∀ (l : List α) (k : Nat), (l.flatMap f).drop (k * m) = (l.drop k).flatMap f
  | [], k => by simp
  | a :: l, 0 => by simp
  | a :: l, k + 1 => by
    rw [List.flatMap_cons, List.drop_append, show (k + 1) * m = m + k * m by rw [Nat.add_mul]; omega, List.drop_eq_nil_of_le (by rw [hf]; omega), hf, show m + k * m - m = k * m by omega, drop_flat hf l k]
    rfl
theorem take_flat {α β : Type} {f : α → List β} {m : Nat} (hf : ∀ a, (f a).length = m) : ∀ (l : List α) (k : Nat), (l.flatMap f).take (k * m) = (l.take k).flatMap f
  | [], k => by simp
  | a :: l, 0 => by simp
  | a :: l, k + 1 => by
    rw [List.flatMap_cons, List.take_append, show (k + 1) * m = m + k * m by rw [Nat.add_mul]; omega, List.take_of_length_le (by rw [hf]; omega), hf, show m + k * m - m = k * m by omega, take_flat hf l k]
    rfl
theorem cut_flat {α : Type} {f : α → List D} {m : Nat} {l l' : List α} {n lo hi : Nat} (hf : ∀ a, (f a).length = m) (hn : n = l.length) (h1 : lo ≤ hi) (h2 : hi ≤ n) (hl : (l.drop lo).take (hi - lo) = l') : D.row (hi - lo) (((l.flatMap f).drop (lo * m)).take ((hi - lo) * m)) = .row l'.length (l'.flatMap f) := by
  subst hl
  rw [drop_flat hf, take_flat hf, List.length_take, List.length_drop]
  congr 1
  omega
section
variable {P : Program} {S : St} {o : Oper} {x y z u : Operand} {t : TypeId}
variable {k1 k2 k3 : IntKind} {n m bytes : Nat} {e : TypeId} {lo hi mx : Int} {α : Type} {f : α → D} {ff : α → List D} {l l' : List α}
theorem P_cLH1 [hT : TySlice P t e 1 bytes] (ho : o.op = .slice t x (some y) (some z) none) (hx : S.ev x = some (.row n (l.map f))) (hy : S.ev y = some (.val (.int k1 lo))) (hz : S.ev z = some (.val (.int k2 hi))) (hn : n = l.length) (h0 : 0 ≤ lo) (h1 : lo ≤ hi) (h2 : hi ≤ n) (hl : (l.drop lo.toNat).take (hi.toNat - lo.toNat) = l') : PStep P o S (.row l'.length (l'.map f)) := by
  have h := P_cutLH (hT := hT) ho hx hy hz h0 h1 h2
  rwa [cut_map hn (by omega) (by omega) hl] at h
theorem P_cL1 [hT : TySlice P t e 1 bytes] (ho : o.op = .slice t x (some y) none none) (hx : S.ev x = some (.row n (l.map f))) (hy : S.ev y = some (.val (.int k1 lo))) (hn : n = l.length) (h0 : 0 ≤ lo) (h1 : lo ≤ n) (hl : (l.drop lo.toNat).take (n - lo.toNat) = l') : PStep P o S (.row l'.length (l'.map f)) := by
  have h := P_cutL (hT := hT) ho hx hy h0 h1
  rwa [cut_map hn (by omega) (by omega) hl] at h
theorem P_cH1 [hT : TySlice P t e 1 bytes] (ho : o.op = .slice t x none (some z) none) (hx : S.ev x = some (.row n (l.map f))) (hz : S.ev z = some (.val (.int k2 hi))) (hn : n = l.length) (h0 : 0 ≤ hi) (h2 : hi ≤ n) (hl : (l.drop 0).take (hi.toNat - 0) = l') : PStep P o S (.row l'.length (l'.map f)) := by
  have h := P_cutH (hT := hT) ho hx hz h0 h2
  rwa [cut_map hn (by omega) (by omega) hl] at h
theorem P_cLHM1 [hT : TySlice P t e 1 bytes] (ho : o.op = .slice t x (some y) (some z) (some u)) (hx : S.ev x = some (.row n (l.map f))) (hy : S.ev y = some (.val (.int k1 lo))) (hz : S.ev z = some (.val (.int k2 hi))) (hu : S.ev u = some (.val (.int k3 mx))) (hn : n = l.length) (h0 : 0 ≤ lo) (h1 : lo ≤ hi) (h2 : hi ≤ mx) (h3 : mx ≤ n) (hl : (l.drop lo.toNat).take (hi.toNat - lo.toNat) = l') : PStep P o S (.row l'.length (l'.map f)) := by
  have h := P_cutLHM (hT := hT) ho hx hy hz hu h0 h1 h2 h3
  rwa [cut_map hn (by omega) (by omega) hl] at h
theorem P_cLHF [hT : TySlice P t e m bytes] (ho : o.op = .slice t x (some y) (some z) none) (hx : S.ev x = some (.row n (l.flatMap ff))) (hy : S.ev y = some (.val (.int k1 lo))) (hz : S.ev z = some (.val (.int k2 hi))) (hf : ∀ a, (ff a).length = m) (hn : n = l.length) (h0 : 0 ≤ lo) (h1 : lo ≤ hi) (h2 : hi ≤ n) (hl : (l.drop lo.toNat).take (hi.toNat - lo.toNat) = l') : PStep P o S (.row l'.length (l'.flatMap ff)) := by
  have h := P_cutLH (hT := hT) ho hx hy hz h0 h1 h2
  rwa [cut_flat hf hn (by omega) (by omega) hl] at h
theorem P_cLF [hT : TySlice P t e m bytes] (ho : o.op = .slice t x (some y) none none) (hx : S.ev x = some (.row n (l.flatMap ff))) (hy : S.ev y = some (.val (.int k1 lo))) (hf : ∀ a, (ff a).length = m) (hn : n = l.length) (h0 : 0 ≤ lo) (h1 : lo ≤ n) (hl : (l.drop lo.toNat).take (n - lo.toNat) = l') : PStep P o S (.row l'.length (l'.flatMap ff)) := by
  have h := P_cutL (hT := hT) ho hx hy h0 h1
  rwa [cut_flat hf hn (by omega) (by omega) hl] at h
theorem P_cHF [hT : TySlice P t e m bytes] (ho : o.op = .slice t x none (some z) none) (hx : S.ev x = some (.row n (l.flatMap ff))) (hz : S.ev z = some (.val (.int k2 hi))) (hf : ∀ a, (ff a).length = m) (hn : n = l.length) (h0 : 0 ≤ hi) (h2 : hi ≤ n) (hl : (l.drop 0).take (hi.toNat - 0) = l') : PStep P o S (.row l'.length (l'.flatMap ff)) := by
  have h := P_cutH (hT := hT) ho hx hz h0 h2
  rwa [cut_flat hf hn (by omega) (by omega) hl] at h
theorem P_gCut {d : D} (h : PStep P o S d := by
    first
    | exact P_cLH1 rfl rfl rfl rfl (by first | rfl | omega) (by omega) (by omega) (by omega) (by first | assumption | rfl)
    | exact P_cLHF rfl rfl rfl rfl (by intro _; rfl) (by first | rfl | omega) (by omega) (by omega) (by omega) (by first | assumption | rfl)
    | exact P_cL1 rfl rfl rfl (by first | rfl | omega) (by omega) (by omega) (by first | assumption | rfl)
    | exact P_cLF rfl rfl rfl (by intro _; rfl) (by first | rfl | omega) (by omega) (by omega) (by first | assumption | rfl)
    | exact P_cH1 rfl rfl rfl (by first | rfl | omega) (by omega) (by omega) (by first | assumption | rfl)
    | exact P_cHF rfl rfl rfl (by intro _; rfl) (by first | rfl | omega) (by omega) (by omega) (by first | assumption | rfl)
    | exact P_cLHM1 rfl rfl rfl rfl rfl (by first | rfl | omega) (by omega) (by omega) (by omega) (by omega) (by first | assumption | rfl)) : PStep P o S d := h
end
end Go.Proofs.Ytpomhnmfkdgafaa
namespace Go.Proofs.Ytpomhnmfkdgafaa
open Go.RowKit
set_option linter.unusedVariables false
set_option linter.unusedSimpArgs false
theorem TyEqI.arr2 {P : Program} {t e : TypeId} (hg : P.eqGuardType P.depth t = false) (hu : P.underlying t = some (.array 2 e)) (he : P.underlying e = some (.int .i64)) (hc : P.cellsOf e = 1) (hi : (P.info? e).isSome = true) : TyEqI P t 2 := by
  refine ⟨hg, fun w xs ys hx hy => ?_⟩
  obtain ⟨a, b, rfl⟩ : ∃ a b, xs = [a, b] := by
    match xs, hx with
    | [a, b], _ => exact ⟨a, b, rfl⟩
  obtain ⟨c, d, rfl⟩ : ∃ c d, ys = [c, d] := by
    match ys, hy with
    | [c, d], _ => exact ⟨c, d, rfl⟩
  obtain ⟨i, hi⟩ := Option.isSome_iff_exists.1 hi
  rw [run_equalIn_array w 9999 _ _ hu hi, hc]
  have p3 : ∀ u v : Int, (Op.equalIn (9998 + 1) e (.int .i64 u) (.int .i64 v)).run P w = .ok (u == v) w := fun u v => run_equalIn_int w 9998 e .i64 .i64 _ _ he
  have hr : List.range 2 = [0, 1] := rfl
  simp [hr, Op.eqItems, part, isAgg, run_underlying he, p3]
  by_cases h1 : a = c
  · by_cases h2 : b = d
    · simp [h1, h2]
    · simp [h1, h2]
  · simp [h1]
section
variable {P : Program} {S : St} {o : Oper} {x y : Operand} {t yt : TypeId}
theorem arr_len {n size : Nat} {e : TypeId} (hT : TyArr P t n e size) : P.underlying t = some (.array (P.arrayLen t) (P.elem t)) ∧ P.arrayLen t = n ∧ ∀ w, (sizeOf (P.elem t)).run P w = .ok size w := by
  have e1 : P.elem t = e := by simp [Program.elem, hT.ty]
  have e2 : P.arrayLen t = n := by simp [Program.arrayLen, hT.ty]
  rw [e1, e2]
  exact ⟨hT.ty, rfl, fun w => run_sizeOf' hT.info⟩
theorem P_arrObj {n size : Nat} {e : TypeId} {k : IntKind} {i : Int} {xs : List D} [hT : TyArr P t n e size] (ho : o.op = .indexAddr t x y) (hx : S.ev x = some (.obj xs)) (hy : S.ev y = some (.val (.int k i))) (h0 : 0 ≤ i) (hi : i < n) : PStep P o S (.obj (xs.drop (i.toNat * size))) :=
  PStep.pure fun w0 I0 ρ I ac w g => by
    obtain ⟨h1, h2, h3⟩ := arr_len hT
    have hyv := (g.ev hy).val_eq
    have h := g.ev hx
    generalize hv : ac.eval x = v at h
    cases h with | im h => cases h with
    | obj hI hl hs ho' hr =>
      rename_i b o' us
      refine ⟨.pointer (some ⟨b, o' + i.toNat * size, none⟩), ?_, .im (.obj hI (us := us.drop (i.toNat * size)) (by simp [hl]) (LiesAt.drop hs _) (fun u hu => ho' u (List.mem_of_mem_drop hu)) fun j d u h7 h8 => hr (i.toNat * size + j) d u (by simpa using h7) (by simpa using h8))⟩
      simp [execOp, ho, hv, hyv, run_indexAt_array (h := h1), h2, h0, hi, h3, Addr.add_mid]
theorem P_arrPtr {n size b o' : Nat} {e : TypeId} {k : IntKind} {i : Int} [hT : TyArr P t n e size] (ho : o.op = .indexAddr t x y) (hx : S.ev x = some (.ptr b o')) (hy : S.ev y = some (.val (.int k i))) (h0 : 0 ≤ i) (hi : i < n) : PStep P o S (.ptr b (o' + i.toNat * size)) :=
  PStep.pure fun w0 I0 ρ I ac w g => by
    obtain ⟨h1, h2, h3⟩ := arr_len hT
    have hyv := (g.ev hy).val_eq
    have h := g.ev hx
    generalize hv : ac.eval x = v at h
    cases h with
    | im h => cases h
    | ptr hb hρ =>
      refine ⟨_, ?_, .ptr hb hρ⟩
      simp [execOp, ho, hv, hyv, run_indexAt_array (h := h1), h2, h0, hi, h3, Addr.add_mid]
theorem P_eqR2 {a b c d : Int} [hE : TyEqI P t 2] (ho : o.op = .binOp .eql t x y yt) (hx : S.ev x = some (.agg [.val (.int .i64 a), .val (.int .i64 b)])) (hy : S.ev y = some (.agg [.val (.int .i64 c), .val (.int .i64 d)])) : PStep P o S (.val (.bool (decide (a = c ∧ b = d)))) := by
  have h := P_eqR (P := P) (n := 2) (xs := [a, b]) (ys := [c, d]) ho hx hy rfl rfl
  have e : decide ([a, b] = [c, d]) = decide (a = c ∧ b = d) := by simp
  rwa [e] at h
theorem P_neR2F {a b c d : Int} [hE : TyEqI P t 2] (ho : o.op = .binOp .neq t x y yt) (hx : S.ev x = some (.agg [.val (.int .i64 a), .val (.int .i64 b)])) (hy : S.ev y = some (.agg [.val (.int .i64 c), .val (.int .i64 d)])) (h : a = c ∧ b = d) : PStep P o S (.val (.bool false)) := by
  have k := P_neR (P := P) (n := 2) (xs := [a, b]) (ys := [c, d]) ho hx hy rfl rfl
  have e : (!decide ([a, b] = [c, d])) = false := by simp [h]
  rwa [e] at k
theorem P_eqsT {r s : ByteArray} (ho : o.op = .binOp .eql t x y yt) (hx : S.ev x = some (.val (.string r))) (hy : S.ev y = some (.val (.string s))) (h : r.toList = s.toList) : PStep P o S (.val (.bool true)) := by
  have k := P_eqs (P := P) ho hx hy; rwa [decide_eq_true h] at k
theorem P_eqsF {r s : ByteArray} (ho : o.op = .binOp .eql t x y yt) (hx : S.ev x = some (.val (.string r))) (hy : S.ev y = some (.val (.string s))) (h : ¬ r.toList = s.toList) : PStep P o S (.val (.bool false)) := by
  have k := P_eqs (P := P) ho hx hy; rwa [decide_eq_false h] at k
theorem P_nes {r s : ByteArray} (ho : o.op = .binOp .neq t x y yt) (hx : S.ev x = some (.val (.string r))) (hy : S.ev y = some (.val (.string s))) : PStep P o S (.val (.bool (!decide (r.toList = s.toList)))) :=
  PStep.value rfl fun w0 I0 ρ I ac w g => by
    have h1 := (g.ev hx).val_eq; have h2 := (g.ev hy).val_eq
    have e : (r.toList == s.toList) = decide (r.toList = s.toList) := by rw [Bool.eq_iff_iff]; simp
    simp [execOp, ho, h1, h2, eqGuard_at_string, binOp_neq, binOp, Op.stringOp, e]
theorem P_nesF {r s : ByteArray} (ho : o.op = .binOp .neq t x y yt) (hx : S.ev x = some (.val (.string r))) (hy : S.ev y = some (.val (.string s))) (h : r.toList = s.toList) : PStep P o S (.val (.bool false)) := by
  have k := P_nes (P := P) ho hx hy; rwa [decide_eq_true h] at k
theorem P_nesT {r s : ByteArray} (ho : o.op = .binOp .neq t x y yt) (hx : S.ev x = some (.val (.string r))) (hy : S.ev y = some (.val (.string s))) (h : ¬ r.toList = s.toList) : PStep P o S (.val (.bool true)) := by
  have k := P_nes (P := P) ho hx hy; rwa [decide_eq_false h] at k
/-- an array's element -/
theorem P_idxArr {n : Nat} {e : TypeId} {k : IntKind} {i : Int} {xs : List D} {d : D} [hT : TyArr P t n e 1] [hC : TyCell P e] (ho : o.op = .index t x y) (hx : S.ev x = some (.agg xs)) (hy : S.ev y = some (.val (.int k i))) (h0 : 0 ≤ i) (hi : i < n) (hd : xs[i.toNat]? = some d) : PStep P o S d :=
  PStep.pure fun w0 I0 ρ I ac w g => by
    have hyv := (g.ev hy).val_eq
    obtain ⟨us, h5, h6, _, h8⟩ := (g.ev hx).cells
    have hlt : i.toNat < us.length := by have := (List.getElem?_eq_some_iff.1 hd).1; omega
    obtain ⟨dd, hd1, hd2⟩ := hC.desc
    have hagg : (isAgg e).run P w = .ok false w := by
      unfold isAgg
      rw [Sem.run_bind, run_underlying hd1 w]
      cases dd <;> simp_all [aggDesc]
    exact ⟨us[i.toNat], by simp [execOp, ho, h5, hyv, Instr.index, asIntOf, run_underlying hT.ty, h0, hi, run_sizeOf' hT.info, part, hagg, hlt], h8 i.toNat d _ hd (List.getElem?_eq_getElem hlt)⟩
end
end Go.Proofs.Ytpomhnmfkdgafaa
namespace Go.Proofs.Ytpomhnmfkdgafaa
open Go.RowKit
set_option linter.unusedVariables false
set_option linter.unusedSimpArgs false
section
variable {P : Program} {S : St} {o : Oper} {x : Operand} {T' : TypeId} {nb sz : Nat} {tmp : List (Nat × D)} {mem : List (Nat × Option M)}
theorem cell_first {xs : List D} {d : D} {k : Nat} (h : xs[k]? = some d) : ∃ ys, xs.drop k = d :: ys := by
  obtain ⟨hlt, he⟩ := List.getElem?_eq_some_iff.1 h
  exact ⟨xs.drop (k + 1), by rw [← he, List.getElem_cons_drop]⟩
/-- a load whose cell is named by the context -/
theorem P_loadE {b off size n : Nat} {e : TypeId} {xs : List D} {d : D} [hT : TyCell P T'] (ho : o.op = .load T' x) (hx : S.ev x = some (.ptr b off)) (hm : getM b S.mem = some ⟨e, size, n, xs⟩) (hd : xs[off]? = some d) : PStep P o S d := by
  obtain ⟨ys, hys⟩ := cell_first hd
  exact P_load (ys := ys) ho hx (by simp only [cellsD, hm, hys])
theorem P_loadAggE {d : D} {k : Nat} {ys zs : List D} [hT : TyAgg P T' k] (ho : o.op = .load T' x) (hx : S.ev x = some d) (hc : cellsD S.mem d = some ys) (hz : ys.take k = zs) (hk : zs.length = k) : PStep P o S (.agg zs) := P_loadAgg ho hx hc hz hk
theorem P_loadRE {b off size n : Nat} {e : TypeId} {xs : List D} {d : D} [hT : TyCell P T'] (ho : o.op = .load T' x) (hx : St.ev ⟨nb, sz, tmp, memR [b] mem⟩ x = some (.ptr b off)) (hm : getM b mem = some ⟨e, size, n, xs⟩) (hd : xs[off]? = some d) : PStep P o ⟨nb, sz, tmp, memR [b] mem⟩ d := by
  obtain ⟨ys, hys⟩ := cell_first hd
  exact P_load (ys := ys) ho hx (by simp [cellsD, memR, getM, hm, hys])
end
structure QS (P : Program) (o : Oper) (S : St) (d : D) : Prop where
  h : PStep P o S d
structure QA (P : Program) (o : Oper) (sz : Nat) (tmp : List (Nat × D)) (mem : List (Nat × Option M)) (d : D) : Prop where
  h : ∀ nb, PStep P o ⟨nb, sz, tmp, mem⟩ d
section
variable {P : Program} {S : St} {x y z : Operand} {T' T2 : TypeId} {t fi : Nat} {ty : TypeId} {pos : String} {af : Array Edge} {gd : Option (Nat × Bool)} {bo : BinOp} {uo : UnOp} {bf : Builtin} {args ats2 : Array Operand} {ats : Array TypeId} {parts : Array (Nat × Operand)} {o1 o2 o3 : Option Operand} {fx : Fn} {d : D}
theorem B_lss (h : PStep P ⟨some t, .binOp .lss T' x y T2, ty, pos, af, gd⟩ S d) : QS P ⟨some t, .binOp .lss T' x y T2, ty, pos, af, gd⟩ S d := ⟨h⟩
theorem B_add (h : PStep P ⟨some t, .binOp .add T' x y T2, ty, pos, af, gd⟩ S d) : QS P ⟨some t, .binOp .add T' x y T2, ty, pos, af, gd⟩ S d := ⟨h⟩
theorem B_eql (h : PStep P ⟨some t, .binOp .eql T' x y T2, ty, pos, af, gd⟩ S d) : QS P ⟨some t, .binOp .eql T' x y T2, ty, pos, af, gd⟩ S d := ⟨h⟩
theorem B_neq (h : PStep P ⟨some t, .binOp .neq T' x y T2, ty, pos, af, gd⟩ S d) : QS P ⟨some t, .binOp .neq T' x y T2, ty, pos, af, gd⟩ S d := ⟨h⟩
theorem B_leq (h : PStep P ⟨some t, .binOp .leq T' x y T2, ty, pos, af, gd⟩ S d) : QS P ⟨some t, .binOp .leq T' x y T2, ty, pos, af, gd⟩ S d := ⟨h⟩
theorem B_gtr (h : PStep P ⟨some t, .binOp .gtr T' x y T2, ty, pos, af, gd⟩ S d) : QS P ⟨some t, .binOp .gtr T' x y T2, ty, pos, af, gd⟩ S d := ⟨h⟩
theorem B_geq (h : PStep P ⟨some t, .binOp .geq T' x y T2, ty, pos, af, gd⟩ S d) : QS P ⟨some t, .binOp .geq T' x y T2, ty, pos, af, gd⟩ S d := ⟨h⟩
theorem B_sub (h : PStep P ⟨some t, .binOp .sub T' x y T2, ty, pos, af, gd⟩ S d) : QS P ⟨some t, .binOp .sub T' x y T2, ty, pos, af, gd⟩ S d := ⟨h⟩
theorem B_mul (h : PStep P ⟨some t, .binOp .mul T' x y T2, ty, pos, af, gd⟩ S d) : QS P ⟨some t, .binOp .mul T' x y T2, ty, pos, af, gd⟩ S d := ⟨h⟩
theorem B_quo (h : PStep P ⟨some t, .binOp .quo T' x y T2, ty, pos, af, gd⟩ S d) : QS P ⟨some t, .binOp .quo T' x y T2, ty, pos, af, gd⟩ S d := ⟨h⟩
theorem B_rem (h : PStep P ⟨some t, .binOp .rem T' x y T2, ty, pos, af, gd⟩ S d) : QS P ⟨some t, .binOp .rem T' x y T2, ty, pos, af, gd⟩ S d := ⟨h⟩
theorem B_len (h : PStep P ⟨some t, .call { callee := .builtin .len, args := args, argTypes := ats }, ty, pos, af, gd⟩ S d) : QS P ⟨some t, .call { callee := .builtin .len, args := args, argTypes := ats }, ty, pos, af, gd⟩ S d := ⟨h⟩
theorem B_min (h : PStep P ⟨some t, .call { callee := .builtin .min, args := args, argTypes := ats }, ty, pos, af, gd⟩ S d) : QS P ⟨some t, .call { callee := .builtin .min, args := args, argTypes := ats }, ty, pos, af, gd⟩ S d := ⟨h⟩
theorem B_max (h : PStep P ⟨some t, .call { callee := .builtin .max, args := args, argTypes := ats }, ty, pos, af, gd⟩ S d) : QS P ⟨some t, .call { callee := .builtin .max, args := args, argTypes := ats }, ty, pos, af, gd⟩ S d := ⟨h⟩
theorem B_not (h : PStep P ⟨some t, .unOp .not T' x, ty, pos, af, gd⟩ S d) : QS P ⟨some t, .unOp .not T' x, ty, pos, af, gd⟩ S d := ⟨h⟩
theorem B_neg (h : PStep P ⟨some t, .unOp .neg T' x, ty, pos, af, gd⟩ S d) : QS P ⟨some t, .unOp .neg T' x, ty, pos, af, gd⟩ S d := ⟨h⟩
theorem Q_load (h : PStep P ⟨some t, .load T' x, ty, pos, af, gd⟩ S d) : QS P ⟨some t, .load T' x, ty, pos, af, gd⟩ S d := ⟨h⟩
theorem Q_fa (h : PStep P ⟨some t, .fieldAddr T' x fi, ty, pos, af, gd⟩ S d) : QS P ⟨some t, .fieldAddr T' x fi, ty, pos, af, gd⟩ S d := ⟨h⟩
theorem Q_nil (h : PStep P ⟨some t, .nilCheck x, ty, pos, af, gd⟩ S d) : QS P ⟨some t, .nilCheck x, ty, pos, af, gd⟩ S d := ⟨h⟩
theorem Q_move (h : PStep P ⟨some t, .move x, ty, pos, af, gd⟩ S d) : QS P ⟨some t, .move x, ty, pos, af, gd⟩ S d := ⟨h⟩
theorem Q_asg (h : PStep P ⟨some t, .assign x, ty, pos, af, gd⟩ S d) : QS P ⟨some t, .assign x, ty, pos, af, gd⟩ S d := ⟨h⟩
theorem Q_ext (h : PStep P ⟨some t, .extract x fi, ty, pos, af, gd⟩ S d) : QS P ⟨some t, .extract x fi, ty, pos, af, gd⟩ S d := ⟨h⟩
theorem Q_idx (h : PStep P ⟨some t, .indexAddr T' x y, ty, pos, af, gd⟩ S d) : QS P ⟨some t, .indexAddr T' x y, ty, pos, af, gd⟩ S d := ⟨h⟩
theorem Q_bin (h : QS P ⟨some t, .binOp bo T' x y T2, ty, pos, af, gd⟩ S d) : QS P ⟨some t, .binOp bo T' x y T2, ty, pos, af, gd⟩ S d := h
theorem Q_pick (h : PStep P ⟨some t, .pick z x y, ty, pos, af, gd⟩ S d) : QS P ⟨some t, .pick z x y, ty, pos, af, gd⟩ S d := ⟨h⟩
theorem Q_bi (h : QS P ⟨some t, .call { callee := .builtin bf, args := args, argTypes := ats }, ty, pos, af, gd⟩ S d) : QS P ⟨some t, .call { callee := .builtin bf, args := args, argTypes := ats }, ty, pos, af, gd⟩ S d := h
theorem Q_fld (h : PStep P ⟨some t, .field T' x fi, ty, pos, af, gd⟩ S d) : QS P ⟨some t, .field T' x fi, ty, pos, af, gd⟩ S d := ⟨h⟩
theorem Q_un (h : QS P ⟨some t, .unOp uo T' x, ty, pos, af, gd⟩ S d) : QS P ⟨some t, .unOp uo T' x, ty, pos, af, gd⟩ S d := h
theorem Q_bld (h : PStep P ⟨some t, .build T' parts, ty, pos, af, gd⟩ S d) : QS P ⟨some t, .build T' parts, ty, pos, af, gd⟩ S d := ⟨h⟩
theorem Q_lit (h : PStep P ⟨some t, .buildSlice T' fi parts, ty, pos, af, gd⟩ S d) : QS P ⟨some t, .buildSlice T' fi parts, ty, pos, af, gd⟩ S d := ⟨h⟩
theorem Q_cut (h : PStep P ⟨some t, .slice T' x o1 o2 o3, ty, pos, af, gd⟩ S d) : QS P ⟨some t, .slice T' x o1 o2 o3, ty, pos, af, gd⟩ S d := ⟨h⟩
theorem Q_cv (h : PStep P ⟨some t, .convert T' T2 x, ty, pos, af, gd⟩ S d) : QS P ⟨some t, .convert T' T2 x, ty, pos, af, gd⟩ S d := ⟨h⟩
theorem Q_fn (h : PStep P ⟨some t, .makeFunc fx args ats2, ty, pos, af, gd⟩ S d) : QS P ⟨some t, .makeFunc fx args ats2, ty, pos, af, gd⟩ S d := ⟨h⟩
end
theorem QA_all {P : Program} {o : Oper} {sz : Nat} {tmp : List (Nat × D)} {mem : List (Nat × Option M)} {d : D} (h : ∀ nb, QS P o ⟨nb, sz, tmp, mem⟩ d) : QA P o sz tmp mem d := ⟨fun nb => (h nb).h⟩
theorem QA_idx {P : Program} {x y : Operand} {T' : TypeId} {t sz : Nat} {tmp : List (Nat × D)} {mem : List (Nat × Option M)} {ty : TypeId} {pos : String} {af : Array Edge} {gd : Option (Nat × Bool)} {d : D} (h : ∀ nb, PStep P ⟨some t, .indexAddr T' x y, ty, pos, af, gd⟩ ⟨nb, sz, tmp, mem⟩ d) : QA P ⟨some t, .indexAddr T' x y, ty, pos, af, gd⟩ sz tmp mem d := ⟨h⟩
section
variable {P : Program} {ops : Array Oper} {S S' : St} {x y : Operand} {T' : TypeId} {t : Nat} {ty : TypeId} {pos : String} {af : Array Edge} {gd : Option (Nat × Bool)} {args : Array Operand} {ats : Array TypeId}
theorem R_al (h : MS P ops ⟨some t, .alloc T', ty, pos, af, gd⟩ S S') : MS P ops ⟨some t, .alloc T', ty, pos, af, gd⟩ S S' := h
theorem R_sto (h : MS P ops ⟨none, .store T' x y, ty, pos, af, gd⟩ S S') : MS P ops ⟨none, .store T' x y, ty, pos, af, gd⟩ S S' := h
theorem R_psh (h : MS P ops ⟨some t, .call { callee := .builtin .append, args := args, argTypes := ats }, ty, pos, af, gd⟩ S S') : MS P ops ⟨some t, .call { callee := .builtin .append, args := args, argTypes := ats }, ty, pos, af, gd⟩ S S' := h
theorem R_box (h : MS P ops ⟨some t, .box T' x, ty, pos, af, gd⟩ S S') : MS P ops ⟨some t, .box T' x, ty, pos, af, gd⟩ S S' := h
theorem R_mk (h : MS P ops ⟨some t, .makeSlice T' x y, ty, pos, af, gd⟩ S S') : MS P ops ⟨some t, .makeSlice T' x y, ty, pos, af, gd⟩ S S' := h
end
section
variable {P : Program} {S : St} {x y : Operand} {T' e : TypeId} {t bytes size n k : Nat} {ty : TypeId} {pos : String} {af : Array Edge} {gd : Option (Nat × Bool)} {parts : Array (Nat × Operand)} {d : D}
theorem Q_loadC [hT : TyCell P T'] (h : PStep P ⟨some t, .load T' x, ty, pos, af, gd⟩ S d) : QS P ⟨some t, .load T' x, ty, pos, af, gd⟩ S d := ⟨h⟩
theorem Q_load1 [hT : TyAgg P T' 1] (h : PStep P ⟨some t, .load T' x, ty, pos, af, gd⟩ S d) : QS P ⟨some t, .load T' x, ty, pos, af, gd⟩ S d := ⟨h⟩
theorem Q_load2 [hT : TyAgg P T' 2] (h : PStep P ⟨some t, .load T' x, ty, pos, af, gd⟩ S d) : QS P ⟨some t, .load T' x, ty, pos, af, gd⟩ S d := ⟨h⟩
theorem Q_load3 [hT : TyAgg P T' 3] (h : PStep P ⟨some t, .load T' x, ty, pos, af, gd⟩ S d) : QS P ⟨some t, .load T' x, ty, pos, af, gd⟩ S d := ⟨h⟩
theorem Q_load4 [hT : TyAgg P T' 4] (h : PStep P ⟨some t, .load T' x, ty, pos, af, gd⟩ S d) : QS P ⟨some t, .load T' x, ty, pos, af, gd⟩ S d := ⟨h⟩
theorem Q_load5 [hT : TyAgg P T' 5] (h : PStep P ⟨some t, .load T' x, ty, pos, af, gd⟩ S d) : QS P ⟨some t, .load T' x, ty, pos, af, gd⟩ S d := ⟨h⟩
theorem Q_load6 [hT : TyAgg P T' 6] (h : PStep P ⟨some t, .load T' x, ty, pos, af, gd⟩ S d) : QS P ⟨some t, .load T' x, ty, pos, af, gd⟩ S d := ⟨h⟩
theorem Q_idx1 [hT : TySlice P T' e 1 bytes] (h : PStep P ⟨some t, .indexAddr T' x y, ty, pos, af, gd⟩ S d) : QS P ⟨some t, .indexAddr T' x y, ty, pos, af, gd⟩ S d := ⟨h⟩
theorem Q_idxF [hT : TySlice P T' e size bytes] (h : PStep P ⟨some t, .indexAddr T' x y, ty, pos, af, gd⟩ S d) : QS P ⟨some t, .indexAddr T' x y, ty, pos, af, gd⟩ S d := ⟨h⟩
theorem Q_idxA [hT : TyArr P T' n e size] (h : PStep P ⟨some t, .indexAddr T' x y, ty, pos, af, gd⟩ S d) : QS P ⟨some t, .indexAddr T' x y, ty, pos, af, gd⟩ S d := ⟨h⟩
theorem Q_bld1 [hT : TyAgg P T' 1] (h : PStep P ⟨some t, .build T' parts, ty, pos, af, gd⟩ S d) : QS P ⟨some t, .build T' parts, ty, pos, af, gd⟩ S d := ⟨h⟩
theorem Q_bld2 [hT : TyAgg P T' 2] (h : PStep P ⟨some t, .build T' parts, ty, pos, af, gd⟩ S d) : QS P ⟨some t, .build T' parts, ty, pos, af, gd⟩ S d := ⟨h⟩
theorem Q_bld3 [hT : TyAgg P T' 3] (h : PStep P ⟨some t, .build T' parts, ty, pos, af, gd⟩ S d) : QS P ⟨some t, .build T' parts, ty, pos, af, gd⟩ S d := ⟨h⟩
theorem Q_bld4 [hT : TyAgg P T' 4] (h : PStep P ⟨some t, .build T' parts, ty, pos, af, gd⟩ S d) : QS P ⟨some t, .build T' parts, ty, pos, af, gd⟩ S d := ⟨h⟩
theorem Q_bld5 [hT : TyAgg P T' 5] (h : PStep P ⟨some t, .build T' parts, ty, pos, af, gd⟩ S d) : QS P ⟨some t, .build T' parts, ty, pos, af, gd⟩ S d := ⟨h⟩
theorem Q_bld6 [hT : TyAgg P T' 6] (h : PStep P ⟨some t, .build T' parts, ty, pos, af, gd⟩ S d) : QS P ⟨some t, .build T' parts, ty, pos, af, gd⟩ S d := ⟨h⟩
theorem Q_lit0  (h : PStep P ⟨some t, .buildSlice T' 0 parts, ty, pos, af, gd⟩ S d) : QS P ⟨some t, .buildSlice T' 0 parts, ty, pos, af, gd⟩ S d := ⟨h⟩
theorem Q_lit_1_1 [hT : TySlice P T' e 1 bytes] (h : PStep P ⟨some t, .buildSlice T' 1 parts, ty, pos, af, gd⟩ S d) : QS P ⟨some t, .buildSlice T' 1 parts, ty, pos, af, gd⟩ S d := ⟨h⟩
theorem Q_lit_3_1 [hT : TySlice P T' e 3 bytes] (h : PStep P ⟨some t, .buildSlice T' 1 parts, ty, pos, af, gd⟩ S d) : QS P ⟨some t, .buildSlice T' 1 parts, ty, pos, af, gd⟩ S d := ⟨h⟩
theorem Q_lit_2_1 [hT : TySlice P T' e 2 bytes] (h : PStep P ⟨some t, .buildSlice T' 1 parts, ty, pos, af, gd⟩ S d) : QS P ⟨some t, .buildSlice T' 1 parts, ty, pos, af, gd⟩ S d := ⟨h⟩
theorem Q_lit_1_2 [hT : TySlice P T' e 1 bytes] (h : PStep P ⟨some t, .buildSlice T' 2 parts, ty, pos, af, gd⟩ S d) : QS P ⟨some t, .buildSlice T' 2 parts, ty, pos, af, gd⟩ S d := ⟨h⟩
theorem Q_lit_1_3 [hT : TySlice P T' e 1 bytes] (h : PStep P ⟨some t, .buildSlice T' 3 parts, ty, pos, af, gd⟩ S d) : QS P ⟨some t, .buildSlice T' 3 parts, ty, pos, af, gd⟩ S d := ⟨h⟩
theorem Q_lit_1_4 [hT : TySlice P T' e 1 bytes] (h : PStep P ⟨some t, .buildSlice T' 4 parts, ty, pos, af, gd⟩ S d) : QS P ⟨some t, .buildSlice T' 4 parts, ty, pos, af, gd⟩ S d := ⟨h⟩
theorem Q_lit_3_2 [hT : TySlice P T' e 3 bytes] (h : PStep P ⟨some t, .buildSlice T' 2 parts, ty, pos, af, gd⟩ S d) : QS P ⟨some t, .buildSlice T' 2 parts, ty, pos, af, gd⟩ S d := ⟨h⟩
theorem Q_lit_2_2 [hT : TySlice P T' e 2 bytes] (h : PStep P ⟨some t, .buildSlice T' 2 parts, ty, pos, af, gd⟩ S d) : QS P ⟨some t, .buildSlice T' 2 parts, ty, pos, af, gd⟩ S d := ⟨h⟩
theorem Q_lit_4_1 [hT : TySlice P T' e 4 bytes] (h : PStep P ⟨some t, .buildSlice T' 1 parts, ty, pos, af, gd⟩ S d) : QS P ⟨some t, .buildSlice T' 1 parts, ty, pos, af, gd⟩ S d := ⟨h⟩
theorem Q_loadA [hT : TyAgg P T' k] (h : PStep P ⟨some t, .load T' x, ty, pos, af, gd⟩ S d) : QS P ⟨some t, .load T' x, ty, pos, af, gd⟩ S d := ⟨h⟩
theorem Q_ix (h : PStep P ⟨some t, .index T' x y, ty, pos, af, gd⟩ S d) : QS P ⟨some t, .index T' x y, ty, pos, af, gd⟩ S d := ⟨h⟩
theorem Q_lit_1_6 [hT : TySlice P T' e 1 bytes] (h : PStep P ⟨some t, .buildSlice T' 6 parts, ty, pos, af, gd⟩ S d) : QS P ⟨some t, .buildSlice T' 6 parts, ty, pos, af, gd⟩ S d := ⟨h⟩
end
section
variable {P : Program} {sz : Nat} {tmp : List (Nat × D)} {mem : List (Nat × Option M)} {x y : Operand} {T' e : TypeId} {t bytes size n : Nat} {ty : TypeId} {pos : String} {af : Array Edge} {gd : Option (Nat × Bool)} {d : D}
theorem QA_idx1 [hT : TySlice P T' e 1 bytes] (h : ∀ nb, PStep P ⟨some t, .indexAddr T' x y, ty, pos, af, gd⟩ ⟨nb, sz, tmp, mem⟩ d) : QA P ⟨some t, .indexAddr T' x y, ty, pos, af, gd⟩ sz tmp mem d := ⟨h⟩
theorem QA_idxF [hT : TySlice P T' e size bytes] (h : ∀ nb, PStep P ⟨some t, .indexAddr T' x y, ty, pos, af, gd⟩ ⟨nb, sz, tmp, mem⟩ d) : QA P ⟨some t, .indexAddr T' x y, ty, pos, af, gd⟩ sz tmp mem d := ⟨h⟩
theorem QA_idxA [hT : TyArr P T' n e size] (h : ∀ nb, PStep P ⟨some t, .indexAddr T' x y, ty, pos, af, gd⟩ ⟨nb, sz, tmp, mem⟩ d) : QA P ⟨some t, .indexAddr T' x y, ty, pos, af, gd⟩ sz tmp mem d := ⟨h⟩
end
section
variable {P : Program} {ops : Array Oper} {S S' : St} {x y : Operand} {T' : TypeId} {t k : Nat} {ty : TypeId} {pos : String} {af : Array Edge} {gd : Option (Nat × Bool)}
theorem R_stoC [hT : TyCell P T'] (h : MS P ops ⟨none, .store T' x y, ty, pos, af, gd⟩ S S') : MS P ops ⟨none, .store T' x y, ty, pos, af, gd⟩ S S' := h
theorem R_stoA [hT : TyAgg P T' k] (h : MS P ops ⟨none, .store T' x y, ty, pos, af, gd⟩ S S') : MS P ops ⟨none, .store T' x y, ty, pos, af, gd⟩ S S' := h
theorem R_boxC [hT : TyCell P T'] (h : MS P ops ⟨some t, .box T' x, ty, pos, af, gd⟩ S S') : MS P ops ⟨some t, .box T' x, ty, pos, af, gd⟩ S S' := h
theorem R_boxA [hT : TyAgg P T' k] (h : MS P ops ⟨some t, .box T' x, ty, pos, af, gd⟩ S S') : MS P ops ⟨some t, .box T' x, ty, pos, af, gd⟩ S S' := h
end
section
variable {P : Program} {ops : Array Oper} {S : St} {K : St → Prop} {o : Oper} {rest : List Oper} {x y : Operand} {T' : TypeId}
variable {nb sz : Nat} {tmp : List (Nat × D)} {mem : List (Nat × Option M)} {t : Nat} {op : Op} {ty : TypeId} {pos : String} {af : Array Edge} {gd : Option (Nat × Bool)}
/-- there is an operation that has a slot, or none -/
theorem gS (h : T P ops (⟨some t, op, ty, pos, af, gd⟩ :: rest) S K) : T P ops (⟨some t, op, ty, pos, af, gd⟩ :: rest) S K := h
theorem gZ (h : T P ops (⟨none, op, ty, pos, af, gd⟩ :: rest) S K) : T P ops (⟨none, op, ty, pos, af, gd⟩ :: rest) S K := h
theorem gp {d : D} (k : T P ops rest ⟨nb, sz, (t, d) :: tmp, mem⟩ K) (h : QS P ⟨some t, op, ty, pos, af, gd⟩ ⟨nb, sz, tmp, mem⟩ d := by
    first
    | (apply Q_loadC; exact P_load rfl rfl rfl) | (apply Q_load3; exact P_loadAgg3 rfl rfl rfl) | (apply Q_load1; exact P_loadAgg1 rfl rfl rfl) | (apply Q_load2; exact P_loadAgg2 rfl rfl rfl) | (apply Q_load4; exact P_loadAgg4 rfl rfl rfl) | (apply Q_load5; exact P_loadAgg5 rfl rfl rfl) | (apply Q_load6; exact P_loadAgg6 rfl rfl rfl) | (apply Q_loadC; exact P_loadE rfl rfl rfl (by assumption)) | (apply Q_loadA; exact P_loadAggE rfl rfl rfl (by assumption) (by assumption)) | (apply Q_ix; exact P_idxArr rfl rfl rfl (by omega) (by omega) (by assumption))
    | (apply Q_fa; first | exact P_fieldPtr rfl rfl | exact P_fieldObj rfl rfl)
    | (apply Q_nil; first | exact P_nilPtr rfl rfl | exact P_nilObj rfl rfl)
    | (apply Q_move; exact P_move rfl rfl)
    | (apply Q_asg; exact P_assign rfl rfl)
    | (apply Q_ext; exact P_extract rfl rfl rfl)
    | (apply Q_idx1; exact P_gIdx1) | (apply Q_idxF; exact P_gIdxF) | (apply Q_idxA; first | exact P_arrObj rfl rfl rfl (by omega) (by omega) | exact P_arrPtr rfl rfl rfl (by omega) (by omega))
    | (apply Q_bin; first | (apply B_lss; first | exact P_lssT rfl rfl rfl (by omega) | exact P_lssF rfl rfl rfl (by omega) | exact P_lss rfl rfl rfl) | (apply B_add; exact P_add rfl rfl rfl (w64 (by omega) (by omega))) | (apply B_eql; first | exact P_eqlT rfl rfl rfl (by omega) | exact P_eqlF rfl rfl rfl (by omega) | exact P_eql rfl rfl rfl | exact P_eqlB rfl rfl rfl | exact P_eqR3T rfl rfl rfl ⟨rfl, rfl, rfl⟩ | exact P_eqR3T rfl rfl rfl (by assumption) | exact P_eqR3F rfl rfl rfl (by assumption) | exact P_eqR3 rfl rfl rfl | exact P_eqsT rfl rfl rfl (by assumption) | exact P_eqsF rfl rfl rfl (by assumption) | exact P_eqsT rfl rfl rfl (by decide) | exact P_eqsF rfl rfl rfl (by decide) | exact P_eqs rfl rfl rfl) | (apply B_neq; first | exact P_neqT rfl rfl rfl (by omega) | exact P_neqF rfl rfl rfl (by omega) | exact P_neq rfl rfl rfl | exact P_neqB rfl rfl rfl | exact P_neR3F rfl rfl rfl ⟨rfl, rfl, rfl⟩ | exact P_neR2F rfl rfl rfl ⟨rfl, rfl⟩ | exact P_neR3F rfl rfl rfl (by assumption) | exact P_neR3T rfl rfl rfl (by assumption) | exact P_neR3 rfl rfl rfl | exact P_nesF rfl rfl rfl (by assumption) | exact P_nesT rfl rfl rfl (by assumption) | exact P_nesF rfl rfl rfl (by decide) | exact P_nesT rfl rfl rfl (by decide)) | (apply B_leq; first | exact P_leqT rfl rfl rfl (by omega) | exact P_leqF rfl rfl rfl (by omega) | exact P_leq rfl rfl rfl) | (apply B_gtr; first | exact P_gtrT rfl rfl rfl (by omega) | exact P_gtrF rfl rfl rfl (by omega) | exact P_gtr rfl rfl rfl) | (apply B_geq; first | exact P_geqT rfl rfl rfl (by omega) | exact P_geqF rfl rfl rfl (by omega) | exact P_geq rfl rfl rfl) | (apply B_sub; exact P_sub rfl rfl rfl (w64 (by omega) (by omega))) | (apply B_mul; exact P_mul rfl rfl rfl (w64 (by omega) (by omega))) | (apply B_quo; exact P_quo rfl rfl rfl (by omega) (quo64 (by omega) (by omega))) | (apply B_rem; exact P_rem rfl rfl rfl (by omega) rfl))
    | (apply Q_pick; first | exact P_pickT rfl rfl rfl | exact P_pickF rfl rfl rfl | exact P_pick rfl rfl (fun _ => rfl) (fun _ => rfl))
    | (apply Q_bi; first | (apply B_len; first | exact P_len rfl rfl rfl rfl | exact P_lenOwn rfl rfl rfl rfl rfl) | (apply B_min; first | exact P_minL rfl rfl rfl (by omega) | exact P_minR rfl rfl rfl (by omega) | exact P_min rfl rfl rfl (by assumption) | exact P_min rfl rfl rfl (Eq.refl _)) | (apply B_max; first | exact P_maxL rfl rfl rfl (by omega) | exact P_maxR rfl rfl rfl (by omega) | exact P_max rfl rfl rfl (by assumption) | exact P_max rfl rfl rfl (Eq.refl _)))
    | (apply Q_fld; first | exact P_field rfl rfl rfl | exact P_fieldAgg3 rfl rfl rfl | exact P_fieldAgg1 rfl rfl rfl | exact P_fieldAgg2 rfl rfl rfl)
    | (apply Q_un; first | (apply B_not; first | exact P_notT rfl rfl | exact P_notF rfl rfl | exact P_not rfl rfl) | (apply B_neg; exact P_neg rfl rfl (neg64 (by omega) (by omega))))
    | (apply Q_bld3; exact P_build3 rfl rfl rfl) | (apply Q_bld1; exact P_build1 rfl rfl rfl) | (apply Q_bld2; exact P_build2 rfl rfl rfl) | (apply Q_bld4; exact P_build4 rfl rfl rfl) | (apply Q_bld5; exact P_build5 rfl rfl rfl) | (apply Q_bld6; exact P_build6 rfl rfl rfl)
    | (apply Q_lit0; exact P_lit0 rfl rfl) | (apply Q_lit_1_1; exact P_lit1 rfl rfl rfl rfl rfl) | (apply Q_lit_3_1; exact P_lit3 rfl rfl rfl rfl rfl) | (apply Q_lit_2_1; exact P_lit2 rfl rfl rfl rfl rfl) | (apply Q_lit_1_2; exact P_lit2 rfl rfl rfl rfl rfl) | (apply Q_lit_1_3; exact P_lit3 rfl rfl rfl rfl rfl) | (apply Q_lit_1_4; exact P_lit4 rfl rfl rfl rfl rfl) | (apply Q_lit_3_2; exact P_lit6 rfl rfl rfl rfl rfl) | (apply Q_lit_2_2; exact P_lit4 rfl rfl rfl rfl rfl) | (apply Q_lit_4_1; exact P_lit4 rfl rfl rfl rfl rfl) | (apply Q_lit_1_6; exact P_lit6 rfl rfl rfl rfl rfl)
    | (apply Q_cut; exact P_gCut)
    | (apply Q_cv; exact P_convert rfl rfl rfl rfl (w64 (by omega) (by omega)))
    | (apply Q_fn; exact P_makeFunc rfl rfl rfl))
    (hg : St.guard ⟨nb, sz, tmp, mem⟩ ops ⟨some t, op, ty, pos, af, gd⟩ = some true := by rfl) (ht : Nat.blt t sz = true := by rfl) : T P ops (⟨some t, op, ty, pos, af, gd⟩ :: rest) ⟨nb, sz, tmp, mem⟩ K := T_step h.h hg ht k
theorem gm {S' : St} (k : T P ops rest S' K) (h : MS P ops o S S' := by
    first
    | (apply R_al; exact MS_Alloc)
    | (apply R_stoC; exact MS_StO) | (apply R_stoA; exact MS_StA)
    | (apply R_psh; exact MS_Push)
    | (apply R_boxC; exact MS_BoxO) | (apply R_boxA; exact MS_BoxA)
    | (apply R_mk; exact MS_Make)) : T P ops (o :: rest) S K := h.h rest K k
end
section
variable {P : Program} {ops : Array Oper} {o : Oper} {x y : Operand} {T' : TypeId}
variable {sz : Nat} {t : Nat} {op : Op} {ty : TypeId} {pos : String} {af : Array Edge} {gd : Option (Nat × Bool)}
variable {nb0 i : Nat} {bs : Nat → List (Nat × D)} {mem0 : List (Nat × Option M)} {l : List Oper} {KA : Acc → Prop}
variable {fs : Fs} {al : List (Nat × Nat × Al)} {ch : List Lk} {nd : List (Nat × List Nat)}
theorem vS (h : Walk P ops sz bs nb0 mem0 (⟨some t, op, ty, pos, af, gd⟩ :: l) i ⟨fs, al, ch, nd⟩ KA) : Walk P ops sz bs nb0 mem0 (⟨some t, op, ty, pos, af, gd⟩ :: l) i ⟨fs, al, ch, nd⟩ KA := h
theorem vZ (h : Walk P ops sz bs nb0 mem0 (⟨none, op, ty, pos, af, gd⟩ :: l) i ⟨fs, al, ch, nd⟩ KA) : Walk P ops sz bs nb0 mem0 (⟨none, op, ty, pos, af, gd⟩ :: l) i ⟨fs, al, ch, nd⟩ KA := h
theorem vp {j : Nat} {d : D} (k : Walk P ops sz bs nb0 mem0 l j ⟨(i, [(t, d)]) :: fs, al, ch, (i, []) :: nd⟩ KA) (h : QA P ⟨some t, op, ty, pos, af, gd⟩ sz (depX ⟨some t, op, ty, pos, af, gd⟩ (bs i) fs) (memR [] (curMem mem0 ch)) d := by
    first
    | (apply QA_idx1; exact PA_gIdx1) | (apply QA_idxF; exact PA_gIdxF) | (apply QA_idxA; first | exact (fun _ => P_arrObj rfl rfl rfl (by omega) (by omega)) | exact (fun _ => P_arrPtr rfl rfl rfl (by omega) (by omega)))
    | (apply QA_all; intro nb; first
      | (apply Q_loadC; exact P_load rfl rfl rfl) | (apply Q_load3; exact P_loadAgg3 rfl rfl rfl) | (apply Q_load1; exact P_loadAgg1 rfl rfl rfl) | (apply Q_load2; exact P_loadAgg2 rfl rfl rfl) | (apply Q_load4; exact P_loadAgg4 rfl rfl rfl) | (apply Q_load5; exact P_loadAgg5 rfl rfl rfl) | (apply Q_load6; exact P_loadAgg6 rfl rfl rfl) | (apply Q_loadC; exact P_loadE rfl rfl rfl (by assumption)) | (apply Q_loadA; exact P_loadAggE rfl rfl rfl (by assumption) (by assumption)) | (apply Q_ix; exact P_idxArr rfl rfl rfl (by omega) (by omega) (by assumption))
      | (apply Q_fa; first | exact P_fieldPtr rfl rfl | exact P_fieldObj rfl rfl)
      | (apply Q_nil; first | exact P_nilPtr rfl rfl | exact P_nilObj rfl rfl)
      | (apply Q_move; exact P_move rfl rfl)
      | (apply Q_asg; exact P_assign rfl rfl)
      | (apply Q_ext; exact P_extract rfl rfl rfl)
      | (apply Q_bin; first | (apply B_lss; first | exact P_lssT rfl rfl rfl (by omega) | exact P_lssF rfl rfl rfl (by omega) | exact P_lss rfl rfl rfl) | (apply B_add; exact P_add rfl rfl rfl (w64 (by omega) (by omega))) | (apply B_eql; first | exact P_eqlT rfl rfl rfl (by omega) | exact P_eqlF rfl rfl rfl (by omega) | exact P_eql rfl rfl rfl | exact P_eqlB rfl rfl rfl | exact P_eqR3T rfl rfl rfl ⟨rfl, rfl, rfl⟩ | exact P_eqR3T rfl rfl rfl (by assumption) | exact P_eqR3F rfl rfl rfl (by assumption) | exact P_eqR3 rfl rfl rfl | exact P_eqsT rfl rfl rfl (by assumption) | exact P_eqsF rfl rfl rfl (by assumption) | exact P_eqsT rfl rfl rfl (by decide) | exact P_eqsF rfl rfl rfl (by decide) | exact P_eqs rfl rfl rfl) | (apply B_neq; first | exact P_neqT rfl rfl rfl (by omega) | exact P_neqF rfl rfl rfl (by omega) | exact P_neq rfl rfl rfl | exact P_neqB rfl rfl rfl | exact P_neR3F rfl rfl rfl ⟨rfl, rfl, rfl⟩ | exact P_neR2F rfl rfl rfl ⟨rfl, rfl⟩ | exact P_neR3F rfl rfl rfl (by assumption) | exact P_neR3T rfl rfl rfl (by assumption) | exact P_neR3 rfl rfl rfl | exact P_nesF rfl rfl rfl (by assumption) | exact P_nesT rfl rfl rfl (by assumption) | exact P_nesF rfl rfl rfl (by decide) | exact P_nesT rfl rfl rfl (by decide)) | (apply B_leq; first | exact P_leqT rfl rfl rfl (by omega) | exact P_leqF rfl rfl rfl (by omega) | exact P_leq rfl rfl rfl) | (apply B_gtr; first | exact P_gtrT rfl rfl rfl (by omega) | exact P_gtrF rfl rfl rfl (by omega) | exact P_gtr rfl rfl rfl) | (apply B_geq; first | exact P_geqT rfl rfl rfl (by omega) | exact P_geqF rfl rfl rfl (by omega) | exact P_geq rfl rfl rfl) | (apply B_sub; exact P_sub rfl rfl rfl (w64 (by omega) (by omega))) | (apply B_mul; exact P_mul rfl rfl rfl (w64 (by omega) (by omega))) | (apply B_quo; exact P_quo rfl rfl rfl (by omega) (quo64 (by omega) (by omega))) | (apply B_rem; exact P_rem rfl rfl rfl (by omega) rfl))
      | (apply Q_pick; first | exact P_pickT rfl rfl rfl | exact P_pickF rfl rfl rfl | exact P_pick rfl rfl (fun _ => rfl) (fun _ => rfl))
      | (apply Q_bi; first | (apply B_len; first | exact P_len rfl rfl rfl rfl | exact P_lenOwn rfl rfl rfl rfl rfl) | (apply B_min; first | exact P_minL rfl rfl rfl (by omega) | exact P_minR rfl rfl rfl (by omega) | exact P_min rfl rfl rfl (by assumption) | exact P_min rfl rfl rfl (Eq.refl _)) | (apply B_max; first | exact P_maxL rfl rfl rfl (by omega) | exact P_maxR rfl rfl rfl (by omega) | exact P_max rfl rfl rfl (by assumption) | exact P_max rfl rfl rfl (Eq.refl _)))
      | (apply Q_fld; first | exact P_field rfl rfl rfl | exact P_fieldAgg3 rfl rfl rfl | exact P_fieldAgg1 rfl rfl rfl | exact P_fieldAgg2 rfl rfl rfl)
      | (apply Q_un; first | (apply B_not; first | exact P_notT rfl rfl | exact P_notF rfl rfl | exact P_not rfl rfl) | (apply B_neg; exact P_neg rfl rfl (neg64 (by omega) (by omega))))
      | (apply Q_bld3; exact P_build3 rfl rfl rfl) | (apply Q_bld1; exact P_build1 rfl rfl rfl) | (apply Q_bld2; exact P_build2 rfl rfl rfl) | (apply Q_bld4; exact P_build4 rfl rfl rfl) | (apply Q_bld5; exact P_build5 rfl rfl rfl) | (apply Q_bld6; exact P_build6 rfl rfl rfl)
      | (apply Q_lit0; exact P_lit0 rfl rfl) | (apply Q_lit_1_1; exact P_lit1 rfl rfl rfl rfl rfl) | (apply Q_lit_3_1; exact P_lit3 rfl rfl rfl rfl rfl) | (apply Q_lit_2_1; exact P_lit2 rfl rfl rfl rfl rfl) | (apply Q_lit_1_2; exact P_lit2 rfl rfl rfl rfl rfl) | (apply Q_lit_1_3; exact P_lit3 rfl rfl rfl rfl rfl) | (apply Q_lit_1_4; exact P_lit4 rfl rfl rfl rfl rfl) | (apply Q_lit_3_2; exact P_lit6 rfl rfl rfl rfl rfl) | (apply Q_lit_2_2; exact P_lit4 rfl rfl rfl rfl rfl) | (apply Q_lit_4_1; exact P_lit4 rfl rfl rfl rfl rfl) | (apply Q_lit_1_6; exact P_lit6 rfl rfl rfl rfl rfl)
      | (apply Q_cut; exact P_gCut)
      | (apply Q_cv; exact P_convert rfl rfl rfl rfl (w64 (by omega) (by omega)))
      | (apply Q_fn; exact P_makeFunc rfl rfl rfl)))
    (hj : i + 1 = j := by simp only [Nat.reduceAdd]; rfl) (hg : ∀ nb, St.guard ⟨nb, sz, depX ⟨some t, op, ty, pos, af, gd⟩ (bs i) fs, []⟩ ops ⟨some t, op, ty, pos, af, gd⟩ = some true := by intro nb; rfl) (ht : Nat.blt t sz = true := by rfl) : Walk P ops sz bs nb0 mem0 (⟨some t, op, ty, pos, af, gd⟩ :: l) i ⟨fs, al, ch, nd⟩ KA := by subst hj; exact W_step [] h.h hg ht k
theorem vr {j : Nat} {d : D} {b : Nat} (k : Walk P ops sz bs nb0 mem0 l j ⟨(i, [(t, d)]) :: fs, al, ch, (i, [b]) :: nd⟩ KA) (h : ∀ nb, PStep P ⟨some t, op, ty, pos, af, gd⟩ ⟨nb, sz, depX ⟨some t, op, ty, pos, af, gd⟩ (bs i) fs, memR [b] (curMem mem0 ch)⟩ d := by
      intro nb
      first
      | exact P_loadR rfl rfl rfl rfl
      | exact P_loadRA3 rfl rfl rfl rfl
      | exact P_loadRA1 rfl rfl rfl rfl
      | exact P_loadRA2 rfl rfl rfl rfl
      | exact P_loadRA4 rfl rfl rfl rfl
      | exact P_loadRA6 rfl rfl rfl rfl
      | exact P_lenR rfl rfl rfl rfl rfl
      | exact P_loadRE rfl rfl rfl (by assumption)) (hj : i + 1 = j := by simp only [Nat.reduceAdd]; rfl) (hg : ∀ nb, St.guard ⟨nb, sz, depX ⟨some t, op, ty, pos, af, gd⟩ (bs i) fs, []⟩ ops ⟨some t, op, ty, pos, af, gd⟩ = some true := by intro nb; rfl) (ht : Nat.blt t sz = true := by rfl) : Walk P ops sz bs nb0 mem0 (⟨some t, op, ty, pos, af, gd⟩ :: l) i ⟨fs, al, ch, nd⟩ KA := W_r j k h hj hg ht
theorem vc {j : Nat} {f : Nat} {c : Operand} {args : Array Operand} {ats : Array TypeId} {es ds cs : List D} {r : D} (h : DC P f (es ++ ds ++ cs) r) (k : Walk P ops sz bs nb0 mem0 l j ⟨(i, [(t, r)]) :: fs, al, ch, (i, []) :: nd⟩ KA) (hj : i + 1 = j := by simp only [Nat.reduceAdd]; rfl)
    (hc : ∀ nb, St.ev ⟨nb, sz, depX ⟨some t, .call { callee := .value c, args := args, argTypes := ats }, ty, pos, af, gd⟩ (bs i) fs, memR [] (curMem mem0 ch)⟩ c = some (.fn f es cs) := by intro nb; rfl) (hd : ∀ nb, St.evs ⟨nb, sz, depX ⟨some t, .call { callee := .value c, args := args, argTypes := ats }, ty, pos, af, gd⟩ (bs i) fs, memR [] (curMem mem0 ch)⟩ args.toList = some ds := by intro nb; rfl)
    (hcl : D.idsL (fun _ => false) (es ++ ds ++ cs) = true := by first | rfl | assumption) (hg : ∀ nb, St.guard ⟨nb, sz, depX ⟨some t, .call { callee := .value c, args := args, argTypes := ats }, ty, pos, af, gd⟩ (bs i) fs, []⟩ ops ⟨some t, .call { callee := .value c, args := args, argTypes := ats }, ty, pos, af, gd⟩ = some true := by intro nb; rfl) (ht : Nat.blt t sz = true := by rfl) : Walk P ops sz bs nb0 mem0 (⟨some t, .call { callee := .value c, args := args, argTypes := ats }, ty, pos, af, gd⟩ :: l) i ⟨fs, al, ch, nd⟩ KA := W_c j h k hj hc hd hcl hg ht
theorem vn {j : Nat} (k : Walk P ops sz bs nb0 mem0 l j ⟨(i, [(t, .tup [])]) :: fs, al, ch, (i, []) :: nd⟩ KA) (hg : ∀ nb, St.guard ⟨nb, sz, depX ⟨some t, op, ty, pos, af, gd⟩ (bs i) fs, []⟩ ops ⟨some t, op, ty, pos, af, gd⟩ = some false := by intro nb; rfl) (hj : i + 1 = j := by simp only [Nat.reduceAdd]; rfl) (ht : Nat.blt t sz = true := by rfl) : Walk P ops sz bs nb0 mem0 (⟨some t, op, ty, pos, af, gd⟩ :: l) i ⟨fs, al, ch, nd⟩ KA := W_no j k hj hg ht
theorem va {j : Nat} {kz : Nat} {zs : List Value} {zd : List D} [hz : TyZero P T' kz zs zd] (k : Walk P ops sz bs nb0 mem0 l j ⟨fs, (i, t, ⟨true, T', kz, 1, zd⟩) :: al, [], nd⟩ KA) (hj : i + 1 = j := by simp only [Nat.reduceAdd]; rfl) (ht : Nat.blt t sz = true := by rfl) : Walk P ops sz bs nb0 mem0 (⟨some t, .alloc T', ty, pos, af, none⟩ :: l) i ⟨fs, al, [], nd⟩ KA := W_a j k hj ht
theorem vt {j : Nat} {d : D} {nb' : Nat} {mem' : List (Nat × Option M)} (k : Walk P ops sz bs nb0 mem0 l j ⟨(i, (t, d) :: pickT nb0 al ch) :: fs, al, ⟨i, nb', mem', (mem'.take (mem'.length - (curMem mem0 ch).length)).map (·.1)⟩ :: ch, nd⟩ KA) (h : ∀ extra, MS P ops ⟨some t, op, ty, pos, af, gd⟩ ⟨pickN nb0 al ch, sz, pickT nb0 al ch ++ (depX ⟨some t, op, ty, pos, af, gd⟩ (bs i) fs ++ extra), pickM nb0 mem0 al ch⟩ ⟨nb', sz, (t, d) :: (pickT nb0 al ch ++ (depX ⟨some t, op, ty, pos, af, gd⟩ (bs i) fs ++ extra)), mem'⟩ := by
      intro extra
      first
      | (apply R_al; exact MS_Alloc)
      | (apply R_psh; exact MS_Push)
      | (apply R_boxC; exact MS_BoxO) | (apply R_boxA; exact MS_BoxA)
      | (apply R_mk; exact MS_Make)) (hj : i + 1 = j := by simp only [Nat.reduceAdd]; rfl) (hm : mem'.drop (mem'.length - (curMem mem0 ch).length) = curMem mem0 ch := by rfl) : Walk P ops sz bs nb0 mem0 (⟨some t, op, ty, pos, af, gd⟩ :: l) i ⟨fs, al, ch, nd⟩ KA := W_t j h k hj hm
theorem vl {j : Nat} (t : Nat) {d : D} {nb' : Nat} {mem' : List (Nat × Option M)} (k : Walk P ops sz bs nb0 mem0 l j ⟨(i, (t, d) :: pickT nb0 al ch) :: fs, al, ⟨i, nb', mem', (mem'.take (mem'.length - (curMem mem0 ch).length)).map (·.1)⟩ :: ch, nd⟩ KA) (h : ∀ extra, MS P ops ⟨some t, op, ty, pos, af, gd⟩ ⟨pickN nb0 al ch, sz, pickT nb0 al ch ++ (depX ⟨some t, op, ty, pos, af, gd⟩ (bs i) fs ++ extra), pickM nb0 mem0 al ch⟩ ⟨nb', sz, (t, d) :: (pickT nb0 al ch ++ (depX ⟨some t, op, ty, pos, af, gd⟩ (bs i) fs ++ extra)), mem'⟩ := by intro extra; exact MS_lit) (hj : i + 1 = j := by simp only [Nat.reduceAdd]; rfl) (hm : mem'.drop (mem'.length - (curMem mem0 ch).length) = curMem mem0 ch := by rfl) : Walk P ops sz bs nb0 mem0 (⟨some t, op, ty, pos, af, gd⟩ :: l) i ⟨fs, al, ch, nd⟩ KA := W_t j h k hj hm
theorem vs {j : Nat} {nb' : Nat} {mem' : List (Nat × Option M)} (k : Walk P ops sz bs nb0 mem0 l j ⟨(i, pickT nb0 al ch) :: fs, al, ⟨i, nb', mem', (mem'.take (mem'.length - (curMem mem0 ch).length)).map (·.1)⟩ :: ch, nd⟩ KA) (h : ∀ extra, MS P ops ⟨none, op, ty, pos, af, gd⟩ ⟨pickN nb0 al ch, sz, pickT nb0 al ch ++ (depX ⟨none, op, ty, pos, af, gd⟩ (bs i) fs ++ extra), pickM nb0 mem0 al ch⟩ ⟨nb', sz, pickT nb0 al ch ++ (depX ⟨none, op, ty, pos, af, gd⟩ (bs i) fs ++ extra), mem'⟩ := by
      intro extra
      first | (apply R_stoC; exact MS_StO) | (apply R_stoA; exact MS_StA)) (hj : i + 1 = j := by simp only [Nat.reduceAdd]; rfl) (hm : mem'.drop (mem'.length - (curMem mem0 ch).length) = curMem mem0 ch := by rfl) : Walk P ops sz bs nb0 mem0 (⟨none, op, ty, pos, af, gd⟩ :: l) i ⟨fs, al, ch, nd⟩ KA := W_n j h k hj hm
theorem vf {j : Nat} (t : Nat) {d : D} {nb' : Nat} {mem' : List (Nat × Option M)} (k : Walk P ops sz bs nb0 mem0 l j ⟨(i, (t, d) :: pickT nb0 al ch) :: fs, al, ⟨i, nb', mem', (mem'.take (mem'.length - (curMem mem0 ch).length)).map (·.1)⟩ :: ch, nd⟩ KA) (h : ∀ extra, MS P ops ⟨some t, op, ty, pos, af, gd⟩ ⟨pickN nb0 al ch, sz, pickT nb0 al ch ++ (depX ⟨some t, op, ty, pos, af, gd⟩ (bs i) fs ++ extra), pickM nb0 mem0 al ch⟩ ⟨nb', sz, (t, d) :: (pickT nb0 al ch ++ (depX ⟨some t, op, ty, pos, af, gd⟩ (bs i) fs ++ extra)), mem'⟩ := by
      intro extra
      first
      | exact MS_pushF rfl rfl rfl rfl rfl rfl rfl rfl (by omega) (by omega) (by repeat (first | rfl | exact idsL_map (fun _ => rfl) _ | exact idsL_flat (fun _ => rfl) _ | exact idsL_rep rfl _ | refine idsL_append ?_ ?_))
      | exact MS_pushF rfl rfl rfl rfl rfl rfl rfl (by simp only [List.length_map, Nat.mul_one]) (by omega) (by omega) (by repeat (first | rfl | exact idsL_map (fun _ => rfl) _ | exact idsL_flat (fun _ => rfl) _ | exact idsL_rep rfl _ | refine idsL_append ?_ ?_))) (hj : i + 1 = j := by simp only [Nat.reduceAdd]; rfl) (hm : mem'.drop (mem'.length - (curMem mem0 ch).length) = curMem mem0 ch := by rfl) : Walk P ops sz bs nb0 mem0 (⟨some t, op, ty, pos, af, gd⟩ :: l) i ⟨fs, al, ch, nd⟩ KA := W_t j h k hj hm
end
/-! control -/
section
variable {P : Program} {S : St} {K : Exit → St → Prop} {x y : Code} {id : Nat} {l : List Oper} {c : Operand} {J : St → Prop}
theorem Z1 (h : C P x S (kSeq P y K)) : C P (.seq x y) S K := C_seq h
theorem Z2 (h : C P y S K) : kSeq P y K .normal S := kSeq_n h
theorem Z3 (h : T P l.toArray l S (K .normal)) : C P (.region id l.toArray false) S K := C_region h
theorem ZR (h : C P (.region id l.toArray true) S K) : C P (.region id l.toArray true) S K := h
theorem ZK (h : C P (.cond c x y) S K) : C P (.cond c x y) S K := h
theorem Z4 (h1 : C P x S K) (hc : S.ev c = some (.val (.bool true)) := by rfl) : C P (.cond c x y) S K := C_cond_t hc h1
theorem Z5 (h1 : C P y S K) (hc : S.ev c = some (.val (.bool false)) := by rfl) : C P (.cond c x y) S K := C_cond_f hc h1
theorem Z6 (h : K .ret S) : C P .ret S K := C_ret h
theorem Z7 (h : K .ret S) : kSeq P y K .ret S := kSeq_r h
theorem Z8 (h : C P x S (kBlock id K)) : C P (.block id x) S K := C_block h
theorem Z9 (h : K .normal S) : kBlock id K .normal S := kBlock_n h
theorem ZA (h : K .ret S) : kBlock id K .ret S := kBlock_r h
theorem ZB (h : K .normal S) : kBlock id K (.exit id) S := kBlock_x h
theorem ZC {i : Nat} (h : K (.exit i) S) (hi : (i == id) = false := by rfl) : kBlock id K (.exit i) S := kBlock_y hi h
theorem ZD (h : K (.exit id) S) : C P (.exit id) S K := C_exit h
theorem ZE (h : K (.exit id) S) : kSeq P y K (.exit id) S := kSeq_x h
theorem ZF (h : K .normal S) : C P .skip S K := C_skip h
theorem ZG {i : Nat} (h : K (.exit i) S) : kLoop J K (.exit i) S := kLoop_x h
theorem ZH (h : K .ret S) : kLoop J K .ret S := kLoop_r h
end
end Go.Proofs.Ytpomhnmfkdgafaa
