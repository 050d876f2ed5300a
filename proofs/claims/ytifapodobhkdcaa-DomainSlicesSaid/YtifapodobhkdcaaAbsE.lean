/- The abstract machine's rules for append, make, literals; weakening; the frame of a function (no program in sight). -/
import Derived.Test.YtifapodobhkdcaaAbsD
import Derived.Laws.Tables
import Derived.Great.BuildSlice
namespace Go.Proofs.Ytifapodobhkdcaa
open Go.RowKit
set_option linter.unusedVariables false
set_option linter.unusedSimpArgs false
section
variable {P : Program} {ops : Array Oper} {o : Oper} {rest : List Oper} {x y : Operand} {T' : TypeId} {w0 : World} {I0 : Nat → Prop} {ρ : Rho} {I : Nat → Prop} {a : Act} {w w' : World} {K : St → Prop}
variable {nb sz : Nat} {tmp : List (Nat × D)} {mem : List (Nat × Option M)} {t : Nat} {op : Op} {ty : TypeId} {pos : String} {af : Array Edge} {gd : Option (Nat × Bool)}
/-- append onto a row of the call's own: the row lies where it lay, or in a new block -/
theorem append_run {base : Nat} {e : TypeId} {size bytes : Nat} (hT : TySlice P T' e size bytes) {v : Value} {n : Nat} {xs : List Value} (hown : w.ownsRow base e size v n xs)
    {ao : Option Addr} {b off m c : Nat} {news : List Value} (hl : news.length = m * size) (ha : 0 < news.length → ao = some ⟨b, off, none⟩) (hc : m ≤ c) (hn : ao = none → c = 0) (hnews : LiesAt w b off news) (h1 : ∀ u ∈ news, u.oneCell' = true)
    (h63 : n + m ≤ maxLen) (hbytes : (n + m) * bytes ≤ 140737488355328) (hbase : base ≤ w.heap.size) :
    ∃ pl w', (Builtin.append_ #[T', T'] ty #[v, .slice ao m c]).run P w = .ok (sv pl (n + m)) w' ∧ w'.ownsRow base e size (sv pl (n + m)) (n + m) (xs ++ news) ∧ w.grownBy w' v.ownBlock ∧ (∀ g c, pl = some (g, c) → v.ownBlock = some g ∨ g = w.heap.size) := by
  obtain ⟨i, z, hi, hz, hsz, hby, hzs⟩ := hT.info
  have hpos := hT.pos
  have shape : v.ownBlock = none ∧ v = .slice none 0 0 ∧ n = 0 ∧ xs = [] ∨ ∃ g cap, v = .slice (some ⟨g, 0, none⟩) n cap := by
    rcases hown.2 with ⟨rfl, rfl⟩ | ⟨g, cap, cur, rfl, _⟩
    · exact .inl ⟨rfl, rfl, rfl, List.eq_nil_of_length_eq_zero (by have := hown.1; simpa using this)⟩
    · exact .inr ⟨g, cap, rfl⟩
  by_cases hm0 : m = 0 ∧ ao = none
  · obtain ⟨rfl, rfl⟩ := hm0
    have hc0 := hn rfl
    subst hc0
    have hnil : news = [] := List.eq_nil_of_length_eq_zero (by omega)
    subst hnil
    have hrun := run_append_owned_none (P := P) (w := w) base T' ty e i size hT.ty hi v n xs hown
    have hpl : ∃ pl, sv pl n = v ∧ ∀ g c, pl = some (g, c) → v.ownBlock = some g := by
      rcases shape with ⟨_, rfl, rfl, _⟩ | ⟨g, cap, rfl⟩
      · exact ⟨none, rfl, fun g c h => by cases h⟩
      · exact ⟨some (g, cap), rfl, fun g' c h => by cases h; rfl⟩
    obtain ⟨pl, rfl, hpl⟩ := hpl
    exact ⟨pl, w, hrun, by simpa using hown, ⟨rfl, rfl, rfl, Nat.le_refl _, fun _ _ _ => rfl⟩, fun g c h => .inl (hpl g c h)⟩
  · obtain ⟨ad, rfl⟩ : ∃ ad, ao = some ad := by
      cases ao with
      | none => exact absurd ⟨by have := hn rfl; omega, rfl⟩ hm0
      | some ad => exact ⟨ad, rfl⟩
    have hcc : ∀ j u, news[j]? = some u → w.cell? (ad.add j) = some u := by
      intro j u hj
      have hjl : j < news.length := (List.getElem?_eq_some_iff.1 hj).1
      have := ha (by omega)
      simp only [Option.some.injEq] at this
      subst this
      rw [Addr.add_mid]; exact hnews j u hj
    obtain ⟨v', w', hr, h2, h3, _⟩ := run_append_own (P := P) w base T' ty e i z size bytes hT.ty hi hz hsz hby hzs hpos v n xs hown ad m c news hl hcc h1 h63 hbytes hbase
    subst hsz
    have h63i : ((n + m : Nat) : Int) ≤ 9223372036854775807 := by simp only [maxLen] at h63; omega
    have key : ∃ pl, v' = sv pl (n + m) ∧ ∀ g c, pl = some (g, c) → v.ownBlock = some g ∨ g = w.heap.size := by
      rcases shape with ⟨_, rfl, rfl, rfl⟩ | ⟨g, cap, rfl⟩
      · by_cases hm : m = 0
        · subst hm
          have hnil : news = [] := List.eq_nil_of_length_eq_zero (by omega)
          subst hnil
          have e1 : (Builtin.append_ #[T', T'] ty #[.slice none 0 0, .slice (some ad) 0 c]).run P w = .ok (.slice none 0 0) w := by
            simp [Builtin.append_, run_underlying hT.ty, sizeOf, typeInfo, hi, Builtin.lenOf, Builtin.firstCells, loadCells, loadCellsFrom]
          rw [hr] at e1
          cases e1
          exact ⟨none, rfl, fun g c h => by cases h⟩
        · have e1 := run_append_nil (P := P) w T' ty e i z hT.ty hi hz ad m c news hl hcc (by omega) (by omega) (by rw [hby]; have hb := hbytes; rw [Nat.zero_add] at hb; omega)
          rw [hr] at e1
          cases e1
          exact ⟨some (w.heap.size, grownCap w m 0 e), by simp [sv], fun g c h => by cases h; exact .inr rfl⟩
      · rcases hown.2 with ⟨h', _⟩ | ⟨g', cap', cur, h', hbg, hg, hnc, hcm, hcs, htake⟩
        · cases h'
        · simp only [Value.slice.injEq, Option.some.injEq, Addr.mk.injEq, and_true, true_and] at h'
          obtain ⟨rfl, rfl⟩ := h'
          by_cases hroom : n + m ≤ cap
          · have hfit : n * i.size + news.length ≤ cur.size := by rw [hl, hcs, ← Nat.add_mul]; exact Nat.mul_le_mul_right _ hroom
            have e1 := run_append_room (P := P) w T' ty e i hT.ty hi g n cap cur hg ad m c news hl hcc h1 hroom hfit
            rw [hr] at e1
            cases e1
            exact ⟨some (g, cap), rfl, fun g' c h => by cases h; exact .inl rfl⟩
          · have holds : ∀ j u, xs[j]? = some u → w.cell? ((⟨g, 0, none⟩ : Addr).add j) = some u := hown.cells (g := g) rfl
            have e1 := run_append_grow (P := P) w T' ty e i z hT.ty hi hz ⟨g, 0, none⟩ n cap xs hown.1 holds ad m c news hl hcc (by omega) h63i (growslice_fits (by omega) (by rw [hby]; exact hbytes))
            rw [hr] at e1
            cases e1
            exact ⟨some (w.heap.size, _), rfl, fun g c h => by cases h; exact .inr rfl⟩
    obtain ⟨pl, rfl, hpl⟩ := key
    exact ⟨pl, w', hr, h2, h3, hpl⟩
theorem AllRA.append {xs ys : List D} {us vs : List Value} (h : AllRA ρ nb I w xs us) (h2 : AllRA ρ nb I w ys vs) : AllRA ρ nb I w (xs ++ ys) (us ++ vs) := by
  refine ⟨by simp [h.1, h2.1], fun u hu => (List.mem_append.1 hu).elim (h.2.1 u) (h2.2.1 u), fun j d u a b => ?_⟩
  by_cases hj : j < xs.length
  · rw [List.getElem?_append_left hj] at a
    rw [List.getElem?_append_left (by rw [← h.1]; exact hj)] at b
    exact h.2.2 j d u a b
  · rw [List.getElem?_append_right (by omega)] at a
    rw [List.getElem?_append_right (by rw [← h.1]; omega)] at b
    exact h2.2.2 _ d u a (by rw [h.1]; exact b)
theorem T_append {b n k' size bytes : Nat} {e : TypeId} {m : M} {d : D} {ys xs' : List D} [hT : TySlice P T' e size bytes] (hx : St.ev ⟨nb, sz, tmp, mem⟩ x = some (.own b n)) (hy : St.ev ⟨nb, sz, tmp, mem⟩ y = some d) (hm : getM b mem = some m) (hs : sliceD mem d = some (k', ys)) (hg : St.guard ⟨nb, sz, tmp, mem⟩ ops ⟨some t, .call { callee := .builtin .append, args := #[x, y], argTypes := #[T', T'] }, ty, pos, af, gd⟩ = some true) (ht : Nat.blt t sz = true)
    (h1 : m.ty = e) (h2 : m.size = size) (h3 : m.n = n) (hl : ys.length = k' * size) (hxs : m.xs ++ ys = xs') (hb : (n + k') * bytes ≤ 140737488355328) (hml : n + k' ≤ 9223372036854775807)
    (k : T P ops rest ⟨nb + 1, sz, (t, .own nb (n + k')) :: tmp, (nb, some ⟨e, size, n + k', xs'⟩) :: (b, none) :: mem⟩ K) : T P ops (⟨some t, .call { callee := .builtin .append, args := #[x, y], argTypes := #[T', T'] }, ty, pos, af, gd⟩ :: rest) ⟨nb, sz, tmp, mem⟩ K :=
  T_of_wp hg fun w0 I0 ρ I a w Q next g hk' q => by
    subst hxs
    obtain ⟨hb1, ⟨us, ho, hxs⟩, hn⟩ := (g.mem b m hm).parts
    rw [h1, h2, h3] at ho
    have hxv := g.ev hx
    have hxe : a.eval x = sv (ρ b) n := by
      generalize a.eval x = v at hxv
      cases hxv with
      | im h => cases h
      | own => rfl
    obtain ⟨ao, cap, b', off, vs, hv, hc1, hc2, hc3, hc4, hc5, hc6⟩ := g.sliced (g.ev hy) hs
    obtain ⟨pl, w', hr, ho', hgr, hpl⟩ := append_run (ty := ty) hT ho (by rw [← hc6.1]; exact hl) (fun h => (hc4 h).1) hc1 hc3 hc5 hc6.2.1 (by unfold maxLen; omega) hb (Below.size g.later)
    have hrr : (execOp a.eval ⟨some t, .call { callee := .builtin .append, args := #[x, y], argTypes := #[T', T'] }, ty, pos, af, gd⟩).run P w = .ok (.value (sv pl (n + k'))) w' := by
      simp [execOp, resolve, invoke, builtin, hxe, hv, hr]
    unfold Oper.wp; rw [hrr]
    have hown : ∀ k, (sv (ρ b) n).ownBlock = some k → ∃ c, ρ b = some (k, c) := fun k hk => by
      cases hρ : ρ b with
      | none => rw [hρ] at hk; cases hk
      | some gc => obtain ⟨g', c⟩ := gc; rw [hρ] at hk; cases hk; exact ⟨c, rfl⟩
    have hsubm : ∀ b1 m1, getM b1 ((b, none) :: mem) = some m1 → b1 ≠ b ∧ getM b1 mem = some m1 := fun b1 m1 h => by
      have h' : cond (Nat.beq b b1) none (getM b1 mem) = some m1 := h
      cases hbb : Nat.beq b b1 with
      | true => rw [hbb] at h'; cases h'
      | false => rw [hbb] at h'; exact ⟨fun e => Nat.ne_of_beq_eq_false hbb e.symm, h'⟩
    have g2 := g.renew ⟨e, size, n + k', m.xs ++ ys⟩ ((b, none) :: mem) pl (sv (ρ b) n).ownBlock hgr
      (fun k hk => by obtain ⟨c, hc⟩ := hown k hk; exact ⟨((g.mem b m hm).lt hc).1, hn k c hc⟩)
      (fun b1 m1 h => ⟨(hsubm b1 m1 h).2, fun k c hk hk2 => by obtain ⟨c', hc'⟩ := hown k hk2; exact (hsubm b1 m1 h).1 (g.inj b1 m1 b m (hsubm b1 m1 h).2 hm _ _ _ hk hc')⟩)
      (fun b1 m1 k c c' h hk hk2 => by
        rcases hpl k c' hk2 with h' | h'
        · obtain ⟨c2, hc2⟩ := hown k h'; exact (hsubm b1 m1 h).1 (g.inj b1 m1 b m (hsubm b1 m1 h).2 hm _ _ _ hk hc2)
        · have := ((g.mem b1 m1 (hsubm b1 m1 h).2).lt hk).2; omega)
      (fun k c hk hI => by
        rcases hpl k c hk with h' | h'
        · obtain ⟨c2, hc2⟩ := hown k h'; exact hn k c2 hc2 hI
        · have := g.lt k hI; omega)
      ho' (hxs.append hc6)
    have hnew : RA (upd ρ nb pl) (nb + 1) I w' (.own nb (n + k')) (sv pl (n + k')) := by
      have h := RA.own (ρ := upd ρ nb pl) (nb := nb + 1) (I := I) (w := w') (b := nb) (n := n + k') (Nat.lt_succ_self _) (fun h => by
        rw [upd_same] at h
        subst h
        rcases ho'.2 with ⟨_, h0⟩ | ⟨g', cap', cur, h', _⟩
        · exact h0
        · simp [sv] at h')
      rw [upd_same] at h
      exact h
    exact hk' _ _ (k.h w0 I0 _ I _ _ Q (g2.put (by simpa using ht) hnew) q)
theorem T_push {b n k' size bytes n' : Nat} {e : TypeId} {d : D} {xs ys : List D} [hT : TySlice P T' e size bytes] (hx : St.ev ⟨nb, sz, tmp, mem⟩ x = some (.own b n)) (hy : St.ev ⟨nb, sz, tmp, mem⟩ y = some d) (hm : getM b mem = some ⟨e, size, n', xs⟩) (hs : sliceD mem d = some (k', ys)) (hg : St.guard ⟨nb, sz, tmp, mem⟩ ops ⟨some t, .call { callee := .builtin .append, args := #[x, y], argTypes := #[T', T'] }, ty, pos, af, gd⟩ = some true) (ht : Nat.blt t sz = true)
    (h3 : n' = n) (hl : ys.length = k' * size) (hb : (n + k') * bytes ≤ 140737488355328) (hml : n + k' ≤ 9223372036854775807)
    (k : T P ops rest ⟨nb + 1, sz, (t, .own nb (n + k')) :: tmp, (nb, some ⟨e, size, n + k', xs ++ ys⟩) :: (b, none) :: mem⟩ K) : T P ops (⟨some t, .call { callee := .builtin .append, args := #[x, y], argTypes := #[T', T'] }, ty, pos, af, gd⟩ :: rest) ⟨nb, sz, tmp, mem⟩ K :=
  T_append hx hy hm hs hg ht rfl rfl h3 hl rfl hb hml k
theorem T_make {n size bytes : Nat} {e : TypeId} {z : Value} {zd : List D} {kz : Nat} {i : Int} {k1 k2 : IntKind} [hT : TySlice P T' e size bytes] [hz : TyZero P e kz [z] zd] (hx : St.ev ⟨nb, sz, tmp, mem⟩ x = some (.val (.int k1 i))) (hy : St.ev ⟨nb, sz, tmp, mem⟩ y = some (.val (.int k2 i))) (hi : i = (n : Int)) (hg : St.guard ⟨nb, sz, tmp, mem⟩ ops ⟨some t, .makeSlice T' x y, ty, pos, af, gd⟩ = some true) (ht : Nat.blt t sz = true)
    (hb : n * bytes ≤ 140737488355328) (hml : n ≤ 9223372036854775807) (k : T P ops rest ⟨nb + 1, sz, (t, .own nb n) :: tmp, (nb, some ⟨e, 1, n, List.replicate n (.val z)⟩) :: mem⟩ K) : T P ops (⟨some t, .makeSlice T' x y, ty, pos, af, gd⟩ :: rest) ⟨nb, sz, tmp, mem⟩ K :=
  T_of_wp hg fun w0 I0 ρ I a w Q next g hk' q => by
    subst hi
    obtain ⟨i, z', h1, h2, h3, h4, h5⟩ := hT.info
    obtain ⟨i2, z2, h6, h7, h8, h9⟩ := hz.info
    rw [h1] at h6
    obtain rfl : i = i2 := by simpa using h6
    rw [h2] at h7
    obtain rfl : z' = z2 := by simpa using h7
    have hs1 : size = 1 := by rw [← h3, h9]; rfl
    subst hs1
    have hzc : z'.cells = #[z] := by
      apply Array.ext'; rw [h8]
    obtain ⟨w', hr, ho, hgr⟩ := run_make_full (P := P) w w0.heap.size T' e i z' 1 hT.ty h1 h2 h3 k1 k2 n (by rw [h4, Nat.mul_comm]; omega) (by unfold maxLen; omega) (Below.size g.later)
    have e1 := (g.ev hx).val_eq
    have e2 := (g.ev hy).val_eq
    have hrr : (execOp a.eval ⟨some t, .makeSlice T' x y, ty, pos, af, gd⟩).run P w = .ok (.value (.slice (some ⟨w.heap.size, 0, none⟩) n n)) w' := by
      simp [execOp, e1, e2, hr]
    unfold Oper.wp; rw [hrr]
    rw [hzc, Nat.mul_one, toList_madeCells_one] at ho
    have hone : z.oneCell' = true := by have := hz.one; simpa using this
    have g2 := g.renew ⟨e, 1, n, List.replicate n (.val z)⟩ mem (some (w.heap.size, n)) none (us := List.replicate n z) hgr (fun k hk => by cases hk) (fun b m h => ⟨h, fun k c _ hh => by cases hh⟩)
      (fun b m k c c' h hk hk' => by
        have := ((g.mem b m h).lt hk).2
        simp only [Option.some.injEq, Prod.mk.injEq] at hk'
        omega)
      (fun k c hk hI => by
        have := g.lt k hI
        simp only [Option.some.injEq, Prod.mk.injEq] at hk
        omega)
      ho ⟨by simp, fun u hu => by rw [List.eq_of_mem_replicate hu]; exact hone, fun j d u h1 h2 => by
        rw [List.getElem?_replicate] at h1 h2
        by_cases hj : j < n
        · rw [if_pos hj] at h1 h2; cases h1; cases h2; exact .im (.val _ hone)
        · rw [if_neg hj] at h1; cases h1⟩
    exact hk' _ _ (k.h w0 I0 _ I _ _ Q (g2.put (by simpa using ht) (G.fresh_own ρ nb I w _ n)) q)
/-! ### literals -/
class TyBuild (P : Program) (t : TypeId) (zs : outParam (List Value)) (zd : outParam (List D)) (place : outParam (Nat → Option (Nat × Nat))) : Prop where
  data : zs.map D.val = zd
  built : ∀ parts, P.built t parts = Instr.fill place zs.toArray parts
  one : zs.all (·.oneCell') = true
def fillD (place : Nat → Option (Nat × Nat)) : List (Nat × D) → List D → Option (List D)
  | [], cells => some cells
  | (i, d) :: rest, cells => match place i with
    | none => none
    | some (off, size) => cond (cellD d && Nat.beq (flatD d).length size && Nat.ble (off + size) cells.length) (fillD place rest (putAt cells off (flatD d))) none
theorem foldl_put : ∀ (vs : List Value) (off j : Nat) (cs : Array Value), ((vs.zipIdx j).foldl (fun cs x => cs.setIfInBounds (off + x.2) x.1) cs).toList = putAt cs.toList (off + j) vs
  | [], _, _, _ => rfl
  | v :: vs, off, j, cs => by
    rw [List.zipIdx_cons, List.foldl_cons, foldl_put vs off (j + 1)]
    simp [putAt, Nat.add_assoc]
def St.evParts (S : St) : List (Nat × Operand) → Option (List (Nat × D))
  | [] => some []
  | (i, x) :: l => match S.ev x, S.evParts l with
    | some d, some ds => some ((i, d) :: ds)
    | _, _ => none
theorem fill_sound (g : G w0 I0 ⟨nb, sz, tmp, mem⟩ ρ I a w) {place : Nat → Option (Nat × Nat)} : ∀ {parts : List (Nat × Operand)} {ds : List (Nat × D)} {cells : List D} {us : Array Value} {r : List D}, St.evParts ⟨nb, sz, tmp, mem⟩ parts = some ds → AllRA ρ nb I w cells us.toList → fillD place ds cells = some r →
    ∃ us', Instr.fill place us (parts.map fun x => (x.1, a.eval x.2)) = some us' ∧ AllRA ρ nb I w r us'.toList
  | [], ds, cells, us, r, h, hc, hf => by cases h; cases hf; exact ⟨us, rfl, hc⟩
  | (i, x) :: l, ds, cells, us, r, h, hc, hf => by
    unfold St.evParts at h
    cases hx : St.ev ⟨nb, sz, tmp, mem⟩ x with
    | none => rw [hx] at h; cases h
    | some d =>
      cases hl : St.evParts ⟨nb, sz, tmp, mem⟩ l with
      | none => rw [hx, hl] at h; cases h
      | some es =>
        rw [hx, hl] at h
        cases h
        unfold fillD at hf
        cases hp : place i with
        | none => rw [hp] at hf; cases hf
        | some os =>
          obtain ⟨off, size⟩ := os
          rw [hp] at hf
          simp only at hf
          cases hb : (cellD d && Nat.beq (flatD d).length size && Nat.ble (off + size) cells.length) with
          | false => rw [hb] at hf; cases hf
          | true =>
            rw [hb] at hf
            simp only [Bool.and_eq_true] at hb
            obtain ⟨⟨hb1, hb2⟩, hb3⟩ := hb
            have hb2 := Nat.eq_of_beq_eq_true hb2
            have hb3 := Nat.le_of_ble_eq_true hb3
            have hv := (g.ev hx).flat hb1
            have hvl : (a.eval x).cells.size = size := by rw [← Array.length_toList, ← hv.1]; exact hb2
            have hput := hc.putAt off hv
            have hfold := foldl_put (a.eval x).cells.toList off 0 us
            rw [Nat.add_zero] at hfold
            obtain ⟨us', h1, h2⟩ := fill_sound g (us := (putAt us.toList off (a.eval x).cells.toList).toArray) hl hput hf
            refine ⟨us', ?_, h2⟩
            rw [← h1]
            have hle : ¬ (us.size < off + (a.eval x).cells.size) := by
              have := hc.1
              have h2 : us.toList.length = us.size := Array.length_toList
              omega
            have e : ((a.eval x).cells.zipIdx.foldl (fun cs x => cs.setIfInBounds (off + x.2) x.1) us) = (putAt us.toList off (a.eval x).cells.toList).toArray := by
              apply Array.ext'
              rw [← hfold, ← Array.foldl_toList, Array.toList_zipIdx]
            simp only [List.map_cons, Instr.fill, hp, hvl]
            rw [← e]
            simp [hvl] at hle ⊢
            intro h; omega
theorem P_build {zs : List Value} {place : Nat → Option (Nat × Nat)} {parts : Array (Nat × Operand)} {ds : List (Nat × D)} {r zd : List D} [hz : TyBuild P T' zs zd place] (ho : o.op = .build T' parts) (hp : St.evParts ⟨nb, sz, tmp, mem⟩ parts.toList = some ds) (hf : fillD place ds zd = some r) : PStep P o ⟨nb, sz, tmp, mem⟩ (.agg r) :=
  PStep.pure fun w0 I0 ρ I a w g => by
    obtain ⟨us', h1, h2⟩ := fill_sound g (place := place) (us := zs.toArray) hp (hz.data ▸ allRA_vals hz.one) hf
    have hb : P.built T' (parts.map fun x => (x.1, a.eval x.2)).toList = some us' := by
      rw [hz.built, Array.toList_map]; exact h1
    have e : us' = us'.toList.toArray := rfl
    refine ⟨.agg us'.toList.toArray, ?_, .agg h2.1 h2.2.1 h2.2.2⟩
    simp only [execOp, ho, Sem.run_bind, run_build w T' _ us' hb, Result.andThen_ok, Sem.run_pure]
theorem P_build1 {zs : List Value} {zd : List D} {place : Nat → Option (Nat × Nat)} {parts : Array (Nat × Operand)} {ds : List (Nat × D)} {e1 : D} [hz : TyBuild P T' zs zd place] (ho : o.op = .build T' parts) (hp : St.evParts ⟨nb, sz, tmp, mem⟩ parts.toList = some ds) (hf : fillD place ds zd = some [e1]) : PStep P o ⟨nb, sz, tmp, mem⟩ (.agg [e1]) := P_build ho hp hf
theorem P_build2 {zs : List Value} {zd : List D} {place : Nat → Option (Nat × Nat)} {parts : Array (Nat × Operand)} {ds : List (Nat × D)} {e1 e2 : D} [hz : TyBuild P T' zs zd place] (ho : o.op = .build T' parts) (hp : St.evParts ⟨nb, sz, tmp, mem⟩ parts.toList = some ds) (hf : fillD place ds zd = some [e1, e2]) : PStep P o ⟨nb, sz, tmp, mem⟩ (.agg [e1, e2]) := P_build ho hp hf
theorem P_build3 {zs : List Value} {zd : List D} {place : Nat → Option (Nat × Nat)} {parts : Array (Nat × Operand)} {ds : List (Nat × D)} {e1 e2 e3 : D} [hz : TyBuild P T' zs zd place] (ho : o.op = .build T' parts) (hp : St.evParts ⟨nb, sz, tmp, mem⟩ parts.toList = some ds) (hf : fillD place ds zd = some [e1, e2, e3]) : PStep P o ⟨nb, sz, tmp, mem⟩ (.agg [e1, e2, e3]) := P_build ho hp hf
theorem P_build4 {zs : List Value} {zd : List D} {place : Nat → Option (Nat × Nat)} {parts : Array (Nat × Operand)} {ds : List (Nat × D)} {e1 e2 e3 e4 : D} [hz : TyBuild P T' zs zd place] (ho : o.op = .build T' parts) (hp : St.evParts ⟨nb, sz, tmp, mem⟩ parts.toList = some ds) (hf : fillD place ds zd = some [e1, e2, e3, e4]) : PStep P o ⟨nb, sz, tmp, mem⟩ (.agg [e1, e2, e3, e4]) := P_build ho hp hf
theorem AllRA.closed {xs : List D} {us : List Value} (h : AllRA ρ nb I w xs us) (hc : D.idsL (fun _ => false) xs = true) (j : Nat) (d : D) (u : Value) (h1 : xs[j]? = some d) (h2 : us[j]? = some u) : RC I w d u := (h.2.2 j d u h1 h2).closed (idsL_mem hc j d h1)
theorem RC.ext {d : D} {v : Value} {I' : Nat → Prop} (h : RC I w d v) (lt : ∀ b, I b → b < w.heap.size) (e : Ext I w I' w') : RC I' w' d v := h.move e.more fun b hb => later_block e.later (lt b hb)
/-- a slice literal, never written to -/
theorem P_lit {len size bytes : Nat} {e : TypeId} {kz : Nat} {zs : List Value} {zd : List D} {parts : Array (Nat × Operand)} {ds : List (Nat × D)} {r : List D} [hT : TySlice P T' e size bytes] [hz : TyZero P e kz zs zd] (ho : o.op = .buildSlice T' len parts) (hp : St.evParts ⟨nb, sz, tmp, mem⟩ parts.toList = some ds)
    (hf : fillD (fun i => some (i * size, size)) ds (List.replicate (len * size) .junk) = some r) (hc : D.idsL (fun _ => false) r = true) (hl : Nat.ble (len * size) 16777216 = true) : PStep P o ⟨nb, sz, tmp, mem⟩ (.row len r) :=
  PStep.run fun w0 I0 ρ I a w g => by
    obtain ⟨i, z, h1, h2, h3, h4, h5⟩ := hT.info
    obtain ⟨i2, z2, h6, h7, h8, h9⟩ := hz.info
    rw [h1] at h6
    obtain rfl : i = i2 := by simpa using h6
    rw [h2] at h7
    obtain rfl : z = z2 := by simpa using h7
    have hl := Nat.le_of_ble_eq_true hl
    have hpos := hT.pos
    subst h3
    let z0 : Array Value := if len * i.size = 0 then #[] else z.cells
    let cells0 : Array Value := (Array.range (len * i.size)).map fun j => z0[j % z0.size]!
    have hall : AllRA ρ nb I w (List.replicate (len * i.size) .junk) cells0.toList := by
      refine ⟨by simp [cells0], fun u hu => ?_, fun j d u h1 h2 => ?_⟩
      · simp only [cells0, Array.toList_map, List.mem_map] at hu
        obtain ⟨j, hj, rfl⟩ := hu
        have hj' : j < len * i.size := by simpa using hj
        have hne : ¬ len * i.size = 0 := by omega
        have hz0 : z0 = z.cells := if_neg hne
        have hsz : 0 < z0.size := by rw [hz0, h5]; exact hpos
        have hlt : j % z0.size < z0.size := Nat.mod_lt _ hsz
        rw [getElem!_pos z0 _ hlt]
        have hm : z0[j % z0.size] ∈ z.cells.toList := by rw [← hz0]; simp
        rw [h8] at hm
        exact List.all_eq_true.1 hz.one _ hm
      · rw [List.getElem?_replicate] at h1
        by_cases hj : j < len * i.size
        · rw [if_pos hj] at h1; cases h1; exact .im (.junk _)
        · rw [if_neg hj] at h1; cases h1
    obtain ⟨us', h10, h11⟩ := fill_sound g (place := fun k => some (k * i.size, i.size)) (us := cells0) hp hall hf
    have hr : (execOp a.eval o).run P w = .ok (.value (.slice (some ⟨w.heap.size, 0, none⟩) len len)) (w.alloc (.cells us' e)) := by
      have hmap : (parts.map fun x => (x.1, a.eval x.2)).toList = parts.toList.map fun x => (x.1, a.eval x.2) := Array.toList_map ..
      have hsmall : ¬ 16777216 < len * i.size := by omega
      by_cases h0 : len * i.size = 0
      · have hz0 : z0 = #[] := if_pos h0
        have h10' : Instr.fill (fun k => some (k * i.size, i.size)) ((Array.range (len * i.size)).map fun j => (#[] : Array Value)[j % (#[] : Array Value).size]!) (parts.map fun x => (x.1, a.eval x.2)).toList = some us' := by rw [hmap, ← hz0]; exact h10
        simp only [execOp, ho, Instr.buildSlice, Sem.run_bind, run_underlying hT.ty, Result.andThen_ok, run_sizeOf'' h1, if_pos h0, Sem.run_pure]
        rw [if_neg (by simpa using hsmall)]
        simp only [Sem.run_bind, Sem.run_pure, Result.andThen_ok, h10']
        rfl
      · have hz0 : z0 = z.cells := if_neg h0
        have h10' : Instr.fill (fun k => some (k * i.size, i.size)) ((Array.range (len * i.size)).map fun j => z.cells[j % z.cells.size]!) (parts.map fun x => (x.1, a.eval x.2)).toList = some us' := by rw [hmap, ← hz0]; exact h10
        simp only [execOp, ho, Sem.run_bind, run_buildSlice w T' e len _ us' i z hT.ty h1 h2 (by simpa using hsmall) h0 h10', Result.andThen_ok, Sem.run_pure]
    have hext : Ext I w (fun b => I b ∨ (w.heap.size ≤ b ∧ b < (w.alloc (.cells us' e)).heap.size)) (w.alloc (.cells us' e)) := ⟨fun b h => .inl h, fun b h => h, (Later.refl w).alloc _⟩
    have hlen : us'.toList.length = len * i.size := by
      rw [← h11.1]
      have : ∀ (ds : List (Nat × D)) (cs r : List D), fillD (fun k => some (k * i.size, i.size)) ds cs = some r → r.length = cs.length := by
        intro ds
        induction ds with
        | nil => intro cs r h; cases h; rfl
        | cons x l ih =>
          intro cs r h
          obtain ⟨k, d⟩ := x
          unfold fillD at h
          simp only at h
          cases hb : (cellD d && Nat.beq (flatD d).length i.size && Nat.ble (k * i.size + i.size) cs.length) with
          | false => rw [hb] at h; cases h
          | true => rw [hb] at h; rw [ih _ _ h, putAt_length]
      rw [this _ _ _ hf]; simp
    refine ⟨_, _, _, hr, hext, .im (.row (Nat.le_refl _) (by have : len ≤ len * i.size := Nat.le_mul_of_pos_right _ hpos; unfold maxLen; omega) (fun h => by cases h) (us := us'.toList) h11.1 (fun _ => ⟨rfl, .inr ⟨Nat.le_refl _, by simp⟩⟩) (fun j u hu => ?_) h11.2.1 fun j d u hj hu => (h11.closed hc j d u hj hu).ext g.lt hext)⟩
    have hb := box_cell w us' e j u (by simpa using hu)
    rw [Nat.zero_add]; exact hb
theorem P_lit1 {len size bytes : Nat} {e : TypeId} {kz : Nat} {zs : List Value} {zd : List D} {parts : Array (Nat × Operand)} {ds : List (Nat × D)} {e1 : D} [hT : TySlice P T' e size bytes] [hz : TyZero P e kz zs zd] (ho : o.op = .buildSlice T' len parts) (hp : St.evParts ⟨nb, sz, tmp, mem⟩ parts.toList = some ds)
    (hf : fillD (fun i => some (i * size, size)) ds (List.replicate (len * size) .junk) = some [e1]) (hc : D.idsL (fun _ => false) [e1] = true) (hl : Nat.ble (len * size) 16777216 = true) : PStep P o ⟨nb, sz, tmp, mem⟩ (.row len [e1]) := P_lit ho hp hf hc hl
theorem P_lit2 {len size bytes : Nat} {e : TypeId} {kz : Nat} {zs : List Value} {zd : List D} {parts : Array (Nat × Operand)} {ds : List (Nat × D)} {e1 e2 : D} [hT : TySlice P T' e size bytes] [hz : TyZero P e kz zs zd] (ho : o.op = .buildSlice T' len parts) (hp : St.evParts ⟨nb, sz, tmp, mem⟩ parts.toList = some ds)
    (hf : fillD (fun i => some (i * size, size)) ds (List.replicate (len * size) .junk) = some [e1, e2]) (hc : D.idsL (fun _ => false) [e1, e2] = true) (hl : Nat.ble (len * size) 16777216 = true) : PStep P o ⟨nb, sz, tmp, mem⟩ (.row len [e1, e2]) := P_lit ho hp hf hc hl
theorem P_lit3 {len size bytes : Nat} {e : TypeId} {kz : Nat} {zs : List Value} {zd : List D} {parts : Array (Nat × Operand)} {ds : List (Nat × D)} {e1 e2 e3 : D} [hT : TySlice P T' e size bytes] [hz : TyZero P e kz zs zd] (ho : o.op = .buildSlice T' len parts) (hp : St.evParts ⟨nb, sz, tmp, mem⟩ parts.toList = some ds)
    (hf : fillD (fun i => some (i * size, size)) ds (List.replicate (len * size) .junk) = some [e1, e2, e3]) (hc : D.idsL (fun _ => false) [e1, e2, e3] = true) (hl : Nat.ble (len * size) 16777216 = true) : PStep P o ⟨nb, sz, tmp, mem⟩ (.row len [e1, e2, e3]) := P_lit ho hp hf hc hl
theorem P_lit4 {len size bytes : Nat} {e : TypeId} {kz : Nat} {zs : List Value} {zd : List D} {parts : Array (Nat × Operand)} {ds : List (Nat × D)} {e1 e2 e3 e4 : D} [hT : TySlice P T' e size bytes] [hz : TyZero P e kz zs zd] (ho : o.op = .buildSlice T' len parts) (hp : St.evParts ⟨nb, sz, tmp, mem⟩ parts.toList = some ds)
    (hf : fillD (fun i => some (i * size, size)) ds (List.replicate (len * size) .junk) = some [e1, e2, e3, e4]) (hc : D.idsL (fun _ => false) [e1, e2, e3, e4] = true) (hl : Nat.ble (len * size) 16777216 = true) : PStep P o ⟨nb, sz, tmp, mem⟩ (.row len [e1, e2, e3, e4]) := P_lit ho hp hf hc hl
theorem P_lit6 {len size bytes : Nat} {e : TypeId} {kz : Nat} {zs : List Value} {zd : List D} {parts : Array (Nat × Operand)} {ds : List (Nat × D)} {e1 e2 e3 e4 e5 e6 : D} [hT : TySlice P T' e size bytes] [hz : TyZero P e kz zs zd] (ho : o.op = .buildSlice T' len parts) (hp : St.evParts ⟨nb, sz, tmp, mem⟩ parts.toList = some ds)
    (hf : fillD (fun i => some (i * size, size)) ds (List.replicate (len * size) .junk) = some [e1, e2, e3, e4, e5, e6]) (hc : D.idsL (fun _ => false) [e1, e2, e3, e4, e5, e6] = true) (hl : Nat.ble (len * size) 16777216 = true) : PStep P o ⟨nb, sz, tmp, mem⟩ (.row len [e1, e2, e3, e4, e5, e6]) := P_lit ho hp hf hc hl
theorem P_lit0 {size bytes : Nat} {e : TypeId} {kz : Nat} {zs : List Value} {zd : List D} {parts : Array (Nat × Operand)} {ds : List (Nat × D)} [hT : TySlice P T' e size bytes] [hz : TyZero P e kz zs zd] (ho : o.op = .buildSlice T' 0 parts) (hp : St.evParts ⟨nb, sz, tmp, mem⟩ parts.toList = some []) : PStep P o ⟨nb, sz, tmp, mem⟩ (.row 0 []) := P_lit ho hp (by rw [Nat.zero_mul]; rfl) rfl (by rw [Nat.zero_mul]; rfl)
end
end Go.Proofs.Ytifapodobhkdcaa
