/- The abstract machine: a region that draws its order, whose operations but a tail leave what is known (no program in sight). -/
import Derived.Test.YtifapodobhkdcaaAbsF
namespace Go.Proofs.Ytifapodobhkdcaa
open Go.RowKit
set_option linter.unusedVariables false
set_option linter.unusedSimpArgs false
def dependsB (o : Oper) (j : Nat) : Bool := o.after.toList.any fun e => Region.binds .any e && Nat.beq e.on j
def depF (o : Oper) (tmp : List (Nat × D)) : List (Nat × Nat × D) → List (Nat × D)
  | [] => tmp
  | x :: fs => cond (dependsB o x.1) (x.2 :: depF o tmp fs) (depF o tmp fs)
theorem look_dep {o : Oper} {tmp : List (Nat × D)} {t : Nat} {d : D} : ∀ {fs : List (Nat × Nat × D)}, look t (depF o tmp fs) = some d → (∃ j, (j, t, d) ∈ fs ∧ dependsB o j = true) ∨ look t tmp = some d
  | [], h => .inr h
  | x :: fs, h => by
    unfold depF at h
    cases hx : dependsB o x.1 with
    | false =>
      rw [hx] at h
      rcases look_dep h with ⟨j, h1, h2⟩ | h
      · exact .inl ⟨j, List.mem_cons_of_mem _ h1, h2⟩
      · exact .inr h
    | true =>
      rw [hx] at h
      have h' : cond (Nat.beq x.2.1 t) (some x.2.2) (look t (depF o tmp fs)) = some d := h
      cases hb : Nat.beq x.2.1 t with
      | true =>
        rw [hb] at h'
        have := Nat.eq_of_beq_eq_true hb
        cases h'
        obtain ⟨j, s, e⟩ := x
        simp only at this
        subst this
        exact .inl ⟨j, List.mem_cons_self, hx⟩
      | false =>
        rw [hb] at h'
        rcases look_dep h' with ⟨j, h1, h2⟩ | h
        · exact .inl ⟨j, List.mem_cons_of_mem _ h1, h2⟩
        · exact .inr h
def Head0 (P : Program) (ops : Array Oper) (nb sz : Nat) (tmp : List (Nat × D)) (mem : List (Nat × Option M)) : List Oper → Nat → List (Nat × Nat × D) → (List (Nat × Nat × D) → Prop) → Prop
  | [], _, fs, K => K fs
  | o :: l, i, fs, K => ∃ t d, o.dst = some t ∧ Nat.blt t sz = true ∧
      ((St.guard ⟨nb, sz, depF o tmp fs, mem⟩ ops o = some true ∧ PStep P o ⟨nb, sz, depF o tmp fs, mem⟩ d) ∨ (St.guard ⟨nb, sz, depF o tmp fs, mem⟩ ops o = some false ∧ d = .junk)) ∧ Head0 P ops nb sz tmp mem l (i + 1) ((i, t, d) :: fs) K
structure Head (P : Program) (ops : Array Oper) (nb sz : Nat) (tmp : List (Nat × D)) (mem : List (Nat × Option M)) (l : List Oper) (i : Nat) (fs : List (Nat × Nat × D)) (K : List (Nat × Nat × D) → Prop) : Prop where
  h : Head0 P ops nb sz tmp mem l i fs K
def factsOf : List (Nat × Nat × D) → List (Nat × D) → List (Nat × D)
  | [], tmp => tmp
  | x :: fs, tmp => x.2 :: factsOf fs tmp
def junks : List Oper → List (Nat × D) → List (Nat × D)
  | [], tmp => tmp
  | o :: l, tmp => match o.dst with
    | some t => (t, .junk) :: junks l tmp
    | none => junks l tmp
section
variable {P : Program} {ops : Array Oper} {nb sz : Nat} {tmp : List (Nat × D)} {mem : List (Nat × Option M)}
variable {l : List Oper} {i : Nat} {fs : List (Nat × Nat × D)} {K : List (Nat × Nat × D) → Prop} {t : Nat} {op : Op} {ty : TypeId} {pos : String} {af : Array Edge} {gd : Option (Nat × Bool)}
theorem H_nil (h : K fs) : Head P ops nb sz tmp mem [] i fs K := ⟨h⟩
theorem H_step {d : D} (h : PStep P ⟨some t, op, ty, pos, af, gd⟩ ⟨nb, sz, depF ⟨some t, op, ty, pos, af, gd⟩ tmp fs, mem⟩ d) (hg : St.guard ⟨nb, sz, depF ⟨some t, op, ty, pos, af, gd⟩ tmp fs, mem⟩ ops ⟨some t, op, ty, pos, af, gd⟩ = some true) (ht : Nat.blt t sz = true)
    (k : Head P ops nb sz tmp mem l (i + 1) ((i, t, d) :: fs) K) : Head P ops nb sz tmp mem (⟨some t, op, ty, pos, af, gd⟩ :: l) i fs K := ⟨⟨t, d, rfl, ht, .inl ⟨hg, h⟩, k.h⟩⟩
theorem H_pass (hg : St.guard ⟨nb, sz, depF ⟨some t, op, ty, pos, af, gd⟩ tmp fs, mem⟩ ops ⟨some t, op, ty, pos, af, gd⟩ = some false) (ht : Nat.blt t sz = true)
    (k : Head P ops nb sz tmp mem l (i + 1) ((i, t, .junk) :: fs) K) : Head P ops nb sz tmp mem (⟨some t, op, ty, pos, af, gd⟩ :: l) i fs K := ⟨⟨t, .junk, rfl, ht, .inr ⟨hg, rfl⟩, k.h⟩⟩
theorem H_guard {o : Oper} {b : Bool} (hg : St.guard ⟨nb, sz, depF o tmp fs, mem⟩ ops o = some b) (h1 : b = true → Head P ops nb sz tmp mem (o :: l) i fs K) (h2 : b = false → Head P ops nb sz tmp mem (o :: l) i fs K) : Head P ops nb sz tmp mem (o :: l) i fs K := by
  cases b
  · exact h2 rfl
  · exact h1 rfl
/-- each operation of the head, by itself -/
def StepsOK (P : Program) (ops : Array Oper) (nb sz : Nat) (tmp : List (Nat × D)) (mem : List (Nat × Option M)) (l : List Oper) (i : Nat) (all : List (Nat × Nat × D)) : Prop :=
  ∀ k o, l[k]? = some o → ∃ t d fs, (i + k, t, d) ∈ all ∧ (∀ x ∈ fs, x ∈ all) ∧ o.dst = some t ∧ t < sz ∧
    ((St.guard ⟨nb, sz, depF o tmp fs, mem⟩ ops o = some true ∧ PStep P o ⟨nb, sz, depF o tmp fs, mem⟩ d) ∨ (St.guard ⟨nb, sz, depF o tmp fs, mem⟩ ops o = some false ∧ d = .junk))
theorem Head0.steps : ∀ {l : List Oper} {i : Nat} {fs : List (Nat × Nat × D)}, (∀ x ∈ fs, x.1 < i) → (∀ x ∈ fs, ∀ y ∈ fs, x.1 = y.1 → x = y) → Head0 P ops nb sz tmp mem l i fs K → ∃ all, K all ∧ (∀ x ∈ fs, x ∈ all) ∧ (∀ x ∈ all, x ∈ fs ∨ ∃ k o, l[k]? = some o ∧ x.1 = i + k ∧ o.dst = some x.2.1) ∧ StepsOK P ops nb sz tmp mem l i all ∧ (∀ x ∈ all, ∀ y ∈ all, x.1 = y.1 → x = y)
  | [], i, fs, _, hu, h => ⟨fs, h, fun x hx => hx, fun x hx => .inl hx, fun k o hk => by simp at hk, hu⟩
  | o :: l, i, fs, hlt, hu, ⟨t, d, h1, h2, h3, h4⟩ => by
    obtain ⟨all, a1, a2, a3, a4, a5⟩ := Head0.steps (fun x hx => by
      rcases List.mem_cons.1 hx with rfl | hx
      · exact Nat.lt_succ_self _
      · exact Nat.lt_succ_of_lt (hlt x hx)) (fun x hx y hy hxy => by
      rcases List.mem_cons.1 hx with rfl | hx <;> rcases List.mem_cons.1 hy with rfl | hy
      · rfl
      · have := hlt y hy; simp only at hxy; omega
      · have := hlt x hx; simp only at hxy; omega
      · exact hu x hx y hy hxy) h4
    refine ⟨all, a1, fun x hx => a2 x (List.mem_cons_of_mem _ hx), fun x hx => ?_, fun k o' hk => ?_, a5⟩
    · rcases a3 x hx with h | ⟨k, o', h5, h6, h7⟩
      · rcases List.mem_cons.1 h with rfl | h
        · exact .inr ⟨0, o, rfl, rfl, h1⟩
        · exact .inl h
      · exact .inr ⟨k + 1, o', by simpa using h5, by omega, h7⟩
    · cases k with
      | zero =>
        simp only [List.getElem?_cons_zero, Option.some.injEq] at hk
        subst hk
        exact ⟨t, d, fs, a2 _ List.mem_cons_self, fun x hx => a2 x (List.mem_cons_of_mem _ hx), h1, by simpa using h2, h3⟩
      | succ k =>
        obtain ⟨t', d', fs', h5, h6⟩ := a4 k o' (by simpa using hk)
        exact ⟨t', d', fs', by rw [show i + (k + 1) = i + 1 + k by omega]; exact h5, h6⟩
end
def fwdB (l : List Oper) (n : Nat) : Bool := (l.take n).zipIdx.all fun x => x.1.after.toList.all fun e => !Region.binds .any e || Nat.blt e.on x.2
def dstsB (l : List Oper) : Bool := nodupB (l.filterMap (·.dst))
def canonL (n s : Nat) : Array Bool := (List.replicate n true ++ List.replicate (s - n) false).toArray
/-- the region's tail: from the n-th operation on each waits for the one ahead, and for the head -/
def drawB (l : List Oper) (n : Nat) : Bool :=
  Nat.ble n l.length && (Nat.beq n l.length || (Region.sinkB .any l.toArray n && Region.chainB .any l.toArray n)) && fwdB l n && dstsB (l.take n) && Region.seqB .any l.toArray (l.length - n) n (canonL n l.length)
theorem look_junks {t : Nat} {d : D} {tmp : List (Nat × D)} : ∀ {l : List Oper}, look t (junks l tmp) = some d → (d = .junk ∧ ∃ o ∈ l, o.dst = some t) ∨ (look t tmp = some d ∧ ∀ o ∈ l, o.dst ≠ some t)
  | [], h => .inr ⟨h, fun o ho => by simp at ho⟩
  | o :: l, h => by
    unfold junks at h
    cases ho : o.dst with
    | none =>
      rw [ho] at h
      rcases look_junks h with ⟨h1, o', h2, h3⟩ | ⟨h1, h2⟩
      · exact .inl ⟨h1, o', List.mem_cons_of_mem _ h2, h3⟩
      · exact .inr ⟨h1, fun o' ho' => by
          rcases List.mem_cons.1 ho' with rfl | ho'
          · rw [ho]; simp
          · exact h2 o' ho'⟩
    | some s =>
      rw [ho] at h
      have h' : cond (Nat.beq s t) (some .junk) (look t (junks l tmp)) = some d := h
      cases hb : Nat.beq s t with
      | true => rw [hb] at h'; cases h'; have := Nat.eq_of_beq_eq_true hb; subst this; exact .inl ⟨rfl, o, List.mem_cons_self, ho⟩
      | false =>
        rw [hb] at h'
        rcases look_junks h' with ⟨h1, o', h2, h3⟩ | ⟨h1, h2⟩
        · exact .inl ⟨h1, o', List.mem_cons_of_mem _ h2, h3⟩
        · exact .inr ⟨h1, fun o' ho' => by
            rcases List.mem_cons.1 ho' with rfl | ho'
            · rw [ho]; intro e; cases e; simp at hb
            · exact h2 o' ho'⟩
theorem nodup_dsts : ∀ {l : List Oper}, dstsB l = true → ∀ (i j : Nat) (oi oj : Oper) (t : Nat), l[i]? = some oi → l[j]? = some oj → oi.dst = some t → oj.dst = some t → i = j
  | [], _, i, j, oi, oj, t, h, _, _, _ => by simp at h
  | o :: l, h, i, j, oi, oj, t, hi, hj, di, dj => by
    have hl : dstsB l = true := by
      unfold dstsB at h ⊢
      rw [List.filterMap_cons] at h
      cases ho : o.dst with
      | none => rw [ho] at h; exact h
      | some s => rw [ho] at h; simp only [nodupB, Bool.and_eq_true] at h; exact h.2
    have key : ∀ (k : Nat) (ok : Oper), l[k]? = some ok → o.dst = some t → ok.dst = some t → False := fun k ok hk h1 h2 => by
      unfold dstsB at h
      rw [List.filterMap_cons, h1] at h
      simp only [nodupB, Bool.and_eq_true, List.all_eq_true, Bool.not_eq_true'] at h
      have := h.1 t (List.mem_filterMap.2 ⟨ok, List.mem_of_getElem? hk, h2⟩)
      simp at this
    cases i with
    | zero =>
      simp only [List.getElem?_cons_zero, Option.some.injEq] at hi
      subst hi
      cases j with
      | zero => rfl
      | succ j => exact (key j oj (by simpa using hj) di dj).elim
    | succ i =>
      cases j with
      | zero =>
        simp only [List.getElem?_cons_zero, Option.some.injEq] at hj
        subst hj
        exact (key i oi (by simpa using hi) dj di).elim
      | succ j => exact congrArg (· + 1) (nodup_dsts hl i j oi oj t (by simpa using hi) (by simpa using hj) di dj)
/-- how many of the head are still to come -/
def leftOf (listed : Array Bool) (n : Nat) : Nat := ((List.range n).filter fun i => !listed.getD i false).length
theorem left_zero {listed : Array Bool} {n : Nat} (h : leftOf listed n = 0) : ∀ i, i < n → listed.getD i false = true := fun i hi => by
  have h0 : ((List.range n).filter fun i => !listed.getD i false) = [] := List.eq_nil_of_length_eq_zero h
  have := (List.filter_eq_nil_iff.1 h0) i (List.mem_range.2 hi)
  simpa using this
theorem filter_drop_one {p q : Nat → Bool} : ∀ {l : List Nat} {i : Nat}, l.Nodup → i ∈ l → p i = true → q i = false → (∀ j, j ≠ i → q j = p j) → (l.filter p).length = (l.filter q).length + 1
  | x :: l, i, hn, hi, hp, hq, hs => by
    have hnl := (List.nodup_cons.1 hn)
    by_cases hx : x = i
    · subst hx
      have hsame : l.filter p = l.filter q := List.filter_congr fun j hj => (hs j (fun e => hnl.1 (e ▸ hj))).symm
      rw [List.filter_cons_of_pos hp, List.filter_cons_of_neg (by rw [hq]; decide), hsame]; rfl
    · have hil : i ∈ l := by
        rcases List.mem_cons.1 hi with h | h
        · exact absurd h.symm hx
        · exact h
      have ih := filter_drop_one hnl.2 hil hp hq hs
      cases hpx : p x with
      | true => rw [List.filter_cons_of_pos hpx, List.filter_cons_of_pos (by rw [hs x hx]; exact hpx)]; simp [ih]
      | false => rw [List.filter_cons_of_neg (by rw [hpx]; decide), List.filter_cons_of_neg (by rw [hs x hx, hpx]; decide)]; exact ih
theorem left_set {listed : Array Bool} {n i : Nat} (hi : i < n) (hs : i < listed.size) (h : listed.getD i false = false) : leftOf listed n = leftOf (listed.setIfInBounds i true) n + 1 :=
  filter_drop_one List.nodup_range (List.mem_range.2 hi) (by simpa using h) (by simp [hs]) fun j hj => by simp [Array.getElem?_setIfInBounds_ne (Ne.symm hj)]
section
variable {P : Program} {w0 : World} {I0 : Nat → Prop}
variable {nb sz : Nat} {tmp : List (Nat × D)} {mem : List (Nat × Option M)} {l : List Oper} {n : Nat} {all : List (Nat × Nat × D)} {Q : Exit → Act → World → Prop}
theorem draw_any (hst : StepsOK P l.toArray nb sz (junks (l.take n) tmp) mem (l.take n) 0 all) (hall : ∀ x ∈ all, ∃ o, (l.take n)[x.1]? = some o ∧ o.dst = some x.2.1) (huniq : ∀ x ∈ all, ∀ y ∈ all, x.1 = y.1 → x = y) (hn : n ≤ l.length) (hch : n = l.length ∨ (Region.sinkB .any l.toArray n = true ∧ Region.chainB .any l.toArray n = true)) (hf : fwdB l n = true) (hd : dstsB (l.take n) = true)
    (hseq : Region.seqB .any l.toArray (l.length - n) n (canonL n l.length) = true)
    (hT : ∀ ρ I a w, G w0 I0 ⟨nb, sz, junks (l.take n) tmp, mem⟩ ρ I a w → (∀ x ∈ all, RA ρ nb I w x.2.2 (a.tmps.getD x.2.1 undef)) → wpList P l.toArray Q (l.drop n) a w) :
    ∀ (f : Nat) (listed : Array Bool) (ρ : Rho) (I : Nat → Prop) (a : Act) (w : World), HeadInv .any l.toArray n listed → leftOf listed n = f → G w0 I0 ⟨nb, sz, junks (l.take n) tmp, mem⟩ ρ I a w →
      (∀ x ∈ all, listed.getD x.1 false = true → RA ρ nb I w x.2.2 (a.tmps.getD x.2.1 undef)) → wpAny P .any l.toArray Q (f + (l.length - n)) listed a w := by
  intro f
  induction f with
  | zero =>
    intro listed ρ I a w inv hl g hfacts
    have hlt := left_zero hl
    have hcan : listed = canonL n l.length := by
      have hsz : listed.size = l.length := by have := inv.size; simpa using this
      refine Array.ext (by rw [hsz]; simp [canonL]; omega) fun i h1 h2 => ?_
      by_cases hin : i < n
      · have := hlt i hin
        have e1 : listed.getD i false = listed[i] := by simp [h1]
        rw [e1] at this
        rw [this]
        simp [canonL, List.getElem_append, hin]
      · have := inv.tail i (by omega) (by rw [hsz] at h1; simpa using h1)
        have e1 : listed.getD i true = listed[i] := by simp [h1]
        rw [e1] at this
        rw [this]
        simp [canonL, List.getElem_append, hin]
    have hw := hT ρ I a w g fun x hx => hfacts x hx (by
      obtain ⟨o, ho, _⟩ := hall x hx
      have := (List.getElem?_eq_some_iff.1 ho).1
      rw [List.length_take] at this
      exact hlt _ (by omega))
    subst hcan
    have := wpAny_of_seq (md := .any) (Q' := Q) (l.drop n) n (canonL n l.length) a w (fun j => by simp [List.getElem?_drop]) (by rw [List.length_drop]; exact hseq) hw
    rw [List.length_drop] at this
    rw [Nat.zero_add]
    exact this
  | succ f ih =>
    intro listed ρ I a w inv hl g hfacts
    have hsz : listed.size = l.length := by have := inv.size; simpa using this
    rw [show f + 1 + (l.length - n) = (f + (l.length - n)) + 1 by omega]
    have hex : ∃ i, i < n ∧ listed.getD i false = false := by
      apply Classical.byContradiction
      intro hno
      have : leftOf listed n = 0 := by
        unfold leftOf
        rw [List.filter_eq_nil_iff.2 fun i hi => ?_]; rfl
        intro h
        exact hno ⟨i, List.mem_range.1 hi, by simpa using h⟩
      omega
    have hready : Region.ready .any l.toArray listed ≠ [] := by
      obtain ⟨i, hi, hli⟩ := hex
      induction i using Nat.strongRecOn with
      | _ i ihi =>
        by_cases hlow : ∃ j, j < i ∧ listed.getD j false = false
        · obtain ⟨j, hj, hlj⟩ := hlow
          exact ihi j hj (by omega) hlj
        · refine List.ne_nil_of_mem (a := i) (mem_ready.2 ⟨getD_in (by omega) hli, l[i], by simp, fun e he hb => ?_⟩)
          have h1 := List.all_eq_true.1 hf (l[i], i) (by
            rw [List.mem_zipIdx_iff_getElem?]
            simp [hi])
          have h2 := List.all_eq_true.1 h1 e (Array.mem_toList_iff.2 he)
          simp only [hb, Bool.not_true, Bool.false_or] at h2
          have h3 : e.on < i := by simpa using h2
          cases hle : listed.getD e.on false with
          | true => rfl
          | false => exact absurd ⟨e.on, h3, hle⟩ hlow
    refine ⟨fun h => absurd h hready, fun i hi => ?_⟩
    have hin : i < n := by
      rcases hch with h | ⟨h1, h2⟩
      · obtain ⟨_, oi, hoi, _⟩ := mem_ready.1 hi
        have := (Array.getElem?_eq_some_iff.1 hoi).1
        simp at this
        omega
      · obtain ⟨j, hj, hlj⟩ := hex
        apply Classical.byContradiction
        intro hge
        by_cases hnl : n < l.length
        · exact tail_waits h1 h2 (by simpa using hnl) inv _ j rfl hj (getD_in (by omega) hlj) i (by omega) hi
        · obtain ⟨_, oi, hoi, _⟩ := mem_ready.1 hi
          have := (Array.getElem?_eq_some_iff.1 hoi).1
          simp at this
          omega
    obtain ⟨hun, oi, hoi, hedges⟩ := mem_ready.1 hi
    have hoil : (l.take n)[i]? = some oi := by
      rw [List.getElem?_take, if_pos hin]
      simpa using hoi
    obtain ⟨t, d, fs, hmem, hfs, hdst, htsz, hstep⟩ := hst i oi hoil
    rw [Nat.zero_add] at hmem
    have gdep : G w0 I0 ⟨nb, sz, depF oi (junks (l.take n) tmp) fs, mem⟩ ρ I a w := ⟨g.later, g.lt, g.base, g.old, g.defers, g.sz, fun s e hs => by
      rcases look_dep hs with ⟨j, h1, h2⟩ | h
      · refine hfacts _ (hfs _ h1) ?_
        unfold dependsB at h2
        obtain ⟨ed, he1, he2⟩ := List.any_eq_true.1 h2
        simp only [Bool.and_eq_true] at he2
        have := Nat.eq_of_beq_eq_true he2.2
        have h3 := hedges ed (Array.mem_toList_iff.1 he1) he2.1
        rw [this] at h3
        exact h3
      · exact g.tmp s e h, g.mem, g.inj⟩
    have next : ∀ v w' I', Ext I w I' w' → RA ρ nb I' w' d v → wpAny P .any l.toArray Q (f + (l.length - n)) (listed.setIfInBounds i true) (a.put oi.dst v) w' := by
      intro v w' I' he hv
      have hisz : i < listed.size := by omega
      have hl' := left_set hin hisz (getD_both hun)
      have ge := g.ext he
      refine ih (listed.setIfInBounds i true) ρ I' (a.put oi.dst v) w' (inv.set hi hin) (by omega) ?_ ?_
      · refine ⟨ge.later, ge.lt, ge.base, ge.old, by rw [hdst]; exact ge.defers, by rw [hdst]; simp [Act.put]; exact ge.sz, fun s e hs => ?_, ge.mem, ge.inj⟩
        rw [hdst]
        by_cases hst' : s = t
        · subst hst'
          rcases look_junks hs with ⟨rfl, _⟩ | ⟨_, h2⟩
          · exact .im (.junk _)
          · exact absurd hdst (h2 oi (List.mem_of_getElem? hoil))
        · simp only [Act.put]
          rw [getD_set_other _ _ _ _ _ hst']
          exact ge.tmp s e hs
      · intro x hx hlx
        rw [hdst]
        by_cases hxi : x.1 = i
        · obtain ⟨o, ho, hox⟩ := hall x hx
          rw [hxi, hoil] at ho
          cases ho
          have ht : x.2.1 = t := by rw [hdst] at hox; exact (Option.some.inj hox).symm
          -- two facts of one operation
          have hxe := huniq x hx _ hmem hxi
          simp only [Act.put]
          rw [ht, getD_set_same _ _ _ _ (by rw [g.sz]; exact htsz), hxe]
          exact hv
        · have hlx' : listed.getD x.1 false = true := by rwa [getD_set_ne false (fun e => hxi e.symm)] at hlx
          have hne : x.2.1 ≠ t := by
            intro e
            obtain ⟨o, ho, hox⟩ := hall x hx
            rw [e] at hox
            exact hxi (nodup_dsts hd _ _ _ _ t ho hoil hox hdst)
          simp only [Act.put]
          rw [getD_set_other _ _ _ _ _ hne]
          exact (hfacts x hx hlx').ext (Nat.le_refl _) g.lt he
    unfold wpOp
    simp only [hoi]
    rcases hstep with ⟨hg, hp⟩ | ⟨hg, rfl⟩
    · rw [if_pos (guard_wanted gdep hg)]
      exact .inl (hp w0 I0 ρ I a w _ Q gdep fun v w' I' he hv => next v w' I' he hv)
    · rw [if_neg (by rw [guard_wanted gdep hg]; decide)]
      exact next undef w I (Ext.refl I w) (.im (.junk _))
theorem factsOf_look {t : Nat} {d : D} : ∀ {fs : List (Nat × Nat × D)} {tmp : List (Nat × D)}, look t (factsOf fs tmp) = some d → (∃ j, (j, t, d) ∈ fs) ∨ look t tmp = some d
  | [], _, h => .inr h
  | x :: fs, tmp, h => by
    have h' : cond (Nat.beq x.2.1 t) (some x.2.2) (look t (factsOf fs tmp)) = some d := h
    cases hb : Nat.beq x.2.1 t with
    | true =>
      rw [hb] at h'
      cases h'
      have := Nat.eq_of_beq_eq_true hb
      obtain ⟨j, s, e⟩ := x
      simp only at this
      subst this
      exact .inl ⟨j, List.mem_cons_self⟩
    | false =>
      rw [hb] at h'
      rcases factsOf_look h' with ⟨j, h1⟩ | h
      · exact .inl ⟨j, List.mem_cons_of_mem _ h1⟩
      · exact .inr h
theorem C_draw (n : Nat) {id : Nat} {Kc : Exit → St → Prop} (hm : P.follows .mixedOrders = true) (hB : drawB l n = true)
    (h : Head P l.toArray nb sz (junks (l.take n) tmp) mem (l.take n) 0 [] fun fs => T P l.toArray (l.drop n) ⟨nb, sz, factsOf fs (junks (l.take n) tmp), mem⟩ (Kc .normal)) : C P (.region id l.toArray true) ⟨nb, sz, tmp, mem⟩ Kc := ⟨fun w0 I0 ρ I a w Q g q => by
  simp only [drawB, Bool.and_eq_true, Bool.or_eq_true] at hB
  obtain ⟨⟨⟨⟨hn, hch⟩, hf⟩, hd⟩, hseq⟩ := hB
  have hn := Nat.le_of_ble_eq_true hn
  have hch' : n = l.length ∨ (Region.sinkB .any l.toArray n = true ∧ Region.chainB .any l.toArray n = true) := hch.elim (fun h => .inl (Nat.eq_of_beq_eq_true h)) .inr
  obtain ⟨all, hK, _, hall, hst, huniq⟩ := Head0.steps (fun x hx => by simp at hx) (fun x hx => by simp at hx) h.h
  have hall' : ∀ x ∈ all, ∃ o, (l.take n)[x.1]? = some o ∧ o.dst = some x.2.1 := fun x hx => by
    rcases hall x hx with h | ⟨k, o, h1, h2, h3⟩
    · simp at h
    · exact ⟨o, by rw [h2, Nat.zero_add]; exact h1, h3⟩
  have gd : Ext I w I w.drew := Ext.same (Later.drew (Later.refl w))
  have g0 : G w0 I0 ⟨nb, sz, junks (l.take n) tmp, mem⟩ ρ I a w.drew := by
    have g' := g.ext gd
    exact ⟨g'.later, g'.lt, g'.base, g'.old, g'.defers, g'.sz, fun t d h => by
      rcases look_junks h with ⟨rfl, _⟩ | ⟨h, _⟩
      · exact .im (.junk _)
      · exact g'.tmp t d h, g'.mem, g'.inj⟩
  have inv0 : HeadInv .any l.toArray n (Array.replicate l.toArray.size false) := by
    refine ⟨by simp, fun j oj _ hl => ?_, fun t _ ht => getD_in (by simpa using ht) (getD_replicate_false _ _)⟩
    rw [getD_replicate_false] at hl; cases hl
  have hleft : leftOf (Array.replicate l.toArray.size false) n = n := by
    unfold leftOf
    rw [List.filter_eq_self.2 fun i hi => by rw [getD_replicate_false]; rfl, List.length_range]
  have hA := draw_any (Q := Q) hst hall' huniq hn hch' hf hd hseq (fun ρ I a w g hfacts => hK.h w0 I0 ρ I a w Q ⟨g.later, g.lt, g.base, g.old, g.defers, g.sz, fun t d h => by
      rcases factsOf_look h with ⟨j, hj⟩ | h
      · exact hfacts _ hj
      · exact g.tmp t d h, g.mem, g.inj⟩ fun S' ρ' I' a' w' hk g' => q _ S' ρ' I' a' w' hk g') _ _ ρ I a _ inv0 hleft g0 (fun x _ hl => by rw [getD_replicate_false] at hl; cases hl)
  refine wp_region_any hm ?_
  rw [show n + (l.length - n) = l.toArray.size by simp; omega] at hA
  exact hA⟩
end
end Go.Proofs.Ytifapodobhkdcaa
