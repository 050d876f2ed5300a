/- An abstract machine for walks: values as data, the memory of the call's own as numbered rows; and its rules for the control of a body (no program in sight). -/
import Derived.Test.YtifapodobhkdcaaMem
import Derived.StillTail
import Derived.Laws.OwnMore
namespace Go.Proofs.Ytifapodobhkdcaa
open Go.RowKit
set_option linter.unusedVariables false

/-- a value as data -/
inductive D where
  | junk
  | val (v : Value)
  | row (n : Nat) (xs : List D)
  | obj (xs : List D)
  | agg (xs : List D)
  | tup (xs : List D)
  | fn (f : Nat) (es cs : List D)
  | ptr (b off : Nat)
  | own (b n : Nat)
  deriving Inhabited
def D.int (n : Int) : D := .val (.int .i64 n)
def D.bool (b : Bool) : D := .val (.bool b)
def D.nil : D := .val (.slice none 0 0)

/-- v reads as d, in cells of blocks of I -/
inductive RC (I : Nat → Prop) (w : World) : D → Value → Prop
  | junk (v : Value) : RC I w .junk v
  | val (v : Value) (h : v.oneCell' = true) : RC I w (.val v) v
  | row {n : Nat} {xs : List D} {ao : Option Addr} {cap b off : Nat} {us : List Value} (hc : n ≤ cap) (hm : cap ≤ maxLen) (hn : ao = none → cap = 0) (hl : xs.length = us.length)
      (ha : 0 < us.length → ao = some ⟨b, off, none⟩ ∧ I b) (hs : ∀ j u, us[j]? = some u → w.cell? ⟨b, off + j, none⟩ = some u)
      (ho : ∀ u ∈ us, u.oneCell' = true)
      (hr : ∀ (j : Nat) (d : D) (u : Value), xs[j]? = some d → us[j]? = some u → RC I w d u) : RC I w (.row n xs) (.slice ao n cap)
  | obj {xs : List D} {b off : Nat} {us : List Value} (hI : I b) (hl : xs.length = us.length)
      (hs : ∀ j u, us[j]? = some u → w.cell? ⟨b, off + j, none⟩ = some u) (ho : ∀ u ∈ us, u.oneCell' = true)
      (hr : ∀ (j : Nat) (d : D) (u : Value), xs[j]? = some d → us[j]? = some u → RC I w d u) : RC I w (.obj xs) (.pointer (some ⟨b, off, none⟩))
  | agg {xs : List D} {us : List Value} (hl : xs.length = us.length) (ho : ∀ u ∈ us, u.oneCell' = true)
      (hr : ∀ (j : Nat) (d : D) (u : Value), xs[j]? = some d → us[j]? = some u → RC I w d u) : RC I w (.agg xs) (.agg us.toArray)
  | tup {xs : List D} {us : List Value} (hl : xs.length = us.length)
      (hr : ∀ (j : Nat) (d : D) (u : Value), xs[j]? = some d → us[j]? = some u → RC I w d u) : RC I w (.tup xs) (.tuple us.toArray)
  | fn {f : Nat} {es cs : List D} {us vs : List Value} (hl : es.length = us.length) (hk : cs.length = vs.length)
      (hr : ∀ (j : Nat) (d : D) (u : Value), es[j]? = some d → us[j]? = some u → RC I w d u)
      (hq : ∀ (j : Nat) (d : D) (u : Value), cs[j]? = some d → vs[j]? = some u → RC I w d u) : RC I w (.fn f es cs) (.func (.func f) us.toArray vs.toArray)

theorem cell_block {w w' : World} {b o : Nat} (h : w'.heap[b]? = w.heap[b]?) : w'.cell? ⟨b, o, none⟩ = w.cell? ⟨b, o, none⟩ := World.cell?_of_block (a := ⟨b, o, none⟩) h
theorem RC.move {I I' : Nat → Prop} {w w' : World} {d : D} {v : Value} (h : RC I w d v) (hI : ∀ b, I b → I' b) (hw : ∀ b, I b → w'.heap[b]? = w.heap[b]?) : RC I' w' d v := by
  induction h with
  | junk v => exact .junk v
  | val v h => exact .val v h
  | row hc hm hn hl ha hs ho hr ih =>
    refine .row hc hm hn hl (fun h => ⟨(ha h).1, hI _ (ha h).2⟩) (fun j u hu => ?_) ho ih
    have h0 : j < _ := (List.getElem?_eq_some_iff.1 hu).1
    rw [cell_block (hw _ (ha (by omega)).2)]; exact hs j u hu
  | obj hi hl hs ho hr ih => exact .obj (hI _ hi) hl (fun j u hu => by rw [cell_block (hw _ hi)]; exact hs j u hu) ho ih
  | agg hl ho hr ih => exact .agg hl ho ih
  | tup hl hr ih => exact .tup hl ih
  | fn hl hk hr hq ih ih2 => exact .fn hl hk ih ih2

/-- the address of a numbered row -/
def sv : Option (Nat × Nat) → Nat → Value
  | none, n => .slice none n n
  | some (g, cap), n => .slice (some ⟨g, 0, none⟩) n cap
abbrev Rho := Nat → Option (Nat × Nat)
/-- v reads as d, or is an address of a numbered row -/
inductive RA (ρ : Rho) (nb : Nat) (I : Nat → Prop) (w : World) : D → Value → Prop
  | im {d : D} {v : Value} (h : RC I w d v) : RA ρ nb I w d v
  | ptr {b off g cap : Nat} (hb : b < nb) (h : ρ b = some (g, cap)) : RA ρ nb I w (.ptr b off) (.pointer (some ⟨g, off, none⟩))
  | own {b n : Nat} (hb : b < nb) (h : ρ b = none → n = 0) : RA ρ nb I w (.own b n) (sv (ρ b) n)
  | agg {xs : List D} {us : List Value} (hl : xs.length = us.length) (ho : ∀ u ∈ us, u.oneCell' = true)
      (hr : ∀ (j : Nat) (d : D) (u : Value), xs[j]? = some d → us[j]? = some u → RA ρ nb I w d u) : RA ρ nb I w (.agg xs) (.agg us.toArray)
  | tup {xs : List D} {us : List Value} (hl : xs.length = us.length)
      (hr : ∀ (j : Nat) (d : D) (u : Value), xs[j]? = some d → us[j]? = some u → RA ρ nb I w d u) : RA ρ nb I w (.tup xs) (.tuple us.toArray)
  | fn {f : Nat} {es cs : List D} {us vs : List Value} (hl : es.length = us.length) (hk : cs.length = vs.length)
      (hr : ∀ (j : Nat) (d : D) (u : Value), es[j]? = some d → us[j]? = some u → RA ρ nb I w d u)
      (hq : ∀ (j : Nat) (d : D) (u : Value), cs[j]? = some d → vs[j]? = some u → RA ρ nb I w d u) : RA ρ nb I w (.fn f es cs) (.func (.func f) us.toArray vs.toArray)
theorem RA.move {ρ : Rho} {nb nb' : Nat} {I I' : Nat → Prop} {w w' : World} {d : D} {v : Value} (h : RA ρ nb I w d v) (hn : nb ≤ nb') (hI : ∀ b, I b → I' b) (hw : ∀ b, I b → w'.heap[b]? = w.heap[b]?) : RA ρ nb' I' w' d v := by
  induction h with
  | im h => exact .im (h.move hI hw)
  | ptr hb h => exact .ptr (Nat.lt_of_lt_of_le hb hn) h
  | own hb h => exact .own (Nat.lt_of_lt_of_le hb hn) h
  | agg hl ho hr ih => exact .agg hl ho ih
  | tup hl hr ih => exact .tup hl ih
  | fn hl hk hr hq ih ih2 => exact .fn hl hk ih ih2

mutual
/-- all numbers of rows in d meet p -/
def D.ids (p : Nat → Bool) : D → Bool
  | .junk | .val _ | .row _ _ | .obj _ => true
  | .agg xs | .tup xs => D.idsL p xs
  | .fn _ es cs => D.idsL p es && D.idsL p cs
  | .ptr b _ | .own b _ => p b
def D.idsL (p : Nat → Bool) : List D → Bool
  | [] => true
  | d :: l => D.ids p d && D.idsL p l
end
theorem idsL_mem {p : Nat → Bool} : ∀ {l : List D}, D.idsL p l = true → ∀ (j : Nat) (d : D), l[j]? = some d → d.ids p = true
  | [], _, j, d, h => by simp at h
  | x :: l, h, j, d, hj => by
    simp only [D.idsL, Bool.and_eq_true] at h
    cases j with
    | zero => simp at hj; subst hj; exact h.1
    | succ j => exact idsL_mem h.2 j d (by simpa using hj)
theorem idsL_of {p : Nat → Bool} : ∀ {l : List D}, (∀ (j : Nat) (d : D), l[j]? = some d → d.ids p = true) → D.idsL p l = true
  | [], _ => rfl
  | x :: l, h => by
    simp only [D.idsL, Bool.and_eq_true]
    exact ⟨h 0 x rfl, idsL_of fun j d hj => h (j + 1) d (by simpa using hj)⟩
/-- the numbers may be dealt out anew, but for those that d has -/
theorem RA.rho {ρ ρ' : Rho} {nb nb' : Nat} {I : Nat → Prop} {w : World} {d : D} {v : Value} (h : RA ρ nb I w d v) (p : Nat → Bool) (hd : d.ids p = true) (hp : ∀ b, b < nb → p b = true → b < nb' ∧ ρ' b = ρ b) : RA ρ' nb' I w d v := by
  induction h with
  | im h => exact .im h
  | ptr hb h => obtain ⟨h1, h2⟩ := hp _ hb hd; exact .ptr h1 (by rw [h2]; exact h)
  | own hb h => obtain ⟨h1, h2⟩ := hp _ hb hd; rw [← h2] at h ⊢; exact .own h1 h
  | agg hl ho hr ih => exact .agg hl ho fun j d u h1 h2 => ih j d u h1 h2 (idsL_mem hd j d h1)
  | tup hl hr ih => exact .tup hl fun j d u h1 h2 => ih j d u h1 h2 (idsL_mem hd j d h1)
  | fn hl hk hr hq ih ih2 =>
    simp only [D.ids, Bool.and_eq_true] at hd
    exact .fn hl hk (fun j d u h1 h2 => ih j d u h1 h2 (idsL_mem hd.1 j d h1)) (fun j d u h1 h2 => ih2 j d u h1 h2 (idsL_mem hd.2 j d h1))
/-- without numbers: plain data -/
theorem RA.closed {ρ : Rho} {nb : Nat} {I : Nat → Prop} {w : World} {d : D} {v : Value} (h : RA ρ nb I w d v) (hd : d.ids (fun _ => false) = true) : RC I w d v := by
  induction h with
  | im h => exact h
  | ptr hb h => cases hd
  | own hb h => cases hd
  | agg hl ho hr ih => exact .agg hl ho fun j d u h1 h2 => ih j d u h1 h2 (idsL_mem hd j d h1)
  | tup hl hr ih => exact .tup hl fun j d u h1 h2 => ih j d u h1 h2 (idsL_mem hd j d h1)
  | fn hl hk hr hq ih ih2 =>
    simp only [D.ids, Bool.and_eq_true] at hd
    exact .fn hl hk (fun j d u h1 h2 => ih j d u h1 h2 (idsL_mem hd.1 j d h1)) (fun j d u h1 h2 => ih2 j d u h1 h2 (idsL_mem hd.2 j d h1))
theorem RA.val_eq {ρ : Rho} {nb : Nat} {I : Nat → Prop} {w : World} {u v : Value} (h : RA ρ nb I w (.val u) v) : v = u := by
  cases h with | im h => cases h; rfl

/-- a row of the call's own: its elements' type, their cells, how many, what its cells hold -/
structure M where
  ty : TypeId
  size : Nat
  n : Nat
  xs : List D
/-- what is known: numbers below nb, sz slots, slots, rows -/
structure St where
  nb : Nat
  sz : Nat
  tmp : List (Nat × D)
  mem : List (Nat × Option M)
def getM (b : Nat) : List (Nat × Option M) → Option M
  | [] => none
  | (c, m) :: l => cond (Nat.beq c b) m (getM b l)
def look (t : Nat) : List (Nat × D) → Option D
  | [] => none
  | (s, d) :: l => cond (Nat.beq s t) (some d) (look t l)
structure MemOk (w0 : World) (ρ : Rho) (nb : Nat) (I : Nat → Prop) (w : World) (b : Nat) (m : M) : Prop where
  id : b < nb
  row : ∃ us, w.ownsRow w0.heap.size m.ty m.size (sv (ρ b) m.n) m.n us ∧ m.xs.length = us.length ∧ (∀ u ∈ us, u.oneCell' = true) ∧ ∀ (j : Nat) (d : D) (u : Value), m.xs[j]? = some d → us[j]? = some u → RA ρ nb I w d u
  not : ∀ g cap, ρ b = some (g, cap) → ¬ I g
structure G (w0 : World) (I0 : Nat → Prop) (S : St) (ρ : Rho) (I : Nat → Prop) (a : Act) (w : World) : Prop where
  later : Later w0 w
  lt : ∀ b, I b → b < w.heap.size
  base : ∀ b, I b → I0 b ∨ w0.heap.size ≤ b
  old : ∀ b, I0 b → I b
  defers : a.defers = []
  sz : a.tmps.size = S.sz
  tmp : ∀ t d, look t S.tmp = some d → RA ρ S.nb I w d (a.tmps.getD t undef)
  mem : ∀ b m, getM b S.mem = some m → MemOk w0 ρ S.nb I w b m
  inj : ∀ b m b' m', getM b S.mem = some m → getM b' S.mem = some m' → ∀ g c c', ρ b = some (g, c) → ρ b' = some (g, c') → b = b'
/-- new blocks alone -/
structure Ext (I : Nat → Prop) (w : World) (I' : Nat → Prop) (w' : World) : Prop where
  more : ∀ b, I b → I' b
  new : ∀ b, I' b → I b ∨ (w.heap.size ≤ b ∧ b < w'.heap.size)
  later : Later w w'
theorem Ext.refl (I : Nat → Prop) (w : World) : Ext I w I w := ⟨fun _ h => h, fun _ h => .inl h, Later.refl w⟩
theorem Ext.same {I : Nat → Prop} {w w' : World} (h : Later w w') : Ext I w I w' := ⟨fun _ h => h, fun _ h => .inl h, h⟩
theorem later_block {w w' : World} (h : Later w w') {b : Nat} (hb : b < w.heap.size) : w'.heap[b]? = w.heap[b]? := h.block b hb
theorem RA.ext {ρ : Rho} {nb nb' : Nat} {I I' : Nat → Prop} {w w' : World} {d : D} {v : Value} (h : RA ρ nb I w d v) (hn : nb ≤ nb') (lt : ∀ b, I b → b < w.heap.size) (e : Ext I w I' w') : RA ρ nb' I' w' d v :=
  h.move hn e.more fun b hb => later_block e.later (lt b hb)
theorem MemOk.ext {w0 : World} {ρ : Rho} {nb : Nat} {I I' : Nat → Prop} {w w' : World} {b : Nat} {m : M} (h : MemOk w0 ρ nb I w b m) (lt : ∀ b, I b → b < w.heap.size) (e : Ext I w I' w') : MemOk w0 ρ nb I' w' b m := by
  obtain ⟨h1, ⟨us, ho, hl, h1c, hr⟩, hn⟩ := h
  refine ⟨h1, ⟨us, ho.kept (row := none) (e.later.grows none) (by cases (sv (ρ b) m.n).ownBlock <;> simp), hl, h1c, fun j d u a b => (hr j d u a b).ext (Nat.le_refl _) lt e⟩, fun g cap hg hI => ?_⟩
  rcases e.new g hI with h | h
  · exact hn g cap hg h
  · have hlt := (ho.lt g (by rw [hg]; rfl)).2
    omega
/-- a step that only makes new blocks, and writes no slot that is known -/
theorem G.ext {w0 : World} {I0 : Nat → Prop} {S : St} {ρ : Rho} {I I' : Nat → Prop} {a : Act} {w w' : World} (g : G w0 I0 S ρ I a w) (e : Ext I w I' w') : G w0 I0 S ρ I' a w' :=
  ⟨g.later.trans e.later, fun b hb => by
      rcases e.new b hb with h | h
      · exact Nat.lt_of_lt_of_le (g.lt b h) (Below.size e.later)
      · exact h.2,
    fun b hb => by
      rcases e.new b hb with h | h
      · exact g.base b h
      · exact .inr (Nat.le_trans (Below.size g.later) h.1),
    fun b hb => e.more b (g.old b hb), g.defers, g.sz, fun t d h => (g.tmp t d h).ext (Nat.le_refl _) g.lt e, fun b m hm => (g.mem b m hm).ext g.lt e, g.inj⟩
def St.put (S : St) (t : Nat) (d : D) : St := { S with tmp := (t, d) :: S.tmp }
theorem getD_set_same {α : Type} (xs : Array α) (t : Nat) (v z : α) (h : t < xs.size) : (xs.setIfInBounds t v).getD t z = v := by simp [h]
theorem getD_set_other {α : Type} (xs : Array α) (t s : Nat) (v z : α) (h : s ≠ t) : (xs.setIfInBounds t v).getD s z = xs.getD s z := by simp [Array.getElem?_setIfInBounds_ne (Ne.symm h)]
theorem G.put {w0 : World} {I0 : Nat → Prop} {S : St} {ρ : Rho} {I : Nat → Prop} {a : Act} {w : World} (g : G w0 I0 S ρ I a w) {t : Nat} (ht : t < S.sz) {d : D} {v : Value} (h : RA ρ S.nb I w d v) : G w0 I0 (S.put t d) ρ I (a.put (some t) v) w := by
  refine ⟨g.later, g.lt, g.base, g.old, g.defers, by simp [g.sz, Act.put, St.put], fun s e he => ?_, g.mem, g.inj⟩
  unfold St.put Act.put
  simp only
  have he' : cond (Nat.beq t s) (some d) (look s S.tmp) = some e := he
  cases hts : Nat.beq t s with
  | true =>
    rw [hts] at he'
    cases he'
    have := Nat.eq_of_beq_eq_true hts
    subst this
    rw [getD_set_same _ _ _ _ (by rw [g.sz]; exact ht)]; exact h
  | false =>
    rw [hts] at he'
    have := Nat.ne_of_beq_eq_false hts
    rw [getD_set_other _ _ _ _ _ (Ne.symm this)]; exact g.tmp s e he'
def constD : Value → Option D
  | .agg us => if us.all (·.oneCell') then some (.agg (us.toList.map D.val)) else none
  | .tuple _ => none
  | v => some (.val v)
def St.ev (S : St) : Operand → Option D
  | .tmp t => look t S.tmp
  | .const v => constD v
  | .func f => some (.fn f [] [])
  | .global _ => none
theorem G.ev {w0 : World} {I0 : Nat → Prop} {S : St} {ρ : Rho} {I : Nat → Prop} {a : Act} {w : World} (g : G w0 I0 S ρ I a w) {x : Operand} {d : D} (h : S.ev x = some d) : RA ρ S.nb I w d (a.eval x) := by
  cases x with
  | tmp t => exact g.tmp t d h
  | const v =>
    refine .im ?_
    cases v <;> simp only [St.ev, constD, Option.some.injEq, reduceCtorEq] at h <;> try (subst h; exact .val _ rfl)
    rename_i us
    by_cases hu : (us.all fun x => x.oneCell') = true
    · rw [if_pos hu] at h
      cases h
      have : (a.eval (.const (.agg us)) : Value) = .agg us.toList.toArray := by simp [Act.eval]
      rw [this]
      have h1 : ∀ u ∈ us.toList, u.oneCell' = true := by
        intro u hu'
        rw [Array.all_eq_true'] at hu
        exact hu u (by simpa using hu')
      refine .agg (by simp) h1 fun j d u hj hu => ?_
      simp only [List.getElem?_map, hu, Option.map_some, Option.some.injEq] at hj
      subst hj
      exact .val _ (h1 u (List.mem_of_getElem? hu))
    · rw [if_neg hu] at h; cases h
  | func f =>
    cases h
    exact .im (.fn (us := []) (vs := []) rfl rfl (fun j d u hj => by simp at hj) (fun j d u hj => by simp at hj))
  | global gl => cases h

/-! ### bodies -/
/-- a list of operations, from what is known -/
structure T (P : Program) (ops : Array Oper) (l : List Oper) (S : St) (K : St → Prop) : Prop where
  h : ∀ w0 I0 ρ I a w Q, G w0 I0 S ρ I a w → (∀ S' ρ' I' a' w', K S' → G w0 I0 S' ρ' I' a' w' → Q Exit.normal a' w') → wpList P ops Q l a w
structure C (P : Program) (c : Code) (S : St) (K : Exit → St → Prop) : Prop where
  h : ∀ w0 I0 ρ I a w Q, G w0 I0 S ρ I a w → (∀ e S' ρ' I' a' w', K e S' → G w0 I0 S' ρ' I' a' w' → Q e a' w') → c.wp P Q a w
def kSeq0 (P : Program) (y : Code) (K : Exit → St → Prop) : Exit → St → Prop
  | .normal, S => C P y S K
  | e, S => K e S
structure kSeq (P : Program) (y : Code) (K : Exit → St → Prop) (e : Exit) (S : St) : Prop where
  h : kSeq0 P y K e S
def kBlock0 (id : Nat) (K : Exit → St → Prop) : Exit → St → Prop
  | .exit i, S => if i = id then K .normal S else K (.exit i) S
  | e, S => K e S
structure kBlock (id : Nat) (K : Exit → St → Prop) (e : Exit) (S : St) : Prop where
  h : kBlock0 id K e S
def kLoop0 (J : St → Prop) (K : Exit → St → Prop) : Exit → St → Prop
  | .normal, S => J S
  | e, S => K e S
structure kLoop (J : St → Prop) (K : Exit → St → Prop) (e : Exit) (S : St) : Prop where
  h : kLoop0 J K e S
section
variable {P : Program} {S : St} {K : Exit → St → Prop}
theorem C_seq {x y : Code} (h : C P x S (kSeq P y K)) : C P (.seq x y) S K := ⟨fun w0 I0 ρ I a w Q g q =>
  wp_seq (h.h w0 I0 ρ I a w _ g fun e S' ρ' I' a' w' hk g' => by
    replace hk := hk.h
    cases e <;> first | exact C.h hk w0 I0 ρ' I' a' w' Q g' q | exact q _ S' ρ' I' a' w' hk g')⟩
theorem C_skip (h : K .normal S) : C P .skip S K := ⟨fun _ _ ρ I a w Q g q => wp_skip (q _ _ ρ I _ _ h g)⟩
theorem C_exit {id : Nat} (h : K (.exit id) S) : C P (.exit id) S K := ⟨fun _ _ ρ I a w Q g q => wp_exit (q _ _ ρ I _ _ h g)⟩
theorem C_ret (h : K .ret S) : C P .ret S K := ⟨fun _ _ ρ I a w Q g q => wp_ret (q _ _ ρ I _ _ h g)⟩
theorem C_block {id : Nat} {c : Code} (h : C P c S (kBlock id K)) : C P (.block id c) S K := ⟨fun w0 I0 ρ I a w Q g q =>
  wp_block (h.h w0 I0 ρ I a w _ g fun e S' ρ' I' a' w' hk g' => by
    replace hk := hk.h
    cases e with
    | exit i =>
      unfold kBlock0 at hk
      unfold Exit.inBlock
      by_cases hi : i = id
      · simp only [hi, if_true] at hk ⊢; exact q _ S' ρ' I' a' w' hk g'
      · simp only [hi, if_false] at hk ⊢; exact q _ S' ρ' I' a' w' hk g'
    | _ => exact q _ S' ρ' I' a' w' hk g')⟩
theorem C_cond {c : Operand} {x y : Code} {t : Bool} (hc : S.ev c = some (.val (.bool t))) (h1 : t = true → C P x S K) (h2 : t = false → C P y S K) : C P (.cond c x y) S K := ⟨fun w0 I0 ρ I a w Q g q =>
  wp_cond_split (g.ev hc).val_eq (fun h => (h1 h).h w0 I0 ρ I a w Q g q) (fun h => (h2 h).h w0 I0 ρ I a w Q g q)⟩
theorem C_cond_t {c : Operand} {x y : Code} (hc : S.ev c = some (.val (.bool true))) (h1 : C P x S K) : C P (.cond c x y) S K := C_cond hc (fun _ => h1) (fun h => by cases h)
theorem C_cond_f {c : Operand} {x y : Code} (hc : S.ev c = some (.val (.bool false))) (h1 : C P y S K) : C P (.cond c x y) S K := C_cond hc (fun h => by cases h) (fun _ => h1)
theorem C_cond_p {p : Prop} [inst : Decidable p] {c : Operand} {x y : Code} (hc : S.ev c = some (.val (.bool (decide p)))) (h1 : p → C P x S K) (h2 : ¬ p → C P y S K) : C P (.cond c x y) S K := C_cond hc (fun h => h1 (of_decide_eq_true h)) (fun h => h2 (of_decide_eq_false h))
theorem kSeq_n {y : Code} (h : C P y S K) : kSeq P y K .normal S := ⟨h⟩
theorem kSeq_x {y : Code} {i : Nat} (h : K (.exit i) S) : kSeq P y K (.exit i) S := ⟨h⟩
theorem kSeq_r {y : Code} (h : K .ret S) : kSeq P y K .ret S := ⟨h⟩
theorem kBlock_n {id : Nat} (h : K .normal S) : kBlock id K .normal S := ⟨h⟩
theorem kBlock_r {id : Nat} (h : K .ret S) : kBlock id K .ret S := ⟨h⟩
theorem kBlock_x {id : Nat} (h : K .normal S) : kBlock id K (.exit id) S := ⟨by show (if id = id then _ else _); rw [if_pos rfl]; exact h⟩
theorem kBlock_y {id i : Nat} (hi : (i == id) = false) (h : K (.exit i) S) : kBlock id K (.exit i) S := ⟨by show (if i = id then _ else _); rw [if_neg (by simpa using hi)]; exact h⟩
theorem kLoop_n {J : St → Prop} (h : J S) : kLoop J K .normal S := ⟨h⟩
theorem kLoop_x {J : St → Prop} {i : Nat} (h : K (.exit i) S) : kLoop J K (.exit i) S := ⟨h⟩
theorem kLoop_r {J : St → Prop} (h : K .ret S) : kLoop J K .ret S := ⟨h⟩
/-- S knows what S' knows -/
def Wk (S S' : St) : Prop := ∀ w0 I0 ρ I a w, G w0 I0 S ρ I a w → ∃ ρ' I', G w0 I0 S' ρ' I' a w
theorem Wk.refl (S : St) : Wk S S := fun _ _ ρ I _ _ g => ⟨ρ, I, g⟩
theorem Wk.trans {a b c : St} (h : Wk a b) (k : Wk b c) : Wk a c := fun w0 I0 ρ I x w g => by
  obtain ⟨ρ', I', g'⟩ := h w0 I0 ρ I x w g
  exact k w0 I0 ρ' I' x w g'
theorem C_wk {c : Code} {S' : St} (hw : Wk S S') (h : C P c S' K) : C P c S K := ⟨fun w0 I0 ρ I a w Q g q => by
  obtain ⟨ρ', I', g'⟩ := hw w0 I0 ρ I a w g
  exact h.h w0 I0 ρ' I' a w Q g' q⟩
theorem C_mono {c : Code} {K' : Exit → St → Prop} (h : C P c S K) (hk : ∀ e S, K e S → K' e S) : C P c S K' := ⟨fun w0 I0 ρ I a w Q g q => h.h w0 I0 ρ I a w Q g fun e S' ρ' I' a' w' h1 g' => q e S' ρ' I' a' w' (hk e S' h1) g'⟩
theorem T_wk {ops : Array Oper} {l : List Oper} {S' : St} {K : St → Prop} (hw : Wk S S') (h : T P ops l S' K) : T P ops l S K := ⟨fun w0 I0 ρ I a w Q g q => by
  obtain ⟨ρ', I', g'⟩ := hw w0 I0 ρ I a w g
  exact h.h w0 I0 ρ' I' a w Q g' q⟩
theorem C_loop {c : Code} {σ : Type} (J : σ → St) (μ : σ → Nat) (s0 : σ) (h0 : Wk S (J s0)) (round : ∀ s, C P c (J s) (kLoop (fun S' => ∃ s', μ s' < μ s ∧ Wk S' (J s')) K)) : C P (.loop c) S K := ⟨fun w0 I0 ρ I a w Q g q => by
  obtain ⟨ρ', I', g'⟩ := h0 w0 I0 ρ I a w g
  let V : Act → World → Nat → Prop := fun a w n => ∃ s ρ I, μ s = n ∧ G w0 I0 (J s) ρ I a w
  have least : ∀ a w, (∃ n, V a w n) → ∃ n, V a w n ∧ ∀ m, V a w m → n ≤ m := by
    intro a w ⟨n, hn⟩
    induction n using Nat.strongRecOn with
    | _ n ih =>
      by_cases h : ∃ m, m < n ∧ V a w m
      · obtain ⟨m, hm, hv⟩ := h; exact ih m hm hv
      · exact ⟨n, hn, fun m hm => by
          apply Classical.byContradiction; intro hlt; exact h ⟨m, by omega, hm⟩⟩
  classical
  let ν : Act → World → Nat := fun a w => if h : ∃ n, V a w n then Classical.choose (least a w h) else 0
  have hν : ∀ a w, (h : ∃ n, V a w n) → V a w (ν a w) ∧ ∀ m, V a w m → ν a w ≤ m := by
    intro a w h
    have e : ν a w = Classical.choose (least a w h) := dif_pos h
    rw [e]; exact Classical.choose_spec (least a w h)
  refine wp_loop (fun a w => ∃ n, V a w n) ν ⟨_, s0, ρ', I', rfl, g'⟩ fun a w hV => ?_
  obtain ⟨⟨s, ρ, I, hs, g⟩, _⟩ := hν a w hV
  refine (round s).h w0 I0 ρ I a w _ g fun e S' ρ' I' a' w' hk g' => ?_
  replace hk := hk.h
  cases e with
  | normal =>
    obtain ⟨s', hlt, hw⟩ := hk
    obtain ⟨ρ2, I2, g2⟩ := hw w0 I0 ρ' I' a' w' g'
    have hV' : V a' w' (μ s') := ⟨s', ρ2, I2, rfl, g2⟩
    refine ⟨⟨_, hV'⟩, ?_⟩
    have := (hν a' w' ⟨_, hV'⟩).2 _ hV'
    omega
  | _ => exact q _ S' ρ' I' a' w' hk g'⟩
end
end Go.Proofs.Ytifapodobhkdcaa
