/- The abstract machine: the walk through a region that draws its order, with operations that write (no program in sight). -/
import Derived.Test.YtifapodobhkdcaaAbsJ
namespace Go.Proofs.Ytifapodobhkdcaa
open Go.RowKit
set_option linter.unusedVariables false
set_option linter.unusedSimpArgs false
/-- what the operations that have come know: the operation's index, its slots -/
abbrev Fs := List (Nat × List (Nat × D))
def depX (o : Oper) (base : List (Nat × D)) : Fs → List (Nat × D)
  | [] => base
  | x :: fs => cond (dependsB o x.1) (x.2 ++ depX o base fs) (depX o base fs)
def flatX : Fs → List (Nat × D) → List (Nat × D)
  | [], b => b
  | x :: fs, b => x.2 ++ flatX fs b
/-- an operation of the chain: its index, the next free number, the rows behind it, which it touched -/
structure Lk where
  q : Nat
  nb : Nat
  mem : List (Nat × Option M)
  tc : List Nat
def curNb (nb0 : Nat) : List Lk → Nat
  | [] => nb0
  | x :: _ => x.nb
def curMem (mem0 : List (Nat × Option M)) : List Lk → List (Nat × Option M)
  | [] => mem0
  | x :: _ => x.mem
def memR (R : List Nat) (mem : List (Nat × Option M)) : List (Nat × Option M) := R.map fun b => (b, getM b mem)
theorem getM_memR {R : List Nat} {mem : List (Nat × Option M)} {b : Nat} {m : M} : getM b (memR R mem) = some m → b ∈ R ∧ getM b mem = some m := by
  induction R with
  | nil => intro h; cases h
  | cons c R ih =>
    intro h
    have h' : cond (Nat.beq c b) (getM c mem) (getM b (memR R mem)) = some m := h
    cases hb : Nat.beq c b with
    | true =>
      rw [hb] at h'
      have := Nat.eq_of_beq_eq_true hb
      subst this
      exact ⟨List.mem_cons_self, h'⟩
    | false =>
      rw [hb] at h'
      obtain ⟨h1, h2⟩ := ih h'
      exact ⟨List.mem_cons_of_mem _ h1, h2⟩
structure Acc where
  fs : Fs
  al : List (Nat × Nat × M)
  ch : List Lk
  nd : List (Nat × List Nat)
def pickT (nb0 : Nat) (al : List (Nat × Nat × M)) : List Lk → List (Nat × D)
  | [] => adoptT nb0 al
  | _ :: _ => []
def pickN (nb0 : Nat) (al : List (Nat × Nat × M)) : List Lk → Nat
  | [] => nb0 + al.length
  | x :: _ => x.nb
def pickM (nb0 : Nat) (mem0 : List (Nat × Option M)) (al : List (Nat × Nat × M)) : List Lk → List (Nat × Option M)
  | [] => adoptM nb0 al ++ mem0
  | x :: _ => x.mem
/-- one operation's premise -/
def OpOk (P : Program) (ops : Array Oper) (sz : Nat) (bs : Nat → List (Nat × D)) (nb0 : Nat) (mem0 : List (Nat × Option M)) (o : Oper) (i : Nat) (A B : Acc) : Prop :=
  (∃ t d R, B = ⟨(i, [(t, d)]) :: A.fs, A.al, A.ch, (i, R) :: A.nd⟩ ∧ o.dst = some t ∧ t < sz ∧
    ((∀ nb, St.guard ⟨nb, sz, depX o (bs i) A.fs, []⟩ ops o = some true ∧ PStep P o ⟨nb, sz, depX o (bs i) A.fs, memR R (curMem mem0 A.ch)⟩ d) ∨ ((∀ nb, St.guard ⟨nb, sz, depX o (bs i) A.fs, []⟩ ops o = some false) ∧ d = .tup []))) ∨
  (∃ t T' kz zs zd, B = ⟨A.fs, (i, t, ⟨T', kz, 1, zd⟩) :: A.al, A.ch, A.nd⟩ ∧ o.dst = some t ∧ t < sz ∧ o.guard = none ∧ o.op = .alloc T' ∧ TyZero P T' kz zs zd ∧ A.ch = []) ∨
  (∃ tf nb' mem' tc, B = ⟨(i, tf ++ pickT nb0 A.al A.ch) :: A.fs, A.al, ⟨i, nb', mem', tc⟩ :: A.ch, A.nd⟩ ∧ (∀ x ∈ tf, o.dst = some x.1) ∧ (∀ b, b ∉ tc → getM b mem' = getM b (curMem mem0 A.ch)) ∧
    ∀ extra, T P ops [o] ⟨pickN nb0 A.al A.ch, sz, pickT nb0 A.al A.ch ++ (depX o (bs i) A.fs ++ extra), pickM nb0 mem0 A.al A.ch⟩ fun S' => S' = ⟨nb', sz, tf ++ (pickT nb0 A.al A.ch ++ (depX o (bs i) A.fs ++ extra)), mem'⟩)
def Walk0 (P : Program) (ops : Array Oper) (sz : Nat) (bs : Nat → List (Nat × D)) (nb0 : Nat) (mem0 : List (Nat × Option M)) : List Oper → Nat → Acc → (Acc → Prop) → Prop
  | [], _, A, K => K A
  | o :: l, i, A, K => ∃ B, OpOk P ops sz bs nb0 mem0 o i A B ∧ Walk0 P ops sz bs nb0 mem0 l (i + 1) B K
structure Walk (P : Program) (ops : Array Oper) (sz : Nat) (bs : Nat → List (Nat × D)) (nb0 : Nat) (mem0 : List (Nat × Option M)) (l : List Oper) (i : Nat) (A : Acc) (K : Acc → Prop) : Prop where
  h : Walk0 P ops sz bs nb0 mem0 l i A K
section
variable {P : Program} {ops : Array Oper} {nb0 sz i : Nat} {bs : Nat → List (Nat × D)} {mem0 : List (Nat × Option M)} {l : List Oper} {K : Acc → Prop} {t : Nat} {op : Op} {ty : TypeId} {pos : String} {af : Array Edge} {gd : Option (Nat × Bool)}
variable {fs : Fs} {al : List (Nat × Nat × M)} {ch : List Lk} {nd : List (Nat × List Nat)}
theorem W_nil {A : Acc} (h : K A) : Walk P ops sz bs nb0 mem0 [] i A K := ⟨h⟩
theorem W_step {d : D} (R : List Nat) (h : ∀ nb, PStep P ⟨some t, op, ty, pos, af, gd⟩ ⟨nb, sz, depX ⟨some t, op, ty, pos, af, gd⟩ (bs i) fs, memR R (curMem mem0 ch)⟩ d) (hg : ∀ nb, St.guard ⟨nb, sz, depX ⟨some t, op, ty, pos, af, gd⟩ (bs i) fs, []⟩ ops ⟨some t, op, ty, pos, af, gd⟩ = some true) (ht : Nat.blt t sz = true)
    (k : Walk P ops sz bs nb0 mem0 l (i + 1) ⟨(i, [(t, d)]) :: fs, al, ch, (i, R) :: nd⟩ K) : Walk P ops sz bs nb0 mem0 (⟨some t, op, ty, pos, af, gd⟩ :: l) i ⟨fs, al, ch, nd⟩ K :=
  ⟨⟨_, .inl ⟨t, d, R, rfl, rfl, by simpa using ht, .inl fun nb => ⟨hg nb, h nb⟩⟩, k.h⟩⟩
theorem W_pass (hg : ∀ nb, St.guard ⟨nb, sz, depX ⟨some t, op, ty, pos, af, gd⟩ (bs i) fs, []⟩ ops ⟨some t, op, ty, pos, af, gd⟩ = some false) (ht : Nat.blt t sz = true)
    (k : Walk P ops sz bs nb0 mem0 l (i + 1) ⟨(i, [(t, .tup [])]) :: fs, al, ch, (i, []) :: nd⟩ K) : Walk P ops sz bs nb0 mem0 (⟨some t, op, ty, pos, af, gd⟩ :: l) i ⟨fs, al, ch, nd⟩ K :=
  ⟨⟨_, .inl ⟨t, .tup [], [], rfl, rfl, by simpa using ht, .inr ⟨hg, rfl⟩⟩, k.h⟩⟩
theorem W_alloc {T' : TypeId} {kz : Nat} {zs : List Value} {zd : List D} [hz : TyZero P T' kz zs zd] (ht : Nat.blt t sz = true)
    (k : Walk P ops sz bs nb0 mem0 l (i + 1) ⟨fs, (i, t, ⟨T', kz, 1, zd⟩) :: al, [], nd⟩ K) : Walk P ops sz bs nb0 mem0 (⟨some t, .alloc T', ty, pos, af, none⟩ :: l) i ⟨fs, al, [], nd⟩ K :=
  ⟨⟨_, .inr (.inl ⟨t, T', kz, zs, zd, rfl, rfl, by simpa using ht, rfl, rfl, hz, rfl⟩), k.h⟩⟩
theorem tc_ok {mem' mem : List (Nat × Option M)} (h : mem'.drop (mem'.length - mem.length) = mem) : ∀ b, b ∉ (mem'.take (mem'.length - mem.length)).map (·.1) → getM b mem' = getM b mem := by
  intro b hb
  have e : mem' = mem'.take (mem'.length - mem.length) ++ mem := by
    conv => lhs; rw [← List.take_append_drop (mem'.length - mem.length) mem', h]
  rw [e]
  generalize mem'.take (mem'.length - mem.length) = p at hb
  clear e h
  induction p with
  | nil => rfl
  | cons x p ih =>
    simp only [List.map_cons, List.mem_cons, not_or] at hb
    have hx : Nat.beq x.1 b = false := by
      cases h : Nat.beq x.1 b with
      | true => exact absurd (Nat.eq_of_beq_eq_true h).symm hb.1
      | false => rfl
    show cond (Nat.beq x.1 b) x.2 (getM b (p ++ mem)) = getM b mem
    rw [hx]
    exact ih hb.2
/-- an operation of the chain that fills a slot -/
theorem W_chainT {d : D} {nb' : Nat} {mem' : List (Nat × Option M)} (h : ∀ extra, T P ops [⟨some t, op, ty, pos, af, gd⟩] ⟨pickN nb0 al ch, sz, pickT nb0 al ch ++ (depX ⟨some t, op, ty, pos, af, gd⟩ (bs i) fs ++ extra), pickM nb0 mem0 al ch⟩ fun S' => S' = ⟨nb', sz, (t, d) :: (pickT nb0 al ch ++ (depX ⟨some t, op, ty, pos, af, gd⟩ (bs i) fs ++ extra)), mem'⟩)
    (hm : mem'.drop (mem'.length - (curMem mem0 ch).length) = curMem mem0 ch)
    (k : Walk P ops sz bs nb0 mem0 l (i + 1) ⟨(i, (t, d) :: pickT nb0 al ch) :: fs, al, ⟨i, nb', mem', (mem'.take (mem'.length - (curMem mem0 ch).length)).map (·.1)⟩ :: ch, nd⟩ K) : Walk P ops sz bs nb0 mem0 (⟨some t, op, ty, pos, af, gd⟩ :: l) i ⟨fs, al, ch, nd⟩ K :=
  ⟨⟨_, .inr (.inr ⟨[(t, d)], nb', mem', _, rfl, fun x hx => by simp at hx; subst hx; rfl, tc_ok hm, h⟩), k.h⟩⟩
/-- an operation of the chain that fills none -/
theorem W_chainN {nb' : Nat} {mem' : List (Nat × Option M)} (h : ∀ extra, T P ops [⟨none, op, ty, pos, af, gd⟩] ⟨pickN nb0 al ch, sz, pickT nb0 al ch ++ (depX ⟨none, op, ty, pos, af, gd⟩ (bs i) fs ++ extra), pickM nb0 mem0 al ch⟩ fun S' => S' = ⟨nb', sz, pickT nb0 al ch ++ (depX ⟨none, op, ty, pos, af, gd⟩ (bs i) fs ++ extra), mem'⟩)
    (hm : mem'.drop (mem'.length - (curMem mem0 ch).length) = curMem mem0 ch)
    (k : Walk P ops sz bs nb0 mem0 l (i + 1) ⟨(i, pickT nb0 al ch) :: fs, al, ⟨i, nb', mem', (mem'.take (mem'.length - (curMem mem0 ch).length)).map (·.1)⟩ :: ch, nd⟩ K) : Walk P ops sz bs nb0 mem0 (⟨none, op, ty, pos, af, gd⟩ :: l) i ⟨fs, al, ch, nd⟩ K :=
  ⟨⟨_, .inr (.inr ⟨[], nb', mem', _, rfl, fun x hx => by simp at hx, tc_ok hm, h⟩), k.h⟩⟩
end
end Go.Proofs.Ytifapodobhkdcaa
