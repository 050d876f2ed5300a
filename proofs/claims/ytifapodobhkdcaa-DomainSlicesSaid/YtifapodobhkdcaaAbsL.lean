/- The abstract machine: a region that draws its order, with operations that write: the rule is sound (no program in sight). -/
import Derived.Test.YtifapodobhkdcaaAbsK
namespace Go.Proofs.Ytifapodobhkdcaa
open Go.RowKit
set_option linter.unusedVariables false
set_option linter.unusedSimpArgs false
def clean (l : List Oper) (tmp : List (Nat × D)) : List (Nat × D) := tmp.filter fun e => !(l.any fun o => match o.dst with
  | some t => Nat.beq t e.1
  | none => false)
def dep (l : List Oper) (i j : Nat) : Bool := match l[i]? with
  | some o => dependsB o j
  | none => false
def chainOk (l : List Oper) (al : List (Nat × Nat × M)) : List Lk → Bool
  | [] => al.isEmpty
  | [x] => al.all fun y => dep l x.q y.1
  | x :: y :: C => dep l x.q y.q && chainOk l al (y :: C)
/-- operation j writes slot s -/
def wrs (l : List Oper) (j s : Nat) : Bool := match l[j]? with
  | some o => match o.dst with
    | some t => Nat.beq t s
    | none => false
  | none => false
structure Chk (l : List Oper) (ow base : List (Nat × D)) (Z : Acc) : Prop where
  slots : nodupB ((flatX Z.fs []).map (·.1)) = true
  free : (flatX Z.fs []).all (fun e => (look e.1 base).isNone) = true
  chain : chainOk l Z.al Z.ch = true
  apart : Z.nd.all (fun n => Z.ch.all fun x => !Nat.beq n.1 x.q && (dep l n.1 x.q || dep l x.q n.1 || n.2.all fun b => !x.tc.any (Nat.beq b))) = true
  fwd : fwdB l l.length = true
  alidx : Z.al.all (fun x => Z.nd.all (fun n => !Nat.beq n.1 x.1) && Z.ch.all (fun c => !Nat.beq c.q x.1) && Z.fs.all (fun y => !Nat.beq y.1 x.1)) = true
  alslot : Z.al.all (fun x => Z.fs.all fun y => y.2.all (fun e => !Nat.beq e.1 x.2.1) || Z.ch.any fun c => Nat.beq c.q y.1) = true
  nal : nodupB (Z.al.map (·.1)) = true
  nals : nodupB (Z.al.map (·.2.1)) = true
  nfs : nodupB (Z.fs.map (·.1)) = true
  nch : nodupB (Z.ch.map (·.q)) = true
  inb : (Z.ch.all (fun x => Nat.blt x.q l.length) && Z.fs.all (fun x => Nat.blt x.1 l.length)) = true
  alow : Z.al.all (fun x => (look x.2.1 ow).isNone) = true
  wrf : Z.fs.all (fun x => x.2.all fun e => wrs l x.1 e.1 || Z.al.any fun y => Nat.beq y.2.1 e.1) = true
  alfree : Z.al.all (fun x => (look x.2.1 base).isNone) = true
/-- Z came of A by operations from the i-th on -/
structure Le (i : Nat) (A Z : Acc) : Prop where
  fs : ∃ E, Z.fs = E ++ A.fs
  al : ∃ E, Z.al = E ++ A.al ∧ (A.ch ≠ [] → E = [])
  ch : ∃ E : List Lk, Z.ch = E ++ A.ch ∧ ∀ x ∈ E, i ≤ x.q
  nd : ∃ E, Z.nd = E ++ A.nd
section
variable {P : Program} {ops : Array Oper} {nb0 sz i : Nat} {bs : Nat → List (Nat × D)} {mem0 : List (Nat × Option M)} {l : List Oper} {K : Acc → Prop}
theorem Le.refl (i : Nat) (A : Acc) : Le i A A := ⟨⟨[], rfl⟩, ⟨[], rfl, fun _ => rfl⟩, ⟨[], rfl, fun x hx => by simp at hx⟩, ⟨[], rfl⟩⟩
theorem Le.step {o : Oper} {A B Z : Acc} (h : OpOk P ops sz bs nb0 mem0 o i A B) (k : Le (i + 1) B Z) : Le i A Z := by
  obtain ⟨⟨E1, e1⟩, ⟨E2, e2, e2'⟩, ⟨E3, e3, e3'⟩, ⟨E4, e4⟩⟩ := k
  rcases h with ⟨t, d, R, rfl, _⟩ | ⟨t, T', kz, zs, zd, rfl, _, _, _, _, _, hch⟩ | ⟨tf, nb', mem', tc, rfl, _⟩
  · exact ⟨⟨E1 ++ [_], by rw [e1]; simp; rfl⟩, ⟨E2, e2, e2'⟩, ⟨E3, e3, fun x hx => by have := e3' x hx; omega⟩, ⟨E4 ++ [_], by rw [e4]; simp; rfl⟩⟩
  · exact ⟨⟨E1, e1⟩, ⟨E2 ++ [_], by rw [e2]; simp; rfl, fun h => absurd hch h⟩, ⟨E3, e3, fun x hx => by have := e3' x hx; omega⟩, ⟨E4, e4⟩⟩
  · have h2 : E2 = [] := e2' (by simp)
    subst h2
    exact ⟨⟨E1 ++ [_], by rw [e1]; simp; rfl⟩, ⟨[], e2, fun _ => rfl⟩, ⟨E3 ++ [⟨i, nb', mem', tc⟩], by rw [e3]; simp, fun x hx => by
      rcases List.mem_append.1 hx with h | h
      · have := e3' x h; omega
      · simp at h; subst h; exact Nat.le_refl _⟩, ⟨E4, e4⟩⟩
/-- the chain's indexes lie below i -/
def Bd (i : Nat) (A : Acc) : Prop := ∀ x ∈ A.ch, x.q < i
theorem Bd.step {o : Oper} {A B : Acc} (h : OpOk P ops sz bs nb0 mem0 o i A B) (k : Bd i A) : Bd (i + 1) B := by
  rcases h with ⟨t, d, R, rfl, _⟩ | ⟨t, T', kz, zs, zd, rfl, _⟩ | ⟨tf, nb', mem', tc, rfl, _⟩
  · exact fun x hx => Nat.lt_succ_of_lt (k x hx)
  · exact fun x hx => Nat.lt_succ_of_lt (k x hx)
  · intro x hx
    rcases List.mem_cons.1 hx with rfl | hx
    · exact Nat.lt_succ_self _
    · exact Nat.lt_succ_of_lt (k x hx)
/-- each link says what it touched -/
def ChOk (mem0 : List (Nat × Option M)) : List Lk → Prop
  | [] => True
  | x :: C => (∀ b, b ∉ x.tc → getM b x.mem = getM b (curMem mem0 C)) ∧ ChOk mem0 C
theorem ChOk.step {o : Oper} {A B : Acc} (h : OpOk P ops sz bs nb0 mem0 o i A B) (k : ChOk mem0 A.ch) : ChOk mem0 B.ch := by
  rcases h with ⟨t, d, R, rfl, _⟩ | ⟨t, T', kz, zs, zd, rfl, _⟩ | ⟨tf, nb', mem', tc, rfl, _, h2, _⟩
  · exact k
  · exact k
  · exact ⟨h2, k⟩
theorem ChOk.same : ∀ {E C : List Lk}, ChOk mem0 (E ++ C) → ∀ b, (∀ x ∈ E, b ∉ x.tc) → getM b (curMem mem0 (E ++ C)) = getM b (curMem mem0 C)
  | [], C, _, b, _ => rfl
  | x :: E, C, h, b, hb => by
    have h1 := h.1 b (hb x List.mem_cons_self)
    show getM b x.mem = _
    rw [h1]
    exact ChOk.same h.2 b fun y hy => hb y (List.mem_cons_of_mem _ hy)
theorem Walk0.all : ∀ {l : List Oper} {i : Nat} {A : Acc}, Walk0 P ops sz bs nb0 mem0 l i A K → Bd i A → ChOk mem0 A.ch → ∃ Z, K Z ∧ Le i A Z ∧ ChOk mem0 Z.ch ∧
    (∀ k o, l[k]? = some o → ∃ A' B', OpOk P ops sz bs nb0 mem0 o (i + k) A' B' ∧ Le (i + k) A' Z ∧ Le (i + k + 1) B' Z ∧ Bd (i + k) A') ∧
    (∀ x ∈ Z.fs, x ∈ A.fs ∨ ∃ k o A' B', l[k]? = some o ∧ x.1 = i + k ∧ OpOk P ops sz bs nb0 mem0 o (i + k) A' B' ∧ Le (i + k) A' Z ∧ Le (i + k + 1) B' Z ∧ Bd (i + k) A' ∧ x ∈ B'.fs)
  | [], i, A, h, hb, hc => ⟨A, h, Le.refl i A, hc, fun k o hk => by simp at hk, fun x hx => .inl hx⟩
  | o :: l, i, A, ⟨B, h1, h2⟩, hb, hc => by
    obtain ⟨Z, z1, z2, z3, z4, z5⟩ := Walk0.all h2 (hb.step h1) (hc.step h1)
    refine ⟨Z, z1, z2.step h1, z3, fun k o' hk => ?_, fun x hx => ?_⟩
    · cases k with
      | zero =>
        simp only [List.getElem?_cons_zero, Option.some.injEq] at hk
        subst hk
        exact ⟨A, B, h1, z2.step h1, z2, hb⟩
      | succ k =>
        obtain ⟨A', B', h3, h4, h5, h6⟩ := z4 k o' (by simpa using hk)
        rw [show i + 1 + k = i + (k + 1) by omega] at h3 h4 h5 h6
        exact ⟨A', B', h3, h4, h5, h6⟩
    · rcases z5 x hx with h | ⟨k, o', A', B', h3, h4, h5, h6, h7, h8, h9⟩
      · by_cases hxA : x ∈ A.fs
        · exact .inl hxA
        · refine .inr ⟨0, o, A, B, rfl, ?_, h1, z2.step h1, z2, hb, h⟩
          rcases h1 with ⟨t, d, R, rfl, _⟩ | ⟨t, T', kz, zs, zd, rfl, _⟩ | ⟨tf, nb', mem', tc, rfl, _⟩
          · rcases List.mem_cons.1 h with rfl | h
            · rfl
            · exact absurd h hxA
          · exact absurd h hxA
          · rcases List.mem_cons.1 h with rfl | h
            · rfl
            · exact absurd h hxA
      · rw [show i + 1 + k = i + (k + 1) by omega] at h4 h5 h6 h7 h8
        exact .inr ⟨k + 1, o', A', B', by simpa using h3, h4, h5, h6, h7, h8, h9⟩
end
end Go.Proofs.Ytifapodobhkdcaa
