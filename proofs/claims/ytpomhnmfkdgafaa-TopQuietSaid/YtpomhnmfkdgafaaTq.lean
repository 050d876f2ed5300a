/- Steps of the walk of TopQuiet: calls of Begin, Do, and of methods that only look. -/
import Derived.Test.YtpomhnmfkdgafaaFst
import Derived.Test.YtpomhnmfkdgafaaAlike
import Derived.Test.YtpomhnmfkdgafaaCameC
namespace Go.Proofs.Ytpomhnmfkdgafaa
open Go.RowKit
set_option linter.unusedVariables false
set_option maxHeartbeats 16000000
set_option linter.unusedSimpArgs false
set_option maxRecDepth 100000
def pairAt (a b : Rng) : List (Nat × Option M) := (0, some ⟨34, 2, 1, [.ptr 10 0, .ptr 13 0]⟩) :: (ringAt 10 11 12 a ++ ringSAt 13 14 15 16 17 b)
section
variable {P : Program} {ops : Array Oper} {rest : List Oper} {x y : Operand} {T' : TypeId} {nb sz : Nat} {tmp : List (Nat × D)} {mem : List (Nat × Option M)} {K : St → Prop} {t : Nat} {ty : TypeId} {pos : String} {af : Array Edge} {gd : Option (Nat × Bool)}
theorem Vw.ptr0 {b size n : Nat} {ty : TypeId} {xs es : List D} (hm : getM b mem = some ⟨ty, size, n, xs⟩) (hv : VwL mem xs es) : Vw mem (.ptr b 0) (.obj es) := Vw.ptr (off := 0) hm hv
theorem go_w {f : Nat} {c : Operand} {args : Array Operand} {ats : Array TypeId} {ds es : List D} {r r' : D} (h : DC P f es r) (k : T P ops rest ⟨nb, sz, (t, r') :: tmp, mem⟩ K) (hc : St.ev ⟨nb, sz, tmp, mem⟩ c = some (.fn f [] []) := by rfl) (hd : St.evs ⟨nb, sz, tmp, mem⟩ args.toList = some ds := by rfl)
    (hv : VwL mem ds es := by (repeat (first | exact VwL.nil | refine VwL.cons (Vw.im rfl) ?_ | refine VwL.cons (Vw.own rfl rfl) ?_ | refine VwL.cons (Vw.own rfl (by first | rfl | exact spots_ids _ _ _ _ _ | exact fly_ids _ _ | exact bools_ids _ _ _ | exact cnts_ids _ _ _)) ?_ | refine VwL.cons (Vw.ptr0 rfl ?_) ?_)) <;> fail)
    (hr : Thin r r' := by first | exact Thin.im rfl | exact Thin.row) (hg : St.guard ⟨nb, sz, tmp, mem⟩ ops ⟨some t, .call { callee := .value c, args := args, argTypes := ats }, ty, pos, af, gd⟩ = some true := by rfl) (ht : Nat.blt t sz = true := by rfl) :
    T P ops (⟨some t, .call { callee := .value c, args := args, argTypes := ats }, ty, pos, af, gd⟩ :: rest) ⟨nb, sz, tmp, mem⟩ K := T_step (P_callV h hc hd rfl hv hr) hg ht k
theorem go_lenSz {n size bytes : Nat} {e : TypeId} {c : Int} [hT : TySlice P T' e size bytes] (k : T P ops rest ⟨nb, sz, (t, .val (.int .i64 c)) :: tmp, mem⟩ K) (hx : St.ev ⟨nb, sz, tmp, mem⟩ x = some (.sized n) := by rfl) (hn : (n : Int) = c := by rfl) (hg : St.guard ⟨nb, sz, tmp, mem⟩ ops ⟨some t, .call { callee := .builtin .len, args := #[x], argTypes := #[T'] }, ty, pos, af, gd⟩ = some true := by rfl) (ht : Nat.blt t sz = true := by rfl) :
    T P ops (⟨some t, .call { callee := .builtin .len, args := #[x], argTypes := #[T'] }, ty, pos, af, gd⟩ :: rest) ⟨nb, sz, tmp, mem⟩ K := T_step (P_lenSz rfl hx hn) hg ht k
theorem go_newP {f : Nat} {c : Operand} {args : Array Operand} {ats : Array TypeId} {ds : List D} {a : Rng} (h : DM P f none 0 [] ds 9 (pairM a a) (.tup [.ptr 0 0, bD true])) (k : T P ops rest ⟨9, sz, (t, .tup [.ptr 0 0, bD true]) :: tmp, pairM a a⟩ K)
    (hc : St.ev ⟨0, sz, tmp, []⟩ c = some (.fn f [] []) := by rfl) (hd : St.evs ⟨0, sz, tmp, []⟩ args.toList = some ds := by rfl) (hds : D.idsL (fun _ => false) ds = true := by rfl) (hg : St.guard ⟨0, sz, tmp, []⟩ ops ⟨some t, .call { callee := .value c, args := args, argTypes := ats }, ty, pos, af, gd⟩ = some true := by rfl) (ht : Nat.blt t sz = true := by rfl) :
    T P ops (⟨some t, .call { callee := .value c, args := args, argTypes := ats }, ty, pos, af, gd⟩ :: rest) ⟨0, sz, tmp, []⟩ K := by
  refine T_dm (fun y => y) h hc hd (RenL.im rfl hds) .nil rfl (fun q hq => by cases hq) (pre := pairM a a) ?_ rfl ?_ (Ren.tup (.cons (Ren.ptr rfl rfl rfl) (.cons (Ren.im rfl) .nil))) rfl rfl rfl hg ht (by show T P ops rest ⟨0 + 9, sz, _, pairM a a ++ [] ++ []⟩ K; rw [List.append_nil, List.append_nil]; exact k)
  · unfold pairM ringAt ringSAt
    simp only [List.cons_append, List.nil_append]
    refine .cons rfl rfl rfl (.cons (Ren.ptr rfl rfl rfl) (.cons (Ren.ptr rfl rfl rfl) .nil)) ?_
    refine .cons rfl rfl rfl ?_ (.cons rfl rfl rfl (RenL.im rfl (spots_ids _ _ _ _ _)) (.cons rfl rfl rfl (RenL.im rfl (fly_ids _ _)) ?_))
    · exact .cons (Ren.own rfl rfl rfl) (.cons (Ren.own rfl rfl rfl) (.cons (Ren.im rfl) (.cons (Ren.im rfl) (.cons (Ren.im rfl) (.cons (Ren.im rfl) (.cons (Ren.im rfl) (.cons (Ren.im rfl) .nil)))))))
    · refine .cons rfl rfl rfl ?_ (.cons rfl rfl rfl (RenL.im rfl (bools_ids _ _ _)) (.cons rfl rfl rfl (RenL.im rfl (bools_ids _ _ _)) (.cons rfl rfl rfl (RenL.im rfl (cnts_ids _ _ _)) (.cons rfl rfl rfl (RenL.im rfl (fly_ids _ _)) .nil))))
      exact .cons (Ren.im rfl) (.cons (Ren.own rfl rfl rfl) (.cons (Ren.own rfl rfl rfl) (.cons (Ren.own rfl rfl rfl) (.cons (Ren.own rfl rfl rfl) (.cons (Ren.im rfl) (.cons (Ren.im rfl) (.cons (Ren.im rfl) (.cons (Ren.im rfl) (.cons (Ren.im rfl) (.cons (Ren.im rfl) .nil))))))))))
  · exact ⟨⟨rfl, rfl, rfl⟩, ⟨rfl, rfl, rfl⟩, ⟨rfl, spots_ids _ _ _ _ _, spots_plain _ _ _ _⟩, ⟨rfl, fly_ids _ _, fly_plain _⟩, ⟨rfl, rfl, rfl⟩, ⟨rfl, bools_ids _ _ _, bools_plain _ _⟩, ⟨rfl, bools_ids _ _ _, bools_plain _ _⟩, ⟨rfl, cnts_ids _ _ _, cnts_plain _ _⟩, ⟨rfl, fly_ids _ _, fly_plain _⟩, trivial⟩
/-- a call of a method of the pair -/
theorem T_P {f s : Nat} {c : Operand} {args : Array Operand} {ats : Array TypeId} {ds : List D} {a a' : Rng} {r : D} (h : ∀ B q, DM P f (some (B, q)) 9 (pairM a a) (.pin B q 0 0 :: ds) 9 (pairM a' a') r) (hs : look s tmp = some (.ptr 0 0))
    (hc : ∀ B q, St.ev ⟨9, sz, (s, .pin B q 0 0) :: tmp, pairM a a⟩ c = some (.fn f [] [])) (hd : ∀ B q, St.evs ⟨9, sz, (s, .pin B q 0 0) :: tmp, pairM a a⟩ args.toList = some (.pin B q 0 0 :: ds)) (hds : D.idsL (fun _ => false) ds = true) (hr1 : ∀ p, r.ids p = true) (hr2 : r.plain = true)
    (hg : ∀ B q, St.guard ⟨9, sz, (s, .pin B q 0 0) :: tmp, pairM a a⟩ ops ⟨some t, .call { callee := .value c, args := args, argTypes := ats }, ty, pos, af, gd⟩ = some true) (ht : Nat.blt t sz = true)
    (kk : T P ops rest ⟨18, sz, (t, r) :: tmp, pairAt a' a' ++ [(0, none), (1, none), (2, none), (3, none), (4, none), (5, none), (6, none), (7, none), (8, none)] ++ pairM a a⟩ K) : T P ops (⟨some t, .call { callee := .value c, args := args, argTypes := ats }, ty, pos, af, gd⟩ :: rest) ⟨9, sz, tmp, pairM a a⟩ K := by
  refine T_dmp (sgP 2 3 5 6 7 8) h hs hc hd (RenL.im rfl hds) rfl rfl (WkM.pair rfl rfl rfl rfl rfl rfl rfl rfl rfl) rfl (pre := pairAt a' a') ?_ rfl ?_ (Ren.im (hr1 _)) (hr1 _) hr2 rfl hg ht kk
  · unfold pairAt ringAt ringSAt
    simp only [List.cons_append, List.nil_append]
    refine .cons rfl rfl rfl (.cons (Ren.ptr rfl rfl rfl) (.cons (Ren.ptr rfl rfl rfl) .nil)) ?_
    refine .cons rfl rfl rfl ?_ (.cons rfl rfl rfl (RenL.im rfl (spots_ids _ _ _ _ _)) (.cons rfl rfl rfl (RenL.im rfl (fly_ids _ _)) ?_))
    · exact .cons (Ren.own rfl rfl rfl) (.cons (Ren.own rfl rfl rfl) (.cons (Ren.im rfl) (.cons (Ren.im rfl) (.cons (Ren.im rfl) (.cons (Ren.im rfl) (.cons (Ren.im rfl) (.cons (Ren.im rfl) .nil)))))))
    · refine .cons rfl rfl rfl ?_ (.cons rfl rfl rfl (RenL.im rfl (bools_ids _ _ _)) (.cons rfl rfl rfl (RenL.im rfl (bools_ids _ _ _)) (.cons rfl rfl rfl (RenL.im rfl (cnts_ids _ _ _)) (.cons rfl rfl rfl (RenL.im rfl (fly_ids _ _)) .nil))))
      exact .cons (Ren.im rfl) (.cons (Ren.own rfl rfl rfl) (.cons (Ren.own rfl rfl rfl) (.cons (Ren.own rfl rfl rfl) (.cons (Ren.own rfl rfl rfl) (.cons (Ren.im rfl) (.cons (Ren.im rfl) (.cons (Ren.im rfl) (.cons (Ren.im rfl) (.cons (Ren.im rfl) (.cons (Ren.im rfl) .nil))))))))))
  · exact ⟨⟨rfl, rfl, rfl⟩, ⟨rfl, rfl, rfl⟩, ⟨rfl, spots_ids _ _ _ _ _, spots_plain _ _ _ _⟩, ⟨rfl, fly_ids _ _, fly_plain _⟩, ⟨rfl, rfl, rfl⟩, ⟨rfl, bools_ids _ _ _, bools_plain _ _⟩, ⟨rfl, bools_ids _ _ _, bools_plain _ _⟩, ⟨rfl, cnts_ids _ _ _, cnts_plain _ _⟩, ⟨rfl, fly_ids _ _, fly_plain _⟩, trivial⟩
end
def sgQ (i j k i4 j1 k1 l1 m1 : Nat) (x : Nat) : Nat := cond (Nat.beq x 1) i (cond (Nat.beq x 4) i4 (sgP j k j1 k1 l1 m1 x))
theorem WkM.pairQ {i j k i4 j1 k1 l1 m1 : Nat} {mem : List (Nat × Option M)} {a b : Rng} (hm : getM 0 mem = some ⟨34, 2, 1, [.ptr i 0, .ptr i4 0]⟩)
    (m0 : getM i mem = some ⟨52, 8, 1, [.own j a.n, .own k a.fly.length, iD a.at_, iD a.sum, bD a.dark, bD a.fresh, bD a.told, iD a.passes]⟩) (m1' : getM j mem = some ⟨54, 3, a.n, spotsD a.n a.act a.blk a.cnt⟩) (m2 : getM k mem = some ⟨49, 2, a.fly.length, flyD a.fly⟩)
    (s0 : getM i4 mem = some ⟨58, 11, 1, [iD b.n, .own j1 b.n, .own k1 b.n, .own l1 b.n, .own m1 b.fly.length, iD b.at_, iD b.sum, bD b.dark, bD b.fresh, bD b.told, iD b.passes]⟩) (s1 : getM j1 mem = some ⟨4, 1, b.n, boolsD b.n b.act⟩) (s2 : getM k1 mem = some ⟨4, 1, b.n, boolsD b.n b.blk⟩) (s3 : getM l1 mem = some ⟨3, 1, b.n, cntsD b.n b.cnt⟩) (s4 : getM m1 mem = some ⟨49, 2, b.fly.length, flyD b.fly⟩) :
    WkM (sgQ i j k i4 j1 k1 l1 m1) 9 mem (pairM a b) := by
  unfold pairM ringAt ringSAt
  simp only [List.cons_append, List.nil_append]
  refine .cons rfl hm rfl (.cons (Ren.ptr rfl (Nat.beq_refl i) rfl) (.cons (Ren.ptr rfl (Nat.beq_refl i4) rfl) .nil)) ?_
  refine .cons rfl m0 rfl ?_ (.cons rfl m1' rfl (RenL.im rfl (spots_ids _ _ _ _ _)) (.cons rfl m2 rfl (RenL.im rfl (fly_ids _ _)) ?_))
  · exact .cons (Ren.own rfl (Nat.beq_refl j) rfl) (.cons (Ren.own rfl (Nat.beq_refl k) rfl) (.cons (Ren.im rfl) (.cons (Ren.im rfl) (.cons (Ren.im rfl) (.cons (Ren.im rfl) (.cons (Ren.im rfl) (.cons (Ren.im rfl) .nil)))))))
  · refine .cons rfl s0 rfl ?_ (.cons rfl s1 rfl (RenL.im rfl (bools_ids _ _ _)) (.cons rfl s2 rfl (RenL.im rfl (bools_ids _ _ _)) (.cons rfl s3 rfl (RenL.im rfl (cnts_ids _ _ _)) (.cons rfl s4 rfl (RenL.im rfl (fly_ids _ _)) .nil))))
    exact .cons (Ren.im rfl) (.cons (Ren.own rfl (Nat.beq_refl j1) rfl) (.cons (Ren.own rfl (Nat.beq_refl k1) rfl) (.cons (Ren.own rfl (Nat.beq_refl l1) rfl) (.cons (Ren.own rfl (Nat.beq_refl m1) rfl) (.cons (Ren.im rfl) (.cons (Ren.im rfl) (.cons (Ren.im rfl) (.cons (Ren.im rfl) (.cons (Ren.im rfl) (.cons (Ren.im rfl) .nil))))))))))
/-- the rings and the count behind the first k acts -/
def stN (n : Nat) (l : List (Int × Int × Int)) : Nat → Rng × Nat
  | 0 => (ring0 n, 0)
  | k + 1 => match l[k]? with
    | some a => topStep (stN n l k) a
    | none => stN n l k
theorem stN_succ {n k : Nat} {l : List (Int × Int × Int)} (h : k < l.length) : stN n l (k + 1) = topStep (stN n l k) l[k] := by
  show (match l[k]? with
    | some a => topStep (stN n l k) a
    | none => stN n l k) = _
  rw [List.getElem?_eq_getElem h]
end Go.Proofs.Ytpomhnmfkdgafaa
