/- The ring of package quiet in memory: what its methods that only look answer, and its method Send. -/
import Derived.Test.YtpomhnmfkdgafaaDmV
namespace Go.Proofs.Ytpomhnmfkdgafaa
open Go.RowKit
set_option linter.unusedVariables false
set_option maxHeartbeats 16000000
set_option linter.unusedSimpArgs false
set_option maxRecDepth 100000
instance : TyPtr Try.prog 31 := ⟨by kernel_rfl⟩
instance : TyPtr Try.prog 32 := ⟨by kernel_rfl⟩
instance : TyPtr Try.prog 23 := ⟨by kernel_rfl⟩
/-! ### steps of the walk -/
section
variable {P : Program} {ops : Array Oper} {rest : List Oper} {nb sz : Nat} {tmp : List (Nat × D)} {mem : List (Nat × Option M)} {K : St → Prop} {t : Nat} {ty T' T2 : TypeId} {pos : String} {af : Array Edge} {gd : Option (Nat × Bool)} {x y : Operand}
theorem go_v {f : Nat} {c : Operand} {args : Array Operand} {ats : Array TypeId} {ds es : List D} {r r' : D} (h : DC P f es r) (k : T P ops rest ⟨nb, sz, (t, r') :: tmp, mem⟩ K) (hc : St.ev ⟨nb, sz, tmp, mem⟩ c = some (.fn f [] []) := by rfl) (hd : St.evs ⟨nb, sz, tmp, mem⟩ args.toList = some ds := by rfl)
    (hv : VwL mem ds es := by (repeat (first | exact VwL.nil | refine VwL.cons (Vw.im rfl) ?_ | refine VwL.cons (Vw.own rfl rfl) ?_ | refine VwL.cons (Vw.own rfl (by first | rfl | exact idsL_map (fun _ => rfl) _ | exact idsL_flat (fun _ => rfl) _ | exact idsL_rep rfl _)) ?_ | refine VwL.cons (Vw.pin rfl ?_) ?_ | refine VwL.cons (Vw.ptr rfl ?_) ?_)) <;> fail)
    (hr : Thin r r' := by first | exact Thin.im rfl | exact Thin.row) (hg : St.guard ⟨nb, sz, tmp, mem⟩ ops ⟨some t, .call { callee := .value c, args := args, argTypes := ats }, ty, pos, af, gd⟩ = some true := by rfl) (ht : Nat.blt t sz = true := by rfl) :
    T P ops (⟨some t, .call { callee := .value c, args := args, argTypes := ats }, ty, pos, af, gd⟩ :: rest) ⟨nb, sz, tmp, mem⟩ K := T_step (P_callV h hc hd rfl hv hr) hg ht k
theorem go_pin {B c b off : Nat} (k : T P ops rest ⟨nb, sz, (t, .ptr b off) :: tmp, mem⟩ K) (hx : St.ev ⟨nb, sz, tmp, mem⟩ x = some (.pin B c b off) := by rfl) (hg : St.guard ⟨nb, sz, tmp, mem⟩ ops ⟨some t, .nilCheck x, ty, pos, af, gd⟩ = some true := by rfl) (ht : Nat.blt t sz = true := by rfl) :
    T P ops (⟨some t, .nilCheck x, ty, pos, af, gd⟩ :: rest) ⟨nb, sz, tmp, mem⟩ K := T_step (P_nilPin rfl hx) hg ht k
theorem go_eqP {d : D} [hT : TyPtr P T'] (k : T P ops rest ⟨nb, sz, (t, .val (.bool false)) :: tmp, mem⟩ K) (hx : St.ev ⟨nb, sz, tmp, mem⟩ x = some d := by rfl) (hd : isPtr d = true := by rfl) (hg : St.guard ⟨nb, sz, tmp, mem⟩ ops ⟨some t, .binOp .eql T' x (.const (.pointer none)) T2, ty, pos, af, gd⟩ = some true := by rfl) (ht : Nat.blt t sz = true := by rfl) :
    T P ops (⟨some t, .binOp .eql T' x (.const (.pointer none)) T2, ty, pos, af, gd⟩ :: rest) ⟨nb, sz, tmp, mem⟩ K := T_step (P_eqPN rfl hx hd rfl) hg ht k
theorem go_eqN [hT : TyPtr P T'] (k : T P ops rest ⟨nb, sz, (t, .val (.bool true)) :: tmp, mem⟩ K) (hx : St.ev ⟨nb, sz, tmp, mem⟩ x = some (.val (.pointer none)) := by rfl) (hg : St.guard ⟨nb, sz, tmp, mem⟩ ops ⟨some t, .binOp .eql T' x (.const (.pointer none)) T2, ty, pos, af, gd⟩ = some true := by rfl) (ht : Nat.blt t sz = true := by rfl) :
    T P ops (⟨some t, .binOp .eql T' x (.const (.pointer none)) T2, ty, pos, af, gd⟩ :: rest) ⟨nb, sz, tmp, mem⟩ K := T_step (P_eqNN rfl hx rfl) hg ht k
theorem T_st8 {b off sz' n' : Nat} {ty' : TypeId} {d e1 e2 e3 e4 e5 e6 e7 e8 : D} {xs : List D} (hx : St.ev ⟨nb, sz, tmp, mem⟩ x = some (.ptr b off)) (hy : St.ev ⟨nb, sz, tmp, mem⟩ y = some d) (hm : getM b mem = some ⟨ty', sz', n', xs⟩) (hp : xs.set off d = [e1, e2, e3, e4, e5, e6, e7, e8]) (hg : St.guard ⟨nb, sz, tmp, mem⟩ ops ⟨none, .store T' x y, ty, pos, af, gd⟩ = some true)
    (hs : (P.info? T').map (·.size) = some 1) (hd : oneD d = true) (hl : Nat.ble (off + 1) 8 = true) (k : T P ops rest ⟨nb, sz, tmp, (b, some ⟨ty', sz', n', [e1, e2, e3, e4, e5, e6, e7, e8]⟩) :: mem⟩ K) : T P ops (⟨none, .store T' x y, ty, pos, af, gd⟩ :: rest) ⟨nb, sz, tmp, mem⟩ K :=
  T_storeOne hx hy hm hg hs hd (by have := congrArg List.length hp; simp only [List.length_set, List.length_cons, List.length_nil] at this; have := Nat.le_of_ble_eq_true hl; omega) hp k
theorem go_st8 {b off sz' n' : Nat} {ty' : TypeId} {d e1 e2 e3 e4 e5 e6 e7 e8 : D} {xs : List D} [TySz P T' 1] (k : T P ops rest ⟨nb, sz, tmp, (b, some ⟨ty', sz', n', [e1, e2, e3, e4, e5, e6, e7, e8]⟩) :: mem⟩ K) (hx : St.ev ⟨nb, sz, tmp, mem⟩ x = some (.ptr b off) := by rfl) (hy : St.ev ⟨nb, sz, tmp, mem⟩ y = some d := by rfl) (hm : getM b mem = some ⟨ty', sz', n', xs⟩ := by rfl) (hp : xs.set off d = [e1, e2, e3, e4, e5, e6, e7, e8] := by rfl) (hg : St.guard ⟨nb, sz, tmp, mem⟩ ops ⟨none, .store T' x y, ty, pos, af, gd⟩ = some true := by rfl)
    (hd : oneD d = true := by rfl) (hl : Nat.ble (off + 1) 8 = true := by rfl) : T P ops (⟨none, .store T' x y, ty, pos, af, gd⟩ :: rest) ⟨nb, sz, tmp, mem⟩ K := T_st8 hx hy hm hp hg TySz.size hd hl k
theorem T_st11 {b off sz' n' : Nat} {ty' : TypeId} {d e1 e2 e3 e4 e5 e6 e7 e8 e9 e10 e11 : D} {xs : List D} (hx : St.ev ⟨nb, sz, tmp, mem⟩ x = some (.ptr b off)) (hy : St.ev ⟨nb, sz, tmp, mem⟩ y = some d) (hm : getM b mem = some ⟨ty', sz', n', xs⟩) (hp : xs.set off d = [e1, e2, e3, e4, e5, e6, e7, e8, e9, e10, e11]) (hg : St.guard ⟨nb, sz, tmp, mem⟩ ops ⟨none, .store T' x y, ty, pos, af, gd⟩ = some true)
    (hs : (P.info? T').map (·.size) = some 1) (hd : oneD d = true) (hl : Nat.ble (off + 1) 11 = true) (k : T P ops rest ⟨nb, sz, tmp, (b, some ⟨ty', sz', n', [e1, e2, e3, e4, e5, e6, e7, e8, e9, e10, e11]⟩) :: mem⟩ K) : T P ops (⟨none, .store T' x y, ty, pos, af, gd⟩ :: rest) ⟨nb, sz, tmp, mem⟩ K :=
  T_storeOne hx hy hm hg hs hd (by have := congrArg List.length hp; simp only [List.length_set, List.length_cons, List.length_nil] at this; have := Nat.le_of_ble_eq_true hl; omega) hp k
theorem go_st11 {b off sz' n' : Nat} {ty' : TypeId} {d e1 e2 e3 e4 e5 e6 e7 e8 e9 e10 e11 : D} {xs : List D} [TySz P T' 1] (k : T P ops rest ⟨nb, sz, tmp, (b, some ⟨ty', sz', n', [e1, e2, e3, e4, e5, e6, e7, e8, e9, e10, e11]⟩) :: mem⟩ K) (hx : St.ev ⟨nb, sz, tmp, mem⟩ x = some (.ptr b off) := by rfl) (hy : St.ev ⟨nb, sz, tmp, mem⟩ y = some d := by rfl) (hm : getM b mem = some ⟨ty', sz', n', xs⟩ := by rfl) (hp : xs.set off d = [e1, e2, e3, e4, e5, e6, e7, e8, e9, e10, e11] := by rfl) (hg : St.guard ⟨nb, sz, tmp, mem⟩ ops ⟨none, .store T' x y, ty, pos, af, gd⟩ = some true := by rfl)
    (hd : oneD d = true := by rfl) (hl : Nat.ble (off + 1) 11 = true := by rfl) : T P ops (⟨none, .store T' x y, ty, pos, af, gd⟩ :: rest) ⟨nb, sz, tmp, mem⟩ K := T_st11 hx hy hm hp hg TySz.size hd hl k
end
/-! ### rows of blocks of m cells -/
theorem blk_get {α : Type} {f : α → List D} {m : Nat} (hf : ∀ x, (f x).length = m) : ∀ (l : List α) (k j : Nat), j < m → (l.flatMap f)[k * m + j]? = (l[k]?).bind fun x => (f x)[j]?
  | [], k, j, h => by simp
  | x :: l, 0, j, h => by
    rw [List.flatMap_cons, Nat.zero_mul, Nat.zero_add, List.getElem?_append_left (by rw [hf]; exact h)]; rfl
  | x :: l, k + 1, j, h => by
    rw [List.flatMap_cons, List.getElem?_append_right (by rw [hf, Nat.add_mul, Nat.one_mul]; omega), hf, show (k + 1) * m + j - m = k * m + j by rw [Nat.add_mul, Nat.one_mul]; omega, blk_get hf l k j h]
    rfl
theorem blk_len {α : Type} {f : α → List D} {m : Nat} (hf : ∀ x, (f x).length = m) : ∀ l : List α, (l.flatMap f).length = l.length * m
  | [] => by simp
  | x :: l => by rw [List.flatMap_cons, List.length_append, hf, blk_len hf l, List.length_cons, Nat.add_mul, Nat.one_mul, Nat.add_comm]
theorem blk_set {f g : Nat → List D} {m n p r : Nat} {v : D} (hf : ∀ x, (f x).length = m) (hg : ∀ x, (g x).length = m) (hp : p < n) (hr : r < m) (h1 : ∀ j, j ≠ p → g j = f j) (h2 : (f p).set r v = g p) : ((List.range n).flatMap f).set (p * m + r) v = (List.range n).flatMap g := by
  apply List.ext_getElem?
  intro q
  have hm : 0 < m := by omega
  have e : q = q / m * m + q % m := by rw [Nat.mul_comm]; exact (Nat.div_add_mod q m).symm
  have hlt := Nat.mod_lt q hm
  have hset : (((List.range n).flatMap f).set (p * m + r) v)[q]? = if p * m + r = q then some v else ((List.range n).flatMap f)[q]? := by
    rw [List.getElem?_set]
    by_cases hq : p * m + r = q
    · rw [if_pos hq, if_pos hq, if_pos]
      rw [blk_len hf, List.length_range]
      have := Nat.mul_le_mul_right m (show p + 1 ≤ n by omega)
      rw [Nat.add_mul, Nat.one_mul] at this
      omega
    · rw [if_neg hq, if_neg hq]
  rw [hset]
  generalize q / m = k at *
  generalize q % m = j at *
  subst e
  rw [blk_get hf _ k j hlt, blk_get hg _ k j hlt]
  by_cases hk : k = p
  · subst hk
    rw [List.getElem?_range hp]
    by_cases hj : j = r
    · subst hj
      rw [if_pos rfl]
      show some v = (g k)[j]?
      rw [← h2, List.getElem?_set_self (by rw [hf]; exact hlt)]
    · rw [if_neg (by omega)]
      show (f k)[j]? = (g k)[j]?
      rw [← h2, List.getElem?_set_ne (Ne.symm hj)]
  · rw [if_neg]
    · by_cases hkn : k < n
      · rw [List.getElem?_range hkn]
        show (f k)[j]? = (g k)[j]?
        rw [h1 k hk]
      · rw [List.getElem?_eq_none (by rw [List.length_range]; omega)]; rfl
    · intro hh
      have h3 : (p * m + r) / m = (k * m + j) / m := by rw [hh]
      rw [Nat.mul_comm p, Nat.mul_comm k, Nat.mul_add_div hm, Nat.mul_add_div hm, Nat.div_eq_of_lt hr, Nat.div_eq_of_lt hlt] at h3
      omega
/-! ### the ring -/
structure Rng where
  n : Nat
  act : Nat → Bool
  blk : Nat → Bool
  cnt : Nat → Int
  fly : List (Int × Int)
  at_ : Nat
  sum : Int
  dark : Bool
  fresh : Bool
  told : Bool
  passes : Nat
def upF {α : Type} (f : Nat → α) (p : Nat) (x : α) (j : Nat) : α := if j = p then x else f j
theorem upF_same {α : Type} (f : Nat → α) (p : Nat) (x : α) : upF f p x p = x := if_pos rfl
theorem upF_other {α : Type} (f : Nat → α) (p : Nat) (x : α) {j : Nat} (h : j ≠ p) : upF f p x j = f j := if_neg h
def spotD (a b : Nat → Bool) (c : Nat → Int) (j : Nat) : List D := [bD (a j), bD (b j), iD (c j)]
def spotsD (n : Nat) (a b : Nat → Bool) (c : Nat → Int) : List D := (List.range n).flatMap (spotD a b c)
def flyD (l : List (Int × Int)) : List D := l.flatMap fun x => [iD x.1, iD x.2]
theorem spots_get {n : Nat} (a b : Nat → Bool) (c : Nat → Int) {p r : Nat} (hp : p < n) (hr : r < 3) : (spotsD n a b c)[((p : Nat) : Int).toNat * 3 + r]? = (spotD a b c p)[r]? := by
  rw [Int.toNat_natCast]
  unfold spotsD
  rw [blk_get (f := spotD a b c) (m := 3) (fun _ => rfl) _ _ _ hr, List.getElem?_range hp]; rfl
theorem spots_len (n : Nat) (a b : Nat → Bool) (c : Nat → Int) : (spotsD n a b c).length = n * 3 := by
  unfold spotsD
  rw [blk_len (f := spotD a b c) (m := 3) (fun _ => rfl), List.length_range]
theorem spots_set {n p r : Nat} {a b a' b' : Nat → Bool} {c c' : Nat → Int} {v : D} (hp : p < n) (hr : r < 3) (h1 : ∀ j, j ≠ p → spotD a' b' c' j = spotD a b c j) (h2 : (spotD a b c p).set r v = spotD a' b' c' p) : (spotsD n a b c).set (((p : Nat) : Int).toNat * 3 + r) v = spotsD n a' b' c' := by
  rw [Int.toNat_natCast]
  exact blk_set (fun _ => rfl) (fun _ => rfl) hp hr h1 h2
theorem spots_cnt {n p : Nat} (a b : Nat → Bool) (c : Nat → Int) (x : Int) (hp : p < n) : (spotsD n a b c).set (((p : Nat) : Int).toNat * 3 + 2) (iD x) = spotsD n a b (upF c p x) :=
  spots_set hp (by omega) (fun j hj => by simp [spotD, upF_other c p x hj]) (by simp [spotD, upF_same])
theorem spots_act {n p : Nat} (a b : Nat → Bool) (c : Nat → Int) (x : Bool) (hp : p < n) : (spotsD n a b c).set (((p : Nat) : Int).toNat * 3 + 0) (bD x) = spotsD n (upF a p x) b c :=
  spots_set hp (by omega) (fun j hj => by simp [spotD, upF_other a p x hj]) (by simp [spotD, upF_same])
theorem spots_blk {n p : Nat} (a b : Nat → Bool) (c : Nat → Int) (x : Bool) (hp : p < n) : (spotsD n a b c).set (((p : Nat) : Int).toNat * 3 + 1) (bD x) = spotsD n a (upF b p x) c :=
  spots_set hp (by omega) (fun j hj => by simp [spotD, upF_other b p x hj]) (by simp [spotD, upF_same])
theorem spots_ids (n : Nat) (a b : Nat → Bool) (c : Nat → Int) (p : Nat → Bool) : D.idsL p (spotsD n a b c) = true := by
  unfold spotsD
  exact idsL_of fun j d h => by
    obtain ⟨k, _, hd⟩ := List.mem_flatMap.1 (List.mem_of_getElem? h)
    simp only [spotD, List.mem_cons, List.not_mem_nil, or_false] at hd
    rcases hd with rfl | rfl | rfl <;> rfl
theorem fly_ids (l : List (Int × Int)) (p : Nat → Bool) : D.idsL p (flyD l) = true := by
  unfold flyD
  exact idsL_of fun j d h => by
    obtain ⟨k, _, hd⟩ := List.mem_flatMap.1 (List.mem_of_getElem? h)
    simp only [List.mem_cons, List.not_mem_nil, or_false] at hd
    rcases hd with rfl | rfl <;> rfl
theorem fly_len (l : List (Int × Int)) : (flyD l).length = l.length * 2 := by
  unfold flyD
  exact blk_len (m := 2) (fun _ => rfl) l
theorem fly_snoc (l : List (Int × Int)) (x y : Int) : flyD l ++ [iD x, iD y] = flyD (l ++ [(x, y)]) := by
  unfold flyD
  rw [List.flatMap_append]; rfl
/-- the program's ring, as it may be looked at -/
def ringO (r : Rng) : D := .obj [.row r.n (spotsD r.n r.act r.blk r.cnt), .row r.fly.length (flyD r.fly), iD r.at_, iD r.sum, bD r.dark, bD r.fresh, bD r.told, iD r.passes]
/-- the program's ring, in the caller's own rows -/
def ringM (r : Rng) : List (Nat × Option M) := [(0, some ⟨52, 8, 1, [.own 1 r.n, .own 2 r.fly.length, iD r.at_, iD r.sum, bD r.dark, bD r.fresh, bD r.told, iD r.passes]⟩), (1, some ⟨54, 3, r.n, spotsD r.n r.act r.blk r.cnt⟩), (2, some ⟨49, 2, r.fly.length, flyD r.fly⟩)]
theorem none_d (r : Rng) (h : 0 < r.n) : DC Try.prog 22 [ringO r] (bD false) := by
  refine DC.of Try.func22 Try.ntmps22 Try.results22 rfl (by decide +kernel) rfl ?_
  repeat (first | refine Z1 ?_ | refine Z2 ?_ | (refine Z3 ?_; (repeat (first | (apply gS; first | refine go_eqP ?_ | refine go_no ?_ | refine go_f ?_ | refine gx ?_ | refine gm ?_ | refine gp ?_))); refine T_nil ?_) | (apply ZK; first | refine Z4 ?_ | refine Z5 ?_) | refine Z6 ?_ | refine Z7 ?_)
  repeat (first | refine kEnd_m ?_ | refine kEnd_f ?_)
  refine kEnd_g ?_ (by first | exact .inl rfl | exact .inr rfl)
  exact Sub.eq rfl rfl
theorem isPlace_y (r : Rng) {p : Nat} (h : p < r.n) : DC Try.prog 36 [ringO r, iD p] (bD true) := by
  refine DC.of Try.func36 Try.ntmps36 Try.results36 rfl (by decide +kernel) rfl ?_
  repeat (first | refine Z1 ?_ | refine Z2 ?_ | (refine Z3 ?_; (repeat (first | (apply gS; first | refine go_no ?_ | refine go_f ?_ | refine gx ?_ | refine gm ?_ | refine gp ?_))); refine T_nil ?_) | (apply ZK; first | refine Z4 ?_ | refine Z5 ?_) | refine Z6 ?_ | refine Z7 ?_)
  repeat (first | refine kEnd_m ?_ | refine kEnd_f ?_)
  refine kEnd_g ?_ (by first | exact .inl rfl | exact .inr rfl)
  exact Sub.eq rfl rfl
theorem isPlace_n (r : Rng) {p : Int} (h : p < 0 ∨ (r.n : Int) ≤ p) : DC Try.prog 36 [ringO r, iD p] (bD false) := by
  by_cases h0 : p < 0
  all_goals
    refine DC.of Try.func36 Try.ntmps36 Try.results36 rfl (by decide +kernel) rfl ?_
    repeat (first | refine Z1 ?_ | refine Z2 ?_ | (refine Z3 ?_; (repeat (first | (apply gS; first | refine go_no ?_ | refine go_f ?_ | refine gx ?_ | refine gm ?_ | refine gp ?_))); refine T_nil ?_) | (apply ZK; first | refine Z4 ?_ | refine Z5 ?_) | refine Z6 ?_ | refine Z7 ?_)
    repeat (first | refine kEnd_m ?_ | refine kEnd_f ?_)
    refine kEnd_g ?_ (by first | exact .inl rfl | exact .inr rfl)
    exact Sub.eq rfl rfl
/-- the end of a method: the ring's rows get their numbers again -/
theorem Wk.ringE {nb sz B c i1 i2 n1 n2 : Nat} {tmp res : List (Nat × D)} {mem : List (Nat × Option M)} {r : Rng} {xs1 xs2 : List D} {d3 d4 d5 d6 d7 d8 : D}
    (hm0 : getM 0 mem = some ⟨52, 8, 1, [.own i1 n1, .own i2 n2, d3, d4, d5, d6, d7, d8]⟩) (hm1 : getM i1 mem = some ⟨54, 3, n1, xs1⟩) (hm2 : getM i2 mem = some ⟨49, 2, n2, xs2⟩)
    (hd : nodupB [0, i1, i2] = true) (hp : look 0 tmp = some (.pin B c 0 0)) (hres : ∀ σ, WkT σ 3 tmp res)
    (e1 : n1 = r.n) (e2 : n2 = r.fly.length) (e3 : d3 = iD r.at_) (e4 : d4 = iD r.sum) (e5 : d5 = bD r.dark) (e6 : d6 = bD r.fresh) (e7 : d7 = bD r.told) (e8 : d8 = iD r.passes) (e9 : xs1 = spotsD r.n r.act r.blk r.cnt) (e10 : xs2 = flyD r.fly) :
    Wk ⟨nb, sz, tmp, mem⟩ ⟨3, sz, (0, .pin B c 0 0) :: res, ringM r⟩ := by
  subst e1 e3 e4 e5 e6 e7 e8 e9 e10
  refine Wk.mk (fun b => cond (Nat.beq b 1) i1 (cond (Nat.beq b 2) i2 b)) (.cons hp (Ren.pin rfl rfl) (hres _)) ?_ ?_
  · unfold ringM
    refine .cons rfl hm0 rfl ?_ (.cons rfl hm1 rfl (RenL.im rfl (spots_ids _ _ _ _ _)) (.cons rfl hm2 e2.symm (RenL.im rfl (fly_ids _ _)) .nil))
    exact .cons (Ren.own rfl (Nat.beq_refl i1) rfl) (.cons (Ren.own rfl (Nat.beq_refl i2) e2.symm) (.cons (Ren.im rfl) (.cons (Ren.im rfl) (.cons (Ren.im rfl) (.cons (Ren.im rfl) (.cons (Ren.im rfl) (.cons (Ren.im rfl) .nil)))))))
  · exact hd
theorem end1 {P : Program} {nb sz B c t : Nat} {tmp : List (Nat × D)} {mem : List (Nat × Option M)} {r : Rng} {d : D} {e : Exit} (hw : Wk ⟨nb, sz, tmp, mem⟩ ⟨3, sz, (0, .pin B c 0 0) :: [(t, d)], ringM r⟩) (ht : Nat.beq 0 t = false) (he : e = .ret ∨ e = .normal) : kEndM P [.tmp t] (some (B, c)) 3 (ringM r) d e ⟨nb, sz, tmp, mem⟩ :=
  kEndM_g hw he (.tmp (d := d) (by show cond (Nat.beq 0 t) _ (cond (Nat.beq t t) _ _) = _; rw [ht, Nat.beq_refl]; rfl) .nil) rfl rfl rfl (fun q hq => by cases hq; rfl)
theorem end2 {P : Program} {nb sz B c t u : Nat} {tmp : List (Nat × D)} {mem : List (Nat × Option M)} {r : Rng} {d1 d2 : D} {e : Exit} (hw : Wk ⟨nb, sz, tmp, mem⟩ ⟨3, sz, (0, .pin B c 0 0) :: [(t, d1), (u, d2)], ringM r⟩) (ht : Nat.beq 0 t = false) (hu : Nat.beq 0 u = false) (htu : Nat.beq t u = false) (he : e = .ret ∨ e = .normal) : kEndM P [.tmp t, .tmp u] (some (B, c)) 3 (ringM r) (.tup [d1, d2]) e ⟨nb, sz, tmp, mem⟩ :=
  kEndM_g hw he (.tmp (d := d1) (by show cond (Nat.beq 0 t) _ (cond (Nat.beq t t) _ _) = _; rw [ht, Nat.beq_refl]; rfl) (.tmp (d := d2) (by show cond (Nat.beq 0 u) _ (cond (Nat.beq t u) _ (cond (Nat.beq u u) _ _)) = _; rw [hu, htu, Nat.beq_refl]; rfl) .nil)) rfl rfl rfl (fun q hq => by cases hq; rfl)
/-! ### Send -/
def errSend (r : Rng) (p q : Int) : Int := if 0 ≤ p ∧ p < r.n ∧ 0 ≤ q ∧ q < r.n then (if r.act p.toNat = true then 0 else 170) else 2
def sendR (r : Rng) (p q : Int) : Rng := if errSend r p q = 0 then { r with cnt := upF r.cnt p.toNat (r.cnt p.toNat + 1), fly := r.fly ++ [(p, q)] } else r
def Few (r : Rng) : Prop := 0 < r.n ∧ r.n ≤ 1000 ∧ r.at_ < r.n ∧ (∀ j, -1000000 ≤ r.cnt j ∧ r.cnt j ≤ 1000000) ∧ -1000000000 ≤ r.sum ∧ r.sum ≤ 1000000000 ∧ r.fly.length ≤ 1000000 ∧ r.passes ≤ 1000000 ∧ ∀ x ∈ r.fly, 0 ≤ x.2 ∧ x.2 < r.n
theorem send_ok (B c : Nat) (r : Rng) (hr : Few r) (p q : Nat) (hp : p < r.n) (hq : q < r.n) (ha : r.act p = true) : DM Try.prog 17 (some (B, c)) 3 (ringM r) [.pin B c 0 0, iD p, iD q] 3 (ringM { r with cnt := upF r.cnt p (r.cnt p + 1), fly := r.fly ++ [((p : Int), (q : Int))] }) (iD 0) := by
  obtain ⟨h1, h2, h3, h4, h5, h6, h7, h8, h9⟩ := hr
  have N := none_d r h1
  have Y1 := isPlace_y r hp
  have Y2 := isPlace_y r hq
  have g0 := spots_get r.act r.blk r.cnt hp (r := 0) (by omega)
  have g2 := spots_get r.act r.blk r.cnt hp (r := 2) (by omega)
  have s2 := spots_cnt r.act r.blk r.cnt (r.cnt p + 1) hp
  have hl := spots_len r.n r.act r.blk r.cnt
  have hb := h4 p
  rw [show (spotD r.act r.blk r.cnt p)[0]? = some (bD (r.act p)) from rfl, ha] at g0
  rw [show (spotD r.act r.blk r.cnt p)[2]? = some (iD (r.cnt p)) from rfl] at g2
  refine DM.of Try.func17 Try.ntmps17 Try.results17 rfl (by decide +kernel) rfl ?_
  repeat (first | refine Z1 ?_ | refine Z2 ?_ | (refine Z3 ?_; (repeat (first | (apply gS; first | refine go_pin ?_ | refine go_v N ?_ | refine go_v Y1 ?_ | refine go_v Y2 ?_ | refine go_no ?_ | refine go_f ?_ | refine gx ?_ | refine gm ?_ | refine gp ?_) | (apply gZ; first | refine go_st8 ?_ | refine go_f ?_ | refine gx ?_ | refine gm ?_))); refine T_nil ?_) | (apply ZK; first | refine Z4 ?_ | refine Z5 ?_) | refine Z6 ?_ | refine Z7 ?_ | refine Z8 ?_ | refine Z9 ?_ | refine ZA ?_ | refine ZB ?_ | refine ZC ?_ | refine ZF ?_)
  exact end1 (Wk.ringE rfl rfl rfl rfl rfl (fun σ => .cons rfl (Ren.im rfl) .nil) rfl (by simp) rfl rfl rfl rfl rfl rfl rfl (fly_snoc _ _ _)) rfl (by first | exact .inl rfl | exact .inr rfl)
end Go.Proofs.Ytpomhnmfkdgafaa
