/- The reference's ring: is, Send, Idle. -/
import Derived.Test.YtpomhnmfkdgafaaRg3
namespace Go.Proofs.Ytpomhnmfkdgafaa
open Go.RowKit
set_option linter.unusedVariables false
set_option maxHeartbeats 16000000
set_option linter.unusedSimpArgs false
set_option maxRecDepth 100000
def onesD (n : Nat) (f : Nat → D) : List D := (List.range n).flatMap fun j => [f j]
theorem ones_get {n p : Nat} (f : Nat → D) (hp : p < n) : (onesD n f)[((p : Nat) : Int).toNat * 1]? = some (f p) := by
  rw [Int.toNat_natCast]
  unfold onesD
  have h := blk_get (f := fun j => [f j]) (m := 1) (fun _ => rfl) (List.range n) p 0 (by omega)
  rw [Nat.add_zero] at h
  rw [h, List.getElem?_range hp]; rfl
theorem ones_len (n : Nat) (f : Nat → D) : (onesD n f).length = n := by
  unfold onesD
  rw [blk_len (f := fun j => [f j]) (m := 1) (fun _ => rfl), List.length_range, Nat.mul_one]
theorem ones_set {n p : Nat} {f g : Nat → D} (hp : p < n) (h1 : ∀ j, j ≠ p → g j = f j) : (onesD n f).set (((p : Nat) : Int).toNat * 1) (g p) = onesD n g := by
  rw [Int.toNat_natCast]
  have h := blk_set (f := fun j => [f j]) (g := fun j => [g j]) (m := 1) (n := n) (p := p) (r := 0) (v := g p) (fun _ => rfl) (fun _ => rfl) hp (by omega) (fun j hj => by rw [h1 j hj]) rfl
  rw [Nat.add_zero] at h
  exact h
theorem ones_setB {n p : Nat} (a : Nat → Bool) (x : Bool) (hp : p < n) : (onesD n fun j => bD (a j)).set (((p : Nat) : Int).toNat * 1) (bD x) = onesD n fun j => bD (upF a p x j) := by
  have h := ones_set (f := fun j => bD (a j)) (g := fun j => bD (upF a p x j)) hp (fun j hj => by rw [upF_other a p x hj])
  simp only [upF_same] at h
  exact h
theorem ones_setI {n p : Nat} (c : Nat → Int) (x : Int) (hp : p < n) : (onesD n fun j => iD (c j)).set (((p : Nat) : Int).toNat * 1) (iD x) = onesD n fun j => iD (upF c p x j) := by
  have h := ones_set (f := fun j => iD (c j)) (g := fun j => iD (upF c p x j)) hp (fun j hj => by rw [upF_other c p x hj])
  simp only [upF_same] at h
  exact h
theorem ones_ids {n : Nat} {f : Nat → D} {p : Nat → Bool} (h : ∀ j, (f j).ids p = true) : D.idsL p (onesD n f) = true := by
  unfold onesD
  exact idsL_of fun j d hj => by
    obtain ⟨k, _, hd⟩ := List.mem_flatMap.1 (List.mem_of_getElem? hj)
    simp only [List.mem_cons, List.not_mem_nil, or_false] at hd
    subst hd; exact h k
def boolsD (n : Nat) (a : Nat → Bool) : List D := onesD n fun j => bD (a j)
def cntsD (n : Nat) (c : Nat → Int) : List D := onesD n fun j => iD (c j)
theorem bools_ids (n : Nat) (a : Nat → Bool) (p : Nat → Bool) : D.idsL p (boolsD n a) = true := ones_ids fun _ => rfl
theorem cnts_ids (n : Nat) (c : Nat → Int) (p : Nat → Bool) : D.idsL p (cntsD n c) = true := ones_ids fun _ => rfl
theorem bools_get {n p : Nat} (a : Nat → Bool) (hp : p < n) : (boolsD n a)[((p : Nat) : Int).toNat * 1]? = some (bD (a p)) := ones_get _ hp
theorem cnts_get {n p : Nat} (c : Nat → Int) (hp : p < n) : (cntsD n c)[((p : Nat) : Int).toNat * 1]? = some (iD (c p)) := ones_get _ hp
theorem bools_set {n p : Nat} (a : Nat → Bool) (x : Bool) (hp : p < n) : (boolsD n a).set (((p : Nat) : Int).toNat * 1) (bD x) = boolsD n (upF a p x) := ones_setB a x hp
theorem cnts_set {n p : Nat} (c : Nat → Int) (x : Int) (hp : p < n) : (cntsD n c).set (((p : Nat) : Int).toNat * 1) (iD x) = cntsD n (upF c p x) := ones_setI c x hp
theorem bools_len (n : Nat) (a : Nat → Bool) : (boolsD n a).length = n := ones_len _ _
theorem cnts_len (n : Nat) (c : Nat → Int) : (cntsD n c).length = n := ones_len _ _
def ringSO (r : Rng) : D := .obj [iD r.n, .row r.n (boolsD r.n r.act), .row r.n (boolsD r.n r.blk), .row r.n (cntsD r.n r.cnt), .row r.fly.length (flyD r.fly), iD r.at_, iD r.sum, bD r.dark, bD r.fresh, bD r.told, iD r.passes]
def ringSM (r : Rng) : List (Nat × Option M) := [(0, some ⟨58, 11, 1, [iD r.n, .own 1 r.n, .own 2 r.n, .own 3 r.n, .own 4 r.fly.length, iD r.at_, iD r.sum, bD r.dark, bD r.fresh, bD r.told, iD r.passes]⟩), (1, some ⟨4, 1, r.n, boolsD r.n r.act⟩), (2, some ⟨4, 1, r.n, boolsD r.n r.blk⟩), (3, some ⟨3, 1, r.n, cntsD r.n r.cnt⟩), (4, some ⟨49, 2, r.fly.length, flyD r.fly⟩)]
theorem Wk.ringSE {nb sz B c i1 i2 i3 i4 n1 n2 n3 n4 : Nat} {tmp res : List (Nat × D)} {mem : List (Nat × Option M)} {r : Rng} {xs1 xs2 xs3 xs4 : List D} {d0 d3 d4 d5 d6 d7 d8 : D}
    (hm0 : getM 0 mem = some ⟨58, 11, 1, [d0, .own i1 n1, .own i2 n2, .own i3 n3, .own i4 n4, d3, d4, d5, d6, d7, d8]⟩) (hm1 : getM i1 mem = some ⟨4, 1, n1, xs1⟩) (hm2 : getM i2 mem = some ⟨4, 1, n2, xs2⟩) (hm3 : getM i3 mem = some ⟨3, 1, n3, xs3⟩) (hm4 : getM i4 mem = some ⟨49, 2, n4, xs4⟩)
    (hd : nodupB [0, i1, i2, i3, i4] = true) (hp : look 0 tmp = some (.pin B c 0 0)) (hres : ∀ σ, WkT σ 5 tmp res)
    (f0 : d0 = iD r.n) (f1 : n1 = r.n) (f2 : n2 = r.n) (f3 : n3 = r.n) (f4 : n4 = r.fly.length) (e3 : d3 = iD r.at_) (e4 : d4 = iD r.sum) (e5 : d5 = bD r.dark) (e6 : d6 = bD r.fresh) (e7 : d7 = bD r.told) (e8 : d8 = iD r.passes) (x1 : xs1 = boolsD r.n r.act) (x2 : xs2 = boolsD r.n r.blk) (x3 : xs3 = cntsD r.n r.cnt) (x4 : xs4 = flyD r.fly) :
    Wk ⟨nb, sz, tmp, mem⟩ ⟨5, sz, (0, .pin B c 0 0) :: res, ringSM r⟩ := by
  subst f0 e3 e4 e5 e6 e7 e8 x1 x2 x3 x4
  refine Wk.mk (fun b => cond (Nat.beq b 1) i1 (cond (Nat.beq b 2) i2 (cond (Nat.beq b 3) i3 (cond (Nat.beq b 4) i4 b)))) (.cons hp (Ren.pin rfl rfl) (hres _)) ?_ ?_
  · unfold ringSM
    refine .cons rfl hm0 rfl ?_ (.cons rfl hm1 f1.symm (RenL.im rfl (bools_ids _ _ _)) (.cons rfl hm2 f2.symm (RenL.im rfl (bools_ids _ _ _)) (.cons rfl hm3 f3.symm (RenL.im rfl (cnts_ids _ _ _)) (.cons rfl hm4 f4.symm (RenL.im rfl (fly_ids _ _)) .nil))))
    exact .cons (Ren.im rfl) (.cons (Ren.own rfl (Nat.beq_refl i1) f1.symm) (.cons (Ren.own rfl (Nat.beq_refl i2) f2.symm) (.cons (Ren.own rfl (Nat.beq_refl i3) f3.symm) (.cons (Ren.own rfl (Nat.beq_refl i4) f4.symm) (.cons (Ren.im rfl) (.cons (Ren.im rfl) (.cons (Ren.im rfl) (.cons (Ren.im rfl) (.cons (Ren.im rfl) (.cons (Ren.im rfl) .nil))))))))))
  · exact hd
theorem endS1 {P : Program} {nb sz B c t : Nat} {tmp : List (Nat × D)} {mem : List (Nat × Option M)} {r : Rng} {d : D} {e : Exit} (hw : Wk ⟨nb, sz, tmp, mem⟩ ⟨5, sz, (0, .pin B c 0 0) :: [(t, d)], ringSM r⟩) (ht : Nat.beq 0 t = false) (he : e = .ret ∨ e = .normal) : kEndM P [.tmp t] (some (B, c)) 5 (ringSM r) d e ⟨nb, sz, tmp, mem⟩ :=
  kEndM_g hw he (.tmp (d := d) (by show cond (Nat.beq 0 t) _ (cond (Nat.beq t t) _ _) = _; rw [ht, Nat.beq_refl]; rfl) .nil) rfl rfl rfl (fun q hq => by cases hq; rfl)
theorem endS2 {P : Program} {nb sz B c t u : Nat} {tmp : List (Nat × D)} {mem : List (Nat × Option M)} {r : Rng} {d1 d2 : D} {e : Exit} (hw : Wk ⟨nb, sz, tmp, mem⟩ ⟨5, sz, (0, .pin B c 0 0) :: [(t, d1), (u, d2)], ringSM r⟩) (ht : Nat.beq 0 t = false) (hu : Nat.beq 0 u = false) (htu : Nat.beq t u = false) (he : e = .ret ∨ e = .normal) : kEndM P [.tmp t, .tmp u] (some (B, c)) 5 (ringSM r) (.tup [d1, d2]) e ⟨nb, sz, tmp, mem⟩ :=
  kEndM_g hw he (.tmp (d := d1) (by show cond (Nat.beq 0 t) _ (cond (Nat.beq t t) _ _) = _; rw [ht, Nat.beq_refl]; rfl) (.tmp (d := d2) (by show cond (Nat.beq 0 u) _ (cond (Nat.beq t u) _ (cond (Nat.beq u u) _ _)) = _; rw [hu, htu, Nat.beq_refl]; rfl) .nil)) rfl rfl rfl (fun q hq => by cases hq; rfl)
theorem is_y (r : Rng) {p : Nat} (h : p < r.n) : DC Try.prog 37 [ringSO r, iD p] (bD true) := by
  refine DC.of Try.func37 Try.ntmps37 Try.results37 rfl (by decide +kernel) rfl ?_
  repeat (first | refine Z1 ?_ | refine Z2 ?_ | (refine Z3 ?_; (repeat (first | (apply gS; first | refine go_no ?_ | refine go_f ?_ | refine gx ?_ | refine gm ?_ | refine gp ?_))); refine T_nil ?_) | (apply ZK; first | refine Z4 ?_ | refine Z5 ?_) | refine Z6 ?_ | refine Z7 ?_)
  repeat (first | refine kEnd_m ?_ | refine kEnd_f ?_)
  refine kEnd_g ?_ (by first | exact .inl rfl | exact .inr rfl)
  exact Sub.eq rfl rfl
theorem is_n (r : Rng) {p : Int} (h : p < 0 ∨ (r.n : Int) ≤ p) : DC Try.prog 37 [ringSO r, iD p] (bD false) := by
  by_cases h0 : p < 0
  all_goals
    refine DC.of Try.func37 Try.ntmps37 Try.results37 rfl (by decide +kernel) rfl ?_
    repeat (first | refine Z1 ?_ | refine Z2 ?_ | (refine Z3 ?_; (repeat (first | (apply gS; first | refine go_no ?_ | refine go_f ?_ | refine gx ?_ | refine gm ?_ | refine gp ?_))); refine T_nil ?_) | (apply ZK; first | refine Z4 ?_ | refine Z5 ?_) | refine Z6 ?_ | refine Z7 ?_)
    repeat (first | refine kEnd_m ?_ | refine kEnd_f ?_)
    refine kEnd_g ?_ (by first | exact .inl rfl | exact .inr rfl)
    exact Sub.eq rfl rfl
theorem sendS_ok (B c : Nat) (r : Rng) (hr : Few r) (p q : Nat) (hp : p < r.n) (hq : q < r.n) (ha : r.act p = true) : DM Try.prog 18 (some (B, c)) 5 (ringSM r) [.pin B c 0 0, iD p, iD q] 5 (ringSM { r with cnt := upF r.cnt p (r.cnt p + 1), fly := r.fly ++ [((p : Int), (q : Int))] }) (iD 0) := by
  obtain ⟨h1, h2, h3, h4, h5, h6, h7, h8, h9⟩ := hr
  have Y1 := is_y r hp
  have Y2 := is_y r hq
  have g0 := bools_get r.act hp
  have g2 := cnts_get r.cnt hp
  have s2 := cnts_set r.cnt (r.cnt p + 1) hp
  have hl := cnts_len r.n r.cnt
  have hb := h4 p
  rw [ha] at g0
  refine DM.of Try.func18 Try.ntmps18 Try.results18 rfl (by decide +kernel) rfl ?_
  repeat (first | refine Z1 ?_ | refine Z2 ?_ | (refine Z3 ?_; (repeat (first | (apply gS; first | refine go_pin ?_ | refine go_v Y1 ?_ | refine go_v Y2 ?_ | refine go_no ?_ | refine go_f ?_ | refine gx ?_ | refine gm ?_ | refine gp ?_) | (apply gZ; first | refine go_st11 ?_ | refine go_f ?_ | refine gx ?_ | refine gm ?_))); refine T_nil ?_) | (apply ZK; first | refine Z4 ?_ | refine Z5 ?_) | refine Z6 ?_ | refine Z7 ?_ | refine Z8 ?_ | refine Z9 ?_ | refine ZA ?_ | refine ZB ?_ | refine ZC ?_ | refine ZF ?_)
  exact endS1 (Wk.ringSE rfl rfl rfl rfl rfl rfl rfl (fun σ => .cons rfl (Ren.im rfl) .nil) rfl rfl rfl rfl (by simp) rfl rfl rfl rfl rfl rfl rfl rfl rfl (fly_snoc _ _ _)) rfl (by first | exact .inl rfl | exact .inr rfl)
end Go.Proofs.Ytpomhnmfkdgafaa
