/- The program's ring: Send's refusals, Idle, Pass. -/
import Derived.Test.YtpomhnmfkdgafaaRg
namespace Go.Proofs.Ytpomhnmfkdgafaa
open Go.RowKit
set_option linter.unusedVariables false
set_option maxHeartbeats 16000000
set_option linter.unusedSimpArgs false
set_option maxRecDepth 100000
section
variable {P : Program} {ops : Array Oper} {o : Oper} {x y : Operand} {T' : TypeId}
variable {sz : Nat} {t : Nat} {op : Op} {ty : TypeId} {pos : String} {af : Array Edge} {gd : Option (Nat × Bool)}
variable {nb0 i : Nat} {bs : Nat → List (Nat × D)} {mem0 : List (Nat × Option M)} {l : List Oper} {KA : Acc → Prop}
variable {fs : Fs} {al : List (Nat × Nat × Al)} {ch : List Lk} {nd : List (Nat × List Nat)}
theorem vpin {j B c b off : Nat} (k : Walk P ops sz bs nb0 mem0 l j ⟨(i, [(t, .ptr b off)]) :: fs, al, ch, (i, []) :: nd⟩ KA) (hx : ∀ nb, St.ev ⟨nb, sz, depX ⟨some t, .nilCheck x, ty, pos, af, gd⟩ (bs i) fs, memR [] (curMem mem0 ch)⟩ x = some (.pin B c b off) := by intro nb; rfl) (hj : i + 1 = j := by simp only [Nat.reduceAdd]; rfl)
    (hg : ∀ nb, St.guard ⟨nb, sz, depX ⟨some t, .nilCheck x, ty, pos, af, gd⟩ (bs i) fs, []⟩ ops ⟨some t, .nilCheck x, ty, pos, af, gd⟩ = some true := by intro nb; rfl) (ht : Nat.blt t sz = true := by rfl) : Walk P ops sz bs nb0 mem0 (⟨some t, .nilCheck x, ty, pos, af, gd⟩ :: l) i ⟨fs, al, ch, nd⟩ KA := by subst hj; exact W_step [] (fun nb => P_nilPin rfl (hx nb)) hg ht k
theorem v8 {j : Nat} {nb' : Nat} {mem' : List (Nat × Option M)} (k : Walk P ops sz bs nb0 mem0 l j ⟨(i, pickT nb0 al ch) :: fs, al, ⟨i, nb', mem', (mem'.take (mem'.length - (curMem mem0 ch).length)).map (·.1)⟩ :: ch, nd⟩ KA) (h : ∀ extra, MS P ops ⟨none, op, ty, pos, af, gd⟩ ⟨pickN nb0 al ch, sz, pickT nb0 al ch ++ (depX ⟨none, op, ty, pos, af, gd⟩ (bs i) fs ++ extra), pickM nb0 mem0 al ch⟩ ⟨nb', sz, pickT nb0 al ch ++ (depX ⟨none, op, ty, pos, af, gd⟩ (bs i) fs ++ extra), mem'⟩ := by
      intro extra; exact ⟨fun _ _ k => T_st8 rfl rfl rfl rfl rfl TySz.size rfl rfl k⟩) (hj : i + 1 = j := by simp only [Nat.reduceAdd]; rfl) (hm : mem'.drop (mem'.length - (curMem mem0 ch).length) = curMem mem0 ch := by rfl) : Walk P ops sz bs nb0 mem0 (⟨none, op, ty, pos, af, gd⟩ :: l) i ⟨fs, al, ch, nd⟩ KA := W_n j h k hj hm
theorem v11 {j : Nat} {nb' : Nat} {mem' : List (Nat × Option M)} (k : Walk P ops sz bs nb0 mem0 l j ⟨(i, pickT nb0 al ch) :: fs, al, ⟨i, nb', mem', (mem'.take (mem'.length - (curMem mem0 ch).length)).map (·.1)⟩ :: ch, nd⟩ KA) (h : ∀ extra, MS P ops ⟨none, op, ty, pos, af, gd⟩ ⟨pickN nb0 al ch, sz, pickT nb0 al ch ++ (depX ⟨none, op, ty, pos, af, gd⟩ (bs i) fs ++ extra), pickM nb0 mem0 al ch⟩ ⟨nb', sz, pickT nb0 al ch ++ (depX ⟨none, op, ty, pos, af, gd⟩ (bs i) fs ++ extra), mem'⟩ := by
      intro extra; exact ⟨fun _ _ k => T_st11 rfl rfl rfl rfl rfl TySz.size rfl rfl k⟩) (hj : i + 1 = j := by simp only [Nat.reduceAdd]; rfl) (hm : mem'.drop (mem'.length - (curMem mem0 ch).length) = curMem mem0 ch := by rfl) : Walk P ops sz bs nb0 mem0 (⟨none, op, ty, pos, af, gd⟩ :: l) i ⟨fs, al, ch, nd⟩ KA := W_n j h k hj hm
end
theorem send_arg (B c : Nat) (r : Rng) (hr : Few r) (p q : Int) (h : ¬ (0 ≤ p ∧ p < r.n ∧ 0 ≤ q ∧ q < r.n)) : DM Try.prog 17 (some (B, c)) 3 (ringM r) [.pin B c 0 0, iD p, iD q] 3 (ringM r) (iD 2) := by
  obtain ⟨h1, h2, h3, h4, h5, h6, h7, h8, h9⟩ := hr
  have N := none_d r h1
  by_cases hp : 0 ≤ p ∧ p < r.n
  · obtain ⟨p', rfl⟩ := Int.eq_ofNat_of_zero_le hp.1
    have Y1 := isPlace_y r (p := p') (by omega)
    have Y2 := isPlace_n r (p := q) (by omega)
    refine DM.of Try.func17 Try.ntmps17 Try.results17 rfl (by decide +kernel) rfl ?_
    repeat (first | refine Z1 ?_ | refine Z2 ?_ | (refine Z3 ?_; (repeat (first | (apply gS; first | refine go_pin ?_ | refine go_v N ?_ | refine go_v Y1 ?_ | refine go_v Y2 ?_ | refine go_no ?_ | refine go_f ?_ | refine gx ?_ | refine gm ?_ | refine gp ?_) | (apply gZ; first | refine go_st8 ?_ | refine go_f ?_ | refine gx ?_ | refine gm ?_))); refine T_nil ?_) | (apply ZK; first | refine Z4 ?_ | refine Z5 ?_) | refine Z6 ?_ | refine Z7 ?_ | refine Z8 ?_ | refine Z9 ?_ | refine ZA ?_ | refine ZB ?_ | refine ZC ?_ | refine ZF ?_)
    exact end1 (Wk.ringE rfl rfl rfl rfl rfl (fun σ => .cons rfl (Ren.im rfl) .nil) rfl rfl rfl rfl rfl rfl rfl rfl rfl rfl) rfl (by first | exact .inl rfl | exact .inr rfl)
  · have Y1 := isPlace_n r (p := p) (by omega)
    refine DM.of Try.func17 Try.ntmps17 Try.results17 rfl (by decide +kernel) rfl ?_
    repeat (first | refine Z1 ?_ | refine Z2 ?_ | (refine Z3 ?_; (repeat (first | (apply gS; first | refine go_pin ?_ | refine go_v N ?_ | refine go_v Y1 ?_ | refine go_no ?_ | refine go_f ?_ | refine gx ?_ | refine gm ?_ | refine gp ?_) | (apply gZ; first | refine go_st8 ?_ | refine go_f ?_ | refine gx ?_ | refine gm ?_))); refine T_nil ?_) | (apply ZK; first | refine Z4 ?_ | refine Z5 ?_) | refine Z6 ?_ | refine Z7 ?_ | refine Z8 ?_ | refine Z9 ?_ | refine ZA ?_ | refine ZB ?_ | refine ZC ?_ | refine ZF ?_)
    exact end1 (Wk.ringE rfl rfl rfl rfl rfl (fun σ => .cons rfl (Ren.im rfl) .nil) rfl rfl rfl rfl rfl rfl rfl rfl rfl rfl) rfl (by first | exact .inl rfl | exact .inr rfl)
theorem send_idle (B c : Nat) (r : Rng) (hr : Few r) (p q : Nat) (hp : p < r.n) (hq : q < r.n) (ha : r.act p = false) : DM Try.prog 17 (some (B, c)) 3 (ringM r) [.pin B c 0 0, iD p, iD q] 3 (ringM r) (iD 170) := by
  obtain ⟨h1, h2, h3, h4, h5, h6, h7, h8, h9⟩ := hr
  have N := none_d r h1
  have Y1 := isPlace_y r hp
  have Y2 := isPlace_y r hq
  have g0 := spots_get r.act r.blk r.cnt hp (r := 0) (by omega)
  rw [show (spotD r.act r.blk r.cnt p)[0]? = some (bD (r.act p)) from rfl, ha] at g0
  refine DM.of Try.func17 Try.ntmps17 Try.results17 rfl (by decide +kernel) rfl ?_
  repeat (first | refine Z1 ?_ | refine Z2 ?_ | (refine Z3 ?_; (repeat (first | (apply gS; first | refine go_pin ?_ | refine go_v N ?_ | refine go_v Y1 ?_ | refine go_v Y2 ?_ | refine go_no ?_ | refine go_f ?_ | refine gx ?_ | refine gm ?_ | refine gp ?_) | (apply gZ; first | refine go_st8 ?_ | refine go_f ?_ | refine gx ?_ | refine gm ?_))); refine T_nil ?_) | (apply ZK; first | refine Z4 ?_ | refine Z5 ?_) | refine Z6 ?_ | refine Z7 ?_ | refine Z8 ?_ | refine Z9 ?_ | refine ZA ?_ | refine ZB ?_ | refine ZC ?_ | refine ZF ?_)
  exact end1 (Wk.ringE rfl rfl rfl rfl rfl (fun σ => .cons rfl (Ren.im rfl) .nil) rfl rfl rfl rfl rfl rfl rfl rfl rfl rfl) rfl (by first | exact .inl rfl | exact .inr rfl)
theorem idle_ok (B c : Nat) (r : Rng) (hr : Few r) (p : Nat) (hp : p < r.n) (ha : r.act p = true) : DM Try.prog 16 (some (B, c)) 3 (ringM r) [.pin B c 0 0, iD p] 3 (ringM { r with act := upF r.act p false }) (iD 0) := by
  obtain ⟨h1, h2, h3, h4, h5, h6, h7, h8, h9⟩ := hr
  have N := none_d r h1
  have Y1 := isPlace_y r hp
  have g0 := spots_get r.act r.blk r.cnt hp (r := 0) (by omega)
  have s0 := spots_act r.act r.blk r.cnt false hp
  have hl := spots_len r.n r.act r.blk r.cnt
  rw [show (spotD r.act r.blk r.cnt p)[0]? = some (bD (r.act p)) from rfl, ha] at g0
  refine DM.of Try.func16 Try.ntmps16 Try.results16 rfl (by decide +kernel) rfl ?_
  repeat (first | refine Z1 ?_ | refine Z2 ?_ | (refine Z3 ?_; (repeat (first | (apply gS; first | refine go_pin ?_ | refine go_v N ?_ | refine go_v Y1 ?_ | refine go_f ?_ | refine gx ?_ | refine gm ?_ | refine gp ?_) | (apply gZ; first | refine go_st8 ?_ | refine go_f ?_ | refine gx ?_ | refine gm ?_))); refine T_nil ?_) | (apply ZK; first | refine Z4 ?_ | refine Z5 ?_) | refine Z6 ?_ | refine Z7 ?_ | refine Z8 ?_ | refine Z9 ?_ | refine ZA ?_ | refine ZB ?_ | refine ZC ?_ | refine ZF ?_)
  exact end1 (Wk.ringE rfl rfl rfl rfl rfl (fun σ => .cons rfl (Ren.im rfl) .nil) rfl rfl rfl rfl rfl rfl rfl rfl rfl rfl) rfl (by first | exact .inl rfl | exact .inr rfl)
theorem idle_ring (B c : Nat) (r : Rng) (hr : Few r) (p : Nat) (hp : p < r.n) (ha : r.act p = false) : DM Try.prog 16 (some (B, c)) 3 (ringM r) [.pin B c 0 0, iD p] 3 (ringM r) (iD 170) := by
  obtain ⟨h1, h2, h3, h4, h5, h6, h7, h8, h9⟩ := hr
  have N := none_d r h1
  have Y1 := isPlace_y r hp
  have g0 := spots_get r.act r.blk r.cnt hp (r := 0) (by omega)
  rw [show (spotD r.act r.blk r.cnt p)[0]? = some (bD (r.act p)) from rfl, ha] at g0
  refine DM.of Try.func16 Try.ntmps16 Try.results16 rfl (by decide +kernel) rfl ?_
  repeat (first | refine Z1 ?_ | refine Z2 ?_ | (refine Z3 ?_; (repeat (first | (apply gS; first | refine go_pin ?_ | refine go_v N ?_ | refine go_v Y1 ?_ | refine go_f ?_ | refine gx ?_ | refine gm ?_ | refine gp ?_) | (apply gZ; first | refine go_st8 ?_ | refine go_f ?_ | refine gx ?_ | refine gm ?_))); refine T_nil ?_) | (apply ZK; first | refine Z4 ?_ | refine Z5 ?_) | refine Z6 ?_ | refine Z7 ?_ | refine Z8 ?_ | refine Z9 ?_ | refine ZA ?_ | refine ZB ?_ | refine ZC ?_ | refine ZF ?_)
  exact end1 (Wk.ringE rfl rfl rfl rfl rfl (fun σ => .cons rfl (Ren.im rfl) .nil) rfl rfl rfl rfl rfl rfl rfl rfl rfl rfl) rfl (by first | exact .inl rfl | exact .inr rfl)
theorem idle_arg (B c : Nat) (r : Rng) (hr : Few r) (p : Int) (hp : ¬ (0 ≤ p ∧ p < r.n)) : DM Try.prog 16 (some (B, c)) 3 (ringM r) [.pin B c 0 0, iD p] 3 (ringM r) (iD 2) := by
  obtain ⟨h1, h2, h3, h4, h5, h6, h7, h8, h9⟩ := hr
  have N := none_d r h1
  have Y1 := isPlace_n r (p := p) (by omega)
  refine DM.of Try.func16 Try.ntmps16 Try.results16 rfl (by decide +kernel) rfl ?_
  repeat (first | refine Z1 ?_ | refine Z2 ?_ | (refine Z3 ?_; (repeat (first | (apply gS; first | refine go_pin ?_ | refine go_v N ?_ | refine go_v Y1 ?_ | refine go_f ?_ | refine gx ?_ | refine gm ?_ | refine gp ?_) | (apply gZ; first | refine go_st8 ?_ | refine go_f ?_ | refine gx ?_ | refine gm ?_))); refine T_nil ?_) | (apply ZK; first | refine Z4 ?_ | refine Z5 ?_) | refine Z6 ?_ | refine Z7 ?_ | refine Z8 ?_ | refine Z9 ?_ | refine ZA ?_ | refine ZB ?_ | refine ZC ?_ | refine ZF ?_)
  exact end1 (Wk.ringE rfl rfl rfl rfl rfl (fun σ => .cons rfl (Ren.im rfl) .nil) rfl rfl rfl rfl rfl rfl rfl rfl rfl rfl) rfl (by first | exact .inl rfl | exact .inr rfl)
end Go.Proofs.Ytpomhnmfkdgafaa
