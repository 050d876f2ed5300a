/- The program's ring: Receive. -/
import Derived.Test.YtpomhnmfkdgafaaDel
import Derived.Test.YtpomhnmfkdgafaaPairs
namespace Go.Proofs.Ytpomhnmfkdgafaa
open Go.RowKit
set_option linter.unusedVariables false
set_option maxHeartbeats 16000000
set_option linter.unusedSimpArgs false
set_option maxRecDepth 100000
section
variable {P : Program} {ops : Array Oper} {rest : List Oper} {nb sz : Nat} {tmp : List (Nat × D)} {mem : List (Nat × Option M)} {K : St → Prop} {t : Nat} {ty : TypeId} {pos : String} {af : Array Edge} {gd : Option (Nat × Bool)}
/-- a call of a function that changes one row of pairs -/
theorem go_del {f i : Nat} {c : Operand} {args : Array Operand} {ats : Array TypeId} {d2 d3 : D} {m m' : Nat} {e : TypeId} {xs xs' : List D} (h : DM P f none 1 [(0, some ⟨e, 2, m, xs⟩)] [.own 0 m, d2, d3] 1 [(0, some ⟨e, 2, m', xs'⟩)] (.own 0 m')) (hx : ∀ q, D.idsL q xs' = true) (hpl : D.plainL xs' = true)
    (k : T P ops rest ⟨nb + 1, sz, (t, .own nb m') :: tmp, (nb, some ⟨e, 2, m', xs'⟩) :: (i, none) :: mem⟩ K)
    (hc : St.ev ⟨nb, sz, tmp, mem⟩ c = some (.fn f [] []) := by rfl) (hd : St.evs ⟨nb, sz, tmp, mem⟩ args.toList = some [.own i m, d2, d3] := by rfl) (h2 : d2.ids (fun _ => false) = true := by rfl) (h3 : d3.ids (fun _ => false) = true := by rfl) (hm : getM i mem = some ⟨e, 2, m, xs⟩ := by rfl) (hxs : D.idsL (fun _ => false) xs = true := by first | rfl | exact fly_ids _ _)
    (hg : St.guard ⟨nb, sz, tmp, mem⟩ ops ⟨some t, .call { callee := .value c, args := args, argTypes := ats }, ty, pos, af, gd⟩ = some true := by rfl) (ht : Nat.blt t sz = true := by rfl) : T P ops (⟨some t, .call { callee := .value c, args := args, argTypes := ats }, ty, pos, af, gd⟩ :: rest) ⟨nb, sz, tmp, mem⟩ K := by
  have e0 : bkS nb nb = 0 := by
    have hb : Nat.blt nb nb = false := by
      cases h : Nat.blt nb nb with
      | false => rfl
      | true => have := Nat.le_of_ble_eq_true h; omega
    unfold bkS; rw [hb]; exact Nat.sub_self nb
  have e1 : bkP nb i none nb = true := by unfold bkP; simp
  refine T_dm (fun _ => i) h hc hd (.cons (Ren.own rfl (by simp) rfl) (.cons (Ren.im h2) (.cons (Ren.im h3) .nil))) (.cons rfl hm rfl (RenL.im rfl hxs) .nil) rfl (fun q hq => by cases hq) (.cons (by simp) (by rw [e0]; rfl) rfl (RenL.im rfl (hx _)) .nil) (by simp [nodupB]) ⟨⟨e1, hx _, hpl⟩, trivial⟩ (Ren.own (by simp) (by rw [e0]; rfl) rfl) e1 rfl rfl hg ht k
end
theorem recv_arg (B c : Nat) (r : Rng) (hr : Few r) (k : Int) (hk : k < 0 ∨ (r.fly.length : Int) ≤ k) : DM Try.prog 19 (some (B, c)) 3 (ringM r) [.pin B c 0 0, iD k] 3 (ringM r) (iD 2) := by
  have N := none_d r hr.1
  have hf := hr.2.2.2.2.2.2.1
  by_cases h0 : k < 0
  all_goals
    refine DM.of Try.func19 Try.ntmps19 Try.results19 rfl (by decide +kernel) rfl ?_
    repeat (first | refine Z1 ?_ | refine Z2 ?_ | (refine Z3 ?_; (repeat (first | (apply gS; first | refine go_pin ?_ | refine go_v N ?_ | refine go_no ?_ | refine go_f ?_ | refine gx ?_ | refine gm ?_ | refine gp ?_) | (apply gZ; first | refine go_st8 ?_ | refine go_f ?_ | refine gx ?_ | refine gm ?_))); refine T_nil ?_) | (apply ZR; (try dsimp only [List.map_cons, List.map_nil]); refine C_dr mixed ?_; (repeat (first | (apply vS; first | refine vn ?_ | refine va ?_ | refine vp ?_ | refine vr ?_ | refine vt ?_) | (apply vZ; first | refine vs ?_ | refine vw ?_))); refine W_e ?_) | (apply ZK; first | refine Z4 ?_ | refine Z5 ?_) | refine Z6 ?_ | refine Z7 ?_ | refine Z8 ?_ | refine Z9 ?_ | refine ZA ?_ | refine ZB ?_ | refine ZC ?_ | refine ZF ?_)
    exact end1 (Wk.ringE rfl rfl rfl rfl rfl (fun σ => .cons rfl (Ren.im rfl) .nil) rfl rfl rfl rfl rfl rfl rfl rfl rfl rfl) rfl (by first | exact .inl rfl | exact .inr rfl)
def recvR (r : Rng) (k t : Nat) : Rng := { r with act := upF r.act t true, blk := upF r.blk t true, cnt := upF r.cnt t (r.cnt t - 1), fly := r.fly.eraseIdx k }
theorem recv_ok (B c : Nat) (r : Rng) (hr : Few r) (k t : Nat) (hk : k < r.fly.length) (ht : t < r.n) (he : r.fly[k].2 = (t : Int)) : DM Try.prog 19 (some (B, c)) 3 (ringM r) [.pin B c 0 0, iD k] 3 (ringM (recvR r k t)) (iD 0) := by
  obtain ⟨h1, h2, h3, h4, h5, h6, h7, h8, h9⟩ := hr
  have N := none_d r h1
  have DD := del_dm r.fly k hk
  have hl := spots_len r.n r.act r.blk r.cnt
  have hb := h4 t
  have hfl := fly_len r.fly
  have e0 : (flyD r.fly)[((k : Int)).toNat * 2 + (1 : Int).toNat * 1]? = some (iD t) := by
    have h := (fly_el hk).2 1 (by omega)
    rw [Int.toNat_natCast, show (1 : Int).toNat * 1 = 1 by rfl, h, he]; rfl
  have s0 := spots_act r.act r.blk r.cnt true ht
  have s1 := spots_blk (upF r.act t true) r.blk r.cnt true ht
  have s2 := spots_cnt (upF r.act t true) (upF r.blk t true) r.cnt (r.cnt t - 1) ht
  have hl1 := spots_len r.n (upF r.act t true) r.blk r.cnt
  have hl2 := spots_len r.n (upF r.act t true) (upF r.blk t true) r.cnt
  have g2 := spots_get (upF r.act t true) (upF r.blk t true) r.cnt ht (r := 2) (by omega)
  rw [show (spotD (upF r.act t true) (upF r.blk t true) r.cnt t)[2]? = some (iD (r.cnt t)) from rfl] at g2
  refine DM.of Try.func19 Try.ntmps19 Try.results19 rfl (by decide +kernel) rfl ?_
  repeat (first | refine Z1 ?_ | refine Z2 ?_ | (refine Z3 ?_; (repeat (first | (apply gS; first | refine go_pin ?_ | refine go_v N ?_ | refine go_no ?_ | refine go_f ?_ | refine gx ?_ | refine gm ?_ | refine gp ?_) | (apply gZ; first | refine go_st8 ?_ | refine go_f ?_ | refine gx ?_ | refine gm ?_))); refine T_nil ?_) | (apply ZR; (try dsimp only [List.map_cons, List.map_nil]); refine C_dr mixed ?_; (repeat (first | (apply vS; first | refine vpin ?_ | refine vn ?_ | refine va ?_ | refine vp ?_ | refine vr ?_ | refine vt ?_) | (apply vZ; first | refine v8 ?_ | refine vs ?_ | refine vw ?_))); refine W_e ?_) | (apply ZK; first | refine Z4 ?_ | refine Z5 ?_) | refine Z6 ?_ | refine Z7 ?_ | refine Z8 ?_ | refine Z9 ?_ | refine ZA ?_ | refine ZB ?_ | refine ZC ?_ | refine ZF ?_)
  repeat (first | refine Z1 ?_ | refine Z2 ?_ | (refine Z3 ?_; (repeat (first | (apply gS; first | refine go_pin ?_ | refine go_v N ?_ | refine go_del DD (fly_ids _) (fly_plain _) ?_ | refine go_no ?_ | refine go_f ?_ | refine gx ?_ | refine gm ?_ | refine gp ?_) | (apply gZ; first | refine go_st8 ?_ | refine go_f ?_ | refine gx ?_ | refine gm ?_))); refine T_nil ?_) | (apply ZR; (try dsimp only [List.map_cons, List.map_nil]); refine C_dr mixed ?_; (repeat (first | (apply vS; first | refine vpin ?_ | refine vn ?_ | refine va ?_ | refine vp ?_ | refine vr ?_ | refine vt ?_) | (apply vZ; first | refine v8 ?_ | refine vs ?_ | refine vw ?_))); refine W_e ?_) | (apply ZK; first | refine Z4 ?_ | refine Z5 ?_) | refine Z6 ?_ | refine Z7 ?_ | refine Z8 ?_ | refine Z9 ?_ | refine ZA ?_ | refine ZB ?_ | refine ZC ?_ | refine ZF ?_)
  exact end1 (r := recvR r k t) (Wk.ringE rfl rfl rfl rfl rfl (fun σ => .cons rfl (Ren.im rfl) .nil) rfl (by show r.fly.length - 1 = (r.fly.eraseIdx k).length; rw [List.length_eraseIdx, if_pos hk]) rfl rfl rfl rfl rfl rfl rfl rfl) rfl (by first | exact .inl rfl | exact .inr rfl)
end Go.Proofs.Ytpomhnmfkdgafaa
