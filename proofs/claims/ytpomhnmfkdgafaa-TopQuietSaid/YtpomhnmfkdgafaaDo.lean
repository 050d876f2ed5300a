/- An act on both rings. -/
import Derived.Test.YtpomhnmfkdgafaaTp
import Derived.Test.YtpomhnmfkdgafaaQm
namespace Go.Proofs.Ytpomhnmfkdgafaa
open Go.RowKit
set_option linter.unusedVariables false
set_option maxHeartbeats 16000000
set_option linter.unusedSimpArgs false
set_option maxRecDepth 100000
/-- the pair of rings in the caller's own rows -/
def pairM (a b : Rng) : List (Nat × Option M) := (0, some ⟨34, 2, 1, [.ptr 1 0, .ptr 4 0]⟩) :: (ringAt 1 2 3 a ++ ringSAt 4 5 6 7 8 b)
def sgP (j k j1 k1 l1 m1 : Nat) (x : Nat) : Nat := cond (Nat.beq x 2) j (cond (Nat.beq x 3) k (cond (Nat.beq x 5) j1 (cond (Nat.beq x 6) k1 (cond (Nat.beq x 7) l1 (cond (Nat.beq x 8) m1 x)))))
theorem WkM.pair {j k j1 k1 l1 m1 : Nat} {mem : List (Nat × Option M)} {a b : Rng} (hm : getM 0 mem = some ⟨34, 2, 1, [.ptr 1 0, .ptr 4 0]⟩)
    (m0 : getM 1 mem = some ⟨52, 8, 1, [.own j a.n, .own k a.fly.length, iD a.at_, iD a.sum, bD a.dark, bD a.fresh, bD a.told, iD a.passes]⟩) (m1' : getM j mem = some ⟨54, 3, a.n, spotsD a.n a.act a.blk a.cnt⟩) (m2 : getM k mem = some ⟨49, 2, a.fly.length, flyD a.fly⟩)
    (s0 : getM 4 mem = some ⟨58, 11, 1, [iD b.n, .own j1 b.n, .own k1 b.n, .own l1 b.n, .own m1 b.fly.length, iD b.at_, iD b.sum, bD b.dark, bD b.fresh, bD b.told, iD b.passes]⟩) (s1 : getM j1 mem = some ⟨4, 1, b.n, boolsD b.n b.act⟩) (s2 : getM k1 mem = some ⟨4, 1, b.n, boolsD b.n b.blk⟩) (s3 : getM l1 mem = some ⟨3, 1, b.n, cntsD b.n b.cnt⟩) (s4 : getM m1 mem = some ⟨49, 2, b.fly.length, flyD b.fly⟩) :
    WkM (sgP j k j1 k1 l1 m1) 9 mem (pairM a b) := by
  unfold pairM ringAt ringSAt
  simp only [List.cons_append, List.nil_append]
  refine .cons rfl hm rfl (.cons (Ren.ptr rfl rfl rfl) (.cons (Ren.ptr rfl rfl rfl) .nil)) ?_
  refine .cons rfl m0 rfl ?_ (.cons rfl m1' rfl (RenL.im rfl (spots_ids _ _ _ _ _)) (.cons rfl m2 rfl (RenL.im rfl (fly_ids _ _)) ?_))
  · exact .cons (Ren.own rfl (Nat.beq_refl j) rfl) (.cons (Ren.own rfl (Nat.beq_refl k) rfl) (.cons (Ren.im rfl) (.cons (Ren.im rfl) (.cons (Ren.im rfl) (.cons (Ren.im rfl) (.cons (Ren.im rfl) (.cons (Ren.im rfl) .nil)))))))
  · refine .cons rfl s0 rfl ?_ (.cons rfl s1 rfl (RenL.im rfl (bools_ids _ _ _)) (.cons rfl s2 rfl (RenL.im rfl (bools_ids _ _ _)) (.cons rfl s3 rfl (RenL.im rfl (cnts_ids _ _ _)) (.cons rfl s4 rfl (RenL.im rfl (fly_ids _ _)) .nil))))
    exact .cons (Ren.im rfl) (.cons (Ren.own rfl (Nat.beq_refl j1) rfl) (.cons (Ren.own rfl (Nat.beq_refl k1) rfl) (.cons (Ren.own rfl (Nat.beq_refl l1) rfl) (.cons (Ren.own rfl (Nat.beq_refl m1) rfl) (.cons (Ren.im rfl) (.cons (Ren.im rfl) (.cons (Ren.im rfl) (.cons (Ren.im rfl) (.cons (Ren.im rfl) (.cons (Ren.im rfl) .nil))))))))))
/-- rows get their numbers again; the slots name rows that keep theirs -/
theorem Wk.mkS {nb nb' sz : Nat} {tmp tmp' : List (Nat × D)} {mem mem' : List (Nat × Option M)} (σ : Nat → Nat) (h1 : ∀ t d', look t tmp' = some d' → ∃ d, look t tmp = some d ∧ Ren σ nb' d' d) (h2 : WkM σ nb' mem mem') (h3 : nodupB (mem'.map fun e => σ e.1) = true) : Wk ⟨nb, sz, tmp, mem⟩ ⟨nb', sz, tmp', mem'⟩ := fun w0 I0 ρ I a w g => by
  obtain ⟨ρ', I', g'⟩ := Wk.mk (nb' := nb') (tmp' := []) (mem' := mem') σ .nil h2 h3 w0 I0 ρ I a w g
  refine ⟨fun b => ρ (σ b), I, ⟨g.later, g.lt, g.base, g.old, g.defers, g.sz, fun t d' ht => ?_, fun b m' hb => ?_, fun b m b' m1 hb hb' k c c' hk hk' => ?_⟩⟩
  · obtain ⟨d, hd, r⟩ := h1 t d' ht
    exact r _ _ _ _ _ (g.tmp t d hd)
  · obtain ⟨hlt, _, m, hm, e1, e2, e3, r⟩ := h2.get hb
    obtain ⟨_, ⟨us, ho, hx⟩, hn⟩ := (g.mem (σ b) m hm).parts
    refine MemOk.mk' (us := us) hlt (by rw [e1, e2, e3]; exact ho) ⟨by rw [r.1, hx.1], hx.2.1, fun j d' u hd hu => ?_⟩ hn
    obtain ⟨d, hd'⟩ : ∃ d, m.xs[j]? = some d := ⟨_, List.getElem?_eq_getElem (by rw [← r.1]; exact (List.getElem?_eq_some_iff.1 hd).1)⟩
    exact r.2 j d' d hd hd' _ _ _ _ _ (hx.2.2 j d u hd' hu)
  · obtain ⟨_, hb1, n1, hn1, _⟩ := h2.get hb
    obtain ⟨_, hb2, n2, hn2, _⟩ := h2.get hb'
    exact nodupB_inj (σ := σ) (f := Prod.fst) (g := Prod.fst) h3 b hb1 b' hb2 (g.inj (σ b) n1 (σ b') n2 hn1 hn2 k c c' hk hk')
theorem endP {P : Program} {nb sz B c t j k j1 k1 l1 m1 : Nat} {tmp : List (Nat × D)} {mem : List (Nat × Option M)} {a b : Rng} {d : D} {e : Exit} (h2 : WkM (sgP j k j1 k1 l1 m1) 9 mem (pairM a b)) (h3 : nodupB [0, 1, j, k, 4, j1, k1, l1, m1] = true) (hp : look 0 tmp = some (.pin B c 0 0)) (hd : look t tmp = some d) (hdi : d.ids (fun _ => false) = true) (ht : Nat.beq 0 t = false) (he : e = .ret ∨ e = .normal) :
    kEndM P [.tmp t] (some (B, c)) 9 (pairM a b) d e ⟨nb, sz, tmp, mem⟩ :=
  kEndM_g (S' := ⟨9, sz, [(0, .pin B c 0 0), (t, d)], pairM a b⟩) (Wk.mk (sgP j k j1 k1 l1 m1) (.cons hp (Ren.pin rfl rfl) (.cons hd (Ren.im hdi) .nil)) h2 h3) he (.tmp (d := d) (by show cond (Nat.beq 0 t) _ (cond (Nat.beq t t) _ _) = _; rw [ht, Nat.beq_refl]; rfl) .nil) rfl rfl rfl (fun q hq => by cases hq; rfl)
theorem do_send (B c : Nat) (r : Rng) (hr : Few r) (d x y : Int) (hk : (d.tmod 4 + 4).tmod 4 = 0) : DM Try.prog 6 (some (B, c)) 9 (pairM r r) [.pin B c 0 0, .agg [iD d, iD x, iD y]] 9 (pairM (sendR r x y) (sendR r x y)) (bD true) := by
  have H1 : ∀ B q, _ := fun B q => send_dm B q r hr x y
  have H2 : ∀ B q, _ := fun B q => sendS_dm B q r hr x y
  have b1 := Int.tmod_lt_of_pos d (show (0 : Int) < 4 by decide)
  have b2 := Int.lt_tmod_of_pos d (show (0 : Int) < 4 by decide)
  refine DM.of Try.func6 Try.ntmps6 Try.results6 rfl (by decide +kernel) rfl ?_
  repeat (first | refine Z1 ?_ | refine Z2 ?_ | (refine Z3 ?_; (repeat (first | (apply gS; first | refine go_pin ?_ | refine go_no ?_ | refine go_f ?_ | refine gx ?_ | refine gm ?_ | refine gp ?_))); refine T_nil ?_) | (apply ZR; (try dsimp only [List.map_cons, List.map_nil]); refine C_dr mixed ?_; (repeat (first | (apply vS; first | refine vpin ?_ | refine vt ?_ (fun extra => ⟨fun _ _ k => T_R (s := 19) H1 rfl (fun _ _ => rfl) (fun _ _ => rfl) rfl rfl rfl rfl rfl rfl (fun _ => rfl) rfl (fun _ _ => rfl) rfl k⟩) | refine vt ?_ (fun extra => ⟨fun _ _ k => T_S (s := 28) H2 rfl (fun _ _ => rfl) (fun _ _ => rfl) rfl rfl rfl rfl rfl rfl rfl rfl (fun _ => rfl) rfl (fun _ _ => rfl) rfl k⟩) | refine vn ?_ | refine va ?_ | refine vp ?_ | refine vr ?_ | refine vt ?_))); refine W_e ?_) | (apply ZK; first | refine Z4 ?_ | refine Z5 ?_) | refine Z6 ?_ | refine Z7 ?_ | refine Z8 ?_ | refine Z9 ?_ | refine ZA ?_ | refine ZB ?_ | refine ZC ?_ | refine ZF ?_)
  exact endP (WkM.pair rfl rfl rfl rfl rfl rfl rfl rfl rfl) rfl rfl rfl rfl rfl (by first | exact .inl rfl | exact .inr rfl)
theorem do_rcv (B c : Nat) (r : Rng) (hr : Few r) (d x y : Int) (hk : (d.tmod 4 + 4).tmod 4 = 1) : DM Try.prog 6 (some (B, c)) 9 (pairM r r) [.pin B c 0 0, .agg [iD d, iD x, iD y]] 9 (pairM (rcvR r x) (rcvR r x)) (bD true) := by
  have H1 : ∀ B q, _ := fun B q => rcv_dm B q r hr x
  have H2 : ∀ B q, _ := fun B q => rcvS_dm B q r hr x
  have b1 := Int.tmod_lt_of_pos d (show (0 : Int) < 4 by decide)
  have b2 := Int.lt_tmod_of_pos d (show (0 : Int) < 4 by decide)
  refine DM.of Try.func6 Try.ntmps6 Try.results6 rfl (by decide +kernel) rfl ?_
  repeat (first | refine Z1 ?_ | refine Z2 ?_ | (refine Z3 ?_; (repeat (first | (apply gS; first | refine go_pin ?_ | refine go_no ?_ | refine go_f ?_ | refine gx ?_ | refine gm ?_ | refine gp ?_))); refine T_nil ?_) | (apply ZR; (try dsimp only [List.map_cons, List.map_nil]); refine C_dr mixed ?_; (repeat (first | (apply vS; first | refine vpin ?_ | refine vt ?_ (fun extra => ⟨fun _ _ k => T_R (s := 40) H1 rfl (fun _ _ => rfl) (fun _ _ => rfl) rfl rfl rfl rfl rfl rfl (fun _ => rfl) rfl (fun _ _ => rfl) rfl k⟩) | refine vt ?_ (fun extra => ⟨fun _ _ k => T_S (s := 47) H2 rfl (fun _ _ => rfl) (fun _ _ => rfl) rfl rfl rfl rfl rfl rfl rfl rfl (fun _ => rfl) rfl (fun _ _ => rfl) rfl k⟩) | refine vn ?_ | refine va ?_ | refine vp ?_ | refine vr ?_ | refine vt ?_))); refine W_e ?_) | (apply ZK; first | refine Z4 ?_ | refine Z5 ?_) | refine Z6 ?_ | refine Z7 ?_ | refine Z8 ?_ | refine Z9 ?_ | refine ZA ?_ | refine ZB ?_ | refine ZC ?_ | refine ZF ?_)
  exact endP (WkM.pair rfl rfl rfl rfl rfl rfl rfl rfl rfl) rfl rfl rfl rfl rfl (by first | exact .inl rfl | exact .inr rfl)
theorem do_idle (B c : Nat) (r : Rng) (hr : Few r) (d x y : Int) (hk : (d.tmod 4 + 4).tmod 4 = 2) : DM Try.prog 6 (some (B, c)) 9 (pairM r r) [.pin B c 0 0, .agg [iD d, iD x, iD y]] 9 (pairM (idleR r x) (idleR r x)) (bD true) := by
  have H1 : ∀ B q, _ := fun B q => idle_dm B q r hr x
  have H2 : ∀ B q, _ := fun B q => idleS_dm B q r hr x
  have b1 := Int.tmod_lt_of_pos d (show (0 : Int) < 4 by decide)
  have b2 := Int.lt_tmod_of_pos d (show (0 : Int) < 4 by decide)
  refine DM.of Try.func6 Try.ntmps6 Try.results6 rfl (by decide +kernel) rfl ?_
  repeat (first | refine Z1 ?_ | refine Z2 ?_ | (refine Z3 ?_; (repeat (first | (apply gS; first | refine go_pin ?_ | refine go_no ?_ | refine go_f ?_ | refine gx ?_ | refine gm ?_ | refine gp ?_))); refine T_nil ?_) | (apply ZR; (try dsimp only [List.map_cons, List.map_nil]); refine C_dr mixed ?_; (repeat (first | (apply vS; first | refine vpin ?_ | refine vt ?_ (fun extra => ⟨fun _ _ k => T_R (s := 57) H1 rfl (fun _ _ => rfl) (fun _ _ => rfl) rfl rfl rfl rfl rfl rfl (fun _ => rfl) rfl (fun _ _ => rfl) rfl k⟩) | refine vt ?_ (fun extra => ⟨fun _ _ k => T_S (s := 64) H2 rfl (fun _ _ => rfl) (fun _ _ => rfl) rfl rfl rfl rfl rfl rfl rfl rfl (fun _ => rfl) rfl (fun _ _ => rfl) rfl k⟩) | refine vn ?_ | refine va ?_ | refine vp ?_ | refine vr ?_ | refine vt ?_))); refine W_e ?_) | (apply ZK; first | refine Z4 ?_ | refine Z5 ?_) | refine Z6 ?_ | refine Z7 ?_ | refine Z8 ?_ | refine Z9 ?_ | refine ZA ?_ | refine ZB ?_ | refine ZC ?_ | refine ZF ?_)
  exact endP (WkM.pair rfl rfl rfl rfl rfl rfl rfl rfl rfl) rfl rfl rfl rfl rfl (by first | exact .inl rfl | exact .inr rfl)
theorem do_pass (B c : Nat) (r : Rng) (hr : Few r) (d x y : Int) (hk : ¬ ((d.tmod 4 + 4).tmod 4 = 0) ∧ ¬ ((d.tmod 4 + 4).tmod 4 = 1) ∧ ¬ ((d.tmod 4 + 4).tmod 4 = 2)) : DM Try.prog 6 (some (B, c)) 9 (pairM r r) [.pin B c 0 0, .agg [iD d, iD x, iD y]] 9 (pairM (passR r) (passR r)) (bD true) := by
  have H1 : ∀ B q, _ := fun B q => pass_dm B q r hr
  have H2 : ∀ B q, _ := fun B q => passS_dm B q r hr
  have b1 := Int.tmod_lt_of_pos d (show (0 : Int) < 4 by decide)
  have b2 := Int.lt_tmod_of_pos d (show (0 : Int) < 4 by decide)
  cases hT : passT r
  all_goals
    rw [hT] at H1 H2
    refine DM.of Try.func6 Try.ntmps6 Try.results6 rfl (by decide +kernel) rfl ?_
    repeat (first | refine Z1 ?_ | refine Z2 ?_ | (refine Z3 ?_; (repeat (first | (apply gS; first | refine go_pin ?_ | refine T_R (s := 73) H1 rfl (fun _ _ => rfl) (fun _ _ => rfl) rfl rfl rfl rfl rfl rfl (fun _ => rfl) rfl (fun _ _ => rfl) rfl ?_ | refine T_S (s := 81) H2 rfl (fun _ _ => rfl) (fun _ _ => rfl) rfl rfl rfl rfl rfl rfl rfl rfl (fun _ => rfl) rfl (fun _ _ => rfl) rfl ?_ | refine go_no ?_ | refine go_f ?_ | refine gx ?_ | refine gm ?_ | refine gp ?_))); refine T_nil ?_) | (apply ZR; (try dsimp only [List.map_cons, List.map_nil]); refine C_dr mixed ?_; (repeat (first | (apply vS; first | refine vpin ?_ | refine vn ?_ | refine va ?_ | refine vp ?_ | refine vr ?_ | refine vt ?_))); refine W_e ?_) | (apply ZK; first | refine Z4 ?_ | refine Z5 ?_) | refine Z6 ?_ | refine Z7 ?_ | refine Z8 ?_ | refine Z9 ?_ | refine ZA ?_ | refine ZB ?_ | refine ZC ?_ | refine ZF ?_)
    exact endP (WkM.pair rfl rfl rfl rfl rfl rfl rfl rfl rfl) rfl rfl rfl rfl rfl (by first | exact .inl rfl | exact .inr rfl)
theorem do_dm (B c : Nat) (r : Rng) (hr : Few r) (d x y : Int) : DM Try.prog 6 (some (B, c)) 9 (pairM r r) [.pin B c 0 0, .agg [iD d, iD x, iD y]] 9 (pairM (doR r d x y) (doR r d x y)) (bD true) := by
  unfold doR
  by_cases h0 : (d.tmod 4 + 4).tmod 4 = 0
  · rw [if_pos h0]; exact do_send B c r hr d x y h0
  · rw [if_neg h0]
    by_cases h1 : (d.tmod 4 + 4).tmod 4 = 1
    · rw [if_pos h1]; exact do_rcv B c r hr d x y h1
    · rw [if_neg h1]
      by_cases h2 : (d.tmod 4 + 4).tmod 4 = 2
      · rw [if_pos h2]; exact do_idle B c r hr d x y h2
      · rw [if_neg h2]; exact do_pass B c r hr d x y ⟨h0, h1, h2⟩
end Go.Proofs.Ytpomhnmfkdgafaa
