/- beyond of the reference of domains, by the abstract machine. -/
import Derived.Test.YtfkojkciobdeoaaE2
namespace Go.Proofs.Ytfkojkciobdeoaa
open Go.RowKit
set_option linter.unusedVariables false
set_option maxHeartbeats 16000000
set_option linter.unusedSimpArgs false
set_option maxRecDepth 100000
theorem be_up (r : Rg) (m : Nat) (hv : vB r = true) (h1 : 1 ≤ m) (h2 : m ≤ 4096) : DC Try.prog 131 [rD r, iD (m : Int)] (.tup [rD (beRes r (m : Int)).1, iD (beRes r (m : Int)).2]) := by
  obtain ⟨b1, b2, b3, b4, b5, b6, b7⟩ := vB_okS hv
  rw [show beRes r (m : Int) = if vB (beRg r (m : Int)) = true then (beRg r (m : Int), 0) else (⟨0, 0, 0⟩, 30) by unfold beRes; rw [if_neg (by omega), if_neg (by omega)]]
  rw [show beRg r (m : Int) = if r.st < 0 then ⟨r.lo + m * r.st, r.lo + r.st, if (m : Int) = 1 then 1 else r.st⟩ else ⟨r.hi + r.st, r.hi + m * r.st, if (m : Int) = 1 then 1 else r.st⟩ by unfold beRg; rw [if_pos (by omega)]]
  have pm := small_mul (a := (m : Int)) (by omega) (by omega) b5 b6
  have pm2 : 1 * r.st = r.st := Int.one_mul _
  have pm3 : -(m : Int) * r.st = -((m : Int) * r.st) := Int.neg_mul _ _
  have mono : (r.st < 0 → (m : Int) * r.st ≤ 1 * r.st) ∧ (0 < r.st → 1 * r.st ≤ (m : Int) * r.st) := ⟨fun h => mul_anti (by omega) (by omega), fun h => mul_mono (by omega) (by omega)⟩
  obtain ⟨la, hla⟩ : ∃ la, la = if r.st < 0 then r.lo else r.hi := ⟨_, rfl⟩
  by_cases c2 : r.st < 0
  all_goals
    have mo : (r.st < 0 → (m : Int) * r.st ≤ r.st) ∧ (0 < r.st → r.st ≤ (m : Int) * r.st) := by rw [pm2] at mono; exact mono
    simp only [c2, if_true, if_false] at hla ⊢
    by_cases c3 : (m : Int) = 1
    all_goals
      first | rw [if_pos c3] | rw [if_neg c3]
      first | simp only [← hla] | skip
      generalize hbb : vB _ = bb
      cases bb
      all_goals
        refine DC.of Try.func131 Try.ntmps131 Try.results131 rfl (by decide +kernel) rfl ?_
        repeat (first | refine Z1 ?_ | refine Z2 ?_ | (refine Z3 ?_; (repeat (first | (apply gS; first | refine go_no ?_ | refine go_f ?_ | refine gm ?_ | refine gp ?_) | (apply gZ; first | refine go_f ?_ | refine gm ?_))); refine T_nil ?_) | (apply ZR; refine C_dr mixed ?_; (repeat (first | (apply vS; first | refine vn ?_ | refine va ?_ | refine vp ?_ | refine vr ?_ | refine vt ?_) | (apply vZ; refine vs ?_))); refine W_e ?_) | (apply ZK; first | refine Z4 ?_ | refine Z5 ?_) | refine Z6 ?_ | refine Z7 ?_ | refine Z8 ?_ | refine Z9 ?_ | refine ZA ?_ | refine ZB ?_ | refine ZC ?_ | refine ZD ?_ | refine ZE ?_ | refine ZF ?_ | refine ZG ?_ | refine ZH ?_)
        refine C_count m (fun _ => True) (fun k => ⟨3, 97, [(10, iD ((k : Int) + 1)), (9, .own 2 k), (8, iD la), (6, iD r.st), (4, .ptr 1 0), (1, iD (m : Int))], [(1, some ⟨39, 3, 1, [iD 0, iD 0, iD 0]⟩), (2, some ⟨3, 1, k, intsD (upL la r.st k)⟩)]⟩) ?_ trivial ?_
        · refine Wk.trans (Wk.adoptT 9 3 1 rfl) ?_
          exact Wk.go (fun b => b)
        · intro k hk _
          by_cases hlt : k < m
          · have pk := small_mul (a := (k : Int) + 1) (by omega) (by omega) b5 b6
            have en := upL_snoc la r.st k
            repeat (first | refine Z1 ?_ | refine Z2 ?_ | (refine Z3 ?_; (repeat (first | (apply gS; first | refine go_no ?_ | refine go_f ?_ | refine gm ?_ | refine gp ?_) | (apply gZ; first | refine go_f ?_ | refine gm ?_))); refine T_nil ?_) | (apply ZR; refine C_dr mixed ?_; (repeat (first | (apply vS; first | refine vn ?_ | refine va ?_ | refine vp ?_ | refine vr ?_ | refine vt ?_) | (apply vZ; refine vs ?_))); refine W_e ?_) | (apply ZK; first | refine Z4 ?_ | refine Z5 ?_) | refine Z6 ?_ | refine Z7 ?_ | refine Z8 ?_ | refine Z9 ?_ | refine ZA ?_ | refine ZB ?_ | refine ZC ?_ | refine ZD ?_ | refine ZE ?_ | refine ZF ?_ | refine ZG ?_ | refine ZH ?_)
            refine kLoop_n ⟨hlt, trivial, ?_⟩
            exact Wk.go (fun b => cond (Nat.beq b 2) 3 (b))
          · obtain rfl : m = k := by omega
            repeat (first | refine Z1 ?_ | refine Z2 ?_ | (refine Z3 ?_; (repeat (first | (apply gS; first | refine go_no ?_ | refine go_f ?_ | refine gm ?_ | refine gp ?_) | (apply gZ; first | refine go_f ?_ | refine gm ?_))); refine T_nil ?_) | (apply ZR; refine C_dr mixed ?_; (repeat (first | (apply vS; first | refine vn ?_ | refine va ?_ | refine vp ?_ | refine vr ?_ | refine vt ?_) | (apply vZ; refine vs ?_))); refine W_e ?_) | (apply ZK; first | refine Z4 ?_ | refine Z5 ?_) | refine Z6 ?_ | refine Z7 ?_ | refine Z8 ?_ | refine Z9 ?_ | refine ZA ?_ | refine ZB ?_ | refine ZC ?_ | refine ZD ?_ | refine ZE ?_ | refine ZF ?_ | refine ZG ?_ | refine ZH ?_)
            refine C_wk (S' := ⟨3, 97, [(9, .row m (intsD (upL la r.st m))), (6, iD r.st), (4, .ptr 1 0), (1, iD (m : Int))], [(1, some ⟨39, 3, 1, [iD 0, iD 0, iD 0]⟩)]⟩) (Wk.trans (Wk.freeze2 2 rfl (by repeat (first | rfl | exact idsL_map (fun _ => rfl) _ | exact idsL_flat (fun _ => rfl) _ | refine idsL_append ?_ ?_)) (by repeat (first | exact trivial | exact rfl | refine And.intro ?_ ?_))) ?_) ?_
            · exact Wk.go (fun b => b)
            have ql := upL_len la r.st m
            have q0 : (upL la r.st m)[(0 : Int).toNat]'(by rw [ql]; exact h1) = la + r.st := by rw [upL_get]; simp
            have q1 : (upL la r.st m)[((m : Int) - 1).toNat]'(by rw [ql]; omega) = la + m * r.st := by rw [upL_get, show ((((m : Int) - 1).toNat : Nat) : Int) + 1 = m by omega]
            first | generalize upL la r.st m = l at * | skip
            repeat (first | refine Z1 ?_ | refine Z2 ?_ | (refine Z3 ?_; (repeat (first | (apply gS; first | refine go_no ?_ | refine go_f ?_ | refine gm ?_ | refine gp ?_ | refine go_c rfl rfl (rValid_b _ _ _ (Eq.trans (by rw [q0, q1]) hbb)) ?_) | (apply gZ; first | refine go_f ?_ | refine gm ?_))); refine T_nil ?_) | (apply ZR; refine C_dr mixed ?_; (repeat (first | (apply vS; first | refine vn ?_ | refine va ?_ | refine vp ?_ | refine vr ?_ | refine vt ?_ | refine vc (rValid_b _ _ _ (Eq.trans (by rw [q0, q1]) hbb)) ?_) | (apply vZ; refine vs ?_))); refine W_e ?_) | (apply ZK; first | refine Z4 ?_ | refine Z5 ?_) | refine Z6 ?_ | refine Z7 ?_ | refine Z8 ?_ | refine Z9 ?_ | refine ZA ?_ | refine ZB ?_ | refine ZC ?_ | refine ZD ?_ | refine ZE ?_ | refine ZF ?_ | refine ZG ?_ | refine ZH ?_)
            repeat (first | refine kEnd_m ?_ | refine kEnd_f ?_)
            refine kEnd_g ?_ (by first | exact .inl rfl | exact .inr rfl)
            exact Sub.eq (by first | (simp only [tupD, q0, q1]; done) | (simp only [tupD, q0, q1]; rfl) | rfl) rfl
theorem be_dn (r : Rg) (m : Nat) (hv : vB r = true) (h1 : 1 ≤ m) (h2 : m ≤ 4096) : DC Try.prog 131 [rD r, iD (-(m : Int))] (.tup [rD (beRes r (-(m : Int))).1, iD (beRes r (-(m : Int))).2]) := by
  obtain ⟨b1, b2, b3, b4, b5, b6, b7⟩ := vB_okS hv
  rw [show beRes r (-(m : Int)) = if vB (beRg r (-(m : Int))) = true then (beRg r (-(m : Int)), 0) else (⟨0, 0, 0⟩, 30) by unfold beRes; rw [if_neg (by omega), if_neg (by omega)]]
  rw [show beRg r (-(m : Int)) = if r.st < 0 then ⟨r.hi + (-1) * r.st, r.hi + -(m : Int) * r.st, if (m : Int) = 1 then 1 else r.st⟩ else ⟨r.lo + -(m : Int) * r.st, r.lo + (-1) * r.st, if (m : Int) = 1 then 1 else r.st⟩ by unfold beRg; rw [if_neg (by omega)]; simp only [show (-(m : Int) = -1) ↔ ((m : Int) = 1) from by omega]]
  have pm := small_mul (a := (m : Int)) (by omega) (by omega) b5 b6
  have pm2 : 1 * r.st = r.st := Int.one_mul _
  have pm3 : -(m : Int) * r.st = -((m : Int) * r.st) := Int.neg_mul _ _
  have mono : (r.st < 0 → (m : Int) * r.st ≤ 1 * r.st) ∧ (0 < r.st → 1 * r.st ≤ (m : Int) * r.st) := ⟨fun h => mul_anti (by omega) (by omega), fun h => mul_mono (by omega) (by omega)⟩
  obtain ⟨la, hla⟩ : ∃ la, la = if r.st < 0 then r.hi else r.lo := ⟨_, rfl⟩
  by_cases c2 : r.st < 0
  all_goals
    have mo : (r.st < 0 → (m : Int) * r.st ≤ r.st) ∧ (0 < r.st → r.st ≤ (m : Int) * r.st) := by rw [pm2] at mono; exact mono
    simp only [c2, if_true, if_false] at hla ⊢
    by_cases c3 : (m : Int) = 1
    all_goals
      first | rw [if_pos c3] | rw [if_neg c3]
      first | simp only [← hla] | skip
      generalize hbb : vB _ = bb
      cases bb
      all_goals
        refine DC.of Try.func131 Try.ntmps131 Try.results131 rfl (by decide +kernel) rfl ?_
        repeat (first | refine Z1 ?_ | refine Z2 ?_ | (refine Z3 ?_; (repeat (first | (apply gS; first | refine go_no ?_ | refine go_f ?_ | refine gm ?_ | refine gp ?_) | (apply gZ; first | refine go_f ?_ | refine gm ?_))); refine T_nil ?_) | (apply ZR; refine C_dr mixed ?_; (repeat (first | (apply vS; first | refine vn ?_ | refine va ?_ | refine vp ?_ | refine vr ?_ | refine vt ?_) | (apply vZ; refine vs ?_))); refine W_e ?_) | (apply ZK; first | refine Z4 ?_ | refine Z5 ?_) | refine Z6 ?_ | refine Z7 ?_ | refine Z8 ?_ | refine Z9 ?_ | refine ZA ?_ | refine ZB ?_ | refine ZC ?_ | refine ZD ?_ | refine ZE ?_ | refine ZF ?_ | refine ZG ?_ | refine ZH ?_)
        refine C_count m (fun _ => True) (fun k => ⟨3, 97, [(11, iD (-(m : Int) + k)), (9, .own 2 k), (7, iD la), (6, iD r.st), (4, .ptr 1 0), (1, iD (-(m : Int)))], [(1, some ⟨39, 3, 1, [iD 0, iD 0, iD 0]⟩), (2, some ⟨3, 1, k, intsD (dnL la r.st (-(m : Int)) k)⟩)]⟩) ?_ trivial ?_
        · refine Wk.trans (Wk.adoptT 9 3 1 rfl) ?_
          exact Wk.go (fun b => b)
        · intro k hk _
          by_cases hlt : k < m
          · have pk := small_mul (a := -(m : Int) + (k : Int)) (by omega) (by omega) b5 b6
            have en := dnL_snoc la r.st (-(m : Int)) k
            repeat (first | refine Z1 ?_ | refine Z2 ?_ | (refine Z3 ?_; (repeat (first | (apply gS; first | refine go_no ?_ | refine go_f ?_ | refine gm ?_ | refine gp ?_) | (apply gZ; first | refine go_f ?_ | refine gm ?_))); refine T_nil ?_) | (apply ZR; refine C_dr mixed ?_; (repeat (first | (apply vS; first | refine vn ?_ | refine va ?_ | refine vp ?_ | refine vr ?_ | refine vt ?_) | (apply vZ; refine vs ?_))); refine W_e ?_) | (apply ZK; first | refine Z4 ?_ | refine Z5 ?_) | refine Z6 ?_ | refine Z7 ?_ | refine Z8 ?_ | refine Z9 ?_ | refine ZA ?_ | refine ZB ?_ | refine ZC ?_ | refine ZD ?_ | refine ZE ?_ | refine ZF ?_ | refine ZG ?_ | refine ZH ?_)
            refine kLoop_n ⟨hlt, trivial, ?_⟩
            exact Wk.go (fun b => cond (Nat.beq b 2) 3 (b))
          · obtain rfl : m = k := by omega
            repeat (first | refine Z1 ?_ | refine Z2 ?_ | (refine Z3 ?_; (repeat (first | (apply gS; first | refine go_no ?_ | refine go_f ?_ | refine gm ?_ | refine gp ?_) | (apply gZ; first | refine go_f ?_ | refine gm ?_))); refine T_nil ?_) | (apply ZR; refine C_dr mixed ?_; (repeat (first | (apply vS; first | refine vn ?_ | refine va ?_ | refine vp ?_ | refine vr ?_ | refine vt ?_) | (apply vZ; refine vs ?_))); refine W_e ?_) | (apply ZK; first | refine Z4 ?_ | refine Z5 ?_) | refine Z6 ?_ | refine Z7 ?_ | refine Z8 ?_ | refine Z9 ?_ | refine ZA ?_ | refine ZB ?_ | refine ZC ?_ | refine ZD ?_ | refine ZE ?_ | refine ZF ?_ | refine ZG ?_ | refine ZH ?_)
            refine C_wk (S' := ⟨3, 97, [(9, .row m (intsD (dnL la r.st (-(m : Int)) m))), (6, iD r.st), (4, .ptr 1 0), (1, iD (-(m : Int)))], [(1, some ⟨39, 3, 1, [iD 0, iD 0, iD 0]⟩)]⟩) (Wk.trans (Wk.freeze2 2 rfl (by repeat (first | rfl | exact idsL_map (fun _ => rfl) _ | exact idsL_flat (fun _ => rfl) _ | refine idsL_append ?_ ?_)) (by repeat (first | exact trivial | exact rfl | refine And.intro ?_ ?_))) ?_) ?_
            · exact Wk.go (fun b => b)
            have ql := dnL_len la r.st (-(m : Int)) m
            have q0 : (dnL la r.st (-(m : Int)) m)[(0 : Int).toNat]'(by rw [ql]; exact h1) = la + -(m : Int) * r.st := by rw [dnL_get]; simp
            have q1 : (dnL la r.st (-(m : Int)) m)[((m : Int) - 1).toNat]'(by rw [ql]; omega) = la + (-1) * r.st := by rw [dnL_get, show -(m : Int) + ((((m : Int) - 1).toNat : Nat) : Int) = -1 by omega]
            first | generalize dnL la r.st (-(m : Int)) m = l at * | skip
            repeat (first | refine Z1 ?_ | refine Z2 ?_ | (refine Z3 ?_; (repeat (first | (apply gS; first | refine go_no ?_ | refine go_f ?_ | refine gm ?_ | refine gp ?_ | refine go_c rfl rfl (rValid_b _ _ _ (Eq.trans (by rw [q0, q1]) hbb)) ?_) | (apply gZ; first | refine go_f ?_ | refine gm ?_))); refine T_nil ?_) | (apply ZR; refine C_dr mixed ?_; (repeat (first | (apply vS; first | refine vn ?_ | refine va ?_ | refine vp ?_ | refine vr ?_ | refine vt ?_ | refine vc (rValid_b _ _ _ (Eq.trans (by rw [q0, q1]) hbb)) ?_) | (apply vZ; refine vs ?_))); refine W_e ?_) | (apply ZK; first | refine Z4 ?_ | refine Z5 ?_) | refine Z6 ?_ | refine Z7 ?_ | refine Z8 ?_ | refine Z9 ?_ | refine ZA ?_ | refine ZB ?_ | refine ZC ?_ | refine ZD ?_ | refine ZE ?_ | refine ZF ?_ | refine ZG ?_ | refine ZH ?_)
            repeat (first | refine kEnd_m ?_ | refine kEnd_f ?_)
            refine kEnd_g ?_ (by first | exact .inl rfl | exact .inr rfl)
            exact Sub.eq (by first | (simp only [tupD, q0, q1]; done) | (simp only [tupD, q0, q1]; rfl) | rfl) rfl
theorem be_d (r : Rg) (n : Int) (hv : vB r = true) : DC Try.prog 131 [rD r, iD n] (.tup [rD (beRes r n).1, iD (beRes r n).2]) := by
  by_cases h0 : n = 0
  · rw [show beRes r n = (r, 0) from if_pos h0]
    refine DC.of Try.func131 Try.ntmps131 Try.results131 rfl (by decide +kernel) rfl ?_
    repeat (first | refine Z1 ?_ | refine Z2 ?_ | (refine Z3 ?_; (repeat (first | (apply gS; first | refine go_no ?_ | refine go_f ?_ | refine gm ?_ | refine gp ?_) | (apply gZ; first | refine go_f ?_ | refine gm ?_))); refine T_nil ?_) | (apply ZR; refine C_dr mixed ?_; (repeat (first | (apply vS; first | refine vn ?_ | refine va ?_ | refine vp ?_ | refine vr ?_ | refine vt ?_) | (apply vZ; refine vs ?_))); refine W_e ?_) | (apply ZK; first | refine Z4 ?_ | refine Z5 ?_) | refine Z6 ?_ | refine Z7 ?_ | refine Z8 ?_ | refine Z9 ?_ | refine ZA ?_ | refine ZB ?_ | refine ZC ?_ | refine ZD ?_ | refine ZE ?_ | refine ZF ?_ | refine ZG ?_ | refine ZH ?_)
    repeat (first | refine kEnd_m ?_ | refine kEnd_f ?_)
    refine kEnd_g ?_ (by first | exact .inl rfl | exact .inr rfl)
    exact Sub.eq rfl rfl
  by_cases h1 : 4096 < n
  · rw [show beRes r n = (⟨0, 0, 0⟩, 30) from (if_neg h0).trans (if_pos (.inr h1))]
    refine DC.of Try.func131 Try.ntmps131 Try.results131 rfl (by decide +kernel) rfl ?_
    repeat (first | refine Z1 ?_ | refine Z2 ?_ | (refine Z3 ?_; (repeat (first | (apply gS; first | refine go_no ?_ | refine go_f ?_ | refine gm ?_ | refine gp ?_) | (apply gZ; first | refine go_f ?_ | refine gm ?_))); refine T_nil ?_) | (apply ZR; refine C_dr mixed ?_; (repeat (first | (apply vS; first | refine vn ?_ | refine va ?_ | refine vp ?_ | refine vr ?_ | refine vt ?_) | (apply vZ; refine vs ?_))); refine W_e ?_) | (apply ZK; first | refine Z4 ?_ | refine Z5 ?_) | refine Z6 ?_ | refine Z7 ?_ | refine Z8 ?_ | refine Z9 ?_ | refine ZA ?_ | refine ZB ?_ | refine ZC ?_ | refine ZD ?_ | refine ZE ?_ | refine ZF ?_ | refine ZG ?_ | refine ZH ?_)
    repeat (first | refine kEnd_m ?_ | refine kEnd_f ?_)
    refine kEnd_g ?_ (by first | exact .inl rfl | exact .inr rfl)
    exact Sub.eq rfl rfl
  by_cases h2 : n < -4096
  · rw [show beRes r n = (⟨0, 0, 0⟩, 30) from (if_neg h0).trans (if_pos (.inl h2))]
    refine DC.of Try.func131 Try.ntmps131 Try.results131 rfl (by decide +kernel) rfl ?_
    repeat (first | refine Z1 ?_ | refine Z2 ?_ | (refine Z3 ?_; (repeat (first | (apply gS; first | refine go_no ?_ | refine go_f ?_ | refine gm ?_ | refine gp ?_) | (apply gZ; first | refine go_f ?_ | refine gm ?_))); refine T_nil ?_) | (apply ZR; refine C_dr mixed ?_; (repeat (first | (apply vS; first | refine vn ?_ | refine va ?_ | refine vp ?_ | refine vr ?_ | refine vt ?_) | (apply vZ; refine vs ?_))); refine W_e ?_) | (apply ZK; first | refine Z4 ?_ | refine Z5 ?_) | refine Z6 ?_ | refine Z7 ?_ | refine Z8 ?_ | refine Z9 ?_ | refine ZA ?_ | refine ZB ?_ | refine ZC ?_ | refine ZD ?_ | refine ZE ?_ | refine ZF ?_ | refine ZG ?_ | refine ZH ?_)
    repeat (first | refine kEnd_m ?_ | refine kEnd_f ?_)
    refine kEnd_g ?_ (by first | exact .inl rfl | exact .inr rfl)
    exact Sub.eq rfl rfl
  by_cases h3 : 0 < n
  · have H := be_up r n.toNat hv (by omega) (by omega)
    rwa [show ((n.toNat : Nat) : Int) = n by omega] at H
  · have H := be_dn r (-n).toNat hv (by omega) (by omega)
    rwa [show -(((-n).toNat : Nat) : Int) = n by omega] at H
end Go.Proofs.Ytfkojkciobdeoaa
