/- The function Meet of package span, by the abstract machine. -/
import Derived.Test.YtfkojkciobdeoaaS9
import Derived.Test.YtfkojkciobdeoaaS4
namespace Go.Proofs.Ytfkojkciobdeoaa
open Go.RowKit
set_option linter.unusedVariables false
set_option maxHeartbeats 16000000
set_option linter.unusedSimpArgs false
set_option maxRecDepth 100000
theorem sValid_r (r : Rg) {b : Bool} (h : vB r = b) : DC Try.prog 77 [rD r] (bD b) := sValid_b r.lo r.hi r.st h
theorem rValid_r (r : Rg) {b : Bool} (h : vB r = b) : DC Try.prog 120 [rD r] (bD b) := rValid_b r.lo r.hi r.st h
theorem absI_nat (n : Int) : absI n = (n.natAbs : Int) := by unfold absI; split <;> omega
theorem gcd_a (x y : Int) (hx : absI x ≤ 1000) (hy : absI y ≤ 1000) : DC Try.prog 117 [iD (absI x), iD (absI y)] (iD (Nat.gcd x.natAbs y.natAbs : Nat)) := by
  rw [absI_nat] at hx hy
  rw [absI_nat, absI_nat]
  exact gcd_d _ _ (by omega) (by omega)
/-- the least number with a property -/
theorem least_of {p : Nat → Prop} : ∀ {n : Nat}, p n → ∃ k, p k ∧ ∀ j, j < k → ¬ p j := by
  intro n
  induction n using Nat.strongRecOn with
  | _ n ih =>
    intro h
    by_cases hl : ∃ j, j < n ∧ p j
    · obtain ⟨j, hj, hp⟩ := hl; exact ih j hj hp
    · exact ⟨n, h, fun j hj hp => hl ⟨j, hj, hp⟩⟩
def meets (x y : Rw) (k : Nat) : Prop := y.n ≠ 0 ∧ onGrid x y k
theorem grid_tmod {x y : Rw} {k : Int} : onGrid x y k ↔ (atOf x k - y.f).tmod y.s = 0 := Int.dvd_iff_tmod_eq_zero
theorem meet_use {r s : Rg} (hrk : r.ok) (hsk : s.ok) {k : Nat} (hk : k < perOf (rowOf r).s (rowOf s).s) (hn : (k : Int) < (rowOf r).n) (h0 : (rowOf s).n ≠ 0) :
    ((meetRow (rowOf r) (rowOf s) k (perOf (rowOf r).s (rowOf s).s)).small ∧ (meetRow (rowOf r) (rowOf s) k (perOf (rowOf r).s (rowOf s).s)).s ≠ 0) ∧ DC Try.prog 118 [wD (rowOf r), wD (rowOf s), iD k, iD (perOf (rowOf r).s (rowOf s).s : Nat)] (wD (meetRow (rowOf r) (rowOf s) k (perOf (rowOf r).s (rowOf s).s))) := by
  obtain ⟨p1, p2⟩ := per_in hrk hsk
  obtain ⟨x1, x2, x3, x4, x5, x6, x7, x8⟩ := row_tame hrk
  have ty := row_tame hsk
  obtain ⟨y1, y2, y3, y4, y5, y6, y7, y8⟩ := id ty
  obtain ⟨o1, o2, o3⟩ := out_n (x := rowOf r) (k := k) (p := (perOf (rowOf r).s (rowOf s).s : Nat)) (by omega) hn
  have hout : ∀ j : Int, 0 ≤ j → j < (outRow (rowOf r) k (perOf (rowOf r).s (rowOf s).s : Nat)).n → -1000000 ≤ atOf (outRow (rowOf r) k (perOf (rowOf r).s (rowOf s).s : Nat)) j ∧ atOf (outRow (rowOf r) k (perOf (rowOf r).s (rowOf s).s : Nat)) j ≤ 1000000 := fun j h1 h2 => by
    rw [out_at]
    have := (o3 j h1).1 h2
    refine at_near hrk ?_ this
    have := Int.mul_nonneg (show (0 : Int) ≤ (perOf (rowOf r).s (rowOf s).s : Nat) by omega) h1
    omega
  have o4 : (outRow (rowOf r) k (perOf (rowOf r).s (rowOf s).s : Nat)).n ≤ 2000001 := by rw [o1]; exact ceilK_le (by omega) (by omega) (by omega)
  have hb := prod_step x3 x4 (show (1 : Int) ≤ (perOf (rowOf r).s (rowOf s).s : Nat) by omega) (show ((perOf (rowOf r).s (rowOf s).s : Nat) : Int) ≤ 1000 by omega)
  have hb0 : (rowOf r).s * (perOf (rowOf r).s (rowOf s).s : Nat) ≠ 0 := Int.mul_ne_zero x5 (by omega)
  refine ⟨?_, meet_d _ _ _ _ x1 x2 x3 x4 x5 x7 (by omega) hn (by omega) (by omega) (at_near hrk (by omega) hn) ?_ (tame_small ty) ⟨y1, y2⟩ (y8 h0)⟩
  · unfold meetRow
    split
    · exact ⟨⟨by decide, by decide, by decide, by decide, by decide, by decide⟩, by decide⟩
    · rename_i hlt
      have s1 : 0 ≤ skipOf (rowOf r) (rowOf s) k (perOf (rowOf r).s (rowOf s).s : Nat) := ceilK_nn _ _
      have l1 : 0 ≤ leaveOf (rowOf r) (rowOf s) k (perOf (rowOf r).s (rowOf s).s : Nat) := ceilK_nn _ _
      have := hout _ s1 (by omega)
      refine ⟨⟨by show -1099511627776 ≤ atOf _ _; omega, by show atOf _ _ ≤ 1099511627776; omega, by show -1048576 ≤ (rowOf r).s * (perOf (rowOf r).s (rowOf s).s : Nat); omega, by show (rowOf r).s * (perOf (rowOf r).s (rowOf s).s : Nat) ≤ 1048576; omega, by show 0 ≤ _ - _ - _; omega, by show _ - _ - _ ≤ 4194304; omega⟩, hb0⟩
  · exact hout _ (by omega) (by omega)
set_option maxHeartbeats 8000000 in
theorem sMeetP_d (r s : Rg) : ∃ a e, MeetIs r s a e ∧ DC Try.prog 83 [rD r, rD s] (.tup [rD a, iD e]) := by
  by_cases hv : vB r = true ∧ vB s = true
  case neg =>
    refine ⟨⟨0, 0, 0⟩, 30, .bad hv, ?_⟩
    cases hr : vB r with
    | false =>
      have V := sValid_r r hr
      refine DC.of Try.func83 Try.ntmps83 Try.results83 rfl (by decide +kernel) rfl ?_
      repeat (first | refine Z1 ?_ | refine Z2 ?_ | (refine Z3 ?_; (repeat (first | (apply gS; first | refine go_no ?_ | refine go_f ?_ | refine gm ?_ | refine gp ?_ | refine go_c rfl rfl (V) ?_) | (apply gZ; first | refine go_f ?_ | refine gm ?_))); refine T_nil ?_) | (apply ZR; refine C_dr mixed ?_; (repeat (first | (apply vS; first | refine vn ?_ | refine va ?_ | refine vp ?_ | refine vr ?_ | refine vt ?_ | refine vc (V) ?_) | (apply vZ; refine vs ?_))); refine W_e ?_) | (apply ZK; first | refine Z4 ?_ | refine Z5 ?_) | refine Z6 ?_ | refine Z7 ?_ | refine Z8 ?_ | refine Z9 ?_ | refine ZA ?_ | refine ZB ?_ | refine ZC ?_ | refine ZD ?_ | refine ZE ?_ | refine ZF ?_ | refine ZG ?_ | refine ZH ?_)
      repeat (first | refine kEnd_m ?_ | refine kEnd_f ?_)
      refine kEnd_g ?_ (by first | exact .inl rfl | exact .inr rfl)
      exact Sub.eq rfl rfl
    | true =>
      cases hs : vB s with
      | true => exact absurd ⟨hr, hs⟩ hv
      | false =>
        have V := sValid_r r hr
        have U := sValid_r s hs
        refine DC.of Try.func83 Try.ntmps83 Try.results83 rfl (by decide +kernel) rfl ?_
        repeat (first | refine Z1 ?_ | refine Z2 ?_ | (refine Z3 ?_; (repeat (first | (apply gS; first | refine go_no ?_ | refine go_f ?_ | refine gm ?_ | refine gp ?_ | refine go_c rfl rfl (V) ?_ | refine go_c rfl rfl (U) ?_) | (apply gZ; first | refine go_f ?_ | refine gm ?_))); refine T_nil ?_) | (apply ZR; refine C_dr mixed ?_; (repeat (first | (apply vS; first | refine vn ?_ | refine va ?_ | refine vp ?_ | refine vr ?_ | refine vt ?_ | refine vc (V) ?_ | refine vc (U) ?_) | (apply vZ; refine vs ?_))); refine W_e ?_) | (apply ZK; first | refine Z4 ?_ | refine Z5 ?_) | refine Z6 ?_ | refine Z7 ?_ | refine Z8 ?_ | refine Z9 ?_ | refine ZA ?_ | refine ZB ?_ | refine ZC ?_ | refine ZD ?_ | refine ZE ?_ | refine ZF ?_ | refine ZG ?_ | refine ZH ?_)
        repeat (first | refine kEnd_m ?_ | refine kEnd_f ?_)
        refine kEnd_g ?_ (by first | exact .inl rfl | exact .inr rfl)
        exact Sub.eq rfl rfl
  obtain ⟨hr, hs⟩ := hv
  have V := sValid_r r hr
  have U := sValid_r s hs
  have hrk := vB_okS hr
  have hsk := vB_okS hs
  have X := rowOf_r r hrk
  have Y := rowOf_r s hsk
  have tx := row_tame hrk
  have ty := row_tame hsk
  obtain ⟨x1, x2, x3, x4, x5, x6, x7, x8⟩ := id tx
  obtain ⟨y1, y2, y3, y4, y5, y6, y7, y8⟩ := id ty
  have ax := absI_bd x3 x4 x5
  have ay := absI_bd y3 y4 y5
  have AX := abs_d (rowOf r).s (by omega) (by omega)
  have AY := abs_d (rowOf s).s (by omega) (by omega)
  have GC := gcd_a (rowOf r).s (rowOf s).s ax.2 ay.2
  obtain ⟨p1, p2⟩ := per_in hrk hsk
  have hg : 0 < Nat.gcd (rowOf r).s.natAbs (rowOf s).s.natAbs := Nat.gcd_pos_of_pos_left _ (by omega)
  have E : (absI (rowOf s).s).tdiv ((Nat.gcd (rowOf r).s.natAbs (rowOf s).s.natAbs : Nat) : Int) = (perOf (rowOf r).s (rowOf s).s : Nat) := by
    rw [absI_nat, ← Int.ofNat_tdiv]; rfl
  have hin : ∀ k : Nat, (k : Int) < (rowOf r).n → -1000000 ≤ atOf (rowOf r) k ∧ atOf (rowOf r) k ≤ 1000000 := fun k hk => at_near hrk (by omega) hk
  have AT : ∀ k : Nat, (k : Int) < (rowOf r).n → DC Try.prog 79 [wD (rowOf r), iD k] (iD (atOf (rowOf r) k)) := fun k hk => sAt_d _ _ (at_bd hrk (by omega) (by omega)).1 (at_bd hrk (by omega) (by omega)).2 (by omega) (by omega)
  have hmn := @meet_none r s hr hs
  have hms := @meet_some r s hr hs
  have hmt : ∀ k : Nat, k < perOf (rowOf r).s (rowOf s).s → (k : Int) < (rowOf r).n → (rowOf s).n ≠ 0 → onGrid (rowOf r) (rowOf s) k → ((meetRow (rowOf r) (rowOf s) k (perOf (rowOf r).s (rowOf s).s)).small ∧ (meetRow (rowOf r) (rowOf s) k (perOf (rowOf r).s (rowOf s).s)).s ≠ 0) ∧ DC Try.prog 118 [wD (rowOf r), wD (rowOf s), iD k, iD (perOf (rowOf r).s (rowOf s).s : Nat)] (wD (meetRow (rowOf r) (rowOf s) k (perOf (rowOf r).s (rowOf s).s))) := by
    exact fun k hk hn h0 _ => meet_use hrk hsk hk hn h0
  generalize perOf (rowOf r).s (rowOf s).s = p at *
  generalize Nat.gcd (rowOf r).s.natAbs (rowOf s).s.natAbs = gc at *
  generalize rowOf r = x at *
  generalize rowOf s = y at *
  by_cases hex : ∃ k : Nat, k < p ∧ (k : Int) < x.n ∧ meets x y k
  · obtain ⟨k1, hk1⟩ := hex
    obtain ⟨q, ⟨hq1, hq2, hq3, hq4⟩, hmin⟩ := least_of (p := fun k1 : Nat => k1 < p ∧ (k1 : Int) < x.n ∧ meets x y k1) hk1
    refine ⟨_, _, hms hq1 hq2 hq3 hq4, ?_⟩
    obtain ⟨hsm, MT⟩ := hmt q hq1 hq2 hq3 hq4
    have DN := sDone_d _ hsm.1 hsm.2
    generalize meetRow x y q p = mr at *
    clear hms hmn hmt hk1
    obtain ⟨N, hN⟩ : ∃ N : Nat, (N : Int) = if (p : Int) ≤ x.n then (p : Int) else x.n := ⟨(if (p : Int) ≤ x.n then (p : Int) else x.n).toNat, by split <;> omega⟩
    by_cases hpn : (p : Int) ≤ x.n
    all_goals first | rw [if_pos hpn] at hN | rw [if_neg hpn] at hN
    all_goals
      refine DC.of Try.func83 Try.ntmps83 Try.results83 rfl (by decide +kernel) rfl ?_
      repeat (first | refine Z1 ?_ | refine Z2 ?_ | (refine Z3 ?_; (repeat (first | (apply gS; first | refine go_no ?_ | refine go_f ?_ | refine gm ?_ | refine gp ?_ | refine go_c rfl rfl (V) ?_ | refine go_c rfl rfl (U) ?_ | refine go_c rfl rfl (X) ?_ | refine go_c rfl rfl (Y) ?_ | refine go_c rfl rfl (AX) ?_ | refine go_c rfl rfl (AY) ?_ | refine go_c rfl rfl (GC) ?_) | (apply gZ; first | refine go_f ?_ | refine gm ?_))); refine T_nil ?_) | (apply ZR; refine C_dr mixed ?_; (repeat (first | (apply vS; first | refine vn ?_ | refine va ?_ | refine vp ?_ | refine vr ?_ | refine vt ?_ | refine vc (V) ?_ | refine vc (U) ?_ | refine vc (X) ?_ | refine vc (Y) ?_ | refine vc (AX) ?_ | refine vc (AY) ?_ | refine vc (GC) ?_) | (apply vZ; refine vs ?_))); refine W_e ?_) | (apply ZK; first | refine Z4 ?_ | refine Z5 ?_) | refine Z6 ?_ | refine Z7 ?_ | refine Z8 ?_ | refine Z9 ?_ | refine ZA ?_ | refine ZB ?_ | refine ZC ?_ | refine ZD ?_ | refine ZE ?_ | refine ZF ?_ | refine ZG ?_ | refine ZH ?_)
      refine C_count N (fun k => k ≤ q) (fun k => ⟨3, 69, [(38, iD k), (37, iD N), (8, iD p), (7, .ptr 1 0), (6, .ptr 0 0), (5, iD 0), (4, .ptr 2 0)], [(0, some ⟨82, 3, 1, [iD x.f, iD x.s, iD x.n]⟩), (1, some ⟨82, 3, 1, [iD y.f, iD y.s, iD y.n]⟩), (2, some ⟨39, 3, 1, [iD 0, iD 0, iD 0]⟩)]⟩) ?_ (Nat.zero_le _) ?_
      · exact Wk.go (fun b => cond (Nat.beq b 0) 3 (cond (Nat.beq b 1) 4 (b)))
      · intro k hk hq
        have hkx : (k : Int) < x.n := by omega
        have A := AT k hkx
        have hi := hin k hkx
        by_cases hlt : k = q
        · subst hlt
          have ht := grid_tmod.1 hq4
          repeat (first | refine Z1 ?_ | refine Z2 ?_ | (refine Z3 ?_; (repeat (first | (apply gS; first | refine go_no ?_ | refine go_f ?_ | refine gm ?_ | refine gp ?_ | refine go_c rfl rfl (A) ?_ | refine go_c rfl rfl (MT) ?_ | refine go_c rfl rfl (DN) ?_) | (apply gZ; first | refine go_f ?_ | refine gm ?_))); refine T_nil ?_) | (apply ZR; refine C_dr mixed ?_; (repeat (first | (apply vS; first | refine vn ?_ | refine va ?_ | refine vp ?_ | refine vr ?_ | refine vt ?_ | refine vc (A) ?_ | refine vc (MT) ?_ | refine vc (DN) ?_) | (apply vZ; refine vs ?_))); refine W_e ?_) | (apply ZK; first | refine Z4 ?_ | refine Z5 ?_) | refine Z6 ?_ | refine Z7 ?_ | refine Z8 ?_ | refine Z9 ?_ | refine ZA ?_ | refine ZB ?_ | refine ZC ?_ | refine ZD ?_ | refine ZE ?_ | refine ZF ?_ | refine ZG ?_ | refine ZH ?_)
          repeat (first | refine kEnd_m ?_ | refine kEnd_f ?_)
          refine kEnd_g ?_ (by first | exact .inl rfl | exact .inr rfl)
          exact Sub.eq rfl rfl
        · have ht : ¬ (atOf x k - y.f).tmod y.s = 0 := fun h => hmin k (by omega) ⟨by omega, hkx, hq3, grid_tmod.2 h⟩
          repeat (first | refine Z1 ?_ | refine Z2 ?_ | (refine Z3 ?_; (repeat (first | (apply gS; first | refine go_no ?_ | refine go_f ?_ | refine gm ?_ | refine gp ?_ | refine go_c rfl rfl (A) ?_) | (apply gZ; first | refine go_f ?_ | refine gm ?_))); refine T_nil ?_) | (apply ZR; refine C_dr mixed ?_; (repeat (first | (apply vS; first | refine vn ?_ | refine va ?_ | refine vp ?_ | refine vr ?_ | refine vt ?_ | refine vc (A) ?_) | (apply vZ; refine vs ?_))); refine W_e ?_) | (apply ZK; first | refine Z4 ?_ | refine Z5 ?_) | refine Z6 ?_ | refine Z7 ?_ | refine Z8 ?_ | refine Z9 ?_ | refine ZA ?_ | refine ZB ?_ | refine ZC ?_ | refine ZD ?_ | refine ZE ?_ | refine ZF ?_ | refine ZG ?_ | refine ZH ?_)
          refine kLoop_n ⟨by omega, by omega, ?_⟩
          exact Wk.go (fun b => b)
  · have hno : ∀ k : Nat, k < p → (k : Int) < x.n → y.n = 0 ∨ ¬ onGrid x y k := fun k h1 h2 => by
      by_cases h3 : y.n = 0
      · exact .inl h3
      · exact .inr fun h4 => hex ⟨k, h1, h2, h3, h4⟩
    refine ⟨_, _, hmn hno, ?_⟩
    have DN := sDone_d ⟨0, 1, 0⟩ ⟨by decide, by decide, by decide, by decide, by decide, by decide⟩ (by decide)
    rw [(done_none 0 1).1, (done_none 0 1).2] at DN
    clear hms hmn hmt
    obtain ⟨N, hN⟩ : ∃ N : Nat, (N : Int) = if (p : Int) ≤ x.n then (p : Int) else x.n := ⟨(if (p : Int) ≤ x.n then (p : Int) else x.n).toNat, by split <;> omega⟩
    by_cases hpn : (p : Int) ≤ x.n
    all_goals first | rw [if_pos hpn] at hN | rw [if_neg hpn] at hN
    all_goals
      refine DC.of Try.func83 Try.ntmps83 Try.results83 rfl (by decide +kernel) rfl ?_
      repeat (first | refine Z1 ?_ | refine Z2 ?_ | (refine Z3 ?_; (repeat (first | (apply gS; first | refine go_no ?_ | refine go_f ?_ | refine gm ?_ | refine gp ?_ | refine go_c rfl rfl (V) ?_ | refine go_c rfl rfl (U) ?_ | refine go_c rfl rfl (X) ?_ | refine go_c rfl rfl (Y) ?_ | refine go_c rfl rfl (AX) ?_ | refine go_c rfl rfl (AY) ?_ | refine go_c rfl rfl (GC) ?_) | (apply gZ; first | refine go_f ?_ | refine gm ?_))); refine T_nil ?_) | (apply ZR; refine C_dr mixed ?_; (repeat (first | (apply vS; first | refine vn ?_ | refine va ?_ | refine vp ?_ | refine vr ?_ | refine vt ?_ | refine vc (V) ?_ | refine vc (U) ?_ | refine vc (X) ?_ | refine vc (Y) ?_ | refine vc (AX) ?_ | refine vc (AY) ?_ | refine vc (GC) ?_) | (apply vZ; refine vs ?_))); refine W_e ?_) | (apply ZK; first | refine Z4 ?_ | refine Z5 ?_) | refine Z6 ?_ | refine Z7 ?_ | refine Z8 ?_ | refine Z9 ?_ | refine ZA ?_ | refine ZB ?_ | refine ZC ?_ | refine ZD ?_ | refine ZE ?_ | refine ZF ?_ | refine ZG ?_ | refine ZH ?_)
      refine C_count N (fun k => True) (fun k => ⟨3, 69, [(38, iD k), (37, iD N), (8, iD p), (7, .ptr 1 0), (6, .ptr 0 0), (5, iD 0), (4, .ptr 2 0)], [(0, some ⟨82, 3, 1, [iD x.f, iD x.s, iD x.n]⟩), (1, some ⟨82, 3, 1, [iD y.f, iD y.s, iD y.n]⟩), (2, some ⟨39, 3, 1, [iD 0, iD 0, iD 0]⟩)]⟩) ?_ trivial ?_
      · exact Wk.go (fun b => cond (Nat.beq b 0) 3 (cond (Nat.beq b 1) 4 (b)))
      · intro k hk _
        by_cases hlt : k < N
        · have hkx : (k : Int) < x.n := by omega
          have A := AT k hkx
          have hi := hin k hkx
          by_cases h0 : y.n = 0
          · repeat (first | refine Z1 ?_ | refine Z2 ?_ | (refine Z3 ?_; (repeat (first | (apply gS; first | refine go_no ?_ | refine go_f ?_ | refine gm ?_ | refine gp ?_ | refine go_c rfl rfl (A) ?_) | (apply gZ; first | refine go_f ?_ | refine gm ?_))); refine T_nil ?_) | (apply ZR; refine C_dr mixed ?_; (repeat (first | (apply vS; first | refine vn ?_ | refine va ?_ | refine vp ?_ | refine vr ?_ | refine vt ?_ | refine vc (A) ?_) | (apply vZ; refine vs ?_))); refine W_e ?_) | (apply ZK; first | refine Z4 ?_ | refine Z5 ?_) | refine Z6 ?_ | refine Z7 ?_ | refine Z8 ?_ | refine Z9 ?_ | refine ZA ?_ | refine ZB ?_ | refine ZC ?_ | refine ZD ?_ | refine ZE ?_ | refine ZF ?_ | refine ZG ?_ | refine ZH ?_)
            refine kLoop_n ⟨by omega, trivial, ?_⟩
            exact Wk.go (fun b => b)
          · have ht : ¬ (atOf x k - y.f).tmod y.s = 0 := fun h => ((hno k (by omega) hkx).elim h0 fun h5 => h5 (grid_tmod.2 h))
            repeat (first | refine Z1 ?_ | refine Z2 ?_ | (refine Z3 ?_; (repeat (first | (apply gS; first | refine go_no ?_ | refine go_f ?_ | refine gm ?_ | refine gp ?_ | refine go_c rfl rfl (A) ?_) | (apply gZ; first | refine go_f ?_ | refine gm ?_))); refine T_nil ?_) | (apply ZR; refine C_dr mixed ?_; (repeat (first | (apply vS; first | refine vn ?_ | refine va ?_ | refine vp ?_ | refine vr ?_ | refine vt ?_ | refine vc (A) ?_) | (apply vZ; refine vs ?_))); refine W_e ?_) | (apply ZK; first | refine Z4 ?_ | refine Z5 ?_) | refine Z6 ?_ | refine Z7 ?_ | refine Z8 ?_ | refine Z9 ?_ | refine ZA ?_ | refine ZB ?_ | refine ZC ?_ | refine ZD ?_ | refine ZE ?_ | refine ZF ?_ | refine ZG ?_ | refine ZH ?_)
            refine kLoop_n ⟨by omega, trivial, ?_⟩
            exact Wk.go (fun b => b)
        · repeat (first | refine Z1 ?_ | refine Z2 ?_ | (refine Z3 ?_; (repeat (first | (apply gS; first | refine go_no ?_ | refine go_f ?_ | refine gm ?_ | refine gp ?_ | refine go_c rfl rfl (DN) ?_) | (apply gZ; first | refine go_f ?_ | refine gm ?_))); refine T_nil ?_) | (apply ZR; refine C_dr mixed ?_; (repeat (first | (apply vS; first | refine vn ?_ | refine va ?_ | refine vp ?_ | refine vr ?_ | refine vt ?_ | refine vc (DN) ?_) | (apply vZ; refine vs ?_))); refine W_e ?_) | (apply ZK; first | refine Z4 ?_ | refine Z5 ?_) | refine Z6 ?_ | refine Z7 ?_ | refine Z8 ?_ | refine Z9 ?_ | refine ZA ?_ | refine ZB ?_ | refine ZC ?_ | refine ZD ?_ | refine ZE ?_ | refine ZF ?_ | refine ZG ?_ | refine ZH ?_)
          repeat (first | refine kEnd_m ?_ | refine kEnd_f ?_)
          refine kEnd_g ?_ (by first | exact .inl rfl | exact .inr rfl)
          exact Sub.eq rfl rfl
end Go.Proofs.Ytfkojkciobdeoaa
