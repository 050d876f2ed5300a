/- canon, Canon and done of package domain, by the abstract machine. -/
import Derived.Test.YtifapodobhkdcaaS4
import Derived.Test.YtifapodobhkdcaaRun
import Derived.Test.YtifapodobhkdcaaDsMath
namespace Go.Proofs.Ytifapodobhkdcaa
open Go.RowKit
set_option linter.unusedVariables false
set_option maxHeartbeats 16000000
set_option linter.unusedSimpArgs false
set_option maxRecDepth 100000
abbrev rC (r : Rg) : List D := [iD r.lo, iD r.hi, iD r.st]
abbrev rowR (rs : List Rg) : D := .row rs.length (rs.flatMap rC)
abbrev domD (rs : List Rg) : D := .agg [rowR rs]
abbrev natsI (l : List Nat) : List Int := l.map fun n : Nat => (n : Int)
set_option maxHeartbeats 4000000 in
theorem sIndex_q (l : List Int) (v : Int) (q : Nat) (hq : q < l.length) (hl : l.length ≤ 9223372036854775806) (he : l[q] = v) (hno : ∀ j (h : j < l.length), j < q → l[j] ≠ v) : DC Try.prog 129 [rowI l, iD v] (iD q) := by
  refine DC.of Try.func129 Try.ntmps129 Try.results129 rfl (by decide +kernel) rfl ?_
  repeat (first | refine Z1 ?_ | refine Z2 ?_ | (refine Z3 ?_; (repeat (first | (apply gS; first | refine go_f ?_ | refine gm ?_ | refine gp ?_))); refine T_nil ?_) | (apply ZK; first | refine Z4 ?_ | refine Z5 ?_) | refine Z6 ?_ | refine Z7 ?_ | refine Z8 ?_ | refine Z9 ?_ | refine ZA ?_ | refine ZB ?_ | refine ZC ?_ | refine ZD ?_ | refine ZE ?_ | refine ZF ?_ | refine ZG ?_ | refine ZH ?_)
  refine C_count q (fun _ => True) (fun k => ⟨0, 19, [(8, iD k), (7, iD l.length), (0, rowI l), (1, iD v), (4, iD 0)], []⟩) ?_ trivial ?_
  · exact Wk.go (fun b => b)
  · intro k hk _
    by_cases hlt : k < q
    · have h1 : ¬ v = l[k] := fun e => hno k (by omega) hlt e.symm
      repeat (first | refine Z1 ?_ | refine Z2 ?_ | (refine Z3 ?_; (repeat (first | (apply gS; first | refine go_f ?_ | refine gm ?_ | refine gp ?_))); refine T_nil ?_) | (apply ZK; first | refine Z4 ?_ | refine Z5 ?_) | refine Z6 ?_ | refine Z7 ?_ | refine Z8 ?_ | refine Z9 ?_ | refine ZA ?_ | refine ZB ?_ | refine ZC ?_ | refine ZD ?_ | refine ZE ?_ | refine ZF ?_ | refine ZG ?_ | refine ZH ?_)
      refine kLoop_n ⟨hlt, trivial, ?_⟩
      exact Wk.go (fun b => b)
    · obtain rfl : k = q := by omega
      repeat (first | refine Z1 ?_ | refine Z2 ?_ | (refine Z3 ?_; (repeat (first | (apply gS; first | refine go_f ?_ | refine gm ?_ | refine gp ?_))); refine T_nil ?_) | (apply ZK; first | refine Z4 ?_ | refine Z5 ?_) | refine Z6 ?_ | refine Z7 ?_ | refine Z8 ?_ | refine Z9 ?_ | refine ZA ?_ | refine ZB ?_ | refine ZC ?_ | refine ZD ?_ | refine ZE ?_ | refine ZF ?_ | refine ZG ?_ | refine ZH ?_)
      repeat (first | refine kEnd_m ?_ | refine kEnd_f ?_)
      refine kEnd_g ?_ (by first | exact .inl rfl | exact .inr rfl)
      exact Sub.eq rfl rfl
set_option maxHeartbeats 4000000 in
theorem sIndex_no (l : List Int) (v : Int) (hl : l.length ≤ 9223372036854775806) (hno : ∀ j (h : j < l.length), l[j] ≠ v) : DC Try.prog 129 [rowI l, iD v] (iD (-1)) := by
  refine DC.of Try.func129 Try.ntmps129 Try.results129 rfl (by decide +kernel) rfl ?_
  repeat (first | refine Z1 ?_ | refine Z2 ?_ | (refine Z3 ?_; (repeat (first | (apply gS; first | refine go_f ?_ | refine gm ?_ | refine gp ?_))); refine T_nil ?_) | (apply ZK; first | refine Z4 ?_ | refine Z5 ?_) | refine Z6 ?_ | refine Z7 ?_ | refine Z8 ?_ | refine Z9 ?_ | refine ZA ?_ | refine ZB ?_ | refine ZC ?_ | refine ZD ?_ | refine ZE ?_ | refine ZF ?_ | refine ZG ?_ | refine ZH ?_)
  refine C_count l.length (fun _ => True) (fun k => ⟨0, 19, [(8, iD k), (7, iD l.length), (0, rowI l), (1, iD v), (4, iD 0)], []⟩) ?_ trivial ?_
  · exact Wk.go (fun b => b)
  · intro k hk _
    by_cases hlt : k < l.length
    · have h1 : ¬ v = l[k] := fun e => hno k hlt e.symm
      repeat (first | refine Z1 ?_ | refine Z2 ?_ | (refine Z3 ?_; (repeat (first | (apply gS; first | refine go_f ?_ | refine gm ?_ | refine gp ?_))); refine T_nil ?_) | (apply ZK; first | refine Z4 ?_ | refine Z5 ?_) | refine Z6 ?_ | refine Z7 ?_ | refine Z8 ?_ | refine Z9 ?_ | refine ZA ?_ | refine ZB ?_ | refine ZC ?_ | refine ZD ?_ | refine ZE ?_ | refine ZF ?_ | refine ZG ?_ | refine ZH ?_)
      refine kLoop_n ⟨hlt, trivial, ?_⟩
      exact Wk.go (fun b => b)
    · repeat (first | refine Z1 ?_ | refine Z2 ?_ | (refine Z3 ?_; (repeat (first | (apply gS; first | refine go_f ?_ | refine gm ?_ | refine gp ?_))); refine T_nil ?_) | (apply ZK; first | refine Z4 ?_ | refine Z5 ?_) | refine Z6 ?_ | refine Z7 ?_ | refine Z8 ?_ | refine Z9 ?_ | refine ZA ?_ | refine ZB ?_ | refine ZC ?_ | refine ZD ?_ | refine ZE ?_ | refine ZF ?_ | refine ZG ?_ | refine ZH ?_)
      repeat (first | refine kEnd_m ?_ | refine kEnd_f ?_)
      refine kEnd_g ?_ (by first | exact .inl rfl | exact .inr rfl)
      exact Sub.eq rfl rfl
theorem leastN {p : Nat → Prop} : ∀ {n : Nat}, p n → ∃ k, p k ∧ ∀ j, j < k → ¬ p j := by
  intro n
  induction n using Nat.strongRecOn with
  | _ n ih =>
    intro h
    by_cases hl : ∃ j, j < n ∧ p j
    · obtain ⟨j, hj, hp⟩ := hl; exact ih j hj hp
    · exact ⟨n, h, fun j hj hp => hl ⟨j, hj, hp⟩⟩
theorem sContains_t (l : List Int) (v : Int) (hl : l.length ≤ 9223372036854775806) (h : v ∈ l) : DC Try.prog 155 [rowI l, iD v] (bD true) := by
  obtain ⟨q0, hq0, he0⟩ := List.getElem_of_mem h
  obtain ⟨q, ⟨hq, he⟩, hmin⟩ := leastN (p := fun q => ∃ h : q < l.length, l[q] = v) ⟨hq0, he0⟩
  have X := sIndex_q l v q hq hl he (fun j hj hlt e => hmin j hlt ⟨hj, e⟩)
  refine DC.of Try.func155 Try.ntmps155 Try.results155 rfl (by decide +kernel) rfl ?_
  repeat (first | refine Z1 ?_ | refine Z2 ?_ | (refine Z3 ?_; (repeat (first | (apply gS; first | refine go_f ?_ | refine gm ?_ | refine gp ?_ | refine go_c rfl rfl (X) ?_))); refine T_nil ?_) | (apply ZK; first | refine Z4 ?_ | refine Z5 ?_) | refine Z6 ?_ | refine Z7 ?_)
  repeat (first | refine kEnd_m ?_ | refine kEnd_f ?_)
  refine kEnd_g ?_ (by first | exact .inl rfl | exact .inr rfl)
  exact Sub.eq rfl rfl
theorem sContains_f (l : List Int) (v : Int) (hl : l.length ≤ 9223372036854775806) (h : v ∉ l) : DC Try.prog 155 [rowI l, iD v] (bD false) := by
  have X := sIndex_no l v hl (fun j hj e => h (e ▸ List.getElem_mem hj))
  refine DC.of Try.func155 Try.ntmps155 Try.results155 rfl (by decide +kernel) rfl ?_
  repeat (first | refine Z1 ?_ | refine Z2 ?_ | (refine Z3 ?_; (repeat (first | (apply gS; first | refine go_f ?_ | refine gm ?_ | refine gp ?_ | refine go_c rfl rfl (X) ?_))); refine T_nil ?_) | (apply ZK; first | refine Z4 ?_ | refine Z5 ?_) | refine Z6 ?_ | refine Z7 ?_)
  repeat (first | refine kEnd_m ?_ | refine kEnd_f ?_)
  refine kEnd_g ?_ (by first | exact .inl rfl | exact .inr rfl)
  exact Sub.eq rfl rfl
def countsL (rs : List Rg) : List Int := if domB rs = true then natsI (cl rs) else []
def countsN (rs : List Rg) : Int := if domB rs = true then (prodN (cl rs) : Int) else 0
theorem sCount_ok {r : Rg} (h : vB r = true) : DC Try.prog 108 [rD r] (.tup [iD (cN r), iD 0]) := by
  have H := sCount_d r
  rw [show countRes r = ((rowOf r).n, 0) from if_pos h, ← cN_int h] at H
  exact H
theorem sCount_bad {r : Rg} (h : vB r = false) : DC Try.prog 108 [rD r] (.tup [iD 0, iD 30]) := by
  have H := sCount_d r
  rwa [show countRes r = (0, 30) from if_neg (by rw [h]; decide)] at H
theorem rowI_n {l : List Int} {n : Nat} (h : l.length = n) : rowI l = .row n (intsD l) := by rw [← h]
theorem natsI_succ {rs : List Rg} {k : Nat} (h : k < rs.length) : intsD (natsI (cl (rs.take (k + 1)))) = intsD (natsI (cl (rs.take k))) ++ [iD (cN rs[k])] := by
  rw [List.take_succ_eq_append_getElem h]; simp only [cl, natsI, intsD, List.map_append, List.map_cons, List.map_nil]
set_option maxHeartbeats 8000000 in
theorem counts_d (rs : List Rg) : DC Try.prog 98 [domD rs] (.tup [rowI (countsL rs), iD (countsN rs), bD (domB rs)]) := by
  by_cases hlen : 1 ≤ rs.length ∧ rs.length ≤ 3
  case neg =>
    have hb : domB rs = false := by
      cases h : domB rs with
      | false => rfl
      | true => exact absurd (domB_iff.1 h).1 hlen
    rw [countsL, countsN, hb]
    by_cases h1 : (rs.length : Int) < 1
    · refine DC.of Try.func98 Try.ntmps98 Try.results98 rfl (by decide +kernel) rfl ?_
      repeat (first | refine Z1 ?_ | refine Z2 ?_ | (refine Z3 ?_; (repeat (first | (apply gS; first | refine go_no ?_ | refine go_f ?_ | refine gm ?_ | refine gp ?_) | (apply gZ; first | refine go_f ?_ | refine gm ?_))); refine T_nil ?_) | (apply ZK; first | refine Z4 ?_ | refine Z5 ?_) | refine Z6 ?_ | refine Z7 ?_ | refine Z8 ?_ | refine Z9 ?_ | refine ZA ?_ | refine ZB ?_ | refine ZC ?_ | refine ZD ?_ | refine ZE ?_ | refine ZF ?_ | refine ZG ?_ | refine ZH ?_)
      repeat (first | refine kEnd_m ?_ | refine kEnd_f ?_)
      refine kEnd_g ?_ (by first | exact .inl rfl | exact .inr rfl)
      exact Sub.tup (.cons Sub.nil (.cons (Sub.eq rfl rfl) (.cons (Sub.eq rfl rfl) .nil)))
    · have h2 : (3 : Int) < rs.length := by omega
      clear hlen
      refine DC.of Try.func98 Try.ntmps98 Try.results98 rfl (by decide +kernel) rfl ?_
      repeat (first | refine Z1 ?_ | refine Z2 ?_ | (refine Z3 ?_; (repeat (first | (apply gS; first | refine go_no ?_ | refine go_f ?_ | refine gm ?_ | refine gp ?_) | (apply gZ; first | refine go_f ?_ | refine gm ?_))); refine T_nil ?_) | (apply ZK; first | refine Z4 ?_ | refine Z5 ?_) | refine Z6 ?_ | refine Z7 ?_ | refine Z8 ?_ | refine Z9 ?_ | refine ZA ?_ | refine ZB ?_ | refine ZC ?_ | refine ZD ?_ | refine ZE ?_ | refine ZF ?_ | refine ZG ?_ | refine ZH ?_)
      repeat (first | refine kEnd_m ?_ | refine kEnd_f ?_)
      refine kEnd_g ?_ (by first | exact .inl rfl | exact .inr rfl)
      exact Sub.tup (.cons Sub.nil (.cons (Sub.eq rfl rfl) (.cons (Sub.eq rfl rfl) .nil)))
  obtain ⟨hl1, hl3⟩ := hlen
  by_cases hall : ∀ j (h : j < rs.length), vB rs[j] = true
  case neg =>
    have hb : domB rs = false := by
      cases h : domB rs with
      | false => rfl
      | true => exact absurd (fun j hj => (domB_iff.1 h).2.1 _ (List.getElem_mem hj)) hall
    rw [countsL, countsN, hb]
    have hex : ∃ j, ∃ h : j < rs.length, vB rs[j] = false := by
      apply Classical.byContradiction
      intro hno
      exact hall fun j h => by
        cases hv : vB rs[j] with
        | true => rfl
        | false => exact absurd ⟨j, h, hv⟩ hno
    obtain ⟨q0, hq0⟩ := hex
    obtain ⟨q, ⟨hq, hv⟩, hmin⟩ := leastN (p := fun q => ∃ h : q < rs.length, vB rs[q] = false) hq0
    clear hq0 hall
    refine DC.of Try.func98 Try.ntmps98 Try.results98 rfl (by decide +kernel) rfl ?_
    repeat (first | refine Z1 ?_ | refine Z2 ?_ | (refine Z3 ?_; (repeat (first | (apply gS; first | refine go_no ?_ | refine go_f ?_ | refine gm ?_ | refine gp ?_) | (apply gZ; first | refine go_f ?_ | refine gm ?_))); refine T_nil ?_) | (apply ZK; first | refine Z4 ?_ | refine Z5 ?_) | refine Z6 ?_ | refine Z7 ?_ | refine Z8 ?_ | refine Z9 ?_ | refine ZA ?_ | refine ZB ?_ | refine ZC ?_ | refine ZD ?_ | refine ZE ?_ | refine ZF ?_ | refine ZG ?_ | refine ZH ?_)
    refine C_count q (fun _ => True) (fun k => ⟨2, 59, [(24, iD k), (23, iD rs.length), (22, rowR rs), (2, .own 1 k), (1, .ptr 0 0), (3, iD 0)], [(1, some ⟨3, 1, k, intsD (natsI (cl (rs.take k)))⟩)]⟩) ?_ trivial ?_
    · refine Wk.trans (Wk.adoptT 2 3 1 rfl) ?_
      exact Wk.go (fun b => b)
    · intro k hk _
      have hkl : k < rs.length := by omega
      by_cases hlt : k < q
      · have hvk : vB rs[k] = true := by
          cases h : vB rs[k] with
          | true => rfl
          | false => exact absurd ⟨hkl, h⟩ (hmin k hlt)
        have C := sCount_ok hvk
        have en := natsI_succ hkl
        repeat (first | refine Z1 ?_ | refine Z2 ?_ | (refine Z3 ?_; (repeat (first | (apply gS; first | refine go_no ?_ | refine go_f ?_ | refine gm ?_ | refine gp ?_ | refine go_c rfl rfl (C) ?_) | (apply gZ; first | refine go_f ?_ | refine gm ?_))); refine T_nil ?_) | (apply ZK; first | refine Z4 ?_ | refine Z5 ?_) | refine Z6 ?_ | refine Z7 ?_ | refine Z8 ?_ | refine Z9 ?_ | refine ZA ?_ | refine ZB ?_ | refine ZC ?_ | refine ZD ?_ | refine ZE ?_ | refine ZF ?_ | refine ZG ?_ | refine ZH ?_)

        refine kLoop_n ⟨hlt, trivial, ?_⟩
        exact Wk.go (fun b => cond (Nat.beq b 1) 3 (b))
      · obtain rfl : k = q := by omega
        have C := sCount_bad hv
        repeat (first | refine Z1 ?_ | refine Z2 ?_ | (refine Z3 ?_; (repeat (first | (apply gS; first | refine go_no ?_ | refine go_f ?_ | refine gm ?_ | refine gp ?_ | refine go_c rfl rfl (C) ?_) | (apply gZ; first | refine go_f ?_ | refine gm ?_))); refine T_nil ?_) | (apply ZK; first | refine Z4 ?_ | refine Z5 ?_) | refine Z6 ?_ | refine Z7 ?_ | refine Z8 ?_ | refine Z9 ?_ | refine ZA ?_ | refine ZB ?_ | refine ZC ?_ | refine ZD ?_ | refine ZE ?_ | refine ZF ?_ | refine ZG ?_ | refine ZH ?_)
        repeat (first | refine kEnd_m ?_ | refine kEnd_f ?_)
        refine kEnd_g ?_ (by first | exact .inl rfl | exact .inr rfl)
        exact Sub.tup (.cons Sub.nil (.cons (Sub.eq rfl rfl) (.cons (Sub.eq rfl rfl) .nil)))
  have hv : ∀ r ∈ rs, vB r = true := fun r hr => by
    obtain ⟨j, hj, rfl⟩ := List.getElem_of_mem hr; exact hall j hj
  have hlc : (cl rs).length = rs.length := by simp [cl]
  have hln : (natsI (cl rs)).length = rs.length := by simp [natsI, hlc]
  have htk : cl (rs.take rs.length) = cl rs := by rw [List.take_length]
  by_cases hz : 0 ∈ cl rs
  · have hp0 : prodN (cl rs) = 0 := prodN_zero.2 hz
    have hb : domB rs = true := domB_iff.2 ⟨⟨hl1, hl3⟩, hv, by omega⟩
    rw [countsL, countsN, hb, if_pos rfl, if_pos rfl, hp0]
    have Z := sContains_t (natsI (cl rs)) 0 (by omega) (List.mem_map.2 ⟨0, hz, rfl⟩)
    rw [rowI_n hln] at Z ⊢
    refine DC.of Try.func98 Try.ntmps98 Try.results98 rfl (by decide +kernel) rfl ?_
    repeat (first | refine Z1 ?_ | refine Z2 ?_ | (refine Z3 ?_; (repeat (first | (apply gS; first | refine go_no ?_ | refine go_f ?_ | refine gm ?_ | refine gp ?_) | (apply gZ; first | refine go_f ?_ | refine gm ?_))); refine T_nil ?_) | (apply ZK; first | refine Z4 ?_ | refine Z5 ?_) | refine Z6 ?_ | refine Z7 ?_ | refine Z8 ?_ | refine Z9 ?_ | refine ZA ?_ | refine ZB ?_ | refine ZC ?_ | refine ZD ?_ | refine ZE ?_ | refine ZF ?_ | refine ZG ?_ | refine ZH ?_)
    refine C_count rs.length (fun _ => True) (fun k => ⟨2, 59, [(24, iD k), (23, iD rs.length), (22, rowR rs), (2, .own 1 k), (1, .ptr 0 0), (3, iD 0)], [(1, some ⟨3, 1, k, intsD (natsI (cl (rs.take k)))⟩)]⟩) ?_ trivial ?_
    · refine Wk.trans (Wk.adoptT 2 3 1 rfl) ?_
      exact Wk.go (fun b => b)
    · intro k hk _
      by_cases hlt : k < rs.length
      · have C := sCount_ok (hall k hlt)
        have en := natsI_succ hlt
        repeat (first | refine Z1 ?_ | refine Z2 ?_ | (refine Z3 ?_; (repeat (first | (apply gS; first | refine go_no ?_ | refine go_f ?_ | refine gm ?_ | refine gp ?_ | refine go_c rfl rfl (C) ?_) | (apply gZ; first | refine go_f ?_ | refine gm ?_))); refine T_nil ?_) | (apply ZK; first | refine Z4 ?_ | refine Z5 ?_) | refine Z6 ?_ | refine Z7 ?_ | refine Z8 ?_ | refine Z9 ?_ | refine ZA ?_ | refine ZB ?_ | refine ZC ?_ | refine ZD ?_ | refine ZE ?_ | refine ZF ?_ | refine ZG ?_ | refine ZH ?_)
        refine kLoop_n ⟨hlt, trivial, ?_⟩
        exact Wk.go (fun b => cond (Nat.beq b 1) 3 (b))
      · obtain rfl : k = rs.length := by omega
        rw [htk]
        repeat (first | refine Z1 ?_ | refine Z2 ?_ | (refine Z3 ?_; (repeat (first | (apply gS; first | refine go_no ?_ | refine go_f ?_ | refine gm ?_ | refine gp ?_ | refine go_c rfl rfl (Z) ?_) | (apply gZ; first | refine go_f ?_ | refine gm ?_))); refine T_nil ?_) | (apply ZK; first | refine Z4 ?_ | refine Z5 ?_) | refine Z6 ?_ | refine Z7 ?_ | refine Z8 ?_ | refine Z9 ?_ | refine ZA ?_ | refine ZB ?_ | refine ZC ?_ | refine ZD ?_ | refine ZE ?_ | refine ZF ?_ | refine ZG ?_ | refine ZH ?_)
        repeat (first | refine kEnd_m ?_ | refine kEnd_f ?_)
        refine kEnd_g ?_ (by first | exact .inl rfl | exact .inr rfl)
        exact Sub.eq rfl rfl
  have hno : (0 : Int) ∉ natsI (cl rs) := fun h => by
    obtain ⟨n, hn, e⟩ := List.mem_map.1 h
    have : n = 0 := by omega
    subst this; exact hz hn
  have Z := sContains_f (natsI (cl rs)) 0 (by omega) hno
  rw [rowI_n hln] at Z
  have hget : ∀ k (h : k < rs.length), (natsI (cl rs))[k]'(by omega) = (((cl rs)[k]'(by omega) : Nat) : Int) := fun k h => by simp [natsI]
  have hstep : ∀ k (h : k < rs.length), prodN ((cl rs).take (k + 1)) = prodN ((cl rs).take k) * (cl rs)[k]'(by omega) := fun k h => prodN_take k (by omega)
  have hpos : ∀ k, 1 ≤ prodN ((cl rs).take k) := fun k => (prodN_le hz k).1
  have hdiv : ∀ P c : Nat, 1 ≤ P → ∃ q : Nat, (4096 : Int).tdiv (P : Int) = q ∧ (q < c ↔ 4096 < c * P) := fun P c hP => ⟨4096 / P, by rw [Int.ofNat_tdiv]; rfl, Nat.div_lt_iff_lt_mul hP⟩
  by_cases hp : prodN (cl rs) ≤ 4096
  · have hb : domB rs = true := domB_iff.2 ⟨⟨hl1, hl3⟩, hv, hp⟩
    rw [countsL, countsN, hb, if_pos rfl, if_pos rfl, rowI_n hln]
    refine DC.of Try.func98 Try.ntmps98 Try.results98 rfl (by decide +kernel) rfl ?_
    repeat (first | refine Z1 ?_ | refine Z2 ?_ | (refine Z3 ?_; (repeat (first | (apply gS; first | refine go_no ?_ | refine go_f ?_ | refine gm ?_ | refine gp ?_) | (apply gZ; first | refine go_f ?_ | refine gm ?_))); refine T_nil ?_) | (apply ZK; first | refine Z4 ?_ | refine Z5 ?_) | refine Z6 ?_ | refine Z7 ?_ | refine Z8 ?_ | refine Z9 ?_ | refine ZA ?_ | refine ZB ?_ | refine ZC ?_ | refine ZD ?_ | refine ZE ?_ | refine ZF ?_ | refine ZG ?_ | refine ZH ?_)
    refine C_count rs.length (fun _ => True) (fun k => ⟨2, 59, [(24, iD k), (23, iD rs.length), (22, rowR rs), (2, .own 1 k), (1, .ptr 0 0), (3, iD 0)], [(1, some ⟨3, 1, k, intsD (natsI (cl (rs.take k)))⟩)]⟩) ?_ trivial ?_
    · refine Wk.trans (Wk.adoptT 2 3 1 rfl) ?_
      exact Wk.go (fun b => b)
    · intro k hk _
      by_cases hlt : k < rs.length
      · have C := sCount_ok (hall k hlt)
        have en := natsI_succ hlt
        repeat (first | refine Z1 ?_ | refine Z2 ?_ | (refine Z3 ?_; (repeat (first | (apply gS; first | refine go_no ?_ | refine go_f ?_ | refine gm ?_ | refine gp ?_ | refine go_c rfl rfl (C) ?_) | (apply gZ; first | refine go_f ?_ | refine gm ?_))); refine T_nil ?_) | (apply ZK; first | refine Z4 ?_ | refine Z5 ?_) | refine Z6 ?_ | refine Z7 ?_ | refine Z8 ?_ | refine Z9 ?_ | refine ZA ?_ | refine ZB ?_ | refine ZC ?_ | refine ZD ?_ | refine ZE ?_ | refine ZF ?_ | refine ZG ?_ | refine ZH ?_)
        refine kLoop_n ⟨hlt, trivial, ?_⟩
        exact Wk.go (fun b => cond (Nat.beq b 1) 3 (b))
      · obtain rfl : k = rs.length := by omega
        rw [htk]
        repeat (first | refine Z1 ?_ | refine Z2 ?_ | (refine Z3 ?_; (repeat (first | (apply gS; first | refine go_no ?_ | refine go_f ?_ | refine gm ?_ | refine gp ?_ | refine go_c rfl rfl (Z) ?_) | (apply gZ; first | refine go_f ?_ | refine gm ?_))); refine T_nil ?_) | (apply ZK; first | refine Z4 ?_ | refine Z5 ?_) | refine Z6 ?_ | refine Z7 ?_ | refine Z8 ?_ | refine Z9 ?_ | refine ZA ?_ | refine ZB ?_ | refine ZC ?_ | refine ZD ?_ | refine ZE ?_ | refine ZF ?_ | refine ZG ?_ | refine ZH ?_)
        refine C_count rs.length (fun _ => True) (fun k => ⟨2, 59, [(45, iD k), (44, iD rs.length), (43, .row rs.length (intsD (natsI (cl rs)))), (3, iD (prodN ((cl rs).take k) : Nat)), (2, .row rs.length (intsD (natsI (cl rs))))], []⟩) ?_ trivial ?_
        · exact Wk.go (fun b => b)
        · intro k hk _
          by_cases hlt : k < rs.length
          · have e1 := hget k hlt
            have e2 := hstep k hlt
            have e3 := hpos k
            have e4 := (prodN_le hz (k + 1)).2
            have e5 := Int.natCast_mul (prodN ((cl rs).take k)) ((cl rs)[k]'(by omega))
            obtain ⟨q, e6, e7⟩ := hdiv (prodN ((cl rs).take k)) ((cl rs)[k]'(by omega)) e3
            rw [← e1] at e5
            rw [Nat.mul_comm, ← e2] at e7
            rw [← e2] at e5
            repeat (first | refine Z1 ?_ | refine Z2 ?_ | (refine Z3 ?_; (repeat (first | (apply gS; first | refine go_no ?_ | refine go_f ?_ | refine gm ?_ | refine gp ?_) | (apply gZ; first | refine go_f ?_ | refine gm ?_))); refine T_nil ?_) | (apply ZK; first | refine Z4 ?_ | refine Z5 ?_) | refine Z6 ?_ | refine Z7 ?_ | refine Z8 ?_ | refine Z9 ?_ | refine ZA ?_ | refine ZB ?_ | refine ZC ?_ | refine ZD ?_ | refine ZE ?_ | refine ZF ?_ | refine ZG ?_ | refine ZH ?_)
            refine kLoop_n ⟨hlt, trivial, ?_⟩
            exact Wk.go (fun b => b)
          · obtain rfl : k = rs.length := by omega
            rw [← hlc, List.take_length, hlc]
            repeat (first | refine Z1 ?_ | refine Z2 ?_ | (refine Z3 ?_; (repeat (first | (apply gS; first | refine go_no ?_ | refine go_f ?_ | refine gm ?_ | refine gp ?_) | (apply gZ; first | refine go_f ?_ | refine gm ?_))); refine T_nil ?_) | (apply ZK; first | refine Z4 ?_ | refine Z5 ?_) | refine Z6 ?_ | refine Z7 ?_ | refine Z8 ?_ | refine Z9 ?_ | refine ZA ?_ | refine ZB ?_ | refine ZC ?_ | refine ZD ?_ | refine ZE ?_ | refine ZF ?_ | refine ZG ?_ | refine ZH ?_)
            repeat (first | refine kEnd_m ?_ | refine kEnd_f ?_)
            refine kEnd_g ?_ (by first | exact .inl rfl | exact .inr rfl)
            exact Sub.eq rfl rfl
  · have hb : domB rs = false := by
      cases h : domB rs with
      | false => rfl
      | true => exact absurd (domB_iff.1 h).2.2 hp
    rw [countsL, countsN, hb]
    obtain ⟨q, ⟨hq, hqp⟩, hmin⟩ := leastN (p := fun k => k < rs.length ∧ 4096 < prodN ((cl rs).take (k + 1))) (n := rs.length - 1) ⟨by omega, by rw [show rs.length - 1 + 1 = (cl rs).length by omega, List.take_length]; omega⟩
    have hle : ∀ k, k ≤ q → prodN ((cl rs).take k) ≤ 4096 := fun k hk => by
      cases k with
      | zero => simp [prodN]
      | succ k => have := hmin k (by omega); omega
    refine DC.of Try.func98 Try.ntmps98 Try.results98 rfl (by decide +kernel) rfl ?_
    repeat (first | refine Z1 ?_ | refine Z2 ?_ | (refine Z3 ?_; (repeat (first | (apply gS; first | refine go_no ?_ | refine go_f ?_ | refine gm ?_ | refine gp ?_) | (apply gZ; first | refine go_f ?_ | refine gm ?_))); refine T_nil ?_) | (apply ZK; first | refine Z4 ?_ | refine Z5 ?_) | refine Z6 ?_ | refine Z7 ?_ | refine Z8 ?_ | refine Z9 ?_ | refine ZA ?_ | refine ZB ?_ | refine ZC ?_ | refine ZD ?_ | refine ZE ?_ | refine ZF ?_ | refine ZG ?_ | refine ZH ?_)
    refine C_count rs.length (fun _ => True) (fun k => ⟨2, 59, [(24, iD k), (23, iD rs.length), (22, rowR rs), (2, .own 1 k), (1, .ptr 0 0), (3, iD 0)], [(1, some ⟨3, 1, k, intsD (natsI (cl (rs.take k)))⟩)]⟩) ?_ trivial ?_
    · refine Wk.trans (Wk.adoptT 2 3 1 rfl) ?_
      exact Wk.go (fun b => b)
    · intro k hk _
      by_cases hlt : k < rs.length
      · have C := sCount_ok (hall k hlt)
        have en := natsI_succ hlt
        repeat (first | refine Z1 ?_ | refine Z2 ?_ | (refine Z3 ?_; (repeat (first | (apply gS; first | refine go_no ?_ | refine go_f ?_ | refine gm ?_ | refine gp ?_ | refine go_c rfl rfl (C) ?_) | (apply gZ; first | refine go_f ?_ | refine gm ?_))); refine T_nil ?_) | (apply ZK; first | refine Z4 ?_ | refine Z5 ?_) | refine Z6 ?_ | refine Z7 ?_ | refine Z8 ?_ | refine Z9 ?_ | refine ZA ?_ | refine ZB ?_ | refine ZC ?_ | refine ZD ?_ | refine ZE ?_ | refine ZF ?_ | refine ZG ?_ | refine ZH ?_)
        refine kLoop_n ⟨hlt, trivial, ?_⟩
        exact Wk.go (fun b => cond (Nat.beq b 1) 3 (b))
      · obtain rfl : k = rs.length := by omega
        rw [htk]
        repeat (first | refine Z1 ?_ | refine Z2 ?_ | (refine Z3 ?_; (repeat (first | (apply gS; first | refine go_no ?_ | refine go_f ?_ | refine gm ?_ | refine gp ?_ | refine go_c rfl rfl (Z) ?_) | (apply gZ; first | refine go_f ?_ | refine gm ?_))); refine T_nil ?_) | (apply ZK; first | refine Z4 ?_ | refine Z5 ?_) | refine Z6 ?_ | refine Z7 ?_ | refine Z8 ?_ | refine Z9 ?_ | refine ZA ?_ | refine ZB ?_ | refine ZC ?_ | refine ZD ?_ | refine ZE ?_ | refine ZF ?_ | refine ZG ?_ | refine ZH ?_)
        refine C_count q (fun _ => True) (fun k => ⟨2, 59, [(45, iD k), (44, iD rs.length), (43, .row rs.length (intsD (natsI (cl rs)))), (3, iD (prodN ((cl rs).take k) : Nat)), (2, .row rs.length (intsD (natsI (cl rs))))], []⟩) ?_ trivial ?_
        · exact Wk.go (fun b => b)
        · intro k hk _
          have hlt : k < rs.length := by omega
          have e1 := hget k hlt
          have e2 := hstep k hlt
          have e3 := hpos k
          have e4 := hle k hk
          have e5 := Int.natCast_mul (prodN ((cl rs).take k)) ((cl rs)[k]'(by omega))
          obtain ⟨q', e6, e7⟩ := hdiv (prodN ((cl rs).take k)) ((cl rs)[k]'(by omega)) e3
          rw [← e1] at e5
          rw [Nat.mul_comm, ← e2] at e7
          rw [← e2] at e5
          by_cases hkq : k < q
          · have e8 := hle (k + 1) (by omega)
            repeat (first | refine Z1 ?_ | refine Z2 ?_ | (refine Z3 ?_; (repeat (first | (apply gS; first | refine go_no ?_ | refine go_f ?_ | refine gm ?_ | refine gp ?_) | (apply gZ; first | refine go_f ?_ | refine gm ?_))); refine T_nil ?_) | (apply ZK; first | refine Z4 ?_ | refine Z5 ?_) | refine Z6 ?_ | refine Z7 ?_ | refine Z8 ?_ | refine Z9 ?_ | refine ZA ?_ | refine ZB ?_ | refine ZC ?_ | refine ZD ?_ | refine ZE ?_ | refine ZF ?_ | refine ZG ?_ | refine ZH ?_)
            refine kLoop_n ⟨hkq, trivial, ?_⟩
            exact Wk.go (fun b => b)
          · obtain rfl : k = q := by omega
            repeat (first | refine Z1 ?_ | refine Z2 ?_ | (refine Z3 ?_; (repeat (first | (apply gS; first | refine go_no ?_ | refine go_f ?_ | refine gm ?_ | refine gp ?_) | (apply gZ; first | refine go_f ?_ | refine gm ?_))); refine T_nil ?_) | (apply ZK; first | refine Z4 ?_ | refine Z5 ?_) | refine Z6 ?_ | refine Z7 ?_ | refine Z8 ?_ | refine Z9 ?_ | refine ZA ?_ | refine ZB ?_ | refine ZC ?_ | refine ZD ?_ | refine ZE ?_ | refine ZF ?_ | refine ZG ?_ | refine ZH ?_)
            repeat (first | refine kEnd_m ?_ | refine kEnd_f ?_)
            refine kEnd_g ?_ (by first | exact .inl rfl | exact .inr rfl)
            exact Sub.tup (.cons Sub.nil (.cons (Sub.eq rfl rfl) (.cons (Sub.eq rfl rfl) .nil)))
end Go.Proofs.Ytifapodobhkdcaa
namespace Go.Proofs.Ytifapodobhkdcaa
set_option linter.unusedVariables false
set_option maxHeartbeats 16000000
theorem first_bad {α : Type} (p : α → Bool) (l : List α) : (∀ j (h : j < l.length), p l[j] = true) ∨ ∃ q, ∃ h : q < l.length, p l[q] = false ∧ ∀ j (hj : j < l.length), j < q → p l[j] = true := by
  by_cases hall : ∀ j (h : j < l.length), p l[j] = true
  · exact .inl hall
  · have hex : ∃ j, ∃ h : j < l.length, p l[j] = false := by
      apply Classical.byContradiction
      intro hno
      exact hall fun j h => by
        cases hv : p l[j] with
        | true => rfl
        | false => exact absurd ⟨j, h, hv⟩ hno
    obtain ⟨q0, hq0⟩ := hex
    obtain ⟨q, ⟨hq, hv⟩, hmin⟩ := leastN (p := fun q => ∃ h : q < l.length, p l[q] = false) hq0
    exact .inr ⟨q, hq, hv, fun j hj hlt => by
      cases hv : p l[j] with
      | true => rfl
      | false => exact absurd ⟨hj, hv⟩ (hmin j hlt)⟩
theorem all_yes {α : Type} {p : α → Bool} {l : List α} (h : ∀ j (h : j < l.length), p l[j] = true) : l.all p = true := by
  rw [List.all_eq_true]
  intro x hx
  obtain ⟨j, hj, rfl⟩ := List.getElem_of_mem hx
  exact h j hj
theorem all_no {α : Type} {p : α → Bool} {l : List α} {q : Nat} (hq : q < l.length) (h : p l[q] = false) : l.all p = false := by
  cases ha : l.all p with
  | false => rfl
  | true => rw [List.all_eq_true.1 ha _ (List.getElem_mem hq)] at h; cases h
end Go.Proofs.Ytifapodobhkdcaa
namespace Go.Proofs.Ytifapodobhkdcaa
open Go.RowKit
set_option linter.unusedVariables false
set_option maxHeartbeats 16000000
set_option linter.unusedSimpArgs false
set_option maxRecDepth 100000
theorem dValid_b (rs : List Rg) {b : Bool} (h : domB rs = b) : DC Try.prog 50 [domD rs] (bD b) := by
  have C := counts_d rs
  rw [h] at C
  refine DC.of Try.func50 Try.ntmps50 Try.results50 rfl (by decide +kernel) rfl ?_
  repeat (first | refine Z1 ?_ | refine Z2 ?_ | (refine Z3 ?_; (repeat (first | (apply gS; first | refine go_f ?_ | refine gm ?_ | refine gp ?_ | refine go_c rfl rfl (C) ?_))); refine T_nil ?_) | (apply ZK; first | refine Z4 ?_ | refine Z5 ?_) | refine Z6 ?_ | refine Z7 ?_)
  repeat (first | refine kEnd_m ?_ | refine kEnd_f ?_)
  refine kEnd_g ?_ (by first | exact .inl rfl | exact .inr rfl)
  exact Sub.eq rfl rfl
def dCountRes (rs : List Rg) : Int × Int := if domB rs = true then (prodN (cl rs), 0) else (0, 40)
theorem dCount_d (rs : List Rg) : DC Try.prog 49 [domD rs] (.tup [iD (dCountRes rs).1, iD (dCountRes rs).2]) := by
  have C := counts_d rs
  unfold dCountRes
  unfold countsN at C
  cases h : domB rs <;> rw [h] at C
  all_goals
    refine DC.of Try.func49 Try.ntmps49 Try.results49 rfl (by decide +kernel) rfl ?_
    repeat (first | refine Z1 ?_ | refine Z2 ?_ | (refine Z3 ?_; (repeat (first | (apply gS; first | refine go_f ?_ | refine gm ?_ | refine gp ?_ | refine go_c rfl rfl (C) ?_))); refine T_nil ?_) | (apply ZK; first | refine Z4 ?_ | refine Z5 ?_) | refine Z6 ?_ | refine Z7 ?_ | refine ZF ?_)
    repeat (first | refine kEnd_m ?_ | refine kEnd_f ?_)
    refine kEnd_g ?_ (by first | exact .inl rfl | exact .inr rfl)
    exact Sub.eq rfl rfl
def dRankRes (rs : List Rg) : Int × Int := if domB rs = true then (rs.length, 0) else (0, 40)
theorem sIth_ok {r : Rg} (h : vB r = true) {i : Nat} (hi : i < cN r) : DC Try.prog 156 [rD r, iD i] (.tup [iD (atOf (rowOf r) i), iD 0]) := by
  have H := sIth_d r i
  have := cN_int h
  rwa [show ithRes r i = (atOf (rowOf r) i, 0) by rw [ithRes, if_pos h, if_pos ⟨by omega, by omega⟩]] at H
theorem set_mid {α : Type} (a : List α) (x y : α) (b : List α) {n : Nat} (hn : n = a.length) : (a ++ x :: b).set n y = a ++ y :: b := by
  subst hn
  rw [List.set_append_right _ _ (Nat.le_refl _), Nat.sub_self]; rfl
set_option maxHeartbeats 8000000 in
theorem index_d (rs : List Rg) (i : Nat) (hd : domB rs = true) (hi : i < prodN (cl rs)) : DC Try.prog 99 [domD rs, rowI (natsI (cl rs)), iD i] (rowI (ithX rs i)) := by
  obtain ⟨⟨hl1, hl3⟩, hv, hp⟩ := domB_iff.1 hd
  have hlc : (cl rs).length = rs.length := by simp [cl]
  have hln : (natsI (cl rs)).length = rs.length := by simp [natsI, hlc]
  have hz : 0 ∉ cl rs := fun h => by have := prodN_zero.2 h; omega
  have hget : ∀ k (h : k < rs.length), (natsI (cl rs))[k]'(by omega) = ((cN rs[k] : Nat) : Int) := fun k h => by simp [natsI, cl]
  have hcpos : ∀ k (h : k < rs.length), 1 ≤ cN rs[k] := fun k h => by
    rcases Nat.eq_zero_or_pos (cN rs[k]) with e | e
    · exact absurd (List.mem_map.2 ⟨rs[k], List.getElem_mem h, e⟩) hz
    · exact e
  rw [rowI_n hln]
  refine DC.of Try.func99 Try.ntmps99 Try.results99 rfl (by decide +kernel) rfl ?_
  repeat (first | refine Z1 ?_ | refine Z2 ?_ | (refine Z3 ?_; (repeat (first | (apply gS; first | refine go_f ?_ | refine gm ?_ | refine gp ?_) | (apply gZ; first | refine go_f ?_ | refine gm ?_))); refine T_nil ?_) | (apply ZR; refine C_dr mixed ?_; (repeat (first | (apply vS; first | refine va ?_ | refine vp ?_ | refine vr ?_ | refine vt ?_) | (apply vZ; first | refine vs ?_))); refine W_e ?_) | (apply ZK; first | refine Z4 ?_ | refine Z5 ?_) | refine Z6 ?_ | refine Z7 ?_ | refine Z8 ?_ | refine Z9 ?_ | refine ZA ?_ | refine ZB ?_ | refine ZC ?_ | refine ZD ?_ | refine ZE ?_ | refine ZF ?_ | refine ZG ?_ | refine ZH ?_)
  refine C_loop (σ := {k : Nat // k ≤ rs.length}) (fun k => ⟨2, 44, [(8, iD ((k.1 : Int) - 1)), (7, .own 1 rs.length), (3, .ptr 0 0), (2, iD (i / prodN (cl (rs.drop k.1)) : Nat)), (1, .row rs.length (intsD (natsI (cl rs))))], [(0, some ⟨24, 1, 1, [rowR rs]⟩), (1, some ⟨3, 1, rs.length, List.replicate k.1 (iD 0) ++ intsD (ithX (rs.drop k.1) (i % prodN (cl (rs.drop k.1))))⟩)]⟩) (fun k => k.1) ⟨rs.length, Nat.le_refl _⟩ ?_ ?_
  · have e1 : ithX (rs.drop rs.length) (i % prodN (cl (rs.drop rs.length))) = [] := by rw [List.drop_length]; rfl
    have e2 : i / prodN (cl (rs.drop rs.length)) = i := by rw [List.drop_length]; simp [cl, prodN]
    simp only [e1, e2]
    have e3 : List.replicate rs.length (iD 0) ++ intsD [] = List.replicate rs.length (iD 0) := by simp [intsD]
    rw [e3]
    exact Wk.go (fun b => b)
  · rintro ⟨k, hk⟩
    simp only
    cases k with
    | zero =>
      have e1 : ((0 : Nat) : Int) - 1 = -1 := by omega
      have e2 : List.replicate 0 (iD 0) ++ intsD (ithX (rs.drop 0) (i % prodN (cl (rs.drop 0)))) = intsD (ithX rs i) := by rw [List.drop_zero, Nat.mod_eq_of_lt hi]; rfl
      rw [e1, e2]
      repeat (first | refine Z1 ?_ | refine Z2 ?_ | (refine Z3 ?_; (repeat (first | (apply gS; first | refine go_f ?_ | refine gm ?_ | refine gp ?_) | (apply gZ; first | refine go_f ?_ | refine gm ?_))); refine T_nil ?_) | (apply ZR; refine C_dr mixed ?_; (repeat (first | (apply vS; first | refine va ?_ | refine vp ?_ | refine vr ?_ | refine vt ?_) | (apply vZ; first | refine vs ?_))); refine W_e ?_) | (apply ZK; first | refine Z4 ?_ | refine Z5 ?_) | refine Z6 ?_ | refine Z7 ?_ | refine Z8 ?_ | refine Z9 ?_ | refine ZA ?_ | refine ZB ?_ | refine ZC ?_ | refine ZD ?_ | refine ZE ?_ | refine ZF ?_ | refine ZG ?_ | refine ZH ?_)
      repeat (first | refine kEnd_m ?_ | refine kEnd_f ?_)
      refine kEnd_g ?_ (by first | exact .inl rfl | exact .inr rfl)
      exact Sub.eq (by rw [rowI_n (ithX_len rs i)]; rfl) rfl
    | succ m =>
      have hm : m < rs.length := by omega
      have e1 : ((m + 1 : Nat) : Int) - 1 = (m : Int) := by omega
      rw [e1]
      obtain ⟨s1, s2⟩ := ithX_step hm i
      have hQ : i / prodN (cl (rs.drop (m + 1))) ≤ 4096 := Nat.le_trans (Nat.div_le_self _ _) (by omega)
      generalize hqe : i / prodN (cl (rs.drop (m + 1))) = Q at *
      have g1 := hget m hm
      have g2 := hcpos m hm
      have I := sIth_ok (hv _ (List.getElem_mem hm)) (i := Q % cN rs[m]) (Nat.mod_lt _ g2)
      have hvm := hv _ (List.getElem_mem hm)
      have c1 := cN_le hvm
      rw [show ((Q % cN rs[m] : Nat) : Int) = ((Q : Nat) : Int).tmod ((natsI (cl rs))[m]'(by omega)) by rw [g1, ← Int.ofNat_tmod]] at I
      have q1 : ((Q : Nat) : Int).tdiv ((natsI (cl rs))[m]'(by omega)) = ((i / prodN (cl (rs.drop m)) : Nat) : Int) := by rw [g1, ← Int.ofNat_tdiv, s2]
      have en : List.replicate m (iD 0) ++ intsD (ithX (rs.drop m) (i % prodN (cl (rs.drop m)))) = (List.replicate (m + 1) (iD 0) ++ intsD (ithX (rs.drop (m + 1)) (i % prodN (cl (rs.drop (m + 1)))))).set (((m : Nat) : Int).toNat * 1) (iD (atOf (rowOf rs[m]) (((Q : Nat) : Int).tmod ((natsI (cl rs))[m]'(by omega))))) := by
        rw [s1, List.replicate_succ', List.append_assoc]
        show _ = (List.replicate m (iD 0) ++ iD 0 :: intsD _).set _ _
        rw [set_mid _ _ _ _ (by simp), g1, ← Int.ofNat_tmod]
        rfl
      repeat (first | refine Z1 ?_ | refine Z2 ?_ | (refine Z3 ?_; (repeat (first | (apply gS; first | refine go_f ?_ | refine gm ?_ | refine gp ?_ | refine go_c rfl rfl (I) ?_) | (apply gZ; first | refine go_f ?_ | refine gm ?_))); refine T_nil ?_) | (apply ZR; refine C_dr mixed ?_; (repeat (first | (apply vS; first | refine va ?_ | refine vp ?_ | refine vr ?_ | refine vt ?_ | refine vc (I) ?_) | (apply vZ; first | refine vs ?_))); refine W_e ?_) | (apply ZK; first | refine Z4 ?_ | refine Z5 ?_) | refine Z6 ?_ | refine Z7 ?_ | refine Z8 ?_ | refine Z9 ?_ | refine ZA ?_ | refine ZB ?_ | refine ZC ?_ | refine ZD ?_ | refine ZE ?_ | refine ZF ?_ | refine ZG ?_ | refine ZH ?_)
      refine kLoop_n ⟨⟨m, by omega⟩, Nat.lt_succ_self m, ?_⟩
      dsimp only
      exact Wk.go (fun b => b)
end Go.Proofs.Ytifapodobhkdcaa
namespace Go.Proofs.Ytifapodobhkdcaa
open Go.RowKit
set_option linter.unusedVariables false
set_option maxHeartbeats 16000000
set_option linter.unusedSimpArgs false
set_option maxRecDepth 100000
abbrev rowL2 (ls : List (List Int)) : D := .row ls.length (ls.map rowI)
def dIthRes (rs : List Rg) (i : Int) : List Int × Int := if domB rs = true then (if 0 ≤ i ∧ i < prodN (cl rs) then (ithX rs i.toNat, 0) else ([], 2)) else ([], 40)
theorem dIth_d (rs : List Rg) (i : Int) : DC Try.prog 27 [domD rs, iD i] (.tup [rowI (dIthRes rs i).1, iD (dIthRes rs i).2]) := by
  have C := counts_d rs
  unfold dIthRes
  unfold countsN countsL at C
  cases h : domB rs <;> rw [h] at C
  · refine DC.of Try.func27 Try.ntmps27 Try.results27 rfl (by decide +kernel) rfl ?_
    repeat (first | refine Z1 ?_ | refine Z2 ?_ | (refine Z3 ?_; (repeat (first | (apply gS; first | refine go_no ?_ | refine go_f ?_ | refine gm ?_ | refine gp ?_ | refine go_c rfl rfl (C) ?_))); refine T_nil ?_) | (apply ZK; first | refine Z4 ?_ | refine Z5 ?_) | refine Z6 ?_ | refine Z7 ?_ | refine Z8 ?_ | refine Z9 ?_ | refine ZA ?_ | refine ZB ?_ | refine ZC ?_ | refine ZF ?_)
    repeat (first | refine kEnd_m ?_ | refine kEnd_f ?_)
    refine kEnd_g ?_ (by first | exact .inl rfl | exact .inr rfl)
    exact Sub.tup (.cons Sub.nil (.cons (Sub.eq rfl rfl) .nil))
  · rw [if_pos rfl] at C ⊢
    rw [if_pos rfl] at C
    by_cases hi : 0 ≤ i ∧ i < prodN (cl rs)
    · rw [if_pos hi]
      have I := index_d rs i.toNat h (by omega)
      rw [show ((i.toNat : Nat) : Int) = i by omega] at I
      refine DC.of Try.func27 Try.ntmps27 Try.results27 rfl (by decide +kernel) rfl ?_
      repeat (first | refine Z1 ?_ | refine Z2 ?_ | (refine Z3 ?_; (repeat (first | (apply gS; first | refine go_no ?_ | refine go_f ?_ | refine gm ?_ | refine gp ?_ | refine go_c rfl rfl (C) ?_ | refine go_c rfl rfl (I) ?_))); refine T_nil ?_) | (apply ZK; first | refine Z4 ?_ | refine Z5 ?_) | refine Z6 ?_ | refine Z7 ?_ | refine Z8 ?_ | refine Z9 ?_ | refine ZA ?_ | refine ZB ?_ | refine ZC ?_ | refine ZF ?_)
      repeat (first | refine kEnd_m ?_ | refine kEnd_f ?_)
      refine kEnd_g ?_ (by first | exact .inl rfl | exact .inr rfl)
      exact Sub.eq rfl rfl
    · rw [if_neg hi]
      by_cases h0 : i < 0
      · refine DC.of Try.func27 Try.ntmps27 Try.results27 rfl (by decide +kernel) rfl ?_
        repeat (first | refine Z1 ?_ | refine Z2 ?_ | (refine Z3 ?_; (repeat (first | (apply gS; first | refine go_no ?_ | refine go_f ?_ | refine gm ?_ | refine gp ?_ | refine go_c rfl rfl (C) ?_))); refine T_nil ?_) | (apply ZK; first | refine Z4 ?_ | refine Z5 ?_) | refine Z6 ?_ | refine Z7 ?_ | refine Z8 ?_ | refine Z9 ?_ | refine ZA ?_ | refine ZB ?_ | refine ZC ?_ | refine ZF ?_)
        repeat (first | refine kEnd_m ?_ | refine kEnd_f ?_)
        refine kEnd_g ?_ (by first | exact .inl rfl | exact .inr rfl)
        exact Sub.tup (.cons Sub.nil (.cons (Sub.eq rfl rfl) .nil))
      · have h1 : (prodN (cl rs) : Int) ≤ i := by omega
        clear hi
        refine DC.of Try.func27 Try.ntmps27 Try.results27 rfl (by decide +kernel) rfl ?_
        repeat (first | refine Z1 ?_ | refine Z2 ?_ | (refine Z3 ?_; (repeat (first | (apply gS; first | refine go_no ?_ | refine go_f ?_ | refine gm ?_ | refine gp ?_ | refine go_c rfl rfl (C) ?_))); refine T_nil ?_) | (apply ZK; first | refine Z4 ?_ | refine Z5 ?_) | refine Z6 ?_ | refine Z7 ?_ | refine Z8 ?_ | refine Z9 ?_ | refine ZA ?_ | refine ZB ?_ | refine ZC ?_ | refine ZF ?_)
        repeat (first | refine kEnd_m ?_ | refine kEnd_f ?_)
        refine kEnd_g ?_ (by first | exact .inl rfl | exact .inr rfl)
        exact Sub.tup (.cons Sub.nil (.cons (Sub.eq rfl rfl) .nil))
def dIndexesRes (rs : List Rg) : List (List Int) × Int := if domB rs = true then (idxs rs, 0) else ([], 40)
theorem range_snoc (f : Nat → List Int) (k : Nat) : ((List.range (k + 1)).map f).map rowI = ((List.range k).map f).map rowI ++ [rowI (f k)] := by simp only [List.range_succ, List.map_append, List.map_cons, List.map_nil]
theorem dIndexes_d (rs : List Rg) : DC Try.prog 25 [domD rs] (.tup [rowL2 (dIndexesRes rs).1, iD (dIndexesRes rs).2]) := by
  have C := counts_d rs
  unfold dIndexesRes
  unfold countsN countsL at C
  cases h : domB rs <;> rw [h] at C
  · refine DC.of Try.func25 Try.ntmps25 Try.results25 rfl (by decide +kernel) rfl ?_
    repeat (first | refine Z1 ?_ | refine Z2 ?_ | (refine Z3 ?_; (repeat (first | (apply gS; first | refine go_f ?_ | refine gm ?_ | refine gp ?_ | refine go_c rfl rfl (C) ?_))); refine T_nil ?_) | (apply ZK; first | refine Z4 ?_ | refine Z5 ?_) | refine Z6 ?_ | refine Z7 ?_ | refine Z8 ?_ | refine Z9 ?_ | refine ZA ?_ | refine ZB ?_ | refine ZC ?_ | refine ZD ?_ | refine ZE ?_ | refine ZF ?_ | refine ZG ?_ | refine ZH ?_)
    repeat (first | refine kEnd_m ?_ | refine kEnd_f ?_)
    refine kEnd_g ?_ (by first | exact .inl rfl | exact .inr rfl)
    exact Sub.tup (.cons Sub.nil (.cons (Sub.eq rfl rfl) .nil))
  · rw [if_pos rfl] at C ⊢
    rw [if_pos rfl] at C
    have hp := (domB_iff.1 h).2.2
    refine DC.of Try.func25 Try.ntmps25 Try.results25 rfl (by decide +kernel) rfl ?_
    repeat (first | refine Z1 ?_ | refine Z2 ?_ | (refine Z3 ?_; (repeat (first | (apply gS; first | refine go_f ?_ | refine gm ?_ | refine gp ?_ | refine go_c rfl rfl (C) ?_))); refine T_nil ?_) | (apply ZK; first | refine Z4 ?_ | refine Z5 ?_) | refine Z6 ?_ | refine Z7 ?_ | refine Z8 ?_ | refine Z9 ?_ | refine ZA ?_ | refine ZB ?_ | refine ZC ?_ | refine ZD ?_ | refine ZE ?_ | refine ZF ?_ | refine ZG ?_ | refine ZH ?_)
    refine C_count (prodN (cl rs)) (fun _ => True) (fun k => ⟨2, 30, [(18, iD k), (17, iD (prodN (cl rs) : Nat)), (7, .own 1 k), (4, rowI (natsI (cl rs))), (1, .ptr 0 0)], [(0, some ⟨24, 1, 1, [rowR rs]⟩), (1, some ⟨25, 1, k, ((List.range k).map (ithX rs)).map rowI⟩)]⟩) ?_ trivial ?_
    · refine Wk.trans (Wk.adoptT 7 25 1 rfl) ?_
      exact Wk.go (fun b => b)
    · intro k hk _
      by_cases hlt : k < prodN (cl rs)
      · have I := index_d rs k h hlt
        have en := range_snoc (ithX rs) k
        repeat (first | refine Z1 ?_ | refine Z2 ?_ | (refine Z3 ?_; (repeat (first | (apply gS; first | refine go_f ?_ | refine gm ?_ | refine gp ?_ | refine go_c rfl rfl (I) ?_))); refine T_nil ?_) | (apply ZK; first | refine Z4 ?_ | refine Z5 ?_) | refine Z6 ?_ | refine Z7 ?_ | refine Z8 ?_ | refine Z9 ?_ | refine ZA ?_ | refine ZB ?_ | refine ZC ?_ | refine ZD ?_ | refine ZE ?_ | refine ZF ?_ | refine ZG ?_ | refine ZH ?_)
        refine kLoop_n ⟨hlt, trivial, ?_⟩
        exact Wk.go (fun b => cond (Nat.beq b 1) 2 (b))
      · obtain rfl : k = prodN (cl rs) := by omega
        repeat (first | refine Z1 ?_ | refine Z2 ?_ | (refine Z3 ?_; (repeat (first | (apply gS; first | refine go_f ?_ | refine gm ?_ | refine gp ?_))); refine T_nil ?_) | (apply ZK; first | refine Z4 ?_ | refine Z5 ?_) | refine Z6 ?_ | refine Z7 ?_ | refine Z8 ?_ | refine Z9 ?_ | refine ZA ?_ | refine ZB ?_ | refine ZC ?_ | refine ZD ?_ | refine ZE ?_ | refine ZF ?_ | refine ZG ?_ | refine ZH ?_)
        repeat (first | refine kEnd_m ?_ | refine kEnd_f ?_)
        refine kEnd_g ?_ (by first | exact .inl rfl | exact .inr rfl)
        refine Sub.tup (.cons (Sub.eq ?_ ?_) (.cons (Sub.eq rfl rfl) .nil))
        · rw [idxs_eq]; simp [frz2, frz1]
        · rfl
theorem prod_cap : ∀ {rs : List Rg}, (∀ r ∈ rs, vB r = true) → prodN (cl rs) ≤ 2000001 ^ rs.length
  | [], _ => by simp [cl, prodN]
  | r :: rs, h => by
    show cN r * prodN (cl rs) ≤ _
    rw [List.length_cons, Nat.pow_succ, Nat.mul_comm]
    exact Nat.mul_le_mul (prod_cap fun r hr => h r (by simp [hr])) (cN_le (h r (by simp)))
theorem sPlace_ok {r : Rg} {x : Int} (h : vB r = true) (hp : placeB (rowOf r) x = true) : DC Try.prog 100 [rD r, iD x] (.tup [iD ((placeI (rowOf r) x).toNat : Nat), iD 0]) := by
  have H := sPlaceP_d r x
  obtain ⟨i, hi, hx⟩ := (memb_place (vB_ok' h) x).2 hp
  have hn := at_near (vB_ok' h) (i := i) (by omega) hi
  rw [hx] at hn
  rw [show placeRes r x = (placeI (rowOf r) x, 0) by rw [placeRes, if_pos h, if_pos hn, if_pos hp]] at H
  rw [show (((placeI (rowOf r) x).toNat : Nat) : Int) = placeI (rowOf r) x by have := (at_place hp).1; omega]
  exact H
theorem sPlace_no {r : Rg} {x : Int} (h : vB r = true) (hp : placeB (rowOf r) x = false) : DC Try.prog 100 [rD r, iD x] (.tup [iD 0, iD 5]) := by
  have H := sPlaceP_d r x
  rw [show placeRes r x = (0, 5) by rw [placeRes, if_pos h, hp]; split <;> rfl] at H
  exact H
theorem inB_iff : ∀ {rs : List Rg} {xs : List Int}, xs.length = rs.length → (inB rs xs = true ↔ ∀ k (h1 : k < rs.length) (h2 : k < xs.length), placeB (rowOf rs[k]) xs[k] = true)
  | [], [], _ => by simp [inB]
  | [], _ :: _, h => by simp at h
  | _ :: _, [], h => by simp at h
  | r :: rs, x :: xs, h => by
    simp only [inB, Bool.and_eq_true]
    rw [inB_iff (rs := rs) (xs := xs) (by simpa using h)]
    constructor
    · rintro ⟨h1, h2⟩ k k1 k2
      cases k with
      | zero => exact h1
      | succ k => exact h2 k (by simpa using k1) (by simpa using k2)
    · intro h1
      exact ⟨h1 0 (by simp) (by simp), fun k k1 k2 => h1 (k + 1) (by simpa using k1) (by simpa using k2)⟩
theorem placeV_snoc : ∀ {rs : List Rg} {xs : List Int} (a : Nat) (r : Rg) (x : Int), xs.length = rs.length → placeV (rs ++ [r]) (xs ++ [x]) a = placeV rs xs a * cN r + (placeI (rowOf r) x).toNat
  | [], [], a, r, x, _ => rfl
  | [], _ :: _, _, _, _, h => by simp at h
  | _ :: _, [], _, _, _, h => by simp at h
  | s :: rs, y :: xs, a, r, x, h => placeV_snoc (a * cN s + (placeI (rowOf s) y).toNat) r x (by simpa using h)
def dPlaceRes (rs : List Rg) (x : List Int) : Int × Int := if domB rs = true then (if x.length = rs.length then (if inB rs x = true then ((placeV rs x 0 : Nat), 0) else (0, 5)) else (0, 2)) else (0, 40)
set_option maxHeartbeats 8000000 in
theorem dPlace_d (rs : List Rg) (x : List Int) : DC Try.prog 26 [domD rs, rowI x] (.tup [iD (dPlaceRes rs x).1, iD (dPlaceRes rs x).2]) := by
  have C := counts_d rs
  unfold dPlaceRes
  unfold countsN countsL at C
  cases h : domB rs <;> rw [h] at C
  · refine DC.of Try.func26 Try.ntmps26 Try.results26 rfl (by decide +kernel) rfl ?_
    repeat (first | refine Z1 ?_ | refine Z2 ?_ | (refine Z3 ?_; (repeat (first | (apply gS; first | refine go_f ?_ | refine gm ?_ | refine gp ?_ | refine go_c rfl rfl (C) ?_) | (apply gZ; first | refine go_f ?_ | refine gm ?_))); refine T_nil ?_) | (apply ZR; refine C_dr mixed ?_; (repeat (first | (apply vS; first | refine va ?_ | refine vp ?_ | refine vr ?_ | refine vt ?_ | refine vc (C) ?_) | (apply vZ; first | refine vs ?_))); refine W_e ?_) | (apply ZK; first | refine Z4 ?_ | refine Z5 ?_) | refine Z6 ?_ | refine Z7 ?_ | refine Z8 ?_ | refine Z9 ?_ | refine ZA ?_ | refine ZB ?_ | refine ZC ?_ | refine ZD ?_ | refine ZE ?_ | refine ZF ?_ | refine ZG ?_ | refine ZH ?_)
    repeat (first | refine kEnd_m ?_ | refine kEnd_f ?_)
    refine kEnd_g ?_ (by first | exact .inl rfl | exact .inr rfl)
    exact Sub.eq rfl rfl
  rw [if_pos rfl] at C ⊢
  rw [if_pos rfl] at C
  have hln : (natsI (cl rs)).length = rs.length := by simp [natsI, cl]
  rw [rowI_n hln] at C
  by_cases hl : x.length = rs.length
  case neg =>
    rw [if_neg hl]
    have hl' : ¬ (x.length : Int) = rs.length := by omega
    refine DC.of Try.func26 Try.ntmps26 Try.results26 rfl (by decide +kernel) rfl ?_
    repeat (first | refine Z1 ?_ | refine Z2 ?_ | (refine Z3 ?_; (repeat (first | (apply gS; first | refine go_f ?_ | refine gm ?_ | refine gp ?_ | refine go_c rfl rfl (C) ?_) | (apply gZ; first | refine go_f ?_ | refine gm ?_))); refine T_nil ?_) | (apply ZR; refine C_dr mixed ?_; (repeat (first | (apply vS; first | refine va ?_ | refine vp ?_ | refine vr ?_ | refine vt ?_ | refine vc (C) ?_) | (apply vZ; first | refine vs ?_))); refine W_e ?_) | (apply ZK; first | refine Z4 ?_ | refine Z5 ?_) | refine Z6 ?_ | refine Z7 ?_ | refine Z8 ?_ | refine Z9 ?_ | refine ZA ?_ | refine ZB ?_ | refine ZC ?_ | refine ZD ?_ | refine ZE ?_ | refine ZF ?_ | refine ZG ?_ | refine ZH ?_)
    repeat (first | refine kEnd_m ?_ | refine kEnd_f ?_)
    refine kEnd_g ?_ (by first | exact .inl rfl | exact .inr rfl)
    exact Sub.eq rfl rfl
  rw [if_pos hl]
  have hl' : (x.length : Int) = rs.length := by omega
  obtain ⟨⟨hl1, hl3⟩, hv, hp⟩ := domB_iff.1 h
  have hget : ∀ k (h : k < rs.length), (natsI (cl rs))[k]'(by omega) = ((cN rs[k] : Nat) : Int) := fun k h => by simp [natsI, cl]
  have hcap : ∀ k, prodN (cl (rs.take k)) ≤ 8000012000006000001 := fun k => by
    refine Nat.le_trans (prod_cap fun r hr => hv r (List.mem_of_mem_take hr)) ?_
    refine Nat.le_trans (Nat.pow_le_pow_right (by decide) (show (rs.take k).length ≤ 3 by rw [List.length_take]; omega)) (by decide)
  have hstep : ∀ k (h1 : k < rs.length) (h2 : k < x.length), placeV (rs.take (k + 1)) (x.take (k + 1)) 0 = placeV (rs.take k) (x.take k) 0 * cN rs[k] + (placeI (rowOf rs[k]) x[k]).toNat := fun k h1 h2 => by
    rw [List.take_succ_eq_append_getElem h1, List.take_succ_eq_append_getElem h2, placeV_snoc _ _ _ (by rw [List.length_take, List.length_take]; omega)]
  have hlt : ∀ q, (∀ j (h1 : j < rs.length) (h2 : j < x.length), j < q → placeB (rowOf rs[j]) x[j] = true) → placeV (rs.take q) (x.take q) 0 ≤ 8000012000006000001 := fun q hq => by
    have hin : inB (rs.take q) (x.take q) = true := (inB_iff (by rw [List.length_take, List.length_take]; omega)).2 fun k k1 k2 => by
      rw [List.getElem_take, List.getElem_take]
      rw [List.length_take] at k1
      exact hq k (by omega) (by omega) (by omega)
    obtain ⟨v, e1, e2, _⟩ := placeV_ok 0 (fun r hr => hv r (List.mem_of_mem_take hr)) hin
    have := hcap q
    omega
  by_cases hin : inB rs x = true
  · rw [if_pos hin]
    have hall := (inB_iff hl).1 hin
    refine DC.of Try.func26 Try.ntmps26 Try.results26 rfl (by decide +kernel) rfl ?_
    repeat (first | refine Z1 ?_ | refine Z2 ?_ | (refine Z3 ?_; (repeat (first | (apply gS; first | refine go_f ?_ | refine gm ?_ | refine gp ?_ | refine go_c rfl rfl (C) ?_) | (apply gZ; first | refine go_f ?_ | refine gm ?_))); refine T_nil ?_) | (apply ZR; refine C_dr mixed ?_; (repeat (first | (apply vS; first | refine va ?_ | refine vp ?_ | refine vr ?_ | refine vt ?_ | refine vc (C) ?_) | (apply vZ; first | refine vs ?_))); refine W_e ?_) | (apply ZK; first | refine Z4 ?_ | refine Z5 ?_) | refine Z6 ?_ | refine Z7 ?_ | refine Z8 ?_ | refine Z9 ?_ | refine ZA ?_ | refine ZB ?_ | refine ZC ?_ | refine ZD ?_ | refine ZE ?_ | refine ZF ?_ | refine ZG ?_ | refine ZH ?_)
    refine C_count rs.length (fun _ => True) (fun k => ⟨1, 58, [(32, iD k), (31, iD rs.length), (30, rowR rs), (9, iD (placeV (rs.take k) (x.take k) 0 : Nat)), (6, .row rs.length (intsD (natsI (cl rs)))), (1, rowI x)], []⟩) ?_ trivial ?_
    · have e0 : placeV (rs.take 0) (x.take 0) 0 = 0 := rfl
      exact Wk.go (fun b => b)
    · intro k hk _
      by_cases hk' : k < rs.length
      · have hkx : k < x.length := by omega
        have P := sPlace_ok (hv _ (List.getElem_mem hk')) (hall k hk' hkx)
        have g1 := hget k hk'
        have b1 := hlt (k + 1) (fun j h1 h2 _ => hall j h1 h2)
        rw [hstep k hk' hkx] at b1
        have b2 := Int.natCast_mul (placeV (rs.take k) (x.take k) 0) (cN rs[k])
        have s1 := hstep k hk' hkx
        rw [← g1] at b2
        repeat (first | refine Z1 ?_ | refine Z2 ?_ | (refine Z3 ?_; (repeat (first | (apply gS; first | refine go_f ?_ | refine gm ?_ | refine gp ?_ | refine go_c rfl rfl (P) ?_) | (apply gZ; first | refine go_f ?_ | refine gm ?_))); refine T_nil ?_) | (apply ZR; refine C_dr mixed ?_; (repeat (first | (apply vS; first | refine va ?_ | refine vp ?_ | refine vr ?_ | refine vt ?_ | refine vc (P) ?_) | (apply vZ; first | refine vs ?_))); refine W_e ?_) | (apply ZK; first | refine Z4 ?_ | refine Z5 ?_) | refine Z6 ?_ | refine Z7 ?_ | refine Z8 ?_ | refine Z9 ?_ | refine ZA ?_ | refine ZB ?_ | refine ZC ?_ | refine ZD ?_ | refine ZE ?_ | refine ZF ?_ | refine ZG ?_ | refine ZH ?_)
        refine kLoop_n ⟨hk', trivial, ?_⟩
        exact Wk.go (fun b => b)
      · obtain rfl : k = rs.length := by omega
        repeat (first | refine Z1 ?_ | refine Z2 ?_ | (refine Z3 ?_; (repeat (first | (apply gS; first | refine go_f ?_ | refine gm ?_ | refine gp ?_) | (apply gZ; first | refine go_f ?_ | refine gm ?_))); refine T_nil ?_) | (apply ZR; refine C_dr mixed ?_; (repeat (first | (apply vS; first | refine va ?_ | refine vp ?_ | refine vr ?_ | refine vt ?_) | (apply vZ; first | refine vs ?_))); refine W_e ?_) | (apply ZK; first | refine Z4 ?_ | refine Z5 ?_) | refine Z6 ?_ | refine Z7 ?_ | refine Z8 ?_ | refine Z9 ?_ | refine ZA ?_ | refine ZB ?_ | refine ZC ?_ | refine ZD ?_ | refine ZE ?_ | refine ZF ?_ | refine ZG ?_ | refine ZH ?_)
        repeat (first | refine kEnd_m ?_ | refine kEnd_f ?_)
        refine kEnd_g ?_ (by first | exact .inl rfl | exact .inr rfl)
        refine Sub.eq (by rw [List.take_length, ← hl, List.take_length]; rfl) rfl
  · rw [if_neg hin]
    have hex : ∃ k, ∃ h1 : k < rs.length, ∃ h2 : k < x.length, placeB (rowOf rs[k]) x[k] = false := by
      apply Classical.byContradiction
      intro hno
      exact hin ((inB_iff hl).2 fun k k1 k2 => by
        cases hb : placeB (rowOf rs[k]) x[k] with
        | true => rfl
        | false => exact absurd ⟨k, k1, k2, hb⟩ hno)
    obtain ⟨q0, hq0⟩ := hex
    obtain ⟨q, ⟨q1, q2, q3⟩, hmin⟩ := leastN (p := fun k => ∃ h1 : k < rs.length, ∃ h2 : k < x.length, placeB (rowOf rs[k]) x[k] = false) hq0
    have hall : ∀ j (h1 : j < rs.length) (h2 : j < x.length), j < q → placeB (rowOf rs[j]) x[j] = true := fun j h1 h2 hj => by
      cases hb : placeB (rowOf rs[j]) x[j] with
      | true => rfl
      | false => exact absurd ⟨h1, h2, hb⟩ (hmin j hj)
    clear hq0 hmin hin
    refine DC.of Try.func26 Try.ntmps26 Try.results26 rfl (by decide +kernel) rfl ?_
    repeat (first | refine Z1 ?_ | refine Z2 ?_ | (refine Z3 ?_; (repeat (first | (apply gS; first | refine go_f ?_ | refine gm ?_ | refine gp ?_ | refine go_c rfl rfl (C) ?_) | (apply gZ; first | refine go_f ?_ | refine gm ?_))); refine T_nil ?_) | (apply ZR; refine C_dr mixed ?_; (repeat (first | (apply vS; first | refine va ?_ | refine vp ?_ | refine vr ?_ | refine vt ?_ | refine vc (C) ?_) | (apply vZ; first | refine vs ?_))); refine W_e ?_) | (apply ZK; first | refine Z4 ?_ | refine Z5 ?_) | refine Z6 ?_ | refine Z7 ?_ | refine Z8 ?_ | refine Z9 ?_ | refine ZA ?_ | refine ZB ?_ | refine ZC ?_ | refine ZD ?_ | refine ZE ?_ | refine ZF ?_ | refine ZG ?_ | refine ZH ?_)
    refine C_count q (fun _ => True) (fun k => ⟨1, 58, [(32, iD k), (31, iD rs.length), (30, rowR rs), (9, iD (placeV (rs.take k) (x.take k) 0 : Nat)), (6, .row rs.length (intsD (natsI (cl rs)))), (1, rowI x)], []⟩) ?_ trivial ?_
    · have e0 : placeV (rs.take 0) (x.take 0) 0 = 0 := rfl
      exact Wk.go (fun b => b)
    · intro k hk _
      have hk' : k < rs.length := by omega
      have hkx : k < x.length := by omega
      by_cases hkq : k < q
      · have P := sPlace_ok (hv _ (List.getElem_mem hk')) (hall k hk' hkx hkq)
        have g1 := hget k hk'
        have b1 := hlt (k + 1) (fun j h1 h2 hj => hall j h1 h2 (by omega))
        rw [hstep k hk' hkx] at b1
        have b2 := Int.natCast_mul (placeV (rs.take k) (x.take k) 0) (cN rs[k])
        have s1 := hstep k hk' hkx
        rw [← g1] at b2
        repeat (first | refine Z1 ?_ | refine Z2 ?_ | (refine Z3 ?_; (repeat (first | (apply gS; first | refine go_f ?_ | refine gm ?_ | refine gp ?_ | refine go_c rfl rfl (P) ?_) | (apply gZ; first | refine go_f ?_ | refine gm ?_))); refine T_nil ?_) | (apply ZR; refine C_dr mixed ?_; (repeat (first | (apply vS; first | refine va ?_ | refine vp ?_ | refine vr ?_ | refine vt ?_ | refine vc (P) ?_) | (apply vZ; first | refine vs ?_))); refine W_e ?_) | (apply ZK; first | refine Z4 ?_ | refine Z5 ?_) | refine Z6 ?_ | refine Z7 ?_ | refine Z8 ?_ | refine Z9 ?_ | refine ZA ?_ | refine ZB ?_ | refine ZC ?_ | refine ZD ?_ | refine ZE ?_ | refine ZF ?_ | refine ZG ?_ | refine ZH ?_)
        refine kLoop_n ⟨hkq, trivial, ?_⟩
        exact Wk.go (fun b => b)
      · obtain rfl : k = q := by omega
        have P := sPlace_no (hv _ (List.getElem_mem hk')) q3
        repeat (first | refine Z1 ?_ | refine Z2 ?_ | (refine Z3 ?_; (repeat (first | (apply gS; first | refine go_f ?_ | refine gm ?_ | refine gp ?_ | refine go_c rfl rfl (P) ?_) | (apply gZ; first | refine go_f ?_ | refine gm ?_))); refine T_nil ?_) | (apply ZR; refine C_dr mixed ?_; (repeat (first | (apply vS; first | refine va ?_ | refine vp ?_ | refine vr ?_ | refine vt ?_ | refine vc (P) ?_) | (apply vZ; first | refine vs ?_))); refine W_e ?_) | (apply ZK; first | refine Z4 ?_ | refine Z5 ?_) | refine Z6 ?_ | refine Z7 ?_ | refine Z8 ?_ | refine Z9 ?_ | refine ZA ?_ | refine ZB ?_ | refine ZC ?_ | refine ZD ?_ | refine ZE ?_ | refine ZF ?_ | refine ZG ?_ | refine ZH ?_)
        repeat (first | refine kEnd_m ?_ | refine kEnd_f ?_)
        refine kEnd_g ?_ (by first | exact .inl rfl | exact .inr rfl)
        exact Sub.eq rfl rfl
def dHasRes (rs : List Rg) (x : List Int) : Bool × Int := if domB rs = true then (if x.length = rs.length then (inB rs x, 0) else (false, 2)) else (false, 40)
theorem dHas_d (rs : List Rg) (x : List Int) : DC Try.prog 33 [domD rs, rowI x] (.tup [bD (dHasRes rs x).1, iD (dHasRes rs x).2]) := by
  have P := dPlace_d rs x
  unfold dHasRes
  unfold dPlaceRes at P
  cases h : domB rs <;> rw [h] at P
  · refine DC.of Try.func33 Try.ntmps33 Try.results33 rfl (by decide +kernel) rfl ?_
    repeat (first | refine Z1 ?_ | refine Z2 ?_ | (refine Z3 ?_; (repeat (first | (apply gS; first | refine go_f ?_ | refine gm ?_ | refine gp ?_ | refine go_c rfl rfl (P) ?_))); refine T_nil ?_) | (apply ZK; first | refine Z4 ?_ | refine Z5 ?_) | refine Z6 ?_ | refine Z7 ?_ | refine ZF ?_)
    repeat (first | refine kEnd_m ?_ | refine kEnd_f ?_)
    refine kEnd_g ?_ (by first | exact .inl rfl | exact .inr rfl)
    exact Sub.eq rfl rfl
  rw [if_pos rfl] at P ⊢
  by_cases hl : x.length = rs.length
  · rw [if_pos hl] at P ⊢
    cases hb : inB rs x <;> rw [hb] at P
    all_goals
      refine DC.of Try.func33 Try.ntmps33 Try.results33 rfl (by decide +kernel) rfl ?_
      repeat (first | refine Z1 ?_ | refine Z2 ?_ | (refine Z3 ?_; (repeat (first | (apply gS; first | refine go_f ?_ | refine gm ?_ | refine gp ?_ | refine go_c rfl rfl (P) ?_))); refine T_nil ?_) | (apply ZK; first | refine Z4 ?_ | refine Z5 ?_) | refine Z6 ?_ | refine Z7 ?_ | refine ZF ?_)
      repeat (first | refine kEnd_m ?_ | refine kEnd_f ?_)
      refine kEnd_g ?_ (by first | exact .inl rfl | exact .inr rfl)
      exact Sub.eq rfl rfl
  · rw [if_neg hl] at P ⊢
    refine DC.of Try.func33 Try.ntmps33 Try.results33 rfl (by decide +kernel) rfl ?_
    repeat (first | refine Z1 ?_ | refine Z2 ?_ | (refine Z3 ?_; (repeat (first | (apply gS; first | refine go_f ?_ | refine gm ?_ | refine gp ?_ | refine go_c rfl rfl (P) ?_))); refine T_nil ?_) | (apply ZK; first | refine Z4 ?_ | refine Z5 ?_) | refine Z6 ?_ | refine Z7 ?_ | refine ZF ?_)
    repeat (first | refine kEnd_m ?_ | refine kEnd_f ?_)
    refine kEnd_g ?_ (by first | exact .inl rfl | exact .inr rfl)
    exact Sub.eq rfl rfl
end Go.Proofs.Ytifapodobhkdcaa
namespace Go.Proofs.Ytifapodobhkdcaa
open Go.RowKit
set_option linter.unusedVariables false
set_option maxHeartbeats 16000000
set_option linter.unusedSimpArgs false
set_option maxRecDepth 100000
def canonRs (rs : List Rg) : List Rg := rs.map fun r => if prodN (cl rs) = 0 then ⟨1, 0, 1⟩ else canonOf (rowOf r)
theorem sCanon_ok {r : Rg} (h : vB r = true) : DC Try.prog 165 [rD r] (.tup [rD (canonOf (rowOf r)), iD 0]) := by
  have H := sCanonP_d r
  rwa [show canonRes r = (canonOf (rowOf r), 0) from if_pos h] at H
theorem flat_snoc {rs : List Rg} {f : Rg → Rg} {k : Nat} (h : k < rs.length) : ((rs.take (k + 1)).map f).flatMap rC = ((rs.take k).map f).flatMap rC ++ rC (f rs[k]) := by
  rw [List.take_succ_eq_append_getElem h, List.map_append, List.flatMap_append]; simp
set_option maxHeartbeats 4000000 in
theorem canon_d (rs : List Rg) (h : domB rs = true) : DC Try.prog 109 [domD rs] (domD (canonRs rs)) := by
  have C := counts_d rs
  unfold countsN countsL at C
  rw [h, if_pos rfl, if_pos rfl] at C
  obtain ⟨⟨hl1, hl3⟩, hv, hp⟩ := domB_iff.1 h
  have hlen : (canonRs rs).length = rs.length := by simp [canonRs]
  obtain ⟨f, hf⟩ : ∃ f : Rg → Rg, f = fun r => if prodN (cl rs) = 0 then ⟨1, 0, 1⟩ else canonOf (rowOf r) := ⟨_, rfl⟩
  have hr : domD (canonRs rs) = .agg [.row rs.length ((rs.map f).flatMap rC)] := by
    show D.agg [.row _ _] = _
    rw [hlen, hf]; rfl
  rw [hr]
  clear hr hlen
  have hsn : ∀ k (h : k < rs.length), ((rs.take (k + 1)).map f).flatMap rC = ((rs.take k).map f).flatMap rC ++ rC (f rs[k]) := fun k h => flat_snoc h
  by_cases hz : prodN (cl rs) = 0
  all_goals
    simp only [hz, if_true, if_false] at hf
    have hz' : (prodN (cl rs) : Int) = 0 ↔ prodN (cl rs) = 0 := by omega
    generalize prodN (cl rs) = P at *
    refine DC.of Try.func109 Try.ntmps109 Try.results109 rfl (by decide +kernel) rfl ?_
    repeat (first | refine Z1 ?_ | refine Z2 ?_ | (refine Z3 ?_; (repeat (first | (apply gS; first | refine go_f ?_ | refine gm ?_ | refine gp ?_ | refine go_c rfl rfl (C) ?_) | (apply gZ; first | refine go_f ?_ | refine gm ?_))); refine T_nil ?_) | (apply ZK; first | refine Z4 ?_ | refine Z5 ?_) | refine Z6 ?_ | refine Z7 ?_ | refine Z8 ?_ | refine Z9 ?_ | refine ZA ?_ | refine ZB ?_ | refine ZC ?_ | refine ZD ?_ | refine ZE ?_ | refine ZF ?_ | refine ZG ?_ | refine ZH ?_)
    refine C_count rs.length (fun _ => True) (fun k => ⟨4, 40, [(20, iD k), (19, iD rs.length), (18, rowR rs), (5, iD P), (3, .ptr 2 0), (2, .ptr 1 0)], [(2, some ⟨24, 1, 1, [.own 3 k]⟩), (1, some ⟨24, 1, 1, [.val (.slice none 0 0)]⟩), (3, some ⟨39, 3, k, ((rs.take k).map f).flatMap rC⟩)]⟩) ?_ trivial ?_
    · refine Wk.trans (Wk.adoptM 2 0 39 3 rfl rfl) ?_
      exact Wk.go (fun b => b)
    · intro k hk _
      by_cases hlt : k < rs.length
      · have N := sCanon_ok (hv _ (List.getElem_mem hlt))
        have en := hsn k hlt
        have ef : f rs[k] = _ := congrFun hf rs[k]
        rw [ef] at en
        clear hsn
        repeat (first | refine Z1 ?_ | refine Z2 ?_ | (refine Z3 ?_; (repeat (first | (apply gS; first | refine go_f ?_ | refine gm ?_ | refine gp ?_ | refine go_c rfl rfl (N) ?_) | (apply gZ; first | refine go_f ?_ | refine gm ?_))); refine T_nil ?_) | (apply ZK; first | refine Z4 ?_ | refine Z5 ?_) | refine Z6 ?_ | refine Z7 ?_ | refine Z8 ?_ | refine Z9 ?_ | refine ZA ?_ | refine ZB ?_ | refine ZC ?_ | refine ZD ?_ | refine ZE ?_ | refine ZF ?_ | refine ZG ?_ | refine ZH ?_)
        refine kLoop_n ⟨hlt, trivial, ?_⟩
        exact Wk.go (fun b => cond (Nat.beq b 3) 6 (b))
      · obtain rfl : k = rs.length := by omega
        rw [List.take_length]
        repeat (first | refine Z1 ?_ | refine Z2 ?_ | (refine Z3 ?_; (repeat (first | (apply gS; first | refine go_f ?_ | refine gm ?_ | refine gp ?_) | (apply gZ; first | refine go_f ?_ | refine gm ?_))); refine T_nil ?_) | (apply ZK; first | refine Z4 ?_ | refine Z5 ?_) | refine Z6 ?_ | refine Z7 ?_ | refine Z8 ?_ | refine Z9 ?_ | refine ZA ?_ | refine ZB ?_ | refine ZC ?_ | refine ZD ?_ | refine ZE ?_ | refine ZF ?_ | refine ZG ?_ | refine ZH ?_)
        repeat (first | refine kEnd_m ?_ | refine kEnd_f ?_)
        refine kEnd_g ?_ (by first | exact .inl rfl | exact .inr rfl)
        exact Sub.eq rfl rfl
def dCanonRes (rs : List Rg) : List Rg × Int := if domB rs = true then (canonRs rs, 0) else ([], 40)
theorem dCanon_d (rs : List Rg) : DC Try.prog 51 [domD rs] (.tup [domD (dCanonRes rs).1, iD (dCanonRes rs).2]) := by
  have V := dValid_b rs (b := domB rs) rfl
  unfold dCanonRes
  cases h : domB rs <;> rw [h] at V
  · refine DC.of Try.func51 Try.ntmps51 Try.results51 rfl (by decide +kernel) rfl ?_
    repeat (first | refine Z1 ?_ | refine Z2 ?_ | (refine Z3 ?_; (repeat (first | (apply gS; first | refine go_f ?_ | refine gm ?_ | refine gp ?_ | refine go_c rfl rfl (V) ?_) | (apply gZ; first | refine go_f ?_ | refine gm ?_))); refine T_nil ?_) | (apply ZK; first | refine Z4 ?_ | refine Z5 ?_) | refine Z6 ?_ | refine Z7 ?_ | refine ZF ?_)
    repeat (first | refine kEnd_m ?_ | refine kEnd_f ?_)
    refine kEnd_g ?_ (by first | exact .inl rfl | exact .inr rfl)
    exact Sub.tup (.cons (Sub.agg (.cons Sub.nil .nil)) (.cons (Sub.eq rfl rfl) .nil))
  · have C := canon_d rs h
    refine DC.of Try.func51 Try.ntmps51 Try.results51 rfl (by decide +kernel) rfl ?_
    repeat (first | refine Z1 ?_ | refine Z2 ?_ | (refine Z3 ?_; (repeat (first | (apply gS; first | refine go_f ?_ | refine gm ?_ | refine gp ?_ | refine go_c rfl rfl (V) ?_ | refine go_c rfl rfl (C) ?_) | (apply gZ; first | refine go_f ?_ | refine gm ?_))); refine T_nil ?_) | (apply ZK; first | refine Z4 ?_ | refine Z5 ?_) | refine Z6 ?_ | refine Z7 ?_ | refine ZF ?_)
    repeat (first | refine kEnd_m ?_ | refine kEnd_f ?_)
    refine kEnd_g ?_ (by first | exact .inl rfl | exact .inr rfl)
    exact Sub.eq rfl rfl
theorem dDone_d (rs : List Rg) : DC Try.prog 110 [rowR rs] (.tup [domD (dCanonRes rs).1, iD (dCanonRes rs).2]) := by
  have V := dValid_b rs (b := domB rs) rfl
  unfold dCanonRes
  cases h : domB rs <;> rw [h] at V
  · refine DC.of Try.func110 Try.ntmps110 Try.results110 rfl (by decide +kernel) rfl ?_
    repeat (first | refine Z1 ?_ | refine Z2 ?_ | (refine Z3 ?_; (repeat (first | (apply gS; first | refine go_f ?_ | refine gm ?_ | refine gp ?_ | refine go_c rfl rfl (V) ?_) | (apply gZ; first | refine go_f ?_ | refine gm ?_))); refine T_nil ?_) | (apply ZK; first | refine Z4 ?_ | refine Z5 ?_) | refine Z6 ?_ | refine Z7 ?_ | refine ZF ?_)
    repeat (first | refine kEnd_m ?_ | refine kEnd_f ?_)
    refine kEnd_g ?_ (by first | exact .inl rfl | exact .inr rfl)
    exact Sub.tup (.cons (Sub.agg (.cons Sub.nil .nil)) (.cons (Sub.eq rfl rfl) .nil))
  · have C := canon_d rs h
    refine DC.of Try.func110 Try.ntmps110 Try.results110 rfl (by decide +kernel) rfl ?_
    repeat (first | refine Z1 ?_ | refine Z2 ?_ | (refine Z3 ?_; (repeat (first | (apply gS; first | refine go_f ?_ | refine gm ?_ | refine gp ?_ | refine go_c rfl rfl (V) ?_ | refine go_c rfl rfl (C) ?_) | (apply gZ; first | refine go_f ?_ | refine gm ?_))); refine T_nil ?_) | (apply ZK; first | refine Z4 ?_ | refine Z5 ?_) | refine Z6 ?_ | refine Z7 ?_ | refine ZF ?_)
    repeat (first | refine kEnd_m ?_ | refine kEnd_f ?_)
    refine kEnd_g ?_ (by first | exact .inl rfl | exact .inr rfl)
    exact Sub.eq rfl rfl
end Go.Proofs.Ytifapodobhkdcaa
