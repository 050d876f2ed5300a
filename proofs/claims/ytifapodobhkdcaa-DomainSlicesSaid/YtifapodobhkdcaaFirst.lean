/- The first element of a list that is not as the others (no program in sight). -/
import Derived.Test.YtifapodobhkdcaaS4
import Derived.Test.YtifapodobhkdcaaRun
import Derived.Test.YtifapodobhkdcaaDomMath
namespace Go.Proofs.Ytifapodobhkdcaa
open Go.RowKit
set_option linter.unusedVariables false
set_option maxHeartbeats 16000000
set_option linter.unusedSimpArgs false
set_option maxRecDepth 100000
abbrev rC (r : Rg) : List D := [iD r.lo, iD r.hi, iD r.st]
abbrev rowR (rs : List Rg) : D := .row rs.length (rs.flatMap rC)
abbrev domD (rs : List Rg) : D := .agg [rowR rs]
abbrev natsI (l : List Nat) : List Int := l.map fun n : Nat => (n : Int)
set_option maxHeartbeats 4000000 in
theorem sIndex_q (l : List Int) (v : Int) (q : Nat) (hq : q < l.length) (hl : l.length ≤ 9223372036854775806) (he : l[q] = v) (hno : ∀ j (h : j < l.length), j < q → l[j] ≠ v) : DC Try.prog 129 [rowI l, iD v] (iD q) := by
  refine DC.of Try.func129 Try.ntmps129 Try.results129 rfl (by decide +kernel) rfl ?_
  repeat (first | refine Z1 ?_ | refine Z2 ?_ | (refine Z3 ?_; (repeat (first | (apply gS; first | refine go_f ?_ | refine gm ?_ | refine gp ?_))); refine T_nil ?_) | (apply ZK; first | refine Z4 ?_ | refine Z5 ?_) | refine Z6 ?_ | refine Z7 ?_ | refine Z8 ?_ | refine Z9 ?_ | refine ZA ?_ | refine ZB ?_ | refine ZC ?_ | refine ZD ?_ | refine ZE ?_ | refine ZF ?_ | refine ZG ?_ | refine ZH ?_)
  refine C_count q (fun _ => True) (fun k => ⟨0, 19, [(8, iD k), (7, iD l.length), (0, rowI l), (1, iD v), (4, iD 0)], []⟩) ?_ trivial ?_
  · exact Wk.go (fun b => b)
  · intro k hk _
    by_cases hlt : k < q
    · have h1 : ¬ v = l[k] := fun e => hno k (by omega) hlt e.symm
      repeat (first | refine Z1 ?_ | refine Z2 ?_ | (refine Z3 ?_; (repeat (first | (apply gS; first | refine go_f ?_ | refine gm ?_ | refine gp ?_))); refine T_nil ?_) | (apply ZK; first | refine Z4 ?_ | refine Z5 ?_) | refine Z6 ?_ | refine Z7 ?_ | refine Z8 ?_ | refine Z9 ?_ | refine ZA ?_ | refine ZB ?_ | refine ZC ?_ | refine ZD ?_ | refine ZE ?_ | refine ZF ?_ | refine ZG ?_ | refine ZH ?_)
      refine kLoop_n ⟨hlt, trivial, ?_⟩
      exact Wk.go (fun b => b)
    · obtain rfl : k = q := by omega
      repeat (first | refine Z1 ?_ | refine Z2 ?_ | (refine Z3 ?_; (repeat (first | (apply gS; first | refine go_f ?_ | refine gm ?_ | refine gp ?_))); refine T_nil ?_) | (apply ZK; first | refine Z4 ?_ | refine Z5 ?_) | refine Z6 ?_ | refine Z7 ?_ | refine Z8 ?_ | refine Z9 ?_ | refine ZA ?_ | refine ZB ?_ | refine ZC ?_ | refine ZD ?_ | refine ZE ?_ | refine ZF ?_ | refine ZG ?_ | refine ZH ?_)
      repeat (first | refine kEnd_m ?_ | refine kEnd_f ?_)
      refine kEnd_g ?_ (by first | exact .inl rfl | exact .inr rfl)
      exact Sub.eq rfl rfl
set_option maxHeartbeats 4000000 in
theorem sIndex_no (l : List Int) (v : Int) (hl : l.length ≤ 9223372036854775806) (hno : ∀ j (h : j < l.length), l[j] ≠ v) : DC Try.prog 129 [rowI l, iD v] (iD (-1)) := by
  refine DC.of Try.func129 Try.ntmps129 Try.results129 rfl (by decide +kernel) rfl ?_
  repeat (first | refine Z1 ?_ | refine Z2 ?_ | (refine Z3 ?_; (repeat (first | (apply gS; first | refine go_f ?_ | refine gm ?_ | refine gp ?_))); refine T_nil ?_) | (apply ZK; first | refine Z4 ?_ | refine Z5 ?_) | refine Z6 ?_ | refine Z7 ?_ | refine Z8 ?_ | refine Z9 ?_ | refine ZA ?_ | refine ZB ?_ | refine ZC ?_ | refine ZD ?_ | refine ZE ?_ | refine ZF ?_ | refine ZG ?_ | refine ZH ?_)
  refine C_count l.length (fun _ => True) (fun k => ⟨0, 19, [(8, iD k), (7, iD l.length), (0, rowI l), (1, iD v), (4, iD 0)], []⟩) ?_ trivial ?_
  · exact Wk.go (fun b => b)
  · intro k hk _
    by_cases hlt : k < l.length
    · have h1 : ¬ v = l[k] := fun e => hno k hlt e.symm
      repeat (first | refine Z1 ?_ | refine Z2 ?_ | (refine Z3 ?_; (repeat (first | (apply gS; first | refine go_f ?_ | refine gm ?_ | refine gp ?_))); refine T_nil ?_) | (apply ZK; first | refine Z4 ?_ | refine Z5 ?_) | refine Z6 ?_ | refine Z7 ?_ | refine Z8 ?_ | refine Z9 ?_ | refine ZA ?_ | refine ZB ?_ | refine ZC ?_ | refine ZD ?_ | refine ZE ?_ | refine ZF ?_ | refine ZG ?_ | refine ZH ?_)
      refine kLoop_n ⟨hlt, trivial, ?_⟩
      exact Wk.go (fun b => b)
    · repeat (first | refine Z1 ?_ | refine Z2 ?_ | (refine Z3 ?_; (repeat (first | (apply gS; first | refine go_f ?_ | refine gm ?_ | refine gp ?_))); refine T_nil ?_) | (apply ZK; first | refine Z4 ?_ | refine Z5 ?_) | refine Z6 ?_ | refine Z7 ?_ | refine Z8 ?_ | refine Z9 ?_ | refine ZA ?_ | refine ZB ?_ | refine ZC ?_ | refine ZD ?_ | refine ZE ?_ | refine ZF ?_ | refine ZG ?_ | refine ZH ?_)
      repeat (first | refine kEnd_m ?_ | refine kEnd_f ?_)
      refine kEnd_g ?_ (by first | exact .inl rfl | exact .inr rfl)
      exact Sub.eq rfl rfl
theorem leastN {p : Nat → Prop} : ∀ {n : Nat}, p n → ∃ k, p k ∧ ∀ j, j < k → ¬ p j := by
  intro n
  induction n using Nat.strongRecOn with
  | _ n ih =>
    intro h
    by_cases hl : ∃ j, j < n ∧ p j
    · obtain ⟨j, hj, hp⟩ := hl; exact ih j hj hp
    · exact ⟨n, h, fun j hj hp => hl ⟨j, hj, hp⟩⟩
theorem sContains_t (l : List Int) (v : Int) (hl : l.length ≤ 9223372036854775806) (h : v ∈ l) : DC Try.prog 155 [rowI l, iD v] (bD true) := by
  obtain ⟨q0, hq0, he0⟩ := List.getElem_of_mem h
  obtain ⟨q, ⟨hq, he⟩, hmin⟩ := leastN (p := fun q => ∃ h : q < l.length, l[q] = v) ⟨hq0, he0⟩
  have X := sIndex_q l v q hq hl he (fun j hj hlt e => hmin j hlt ⟨hj, e⟩)
  refine DC.of Try.func155 Try.ntmps155 Try.results155 rfl (by decide +kernel) rfl ?_
  repeat (first | refine Z1 ?_ | refine Z2 ?_ | (refine Z3 ?_; (repeat (first | (apply gS; first | refine go_f ?_ | refine gm ?_ | refine gp ?_ | refine go_c rfl rfl (X) ?_))); refine T_nil ?_) | (apply ZK; first | refine Z4 ?_ | refine Z5 ?_) | refine Z6 ?_ | refine Z7 ?_)
  repeat (first | refine kEnd_m ?_ | refine kEnd_f ?_)
  refine kEnd_g ?_ (by first | exact .inl rfl | exact .inr rfl)
  exact Sub.eq rfl rfl
theorem sContains_f (l : List Int) (v : Int) (hl : l.length ≤ 9223372036854775806) (h : v ∉ l) : DC Try.prog 155 [rowI l, iD v] (bD false) := by
  have X := sIndex_no l v hl (fun j hj e => h (e ▸ List.getElem_mem hj))
  refine DC.of Try.func155 Try.ntmps155 Try.results155 rfl (by decide +kernel) rfl ?_
  repeat (first | refine Z1 ?_ | refine Z2 ?_ | (refine Z3 ?_; (repeat (first | (apply gS; first | refine go_f ?_ | refine gm ?_ | refine gp ?_ | refine go_c rfl rfl (X) ?_))); refine T_nil ?_) | (apply ZK; first | refine Z4 ?_ | refine Z5 ?_) | refine Z6 ?_ | refine Z7 ?_)
  repeat (first | refine kEnd_m ?_ | refine kEnd_f ?_)
  refine kEnd_g ?_ (by first | exact .inl rfl | exact .inr rfl)
  exact Sub.eq rfl rfl
def countsL (rs : List Rg) : List Int := if domB rs = true then natsI (cl rs) else []
def countsN (rs : List Rg) : Int := if domB rs = true then (prodN (cl rs) : Int) else 0
theorem sCount_ok {r : Rg} (h : vB r = true) : DC Try.prog 108 [rD r] (.tup [iD (cN r), iD 0]) := by
  have H := sCount_d r
  rw [show countRes r = ((rowOf r).n, 0) from if_pos h, ← cN_int h] at H
  exact H
theorem sCount_bad {r : Rg} (h : vB r = false) : DC Try.prog 108 [rD r] (.tup [iD 0, iD 30]) := by
  have H := sCount_d r
  rwa [show countRes r = (0, 30) from if_neg (by rw [h]; decide)] at H
theorem rowI_n {l : List Int} {n : Nat} (h : l.length = n) : rowI l = .row n (intsD l) := by rw [← h]
theorem natsI_succ {rs : List Rg} {k : Nat} (h : k < rs.length) : intsD (natsI (cl (rs.take (k + 1)))) = intsD (natsI (cl (rs.take k))) ++ [iD (cN rs[k])] := by
  rw [List.take_succ_eq_append_getElem h]; simp only [cl, natsI, intsD, List.map_append, List.map_cons, List.map_nil]
set_option maxHeartbeats 8000000 in
theorem counts_d (rs : List Rg) : DC Try.prog 98 [domD rs] (.tup [rowI (countsL rs), iD (countsN rs), bD (domB rs)]) := by
  by_cases hlen : 1 ≤ rs.length ∧ rs.length ≤ 3
  case neg =>
    have hb : domB rs = false := by
      cases h : domB rs with
      | false => rfl
      | true => exact absurd (domB_iff.1 h).1 hlen
    rw [countsL, countsN, hb]
    by_cases h1 : (rs.length : Int) < 1
    · refine DC.of Try.func98 Try.ntmps98 Try.results98 rfl (by decide +kernel) rfl ?_
      repeat (first | refine Z1 ?_ | refine Z2 ?_ | (refine Z3 ?_; (repeat (first | (apply gS; first | refine go_no ?_ | refine go_f ?_ | refine gm ?_ | refine gp ?_) | (apply gZ; first | refine go_f ?_ | refine gm ?_))); refine T_nil ?_) | (apply ZK; first | refine Z4 ?_ | refine Z5 ?_) | refine Z6 ?_ | refine Z7 ?_ | refine Z8 ?_ | refine Z9 ?_ | refine ZA ?_ | refine ZB ?_ | refine ZC ?_ | refine ZD ?_ | refine ZE ?_ | refine ZF ?_ | refine ZG ?_ | refine ZH ?_)
      repeat (first | refine kEnd_m ?_ | refine kEnd_f ?_)
      refine kEnd_g ?_ (by first | exact .inl rfl | exact .inr rfl)
      exact Sub.tup (.cons Sub.nil (.cons (Sub.eq rfl rfl) (.cons (Sub.eq rfl rfl) .nil)))
    · have h2 : (3 : Int) < rs.length := by omega
      clear hlen
      refine DC.of Try.func98 Try.ntmps98 Try.results98 rfl (by decide +kernel) rfl ?_
      repeat (first | refine Z1 ?_ | refine Z2 ?_ | (refine Z3 ?_; (repeat (first | (apply gS; first | refine go_no ?_ | refine go_f ?_ | refine gm ?_ | refine gp ?_) | (apply gZ; first | refine go_f ?_ | refine gm ?_))); refine T_nil ?_) | (apply ZK; first | refine Z4 ?_ | refine Z5 ?_) | refine Z6 ?_ | refine Z7 ?_ | refine Z8 ?_ | refine Z9 ?_ | refine ZA ?_ | refine ZB ?_ | refine ZC ?_ | refine ZD ?_ | refine ZE ?_ | refine ZF ?_ | refine ZG ?_ | refine ZH ?_)
      repeat (first | refine kEnd_m ?_ | refine kEnd_f ?_)
      refine kEnd_g ?_ (by first | exact .inl rfl | exact .inr rfl)
      exact Sub.tup (.cons Sub.nil (.cons (Sub.eq rfl rfl) (.cons (Sub.eq rfl rfl) .nil)))
  obtain ⟨hl1, hl3⟩ := hlen
  by_cases hall : ∀ j (h : j < rs.length), vB rs[j] = true
  case neg =>
    have hb : domB rs = false := by
      cases h : domB rs with
      | false => rfl
      | true => exact absurd (fun j hj => (domB_iff.1 h).2.1 _ (List.getElem_mem hj)) hall
    rw [countsL, countsN, hb]
    have hex : ∃ j, ∃ h : j < rs.length, vB rs[j] = false := by
      apply Classical.byContradiction
      intro hno
      exact hall fun j h => by
        cases hv : vB rs[j] with
        | true => rfl
        | false => exact absurd ⟨j, h, hv⟩ hno
    obtain ⟨q0, hq0⟩ := hex
    obtain ⟨q, ⟨hq, hv⟩, hmin⟩ := leastN (p := fun q => ∃ h : q < rs.length, vB rs[q] = false) hq0
    clear hq0 hall
    refine DC.of Try.func98 Try.ntmps98 Try.results98 rfl (by decide +kernel) rfl ?_
    repeat (first | refine Z1 ?_ | refine Z2 ?_ | (refine Z3 ?_; (repeat (first | (apply gS; first | refine go_no ?_ | refine go_f ?_ | refine gm ?_ | refine gp ?_) | (apply gZ; first | refine go_f ?_ | refine gm ?_))); refine T_nil ?_) | (apply ZK; first | refine Z4 ?_ | refine Z5 ?_) | refine Z6 ?_ | refine Z7 ?_ | refine Z8 ?_ | refine Z9 ?_ | refine ZA ?_ | refine ZB ?_ | refine ZC ?_ | refine ZD ?_ | refine ZE ?_ | refine ZF ?_ | refine ZG ?_ | refine ZH ?_)
    refine C_count q (fun _ => True) (fun k => ⟨2, 59, [(24, iD k), (23, iD rs.length), (22, rowR rs), (2, .own 1 k), (1, .ptr 0 0), (3, iD 0)], [(1, some ⟨3, 1, k, intsD (natsI (cl (rs.take k)))⟩)]⟩) ?_ trivial ?_
    · refine Wk.trans (Wk.adoptT 2 3 1 rfl) ?_
      exact Wk.go (fun b => b)
    · intro k hk _
      have hkl : k < rs.length := by omega
      by_cases hlt : k < q
      · have hvk : vB rs[k] = true := by
          cases h : vB rs[k] with
          | true => rfl
          | false => exact absurd ⟨hkl, h⟩ (hmin k hlt)
        have C := sCount_ok hvk
        have en := natsI_succ hkl
        repeat (first | refine Z1 ?_ | refine Z2 ?_ | (refine Z3 ?_; (repeat (first | (apply gS; first | refine go_no ?_ | refine go_f ?_ | refine gm ?_ | refine gp ?_ | refine go_c rfl rfl (C) ?_) | (apply gZ; first | refine go_f ?_ | refine gm ?_))); refine T_nil ?_) | (apply ZK; first | refine Z4 ?_ | refine Z5 ?_) | refine Z6 ?_ | refine Z7 ?_ | refine Z8 ?_ | refine Z9 ?_ | refine ZA ?_ | refine ZB ?_ | refine ZC ?_ | refine ZD ?_ | refine ZE ?_ | refine ZF ?_ | refine ZG ?_ | refine ZH ?_)

        refine kLoop_n ⟨hlt, trivial, ?_⟩
        exact Wk.go (fun b => cond (Nat.beq b 1) 3 (b))
      · obtain rfl : k = q := by omega
        have C := sCount_bad hv
        repeat (first | refine Z1 ?_ | refine Z2 ?_ | (refine Z3 ?_; (repeat (first | (apply gS; first | refine go_no ?_ | refine go_f ?_ | refine gm ?_ | refine gp ?_ | refine go_c rfl rfl (C) ?_) | (apply gZ; first | refine go_f ?_ | refine gm ?_))); refine T_nil ?_) | (apply ZK; first | refine Z4 ?_ | refine Z5 ?_) | refine Z6 ?_ | refine Z7 ?_ | refine Z8 ?_ | refine Z9 ?_ | refine ZA ?_ | refine ZB ?_ | refine ZC ?_ | refine ZD ?_ | refine ZE ?_ | refine ZF ?_ | refine ZG ?_ | refine ZH ?_)
        repeat (first | refine kEnd_m ?_ | refine kEnd_f ?_)
        refine kEnd_g ?_ (by first | exact .inl rfl | exact .inr rfl)
        exact Sub.tup (.cons Sub.nil (.cons (Sub.eq rfl rfl) (.cons (Sub.eq rfl rfl) .nil)))
  have hv : ∀ r ∈ rs, vB r = true := fun r hr => by
    obtain ⟨j, hj, rfl⟩ := List.getElem_of_mem hr; exact hall j hj
  have hlc : (cl rs).length = rs.length := by simp [cl]
  have hln : (natsI (cl rs)).length = rs.length := by simp [natsI, hlc]
  have htk : cl (rs.take rs.length) = cl rs := by rw [List.take_length]
  by_cases hz : 0 ∈ cl rs
  · have hp0 : prodN (cl rs) = 0 := prodN_zero.2 hz
    have hb : domB rs = true := domB_iff.2 ⟨⟨hl1, hl3⟩, hv, by omega⟩
    rw [countsL, countsN, hb, if_pos rfl, if_pos rfl, hp0]
    have Z := sContains_t (natsI (cl rs)) 0 (by omega) (List.mem_map.2 ⟨0, hz, rfl⟩)
    rw [rowI_n hln] at Z ⊢
    refine DC.of Try.func98 Try.ntmps98 Try.results98 rfl (by decide +kernel) rfl ?_
    repeat (first | refine Z1 ?_ | refine Z2 ?_ | (refine Z3 ?_; (repeat (first | (apply gS; first | refine go_no ?_ | refine go_f ?_ | refine gm ?_ | refine gp ?_) | (apply gZ; first | refine go_f ?_ | refine gm ?_))); refine T_nil ?_) | (apply ZK; first | refine Z4 ?_ | refine Z5 ?_) | refine Z6 ?_ | refine Z7 ?_ | refine Z8 ?_ | refine Z9 ?_ | refine ZA ?_ | refine ZB ?_ | refine ZC ?_ | refine ZD ?_ | refine ZE ?_ | refine ZF ?_ | refine ZG ?_ | refine ZH ?_)
    refine C_count rs.length (fun _ => True) (fun k => ⟨2, 59, [(24, iD k), (23, iD rs.length), (22, rowR rs), (2, .own 1 k), (1, .ptr 0 0), (3, iD 0)], [(1, some ⟨3, 1, k, intsD (natsI (cl (rs.take k)))⟩)]⟩) ?_ trivial ?_
    · refine Wk.trans (Wk.adoptT 2 3 1 rfl) ?_
      exact Wk.go (fun b => b)
    · intro k hk _
      by_cases hlt : k < rs.length
      · have C := sCount_ok (hall k hlt)
        have en := natsI_succ hlt
        repeat (first | refine Z1 ?_ | refine Z2 ?_ | (refine Z3 ?_; (repeat (first | (apply gS; first | refine go_no ?_ | refine go_f ?_ | refine gm ?_ | refine gp ?_ | refine go_c rfl rfl (C) ?_) | (apply gZ; first | refine go_f ?_ | refine gm ?_))); refine T_nil ?_) | (apply ZK; first | refine Z4 ?_ | refine Z5 ?_) | refine Z6 ?_ | refine Z7 ?_ | refine Z8 ?_ | refine Z9 ?_ | refine ZA ?_ | refine ZB ?_ | refine ZC ?_ | refine ZD ?_ | refine ZE ?_ | refine ZF ?_ | refine ZG ?_ | refine ZH ?_)
        refine kLoop_n ⟨hlt, trivial, ?_⟩
        exact Wk.go (fun b => cond (Nat.beq b 1) 3 (b))
      · obtain rfl : k = rs.length := by omega
        rw [htk]
        repeat (first | refine Z1 ?_ | refine Z2 ?_ | (refine Z3 ?_; (repeat (first | (apply gS; first | refine go_no ?_ | refine go_f ?_ | refine gm ?_ | refine gp ?_ | refine go_c rfl rfl (Z) ?_) | (apply gZ; first | refine go_f ?_ | refine gm ?_))); refine T_nil ?_) | (apply ZK; first | refine Z4 ?_ | refine Z5 ?_) | refine Z6 ?_ | refine Z7 ?_ | refine Z8 ?_ | refine Z9 ?_ | refine ZA ?_ | refine ZB ?_ | refine ZC ?_ | refine ZD ?_ | refine ZE ?_ | refine ZF ?_ | refine ZG ?_ | refine ZH ?_)
        repeat (first | refine kEnd_m ?_ | refine kEnd_f ?_)
        refine kEnd_g ?_ (by first | exact .inl rfl | exact .inr rfl)
        exact Sub.eq rfl rfl
  have hno : (0 : Int) ∉ natsI (cl rs) := fun h => by
    obtain ⟨n, hn, e⟩ := List.mem_map.1 h
    have : n = 0 := by omega
    subst this; exact hz hn
  have Z := sContains_f (natsI (cl rs)) 0 (by omega) hno
  rw [rowI_n hln] at Z
  have hget : ∀ k (h : k < rs.length), (natsI (cl rs))[k]'(by omega) = (((cl rs)[k]'(by omega) : Nat) : Int) := fun k h => by simp [natsI]
  have hstep : ∀ k (h : k < rs.length), prodN ((cl rs).take (k + 1)) = prodN ((cl rs).take k) * (cl rs)[k]'(by omega) := fun k h => prodN_take k (by omega)
  have hpos : ∀ k, 1 ≤ prodN ((cl rs).take k) := fun k => (prodN_le hz k).1
  have hdiv : ∀ P c : Nat, 1 ≤ P → ∃ q : Nat, (4096 : Int).tdiv (P : Int) = q ∧ (q < c ↔ 4096 < c * P) := fun P c hP => ⟨4096 / P, by rw [Int.ofNat_tdiv]; rfl, Nat.div_lt_iff_lt_mul hP⟩
  by_cases hp : prodN (cl rs) ≤ 4096
  · have hb : domB rs = true := domB_iff.2 ⟨⟨hl1, hl3⟩, hv, hp⟩
    rw [countsL, countsN, hb, if_pos rfl, if_pos rfl, rowI_n hln]
    refine DC.of Try.func98 Try.ntmps98 Try.results98 rfl (by decide +kernel) rfl ?_
    repeat (first | refine Z1 ?_ | refine Z2 ?_ | (refine Z3 ?_; (repeat (first | (apply gS; first | refine go_no ?_ | refine go_f ?_ | refine gm ?_ | refine gp ?_) | (apply gZ; first | refine go_f ?_ | refine gm ?_))); refine T_nil ?_) | (apply ZK; first | refine Z4 ?_ | refine Z5 ?_) | refine Z6 ?_ | refine Z7 ?_ | refine Z8 ?_ | refine Z9 ?_ | refine ZA ?_ | refine ZB ?_ | refine ZC ?_ | refine ZD ?_ | refine ZE ?_ | refine ZF ?_ | refine ZG ?_ | refine ZH ?_)
    refine C_count rs.length (fun _ => True) (fun k => ⟨2, 59, [(24, iD k), (23, iD rs.length), (22, rowR rs), (2, .own 1 k), (1, .ptr 0 0), (3, iD 0)], [(1, some ⟨3, 1, k, intsD (natsI (cl (rs.take k)))⟩)]⟩) ?_ trivial ?_
    · refine Wk.trans (Wk.adoptT 2 3 1 rfl) ?_
      exact Wk.go (fun b => b)
    · intro k hk _
      by_cases hlt : k < rs.length
      · have C := sCount_ok (hall k hlt)
        have en := natsI_succ hlt
        repeat (first | refine Z1 ?_ | refine Z2 ?_ | (refine Z3 ?_; (repeat (first | (apply gS; first | refine go_no ?_ | refine go_f ?_ | refine gm ?_ | refine gp ?_ | refine go_c rfl rfl (C) ?_) | (apply gZ; first | refine go_f ?_ | refine gm ?_))); refine T_nil ?_) | (apply ZK; first | refine Z4 ?_ | refine Z5 ?_) | refine Z6 ?_ | refine Z7 ?_ | refine Z8 ?_ | refine Z9 ?_ | refine ZA ?_ | refine ZB ?_ | refine ZC ?_ | refine ZD ?_ | refine ZE ?_ | refine ZF ?_ | refine ZG ?_ | refine ZH ?_)
        refine kLoop_n ⟨hlt, trivial, ?_⟩
        exact Wk.go (fun b => cond (Nat.beq b 1) 3 (b))
      · obtain rfl : k = rs.length := by omega
        rw [htk]
        repeat (first | refine Z1 ?_ | refine Z2 ?_ | (refine Z3 ?_; (repeat (first | (apply gS; first | refine go_no ?_ | refine go_f ?_ | refine gm ?_ | refine gp ?_ | refine go_c rfl rfl (Z) ?_) | (apply gZ; first | refine go_f ?_ | refine gm ?_))); refine T_nil ?_) | (apply ZK; first | refine Z4 ?_ | refine Z5 ?_) | refine Z6 ?_ | refine Z7 ?_ | refine Z8 ?_ | refine Z9 ?_ | refine ZA ?_ | refine ZB ?_ | refine ZC ?_ | refine ZD ?_ | refine ZE ?_ | refine ZF ?_ | refine ZG ?_ | refine ZH ?_)
        refine C_count rs.length (fun _ => True) (fun k => ⟨2, 59, [(45, iD k), (44, iD rs.length), (43, .row rs.length (intsD (natsI (cl rs)))), (3, iD (prodN ((cl rs).take k) : Nat)), (2, .row rs.length (intsD (natsI (cl rs))))], []⟩) ?_ trivial ?_
        · exact Wk.go (fun b => b)
        · intro k hk _
          by_cases hlt : k < rs.length
          · have e1 := hget k hlt
            have e2 := hstep k hlt
            have e3 := hpos k
            have e4 := (prodN_le hz (k + 1)).2
            have e5 := Int.natCast_mul (prodN ((cl rs).take k)) ((cl rs)[k]'(by omega))
            obtain ⟨q, e6, e7⟩ := hdiv (prodN ((cl rs).take k)) ((cl rs)[k]'(by omega)) e3
            rw [← e1] at e5
            rw [Nat.mul_comm, ← e2] at e7
            rw [← e2] at e5
            repeat (first | refine Z1 ?_ | refine Z2 ?_ | (refine Z3 ?_; (repeat (first | (apply gS; first | refine go_no ?_ | refine go_f ?_ | refine gm ?_ | refine gp ?_) | (apply gZ; first | refine go_f ?_ | refine gm ?_))); refine T_nil ?_) | (apply ZK; first | refine Z4 ?_ | refine Z5 ?_) | refine Z6 ?_ | refine Z7 ?_ | refine Z8 ?_ | refine Z9 ?_ | refine ZA ?_ | refine ZB ?_ | refine ZC ?_ | refine ZD ?_ | refine ZE ?_ | refine ZF ?_ | refine ZG ?_ | refine ZH ?_)
            refine kLoop_n ⟨hlt, trivial, ?_⟩
            exact Wk.go (fun b => b)
          · obtain rfl : k = rs.length := by omega
            rw [← hlc, List.take_length, hlc]
            repeat (first | refine Z1 ?_ | refine Z2 ?_ | (refine Z3 ?_; (repeat (first | (apply gS; first | refine go_no ?_ | refine go_f ?_ | refine gm ?_ | refine gp ?_) | (apply gZ; first | refine go_f ?_ | refine gm ?_))); refine T_nil ?_) | (apply ZK; first | refine Z4 ?_ | refine Z5 ?_) | refine Z6 ?_ | refine Z7 ?_ | refine Z8 ?_ | refine Z9 ?_ | refine ZA ?_ | refine ZB ?_ | refine ZC ?_ | refine ZD ?_ | refine ZE ?_ | refine ZF ?_ | refine ZG ?_ | refine ZH ?_)
            repeat (first | refine kEnd_m ?_ | refine kEnd_f ?_)
            refine kEnd_g ?_ (by first | exact .inl rfl | exact .inr rfl)
            exact Sub.eq rfl rfl
  · have hb : domB rs = false := by
      cases h : domB rs with
      | false => rfl
      | true => exact absurd (domB_iff.1 h).2.2 hp
    rw [countsL, countsN, hb]
    obtain ⟨q, ⟨hq, hqp⟩, hmin⟩ := leastN (p := fun k => k < rs.length ∧ 4096 < prodN ((cl rs).take (k + 1))) (n := rs.length - 1) ⟨by omega, by rw [show rs.length - 1 + 1 = (cl rs).length by omega, List.take_length]; omega⟩
    have hle : ∀ k, k ≤ q → prodN ((cl rs).take k) ≤ 4096 := fun k hk => by
      cases k with
      | zero => simp [prodN]
      | succ k => have := hmin k (by omega); omega
    refine DC.of Try.func98 Try.ntmps98 Try.results98 rfl (by decide +kernel) rfl ?_
    repeat (first | refine Z1 ?_ | refine Z2 ?_ | (refine Z3 ?_; (repeat (first | (apply gS; first | refine go_no ?_ | refine go_f ?_ | refine gm ?_ | refine gp ?_) | (apply gZ; first | refine go_f ?_ | refine gm ?_))); refine T_nil ?_) | (apply ZK; first | refine Z4 ?_ | refine Z5 ?_) | refine Z6 ?_ | refine Z7 ?_ | refine Z8 ?_ | refine Z9 ?_ | refine ZA ?_ | refine ZB ?_ | refine ZC ?_ | refine ZD ?_ | refine ZE ?_ | refine ZF ?_ | refine ZG ?_ | refine ZH ?_)
    refine C_count rs.length (fun _ => True) (fun k => ⟨2, 59, [(24, iD k), (23, iD rs.length), (22, rowR rs), (2, .own 1 k), (1, .ptr 0 0), (3, iD 0)], [(1, some ⟨3, 1, k, intsD (natsI (cl (rs.take k)))⟩)]⟩) ?_ trivial ?_
    · refine Wk.trans (Wk.adoptT 2 3 1 rfl) ?_
      exact Wk.go (fun b => b)
    · intro k hk _
      by_cases hlt : k < rs.length
      · have C := sCount_ok (hall k hlt)
        have en := natsI_succ hlt
        repeat (first | refine Z1 ?_ | refine Z2 ?_ | (refine Z3 ?_; (repeat (first | (apply gS; first | refine go_no ?_ | refine go_f ?_ | refine gm ?_ | refine gp ?_ | refine go_c rfl rfl (C) ?_) | (apply gZ; first | refine go_f ?_ | refine gm ?_))); refine T_nil ?_) | (apply ZK; first | refine Z4 ?_ | refine Z5 ?_) | refine Z6 ?_ | refine Z7 ?_ | refine Z8 ?_ | refine Z9 ?_ | refine ZA ?_ | refine ZB ?_ | refine ZC ?_ | refine ZD ?_ | refine ZE ?_ | refine ZF ?_ | refine ZG ?_ | refine ZH ?_)
        refine kLoop_n ⟨hlt, trivial, ?_⟩
        exact Wk.go (fun b => cond (Nat.beq b 1) 3 (b))
      · obtain rfl : k = rs.length := by omega
        rw [htk]
        repeat (first | refine Z1 ?_ | refine Z2 ?_ | (refine Z3 ?_; (repeat (first | (apply gS; first | refine go_no ?_ | refine go_f ?_ | refine gm ?_ | refine gp ?_ | refine go_c rfl rfl (Z) ?_) | (apply gZ; first | refine go_f ?_ | refine gm ?_))); refine T_nil ?_) | (apply ZK; first | refine Z4 ?_ | refine Z5 ?_) | refine Z6 ?_ | refine Z7 ?_ | refine Z8 ?_ | refine Z9 ?_ | refine ZA ?_ | refine ZB ?_ | refine ZC ?_ | refine ZD ?_ | refine ZE ?_ | refine ZF ?_ | refine ZG ?_ | refine ZH ?_)
        refine C_count q (fun _ => True) (fun k => ⟨2, 59, [(45, iD k), (44, iD rs.length), (43, .row rs.length (intsD (natsI (cl rs)))), (3, iD (prodN ((cl rs).take k) : Nat)), (2, .row rs.length (intsD (natsI (cl rs))))], []⟩) ?_ trivial ?_
        · exact Wk.go (fun b => b)
        · intro k hk _
          have hlt : k < rs.length := by omega
          have e1 := hget k hlt
          have e2 := hstep k hlt
          have e3 := hpos k
          have e4 := hle k hk
          have e5 := Int.natCast_mul (prodN ((cl rs).take k)) ((cl rs)[k]'(by omega))
          obtain ⟨q', e6, e7⟩ := hdiv (prodN ((cl rs).take k)) ((cl rs)[k]'(by omega)) e3
          rw [← e1] at e5
          rw [Nat.mul_comm, ← e2] at e7
          rw [← e2] at e5
          by_cases hkq : k < q
          · have e8 := hle (k + 1) (by omega)
            repeat (first | refine Z1 ?_ | refine Z2 ?_ | (refine Z3 ?_; (repeat (first | (apply gS; first | refine go_no ?_ | refine go_f ?_ | refine gm ?_ | refine gp ?_) | (apply gZ; first | refine go_f ?_ | refine gm ?_))); refine T_nil ?_) | (apply ZK; first | refine Z4 ?_ | refine Z5 ?_) | refine Z6 ?_ | refine Z7 ?_ | refine Z8 ?_ | refine Z9 ?_ | refine ZA ?_ | refine ZB ?_ | refine ZC ?_ | refine ZD ?_ | refine ZE ?_ | refine ZF ?_ | refine ZG ?_ | refine ZH ?_)
            refine kLoop_n ⟨hkq, trivial, ?_⟩
            exact Wk.go (fun b => b)
          · obtain rfl : k = q := by omega
            repeat (first | refine Z1 ?_ | refine Z2 ?_ | (refine Z3 ?_; (repeat (first | (apply gS; first | refine go_no ?_ | refine go_f ?_ | refine gm ?_ | refine gp ?_) | (apply gZ; first | refine go_f ?_ | refine gm ?_))); refine T_nil ?_) | (apply ZK; first | refine Z4 ?_ | refine Z5 ?_) | refine Z6 ?_ | refine Z7 ?_ | refine Z8 ?_ | refine Z9 ?_ | refine ZA ?_ | refine ZB ?_ | refine ZC ?_ | refine ZD ?_ | refine ZE ?_ | refine ZF ?_ | refine ZG ?_ | refine ZH ?_)
            repeat (first | refine kEnd_m ?_ | refine kEnd_f ?_)
            refine kEnd_g ?_ (by first | exact .inl rfl | exact .inr rfl)
            exact Sub.tup (.cons Sub.nil (.cons (Sub.eq rfl rfl) (.cons (Sub.eq rfl rfl) .nil)))
end Go.Proofs.Ytifapodobhkdcaa
namespace Go.Proofs.Ytifapodobhkdcaa
set_option linter.unusedVariables false
set_option maxHeartbeats 16000000
theorem first_bad {α : Type} (p : α → Bool) (l : List α) : (∀ j (h : j < l.length), p l[j] = true) ∨ ∃ q, ∃ h : q < l.length, p l[q] = false ∧ ∀ j (hj : j < l.length), j < q → p l[j] = true := by
  by_cases hall : ∀ j (h : j < l.length), p l[j] = true
  · exact .inl hall
  · have hex : ∃ j, ∃ h : j < l.length, p l[j] = false := by
      apply Classical.byContradiction
      intro hno
      exact hall fun j h => by
        cases hv : p l[j] with
        | true => rfl
        | false => exact absurd ⟨j, h, hv⟩ hno
    obtain ⟨q0, hq0⟩ := hex
    obtain ⟨q, ⟨hq, hv⟩, hmin⟩ := leastN (p := fun q => ∃ h : q < l.length, p l[q] = false) hq0
    exact .inr ⟨q, hq, hv, fun j hj hlt => by
      cases hv : p l[j] with
      | true => rfl
      | false => exact absurd ⟨hj, hv⟩ (hmin j hlt)⟩
theorem all_yes {α : Type} {p : α → Bool} {l : List α} (h : ∀ j (h : j < l.length), p l[j] = true) : l.all p = true := by
  rw [List.all_eq_true]
  intro x hx
  obtain ⟨j, hj, rfl⟩ := List.getElem_of_mem hx
  exact h j hj
theorem all_no {α : Type} {p : α → Bool} {l : List α} {q : Nat} (hq : q < l.length) (h : p l[q] = false) : l.all p = false := by
  cases ha : l.all p with
  | false => rfl
  | true => rw [List.all_eq_true.1 ha _ (List.getElem_mem hq)] at h; cases h
end Go.Proofs.Ytifapodobhkdcaa
