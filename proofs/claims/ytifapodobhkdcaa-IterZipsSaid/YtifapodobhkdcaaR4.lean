/- The reference's Count, Ith, Place and Has; the comparisons of the laws, by the abstract machine. -/
import Derived.Test.YtifapodobhkdcaaD4
import Derived.Test.YtifapodobhkdcaaDsMath
namespace Go.Proofs.Ytifapodobhkdcaa
open Go.RowKit
set_option linter.unusedVariables false
set_option maxHeartbeats 16000000
set_option linter.unusedSimpArgs false
set_option maxRecDepth 100000
def capN (l : List Nat) : Nat := if prodN l ≤ 1099511627776 then prodN l else 1099511627776
theorem capN_le (l : List Nat) : capN l ≤ 1099511627776 := by unfold capN; split <;> omega
theorem capN_step (l : List Nat) (c : Nat) : (if (1099511627776 : Int) < (capN l : Int) * (c : Int) then 1099511627776 else (capN l : Int) * (c : Int)) = (capN (l ++ [c]) : Nat) := by
  have e : prodN (l ++ [c]) = prodN l * c := by rw [prodN_append]; simp [prodN]
  unfold capN
  rw [e]
  by_cases h : prodN l ≤ 1099511627776
  · rw [if_pos h, ← Int.natCast_mul]
    by_cases h2 : prodN l * c ≤ 1099511627776
    · rw [if_pos h2, if_neg (by omega)]
    · rw [if_neg h2, if_pos (by omega)]; rfl
  · rw [if_neg h]
    cases c with
    | zero => simp
    | succ c =>
      have h2 : ¬ prodN l * (c + 1) ≤ 1099511627776 := by
        have := Nat.le_mul_of_pos_right (prodN l) (show 0 < c + 1 by omega)
        omega
      rw [if_neg h2]
      have h3 : (1099511627776 : Int) * ((c + 1 : Nat) : Int) = ((1099511627776 * (c + 1) : Nat) : Int) := by rw [Int.natCast_mul]; rfl
      have h4 := Nat.le_mul_of_pos_right 1099511627776 (show 0 < c + 1 by omega)
      show (if (1099511627776 : Int) < (1099511627776 : Int) * ((c + 1 : Nat) : Int) then (1099511627776 : Int) else (1099511627776 : Int) * ((c + 1 : Nat) : Int)) = 1099511627776
      rw [h3]
      split <;> omega
theorem rCount_ok {r : Rg} (h : vB r = true) : DC Try.prog 65 [rD r] (.tup [iD (cN r), iD 0]) := by
  have H := rCount_d r
  rw [show countRes r = ((rowOf r).n, 0) from if_pos h, ← cN_int h] at H
  exact H
theorem rCount_bad {r : Rg} (h : vB r = false) : DC Try.prog 65 [rD r] (.tup [iD 0, iD 30]) := by
  have H := rCount_d r
  rwa [show countRes r = (0, 30) from if_neg (by rw [h]; decide)] at H
def noneB (l : List Nat) : Bool := l.contains 0
theorem noneB_step (l : List Nat) (c : Nat) : noneB (l ++ [c]) = (noneB l || decide (c = 0)) := by
  unfold noneB
  rw [Bool.eq_iff_iff]
  simp
  exact ⟨fun h => h.imp id fun h => h.symm, fun h => h.imp id fun h => h.symm⟩
theorem noneB_prod {l : List Nat} : noneB l = true ↔ prodN l = 0 := by rw [prodN_zero]; unfold noneB; simp
theorem cl_snoc {rs : List Rg} {k : Nat} (h : k < rs.length) : cl (rs.take (k + 1)) = cl (rs.take k) ++ [cN rs[k]] := by
  rw [List.take_succ_eq_append_getElem h]; simp only [cl, List.map_append, List.map_cons, List.map_nil]
set_option maxHeartbeats 8000000 in
theorem rdValid_b (rs : List Rg) {b : Bool} (h : domB rs = b) : DC Try.prog 116 [domD rs] (bD b) := by
  subst h
  by_cases hlen : 1 ≤ rs.length ∧ rs.length ≤ 3
  case neg =>
    have hb : domB rs = false := by
      cases h : domB rs with
      | false => rfl
      | true => exact absurd (domB_iff.1 h).1 hlen
    rw [hb]
    by_cases h1 : (rs.length : Int) < 1
    · refine DC.of Try.func116 Try.ntmps116 Try.results116 rfl (by decide +kernel) rfl ?_
      repeat (first | refine Z1 ?_ | refine Z2 ?_ | (refine Z3 ?_; (repeat (first | (apply gS; first | refine go_no ?_ | refine go_f ?_ | refine gm ?_ | refine gp ?_))); refine T_nil ?_) | (apply ZK; first | refine Z4 ?_ | refine Z5 ?_) | refine Z6 ?_ | refine Z7 ?_ | refine Z8 ?_ | refine Z9 ?_ | refine ZA ?_ | refine ZB ?_ | refine ZC ?_ | refine ZD ?_ | refine ZE ?_ | refine ZF ?_ | refine ZG ?_ | refine ZH ?_)
      repeat (first | refine kEnd_m ?_ | refine kEnd_f ?_)
      refine kEnd_g ?_ (by first | exact .inl rfl | exact .inr rfl)
      exact Sub.eq rfl rfl
    · have h2 : (3 : Int) < rs.length := by omega
      clear hlen
      refine DC.of Try.func116 Try.ntmps116 Try.results116 rfl (by decide +kernel) rfl ?_
      repeat (first | refine Z1 ?_ | refine Z2 ?_ | (refine Z3 ?_; (repeat (first | (apply gS; first | refine go_no ?_ | refine go_f ?_ | refine gm ?_ | refine gp ?_))); refine T_nil ?_) | (apply ZK; first | refine Z4 ?_ | refine Z5 ?_) | refine Z6 ?_ | refine Z7 ?_ | refine Z8 ?_ | refine Z9 ?_ | refine ZA ?_ | refine ZB ?_ | refine ZC ?_ | refine ZD ?_ | refine ZE ?_ | refine ZF ?_ | refine ZG ?_ | refine ZH ?_)
      repeat (first | refine kEnd_m ?_ | refine kEnd_f ?_)
      refine kEnd_g ?_ (by first | exact .inl rfl | exact .inr rfl)
      exact Sub.eq rfl rfl
  obtain ⟨hl1, hl3⟩ := hlen
  have main : ∀ q, q ≤ rs.length → (∀ j (h : j < rs.length), j < q → vB rs[j] = true) → (q < rs.length → ∃ h : q < rs.length, vB rs[q] = false) → DC Try.prog 116 [domD rs] (bD (domB rs)) := by
    intro q hq hall hbad
    have hres : (q < rs.length ∧ domB rs = false) ∨ (q = rs.length ∧ (noneB (cl rs) = true ∧ domB rs = true ∨ noneB (cl rs) = false ∧ ((capN (cl rs) : Int) ≤ 4096 ∧ domB rs = true ∨ ¬ (capN (cl rs) : Int) ≤ 4096 ∧ domB rs = false))) := by
      by_cases hql : q < rs.length
      · refine .inl ⟨hql, ?_⟩
        obtain ⟨h1, h2⟩ := hbad hql
        cases h : domB rs with
        | false => rfl
        | true => have := (domB_iff.1 h).2.1 _ (List.getElem_mem h1); rw [h2] at this; cases this
      · have e : q = rs.length := by omega
        subst e
        have hv : ∀ r ∈ rs, vB r = true := fun r hr => by obtain ⟨j, hj, rfl⟩ := List.getElem_of_mem hr; exact hall j hj hj
        refine .inr ⟨rfl, ?_⟩
        cases hn : noneB (cl rs) with
        | true => exact .inl ⟨rfl, domB_iff.2 ⟨⟨hl1, hl3⟩, hv, by rw [noneB_prod.1 hn]; omega⟩⟩
        | false =>
          refine .inr ⟨rfl, ?_⟩
          by_cases hp : prodN (cl rs) ≤ 4096
          · exact .inl ⟨by unfold capN; rw [if_pos (by omega)]; omega, domB_iff.2 ⟨⟨hl1, hl3⟩, hv, hp⟩⟩
          · refine .inr ⟨by unfold capN; split <;> omega, ?_⟩
            cases h : domB rs with
            | false => rfl
            | true => exact absurd (domB_iff.1 h).2.2 hp
    refine DC.of Try.func116 Try.ntmps116 Try.results116 rfl (by decide +kernel) rfl ?_
    repeat (first | refine Z1 ?_ | refine Z2 ?_ | (refine Z3 ?_; (repeat (first | (apply gS; first | refine go_no ?_ | refine go_f ?_ | refine gm ?_ | refine gp ?_))); refine T_nil ?_) | (apply ZK; first | refine Z4 ?_ | refine Z5 ?_) | refine Z6 ?_ | refine Z7 ?_ | refine Z8 ?_ | refine Z9 ?_ | refine ZA ?_ | refine ZB ?_ | refine ZC ?_ | refine ZD ?_ | refine ZE ?_ | refine ZF ?_ | refine ZG ?_ | refine ZH ?_)
    refine C_count q (fun _ => True) (fun k => ⟨1, 50, [(5, iD k), (4, bD (noneB (cl (rs.take k)))), (3, iD (capN (cl (rs.take k)) : Nat)), (1, .ptr 0 0)], [(0, some ⟨24, 1, 1, [rowR rs]⟩)]⟩) ?_ trivial ?_
    · exact Wk.go (fun b => b)
    · intro k hk _
      by_cases hkq : k < q
      · have hkl : k < rs.length := by omega
        have hv := hall k hkl hkq
        have C := rCount_ok hv
        have c1 := cN_le hv
        have s1 := capN_step (cl (rs.take k)) (cN rs[k])
        have s2 := noneB_step (cl (rs.take k)) (cN rs[k])
        rw [← cl_snoc hkl] at s1 s2
        have c2 := capN_le (cl (rs.take k))
        have c3 := Nat.mul_le_mul c2 c1
        have c4 := Int.natCast_mul (capN (cl (rs.take k))) (cN rs[k])
        have c5 : (0 : Int) ≤ (capN (cl (rs.take k)) : Int) * (cN rs[k] : Int) := by rw [← c4]; omega
        have c6 : (capN (cl (rs.take k)) : Int) * (cN rs[k] : Int) ≤ 2199024355065561876 := by rw [← c4]; omega
        clear hall hbad hres c3 c4
        generalize hcap : capN (cl (rs.take k)) = cap at *
        have hX2 : ((cap : Int) * (cN rs[k] : Int) ≤ 1099511627776 ∧ (cap : Int) * (cN rs[k] : Int) = capN (cl (rs.take (k + 1)))) ∨ (1099511627776 ≤ (cap : Int) * (cN rs[k] : Int) ∧ (capN (cl (rs.take (k + 1))) : Int) = 1099511627776) := by
          split at s1 <;> omega
        clear s1
        cases hn : noneB (cl (rs.take k)) <;> rw [hn] at s2
        · by_cases hc : cN rs[k] = 0
          · rw [decide_eq_true hc, Bool.or_true] at s2
            rcases hX2 with ⟨h1, h2⟩ | ⟨h1, h2⟩
            all_goals
              repeat (first | refine Z1 ?_ | refine Z2 ?_ | (refine Z3 ?_; (repeat (first | (apply gS; first | refine go_no ?_ | refine go_f ?_ | refine gm ?_ | refine gp ?_ | refine go_c rfl rfl (C) ?_))); refine T_nil ?_) | (apply ZK; first | refine Z4 ?_ | refine Z5 ?_) | refine Z6 ?_ | refine Z7 ?_ | refine Z8 ?_ | refine Z9 ?_ | refine ZA ?_ | refine ZB ?_ | refine ZC ?_ | refine ZD ?_ | refine ZE ?_ | refine ZF ?_ | refine ZG ?_ | refine ZH ?_)
              refine kLoop_n ⟨hkq, trivial, ?_⟩
              rw [s2]
              exact Wk.go (fun b => b)
          · rw [decide_eq_false hc, Bool.or_false] at s2
            rcases hX2 with ⟨h1, h2⟩ | ⟨h1, h2⟩
            all_goals
              repeat (first | refine Z1 ?_ | refine Z2 ?_ | (refine Z3 ?_; (repeat (first | (apply gS; first | refine go_no ?_ | refine go_f ?_ | refine gm ?_ | refine gp ?_ | refine go_c rfl rfl (C) ?_))); refine T_nil ?_) | (apply ZK; first | refine Z4 ?_ | refine Z5 ?_) | refine Z6 ?_ | refine Z7 ?_ | refine Z8 ?_ | refine Z9 ?_ | refine ZA ?_ | refine ZB ?_ | refine ZC ?_ | refine ZD ?_ | refine ZE ?_ | refine ZF ?_ | refine ZG ?_ | refine ZH ?_)
              refine kLoop_n ⟨hkq, trivial, ?_⟩
              rw [s2]
              exact Wk.go (fun b => b)
        · rw [Bool.true_or] at s2
          rcases hX2 with ⟨h1, h2⟩ | ⟨h1, h2⟩
          all_goals
            repeat (first | refine Z1 ?_ | refine Z2 ?_ | (refine Z3 ?_; (repeat (first | (apply gS; first | refine go_no ?_ | refine go_f ?_ | refine gm ?_ | refine gp ?_ | refine go_c rfl rfl (C) ?_))); refine T_nil ?_) | (apply ZK; first | refine Z4 ?_ | refine Z5 ?_) | refine Z6 ?_ | refine Z7 ?_ | refine Z8 ?_ | refine Z9 ?_ | refine ZA ?_ | refine ZB ?_ | refine ZC ?_ | refine ZD ?_ | refine ZE ?_ | refine ZF ?_ | refine ZG ?_ | refine ZH ?_)
            refine kLoop_n ⟨hkq, trivial, ?_⟩
            rw [s2]
            exact Wk.go (fun b => b)
      · obtain rfl : k = q := by omega
        rcases hres with ⟨h1, h2⟩ | ⟨h1, h2⟩
        · obtain ⟨h3, h4⟩ := hbad h1
          have C := rCount_bad h4
          rw [h2]
          clear hall hbad
          repeat (first | refine Z1 ?_ | refine Z2 ?_ | (refine Z3 ?_; (repeat (first | (apply gS; first | refine go_no ?_ | refine go_f ?_ | refine gm ?_ | refine gp ?_ | refine go_c rfl rfl (C) ?_))); refine T_nil ?_) | (apply ZK; first | refine Z4 ?_ | refine Z5 ?_) | refine Z6 ?_ | refine Z7 ?_ | refine Z8 ?_ | refine Z9 ?_ | refine ZA ?_ | refine ZB ?_ | refine ZC ?_ | refine ZD ?_ | refine ZE ?_ | refine ZF ?_ | refine ZG ?_ | refine ZH ?_)
          repeat (first | refine kEnd_m ?_ | refine kEnd_f ?_)
          refine kEnd_g ?_ (by first | exact .inl rfl | exact .inr rfl)
          exact Sub.eq rfl rfl
        · subst h1
          rw [List.take_length]
          clear hall hbad
          rcases h2 with ⟨h2, h3⟩ | ⟨h2, ⟨h3, h4⟩ | ⟨h3, h4⟩⟩
          · rw [h2, h3]
            repeat (first | refine Z1 ?_ | refine Z2 ?_ | (refine Z3 ?_; (repeat (first | (apply gS; first | refine go_no ?_ | refine go_f ?_ | refine gm ?_ | refine gp ?_))); refine T_nil ?_) | (apply ZK; first | refine Z4 ?_ | refine Z5 ?_) | refine Z6 ?_ | refine Z7 ?_ | refine Z8 ?_ | refine Z9 ?_ | refine ZA ?_ | refine ZB ?_ | refine ZC ?_ | refine ZD ?_ | refine ZE ?_ | refine ZF ?_ | refine ZG ?_ | refine ZH ?_)
            repeat (first | refine kEnd_m ?_ | refine kEnd_f ?_)
            refine kEnd_g ?_ (by first | exact .inl rfl | exact .inr rfl)
            exact Sub.eq rfl rfl
          · rw [h2, h4]
            repeat (first | refine Z1 ?_ | refine Z2 ?_ | (refine Z3 ?_; (repeat (first | (apply gS; first | refine go_no ?_ | refine go_f ?_ | refine gm ?_ | refine gp ?_))); refine T_nil ?_) | (apply ZK; first | refine Z4 ?_ | refine Z5 ?_) | refine Z6 ?_ | refine Z7 ?_ | refine Z8 ?_ | refine Z9 ?_ | refine ZA ?_ | refine ZB ?_ | refine ZC ?_ | refine ZD ?_ | refine ZE ?_ | refine ZF ?_ | refine ZG ?_ | refine ZH ?_)
            repeat (first | refine kEnd_m ?_ | refine kEnd_f ?_)
            refine kEnd_g ?_ (by first | exact .inl rfl | exact .inr rfl)
            exact Sub.eq rfl rfl
          · rw [h2, h4]
            repeat (first | refine Z1 ?_ | refine Z2 ?_ | (refine Z3 ?_; (repeat (first | (apply gS; first | refine go_no ?_ | refine go_f ?_ | refine gm ?_ | refine gp ?_))); refine T_nil ?_) | (apply ZK; first | refine Z4 ?_ | refine Z5 ?_) | refine Z6 ?_ | refine Z7 ?_ | refine Z8 ?_ | refine Z9 ?_ | refine ZA ?_ | refine ZB ?_ | refine ZC ?_ | refine ZD ?_ | refine ZE ?_ | refine ZF ?_ | refine ZG ?_ | refine ZH ?_)
            repeat (first | refine kEnd_m ?_ | refine kEnd_f ?_)
            refine kEnd_g ?_ (by first | exact .inl rfl | exact .inr rfl)
            exact Sub.eq rfl rfl
  by_cases hall : ∀ j (h : j < rs.length), vB rs[j] = true
  · exact main rs.length (Nat.le_refl _) (fun j h _ => hall j h) (fun h => absurd h (by omega))
  · have hex : ∃ j, ∃ h : j < rs.length, vB rs[j] = false := by
      apply Classical.byContradiction
      intro hno
      exact hall fun j h => by
        cases hv : vB rs[j] with
        | true => rfl
        | false => exact absurd ⟨j, h, hv⟩ hno
    obtain ⟨q0, hq0⟩ := hex
    obtain ⟨q, ⟨hq, hv⟩, hmin⟩ := leastN (p := fun q => ∃ h : q < rs.length, vB rs[q] = false) hq0
    exact main q (by omega) (fun j h hj => by
      cases hv : vB rs[j] with
      | true => rfl
      | false => exact absurd ⟨h, hv⟩ (hmin j hj)) (fun _ => ⟨hq, hv⟩)
end Go.Proofs.Ytifapodobhkdcaa
namespace Go.Proofs.Ytifapodobhkdcaa
open Go.RowKit
set_option linter.unusedVariables false
set_option maxHeartbeats 16000000
set_option linter.unusedSimpArgs false
set_option maxRecDepth 100000
theorem putAt_app {α : Type} : ∀ (ys q p : List α) (off : Nat), putAt (p ++ q) (p.length + off) ys = p ++ putAt q off ys
  | [], _, _, _ => rfl
  | y :: ys, q, p, off => by
    show putAt ((p ++ q).set (p.length + off) y) (p.length + off + 1) ys = p ++ putAt (q.set off y) (off + 1) ys
    rw [List.set_append_right _ _ (by omega), show p.length + off - p.length = off by omega, Nat.add_assoc]
    exact putAt_app ys _ p (off + 1)
theorem put_flat (r : Rg) : ∀ (l : List Rg) (i : Nat), i < l.length → putAt (l.flatMap rC) (i * 3) (rC r) = (l.set i r).flatMap rC
  | [], i, h => by simp at h
  | a :: l, 0, _ => by
    show putAt ([iD a.lo, iD a.hi, iD a.st] ++ l.flatMap rC) 0 [iD r.lo, iD r.hi, iD r.st] = [iD r.lo, iD r.hi, iD r.st] ++ l.flatMap rC
    rfl
  | a :: l, i + 1, h => by
    rw [List.flatMap_cons, List.set_cons_succ, List.flatMap_cons, ← put_flat r l i (by simpa using h)]
    have := putAt_app (rC r) (l.flatMap rC) (rC a) (i * 3)
    rw [show (i + 1) * 3 = (rC a).length + i * 3 by show _ = 3 + i * 3; omega]
    exact this
def wash (cs : List Rg) (i : Nat) : List Rg := List.replicate i ⟨1, 0, 1⟩ ++ cs.drop i
theorem wash_set {cs : List Rg} {i : Nat} (h : i < cs.length) : (wash cs i).set i ⟨1, 0, 1⟩ = wash cs (i + 1) := by
  unfold wash
  rw [List.drop_eq_getElem_cons h, List.replicate_succ', List.append_assoc]
  exact set_mid _ _ _ _ (by simp)
theorem wash_len {cs : List Rg} {i : Nat} (h : i ≤ cs.length) : (wash cs i).length = cs.length := by simp [wash]; omega
theorem flatR_len (l : List Rg) : (l.flatMap rC).length = 3 * l.length := by rw [flat_len (m := 3) (fun _ => rfl)]; omega
theorem rCanon_ok {r : Rg} (h : vB r = true) : DC Try.prog 186 [rD r] (.tup [rD (canonOf (rowOf r)), iD 0]) := by
  have H := rCanonP_d r
  rwa [show canonRes r = (canonOf (rowOf r), 0) from if_pos h] at H
set_option maxHeartbeats 8000000 in
theorem rdCanon_d (rs : List Rg) : DC Try.prog 166 [domD rs] (.tup [domD (dCanonRes rs).1, iD (dCanonRes rs).2]) := by
  have V := rdValid_b rs (b := domB rs) rfl
  unfold dCanonRes
  cases h : domB rs <;> rw [h] at V
  · refine DC.of Try.func166 Try.ntmps166 Try.results166 rfl (by decide +kernel) rfl ?_
    repeat (first | refine Z1 ?_ | refine Z2 ?_ | (refine Z3 ?_; (repeat (first | (apply gS; first | refine go_no ?_ | refine go_f ?_ | refine gm ?_ | refine gp ?_ | refine go_c rfl rfl (V) ?_) | (apply gZ; first | refine go_f ?_ | refine gm ?_))); refine T_nil ?_) | (apply ZK; first | refine Z4 ?_ | refine Z5 ?_) | refine Z6 ?_ | refine Z7 ?_ | refine Z8 ?_ | refine Z9 ?_ | refine ZA ?_ | refine ZB ?_ | refine ZC ?_ | refine ZD ?_ | refine ZE ?_ | refine ZF ?_ | refine ZG ?_ | refine ZH ?_)
    repeat (first | refine kEnd_m ?_ | refine kEnd_f ?_)
    refine kEnd_g ?_ (by first | exact .inl rfl | exact .inr rfl)
    exact Sub.tup (.cons (Sub.agg (.cons Sub.nil .nil)) (.cons (Sub.eq rfl rfl) .nil))
  rw [if_pos rfl]
  obtain ⟨⟨hl1, hl3⟩, hv, hp⟩ := domB_iff.1 h
  have hsn : ∀ k (h : k < rs.length), ((rs.take (k + 1)).map fun r => canonOf (rowOf r)).flatMap rC = ((rs.take k).map fun r => canonOf (rowOf r)).flatMap rC ++ rC (canonOf (rowOf rs[k])) := fun k h => flat_snoc h
  obtain ⟨cs, hcs⟩ : ∃ cs, cs = rs.map fun r => canonOf (rowOf r) := ⟨_, rfl⟩
  have hcl : cs.length = rs.length := by rw [hcs]; simp
  have hres : (noneB (cl rs) = false ∧ canonRs rs = cs) ∨ (noneB (cl rs) = true ∧ canonRs rs = wash cs rs.length) := by
    cases hn : noneB (cl rs) with
    | false =>
      refine .inl ⟨rfl, ?_⟩
      have : ¬ prodN (cl rs) = 0 := fun e => by rw [noneB_prod.2 e] at hn; cases hn
      unfold canonRs
      simp only [this, if_false]
      exact hcs.symm
    | true =>
      refine .inr ⟨rfl, ?_⟩
      unfold canonRs wash
      simp only [noneB_prod.1 hn, if_true]
      rw [← hcl, List.drop_length, List.append_nil, hcl]
      exact List.map_const' ..
  have hflat0 : (rs.map fun r => canonOf (rowOf r)).flatMap rC = (wash cs 0).flatMap rC := by rw [hcs]; simp [wash]
  refine DC.of Try.func166 Try.ntmps166 Try.results166 rfl (by decide +kernel) rfl ?_
  repeat (first | refine Z1 ?_ | refine Z2 ?_ | (refine Z3 ?_; (repeat (first | (apply gS; first | refine go_no ?_ | refine go_f ?_ | refine gm ?_ | refine gp ?_ | refine go_c rfl rfl (V) ?_) | (apply gZ; first | refine go_f ?_ | refine gm ?_))); refine T_nil ?_) | (apply ZK; first | refine Z4 ?_ | refine Z5 ?_) | refine Z6 ?_ | refine Z7 ?_ | refine Z8 ?_ | refine Z9 ?_ | refine ZA ?_ | refine ZB ?_ | refine ZC ?_ | refine ZD ?_ | refine ZE ?_ | refine ZF ?_ | refine ZG ?_ | refine ZH ?_)
  refine C_count rs.length (fun _ => True) (fun k => ⟨4, 68, [(6, iD k), (5, bD (noneB (cl (rs.take k)))), (4, .ptr 2 0), (2, .ptr 1 0), (1, .ptr 0 0)], [(0, some ⟨24, 1, 1, [rowR rs]⟩), (2, some ⟨24, 1, 1, [.own 3 k]⟩), (1, some ⟨24, 1, 1, [.val (.slice none 0 0)]⟩), (3, some ⟨39, 3, k, ((rs.take k).map fun r => canonOf (rowOf r)).flatMap rC⟩)]⟩) ?_ trivial ?_
  · refine Wk.trans (Wk.adoptM 2 0 39 3 rfl rfl) ?_
    exact Wk.go (fun b => b)
  · intro k hk _
    by_cases hlt : k < rs.length
    · have hvk := hv _ (List.getElem_mem hlt)
      have C := rCount_ok hvk
      have N := rCanon_ok hvk
      have en := hsn k hlt
      have s2 := noneB_step (cl (rs.take k)) (cN rs[k])
      rw [← cl_snoc hlt] at s2
      clear hsn hres hflat0
      cases hn : noneB (cl (rs.take k)) <;> rw [hn] at s2
      · by_cases hc : cN rs[k] = 0
        · rw [decide_eq_true hc, Bool.or_true] at s2
          repeat (first | refine Z1 ?_ | refine Z2 ?_ | (refine Z3 ?_; (repeat (first | (apply gS; first | refine go_no ?_ | refine go_f ?_ | refine gm ?_ | refine gp ?_ | refine go_c rfl rfl (C) ?_ | refine go_c rfl rfl (N) ?_) | (apply gZ; first | refine go_f ?_ | refine gm ?_))); refine T_nil ?_) | (apply ZK; first | refine Z4 ?_ | refine Z5 ?_) | refine Z6 ?_ | refine Z7 ?_ | refine Z8 ?_ | refine Z9 ?_ | refine ZA ?_ | refine ZB ?_ | refine ZC ?_ | refine ZD ?_ | refine ZE ?_ | refine ZF ?_ | refine ZG ?_ | refine ZH ?_)
          refine kLoop_n ⟨hlt, trivial, ?_⟩
          rw [s2]
          exact Wk.go (fun b => cond (Nat.beq b 3) 5 (b))
        · rw [decide_eq_false hc, Bool.or_false] at s2
          repeat (first | refine Z1 ?_ | refine Z2 ?_ | (refine Z3 ?_; (repeat (first | (apply gS; first | refine go_no ?_ | refine go_f ?_ | refine gm ?_ | refine gp ?_ | refine go_c rfl rfl (C) ?_ | refine go_c rfl rfl (N) ?_) | (apply gZ; first | refine go_f ?_ | refine gm ?_))); refine T_nil ?_) | (apply ZK; first | refine Z4 ?_ | refine Z5 ?_) | refine Z6 ?_ | refine Z7 ?_ | refine Z8 ?_ | refine Z9 ?_ | refine ZA ?_ | refine ZB ?_ | refine ZC ?_ | refine ZD ?_ | refine ZE ?_ | refine ZF ?_ | refine ZG ?_ | refine ZH ?_)
          refine kLoop_n ⟨hlt, trivial, ?_⟩
          rw [s2]
          exact Wk.go (fun b => cond (Nat.beq b 3) 5 (b))
      · rw [Bool.true_or] at s2
        repeat (first | refine Z1 ?_ | refine Z2 ?_ | (refine Z3 ?_; (repeat (first | (apply gS; first | refine go_no ?_ | refine go_f ?_ | refine gm ?_ | refine gp ?_ | refine go_c rfl rfl (C) ?_ | refine go_c rfl rfl (N) ?_) | (apply gZ; first | refine go_f ?_ | refine gm ?_))); refine T_nil ?_) | (apply ZK; first | refine Z4 ?_ | refine Z5 ?_) | refine Z6 ?_ | refine Z7 ?_ | refine Z8 ?_ | refine Z9 ?_ | refine ZA ?_ | refine ZB ?_ | refine ZC ?_ | refine ZD ?_ | refine ZE ?_ | refine ZF ?_ | refine ZG ?_ | refine ZH ?_)
        refine kLoop_n ⟨hlt, trivial, ?_⟩
        rw [s2]
        exact Wk.go (fun b => cond (Nat.beq b 3) 5 (b))
    · obtain rfl : k = rs.length := by omega
      rw [List.take_length, hflat0]
      clear hsn hflat0 hcs
      rcases hres with ⟨h1, h2⟩ | ⟨h1, h2⟩
      · rw [h1, h2]
        repeat (first | refine Z1 ?_ | refine Z2 ?_ | (refine Z3 ?_; (repeat (first | (apply gS; first | refine go_no ?_ | refine go_f ?_ | refine gm ?_ | refine gp ?_) | (apply gZ; first | refine go_f ?_ | refine gm ?_))); refine T_nil ?_) | (apply ZK; first | refine Z4 ?_ | refine Z5 ?_) | refine Z6 ?_ | refine Z7 ?_ | refine Z8 ?_ | refine Z9 ?_ | refine ZA ?_ | refine ZB ?_ | refine ZC ?_ | refine ZD ?_ | refine ZE ?_ | refine ZF ?_ | refine ZG ?_ | refine ZH ?_)
        refine C_count 0 (fun _ => True) (fun i => ⟨4, 68, [(11, iD i), (5, bD false), (4, .ptr 2 0), (2, .ptr 1 0)], [(2, some ⟨24, 1, 1, [.own 3 rs.length]⟩), (1, some ⟨24, 1, 1, [.val (.slice none 0 0)]⟩), (3, some ⟨39, 3, rs.length, (wash cs i).flatMap rC⟩)]⟩) ?_ trivial ?_
        · exact Wk.go (fun b => b)
        · intro i hi _
          obtain rfl : i = 0 := by omega
          have e0 : wash cs 0 = cs := by simp [wash]
          rw [e0]
          repeat (first | refine Z1 ?_ | refine Z2 ?_ | (refine Z3 ?_; (repeat (first | (apply gS; first | refine go_no ?_ | refine go_f ?_ | refine gm ?_ | refine gp ?_) | (apply gZ; first | refine go_f ?_ | refine gm ?_))); refine T_nil ?_) | (apply ZK; first | refine Z4 ?_ | refine Z5 ?_) | refine Z6 ?_ | refine Z7 ?_ | refine Z8 ?_ | refine Z9 ?_ | refine ZA ?_ | refine ZB ?_ | refine ZC ?_ | refine ZD ?_ | refine ZE ?_ | refine ZF ?_ | refine ZG ?_ | refine ZH ?_)
          repeat (first | refine kEnd_m ?_ | refine kEnd_f ?_)
          refine kEnd_g ?_ (by first | exact .inl rfl | exact .inr rfl)
          exact Sub.eq (by rw [← hcl]; rfl) rfl
      · rw [h1, h2]
        have hw : (wash cs rs.length).length = rs.length := by rw [wash_len (by omega), hcl]
        repeat (first | refine Z1 ?_ | refine Z2 ?_ | (refine Z3 ?_; (repeat (first | (apply gS; first | refine go_no ?_ | refine go_f ?_ | refine gm ?_ | refine gp ?_) | (apply gZ; first | refine go_f ?_ | refine gm ?_))); refine T_nil ?_) | (apply ZK; first | refine Z4 ?_ | refine Z5 ?_) | refine Z6 ?_ | refine Z7 ?_ | refine Z8 ?_ | refine Z9 ?_ | refine ZA ?_ | refine ZB ?_ | refine ZC ?_ | refine ZD ?_ | refine ZE ?_ | refine ZF ?_ | refine ZG ?_ | refine ZH ?_)
        refine C_count rs.length (fun _ => True) (fun i => ⟨4, 68, [(11, iD i), (5, bD true), (4, .ptr 2 0), (2, .ptr 1 0)], [(2, some ⟨24, 1, 1, [.own 3 rs.length]⟩), (1, some ⟨24, 1, 1, [.val (.slice none 0 0)]⟩), (3, some ⟨39, 3, rs.length, (wash cs i).flatMap rC⟩)]⟩) ?_ trivial ?_
        · exact Wk.go (fun b => b)
        · intro i hi _
          by_cases hlt : i < rs.length
          · have en : (wash cs (i + 1)).flatMap rC = putAt ((wash cs i).flatMap rC) (((i : Nat) : Int).toNat * 3) [iD 1, iD 0, iD 1] := by
              rw [Int.toNat_natCast, ← wash_set (by omega)]
              exact (put_flat ⟨1, 0, 1⟩ _ _ (by rw [wash_len (by omega)]; omega)).symm
            have hl := flatR_len (wash cs i)
            rw [wash_len (by omega), hcl] at hl
            repeat (first | refine Z1 ?_ | refine Z2 ?_ | (refine Z3 ?_; (repeat (first | (apply gS; first | refine go_no ?_ | refine go_f ?_ | refine gm ?_ | refine gp ?_) | (apply gZ; first | refine go_f ?_ | refine gm ?_))); refine T_nil ?_) | (apply ZK; first | refine Z4 ?_ | refine Z5 ?_) | refine Z6 ?_ | refine Z7 ?_ | refine Z8 ?_ | refine Z9 ?_ | refine ZA ?_ | refine ZB ?_ | refine ZC ?_ | refine ZD ?_ | refine ZE ?_ | refine ZF ?_ | refine ZG ?_ | refine ZH ?_)
            refine kLoop_n ⟨hlt, trivial, ?_⟩
            exact Wk.go (fun b => b)
          · obtain rfl : i = rs.length := by omega
            repeat (first | refine Z1 ?_ | refine Z2 ?_ | (refine Z3 ?_; (repeat (first | (apply gS; first | refine go_no ?_ | refine go_f ?_ | refine gm ?_ | refine gp ?_) | (apply gZ; first | refine go_f ?_ | refine gm ?_))); refine T_nil ?_) | (apply ZK; first | refine Z4 ?_ | refine Z5 ?_) | refine Z6 ?_ | refine Z7 ?_ | refine Z8 ?_ | refine Z9 ?_ | refine ZA ?_ | refine ZB ?_ | refine ZC ?_ | refine ZD ?_ | refine ZE ?_ | refine ZF ?_ | refine ZG ?_ | refine ZH ?_)
            repeat (first | refine kEnd_m ?_ | refine kEnd_f ?_)
            refine kEnd_g ?_ (by first | exact .inl rfl | exact .inr rfl)
            exact Sub.eq (by show _ = D.tup [.agg [.row (wash cs rs.length).length _], _]; rw [hw]; rfl) rfl
end Go.Proofs.Ytifapodobhkdcaa
namespace Go.Proofs.Ytifapodobhkdcaa
open Go.RowKit
set_option linter.unusedVariables false
set_option maxHeartbeats 16000000
set_option linter.unusedSimpArgs false
set_option maxRecDepth 100000
theorem RC.rows {I : Nat → Prop} {w : World} {n : Nat} {xs xs' : List D} (hl : xs'.length = xs.length) (h : ∀ (j : Nat) (d d' : D), xs[j]? = some d → xs'[j]? = some d' → ∀ v, RC I w d v → RC I w d' v) {v : Value} (hv : RC I w (.row n xs) v) : RC I w (.row n xs') v := by
  cases hv with
  | row hc hm hn hl0 ha hs ho hr =>
    refine .row hc hm hn (by rw [hl, hl0]) ha hs ho fun j d' u h1 h2 => ?_
    have hj : j < xs.length := by rw [← hl]; exact (List.getElem?_eq_some_iff.1 h1).1
    exact h j xs[j] d' (List.getElem?_eq_getElem hj) h1 u (hr j xs[j] u (List.getElem?_eq_getElem hj) h2)
theorem Ren.nilRow {σ : Nat → Nat} {nb' : Nat} : Ren σ nb' (rowL2 [[]]) (.row 1 [.val (.slice none 0 0)]) := fun ρ nb I w v hv => .im (RC.rows (n := 1) (xs' := [rowI []]) (xs := [.val (.slice none 0 0)]) rfl (fun j d d' h1 h2 v hv => by
  cases j with
  | zero => simp at h1 h2; subst h1; subst h2; exact hv.nil_row
  | succ j => simp at h1) (hv.closed rfl))
theorem rMembers_ok {r : Rg} (h : vB r = true) (hn : cN r ≤ 4096) : DC Try.prog 167 [rD r] (.tup [rowI (memN r), iD 0]) := by
  have H := rMembers_d r
  have := cN_int h
  rwa [show membersRes r = (memN r, 0) by rw [membersRes, if_pos h, if_pos (by omega)]; rfl] at H
theorem snoc_row (o : List Int) (x : Int) : rowI (o ++ [x]) = .row (0 + o.length + 1) (([] ++ intsD o) ++ [iD x]) := by
  show D.row _ _ = _
  congr 1
  · simp
  · simp [intsD]
theorem canonRs_facts {rs : List Rg} (h : domB rs = true) : (canonRs rs).length = rs.length ∧ (∀ c ∈ canonRs rs, vB c = true ∧ cN c ≤ 4096) ∧ (∀ i, prodN (cl ((canonRs rs).take i)) ≤ 4096) ∧ idxs (canonRs rs) = idxs rs := by
  obtain ⟨⟨hl1, hl3⟩, hv, hp⟩ := domB_iff.1 h
  refine ⟨by simp [canonRs], ?_⟩
  by_cases hz : prodN (cl rs) = 0
  · have e : canonRs rs = List.replicate rs.length ⟨1, 0, 1⟩ := by
      unfold canonRs; simp only [hz, if_true]; exact List.map_const' ..
    rw [e]
    refine ⟨fun c hc => ?_, fun i => ?_, ?_⟩
    · rw [List.eq_of_mem_replicate hc]; decide
    · rw [List.take_replicate]
      cases hm : min i rs.length with
      | zero => simp [cl, prodN]
      | succ n => rw [List.replicate_succ]; show cN ⟨1, 0, 1⟩ * _ ≤ _; rw [none_c, Nat.zero_mul]; omega
    · obtain ⟨n, hn⟩ : ∃ n, rs.length = n + 1 := ⟨rs.length - 1, by omega⟩
      have e1 : idxs rs = [] := List.eq_nil_of_length_eq_zero (by rw [idxs_len]; exact hz)
      rw [e1, hn, List.replicate_succ]
      exact List.eq_nil_of_length_eq_zero (by rw [idxs_len]; show cN ⟨1, 0, 1⟩ * _ = 0; rw [none_c, Nat.zero_mul])
  · have e : canonRs rs = rs.map fun r => canonOf (rowOf r) := by unfold canonRs; simp only [hz, if_false]
    have hz' : 0 ∉ cl rs := fun h => hz (prodN_zero.2 h)
    have hcl : cl (canonRs rs) = cl rs := by
      rw [e]; unfold cl; rw [List.map_map]
      exact List.map_congr_left fun r hr => (memN_canon (hv r hr)).2
    have hcN : ∀ n ∈ cl rs, n ≤ 4096 := fun n hn => by
      obtain ⟨i, hi, rfl⟩ := List.getElem_of_mem hn
      have h1 := prodN_take i hi
      have h2 := prodN_le hz' (i + 1)
      have h3 := prodN_le hz' i
      have := Nat.le_mul_of_pos_left (cl rs)[i] h3.1
      omega
    refine ⟨fun c hc => ?_, fun i => ?_, ?_⟩
    · have h2 : cN c ∈ cl rs := by rw [← hcl]; exact List.mem_map.2 ⟨c, hc, rfl⟩
      rw [e] at hc
      obtain ⟨r, hr, rfl⟩ := List.mem_map.1 hc
      exact ⟨vB_true (canon_ok (vB_okS (hv r hr))), hcN _ h2⟩
    · rw [← cl_take, hcl]
      exact Nat.le_trans (prodN_le hz' i).2 hp
    · rw [e]
      clear e hz hz' hcl hcN hp hl1 hl3 h
      induction rs with
      | nil => rfl
      | cons r rs ih =>
        rw [List.map_cons]
        show (memN (canonOf (rowOf r))).flatMap _ = (memN r).flatMap _
        rw [(memN_canon (hv r (by simp))).1, ih fun r hr => hv r (by simp [hr])]
set_option maxHeartbeats 16000000 in
theorem rdIndexes_d (rs : List Rg) : DC Try.prog 114 [domD rs] (.tup [rowL2 (dIndexesRes rs).1, iD (dIndexesRes rs).2]) := by
  have V := rdValid_b rs (b := domB rs) rfl
  have C := rdCanon_d rs
  unfold dIndexesRes
  unfold dCanonRes at C
  cases h : domB rs <;> rw [h] at V C
  · refine DC.of Try.func114 Try.ntmps114 Try.results114 rfl (by decide +kernel) rfl ?_
    repeat (first | refine Z1 ?_ | refine Z2 ?_ | (refine Z3 ?_; (repeat (first | (apply gS; first | refine go_f ?_ | refine gm ?_ | refine gp ?_ | refine go_c rfl rfl (V) ?_) | (apply gZ; first | refine go_f ?_ | refine gm ?_))); refine T_nil ?_) | (apply ZR; refine C_dr mixed ?_; (repeat (first | (apply vS; first | refine vl 51 ?_ | refine va ?_ | refine vp ?_ | refine vr ?_ | refine vf 62 ?_ | refine vt ?_ | refine vc (V) ?_) | (apply vZ; first | refine vs ?_))); refine W_e ?_) | (apply ZK; first | refine Z4 ?_ | refine Z5 ?_) | refine Z6 ?_ | refine Z7 ?_ | refine Z8 ?_ | refine Z9 ?_ | refine ZA ?_ | refine ZB ?_ | refine ZC ?_ | refine ZD ?_ | refine ZE ?_ | refine ZF ?_ | refine ZG ?_ | refine ZH ?_)
    repeat (first | refine kEnd_m ?_ | refine kEnd_f ?_)
    refine kEnd_g ?_ (by first | exact .inl rfl | exact .inr rfl)
    exact Sub.tup (.cons Sub.nil (.cons (Sub.eq rfl rfl) .nil))
  rw [if_pos rfl] at C ⊢
  obtain ⟨c1, c2, c3, c4⟩ := canonRs_facts h
  rw [← c4]
  have hl3 := (domB_iff.1 h).1
  generalize canonRs rs = cs at *
  rw [← c1] at hl3
  clear h c1 c4
  refine DC.of Try.func114 Try.ntmps114 Try.results114 rfl (by decide +kernel) rfl ?_
  repeat (first | refine Z1 ?_ | refine Z2 ?_ | (refine Z3 ?_; (repeat (first | (apply gS; first | refine go_f ?_ | refine gm ?_ | refine gp ?_ | refine go_c rfl rfl (V) ?_ | refine go_c rfl rfl (C) ?_) | (apply gZ; first | refine go_f ?_ | refine gm ?_))); refine T_nil ?_) | (apply ZR; refine C_dr mixed ?_; (repeat (first | (apply vS; first | refine vl 51 ?_ | refine va ?_ | refine vp ?_ | refine vr ?_ | refine vf 62 ?_ | refine vt ?_ | refine vc (V) ?_ | refine vc (C) ?_) | (apply vZ; first | refine vs ?_))); refine W_e ?_) | (apply ZK; first | refine Z4 ?_ | refine Z5 ?_) | refine Z6 ?_ | refine Z7 ?_ | refine Z8 ?_ | refine Z9 ?_ | refine ZA ?_ | refine ZB ?_ | refine ZC ?_ | refine ZD ?_ | refine ZE ?_ | refine ZF ?_ | refine ZG ?_ | refine ZH ?_)
  refine C_count cs.length (fun _ => True) (fun i => ⟨2, 67, [(7, iD i), (6, rowL2 (idxs (cs.take i))), (4, .ptr 1 0)], [(1, some ⟨24, 1, 1, [rowR cs]⟩)]⟩) ?_ trivial ?_
  · exact Wk.mk (fun b => b) (.cons rfl (Ren.im rfl) (.cons rfl Ren.nilRow (.cons rfl (Ren.ptr rfl rfl rfl) .nil))) (.cons rfl rfl rfl (RenL.im rfl rfl) .nil) rfl
  · intro i hi _
    by_cases hlt : i < cs.length
    · have hm := c2 _ (List.getElem_mem hlt)
      have M := rMembers_ok hm.1 hm.2
      have e5 : idxs (cs.take (i + 1)) = nx (idxs (cs.take i)) (memN cs[i]) (idxs (cs.take i)).length 0 := by
        rw [List.take_succ_eq_append_getElem hlt, idxs_snoc, nx_end]
      have hA : ∀ o ∈ idxs (cs.take i), o.length ≤ 3 := fun o ho => by
        rw [idxs_each ho, List.length_take]; omega
      have hcap : (idxs (cs.take i)).length * (memN cs[i]).length ≤ 4096 := by
        have := c3 (i + 1)
        rw [List.take_succ_eq_append_getElem hlt] at this
        rw [idxs_len, memN_len]
        have e : prodN (cl (cs.take i ++ [cs[i]])) = prodN (cl (cs.take i)) * cN cs[i] := by
          unfold cl; rw [List.map_append, prodN_append]; simp [prodN]
        omega
      have hAl : (idxs (cs.take i)).length ≤ 4096 := by rw [idxs_len]; exact c3 i
      have hLl : (memN cs[i]).length ≤ 4096 := by rw [memN_len]; exact hm.2
      have hci : (i : Int) + 1 ≤ 3 := by omega
      clear c2 c3
      generalize memN cs[i] = L at *
      generalize idxs (cs.take i) = A at *
      repeat (first | refine Z1 ?_ | refine Z2 ?_ | (refine Z3 ?_; (repeat (first | (apply gS; first | refine go_f ?_ | refine gm ?_ | refine gp ?_ | refine go_c rfl rfl (M) ?_) | (apply gZ; first | refine go_f ?_ | refine gm ?_))); refine T_nil ?_) | (apply ZR; refine C_dr mixed ?_; (repeat (first | (apply vS; first | refine vl 51 ?_ | refine va ?_ | refine vp ?_ | refine vr ?_ | refine vf 62 ?_ | refine vt ?_ | refine vc (M) ?_) | (apply vZ; first | refine vs ?_))); refine W_e ?_) | (apply ZK; first | refine Z4 ?_ | refine Z5 ?_) | refine Z6 ?_ | refine Z7 ?_ | refine Z8 ?_ | refine Z9 ?_ | refine ZA ?_ | refine ZB ?_ | refine ZC ?_ | refine ZD ?_ | refine ZE ?_ | refine ZF ?_ | refine ZG ?_ | refine ZH ?_)
      refine C_count A.length (fun _ => True) (fun k => ⟨3, 67, [(11, iD k), (10, .own 2 (nx A L k 0).length), (8, rowI L), (7, iD i), (6, rowL2 A), (4, .ptr 1 0)], [(1, some ⟨24, 1, 1, [rowR cs]⟩), (2, some ⟨25, 1, (nx A L k 0).length, (nx A L k 0).map rowI⟩)]⟩) ?_ trivial ?_
      · rw [nx_0]
        refine Wk.trans (Wk.adoptT 10 25 1 rfl) ?_
        exact Wk.go (fun b => b)
      · intro k hk _
        by_cases hkl : k < A.length
        · repeat (first | refine Z1 ?_ | refine Z2 ?_ | (refine Z3 ?_; (repeat (first | (apply gS; first | refine go_f ?_ | refine gm ?_ | refine gp ?_) | (apply gZ; first | refine go_f ?_ | refine gm ?_))); refine T_nil ?_) | (apply ZR; refine C_dr mixed ?_; (repeat (first | (apply vS; first | refine vl 51 ?_ | refine va ?_ | refine vp ?_ | refine vr ?_ | refine vf 62 ?_ | refine vt ?_) | (apply vZ; first | refine vs ?_))); refine W_e ?_) | (apply ZK; first | refine Z4 ?_ | refine Z5 ?_) | refine Z6 ?_ | refine Z7 ?_ | refine Z8 ?_ | refine Z9 ?_ | refine ZA ?_ | refine ZB ?_ | refine ZC ?_ | refine ZD ?_ | refine ZE ?_ | refine ZF ?_ | refine ZG ?_ | refine ZH ?_)
          refine C_count L.length (fun _ => True) (fun j => ⟨3, 67, [(12, iD j), (11, iD k), (10, .own 2 (nx A L k j).length), (8, rowI L), (7, iD i), (6, rowL2 A), (4, .ptr 1 0)], [(1, some ⟨24, 1, 1, [rowR cs]⟩), (2, some ⟨25, 1, (nx A L k j).length, (nx A L k j).map rowI⟩)]⟩) ?_ trivial ?_
          · exact Wk.go (fun b => b)
          · intro j hj _
            by_cases hjl : j < L.length
            · have s1 := nx_step hkl hjl
              have ho := hA _ (List.getElem_mem hkl)
              have hn := nx_len (A := A) (L := L) (k := k) (j := j + 1) hk (by omega)
              have el : (nx A L k (j + 1)).length = (nx A L k j).length + 1 := by rw [s1]; simp
              have en : (nx A L k (j + 1)).map rowI = (nx A L k j).map rowI ++ [.row (0 + A[k].length + 1) (([] ++ intsD A[k]) ++ [iD L[j]])] := by
                rw [s1, List.map_append, List.map_cons, List.map_nil, snoc_row]
              repeat (first | refine Z1 ?_ | refine Z2 ?_ | (refine Z3 ?_; (repeat (first | (apply gS; first | refine go_f ?_ | refine gm ?_ | refine gp ?_) | (apply gZ; first | refine go_f ?_ | refine gm ?_))); refine T_nil ?_) | (apply ZR; refine C_dr mixed ?_; (repeat (first | (apply vS; first | refine vl 51 ?_ | refine va ?_ | refine vp ?_ | refine vr ?_ | refine vf 62 ?_ | refine vt ?_) | (apply vZ; first | refine vs ?_))); refine W_e ?_) | (apply ZK; first | refine Z4 ?_ | refine Z5 ?_) | refine Z6 ?_ | refine Z7 ?_ | refine Z8 ?_ | refine Z9 ?_ | refine ZA ?_ | refine ZB ?_ | refine ZC ?_ | refine ZD ?_ | refine ZE ?_ | refine ZF ?_ | refine ZG ?_ | refine ZH ?_)
              refine kLoop_n ⟨hjl, trivial, ?_⟩
              exact Wk.go (fun b => cond (Nat.beq b 2) 6 (b))
            · obtain rfl : j = L.length := by omega
              rw [nx_row hkl]
              repeat (first | refine Z1 ?_ | refine Z2 ?_ | (refine Z3 ?_; (repeat (first | (apply gS; first | refine go_f ?_ | refine gm ?_ | refine gp ?_) | (apply gZ; first | refine go_f ?_ | refine gm ?_))); refine T_nil ?_) | (apply ZR; refine C_dr mixed ?_; (repeat (first | (apply vS; first | refine vl 51 ?_ | refine va ?_ | refine vp ?_ | refine vr ?_ | refine vf 62 ?_ | refine vt ?_) | (apply vZ; first | refine vs ?_))); refine W_e ?_) | (apply ZK; first | refine Z4 ?_ | refine Z5 ?_) | refine Z6 ?_ | refine Z7 ?_ | refine Z8 ?_ | refine Z9 ?_ | refine ZA ?_ | refine ZB ?_ | refine ZC ?_ | refine ZD ?_ | refine ZE ?_ | refine ZF ?_ | refine ZG ?_ | refine ZH ?_)
              refine kLoop_n ⟨hkl, trivial, ?_⟩
              exact Wk.go (fun b => b)
        · obtain rfl : k = A.length := by omega
          repeat (first | refine Z1 ?_ | refine Z2 ?_ | (refine Z3 ?_; (repeat (first | (apply gS; first | refine go_f ?_ | refine gm ?_ | refine gp ?_) | (apply gZ; first | refine go_f ?_ | refine gm ?_))); refine T_nil ?_) | (apply ZR; refine C_dr mixed ?_; (repeat (first | (apply vS; first | refine vl 51 ?_ | refine va ?_ | refine vp ?_ | refine vr ?_ | refine vf 62 ?_ | refine vt ?_) | (apply vZ; first | refine vs ?_))); refine W_e ?_) | (apply ZK; first | refine Z4 ?_ | refine Z5 ?_) | refine Z6 ?_ | refine Z7 ?_ | refine Z8 ?_ | refine Z9 ?_ | refine ZA ?_ | refine ZB ?_ | refine ZC ?_ | refine ZD ?_ | refine ZE ?_ | refine ZF ?_ | refine ZG ?_ | refine ZH ?_)
          refine kLoop_n ⟨hlt, trivial, ?_⟩
          rw [e5]
          refine Wk.trans (Wk.freeze2 2 rfl (by repeat (first | rfl | exact idsL_map (fun _ => rfl) _ | exact idsL_flat (fun _ => rfl) _ | refine idsL_append ?_ ?_)) (by repeat (first | exact trivial | exact rfl | refine And.intro ?_ ?_))) ?_
          exact Wk.go (fun b => b)
    · obtain rfl : i = cs.length := by omega
      rw [List.take_length]
      repeat (first | refine Z1 ?_ | refine Z2 ?_ | (refine Z3 ?_; (repeat (first | (apply gS; first | refine go_f ?_ | refine gm ?_ | refine gp ?_) | (apply gZ; first | refine go_f ?_ | refine gm ?_))); refine T_nil ?_) | (apply ZR; refine C_dr mixed ?_; (repeat (first | (apply vS; first | refine vl 51 ?_ | refine va ?_ | refine vp ?_ | refine vr ?_ | refine vf 62 ?_ | refine vt ?_) | (apply vZ; first | refine vs ?_))); refine W_e ?_) | (apply ZK; first | refine Z4 ?_ | refine Z5 ?_) | refine Z6 ?_ | refine Z7 ?_ | refine Z8 ?_ | refine Z9 ?_ | refine ZA ?_ | refine ZB ?_ | refine ZC ?_ | refine ZD ?_ | refine ZE ?_ | refine ZF ?_ | refine ZG ?_ | refine ZH ?_)
      repeat (first | refine kEnd_m ?_ | refine kEnd_f ?_)
      refine kEnd_g ?_ (by first | exact .inl rfl | exact .inr rfl)
      exact Sub.eq rfl rfl
end Go.Proofs.Ytifapodobhkdcaa
namespace Go.Proofs.Ytifapodobhkdcaa
open Go.RowKit
set_option linter.unusedVariables false
set_option maxHeartbeats 16000000
set_option linter.unusedSimpArgs false
set_option maxRecDepth 100000
set_option maxHeartbeats 4000000 in
theorem rSame4_d (la lb : List Int) (ha : la.length ≤ 9223372036854775806) : DC Try.prog 154 [rowI la, rowI lb] (bD (decide (la = lb))) := by
  by_cases hn : la.length = lb.length
  · have hn' : (la.length : Int) = lb.length := by omega
    refine DC.of Try.func154 Try.ntmps154 Try.results154 rfl (by decide +kernel) rfl ?_
    repeat (first | refine Z1 ?_ | refine Z2 ?_ | (refine Z3 ?_; (repeat (first | (apply gS; first | refine go_f ?_ | refine gm ?_ | refine gp ?_))); refine T_nil ?_) | (apply ZR; refine C_dr mixed ?_; (repeat (first | (apply vS; first | refine va ?_ | refine vp ?_ | refine vr ?_ | refine vt ?_))); refine W_e ?_) | (apply ZK; first | refine Z4 ?_ | refine Z5 ?_) | refine Z6 ?_ | refine Z7 ?_ | refine Z8 ?_ | refine Z9 ?_ | refine ZA ?_ | refine ZB ?_ | refine ZC ?_ | refine ZD ?_ | refine ZE ?_ | refine ZF ?_ | refine ZG ?_ | refine ZH ?_)
    refine C_count la.length (fun k => ∀ j (h1 : j < la.length) (h2 : j < lb.length), j < k → la[j] = lb[j]) (fun k => ⟨0, 26, [(0, rowI la), (1, rowI lb), (5, iD k)], []⟩) ?_ (fun j _ _ h => absurd h (by omega)) ?_
    · exact Wk.go (fun b => b)
    · intro k hk hΦ
      by_cases hlt : k < la.length
      · have h2 : k < lb.length := by omega
        by_cases he : la[k] = lb[k]
        · repeat (first | refine Z1 ?_ | refine Z2 ?_ | (refine Z3 ?_; (repeat (first | (apply gS; first | refine go_f ?_ | refine gm ?_ | refine gp ?_))); refine T_nil ?_) | (apply ZR; refine C_dr mixed ?_; (repeat (first | (apply vS; first | refine va ?_ | refine vp ?_ | refine vr ?_ | refine vt ?_))); refine W_e ?_) | (apply ZK; first | refine Z4 ?_ | refine Z5 ?_) | refine Z6 ?_ | refine Z7 ?_ | refine Z8 ?_ | refine Z9 ?_ | refine ZA ?_ | refine ZB ?_ | refine ZC ?_ | refine ZD ?_ | refine ZE ?_ | refine ZF ?_ | refine ZG ?_ | refine ZH ?_)
          refine kLoop_n ⟨hlt, fun j h1 h2 h => ?_, ?_⟩
          · by_cases hj : j = k
            · subst hj; exact he
            · exact hΦ j h1 h2 (by omega)
          · exact Wk.go (fun b => b)
        · repeat (first | refine Z1 ?_ | refine Z2 ?_ | (refine Z3 ?_; (repeat (first | (apply gS; first | refine go_f ?_ | refine gm ?_ | refine gp ?_))); refine T_nil ?_) | (apply ZR; refine C_dr mixed ?_; (repeat (first | (apply vS; first | refine va ?_ | refine vp ?_ | refine vr ?_ | refine vt ?_))); refine W_e ?_) | (apply ZK; first | refine Z4 ?_ | refine Z5 ?_) | refine Z6 ?_ | refine Z7 ?_ | refine Z8 ?_ | refine Z9 ?_ | refine ZA ?_ | refine ZB ?_ | refine ZC ?_ | refine ZD ?_ | refine ZE ?_ | refine ZF ?_ | refine ZG ?_ | refine ZH ?_)
          repeat (first | refine kEnd_m ?_ | refine kEnd_f ?_)
          refine kEnd_g ?_ (by first | exact .inl rfl | exact .inr rfl)
          exact Sub.eq (by simp [tupD]; intro h; subst h; exact he rfl) rfl
      · repeat (first | refine Z1 ?_ | refine Z2 ?_ | (refine Z3 ?_; (repeat (first | (apply gS; first | refine go_f ?_ | refine gm ?_ | refine gp ?_))); refine T_nil ?_) | (apply ZR; refine C_dr mixed ?_; (repeat (first | (apply vS; first | refine va ?_ | refine vp ?_ | refine vr ?_ | refine vt ?_))); refine W_e ?_) | (apply ZK; first | refine Z4 ?_ | refine Z5 ?_) | refine Z6 ?_ | refine Z7 ?_ | refine Z8 ?_ | refine Z9 ?_ | refine ZA ?_ | refine ZB ?_ | refine ZC ?_ | refine ZD ?_ | refine ZE ?_ | refine ZF ?_ | refine ZG ?_ | refine ZH ?_)
        repeat (first | refine kEnd_m ?_ | refine kEnd_f ?_)
        refine kEnd_g ?_ (by first | exact .inl rfl | exact .inr rfl)
        have h : la = lb := List.ext_getElem hn fun j h1 h2 => hΦ j h1 h2 (by omega)
        exact Sub.eq (by simp [tupD, h]) rfl
  · have hn' : ¬ (la.length : Int) = lb.length := by omega
    refine DC.of Try.func154 Try.ntmps154 Try.results154 rfl (by decide +kernel) rfl ?_
    repeat (first | refine Z1 ?_ | refine Z2 ?_ | (refine Z3 ?_; (repeat (first | (apply gS; first | refine go_f ?_ | refine gm ?_ | refine gp ?_))); refine T_nil ?_) | (apply ZR; refine C_dr mixed ?_; (repeat (first | (apply vS; first | refine va ?_ | refine vp ?_ | refine vr ?_ | refine vt ?_))); refine W_e ?_) | (apply ZK; first | refine Z4 ?_ | refine Z5 ?_) | refine Z6 ?_ | refine Z7 ?_ | refine Z8 ?_ | refine Z9 ?_ | refine ZA ?_ | refine ZB ?_ | refine ZC ?_ | refine ZD ?_ | refine ZE ?_ | refine ZF ?_ | refine ZG ?_ | refine ZH ?_)
    repeat (first | refine kEnd_m ?_ | refine kEnd_f ?_)
    refine kEnd_g ?_ (by first | exact .inl rfl | exact .inr rfl)
    exact Sub.eq (by simp [tupD]; intro h; exact hn (by rw [h])) rfl
set_option maxHeartbeats 4000000 in
theorem sameInts2_d (la lb : List Int) (ha : la.length ≤ 9223372036854775806) : DC Try.prog 97 [rowI la, rowI lb] (bD (decide (la = lb))) := by
  by_cases hn : la.length = lb.length
  · have hn' : (la.length : Int) = lb.length := by omega
    refine DC.of Try.func97 Try.ntmps97 Try.results97 rfl (by decide +kernel) rfl ?_
    repeat (first | refine Z1 ?_ | refine Z2 ?_ | (refine Z3 ?_; (repeat (first | (apply gS; first | refine go_f ?_ | refine gm ?_ | refine gp ?_))); refine T_nil ?_) | (apply ZR; refine C_dr mixed ?_; (repeat (first | (apply vS; first | refine va ?_ | refine vp ?_ | refine vr ?_ | refine vt ?_))); refine W_e ?_) | (apply ZK; first | refine Z4 ?_ | refine Z5 ?_) | refine Z6 ?_ | refine Z7 ?_ | refine Z8 ?_ | refine Z9 ?_ | refine ZA ?_ | refine ZB ?_ | refine ZC ?_ | refine ZD ?_ | refine ZE ?_ | refine ZF ?_ | refine ZG ?_ | refine ZH ?_)
    refine C_count la.length (fun k => ∀ j (h1 : j < la.length) (h2 : j < lb.length), j < k → la[j] = lb[j]) (fun k => ⟨0, 26, [(0, rowI la), (1, rowI lb), (5, iD k)], []⟩) ?_ (fun j _ _ h => absurd h (by omega)) ?_
    · exact Wk.go (fun b => b)
    · intro k hk hΦ
      by_cases hlt : k < la.length
      · have h2 : k < lb.length := by omega
        by_cases he : la[k] = lb[k]
        · repeat (first | refine Z1 ?_ | refine Z2 ?_ | (refine Z3 ?_; (repeat (first | (apply gS; first | refine go_f ?_ | refine gm ?_ | refine gp ?_))); refine T_nil ?_) | (apply ZR; refine C_dr mixed ?_; (repeat (first | (apply vS; first | refine va ?_ | refine vp ?_ | refine vr ?_ | refine vt ?_))); refine W_e ?_) | (apply ZK; first | refine Z4 ?_ | refine Z5 ?_) | refine Z6 ?_ | refine Z7 ?_ | refine Z8 ?_ | refine Z9 ?_ | refine ZA ?_ | refine ZB ?_ | refine ZC ?_ | refine ZD ?_ | refine ZE ?_ | refine ZF ?_ | refine ZG ?_ | refine ZH ?_)
          refine kLoop_n ⟨hlt, fun j h1 h2 h => ?_, ?_⟩
          · by_cases hj : j = k
            · subst hj; exact he
            · exact hΦ j h1 h2 (by omega)
          · exact Wk.go (fun b => b)
        · repeat (first | refine Z1 ?_ | refine Z2 ?_ | (refine Z3 ?_; (repeat (first | (apply gS; first | refine go_f ?_ | refine gm ?_ | refine gp ?_))); refine T_nil ?_) | (apply ZR; refine C_dr mixed ?_; (repeat (first | (apply vS; first | refine va ?_ | refine vp ?_ | refine vr ?_ | refine vt ?_))); refine W_e ?_) | (apply ZK; first | refine Z4 ?_ | refine Z5 ?_) | refine Z6 ?_ | refine Z7 ?_ | refine Z8 ?_ | refine Z9 ?_ | refine ZA ?_ | refine ZB ?_ | refine ZC ?_ | refine ZD ?_ | refine ZE ?_ | refine ZF ?_ | refine ZG ?_ | refine ZH ?_)
          repeat (first | refine kEnd_m ?_ | refine kEnd_f ?_)
          refine kEnd_g ?_ (by first | exact .inl rfl | exact .inr rfl)
          exact Sub.eq (by simp [tupD]; intro h; subst h; exact he rfl) rfl
      · repeat (first | refine Z1 ?_ | refine Z2 ?_ | (refine Z3 ?_; (repeat (first | (apply gS; first | refine go_f ?_ | refine gm ?_ | refine gp ?_))); refine T_nil ?_) | (apply ZR; refine C_dr mixed ?_; (repeat (first | (apply vS; first | refine va ?_ | refine vp ?_ | refine vr ?_ | refine vt ?_))); refine W_e ?_) | (apply ZK; first | refine Z4 ?_ | refine Z5 ?_) | refine Z6 ?_ | refine Z7 ?_ | refine Z8 ?_ | refine Z9 ?_ | refine ZA ?_ | refine ZB ?_ | refine ZC ?_ | refine ZD ?_ | refine ZE ?_ | refine ZF ?_ | refine ZG ?_ | refine ZH ?_)
        repeat (first | refine kEnd_m ?_ | refine kEnd_f ?_)
        refine kEnd_g ?_ (by first | exact .inl rfl | exact .inr rfl)
        have h : la = lb := List.ext_getElem hn fun j h1 h2 => hΦ j h1 h2 (by omega)
        exact Sub.eq (by simp [tupD, h]) rfl
  · have hn' : ¬ (la.length : Int) = lb.length := by omega
    refine DC.of Try.func97 Try.ntmps97 Try.results97 rfl (by decide +kernel) rfl ?_
    repeat (first | refine Z1 ?_ | refine Z2 ?_ | (refine Z3 ?_; (repeat (first | (apply gS; first | refine go_f ?_ | refine gm ?_ | refine gp ?_))); refine T_nil ?_) | (apply ZR; refine C_dr mixed ?_; (repeat (first | (apply vS; first | refine va ?_ | refine vp ?_ | refine vr ?_ | refine vt ?_))); refine W_e ?_) | (apply ZK; first | refine Z4 ?_ | refine Z5 ?_) | refine Z6 ?_ | refine Z7 ?_ | refine Z8 ?_ | refine Z9 ?_ | refine ZA ?_ | refine ZB ?_ | refine ZC ?_ | refine ZD ?_ | refine ZE ?_ | refine ZF ?_ | refine ZG ?_ | refine ZH ?_)
    repeat (first | refine kEnd_m ?_ | refine kEnd_f ?_)
    refine kEnd_g ?_ (by first | exact .inl rfl | exact .inr rfl)
    exact Sub.eq (by simp [tupD]; intro h; exact hn (by rw [h])) rfl
set_option maxHeartbeats 4000000 in
theorem lists_d (l : List (List Int)) (hl : l.length ≤ 9223372036854775806) (ho : ∀ o ∈ l, o.length ≤ 9223372036854775806) : DC Try.prog 89 [rowL2 l, rowL2 l] (bD true) := by
  refine DC.of Try.func89 Try.ntmps89 Try.results89 rfl (by decide +kernel) rfl ?_
  repeat (first | refine Z1 ?_ | refine Z2 ?_ | (refine Z3 ?_; (repeat (first | (apply gS; first | refine go_f ?_ | refine gm ?_ | refine gp ?_))); refine T_nil ?_) | (apply ZR; refine C_dr mixed ?_; (repeat (first | (apply vS; first | refine va ?_ | refine vp ?_ | refine vr ?_ | refine vt ?_))); refine W_e ?_) | (apply ZK; first | refine Z4 ?_ | refine Z5 ?_) | refine Z6 ?_ | refine Z7 ?_ | refine Z8 ?_ | refine Z9 ?_ | refine ZA ?_ | refine ZB ?_ | refine ZC ?_ | refine ZD ?_ | refine ZE ?_ | refine ZF ?_ | refine ZG ?_ | refine ZH ?_)
  refine C_count l.length (fun _ => True) (fun k => ⟨0, 27, [(0, rowL2 l), (1, rowL2 l), (5, iD k)], []⟩) ?_ trivial ?_
  · exact Wk.go (fun b => b)
  · intro k hk _
    by_cases hlt : k < l.length
    · have S := sameInts2_d l[k] l[k] (ho _ (List.getElem_mem hlt))
      rw [decide_eq_true rfl] at S
      repeat (first | refine Z1 ?_ | refine Z2 ?_ | (refine Z3 ?_; (repeat (first | (apply gS; first | refine go_f ?_ | refine gm ?_ | refine gp ?_ | refine go_c rfl rfl (S) ?_))); refine T_nil ?_) | (apply ZR; refine C_dr mixed ?_; (repeat (first | (apply vS; first | refine va ?_ | refine vp ?_ | refine vr ?_ | refine vt ?_ | refine vc (S) ?_))); refine W_e ?_) | (apply ZK; first | refine Z4 ?_ | refine Z5 ?_) | refine Z6 ?_ | refine Z7 ?_ | refine Z8 ?_ | refine Z9 ?_ | refine ZA ?_ | refine ZB ?_ | refine ZC ?_ | refine ZD ?_ | refine ZE ?_ | refine ZF ?_ | refine ZG ?_ | refine ZH ?_)
      refine kLoop_n ⟨hlt, trivial, ?_⟩
      exact Wk.go (fun b => b)
    · repeat (first | refine Z1 ?_ | refine Z2 ?_ | (refine Z3 ?_; (repeat (first | (apply gS; first | refine go_f ?_ | refine gm ?_ | refine gp ?_))); refine T_nil ?_) | (apply ZR; refine C_dr mixed ?_; (repeat (first | (apply vS; first | refine va ?_ | refine vp ?_ | refine vr ?_ | refine vt ?_))); refine W_e ?_) | (apply ZK; first | refine Z4 ?_ | refine Z5 ?_) | refine Z6 ?_ | refine Z7 ?_ | refine Z8 ?_ | refine Z9 ?_ | refine ZA ?_ | refine ZB ?_ | refine ZC ?_ | refine ZD ?_ | refine ZE ?_ | refine ZF ?_ | refine ZG ?_ | refine ZH ?_)
      repeat (first | refine kEnd_m ?_ | refine kEnd_f ?_)
      refine kEnd_g ?_ (by first | exact .inl rfl | exact .inr rfl)
      exact Sub.eq rfl rfl
set_option maxHeartbeats 4000000 in
theorem equal_d (rs : List Rg) (hl : rs.length ≤ 9223372036854775806) : DC Try.prog 44 [domD rs, domD rs] (bD true) := by
  refine DC.of Try.func44 Try.ntmps44 Try.results44 rfl (by decide +kernel) rfl ?_
  repeat (first | refine Z1 ?_ | refine Z2 ?_ | (refine Z3 ?_; (repeat (first | (apply gS; first | refine go_f ?_ | refine gm ?_ | refine gp ?_))); refine T_nil ?_) | (apply ZR; refine C_dr mixed ?_; (repeat (first | (apply vS; first | refine va ?_ | refine vp ?_ | refine vr ?_ | refine vt ?_))); refine W_e ?_) | (apply ZK; first | refine Z4 ?_ | refine Z5 ?_) | refine Z6 ?_ | refine Z7 ?_ | refine Z8 ?_ | refine Z9 ?_ | refine ZA ?_ | refine ZB ?_ | refine ZC ?_ | refine ZD ?_ | refine ZE ?_ | refine ZF ?_ | refine ZG ?_ | refine ZH ?_)
  refine C_count rs.length (fun _ => True) (fun k => ⟨2, 31, [(2, .ptr 0 0), (3, .ptr 1 0), (5, iD k)], [(0, some ⟨24, 1, 1, [rowR rs]⟩), (1, some ⟨24, 1, 1, [rowR rs]⟩)]⟩) ?_ trivial ?_
  · exact Wk.go (fun b => b)
  · intro k hk _
    by_cases hlt : k < rs.length
    · repeat (first | refine Z1 ?_ | refine Z2 ?_ | (refine Z3 ?_; (repeat (first | (apply gS; first | refine go_f ?_ | refine gm ?_ | refine gp ?_))); refine T_nil ?_) | (apply ZR; refine C_dr mixed ?_; (repeat (first | (apply vS; first | refine va ?_ | refine vp ?_ | refine vr ?_ | refine vt ?_))); refine W_e ?_) | (apply ZK; first | refine Z4 ?_ | refine Z5 ?_) | refine Z6 ?_ | refine Z7 ?_ | refine Z8 ?_ | refine Z9 ?_ | refine ZA ?_ | refine ZB ?_ | refine ZC ?_ | refine ZD ?_ | refine ZE ?_ | refine ZF ?_ | refine ZG ?_ | refine ZH ?_)
      refine kLoop_n ⟨hlt, trivial, ?_⟩
      exact Wk.go (fun b => b)
    · repeat (first | refine Z1 ?_ | refine Z2 ?_ | (refine Z3 ?_; (repeat (first | (apply gS; first | refine go_f ?_ | refine gm ?_ | refine gp ?_))); refine T_nil ?_) | (apply ZR; refine C_dr mixed ?_; (repeat (first | (apply vS; first | refine va ?_ | refine vp ?_ | refine vr ?_ | refine vt ?_))); refine W_e ?_) | (apply ZK; first | refine Z4 ?_ | refine Z5 ?_) | refine Z6 ?_ | refine Z7 ?_ | refine Z8 ?_ | refine Z9 ?_ | refine ZA ?_ | refine ZB ?_ | refine ZC ?_ | refine ZD ?_ | refine ZE ?_ | refine ZF ?_ | refine ZG ?_ | refine ZH ?_)
      repeat (first | refine kEnd_m ?_ | refine kEnd_f ?_)
      refine kEnd_g ?_ (by first | exact .inl rfl | exact .inr rfl)
      exact Sub.eq rfl rfl
theorem rdCount_d (rs : List Rg) : DC Try.prog 64 [domD rs] (.tup [iD (dCountRes rs).1, iD (dCountRes rs).2]) := by
  have C := rdIndexes_d rs
  unfold dCountRes
  unfold dIndexesRes at C
  cases h : domB rs <;> rw [h] at C
  · refine DC.of Try.func64 Try.ntmps64 Try.results64 rfl (by decide +kernel) rfl ?_
    repeat (first | refine Z1 ?_ | refine Z2 ?_ | (refine Z3 ?_; (repeat (first | (apply gS; first | refine go_f ?_ | refine gm ?_ | refine gp ?_ | refine go_c rfl rfl (C) ?_))); refine T_nil ?_) | (apply ZK; first | refine Z4 ?_ | refine Z5 ?_) | refine Z6 ?_ | refine Z7 ?_)
    repeat (first | refine kEnd_m ?_ | refine kEnd_f ?_)
    refine kEnd_g ?_ (by first | exact .inl rfl | exact .inr rfl)
    exact Sub.eq rfl rfl
  · rw [if_pos rfl] at C ⊢
    rw [← idxs_len]
    refine DC.of Try.func64 Try.ntmps64 Try.results64 rfl (by decide +kernel) rfl ?_
    repeat (first | refine Z1 ?_ | refine Z2 ?_ | (refine Z3 ?_; (repeat (first | (apply gS; first | refine go_f ?_ | refine gm ?_ | refine gp ?_ | refine go_c rfl rfl (C) ?_))); refine T_nil ?_) | (apply ZK; first | refine Z4 ?_ | refine Z5 ?_) | refine Z6 ?_ | refine Z7 ?_)
    repeat (first | refine kEnd_m ?_ | refine kEnd_f ?_)
    refine kEnd_g ?_ (by first | exact .inl rfl | exact .inr rfl)
    exact Sub.eq rfl rfl
set_option maxHeartbeats 4000000 in
theorem rdPlace_d (rs : List Rg) (x : List Int) : DC Try.prog 96 [domD rs, rowI x] (.tup [iD (dPlaceRes rs x).1, iD (dPlaceRes rs x).2]) := by
  have C := rdIndexes_d rs
  unfold dPlaceRes
  unfold dIndexesRes at C
  cases h : domB rs <;> rw [h] at C
  · refine DC.of Try.func96 Try.ntmps96 Try.results96 rfl (by decide +kernel) rfl ?_
    repeat (first | refine Z1 ?_ | refine Z2 ?_ | (refine Z3 ?_; (repeat (first | (apply gS; first | refine go_f ?_ | refine gm ?_ | refine gp ?_ | refine go_c rfl rfl (C) ?_))); refine T_nil ?_) | (apply ZK; first | refine Z4 ?_ | refine Z5 ?_) | refine Z6 ?_ | refine Z7 ?_ | refine Z8 ?_ | refine Z9 ?_ | refine ZA ?_ | refine ZB ?_ | refine ZC ?_ | refine ZD ?_ | refine ZE ?_ | refine ZF ?_ | refine ZG ?_ | refine ZH ?_)
    repeat (first | refine kEnd_m ?_ | refine kEnd_f ?_)
    refine kEnd_g ?_ (by first | exact .inl rfl | exact .inr rfl)
    exact Sub.eq rfl rfl
  rw [if_pos rfl] at C ⊢
  by_cases hl : x.length = rs.length
  case neg =>
    rw [if_neg hl]
    have hl' : ¬ (x.length : Int) = rs.length := by omega
    refine DC.of Try.func96 Try.ntmps96 Try.results96 rfl (by decide +kernel) rfl ?_
    repeat (first | refine Z1 ?_ | refine Z2 ?_ | (refine Z3 ?_; (repeat (first | (apply gS; first | refine go_f ?_ | refine gm ?_ | refine gp ?_ | refine go_c rfl rfl (C) ?_))); refine T_nil ?_) | (apply ZK; first | refine Z4 ?_ | refine Z5 ?_) | refine Z6 ?_ | refine Z7 ?_ | refine Z8 ?_ | refine Z9 ?_ | refine ZA ?_ | refine ZB ?_ | refine ZC ?_ | refine ZD ?_ | refine ZE ?_ | refine ZF ?_ | refine ZG ?_ | refine ZH ?_)
    repeat (first | refine kEnd_m ?_ | refine kEnd_f ?_)
    refine kEnd_g ?_ (by first | exact .inl rfl | exact .inr rfl)
    exact Sub.eq rfl rfl
  rw [if_pos hl]
  have hl' : (x.length : Int) = rs.length := by omega
  obtain ⟨_, hv, hp⟩ := domB_iff.1 h
  obtain ⟨p1, p2⟩ := place_iff (xs := x) hv
  rw [← idxs_len] at p1 p2 hp
  have hget : ∀ k (hk : k < (idxs rs).length), (idxs rs)[k] = ithX rs k := fun k hk => by
    have := idxs_get rs k (by rw [← idxs_len]; exact hk)
    exact (List.getElem?_eq_some_iff.1 this).2
  have hlen : ∀ o ∈ idxs rs, o.length ≤ 9223372036854775806 := fun o ho => by rw [idxs_each ho]; have := (domB_iff.1 h).1; omega
  by_cases hin : inB rs x = true
  · rw [if_pos hin]
    obtain ⟨q1, q2⟩ := p1 hin
    generalize placeV rs x 0 = q at *
    refine DC.of Try.func96 Try.ntmps96 Try.results96 rfl (by decide +kernel) rfl ?_
    repeat (first | refine Z1 ?_ | refine Z2 ?_ | (refine Z3 ?_; (repeat (first | (apply gS; first | refine go_f ?_ | refine gm ?_ | refine gp ?_ | refine go_c rfl rfl (C) ?_))); refine T_nil ?_) | (apply ZK; first | refine Z4 ?_ | refine Z5 ?_) | refine Z6 ?_ | refine Z7 ?_ | refine Z8 ?_ | refine Z9 ?_ | refine ZA ?_ | refine ZB ?_ | refine ZC ?_ | refine ZD ?_ | refine ZE ?_ | refine ZF ?_ | refine ZG ?_ | refine ZH ?_)
    refine C_count q (fun _ => True) (fun k => ⟨1, 38, [(8, iD k), (6, rowL2 (idxs rs)), (1, rowI x)], []⟩) ?_ trivial ?_
    · exact Wk.go (fun b => b)
    · intro k hk _
      have hkl : k < (idxs rs).length := by omega
      have S := rSame4_d (idxs rs)[k] x (hlen _ (List.getElem_mem hkl))
      by_cases hlt : k < q
      · rw [decide_eq_false (fun e => by have := (p2 k hkl (by rw [← hget k hkl]; exact e)).2; omega)] at S
        repeat (first | refine Z1 ?_ | refine Z2 ?_ | (refine Z3 ?_; (repeat (first | (apply gS; first | refine go_f ?_ | refine gm ?_ | refine gp ?_ | refine go_c rfl rfl (S) ?_))); refine T_nil ?_) | (apply ZK; first | refine Z4 ?_ | refine Z5 ?_) | refine Z6 ?_ | refine Z7 ?_ | refine Z8 ?_ | refine Z9 ?_ | refine ZA ?_ | refine ZB ?_ | refine ZC ?_ | refine ZD ?_ | refine ZE ?_ | refine ZF ?_ | refine ZG ?_ | refine ZH ?_)
        refine kLoop_n ⟨hlt, trivial, ?_⟩
        exact Wk.go (fun b => b)
      · obtain rfl : k = q := by omega
        rw [decide_eq_true (by rw [hget k hkl]; exact q2)] at S
        repeat (first | refine Z1 ?_ | refine Z2 ?_ | (refine Z3 ?_; (repeat (first | (apply gS; first | refine go_f ?_ | refine gm ?_ | refine gp ?_ | refine go_c rfl rfl (S) ?_))); refine T_nil ?_) | (apply ZK; first | refine Z4 ?_ | refine Z5 ?_) | refine Z6 ?_ | refine Z7 ?_ | refine Z8 ?_ | refine Z9 ?_ | refine ZA ?_ | refine ZB ?_ | refine ZC ?_ | refine ZD ?_ | refine ZE ?_ | refine ZF ?_ | refine ZG ?_ | refine ZH ?_)
        repeat (first | refine kEnd_m ?_ | refine kEnd_f ?_)
        refine kEnd_g ?_ (by first | exact .inl rfl | exact .inr rfl)
        exact Sub.eq rfl rfl
  · rw [if_neg hin]
    refine DC.of Try.func96 Try.ntmps96 Try.results96 rfl (by decide +kernel) rfl ?_
    repeat (first | refine Z1 ?_ | refine Z2 ?_ | (refine Z3 ?_; (repeat (first | (apply gS; first | refine go_f ?_ | refine gm ?_ | refine gp ?_ | refine go_c rfl rfl (C) ?_))); refine T_nil ?_) | (apply ZK; first | refine Z4 ?_ | refine Z5 ?_) | refine Z6 ?_ | refine Z7 ?_ | refine Z8 ?_ | refine Z9 ?_ | refine ZA ?_ | refine ZB ?_ | refine ZC ?_ | refine ZD ?_ | refine ZE ?_ | refine ZF ?_ | refine ZG ?_ | refine ZH ?_)
    refine C_count (idxs rs).length (fun _ => True) (fun k => ⟨1, 38, [(8, iD k), (6, rowL2 (idxs rs)), (1, rowI x)], []⟩) ?_ trivial ?_
    · exact Wk.go (fun b => b)
    · intro k hk _
      by_cases hkl : k < (idxs rs).length
      · have S := rSame4_d (idxs rs)[k] x (hlen _ (List.getElem_mem hkl))
        rw [decide_eq_false (fun e => hin (p2 k hkl (by rw [← hget k hkl]; exact e)).1)] at S
        repeat (first | refine Z1 ?_ | refine Z2 ?_ | (refine Z3 ?_; (repeat (first | (apply gS; first | refine go_f ?_ | refine gm ?_ | refine gp ?_ | refine go_c rfl rfl (S) ?_))); refine T_nil ?_) | (apply ZK; first | refine Z4 ?_ | refine Z5 ?_) | refine Z6 ?_ | refine Z7 ?_ | refine Z8 ?_ | refine Z9 ?_ | refine ZA ?_ | refine ZB ?_ | refine ZC ?_ | refine ZD ?_ | refine ZE ?_ | refine ZF ?_ | refine ZG ?_ | refine ZH ?_)
        refine kLoop_n ⟨hkl, trivial, ?_⟩
        exact Wk.go (fun b => b)
      · repeat (first | refine Z1 ?_ | refine Z2 ?_ | (refine Z3 ?_; (repeat (first | (apply gS; first | refine go_f ?_ | refine gm ?_ | refine gp ?_))); refine T_nil ?_) | (apply ZK; first | refine Z4 ?_ | refine Z5 ?_) | refine Z6 ?_ | refine Z7 ?_ | refine Z8 ?_ | refine Z9 ?_ | refine ZA ?_ | refine ZB ?_ | refine ZC ?_ | refine ZD ?_ | refine ZE ?_ | refine ZF ?_ | refine ZG ?_ | refine ZH ?_)
        repeat (first | refine kEnd_m ?_ | refine kEnd_f ?_)
        refine kEnd_g ?_ (by first | exact .inl rfl | exact .inr rfl)
        exact Sub.eq rfl rfl
theorem rdHas_d (rs : List Rg) (x : List Int) : DC Try.prog 132 [domD rs, rowI x] (.tup [bD (dHasRes rs x).1, iD (dHasRes rs x).2]) := by
  have P := rdPlace_d rs x
  unfold dHasRes
  unfold dPlaceRes at P
  cases h : domB rs <;> rw [h] at P
  · refine DC.of Try.func132 Try.ntmps132 Try.results132 rfl (by decide +kernel) rfl ?_
    repeat (first | refine Z1 ?_ | refine Z2 ?_ | (refine Z3 ?_; (repeat (first | (apply gS; first | refine go_f ?_ | refine gm ?_ | refine gp ?_ | refine go_c rfl rfl (P) ?_))); refine T_nil ?_) | (apply ZK; first | refine Z4 ?_ | refine Z5 ?_) | refine Z6 ?_ | refine Z7 ?_ | refine ZF ?_)
    repeat (first | refine kEnd_m ?_ | refine kEnd_f ?_)
    refine kEnd_g ?_ (by first | exact .inl rfl | exact .inr rfl)
    exact Sub.eq rfl rfl
  rw [if_pos rfl] at P ⊢
  by_cases hl : x.length = rs.length
  · rw [if_pos hl] at P ⊢
    cases hb : inB rs x <;> rw [hb] at P
    all_goals
      refine DC.of Try.func132 Try.ntmps132 Try.results132 rfl (by decide +kernel) rfl ?_
      repeat (first | refine Z1 ?_ | refine Z2 ?_ | (refine Z3 ?_; (repeat (first | (apply gS; first | refine go_f ?_ | refine gm ?_ | refine gp ?_ | refine go_c rfl rfl (P) ?_))); refine T_nil ?_) | (apply ZK; first | refine Z4 ?_ | refine Z5 ?_) | refine Z6 ?_ | refine Z7 ?_ | refine ZF ?_)
      repeat (first | refine kEnd_m ?_ | refine kEnd_f ?_)
      refine kEnd_g ?_ (by first | exact .inl rfl | exact .inr rfl)
      exact Sub.eq rfl rfl
  · rw [if_neg hl] at P ⊢
    refine DC.of Try.func132 Try.ntmps132 Try.results132 rfl (by decide +kernel) rfl ?_
    repeat (first | refine Z1 ?_ | refine Z2 ?_ | (refine Z3 ?_; (repeat (first | (apply gS; first | refine go_f ?_ | refine gm ?_ | refine gp ?_ | refine go_c rfl rfl (P) ?_))); refine T_nil ?_) | (apply ZK; first | refine Z4 ?_ | refine Z5 ?_) | refine Z6 ?_ | refine Z7 ?_ | refine ZF ?_)
    repeat (first | refine kEnd_m ?_ | refine kEnd_f ?_)
    refine kEnd_g ?_ (by first | exact .inl rfl | exact .inr rfl)
    exact Sub.eq rfl rfl
end Go.Proofs.Ytifapodobhkdcaa
