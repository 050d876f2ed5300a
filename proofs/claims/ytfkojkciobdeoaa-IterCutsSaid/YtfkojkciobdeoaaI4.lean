/- Guided of package iter and of the reference, and the law's comparisons of pairs, by the abstract machine. -/
import Derived.Test.YtfkojkciobdeoaaI3
namespace Go.Proofs.Ytfkojkciobdeoaa
open Go.RowKit
set_option linter.unusedVariables false
set_option maxHeartbeats 16000000
set_option linter.unusedSimpArgs false
set_option maxRecDepth 100000
theorem gd_quo {c n g : Int} (h1 : 0 ≤ g) (h2 : g < c) (h3 : 1 ≤ n) (h4 : g < g + (c - g + n - 1).tdiv n) (h5 : g + (c - g + n - 1).tdiv n ≤ c) : ∃ q, (c - g + n - 1).tdiv n = q ∧ 1 ≤ q ∧ g + q ≤ c := ⟨_, rfl, by omega, by omega⟩
theorem guided_ok (c n : Int) (N : Nat) (h1 : 0 ≤ c) (h2 : c ≤ 4096) (h3 : 1 ≤ n) (h4 : n ≤ 4096) (hN : (N : Int) ≤ c) (hNs : gdH c n N = c) (hlt : ∀ k, k < N → 0 ≤ gdH c n k ∧ gdH c n k < c ∧ gdH c n k < gdH c n (k + 1) ∧ gdH c n (k + 1) ≤ c) : DC Try.prog 55 [iD c, iD n] (.tup [rowP (chL (gdH c n) N), iD 0]) := by
  have T := counted_t c n h1 h2 h3 h4
  refine DC.of Try.func55 Try.ntmps55 Try.results55 rfl (by decide +kernel) rfl ?_
  repeat (first | refine Z1 ?_ | refine Z2 ?_ | (refine Z3 ?_; (repeat (first | (apply gS; first | refine go_f ?_ | refine gm ?_ | refine gp ?_ | refine go_c rfl rfl (T) ?_))); refine T_nil ?_) | refine Z4 ?_ | refine Z5 ?_ | refine Z6 ?_ | refine Z7 ?_ | refine Z8 ?_ | refine Z9 ?_ | refine ZA ?_ | refine ZB ?_ | refine ZC ?_ | refine ZD ?_ | refine ZE ?_ | refine ZF ?_ | refine ZG ?_ | refine ZH ?_)
  refine C_count N (fun _ => True) (fun k => ⟨1, 34, [(7, iD (gdH c n k)), (6, .own 0 k), (0, iD c), (1, iD n)], [(0, some ⟨95, 2, k, (chL (gdH c n) k).flatMap pC⟩)]⟩) ?_ trivial ?_
  · have e0 : gdH c n 0 = 0 := rfl
    refine Wk.trans (Wk.adoptT 6 95 2 rfl) ?_
    exact Wk.go (fun b => b)
  · intro k hk _
    by_cases hk' : k < N
    · obtain ⟨b1, b2, b3, b4⟩ := hlt k hk'
      have en := chL_snoc (gdH c n) k
      have e1 : gdH c n (k + 1) = gdH c n k + (c - gdH c n k + n - 1).tdiv n := rfl
      clear hlt hNs
      generalize gdH c n (k + 1) = g' at *
      generalize gdH c n k = g at *
      subst e1
      repeat (first | refine Z1 ?_ | refine Z2 ?_ | (refine Z3 ?_; (repeat (first | (apply gS; first | refine go_f ?_ | refine gm ?_ | refine gp ?_))); refine T_nil ?_) | refine Z4 ?_ | refine Z5 ?_ | refine Z6 ?_ | refine Z7 ?_ | refine Z8 ?_ | refine Z9 ?_ | refine ZA ?_ | refine ZB ?_ | refine ZC ?_ | refine ZD ?_ | refine ZE ?_ | refine ZF ?_ | refine ZG ?_ | refine ZH ?_)
      refine kLoop_n ⟨hk', trivial, ?_⟩
      exact Wk.go (fun b => cond (Nat.beq b 0) 1 (b))
    · obtain rfl : k = N := by omega
      clear hlt
      repeat (first | refine Z1 ?_ | refine Z2 ?_ | (refine Z3 ?_; (repeat (first | (apply gS; first | refine go_f ?_ | refine gm ?_ | refine gp ?_))); refine T_nil ?_) | refine Z4 ?_ | refine Z5 ?_ | refine Z6 ?_ | refine Z7 ?_ | refine Z8 ?_ | refine Z9 ?_ | refine ZA ?_ | refine ZB ?_ | refine ZC ?_ | refine ZD ?_ | refine ZE ?_ | refine ZF ?_ | refine ZG ?_ | refine ZH ?_)
      repeat (first | refine kEnd_m ?_ | refine kEnd_f ?_)
      refine kEnd_g ?_ (by first | exact .inl rfl | exact .inr rfl)
      exact Sub.tup (.cons (Sub.eq (by show D.row k _ = D.row (chL _ k).length _; rw [chL_len]) rfl) (.cons (Sub.eq rfl rfl) .nil))
theorem guided_no (c n : Int) (h : (c < 0 ∨ 4096 < c) ∨ (0 ≤ c ∧ c ≤ 4096) ∧ (n < 1 ∨ 4096 < n)) : DC Try.prog 55 [iD c, iD n] (.tup [rowP [], iD 2]) := by
  have T := counted_f c n h
  refine DC.of Try.func55 Try.ntmps55 Try.results55 rfl (by decide +kernel) rfl ?_
  repeat (first | refine Z1 ?_ | refine Z2 ?_ | (refine Z3 ?_; (repeat (first | (apply gS; first | refine go_f ?_ | refine gm ?_ | refine gp ?_ | refine go_c rfl rfl (T) ?_))); refine T_nil ?_) | refine Z4 ?_ | refine Z5 ?_ | refine Z6 ?_ | refine Z7 ?_ | refine Z8 ?_ | refine Z9 ?_ | refine ZA ?_ | refine ZB ?_ | refine ZC ?_ | refine ZD ?_ | refine ZE ?_ | refine ZF ?_ | refine ZG ?_ | refine ZH ?_)
  repeat (first | refine kEnd_m ?_ | refine kEnd_f ?_)
  refine kEnd_g ?_ (by first | exact .inl rfl | exact .inr rfl)
  exact Sub.tup (.cons Sub.nil (.cons (Sub.eq rfl rfl) .nil))
theorem rGuided_ok (c n : Int) (N : Nat) (h1 : 0 ≤ c) (h2 : c ≤ 4096) (h3 : 1 ≤ n) (h4 : n ≤ 4096) (hN : (N : Int) ≤ c) (hNs : gdH c n N = c) (hlt : ∀ k, k < N → 0 ≤ gdH c n k ∧ gdH c n k < c ∧ gdH c n k < gdH c n (k + 1) ∧ gdH c n (k + 1) ≤ c) : DC Try.prog 56 [iD c, iD n] (.tup [rowP (chL (gdH c n) N), iD 0]) := by
  refine DC.of Try.func56 Try.ntmps56 Try.results56 rfl (by decide +kernel) rfl ?_
  repeat (first | refine Z1 ?_ | refine Z2 ?_ | (refine Z3 ?_; (repeat (first | (apply gS; first | refine go_no ?_ | refine go_f ?_ | refine gm ?_ | refine gp ?_))); refine T_nil ?_) | refine Z4 ?_ | refine Z5 ?_ | refine Z6 ?_ | refine Z7 ?_ | refine Z8 ?_ | refine Z9 ?_ | refine ZA ?_ | refine ZB ?_ | refine ZC ?_ | refine ZD ?_ | refine ZE ?_ | refine ZF ?_ | refine ZG ?_ | refine ZH ?_)
  refine C_count N (fun _ => True) (fun k => ⟨1, 46, [(7, iD (gdH c n k)), (6, .own 0 k), (0, iD c), (1, iD n)], [(0, some ⟨95, 2, k, (chL (gdH c n) k).flatMap pC⟩)]⟩) ?_ trivial ?_
  · have e0 : gdH c n 0 = 0 := rfl
    refine Wk.trans (Wk.adoptT 6 95 2 rfl) ?_
    exact Wk.go (fun b => b)
  · intro k hk _
    by_cases hk' : k < N
    · obtain ⟨b1, b2, b3, b4⟩ := hlt k hk'
      have en := chL_snoc (gdH c n) k
      have e1 : gdH c n (k + 1) = gdH c n k + (c - gdH c n k + n - 1).tdiv n := rfl
      clear hlt hNs
      generalize gdH c n (k + 1) = g' at *
      generalize gdH c n k = g at *
      subst e1
      repeat (first | refine Z1 ?_ | refine Z2 ?_ | (refine Z3 ?_; (repeat (first | (apply gS; first | refine go_no ?_ | refine go_f ?_ | refine gm ?_ | refine gp ?_))); refine T_nil ?_) | refine Z4 ?_ | refine Z5 ?_ | refine Z6 ?_ | refine Z7 ?_ | refine Z8 ?_ | refine Z9 ?_ | refine ZA ?_ | refine ZB ?_ | refine ZC ?_ | refine ZD ?_ | refine ZE ?_ | refine ZF ?_ | refine ZG ?_ | refine ZH ?_)
      refine kLoop_n ⟨hk', trivial, ?_⟩
      exact Wk.go (fun b => cond (Nat.beq b 0) 1 (b))
    · obtain rfl : k = N := by omega
      clear hlt
      repeat (first | refine Z1 ?_ | refine Z2 ?_ | (refine Z3 ?_; (repeat (first | (apply gS; first | refine go_no ?_ | refine go_f ?_ | refine gm ?_ | refine gp ?_))); refine T_nil ?_) | refine Z4 ?_ | refine Z5 ?_ | refine Z6 ?_ | refine Z7 ?_ | refine Z8 ?_ | refine Z9 ?_ | refine ZA ?_ | refine ZB ?_ | refine ZC ?_ | refine ZD ?_ | refine ZE ?_ | refine ZF ?_ | refine ZG ?_ | refine ZH ?_)
      repeat (first | refine kEnd_m ?_ | refine kEnd_f ?_)
      refine kEnd_g ?_ (by first | exact .inl rfl | exact .inr rfl)
      exact Sub.tup (.cons (Sub.eq (by show D.row k _ = D.row (chL _ k).length _; rw [chL_len]) rfl) (.cons (Sub.eq rfl rfl) .nil))
theorem rGuided_no (c n : Int) (h : (c < 0 ∨ 4096 < c) ∨ (0 ≤ c ∧ c ≤ 4096) ∧ (n < 1 ∨ 4096 < n)) : DC Try.prog 56 [iD c, iD n] (.tup [rowP [], iD 2]) := by
  rcases bad_two h with h1 | ⟨h1, h2⟩ | ⟨h1, h2, h3⟩ | ⟨h1, h2, h3, h4⟩
  all_goals
    clear h
    refine DC.of Try.func56 Try.ntmps56 Try.results56 rfl (by decide +kernel) rfl ?_
    repeat (first | refine Z1 ?_ | refine Z2 ?_ | (refine Z3 ?_; (repeat (first | (apply gS; first | refine go_no ?_ | refine go_f ?_ | refine gm ?_ | refine gp ?_))); refine T_nil ?_) | refine Z4 ?_ | refine Z5 ?_ | refine Z6 ?_ | refine Z7 ?_ | refine Z8 ?_ | refine Z9 ?_ | refine ZA ?_ | refine ZB ?_ | refine ZC ?_ | refine ZD ?_ | refine ZE ?_ | refine ZF ?_ | refine ZG ?_ | refine ZH ?_)
    repeat (first | refine kEnd_m ?_ | refine kEnd_f ?_)
    refine kEnd_g ?_ (by first | exact .inl rfl | exact .inr rfl)
    exact Sub.tup (.cons Sub.nil (.cons (Sub.eq rfl rfl) .nil))
theorem pairs_d (l : List (Int × Int)) (hl : l.length ≤ 9223372036854775806) : DC Try.prog 57 [rowP l, rowP l] (bD true) := by
  refine DC.of Try.func57 Try.ntmps57 Try.results57 rfl (by decide +kernel) rfl ?_
  repeat (first | refine Z1 ?_ | refine Z2 ?_ | (refine Z3 ?_; (repeat (first | (apply gS; first | refine go_f ?_ | refine gm ?_ | refine gp ?_))); refine T_nil ?_) | (refine C_dr mixed ?_; (repeat (first | (apply vS; first | refine va ?_ | refine vp ?_ | refine vr ?_ | refine vt ?_))); refine W_e ?_) | refine Z4 ?_ | refine Z5 ?_ | refine Z6 ?_ | refine Z7 ?_ | refine Z8 ?_ | refine Z9 ?_ | refine ZA ?_ | refine ZB ?_ | refine ZC ?_ | refine ZD ?_ | refine ZE ?_ | refine ZF ?_ | refine ZG ?_ | refine ZH ?_)
  refine C_count l.length (fun _ => True) (fun k => ⟨0, 26, [(0, rowP l), (1, rowP l), (5, iD k)], []⟩) ?_ trivial ?_
  · exact Wk.go (fun b => b)
  · intro k hk _
    by_cases hlt : k < l.length
    · repeat (first | refine Z1 ?_ | refine Z2 ?_ | (refine Z3 ?_; (repeat (first | (apply gS; first | refine go_f ?_ | refine gm ?_ | refine gp ?_))); refine T_nil ?_) | (refine C_dr mixed ?_; (repeat (first | (apply vS; first | refine va ?_ | refine vp ?_ | refine vr ?_ | refine vt ?_))); refine W_e ?_) | refine Z4 ?_ | refine Z5 ?_ | refine Z6 ?_ | refine Z7 ?_ | refine Z8 ?_ | refine Z9 ?_ | refine ZA ?_ | refine ZB ?_ | refine ZC ?_ | refine ZD ?_ | refine ZE ?_ | refine ZF ?_ | refine ZG ?_ | refine ZH ?_)
      refine kLoop_n ⟨hlt, trivial, ?_⟩
      exact Wk.go (fun b => b)
    · repeat (first | refine Z1 ?_ | refine Z2 ?_ | (refine Z3 ?_; (repeat (first | (apply gS; first | refine go_f ?_ | refine gm ?_ | refine gp ?_))); refine T_nil ?_) | (refine C_dr mixed ?_; (repeat (first | (apply vS; first | refine va ?_ | refine vp ?_ | refine vr ?_ | refine vt ?_))); refine W_e ?_) | refine Z4 ?_ | refine Z5 ?_ | refine Z6 ?_ | refine Z7 ?_ | refine Z8 ?_ | refine Z9 ?_ | refine ZA ?_ | refine ZB ?_ | refine ZC ?_ | refine ZD ?_ | refine ZE ?_ | refine ZF ?_ | refine ZG ?_ | refine ZH ?_)
      repeat (first | refine kEnd_m ?_ | refine kEnd_f ?_)
      refine kEnd_g ?_ (by first | exact .inl rfl | exact .inr rfl)
      exact Sub.eq rfl rfl
theorem covers_ok (h : Nat → Int) (N : Nat) (c : Int) (hl : N ≤ 1000000) (h0 : h 0 = 0) (hm : ∀ k, k < N → h k ≤ h (k + 1)) (hN : h N = c) : DC Try.prog 58 [rowP (chL h N), iD 0, iD c] (bD true) := by
  have hln := chL_len h N
  refine DC.of Try.func58 Try.ntmps58 Try.results58 rfl (by decide +kernel) rfl ?_
  repeat (first | refine Z1 ?_ | refine Z2 ?_ | (refine Z3 ?_; (repeat (first | (apply gS; first | refine go_no ?_ | refine go_f ?_ | refine gm ?_ | refine gp ?_))); refine T_nil ?_) | refine Z4 ?_ | refine Z5 ?_ | refine Z6 ?_ | refine Z7 ?_ | refine Z8 ?_ | refine Z9 ?_ | refine ZA ?_ | refine ZB ?_ | refine ZC ?_ | refine ZD ?_ | refine ZE ?_ | refine ZF ?_ | refine ZG ?_ | refine ZH ?_)
  refine C_count N (fun _ => True) (fun k => ⟨0, 43, [(7, iD (h k)), (8, iD k), (0, rowP (chL h N)), (1, iD 0), (2, iD c)], []⟩) ?_ trivial ?_
  · exact Wk.go (fun b => b)
  · intro k hk _
    by_cases hlt : k < N
    · have hkl : k < (chL h N).length := by omega
      have e1 : (chL h N)[k].1 = h k := by rw [chL_get]
      have e2 : (chL h N)[k].2 = h (k + 1) := by rw [chL_get]
      have e3 := hm k hlt
      clear hm hN h0
      repeat (first | refine Z1 ?_ | refine Z2 ?_ | (refine Z3 ?_; (repeat (first | (apply gS; first | refine go_no ?_ | refine go_f ?_ | refine gm ?_ | refine gp ?_))); refine T_nil ?_) | refine Z4 ?_ | refine Z5 ?_ | refine Z6 ?_ | refine Z7 ?_ | refine Z8 ?_ | refine Z9 ?_ | refine ZA ?_ | refine ZB ?_ | refine ZC ?_ | refine ZD ?_ | refine ZE ?_ | refine ZF ?_ | refine ZG ?_ | refine ZH ?_)
      refine kLoop_n ⟨hlt, trivial, ?_⟩
      exact Wk.go (fun b => b)
    · obtain rfl : k = N := by omega
      repeat (first | refine Z1 ?_ | refine Z2 ?_ | (refine Z3 ?_; (repeat (first | (apply gS; first | refine go_no ?_ | refine go_f ?_ | refine gm ?_ | refine gp ?_))); refine T_nil ?_) | refine Z4 ?_ | refine Z5 ?_ | refine Z6 ?_ | refine Z7 ?_ | refine Z8 ?_ | refine Z9 ?_ | refine ZA ?_ | refine ZB ?_ | refine ZC ?_ | refine ZD ?_ | refine ZE ?_ | refine ZF ?_ | refine ZG ?_ | refine ZH ?_)
      repeat (first | refine kEnd_m ?_ | refine kEnd_f ?_)
      refine kEnd_g ?_ (by first | exact .inl rfl | exact .inr rfl)
      exact Sub.eq rfl rfl
theorem covers_no (c : Int) : DC Try.prog 58 [rowP [], iD 2, iD c] (bD true) := by
  refine DC.of Try.func58 Try.ntmps58 Try.results58 rfl (by decide +kernel) rfl ?_
  repeat (first | refine Z1 ?_ | refine Z2 ?_ | (refine Z3 ?_; (repeat (first | (apply gS; first | refine go_no ?_ | refine go_f ?_ | refine gm ?_ | refine gp ?_))); refine T_nil ?_) | refine Z4 ?_ | refine Z5 ?_ | refine Z6 ?_ | refine Z7 ?_ | refine Z8 ?_ | refine Z9 ?_ | refine ZA ?_ | refine ZB ?_ | refine ZC ?_ | refine ZD ?_ | refine ZE ?_ | refine ZF ?_ | refine ZG ?_ | refine ZH ?_)
  refine C_count 0 (fun _ => True) (fun k => ⟨0, 43, [(7, iD 0), (8, iD k), (0, rowP []), (1, iD 2), (2, iD c)], []⟩) ?_ trivial ?_
  · exact Wk.go (fun b => b)
  · intro k hk _
    repeat (first | refine Z1 ?_ | refine Z2 ?_ | (refine Z3 ?_; (repeat (first | (apply gS; first | refine go_no ?_ | refine go_f ?_ | refine gm ?_ | refine gp ?_))); refine T_nil ?_) | refine Z4 ?_ | refine Z5 ?_ | refine Z6 ?_ | refine Z7 ?_ | refine Z8 ?_ | refine Z9 ?_ | refine ZA ?_ | refine ZB ?_ | refine ZC ?_ | refine ZD ?_ | refine ZE ?_ | refine ZF ?_ | refine ZG ?_ | refine ZH ?_)
    repeat (first | refine kEnd_m ?_ | refine kEnd_f ?_)
    refine kEnd_g ?_ (by first | exact .inl rfl | exact .inr rfl)
    exact Sub.eq rfl rfl
end Go.Proofs.Ytfkojkciobdeoaa
