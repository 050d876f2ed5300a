/- Fill and FillAt of package stream, by the abstract machine. -/
import Derived.Test.YtifapodobhkdcaaStreamA
import Derived.Test.YtifapodobhkdcaaDs5
namespace Go.Proofs.Ytifapodobhkdcaa
open Go.RowKit
set_option linter.unusedVariables false
set_option maxHeartbeats 16000000
set_option linter.unusedSimpArgs false
set_option maxRecDepth 100000
theorem DC.int3 {P : Program} {f : Nat} {a b c : Int} {v : Value} (hf : ∃ fn, P.funcs[f]? = some fn ∧ (fn.name == "runtime.NumGoroutine") = false ∧ fn.body.isNone = false) (hv : v.oneCell' = true) (h : ∀ w, Calls P f #[.int .i64 a, .int .i64 b, .int .i64 c] w fun e w' => e = .returned v ∧ w = w') : DC P f [iD a, iD b, iD c] (.val v) := by
  refine ⟨hf, fun w I vs hI hl hq => ?_⟩
  obtain ⟨v1, v2, v3, rfl⟩ : ∃ v1 v2 v3, vs = [v1, v2, v3] := by
    match vs, hl with
    | [v1, v2, v3], _ => exact ⟨v1, v2, v3, rfl⟩
  have e1 := hq 0 _ _ rfl rfl
  have e2 := hq 1 _ _ rfl rfl
  have e3 := hq 2 _ _ rfl rfl
  cases e1; cases e2; cases e3
  refine (h w).mono ?_
  rintro e w' ⟨rfl, rfl⟩
  exact ⟨_, rfl, .val _ hv, Later.refl w⟩
theorem below_d (seed n m : Int) (h1 : 1 ≤ m) (h2 : m ≤ 2147483648) : DC Try.prog 125 [iD seed, iD n, iD m] (iD (belowV seed n m)) :=
  DC.int3 ⟨Try.f125, by kernel_rfl, by kernel_rfl, by kernel_rfl⟩ rfl (fun w => below_calls seed n m h1 h2 w)
theorem first25_d : DC Try.prog 53 [] (bD true) := by
  refine ⟨⟨Try.f53, by kernel_rfl, by kernel_rfl, by kernel_rfl⟩, fun w I vs hI hl hq => ?_⟩
  have : vs = [] := List.eq_nil_of_length_eq_zero hl.symm
  subst this
  refine (First_calls w).mono ?_
  rintro e w' ⟨rfl, rfl⟩
  exact ⟨_, rfl, .val _ rfl, Later.refl w⟩
theorem within25_t (n lo hi : Int) (h1 : lo ≤ n) (h2 : n ≤ hi) : DC Try.prog 124 [iD n, iD lo, iD hi] (bD true) := by
  refine DC.of Try.func124 Try.ntmps124 Try.results124 rfl (by decide +kernel) rfl ?_
  repeat (first | refine Z1 ?_ | refine Z2 ?_ | (refine Z3 ?_; (repeat (first | (apply gS; first | refine go_no ?_ | refine go_f ?_ | refine gx ?_ | refine gm ?_ | refine gp ?_))); refine T_nil ?_) | (apply ZK; first | refine Z4 ?_ | refine Z5 ?_) | refine Z6 ?_ | refine Z7 ?_)
  repeat (first | refine kEnd_m ?_ | refine kEnd_f ?_)
  refine kEnd_g ?_ (by first | exact .inl rfl | exact .inr rfl)
  exact Sub.eq rfl rfl
theorem within25_f (n lo hi : Int) (h : ¬ (lo ≤ n ∧ n ≤ hi)) : DC Try.prog 124 [iD n, iD lo, iD hi] (bD false) := by
  by_cases h1 : lo ≤ n
  all_goals
    refine DC.of Try.func124 Try.ntmps124 Try.results124 rfl (by decide +kernel) rfl ?_
    repeat (first | refine Z1 ?_ | refine Z2 ?_ | (refine Z3 ?_; (repeat (first | (apply gS; first | refine go_no ?_ | refine go_f ?_ | refine gx ?_ | refine gm ?_ | refine gp ?_))); refine T_nil ?_) | (apply ZK; first | refine Z4 ?_ | refine Z5 ?_) | refine Z6 ?_ | refine Z7 ?_)
    repeat (first | refine kEnd_m ?_ | refine kEnd_f ?_)
    refine kEnd_g ?_ (by first | exact .inl rfl | exact .inr rfl)
    exact Sub.eq rfl rfl
theorem large25_d (d : List Rg) : ∃ b, DC Try.prog 90 [domD d] (bD b) := by
  have C := rdCount_d d
  generalize dCountRes d = c at *
  obtain ⟨n, e⟩ := c
  dsimp only at C
  by_cases h0 : 20 < d.length
  · refine ⟨true, ?_⟩
    refine DC.of Try.func90 Try.ntmps90 Try.results90 rfl (by decide +kernel) rfl ?_
    repeat (first | refine Z1 ?_ | refine Z2 ?_ | (refine Z3 ?_; (repeat (first | (apply gS; first | refine go_no ?_ | refine go_f ?_ | refine gx ?_ | refine gm ?_ | refine gp ?_ | refine go_c rfl rfl (C) ?_ | refine go_cF rfl rfl (C) ?_ | refine go_cA rfl rfl (C) ?_))); refine T_nil ?_) | (apply ZK; first | refine Z4 ?_ | refine Z5 ?_) | refine Z6 ?_ | refine Z7 ?_ | refine ZF ?_)
    repeat (first | refine kEnd_m ?_ | refine kEnd_f ?_)
    refine kEnd_g ?_ (by first | exact .inl rfl | exact .inr rfl)
    exact Sub.eq rfl rfl
  by_cases h1 : e = 0
  · by_cases h : 400 < n
    · refine ⟨true, ?_⟩
      refine DC.of Try.func90 Try.ntmps90 Try.results90 rfl (by decide +kernel) rfl ?_
      repeat (first | refine Z1 ?_ | refine Z2 ?_ | (refine Z3 ?_; (repeat (first | (apply gS; first | refine go_no ?_ | refine go_f ?_ | refine gx ?_ | refine gm ?_ | refine gp ?_ | refine go_c rfl rfl (C) ?_ | refine go_cF rfl rfl (C) ?_ | refine go_cA rfl rfl (C) ?_))); refine T_nil ?_) | (apply ZK; first | refine Z4 ?_ | refine Z5 ?_) | refine Z6 ?_ | refine Z7 ?_ | refine ZF ?_)
      repeat (first | refine kEnd_m ?_ | refine kEnd_f ?_)
      refine kEnd_g ?_ (by first | exact .inl rfl | exact .inr rfl)
      exact Sub.eq rfl rfl
    · refine ⟨false, ?_⟩
      refine DC.of Try.func90 Try.ntmps90 Try.results90 rfl (by decide +kernel) rfl ?_
      repeat (first | refine Z1 ?_ | refine Z2 ?_ | (refine Z3 ?_; (repeat (first | (apply gS; first | refine go_no ?_ | refine go_f ?_ | refine gx ?_ | refine gm ?_ | refine gp ?_ | refine go_c rfl rfl (C) ?_ | refine go_cF rfl rfl (C) ?_ | refine go_cA rfl rfl (C) ?_))); refine T_nil ?_) | (apply ZK; first | refine Z4 ?_ | refine Z5 ?_) | refine Z6 ?_ | refine Z7 ?_ | refine ZF ?_)
      repeat (first | refine kEnd_m ?_ | refine kEnd_f ?_)
      refine kEnd_g ?_ (by first | exact .inl rfl | exact .inr rfl)
      exact Sub.eq rfl rfl
  · refine ⟨false, ?_⟩
    refine DC.of Try.func90 Try.ntmps90 Try.results90 rfl (by decide +kernel) rfl ?_
    repeat (first | refine Z1 ?_ | refine Z2 ?_ | (refine Z3 ?_; (repeat (first | (apply gS; first | refine go_no ?_ | refine go_f ?_ | refine gx ?_ | refine gm ?_ | refine gp ?_ | refine go_c rfl rfl (C) ?_ | refine go_cF rfl rfl (C) ?_ | refine go_cA rfl rfl (C) ?_))); refine T_nil ?_) | (apply ZK; first | refine Z4 ?_ | refine Z5 ?_) | refine Z6 ?_ | refine Z7 ?_ | refine ZF ?_)
    repeat (first | refine kEnd_m ?_ | refine kEnd_f ?_)
    refine kEnd_g ?_ (by first | exact .inl rfl | exact .inr rfl)
    exact Sub.eq rfl rfl
/-! ### Fill -/
def fillL (seed m : Int) (N : Nat) : List Int := (List.range N).map fun i : Nat => belowV seed (i : Int) m
theorem fillL_len (seed m : Int) (N : Nat) : (fillL seed m N).length = N := by simp [fillL]
theorem fillL_get (seed m : Int) (N : Nat) {i : Nat} (h : i < (fillL seed m N).length) : (fillL seed m N)[i] = belowV seed (i : Int) m := by simp [fillL]
def mOk (m : Int) : Prop := 1 ≤ m ∧ m ≤ 2147483648
instance (m : Int) : Decidable (mOk m) := by unfold mOk; infer_instance
theorem dCount_b {rs : List Rg} (h : domB rs = false) : DC Try.prog 49 [domD rs] (.tup [iD 0, iD 40]) := by
  have H := dCount_d rs
  rwa [show dCountRes rs = (0, 40) by unfold dCountRes; rw [if_neg (by rw [h]; decide)]] at H
theorem Fill_bad (seed m : Int) {rs : List Rg} (h : domB rs = false) : DC Try.prog 91 [iD seed, domD rs, iD m] (.tup [rowI [], iD 40]) := by
  have C := dCount_b h
  refine DC.of Try.func91 Try.ntmps91 Try.results91 rfl (by decide +kernel) rfl ?_
  repeat (first | refine Z1 ?_ | refine Z2 ?_ | (refine Z3 ?_; (repeat (first | (apply gS; first | refine go_f ?_ | refine gx ?_ | refine gm ?_ | refine gp ?_ | refine go_c rfl rfl (C) ?_ | refine go_cF rfl rfl (C) ?_ | refine go_cA rfl rfl (C) ?_))); refine T_nil ?_) | (apply ZK; first | refine Z4 ?_ | refine Z5 ?_) | refine Z6 ?_ | refine Z7 ?_ | refine Z8 ?_ | refine Z9 ?_ | refine ZA ?_ | refine ZB ?_ | refine ZC ?_ | refine ZD ?_ | refine ZE ?_ | refine ZF ?_ | refine ZG ?_ | refine ZH ?_)
  repeat (first | refine kEnd_m ?_ | refine kEnd_f ?_)
  refine kEnd_g ?_ (by first | exact .inl rfl | exact .inr rfl)
  exact Sub.tup (.cons Sub.nil (.cons (Sub.eq rfl rfl) .nil))
theorem Fill_no (seed m : Int) {rs : List Rg} (h : domB rs = true) (hm : ¬ mOk m) : DC Try.prog 91 [iD seed, domD rs, iD m] (.tup [rowI [], iD 2]) := by
  have C := dCount_d rs
  rw [show dCountRes rs = (((cnt rs : Nat) : Int), 0) from if_pos h] at C
  dsimp only at C
  have W := within25_f m 1 2147483648 hm
  refine DC.of Try.func91 Try.ntmps91 Try.results91 rfl (by decide +kernel) rfl ?_
  repeat (first | refine Z1 ?_ | refine Z2 ?_ | (refine Z3 ?_; (repeat (first | (apply gS; first | refine go_f ?_ | refine gx ?_ | refine gm ?_ | refine gp ?_ | refine go_c rfl rfl (C) ?_ | refine go_cF rfl rfl (C) ?_ | refine go_cA rfl rfl (C) ?_ | refine go_c rfl rfl (W) ?_ | refine go_cF rfl rfl (W) ?_ | refine go_cA rfl rfl (W) ?_))); refine T_nil ?_) | (apply ZK; first | refine Z4 ?_ | refine Z5 ?_) | refine Z6 ?_ | refine Z7 ?_ | refine Z8 ?_ | refine Z9 ?_ | refine ZA ?_ | refine ZB ?_ | refine ZC ?_ | refine ZD ?_ | refine ZE ?_ | refine ZF ?_ | refine ZG ?_ | refine ZH ?_)
  repeat (first | refine kEnd_m ?_ | refine kEnd_f ?_)
  refine kEnd_g ?_ (by first | exact .inl rfl | exact .inr rfl)
  exact Sub.tup (.cons Sub.nil (.cons (Sub.eq rfl rfl) .nil))
theorem Fill_ok (seed m : Int) {rs : List Rg} (h : domB rs = true) (hm : mOk m) : DC Try.prog 91 [iD seed, domD rs, iD m] (.tup [rowI (fillL seed m (cnt rs)), iD 0]) := by
  have C := dCount_d rs
  rw [show dCountRes rs = (((cnt rs : Nat) : Int), 0) from if_pos h] at C
  dsimp only at C
  have W := within25_t m 1 2147483648 hm.1 hm.2
  have hB := fun i => below_d seed i m hm.1 hm.2
  have hc : cnt rs ≤ 4096 := (domB_iff.1 h).2.2
  have eo : rowI (fillL seed m (cnt rs)) = .row (cnt rs) (intsD (fillL seed m (cnt rs))) := by show D.row _ _ = _; rw [fillL_len]
  have hS : ∀ i, intsD (fillL seed m (i + 1)) = intsD (fillL seed m i) ++ [iD (belowV seed (i : Nat) m)] := fun i => by
    unfold fillL
    rw [List.range_succ]; simp [intsD]
  have h0 : intsD (fillL seed m 0) = [] := rfl
  rw [eo]
  generalize cnt rs = N at *
  refine DC.of Try.func91 Try.ntmps91 Try.results91 rfl (by decide +kernel) rfl ?_
  repeat (first | refine Z1 ?_ | refine Z2 ?_ | (refine Z3 ?_; (repeat (first | (apply gS; first | refine go_f ?_ | refine gx ?_ | refine gm ?_ | refine gp ?_ | refine go_c rfl rfl (C) ?_ | refine go_cF rfl rfl (C) ?_ | refine go_cA rfl rfl (C) ?_ | refine go_c rfl rfl (W) ?_ | refine go_cF rfl rfl (W) ?_ | refine go_cA rfl rfl (W) ?_))); refine T_nil ?_) | (apply ZK; first | refine Z4 ?_ | refine Z5 ?_) | refine Z6 ?_ | refine Z7 ?_ | refine Z8 ?_ | refine Z9 ?_ | refine ZA ?_ | refine ZB ?_ | refine ZC ?_ | refine ZD ?_ | refine ZE ?_ | refine ZF ?_ | refine ZG ?_ | refine ZH ?_)
  refine C_count N (fun _ => True) (fun i => ⟨2, 38, [(26, iD i), (25, iD N), (10, .own 1 i), (0, iD seed), (2, iD m)], [(1, some ⟨3, 1, i, intsD (fillL seed m i)⟩)]⟩) ?_ trivial ?_
  · rw [h0]
    refine Wk.trans (Wk.adoptT 10 3 1 rfl) ?_
    exact Wk.gx (fun b => b)
  · intro i hi _
    by_cases hlt : i < N
    · have B := hB (i : Nat)
      have s := hS i
      clear hS hB
      generalize belowV seed (i : Nat) m = v at *
      repeat (first | refine Z1 ?_ | refine Z2 ?_ | (refine Z3 ?_; (repeat (first | (apply gS; first | refine go_f ?_ | refine gx ?_ | refine gm ?_ | refine gp ?_ | refine go_c rfl rfl (B) ?_ | refine go_cF rfl rfl (B) ?_ | refine go_cA rfl rfl (B) ?_))); refine T_nil ?_) | (apply ZK; first | refine Z4 ?_ | refine Z5 ?_) | refine Z6 ?_ | refine Z7 ?_ | refine Z8 ?_ | refine Z9 ?_ | refine ZA ?_ | refine ZB ?_ | refine ZC ?_ | refine ZD ?_ | refine ZE ?_ | refine ZF ?_ | refine ZG ?_ | refine ZH ?_)
      refine kLoop_n ⟨hlt, trivial, ?_⟩
      exact Wk.gx (fun b => cond (Nat.beq b 1) 2 (b))
    · obtain rfl : i = N := by omega
      repeat (first | refine Z1 ?_ | refine Z2 ?_ | (refine Z3 ?_; (repeat (first | (apply gS; first | refine go_f ?_ | refine gx ?_ | refine gm ?_ | refine gp ?_))); refine T_nil ?_) | (apply ZK; first | refine Z4 ?_ | refine Z5 ?_) | refine Z6 ?_ | refine Z7 ?_ | refine Z8 ?_ | refine Z9 ?_ | refine ZA ?_ | refine ZB ?_ | refine ZC ?_ | refine ZD ?_ | refine ZE ?_ | refine ZF ?_ | refine ZG ?_ | refine ZH ?_)
      repeat (first | refine kEnd_m ?_ | refine kEnd_f ?_)
      refine kEnd_g ?_ (by first | exact .inl rfl | exact .inr rfl)
      exact Sub.eq rfl rfl
/-! ### FillAt -/
theorem plX_mem {c0 : Rg} {ct : List Rg} {l : List Nat} (hl : ∀ j ∈ l, j < cN c0) {x : List Int} (h : x ∈ plX c0 ct l) : ∃ i, i < cN c0 * prodN (cl ct) ∧ x = ithX (c0 :: ct) i := by
  obtain ⟨r, hr, rfl⟩ := List.mem_iff_getElem.1 h
  rw [plX_len] at hr
  have hW : 0 < prodN (cl ct) := Nat.pos_of_ne_zero fun e => by rw [e, Nat.mul_zero] at hr; omega
  have hq : r / prodN (cl ct) < l.length := Nat.div_lt_of_lt_mul (by rwa [Nat.mul_comm])
  have hm := Nat.mod_lt r hW
  have g := plX_get hl hq hm
  rw [Nat.mul_comm, Nat.div_add_mod] at g
  have hlq := hl _ (List.getElem_mem hq)
  have h2 := Nat.mul_le_mul_right (prodN (cl ct)) (show l[r / prodN (cl ct)] + 1 ≤ cN c0 by omega)
  rw [Nat.add_mul, Nat.one_mul] at h2
  exact ⟨_, by omega, (List.getElem?_eq_some_iff.1 g).2⟩
theorem iN_eq {c0 : Rg} {ct : List Rg} (h : cN c0 ≠ 0) : iN c0 ct = prodN (cl ct) := by unfold iN; rw [if_neg h]
/-- an index of a place's piece: where it stands in the domain -/
theorem pl_place {rs : List Rg} {c0 : Rg} {ct : List Rg} (hd : domB rs = true) (hc : canonRs rs = c0 :: ct) (hs : SpOk c0 ct) {i : Nat} (hi : i < cN c0 * iN c0 ct) : dPlaceRes rs (ithX (c0 :: ct) i) = (((i : Nat) : Int), 0) ∧ placeV rs (ithX (c0 :: ct) i) 0 = i := by
  obtain ⟨_, hv, _⟩ := domB_iff.1 hd
  obtain ⟨e1, e2, e3⟩ := canon_cnt hd hc
  rw [← ith_can hd hc hi]
  obtain ⟨a, b⟩ := ithX_in hv (show i < prodN (cl rs) by rw [e2]; exact hi)
  have hp : placeV rs (ithX rs i) 0 = i := by rw [b 0, Nat.zero_mul, Nat.zero_add]
  refine ⟨?_, hp⟩
  unfold dPlaceRes
  rw [if_pos hd, if_pos (ithX_len rs i), if_pos a, hp]
def fatL (seed m : Int) (rs : List Rg) (X : List (List Int)) : List Int := X.map fun x => belowV seed ((placeV rs x 0 : Nat) : Int) m
theorem fatL_len (seed m : Int) (rs : List Rg) (X : List (List Int)) : (fatL seed m rs X).length = X.length := by simp [fatL]
theorem fatL_get {seed m : Int} {rs : List Rg} {X : List (List Int)} {i : Nat} (h : i < (fatL seed m rs X).length) : (fatL seed m rs X)[i] = belowV seed ((placeV rs (X[i]'(by rwa [fatL_len] at h)) 0 : Nat) : Int) m := by simp [fatL]
theorem FillAt_bad (seed m : Int) {s : ByteArray} {n o : Int} {rs : List Rg} (h : errD s n o rs ≠ 0) (p : Int) : DC Try.prog 57 [iD seed, dsD s n o, domD rs, iD p, iD m] (.tup [rowI [], iD (errD s n o rs)]) := by
  have B := Piece_bad h p
  generalize errD s n o rs = e at *
  refine DC.of Try.func57 Try.ntmps57 Try.results57 rfl (by decide +kernel) rfl ?_
  repeat (first | refine Z1 ?_ | refine Z2 ?_ | (refine Z3 ?_; (repeat (first | (apply gS; first | refine go_f ?_ | refine gx ?_ | refine gm ?_ | refine gp ?_ | refine go_c rfl rfl (B) ?_ | refine go_cF rfl rfl (B) ?_ | refine go_cA rfl rfl (B) ?_) | (apply gZ; first | refine go_f ?_ | refine gx ?_ | refine gm ?_))); refine T_nil ?_) | (apply ZK; first | refine Z4 ?_ | refine Z5 ?_) | refine Z6 ?_ | refine Z7 ?_ | refine Z8 ?_ | refine Z9 ?_ | refine ZA ?_ | refine ZB ?_ | refine ZC ?_ | refine ZD ?_ | refine ZE ?_ | refine ZF ?_ | refine ZG ?_ | refine ZH ?_)
  repeat (first | refine kEnd_m ?_ | refine kEnd_f ?_)
  refine kEnd_g ?_ (by first | exact .inl rfl | exact .inr rfl)
  exact Sub.tup (.cons Sub.nil (.cons (Sub.eq rfl rfl) .nil))
theorem FillAt_no (seed m : Int) {s : ByteArray} {k : Kd} {n o : Nat} (hk : Okd s k n o) {rs : List Rg} {c0 : Rg} {ct : List Rg} (hd : domB rs = true) (hc : canonRs rs = c0 :: ct) (hs : SpOk c0 ct) (p : Int) (hp : (p < 0 ∨ 0 ≤ p ∧ (o : Int) ≤ p) ∨ ¬ mOk m) :
    DC Try.prog 57 [iD seed, dsD s n o, domD rs, iD p, iD m] (.tup [rowI [], iD 2]) := by
  by_cases h : p < 0 ∨ 0 ≤ p ∧ (o : Int) ≤ p
  · have B := Piece_no hk hd hc hs p h
    refine DC.of Try.func57 Try.ntmps57 Try.results57 rfl (by decide +kernel) rfl ?_
    repeat (first | refine Z1 ?_ | refine Z2 ?_ | (refine Z3 ?_; (repeat (first | (apply gS; first | refine go_f ?_ | refine gx ?_ | refine gm ?_ | refine gp ?_ | refine go_c rfl rfl (B) ?_ | refine go_cF rfl rfl (B) ?_ | refine go_cA rfl rfl (B) ?_) | (apply gZ; first | refine go_f ?_ | refine gx ?_ | refine gm ?_))); refine T_nil ?_) | (apply ZK; first | refine Z4 ?_ | refine Z5 ?_) | refine Z6 ?_ | refine Z7 ?_ | refine Z8 ?_ | refine Z9 ?_ | refine ZA ?_ | refine ZB ?_ | refine ZC ?_ | refine ZD ?_ | refine ZE ?_ | refine ZF ?_ | refine ZG ?_ | refine ZH ?_)
    repeat (first | refine kEnd_m ?_ | refine kEnd_f ?_)
    refine kEnd_g ?_ (by first | exact .inl rfl | exact .inr rfl)
    exact Sub.tup (.cons Sub.nil (.cons (Sub.eq rfl rfl) .nil))
  · have hm : ¬ mOk m := by
      rcases hp with h' | h'
      · exact absurd h' h
      · exact h'
    have B := Piece_ok hk hd hc hs p.toNat (by omega)
    rw [show ((p.toNat : Nat) : Int) = p by omega] at B
    have W := within25_f m 1 2147483648 hm
    generalize partsOf k n o c0 ct p.toNat = ps at *
    refine DC.of Try.func57 Try.ntmps57 Try.results57 rfl (by decide +kernel) rfl ?_
    repeat (first | refine Z1 ?_ | refine Z2 ?_ | (refine Z3 ?_; (repeat (first | (apply gS; first | refine go_f ?_ | refine gx ?_ | refine gm ?_ | refine gp ?_ | refine go_c rfl rfl (B) ?_ | refine go_cF rfl rfl (B) ?_ | refine go_cA rfl rfl (B) ?_ | refine go_c rfl rfl (W) ?_ | refine go_cF rfl rfl (W) ?_ | refine go_cA rfl rfl (W) ?_) | (apply gZ; first | refine go_f ?_ | refine gx ?_ | refine gm ?_))); refine T_nil ?_) | (apply ZK; first | refine Z4 ?_ | refine Z5 ?_) | refine Z6 ?_ | refine Z7 ?_ | refine Z8 ?_ | refine Z9 ?_ | refine ZA ?_ | refine ZB ?_ | refine ZC ?_ | refine ZD ?_ | refine ZE ?_ | refine ZF ?_ | refine ZG ?_ | refine ZH ?_)
    repeat (first | refine kEnd_m ?_ | refine kEnd_f ?_)
    refine kEnd_g ?_ (by first | exact .inl rfl | exact .inr rfl)
    exact Sub.tup (.cons Sub.nil (.cons (Sub.eq rfl rfl) .nil))
theorem allX_cut {ps : List (List Rg)} {k j : Nat} (hk : k < ps.length) (hj : j < (idxs ps[k]).length) : ((allX (ps.take k)).length + j) < (allX ps).length ∧ (allX ps)[(allX (ps.take k)).length + j]? = some (idxs ps[k])[j] := by
  have e : ps = ps.take k ++ ps[k] :: ps.drop (k + 1) := by rw [List.getElem_cons_drop, List.take_append_drop]
  have e2 : allX ps = allX (ps.take k) ++ (idxs ps[k] ++ allX (ps.drop (k + 1))) := by
    conv => lhs; rw [e]
    unfold allX
    rw [List.flatMap_append, List.flatMap_cons]
  have h1 : (allX ps)[(allX (ps.take k)).length + j]? = some (idxs ps[k])[j] := by
    rw [e2, List.getElem?_append_right (by omega), List.getElem?_append_left (by omega), Nat.add_sub_cancel_left, List.getElem?_eq_getElem hj]
  exact ⟨(List.getElem?_eq_some_iff.1 h1).1, h1⟩
set_option maxHeartbeats 8000000 in
theorem FillAt_ok (seed m : Int) {s : ByteArray} {k : Kd} {n o : Nat} (hk : Okd s k n o) {rs : List Rg} {c0 : Rg} {ct : List Rg} (hd : domB rs = true) (hc : canonRs rs = c0 :: ct) (hs : SpOk c0 ct) (p : Nat) (hp : p < o) (hm : mOk m) :
    DC Try.prog 57 [iD seed, dsD s n o, domD rs, iD p, iD m] (.tup [rowI (fatL seed m rs (plX c0 ct (ow k n o (cN c0) p))), iD 0]) := by
  have B := Piece_ok hk hd hc hs p hp
  have W := within25_t m 1 2147483648 hm.1 hm.2
  have hB := fun i => below_d seed i m hm.1 hm.2
  obtain ⟨x1, x2⟩ := partsOf_X hk.ok hs p
  have hlt : ∀ j ∈ ow k n o (cN c0) p, j < cN c0 := fun j hj => ow_lt j hj
  have hX : ∀ x ∈ allX (partsOf k n o c0 ct p), dPlaceRes rs x = (((placeV rs x 0 : Nat) : Int), 0) := fun x hx => by
    rw [x1] at hx
    obtain ⟨i, hi, rfl⟩ := plX_mem hlt hx
    have hz : cN c0 ≠ 0 := fun e => by rw [e, Nat.zero_mul] at hi; omega
    rw [← iN_eq hz] at hi
    obtain ⟨a, b⟩ := pl_place hd hc hs hi
    rw [a, b]
  have hlen : (allX (partsOf k n o c0 ct p)).length ≤ 4096 := by
    rw [x1, plX_len]
    have h1 := Nat.mul_le_mul_right (prodN (cl ct)) (ow_len k n o (cN c0) p)
    have h2 : cN c0 * prodN (cl ct) ≤ 4096 := (domB_iff.1 hs.dom).2.2
    omega
  rw [← x1]
  have hpl : (partsOf k n o c0 ct p).length ≤ 1000000000 := by
    have e : (partsOf k n o c0 ct p).length ≤ (allX (partsOf k n o c0 ct p)).length ∨ (partsOf k n o c0 ct p).length ≤ 4096 := by
      refine .inr ?_
      unfold partsOf
      rw [List.length_map]
      have hr := runsOf_S k n o c0 p
      have hg := hr.get
      have key : ∀ q, q ≤ (runsOf k n o c0 p).length → q ≤ cutAt (runsOf k n o c0 p) q := fun q => by
        induction q with
        | zero => intro _; omega
        | succ q ih =>
          intro hq
          have := ih (by omega)
          rw [cutAt_succ (show q < (runsOf k n o c0 p).length by omega)]
          have := (hg q (by omega)).1
          omega
      have h1 := key _ (Nat.le_refl _)
      have h2 := cutAt_le (runsOf k n o c0 p) (runsOf k n o c0 p).length
      rw [hr.flat] at h2
      have h3 := ow_len k n o (cN c0) p
      have h4 := hs.few
      omega
    omega
  generalize partsOf k n o c0 ct p = ps at *
  have hP : ∀ x ∈ allX ps, DC Try.prog 26 [domD rs, rowI x] (.tup [iD ((placeV rs x 0 : Nat) : Int), iD 0]) := fun x hx => by
    have H := dPlace_d rs x
    rwa [hX x hx] at H
  have hcut := fun k j (hk : k < ps.length) (hj : j < (idxs ps[k]).length) => allX_cut hk hj
  have hstep : ∀ r (h : r < (allX ps).length), intsD (fatL seed m rs ((allX ps).take (r + 1))) = intsD (fatL seed m rs ((allX ps).take r)) ++ [iD (belowV seed ((placeV rs (allX ps)[r] 0 : Nat) : Int) m)] := fun r h => by
    rw [List.take_succ_eq_append_getElem h]
    unfold fatL intsD
    rw [List.map_append, List.map_append]; rfl
  have hsn := fun k (hk : k < ps.length) => (allX_snoc hk).1
  have hend : (allX (ps.take ps.length)).length = (allX ps).length := by rw [List.take_length]
  have hz : (allX (ps.take 0)).length = 0 := rfl
  have h0 : intsD (fatL seed m rs ((allX ps).take 0)) = [] := rfl
  have hfin : (allX ps).take (allX ps).length = allX ps := List.take_length
  have hle : ∀ k, (allX (ps.take k)).length ≤ (allX ps).length := fun k => by
    have e2 : allX ps = allX (ps.take k) ++ allX (ps.drop k) := by
      unfold allX
      rw [← List.flatMap_append, List.take_append_drop]
    rw [e2, List.length_append]; omega
  have eo : rowI (fatL seed m rs (allX ps)) = .row (allX ps).length (intsD (fatL seed m rs (allX ps))) := by show D.row _ _ = _; rw [fatL_len]
  rw [eo]
  have hI := fun k (hk : k < ps.length) => indexes_ok (x2 _ (List.getElem_mem hk))
  clear hk hc hs hX x1 x2 hlt hd
  generalize allX ps = X at *
  obtain ⟨C, hC⟩ : ∃ C : Nat → Nat, ∀ k, C k = (allX (ps.take k)).length := ⟨_, fun _ => rfl⟩
  simp only [← hC] at hcut hsn hend hz hle
  clear hC
  obtain ⟨V, hV⟩ : ∃ V : Nat → List Int, ∀ r, V r = fatL seed m rs (X.take r) := ⟨_, fun _ => rfl⟩
  simp only [← hV] at hstep h0
  rw [show fatL seed m rs X = V X.length by rw [hV, hfin]]
  clear hV hfin
  refine DC.of Try.func57 Try.ntmps57 Try.results57 rfl (by decide +kernel) rfl ?_
  repeat (first | refine Z1 ?_ | refine Z2 ?_ | (refine Z3 ?_; (repeat (first | (apply gS; first | refine go_f ?_ | refine gx ?_ | refine gm ?_ | refine gp ?_ | refine go_c rfl rfl (B) ?_ | refine go_cF rfl rfl (B) ?_ | refine go_cA rfl rfl (B) ?_ | refine go_c rfl rfl (W) ?_ | refine go_cF rfl rfl (W) ?_ | refine go_cA rfl rfl (W) ?_) | (apply gZ; first | refine go_f ?_ | refine gx ?_ | refine gm ?_))); refine T_nil ?_) | (apply ZK; first | refine Z4 ?_ | refine Z5 ?_) | refine Z6 ?_ | refine Z7 ?_ | refine Z8 ?_ | refine Z9 ?_ | refine ZA ?_ | refine ZB ?_ | refine ZC ?_ | refine ZD ?_ | refine ZE ?_ | refine ZF ?_ | refine ZG ?_ | refine ZH ?_)
  refine C_count ps.length (fun _ => True) (fun q => ⟨4, 72, [(41, iD q), (40, iD ps.length), (39, domsD ps), (14, .own 3 (C q)), (0, iD seed), (4, iD m), (7, .ptr 1 0)], [(1, some ⟨24, 1, 1, [rowR rs]⟩), (3, some ⟨3, 1, C q, intsD (V (C q))⟩)]⟩) ?_ trivial ?_
  · rw [hz, h0]
    refine Wk.trans (Wk.adoptT 14 3 1 rfl) ?_
    exact Wk.gx (fun b => b)
  · intro q hq _
    have t0 := hle q
    by_cases hlt : q < ps.length
    · have I := hI q hlt
      have t1 := hsn q hlt
      have hcq := fun j => hcut q j hlt
      clear hI hsn hcut
      generalize idxs ps[q] = Y at *
      repeat (first | refine Z1 ?_ | refine Z2 ?_ | (refine Z3 ?_; (repeat (first | (apply gS; first | refine go_f ?_ | refine gx ?_ | refine gm ?_ | refine gp ?_ | refine go_c rfl rfl (I) ?_ | refine go_cF rfl rfl (I) ?_ | refine go_cA rfl rfl (I) ?_) | (apply gZ; first | refine go_f ?_ | refine gx ?_ | refine gm ?_))); refine T_nil ?_) | (apply ZK; first | refine Z4 ?_ | refine Z5 ?_) | refine Z6 ?_ | refine Z7 ?_ | refine Z8 ?_ | refine Z9 ?_ | refine ZA ?_ | refine ZB ?_ | refine ZC ?_ | refine ZD ?_ | refine ZE ?_ | refine ZF ?_ | refine ZG ?_ | refine ZH ?_)
      refine C_count Y.length (fun _ => True) (fun j => ⟨5, 72, [(52, iD j), (51, iD Y.length), (50, rowL2 Y), (41, iD q), (40, iD ps.length), (39, domsD ps), (14, .own 3 (C q + j)), (0, iD seed), (4, iD m), (7, .ptr 1 0)], [(1, some ⟨24, 1, 1, [rowR rs]⟩), (3, some ⟨3, 1, C q + j, intsD (V (C q + j))⟩)]⟩) ?_ trivial ?_
      · rw [Nat.add_zero]
        exact Wk.gx (fun b => b)
      · intro j hj _
        by_cases hjl : j < Y.length
        · obtain ⟨u1, u2⟩ := hcq j hjl
          rw [List.getElem?_eq_getElem u1] at u2
          have u3 : X[C q + j] = Y[j] := Option.some.inj u2
          have PL := hP X[C q + j] (List.getElem_mem u1)
          have st := hstep (C q + j) u1
          rw [u3] at PL st
          have BL := hB ((placeV rs Y[j] 0 : Nat) : Int)
          rw [Nat.add_assoc] at st
          clear hcq hstep hP hB u2 u3
          generalize belowV seed ((placeV rs Y[j] 0 : Nat) : Int) m = v at *
          generalize placeV rs Y[j] 0 = at' at *
          repeat (first | refine Z1 ?_ | refine Z2 ?_ | (refine Z3 ?_; (repeat (first | (apply gS; first | refine go_f ?_ | refine gx ?_ | refine gm ?_ | refine gp ?_ | refine go_c rfl rfl (PL) ?_ | refine go_cF rfl rfl (PL) ?_ | refine go_cA rfl rfl (PL) ?_ | refine go_c rfl rfl (BL) ?_ | refine go_cF rfl rfl (BL) ?_ | refine go_cA rfl rfl (BL) ?_) | (apply gZ; first | refine go_f ?_ | refine gx ?_ | refine gm ?_))); refine T_nil ?_) | (apply ZK; first | refine Z4 ?_ | refine Z5 ?_) | refine Z6 ?_ | refine Z7 ?_ | refine Z8 ?_ | refine Z9 ?_ | refine ZA ?_ | refine ZB ?_ | refine ZC ?_ | refine ZD ?_ | refine ZE ?_ | refine ZF ?_ | refine ZG ?_ | refine ZH ?_)
          refine kLoop_n ⟨hjl, trivial, ?_⟩
          exact Wk.gx (fun b => cond (Nat.beq b 3) 5 (b))
        · obtain rfl : j = Y.length := by omega
          rw [← t1]
          clear hcq hstep hP hB
          repeat (first | refine Z1 ?_ | refine Z2 ?_ | (refine Z3 ?_; (repeat (first | (apply gS; first | refine go_f ?_ | refine gx ?_ | refine gm ?_ | refine gp ?_) | (apply gZ; first | refine go_f ?_ | refine gx ?_ | refine gm ?_))); refine T_nil ?_) | (apply ZK; first | refine Z4 ?_ | refine Z5 ?_) | refine Z6 ?_ | refine Z7 ?_ | refine Z8 ?_ | refine Z9 ?_ | refine ZA ?_ | refine ZB ?_ | refine ZC ?_ | refine ZD ?_ | refine ZE ?_ | refine ZF ?_ | refine ZG ?_ | refine ZH ?_)
          refine kLoop_n ⟨hlt, trivial, ?_⟩
          exact Wk.gx (fun b => b)
    · obtain rfl : q = ps.length := by omega
      rw [hend]
      clear hcut hI hP hB hsn hstep
      repeat (first | refine Z1 ?_ | refine Z2 ?_ | (refine Z3 ?_; (repeat (first | (apply gS; first | refine go_f ?_ | refine gx ?_ | refine gm ?_ | refine gp ?_) | (apply gZ; first | refine go_f ?_ | refine gx ?_ | refine gm ?_))); refine T_nil ?_) | (apply ZK; first | refine Z4 ?_ | refine Z5 ?_) | refine Z6 ?_ | refine Z7 ?_ | refine Z8 ?_ | refine Z9 ?_ | refine ZA ?_ | refine ZB ?_ | refine ZC ?_ | refine ZD ?_ | refine ZE ?_ | refine ZF ?_ | refine ZG ?_ | refine ZH ?_)
      repeat (first | refine kEnd_m ?_ | refine kEnd_f ?_)
      refine kEnd_g ?_ (by first | exact .inl rfl | exact .inr rfl)
      exact Sub.eq rfl rfl
end Go.Proofs.Ytifapodobhkdcaa
