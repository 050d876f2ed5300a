/- The halo of a place, and Updates, in package dist, by the abstract machine. -/
import Derived.Test.YtifapodobhkdcaaHalMath
import Derived.Test.YtifapodobhkdcaaDs8
namespace Go.Proofs.Ytifapodobhkdcaa
open Go.RowKit
set_option linter.unusedVariables false
set_option maxHeartbeats 16000000
set_option linter.unusedSimpArgs false
set_option maxRecDepth 100000
set_option maxHeartbeats 16000000 in
theorem halo_d {s : ByteArray} {k : Kd} {n o : Nat} (hk : Okd s k n o) (cr : List Rg) (ml : List Int) (inn p h : Nat) (hl : ml.length ≤ 4096) (hh : h ≤ 4096) : DC Try.prog 144 [spO s n o cr ml inn, iD p, iD h] (rowI (natsI (hal k n o ml.length p h))) := by
  have O := fun i (hi : i < ml.length) => owner_d hk cr ml inn hi hl
  obtain ⟨f, hf⟩ : ∃ f : Nat → Bool, ∀ i, f i = decide (own k n o ml.length i = p) := ⟨_, fun _ => rfl⟩
  have e0 : hal k n o ml.length p h = halF f ml.length h := by
    unfold hal
    rw [show (fun j => decide (own k n o ml.length j = p)) = f from (funext hf).symm]
  have hz0 := nearC_0 f h ml.length
  have hst := fun m => nearC_step f h ml.length m
  have hln := fun m => nearC_len f h ml.length m
  have hend := fun i (hi : i < ml.length) => nearC_end f h ml.length hi
  have hlb := lastF_bd f
  have hfb := firstF_bd f ml.length (by omega)
  have hnb := fun d (hd : d < ml.length) => near_both (f := f) hh hl hd
  have hbs := fun d => backL_step f ml.length h d
  have hbl := fun d => backL_len f ml.length h d
  have hbe := backL_end f ml.length h
  have hb0 : backL f ml.length h 0 = [] := rfl
  have RV := revI_d (natsI (halF f ml.length h).reverse) (by simp only [natsI, List.length_map, List.length_reverse]; have := halF_len f ml.length h; omega)
  have erv : (natsI (halF f ml.length h).reverse).reverse = natsI (halF f ml.length h) := by unfold natsI; rw [List.map_reverse, List.reverse_reverse]
  have elv : (natsI (halF f ml.length h).reverse).length = (halF f ml.length h).length := by simp [natsI]
  rw [erv, elv] at RV
  have eo : rowI (natsI (halF f ml.length h)) = .row (halF f ml.length h).length (intsD (natsI (halF f ml.length h))) := by show D.row _ _ = _; rw [natsI, List.length_map]
  rw [e0, eo]
  clear e0 erv elv eo
  have hlF : ∀ m, f m = true → lastF f (m + 1) = (m : Int) := fun m h => by show (if f m = true then _ else _) = _; rw [if_pos h]
  have hlN : ∀ m, f m = false → lastF f (m + 1) = lastF f m := fun m h => by show (if f m = true then _ else _) = _; rw [if_neg (by rw [h]; decide)]
  have hfF : ∀ d, f (ml.length - 1 - d) = true → firstF f ml.length (d + 1) = ((ml.length - 1 - d : Nat) : Int) := fun d h => by show (if f (ml.length - 1 - d) = true then _ else _) = _; rw [if_pos h]
  have hfN : ∀ d, f (ml.length - 1 - d) = false → firstF f ml.length (d + 1) = firstF f ml.length d := fun d h => by show (if f (ml.length - 1 - d) = true then _ else _) = _; rw [if_neg (by rw [h]; decide)]
  have hfr : ∀ m, frontB f h m = decide ((m : Int) - lastF f (m + 1) ≤ h) := fun _ => rfl
  have l0 : lastF f 0 = -1048576 := rfl
  have f0 : firstF f ml.length 0 = 1048576 := rfl
  generalize backL f ml.length h = BL at *
  generalize halF f ml.length h = HL at *
  generalize lastF f = LF at *
  generalize firstF f ml.length = FF at *
  refine DC.of Try.func144 Try.ntmps144 Try.results144 rfl (by decide +kernel) rfl ?_
  repeat (first | refine Z1 ?_ | refine Z2 ?_ | (refine Z3 ?_; (repeat (first | (apply gS; first | refine go_no ?_ | refine go_f ?_ | refine gx ?_ | refine gm ?_ | refine gp ?_) | (apply gZ; first | refine go_f ?_ | refine gx ?_ | refine gm ?_))); refine T_nil ?_) | (apply ZK; first | refine Z4 ?_ | refine Z5 ?_) | refine Z6 ?_ | refine Z7 ?_ | refine Z8 ?_ | refine Z9 ?_ | refine ZA ?_ | refine ZB ?_ | refine ZC ?_ | refine ZD ?_ | refine ZE ?_ | refine ZF ?_ | refine ZG ?_ | refine ZH ?_)
  refine C_count ml.length (fun _ => True) (fun m => ⟨1, 75, [(23, iD m), (22, iD ml.length), (8, iD (LF m)), (7, .own 0 ml.length), (0, spO s n o cr ml inn), (1, iD p), (2, iD h)], [(0, some ⟨4, 1, ml.length, nearC f h ml.length m⟩)]⟩) ?_ trivial ?_
  · rw [hz0, l0]
    exact Wk.gx (fun b => b)
  · intro m hm _
    have y1 := hln m
    by_cases hlt : m < ml.length
    · have C := O m hlt
      have en := hst m
      have hfm := hf m
      have q1 := hlb m
      rw [hfr m] at en
      have en : nearC f h ml.length (m + 1) = (nearC f h ml.length m).set ((((m : Nat) : Int).toNat) * 1) (bD (decide ((m : Int) - LF (m + 1) ≤ h))) := by rw [Int.toNat_natCast, Nat.mul_one]; exact en
      have hF := hlF m
      have hN := hlN m
      clear O hst hz0 hend hnb hbs hbl hbe hb0 RV hfF hfN hf hfb hlF hlN hfr hln
      generalize own k n o ml.length m = w at *
      by_cases hw : w = p
      · have l1 := hF (by rw [hfm, decide_eq_true hw])
        rw [l1, decide_eq_true (by omega)] at en
        clear hF hN
        subst hw
        repeat (first | refine Z1 ?_ | refine Z2 ?_ | (refine Z3 ?_; (repeat (first | (apply gS; first | refine go_no ?_ | refine go_f ?_ | refine gx ?_ | refine gm ?_ | refine gp ?_ | refine go_c rfl rfl (C) ?_ | refine go_cF rfl rfl (C) ?_ | refine go_cA rfl rfl (C) ?_) | (apply gZ; first | refine go_f ?_ | refine gx ?_ | refine gm ?_))); refine T_nil ?_) | (apply ZK; first | refine Z4 ?_ | refine Z5 ?_) | refine Z6 ?_ | refine Z7 ?_ | refine Z8 ?_ | refine Z9 ?_ | refine ZA ?_ | refine ZB ?_ | refine ZC ?_ | refine ZD ?_ | refine ZE ?_ | refine ZF ?_ | refine ZG ?_ | refine ZH ?_)
        refine kLoop_n ⟨hlt, trivial, ?_⟩
        rw [l1]
        exact Wk.gx (fun b => b)
      · have l1 := hN (by rw [hfm, decide_eq_false hw])
        rw [l1] at en
        have hw' : ¬ (w : Int) = p := by omega
        clear hF hN
        repeat (first | refine Z1 ?_ | refine Z2 ?_ | (refine Z3 ?_; (repeat (first | (apply gS; first | refine go_no ?_ | refine go_f ?_ | refine gx ?_ | refine gm ?_ | refine gp ?_ | refine go_c rfl rfl (C) ?_ | refine go_cF rfl rfl (C) ?_ | refine go_cA rfl rfl (C) ?_) | (apply gZ; first | refine go_f ?_ | refine gx ?_ | refine gm ?_))); refine T_nil ?_) | (apply ZK; first | refine Z4 ?_ | refine Z5 ?_) | refine Z6 ?_ | refine Z7 ?_ | refine Z8 ?_ | refine Z9 ?_ | refine ZA ?_ | refine ZB ?_ | refine ZC ?_ | refine ZD ?_ | refine ZE ?_ | refine ZF ?_ | refine ZG ?_ | refine ZH ?_)
        refine kLoop_n ⟨hlt, trivial, ?_⟩
        rw [l1]
        exact Wk.gx (fun b => b)
    · obtain rfl : m = ml.length := by omega
      clear hst hlb hlF hlN hz0 hln
      repeat (first | refine Z1 ?_ | refine Z2 ?_ | (refine Z3 ?_; (repeat (first | (apply gS; first | refine go_no ?_ | refine go_f ?_ | refine gx ?_ | refine gm ?_ | refine gp ?_) | (apply gZ; first | refine go_f ?_ | refine gx ?_ | refine gm ?_))); refine T_nil ?_) | (apply ZK; first | refine Z4 ?_ | refine Z5 ?_) | refine Z6 ?_ | refine Z7 ?_ | refine Z8 ?_ | refine Z9 ?_ | refine ZA ?_ | refine ZB ?_ | refine ZC ?_ | refine ZD ?_ | refine ZE ?_ | refine ZF ?_ | refine ZG ?_ | refine ZH ?_)
      refine C_count ml.length (fun _ => True) (fun d => ⟨2, 75, [(11, iD (((ml.length - d : Nat) : Int) - 1)), (10, .own 1 (BL d).length), (8, iD (FF d)), (7, .own 0 ml.length), (0, spO s n o cr ml inn), (1, iD p), (2, iD h)], [(0, some ⟨4, 1, ml.length, nearC f h ml.length ml.length⟩), (1, some ⟨3, 1, (BL d).length, intsD (natsI (BL d))⟩)]⟩) ?_ trivial ?_
      · rw [f0, hb0]
        refine Wk.trans (Wk.adoptT 10 3 1 rfl) ?_
        exact Wk.gx (fun b => b)
      · intro d hd _
        by_cases hlt : d < ml.length
        · obtain ⟨i, hi⟩ : ∃ i, i = ml.length - 1 - d := ⟨_, rfl⟩
          have hil : i < ml.length := by omega
          have C := O i hil
          have ei : (((ml.length - d : Nat) : Int) - 1) = (i : Int) := by omega
          have hfi := hf i
          have nb := hnb d hlt
          have bs := hbs d
          have bl := hbl d
          have q1 := hfb d
          have hF := hfF d
          have hN := hfN d
          have hld := hend i hil
          rw [← hi] at nb bs hF hN
          have hld : (nearC f h ml.length ml.length)[(((i : Nat) : Int).toNat) * 1]? = some (bD (frontB f h i)) := by rw [Int.toNat_natCast, Nat.mul_one]; exact hld
          rw [ei]
          clear O hend hnb hbs hbl hbe hb0 RV hfF hfN hf hfb hfr l0 f0 ei
          generalize own k n o ml.length i = w at *
          by_cases hw : w = p
          · have hft : f i = true := by rw [hfi, decide_eq_true hw]
            have l1 := hF hft
            rw [if_neg (by rw [hft]; simp), List.append_nil] at bs
            clear hF hN nb
            subst hw
            repeat (first | refine Z1 ?_ | refine Z2 ?_ | (refine Z3 ?_; (repeat (first | (apply gS; first | refine go_no ?_ | refine go_f ?_ | refine gx ?_ | refine gm ?_ | refine gp ?_ | refine go_c rfl rfl (C) ?_ | refine go_cF rfl rfl (C) ?_ | refine go_cA rfl rfl (C) ?_) | (apply gZ; first | refine go_f ?_ | refine gx ?_ | refine gm ?_))); refine T_nil ?_) | (apply ZK; first | refine Z4 ?_ | refine Z5 ?_) | refine Z6 ?_ | refine Z7 ?_ | refine Z8 ?_ | refine Z9 ?_ | refine ZA ?_ | refine ZB ?_ | refine ZC ?_ | refine ZD ?_ | refine ZE ?_ | refine ZF ?_ | refine ZG ?_ | refine ZH ?_)
            refine kLoop_n ⟨hlt, trivial, ?_⟩
            rw [l1, bs]
            exact Wk.gx (fun b => b)
          · have hff : f i = false := by rw [hfi, decide_eq_false hw]
            have l1 := hN hff
            have nb := nb.resolve_right (by rw [hff]; decide)
            have hw' : ¬ (w : Int) = p := by omega
            clear hF hN
            by_cases hn : nearF f ml.length h i = true
            · rw [if_pos ⟨hff, hn⟩] at bs
              have e1 : (BL (d + 1)).length = (BL d).length + 1 := by rw [bs]; simp
              have e2 : intsD (natsI (BL (d + 1))) = intsD (natsI (BL d)) ++ [iD i] := by rw [bs]; simp [intsD, natsI]
              rw [hn] at nb
              cases hq : frontB f h i with
              | true =>
                rw [hq] at hld
                clear nb bs
                repeat (first | refine Z1 ?_ | refine Z2 ?_ | (refine Z3 ?_; (repeat (first | (apply gS; first | refine go_no ?_ | refine go_f ?_ | refine gx ?_ | refine gm ?_ | refine gp ?_ | refine go_c rfl rfl (C) ?_ | refine go_cF rfl rfl (C) ?_ | refine go_cA rfl rfl (C) ?_) | (apply gZ; first | refine go_f ?_ | refine gx ?_ | refine gm ?_))); refine T_nil ?_) | (apply ZK; first | refine Z4 ?_ | refine Z5 ?_) | refine Z6 ?_ | refine Z7 ?_ | refine Z8 ?_ | refine Z9 ?_ | refine ZA ?_ | refine ZB ?_ | refine ZC ?_ | refine ZD ?_ | refine ZE ?_ | refine ZF ?_ | refine ZG ?_ | refine ZH ?_)
                refine kLoop_n ⟨hlt, trivial, ?_⟩
                rw [l1]
                exact Wk.gx (fun b => cond (Nat.beq b 1) 2 (b))
              | false =>
                rw [hq] at hld nb
                rw [Bool.false_or] at nb
                have nb := of_decide_eq_true nb.symm
                clear bs
                generalize FF d = la at *
                repeat (first | refine Z1 ?_ | refine Z2 ?_ | (refine Z3 ?_; (repeat (first | (apply gS; first | refine go_no ?_ | refine go_f ?_ | refine gx ?_ | refine gm ?_ | refine gp ?_ | refine go_c rfl rfl (C) ?_ | refine go_cF rfl rfl (C) ?_ | refine go_cA rfl rfl (C) ?_) | (apply gZ; first | refine go_f ?_ | refine gx ?_ | refine gm ?_))); refine T_nil ?_) | (apply ZK; first | refine Z4 ?_ | refine Z5 ?_) | refine Z6 ?_ | refine Z7 ?_ | refine Z8 ?_ | refine Z9 ?_ | refine ZA ?_ | refine ZB ?_ | refine ZC ?_ | refine ZD ?_ | refine ZE ?_ | refine ZF ?_ | refine ZG ?_ | refine ZH ?_)
                refine kLoop_n ⟨hlt, trivial, ?_⟩
                rw [l1]
                exact Wk.gx (fun b => cond (Nat.beq b 1) 2 (b))
            · have hn : nearF f ml.length h i = false := by simpa using hn
              rw [if_neg (by rw [hn]; simp), List.append_nil] at bs
              rw [hn] at nb
              have hq : frontB f h i = false := by cases hq : frontB f h i <;> simp_all
              rw [hq] at hld nb
              rw [Bool.false_or] at nb
              have nb := of_decide_eq_false nb.symm
              repeat (first | refine Z1 ?_ | refine Z2 ?_ | (refine Z3 ?_; (repeat (first | (apply gS; first | refine go_no ?_ | refine go_f ?_ | refine gx ?_ | refine gm ?_ | refine gp ?_ | refine go_c rfl rfl (C) ?_ | refine go_cF rfl rfl (C) ?_ | refine go_cA rfl rfl (C) ?_) | (apply gZ; first | refine go_f ?_ | refine gx ?_ | refine gm ?_))); refine T_nil ?_) | (apply ZK; first | refine Z4 ?_ | refine Z5 ?_) | refine Z6 ?_ | refine Z7 ?_ | refine Z8 ?_ | refine Z9 ?_ | refine ZA ?_ | refine ZB ?_ | refine ZC ?_ | refine ZD ?_ | refine ZE ?_ | refine ZF ?_ | refine ZG ?_ | refine ZH ?_)
              refine kLoop_n ⟨hlt, trivial, ?_⟩
              rw [l1, bs]
              exact Wk.gx (fun b => b)
        · obtain rfl : d = ml.length := by omega
          rw [hbe, List.length_reverse]
          clear O hend hnb hbs hbl hbe hb0 hfF hfN hf hfb hfr l0 f0
          repeat (first | refine Z1 ?_ | refine Z2 ?_ | (refine Z3 ?_; (repeat (first | (apply gS; first | refine go_rev (RV) ?_ | refine go_no ?_ | refine go_f ?_ | refine gx ?_ | refine gm ?_ | refine gp ?_) | (apply gZ; first | refine go_f ?_ | refine gx ?_ | refine gm ?_))); refine T_nil ?_) | (apply ZK; first | refine Z4 ?_ | refine Z5 ?_) | refine Z6 ?_ | refine Z7 ?_ | refine Z8 ?_ | refine Z9 ?_ | refine ZA ?_ | refine ZB ?_ | refine ZC ?_ | refine ZD ?_ | refine ZE ?_ | refine ZF ?_ | refine ZG ?_ | refine ZH ?_)
          repeat (first | refine kEnd_m ?_ | refine kEnd_f ?_)
          refine kEnd_g ?_ (by first | exact .inl rfl | exact .inr rfl)
          exact Sub.eq rfl rfl
/-! ### Halo -/
theorem Halo_bad {s : ByteArray} {n o : Int} {rs : List Rg} (h : errD s n o rs ≠ 0) (p q : Int) : DC Try.prog 74 [dsD s n o, domD rs, iD p, iD q] (.tup [chD 0 [], iD (errD s n o rs)]) := by
  have B := begin_bad h
  generalize errD s n o rs = e at *
  refine DC.of Try.func74 Try.ntmps74 Try.results74 rfl (by decide +kernel) rfl ?_
  repeat (first | refine Z1 ?_ | refine Z2 ?_ | (refine Z3 ?_; (repeat (first | (apply gS; first | refine go_no ?_ | refine go_f ?_ | refine gx ?_ | refine gm ?_ | refine gp ?_ | refine go_c rfl rfl (B) ?_ | refine go_cF rfl rfl (B) ?_ | refine go_cA rfl rfl (B) ?_) | (apply gZ; first | refine go_f ?_ | refine gx ?_ | refine gm ?_))); refine T_nil ?_) | (apply ZK; first | refine Z4 ?_ | refine Z5 ?_) | refine Z6 ?_ | refine Z7 ?_ | refine Z8 ?_ | refine Z9 ?_ | refine ZA ?_ | refine ZB ?_ | refine ZC ?_ | refine ZF ?_)
  repeat (first | refine kEnd_m ?_ | refine kEnd_f ?_)
  refine kEnd_g ?_ (by first | exact .inl rfl | exact .inr rfl)
  exact Sub.tup (.cons (Sub.agg (.cons (Sub.eq rfl rfl) (.cons Sub.nil .nil))) (.cons (Sub.eq rfl rfl) .nil))
theorem Halo_no {s : ByteArray} {k : Kd} {n o : Nat} (hk : Okd s k n o) {rs : List Rg} {c0 : Rg} {ct : List Rg} (hd : domB rs = true) (hc : canonRs rs = c0 :: ct) (hs : SpOk c0 ct) (p q : Int) (hp : ¬ (0 ≤ p ∧ p < o ∧ 0 ≤ q ∧ q ≤ 4096)) :
    DC Try.prog 74 [dsD s n o, domD rs, iD p, iD q] (.tup [chD 0 [], iD 2]) := by
  have B := begin_d hk hd hc hs
  by_cases h : 0 ≤ p ∧ p < o
  · have I := isPlace_t s n o (c0 :: ct) (memN c0) (iN c0 ct) p h.1 h.2
    by_cases h0 : q < 0
    all_goals
      refine DC.of Try.func74 Try.ntmps74 Try.results74 rfl (by decide +kernel) rfl ?_
      repeat (first | refine Z1 ?_ | refine Z2 ?_ | (refine Z3 ?_; (repeat (first | (apply gS; first | refine go_no ?_ | refine go_f ?_ | refine gx ?_ | refine gm ?_ | refine gp ?_ | refine go_c rfl rfl (B) ?_ | refine go_cF rfl rfl (B) ?_ | refine go_cA rfl rfl (B) ?_ | refine go_c rfl rfl (I) ?_ | refine go_cF rfl rfl (I) ?_ | refine go_cA rfl rfl (I) ?_) | (apply gZ; first | refine go_f ?_ | refine gx ?_ | refine gm ?_))); refine T_nil ?_) | (apply ZK; first | refine Z4 ?_ | refine Z5 ?_) | refine Z6 ?_ | refine Z7 ?_ | refine Z8 ?_ | refine Z9 ?_ | refine ZA ?_ | refine ZB ?_ | refine ZC ?_ | refine ZF ?_)
      repeat (first | refine kEnd_m ?_ | refine kEnd_f ?_)
      refine kEnd_g ?_ (by first | exact .inl rfl | exact .inr rfl)
      exact Sub.tup (.cons (Sub.agg (.cons (Sub.eq rfl rfl) (.cons Sub.nil .nil))) (.cons (Sub.eq rfl rfl) .nil))
  · have I := isPlace_f s n o (c0 :: ct) (memN c0) (iN c0 ct) p (by omega)
    clear hp h
    refine DC.of Try.func74 Try.ntmps74 Try.results74 rfl (by decide +kernel) rfl ?_
    repeat (first | refine Z1 ?_ | refine Z2 ?_ | (refine Z3 ?_; (repeat (first | (apply gS; first | refine go_no ?_ | refine go_f ?_ | refine gx ?_ | refine gm ?_ | refine gp ?_ | refine go_c rfl rfl (B) ?_ | refine go_cF rfl rfl (B) ?_ | refine go_cA rfl rfl (B) ?_ | refine go_c rfl rfl (I) ?_ | refine go_cF rfl rfl (I) ?_ | refine go_cA rfl rfl (I) ?_) | (apply gZ; first | refine go_f ?_ | refine gx ?_ | refine gm ?_))); refine T_nil ?_) | (apply ZK; first | refine Z4 ?_ | refine Z5 ?_) | refine Z6 ?_ | refine Z7 ?_ | refine Z8 ?_ | refine Z9 ?_ | refine ZA ?_ | refine ZB ?_ | refine ZC ?_ | refine ZF ?_)
    repeat (first | refine kEnd_m ?_ | refine kEnd_f ?_)
    refine kEnd_g ?_ (by first | exact .inl rfl | exact .inr rfl)
    exact Sub.tup (.cons (Sub.agg (.cons (Sub.eq rfl rfl) (.cons Sub.nil .nil))) (.cons (Sub.eq rfl rfl) .nil))
theorem Halo_ok {s : ByteArray} {k : Kd} {n o : Nat} (hk : Okd s k n o) {rs : List Rg} {c0 : Rg} {ct : List Rg} (hd : domB rs = true) (hc : canonRs rs = c0 :: ct) (hs : SpOk c0 ct) (p q : Nat) (hp : p < o) (hq : q ≤ 4096) :
    DC Try.prog 74 [dsD s n o, domD rs, iD p, iD q] (.tup [chD p (hpartsOf k n o c0 ct p q), iD 0]) := by
  have B := begin_d hk hd hc hs
  have I := isPlace_t s n o (c0 :: ct) (memN c0) (iN c0 ct) p (by omega) (by omega)
  have HL := halo_d hk (c0 :: ct) (memN c0) (iN c0 ct) p q (mem_few hs) hq
  rw [memN_len] at HL
  have hlt := hal_lt (k := k) (n := n) (o := o) (R := cN c0) (p := p) (h := q)
  have hle := hal_len k n o (cN c0) p q
  have hfew := hs.few
  have PS := spParts_d s n o c0 ct (memN c0) (iN c0 ct) (ct_few hs) (hal k n o (cN c0) p q) (fun j hj => by rw [memN_len]; exact hlt j hj) (by omega) (mem_few hs) 142 [] [] rfl besideB (hrunsOf k n o (cN c0) p q) (hrunsOf_S k n o (cN c0) p q)
    (fun part i a b c d => besideB_d part i a b (fun j hj => by have := c j hj; rw [memN_len] at this; omega) (by rw [memN_len] at d; omega))
  have hch : ∀ ps : List (List Rg), chD p ps = .agg [iD p, domsD ps] := fun _ => rfl
  rw [show (hrunsOf k n o (cN c0) p q).map (partC ct (memN c0)) = hpartsOf k n o c0 ct p q from rfl] at PS
  rw [hch]
  have hsp : spD s n o c0 ct = spO s n o (c0 :: ct) (memN c0) (iN c0 ct) := rfl
  rw [hsp] at B
  clear hsp hch hlt
  generalize hpartsOf k n o c0 ct p q = out at *
  generalize hal k n o (cN c0) p q = l at *
  generalize memN c0 = ml at *
  generalize iN c0 ct = W at *
  refine DC.of Try.func74 Try.ntmps74 Try.results74 rfl (by decide +kernel) rfl ?_
  repeat (first | refine Z1 ?_ | refine Z2 ?_ | (refine Z3 ?_; (repeat (first | (apply gS; first | refine go_no ?_ | refine go_f ?_ | refine gx ?_ | refine gm ?_ | refine gp ?_ | refine go_c rfl rfl (B) ?_ | refine go_cF rfl rfl (B) ?_ | refine go_cA rfl rfl (B) ?_ | refine go_c rfl rfl (I) ?_ | refine go_cF rfl rfl (I) ?_ | refine go_cA rfl rfl (I) ?_ | refine go_c rfl rfl (HL) ?_ | refine go_cF rfl rfl (HL) ?_ | refine go_cA rfl rfl (HL) ?_ | refine go_c rfl rfl (PS) ?_ | refine go_cF rfl rfl (PS) ?_ | refine go_cA rfl rfl (PS) ?_) | (apply gZ; first | refine go_f ?_ | refine gx ?_ | refine gm ?_))); refine T_nil ?_) | (apply ZK; first | refine Z4 ?_ | refine Z5 ?_) | refine Z6 ?_ | refine Z7 ?_ | refine Z8 ?_ | refine Z9 ?_ | refine ZA ?_ | refine ZB ?_ | refine ZC ?_ | refine ZF ?_)
  repeat (first | refine kEnd_m ?_ | refine kEnd_f ?_)
  refine kEnd_g ?_ (by first | exact .inl rfl | exact .inr rfl)
  exact Sub.eq rfl rfl
/-! ### Updates -/
def kdHalo : ByteArray := ⟨#[104, 97, 108, 111]⟩
def upL (w : Nat → Nat) (H : Nat → List Nat) (b q : Nat) : List Nat := ((List.range b).flatMap fun b => (H b).map fun i => w i * 8 + b) ++ ((H b).take q).map fun i => w i * 8 + b
def upF (w : Nat → Nat) (H : Nat → List Nat) (W b q : Nat) : Nat → Int := fun c => ((((upL w H b q).filter fun x => decide (x = c)).length * W : Nat) : Int)
theorem upF_0 (w : Nat → Nat) (H : Nat → List Nat) (W : Nat) : upF w H W 0 0 = fun _ => 0 := funext fun c => by
  have : upL w H 0 0 = [] := rfl
  unfold upF
  rw [this]; simp
theorem upF_next (w : Nat → Nat) (H : Nat → List Nat) (W b : Nat) : upF w H W b (H b).length = upF w H W (b + 1) 0 := by
  have : upL w H b (H b).length = upL w H (b + 1) 0 := by
    unfold upL
    rw [List.take_length, List.take_zero, List.map_nil, List.append_nil, List.range_succ, List.flatMap_append]
    simp
  unfold upF
  rw [this]
theorem upF_step (w : Nat → Nat) (H : Nat → List Nat) (W b : Nat) {q : Nat} (hq : q < (H b).length) : upF w H W b (q + 1) = updF (upF w H W b q) (w (H b)[q] * 8 + b) (upF w H W b q (w (H b)[q] * 8 + b) + W) := funext fun c => by
  have e : upL w H b (q + 1) = upL w H b q ++ [w (H b)[q] * 8 + b] := by
    unfold upL
    rw [List.take_succ_eq_append_getElem hq, List.map_append, ← List.append_assoc]; rfl
  unfold updF upF
  rw [e, List.filter_append, List.length_append]
  by_cases h : c = w (H b)[q] * 8 + b
  · subst h
    rw [if_pos rfl]
    simp only [decide_true, List.filter_cons_of_pos, List.filter_nil, List.length_cons, List.length_nil]
    rw [Nat.add_mul]
    push_cast
    omega
  · rw [if_neg h]
    have h2 : ¬ w (H b)[q] * 8 + b = c := fun e => h e.symm
    simp [h2]
theorem upF_bd (w : Nat → Nat) (H : Nat → List Nat) {W b q : Nat} (hb : b ≤ 8) (hH : ∀ b, (H b).length ≤ 4096) (hW : W ≤ 4096) (c : Nat) : 0 ≤ upF w H W b q c ∧ upF w H W b q c ≤ 150994944 := by
  have h1 : ∀ b, ((List.range b).flatMap fun b => (H b).map fun i => w i * 8 + b).length ≤ b * 4096 := fun b => by
    induction b with
    | zero => simp
    | succ b ih =>
      rw [List.range_succ, List.flatMap_append, List.length_append]
      have := hH b
      simp only [List.flatMap_cons, List.flatMap_nil, List.append_nil, List.length_map]
      omega
  have h2 : (upL w H b q).length ≤ 36864 := by
    unfold upL
    rw [List.length_append, List.length_map, List.length_take]
    have := h1 b
    have := hH b
    omega
  have h3 := List.length_filter_le (fun x => decide (x = c)) (upL w H b q)
  have h4 : ((upL w H b q).filter fun x => decide (x = c)).length * W ≤ 36864 * 4096 := Nat.mul_le_mul (by omega) hW
  unfold upF
  omega
theorem Updates_bad {s : ByteArray} {n o : Int} {rs : List Rg} (h : errD s n o rs ≠ 0) (q : Int) : DC Try.prog 82 [dsD s n o, domD rs, iD q] (.tup [.row 0 [], iD (errD s n o rs)]) := by
  have B := begin_bad h
  generalize errD s n o rs = e at *
  refine DC.of Try.func82 Try.ntmps82 Try.results82 rfl (by decide +kernel) rfl ?_
  repeat (first | refine Z1 ?_ | refine Z2 ?_ | (refine Z3 ?_; (repeat (first | (apply gS; first | refine go_no ?_ | refine go_f ?_ | refine gx ?_ | refine gm ?_ | refine gp ?_ | refine go_c rfl rfl (B) ?_ | refine go_cF rfl rfl (B) ?_ | refine go_cA rfl rfl (B) ?_) | (apply gZ; first | refine go_f ?_ | refine gx ?_ | refine gm ?_))); refine T_nil ?_) | (apply ZR; (try dsimp only [List.map_cons, List.map_nil]); refine C_dr mixed ?_; (repeat (first | (apply vS; first | refine vn ?_ | refine va ?_ | refine vp ?_ | refine vr ?_ | refine vt ?_ | refine vc (B) ?_ | refine vcF (B) ?_) | (apply vZ; first | refine vs ?_ | refine vw ?_))); refine W_e ?_) | (apply ZK; first | refine Z4 ?_ | refine Z5 ?_) | refine Z6 ?_ | refine Z7 ?_ | refine Z8 ?_ | refine Z9 ?_ | refine ZA ?_ | refine ZB ?_ | refine ZC ?_ | refine ZD ?_ | refine ZE ?_ | refine ZF ?_ | refine ZG ?_ | refine ZH ?_)
  repeat (first | refine kEnd_m ?_ | refine kEnd_f ?_)
  refine kEnd_g ?_ (by first | exact .inl rfl | exact .inr rfl)
  exact Sub.tup (.cons Sub.nil (.cons (Sub.eq rfl rfl) .nil))
theorem Updates_no {s : ByteArray} {k : Kd} {n o : Nat} (hk : Okd s k n o) {rs : List Rg} {c0 : Rg} {ct : List Rg} (hd : domB rs = true) (hc : canonRs rs = c0 :: ct) (hs : SpOk c0 ct) (q : Int) (hp : ¬ (0 ≤ q ∧ q ≤ 4096)) :
    DC Try.prog 82 [dsD s n o, domD rs, iD q] (.tup [.row 0 [], iD 2]) := by
  have B := begin_d hk hd hc hs
  by_cases h0 : q < 0
  all_goals
    refine DC.of Try.func82 Try.ntmps82 Try.results82 rfl (by decide +kernel) rfl ?_
    repeat (first | refine Z1 ?_ | refine Z2 ?_ | (refine Z3 ?_; (repeat (first | (apply gS; first | refine go_no ?_ | refine go_f ?_ | refine gx ?_ | refine gm ?_ | refine gp ?_ | refine go_c rfl rfl (B) ?_ | refine go_cF rfl rfl (B) ?_ | refine go_cA rfl rfl (B) ?_) | (apply gZ; first | refine go_f ?_ | refine gx ?_ | refine gm ?_))); refine T_nil ?_) | (apply ZR; (try dsimp only [List.map_cons, List.map_nil]); refine C_dr mixed ?_; (repeat (first | (apply vS; first | refine vn ?_ | refine va ?_ | refine vp ?_ | refine vr ?_ | refine vt ?_ | refine vc (B) ?_ | refine vcF (B) ?_) | (apply vZ; first | refine vs ?_ | refine vw ?_))); refine W_e ?_) | (apply ZK; first | refine Z4 ?_ | refine Z5 ?_) | refine Z6 ?_ | refine Z7 ?_ | refine Z8 ?_ | refine Z9 ?_ | refine ZA ?_ | refine ZB ?_ | refine ZC ?_ | refine ZD ?_ | refine ZE ?_ | refine ZF ?_ | refine ZG ?_ | refine ZH ?_)
    repeat (first | refine kEnd_m ?_ | refine kEnd_f ?_)
    refine kEnd_g ?_ (by first | exact .inl rfl | exact .inr rfl)
    exact Sub.tup (.cons Sub.nil (.cons (Sub.eq rfl rfl) .nil))
def upT (k : Kd) (n o : Nat) (c0 : Rg) (ct : List Rg) (h : Nat) : Nat → Int := upF (own k n o (cN c0)) (fun b => hal k n o (cN c0) b h) (iN c0 ct) o 0
set_option maxHeartbeats 16000000 in
theorem Updates_ok {s : ByteArray} {k : Kd} {n o : Nat} (hk : Okd s k n o) {rs : List Rg} {c0 : Rg} {ct : List Rg} (hd : domB rs = true) (hc : canonRs rs = c0 :: ct) (hs : SpOk c0 ct) (h : Nat) (hq : h ≤ 4096) :
    DC Try.prog 82 [dsD s n o, domD rs, iD h] (.tup [cntsD kdHalo (upT k n o c0 ct h), iD 0]) := by
  have B := begin_d hk hd hc hs
  have HL := fun p : Nat => halo_d hk (c0 :: ct) (memN c0) (iN c0 ct) p h (mem_few hs) hq
  simp only [memN_len] at HL
  have hlt := fun p => hal_lt (k := k) (n := n) (o := o) (R := cN c0) (p := p) (h := h)
  have hle := fun p => hal_len k n o (cN c0) p h
  have hfew := hs.few
  have hO := fun i (hi : i < cN c0) => owner_d hk (c0 :: ct) (memN c0) (iN c0 ct) (i := i) (by rw [memN_len]; exact hi) (mem_few hs)
  simp only [memN_len] at hO
  have hoL := fun i (hi : i < cN c0) => own_lt hk.ok hi
  have h8 := hk.ok.o8
  have h1 := hk.ok.o1
  have hW : iN c0 ct ≤ 4096 := by
    have hP : cN c0 * iN c0 ct ≤ 4096 := by rw [iN_mul]; exact (domB_iff.1 hs.dom).2.2
    by_cases hz : cN c0 = 0
    · have : iN c0 ct = 0 := by unfold iN; rw [if_pos hz]
      omega
    · exact Nat.le_trans (Nat.le_mul_of_pos_left _ (Nat.pos_of_ne_zero hz)) hP
  have CT := tcounts_d (upT k n o c0 ct h) kdHalo
  unfold upT at CT ⊢
  obtain ⟨H, hH⟩ : ∃ H : Nat → List Nat, H = fun b => hal k n o (cN c0) b h := ⟨_, rfl⟩
  have hH2 : ∀ b, hal k n o (cN c0) b h = H b := fun b => by rw [hH]
  rw [← hH] at CT ⊢
  simp only [hH2] at HL hlt hle
  clear hH hH2
  generalize own k n o (cN c0) = wO at *
  have hU0 := upF_0 wO H (iN c0 ct)
  have hUn := fun b => upF_next wO H (iN c0 ct) b
  have hUs := fun b q (hq : q < (H b).length) => upF_step wO H (iN c0 ct) b hq
  have hUb := fun b q (hb : b ≤ 8) => upF_bd wO H (W := iN c0 ct) (q := q) hb (fun b => Nat.le_trans (hle b) hfew) hW
  generalize upF wO H (iN c0 ct) = U at *
  have hsp : spD s n o c0 ct = spO s n o (c0 :: ct) (memN c0) (iN c0 ct) := rfl
  rw [hsp] at B
  have hT := fun b q => tabD_len (U b q)
  have hA := fun b q a (ha : a < 8) (hb : b < 8) => tab_at (U b q) ha hb
  have hZ : tabD (U 0 0) = List.replicate 64 (iD 0) := by rw [hU0]; rfl
  clear hsp hU0 hk hd hc hs
  generalize memN c0 = ml at *
  generalize iN c0 ct = W at *
  generalize cN c0 = R at *
  refine DC.of Try.func82 Try.ntmps82 Try.results82 rfl (by decide +kernel) rfl ?_
  repeat (first | refine Z1 ?_ | refine Z2 ?_ | (refine Z3 ?_; (repeat (first | (apply gS; first | refine go_no ?_ | refine go_f ?_ | refine gx ?_ | refine gm ?_ | refine gp ?_ | refine go_c rfl rfl (B) ?_ | refine go_cF rfl rfl (B) ?_ | refine go_cA rfl rfl (B) ?_) | (apply gZ; first | refine go_f ?_ | refine gx ?_ | refine gm ?_))); refine T_nil ?_) | (apply ZR; (try dsimp only [List.map_cons, List.map_nil]); refine C_dr mixed ?_; (repeat (first | (apply vS; first | refine vn ?_ | refine va ?_ | refine vp ?_ | refine vr ?_ | refine vt ?_ | refine vc (B) ?_ | refine vcF (B) ?_) | (apply vZ; first | refine vs ?_ | refine vw ?_))); refine W_e ?_) | (apply ZK; first | refine Z4 ?_ | refine Z5 ?_) | refine Z6 ?_ | refine Z7 ?_ | refine Z8 ?_ | refine Z9 ?_ | refine ZA ?_ | refine ZB ?_ | refine ZC ?_ | refine ZD ?_ | refine ZE ?_ | refine ZF ?_ | refine ZG ?_ | refine ZH ?_)
  refine C_count o (fun _ => True) (fun b => ⟨3, 62, [(33, iD b), (32, iD o), (10, .ptr 2 0), (8, spO s n o (c0 :: ct) ml W), (2, iD h)], [(2, some ⟨156, 64, 1, tabD (U b 0)⟩)]⟩) ?_ trivial ?_
  · rw [hZ]
    exact Wk.gx (fun b => b)
  · intro b hb _
    by_cases hbl : b < o
    · have C1 := HL b
      have hnx := hUn b
      have l1 := hle b
      have l2 := hlt b
      have us := hUs b
      have ub := fun q => hUb b q (by omega)
      have tA := fun q a ha => hA b q a ha (by omega)
      have tT := hT b
      have hnl : (natsI (H b)).length = (H b).length := by simp [natsI]
      have er : rowI (natsI (H b)) = .row (H b).length (intsD (natsI (H b))) := by show D.row _ _ = _; rw [hnl]
      rw [er] at C1
      clear HL hUn hle hlt hUs hUb hA hT CT er hZ
      generalize H b = l at *
      repeat (first | refine Z1 ?_ | refine Z2 ?_ | (refine Z3 ?_; (repeat (first | (apply gS; first | refine go_no ?_ | refine go_f ?_ | refine gx ?_ | refine gm ?_ | refine gp ?_ | refine go_c rfl rfl (C1) ?_ | refine go_cF rfl rfl (C1) ?_ | refine go_cA rfl rfl (C1) ?_) | (apply gZ; first | refine go_f ?_ | refine gx ?_ | refine gm ?_))); refine T_nil ?_) | (apply ZR; (try dsimp only [List.map_cons, List.map_nil]); refine C_dr mixed ?_; (repeat (first | (apply vS; first | refine vn ?_ | refine va ?_ | refine vp ?_ | refine vr ?_ | refine vt ?_ | refine vc (C1) ?_ | refine vcF (C1) ?_) | (apply vZ; first | refine vs ?_ | refine vw ?_))); refine W_e ?_) | (apply ZK; first | refine Z4 ?_ | refine Z5 ?_) | refine Z6 ?_ | refine Z7 ?_ | refine Z8 ?_ | refine Z9 ?_ | refine ZA ?_ | refine ZB ?_ | refine ZC ?_ | refine ZD ?_ | refine ZE ?_ | refine ZF ?_ | refine ZG ?_ | refine ZH ?_)
      refine C_count l.length (fun _ => True) (fun q => ⟨3, 62, [(41, iD q), (40, iD l.length), (39, .row l.length (intsD (natsI l))), (11, iD b), (33, iD b), (32, iD o), (10, .ptr 2 0), (8, spO s n o (c0 :: ct) ml W), (2, iD h)], [(2, some ⟨156, 64, 1, tabD (U b q)⟩)]⟩) ?_ trivial ?_
      · exact Wk.gx (fun b => b)
      · intro q hq' _
        by_cases hql : q < l.length
        · have hi := l2 _ (List.getElem_mem hql)
          have C2 := hO _ hi
          have w8 := hoL _ hi
          have gl : (natsI l)[q]'(by omega) = ((l[q] : Nat) : Int) := by simp [natsI]
          rw [← gl] at C2
          have y6 := us q hql
          have y1 := tT q
          have y2 := tA q (wO l[q]) (by omega)
          have y3 := (ub q (wO l[q] * 8 + b)).1
          have y4 := (ub q (wO l[q] * 8 + b)).2
          have y7 := tab_set (U b q) (a := wO l[q]) (b := b) (by omega) (by omega) (U b q (wO l[q] * 8 + b) + W)
          rw [← y6] at y7
          clear hO hoL us tT tA ub l2 hnx y6
          generalize U b q (wO l[q] * 8 + b) = v at *
          generalize wO l[q] = a at *
          repeat (first | refine Z1 ?_ | refine Z2 ?_ | (refine Z3 ?_; (repeat (first | (apply gS; first | refine go_no ?_ | refine go_f ?_ | refine gx ?_ | refine gm ?_ | refine gp ?_ | refine go_c rfl rfl (C2) ?_ | refine go_cF rfl rfl (C2) ?_ | refine go_cA rfl rfl (C2) ?_) | (apply gZ; first | refine go_f ?_ | refine gx ?_ | refine gm ?_))); refine T_nil ?_) | (apply ZR; (try dsimp only [List.map_cons, List.map_nil]); refine C_dr mixed ?_; (repeat (first | (apply vS; first | refine vn ?_ | refine va ?_ | refine vp ?_ | refine vr ?_ | refine vt ?_ | refine vc (C2) ?_ | refine vcF (C2) ?_) | (apply vZ; first | refine vs ?_ | refine vw ?_))); refine W_e ?_) | (apply ZK; first | refine Z4 ?_ | refine Z5 ?_) | refine Z6 ?_ | refine Z7 ?_ | refine Z8 ?_ | refine Z9 ?_ | refine ZA ?_ | refine ZB ?_ | refine ZC ?_ | refine ZD ?_ | refine ZE ?_ | refine ZF ?_ | refine ZG ?_ | refine ZH ?_)
          refine kLoop_n ⟨hql, trivial, ?_⟩
          exact Wk.gx (fun b => b)
        · obtain rfl : q = l.length := by omega
          rw [hnx]
          clear hO hoL us tT tA ub l2 hnx
          repeat (first | refine Z1 ?_ | refine Z2 ?_ | (refine Z3 ?_; (repeat (first | (apply gS; first | refine go_no ?_ | refine go_f ?_ | refine gx ?_ | refine gm ?_ | refine gp ?_) | (apply gZ; first | refine go_f ?_ | refine gx ?_ | refine gm ?_))); refine T_nil ?_) | (apply ZR; (try dsimp only [List.map_cons, List.map_nil]); refine C_dr mixed ?_; (repeat (first | (apply vS; first | refine vn ?_ | refine va ?_ | refine vp ?_ | refine vr ?_ | refine vt ?_) | (apply vZ; first | refine vs ?_ | refine vw ?_))); refine W_e ?_) | (apply ZK; first | refine Z4 ?_ | refine Z5 ?_) | refine Z6 ?_ | refine Z7 ?_ | refine Z8 ?_ | refine Z9 ?_ | refine ZA ?_ | refine ZB ?_ | refine ZC ?_ | refine ZD ?_ | refine ZE ?_ | refine ZF ?_ | refine ZG ?_ | refine ZH ?_)
          refine kLoop_n ⟨hbl, trivial, ?_⟩
          exact Wk.gx (fun b => b)
    · obtain rfl : b = o := by omega
      clear hO hoL HL hUn hle hlt hUs hUb hA hT hZ
      repeat (first | refine Z1 ?_ | refine Z2 ?_ | (refine Z3 ?_; (repeat (first | (apply gS; first | refine go_no ?_ | refine go_f ?_ | refine gx ?_ | refine gm ?_ | refine gp ?_ | refine go_c rfl rfl (CT) ?_ | refine go_cF rfl rfl (CT) ?_ | refine go_cA rfl rfl (CT) ?_) | (apply gZ; first | refine go_f ?_ | refine gx ?_ | refine gm ?_))); refine T_nil ?_) | (apply ZR; (try dsimp only [List.map_cons, List.map_nil]); refine C_dr mixed ?_; (repeat (first | (apply vS; first | refine vn ?_ | refine va ?_ | refine vp ?_ | refine vr ?_ | refine vt ?_ | refine vc (CT) ?_ | refine vcF (CT) ?_) | (apply vZ; first | refine vs ?_ | refine vw ?_))); refine W_e ?_) | (apply ZK; first | refine Z4 ?_ | refine Z5 ?_) | refine Z6 ?_ | refine Z7 ?_ | refine Z8 ?_ | refine Z9 ?_ | refine ZA ?_ | refine ZB ?_ | refine ZC ?_ | refine ZD ?_ | refine ZE ?_ | refine ZF ?_ | refine ZG ?_ | refine ZH ?_)
      repeat (first | refine kEnd_m ?_ | refine kEnd_f ?_)
      refine kEnd_g ?_ (by first | exact .inl rfl | exact .inr rfl)
      exact Sub.eq rfl rfl
end Go.Proofs.Ytifapodobhkdcaa
