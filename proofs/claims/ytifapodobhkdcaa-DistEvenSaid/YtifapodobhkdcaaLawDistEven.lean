/- The law DistEven returns true for every input: of block and cyclic no two places own numbers that differ by more than the indexes of one member. -/
import Derived.Test.YtifapodobhkdcaaDs5
import Derived.Test.YtifapodobhkdcaaCameT
namespace Go.Proofs.Ytifapodobhkdcaa.distEven
open Go.RowKit Go.Proofs.Ytifapodobhkdcaa
set_option linter.unusedVariables false
set_option maxHeartbeats 16000000
set_option linter.unusedSimpArgs false
set_option maxRecDepth 100000
theorem loads_even {k : Kd} {n o R W : Nat} (ho : 0 < o) (hk : k = .block ∨ k = .cyclic) {i j : Nat} (hi : i < (loadsL k n o R W).length) (hj : j < (loadsL k n o R W).length) :
    (loadsL k n o R W)[i] - (loadsL k n o R W)[j] ≤ W ∧ 0 ≤ (loadsL k n o R W)[i] ∧ (loadsL k n o R W)[i] ≤ (R * W : Nat) := by
  have hl : (loadsL k n o R W).length = o := loadJ_len _ _ _ _ _ _
  have ge : ∀ i (h : i < (loadsL k n o R W).length), (loadsL k n o R W)[i] = (((cntF (own k n o R) R i) * W : Nat) : Int) := fun i h => by simp [loadsL, loadJ]
  rw [ge i hi, ge j hj]
  have e := even_own (n := n) (R := R) ho hk (p := i) (q := j) (by omega) (by omega)
  rw [ow_cnt, ow_cnt] at e
  have e2 := Nat.mul_le_mul_right W e
  rw [Nat.add_mul, Nat.one_mul] at e2
  have e3 := Nat.mul_le_mul_right W (cntF_le (own k n o R) R i)
  omega
theorem cl_first {r : Rg} {rt : List Rg} {c0 : Rg} {ct : List Rg} (hd : domB (r :: rt) = true) (hc : canonRs (r :: rt) = c0 :: ct) (hz : cnt (r :: rt) ≠ 0) : cN r = cN c0 := by
  rcases cl_canon hd with ⟨h, _⟩ | ⟨_, _, h⟩
  · exact absurd h hz
  · rw [hc] at h
    have : cN c0 :: cl ct = cN r :: cl rt := h
    injection this with a _
    exact a.symm
set_option maxHeartbeats 8000000 in
theorem law_k (k : Kd) (hk : k = .block ∨ k = .cyclic) (over : Int) (b : Bool) (hb : b = decide (k = .cyclic)) (rs : List Rg) : DC Try.prog 10 [iD over, bD b, domD rs] (bD true) := by
  obtain ⟨bl, L7⟩ := large7_d rs
  have RC := rdCount_d rs
  by_cases he : errD (kb k) 0 over rs = 0
  case neg =>
    have L := Load_bad he
    generalize errD (kb k) 0 over rs = e at *
    rcases hk with rfl | rfl
    all_goals
      subst hb
      cases bl
      all_goals
        refine DC.of Try.func10 Try.ntmps10 Try.results10 rfl (by decide +kernel) rfl ?_
        repeat (first | refine Z1 ?_ | refine Z2 ?_ | (refine Z3 ?_; (repeat (first | (apply gS; first | refine go_no ?_ | refine go_f ?_ | refine gx ?_ | refine gm ?_ | refine gp ?_ | refine go_c rfl rfl (L) ?_ | refine go_cF rfl rfl (L) ?_ | refine go_cA rfl rfl (L) ?_ | refine go_c rfl rfl (L7) ?_ | refine go_cF rfl rfl (L7) ?_ | refine go_cA rfl rfl (L7) ?_ | refine go_c rfl rfl (first7_d) ?_ | refine go_cF rfl rfl (first7_d) ?_ | refine go_cA rfl rfl (first7_d) ?_) | (apply gZ; first | refine go_f ?_ | refine gx ?_ | refine gm ?_))); refine T_nil ?_) | (apply ZR; (try dsimp only [List.map_cons, List.map_nil]); refine C_dr mixed ?_; (repeat (first | (apply vS; first | refine vn ?_ | refine va ?_ | refine vp ?_ | refine vr ?_ | refine vt ?_ | refine vc (L) ?_ | refine vcF (L) ?_ | refine vc (L7) ?_ | refine vcF (L7) ?_ | refine vc (first7_d) ?_ | refine vcF (first7_d) ?_) | (apply vZ; first | refine vs ?_ | refine vw ?_))); refine W_e ?_) | (apply ZK; first | refine Z4 ?_ | refine Z5 ?_) | refine Z6 ?_ | refine Z7 ?_ | refine Z8 ?_ | refine Z9 ?_ | refine ZA ?_ | refine ZB ?_ | refine ZC ?_ | refine ZD ?_ | refine ZE ?_ | refine ZF ?_ | refine ZG ?_ | refine ZH ?_)
        repeat (first | refine kEnd_m ?_ | refine kEnd_f ?_)
        refine kEnd_g ?_ (by first | exact .inl rfl | exact .inr rfl)
        exact Sub.eq rfl rfl
  obtain ⟨hv, hd⟩ := errD_ok he
  obtain ⟨k', a, o, ha, ho, hok⟩ := vdB_ok hv
  obtain rfl : k' = k := by
    have := hok.eq
    obtain ⟨n1, n2, n3, n4, n5, n6⟩ := kL_ne
    rcases hk with rfl | rfl <;> cases k' <;> first | rfl | (exfalso; first | exact n1 this.symm | exact n1 this | exact n2 this | exact n2 this.symm | exact n4 this | exact n4 this.symm | exact n5 this | exact n5 this.symm | exact n6 this | exact n6 this.symm)
  have ha0 : a = 0 := by omega
  subst ha0
  subst ho
  obtain ⟨c0, ct, hc, hs⟩ := canon_sp hd
  have L := Load_ok hok hd hc hs
  rw [show ((0 : Nat) : Int) = 0 from rfl] at L
  have h1 := hok.ok.o1
  have h8 := hok.ok.o8
  have hE := fun i j hi hj => loads_even (n := 0) (R := cN c0) (W := iN c0 ct) (o := o) (by omega) hk (i := i) (j := j) hi hj
  have hP : cN c0 * iN c0 ct ≤ 4096 := by rw [iN_mul]; exact (domB_iff.1 hs.dom).2.2
  have hll : (loadsL k' 0 o (cN c0) (iN c0 ct)).length = o := loadJ_len _ _ _ _ _ _
  rw [show dCountRes rs = (((cnt rs : Nat) : Int), 0) from if_pos hd] at RC
  dsimp only at RC
  have hcnt : cnt rs = cN c0 * iN c0 ct := (canon_cnt hd hc).2.1
  generalize hLL : loadsL k' 0 o (cN c0) (iN c0 ct) = LL at *
  clear hLL he hv
  cases bl
  case true =>
    rcases hk with rfl | rfl
    all_goals
      subst hb
      refine DC.of Try.func10 Try.ntmps10 Try.results10 rfl (by decide +kernel) rfl ?_
      repeat (first | refine Z1 ?_ | refine Z2 ?_ | (refine Z3 ?_; (repeat (first | (apply gS; first | refine go_no ?_ | refine go_f ?_ | refine gx ?_ | refine gm ?_ | refine gp ?_ | refine go_c rfl rfl (L) ?_ | refine go_cF rfl rfl (L) ?_ | refine go_cA rfl rfl (L) ?_ | refine go_c rfl rfl (L7) ?_ | refine go_cF rfl rfl (L7) ?_ | refine go_cA rfl rfl (L7) ?_ | refine go_c rfl rfl (first7_d) ?_ | refine go_cF rfl rfl (first7_d) ?_ | refine go_cA rfl rfl (first7_d) ?_) | (apply gZ; first | refine go_f ?_ | refine gx ?_ | refine gm ?_))); refine T_nil ?_) | (apply ZR; (try dsimp only [List.map_cons, List.map_nil]); refine C_dr mixed ?_; (repeat (first | (apply vS; first | refine vn ?_ | refine va ?_ | refine vp ?_ | refine vr ?_ | refine vt ?_ | refine vc (L) ?_ | refine vcF (L) ?_ | refine vc (L7) ?_ | refine vcF (L7) ?_ | refine vc (first7_d) ?_ | refine vcF (first7_d) ?_) | (apply vZ; first | refine vs ?_ | refine vw ?_))); refine W_e ?_) | (apply ZK; first | refine Z4 ?_ | refine Z5 ?_) | refine Z6 ?_ | refine Z7 ?_ | refine Z8 ?_ | refine Z9 ?_ | refine ZA ?_ | refine ZB ?_ | refine ZC ?_ | refine ZD ?_ | refine ZE ?_ | refine ZF ?_ | refine ZG ?_ | refine ZH ?_)
      repeat (first | refine kEnd_m ?_ | refine kEnd_f ?_)
      refine kEnd_g ?_ (by first | exact .inl rfl | exact .inr rfl)
      exact Sub.eq rfl rfl
  by_cases hz : cnt rs = 0
  · rw [hz] at RC
    rcases hk with rfl | rfl
    all_goals
      subst hb
      refine DC.of Try.func10 Try.ntmps10 Try.results10 rfl (by decide +kernel) rfl ?_
      repeat (first | refine Z1 ?_ | refine Z2 ?_ | (refine Z3 ?_; (repeat (first | (apply gS; first | refine go_no ?_ | refine go_f ?_ | refine gx ?_ | refine gm ?_ | refine gp ?_ | refine go_c rfl rfl (L) ?_ | refine go_cF rfl rfl (L) ?_ | refine go_cA rfl rfl (L) ?_ | refine go_c rfl rfl (L7) ?_ | refine go_cF rfl rfl (L7) ?_ | refine go_cA rfl rfl (L7) ?_ | refine go_c rfl rfl (RC) ?_ | refine go_cF rfl rfl (RC) ?_ | refine go_cA rfl rfl (RC) ?_ | refine go_c rfl rfl (first7_d) ?_ | refine go_cF rfl rfl (first7_d) ?_ | refine go_cA rfl rfl (first7_d) ?_) | (apply gZ; first | refine go_f ?_ | refine gx ?_ | refine gm ?_))); refine T_nil ?_) | (apply ZR; (try dsimp only [List.map_cons, List.map_nil]); refine C_dr mixed ?_; (repeat (first | (apply vS; first | refine vn ?_ | refine va ?_ | refine vp ?_ | refine vr ?_ | refine vt ?_ | refine vc (L) ?_ | refine vcF (L) ?_ | refine vc (L7) ?_ | refine vcF (L7) ?_ | refine vc (RC) ?_ | refine vcF (RC) ?_ | refine vc (first7_d) ?_ | refine vcF (first7_d) ?_) | (apply vZ; first | refine vs ?_ | refine vw ?_))); refine W_e ?_) | (apply ZK; first | refine Z4 ?_ | refine Z5 ?_) | refine Z6 ?_ | refine Z7 ?_ | refine Z8 ?_ | refine Z9 ?_ | refine ZA ?_ | refine ZB ?_ | refine ZC ?_ | refine ZD ?_ | refine ZE ?_ | refine ZF ?_ | refine ZG ?_ | refine ZH ?_)
      repeat (first | refine kEnd_m ?_ | refine kEnd_f ?_)
      refine kEnd_g ?_ (by first | exact .inl rfl | exact .inr rfl)
      exact Sub.eq rfl rfl
  obtain ⟨r, rt, rfl⟩ : ∃ r rt, rs = r :: rt := by
    cases rs with
    | nil => have := (domB_iff.1 hd).1.1; simp at this
    | cons r rt => exact ⟨r, rt, rfl⟩
  have C3 := rCount_ok ((domB_iff.1 hd).2.1 r (by simp))
  have hcr := cl_first hd hc hz
  have hR0 : 0 < cN r := Nat.pos_of_ne_zero fun e => hz (by rw [hcnt, ← hcr, e, Nat.zero_mul])
  have hq : ((cnt (r :: rt) : Nat) : Int).tdiv (cN r : Nat) = (iN c0 ct : Nat) := by
    rw [hcnt, ← hcr, ← Int.ofNat_tdiv, Nat.mul_div_cancel_left _ hR0]
  have hcb : cnt (r :: rt) ≤ 4096 := by rw [hcnt]; exact hP
  have hlen0 : 0 < (r :: rt).length := by simp
  rw [← hcnt] at hE
  clear hcnt hP hd hc hs hok
  generalize iN c0 ct = W at *
  generalize cN r = R at *
  generalize cnt (r :: rt) = n at *
  rcases hk with rfl | rfl
  all_goals
    subst hb
    refine DC.of Try.func10 Try.ntmps10 Try.results10 rfl (by decide +kernel) rfl ?_
    repeat (first | refine Z1 ?_ | refine Z2 ?_ | (refine Z3 ?_; (repeat (first | (apply gS; first | refine go_no ?_ | refine go_f ?_ | refine gx ?_ | refine gm ?_ | refine gp ?_ | refine go_c rfl rfl (L) ?_ | refine go_cF rfl rfl (L) ?_ | refine go_cA rfl rfl (L) ?_ | refine go_c rfl rfl (L7) ?_ | refine go_cF rfl rfl (L7) ?_ | refine go_cA rfl rfl (L7) ?_ | refine go_c rfl rfl (RC) ?_ | refine go_cF rfl rfl (RC) ?_ | refine go_cA rfl rfl (RC) ?_ | refine go_c rfl rfl (first7_d) ?_ | refine go_cF rfl rfl (first7_d) ?_ | refine go_cA rfl rfl (first7_d) ?_ | refine go_c rfl rfl (C3) ?_ | refine go_cF rfl rfl (C3) ?_ | refine go_cA rfl rfl (C3) ?_) | (apply gZ; first | refine go_f ?_ | refine gx ?_ | refine gm ?_))); refine T_nil ?_) | (apply ZR; (try dsimp only [List.map_cons, List.map_nil]); refine C_dr mixed ?_; (repeat (first | (apply vS; first | refine vn ?_ | refine va ?_ | refine vp ?_ | refine vr ?_ | refine vt ?_ | refine vc (L) ?_ | refine vcF (L) ?_ | refine vc (L7) ?_ | refine vcF (L7) ?_ | refine vc (RC) ?_ | refine vcF (RC) ?_ | refine vc (first7_d) ?_ | refine vcF (first7_d) ?_ | refine vc (C3) ?_ | refine vcF (C3) ?_) | (apply vZ; first | refine vs ?_ | refine vw ?_))); refine W_e ?_) | (apply ZK; first | refine Z4 ?_ | refine Z5 ?_) | refine Z6 ?_ | refine Z7 ?_ | refine Z8 ?_ | refine Z9 ?_ | refine ZA ?_ | refine ZB ?_ | refine ZC ?_ | refine ZD ?_ | refine ZE ?_ | refine ZF ?_ | refine ZG ?_ | refine ZH ?_)
    refine C_count LL.length (fun _ => True) (fun i => ⟨2, 75, [(14, iD i), (8, rowI LL), (10, iD n), (12, iD R)], []⟩) ?_ trivial ?_
    · exact Wk.gx (fun b => b)
    · intro i hi _
      by_cases hlt : i < LL.length
      · repeat (first | refine Z1 ?_ | refine Z2 ?_ | (refine Z3 ?_; (repeat (first | (apply gS; first | refine go_no ?_ | refine go_f ?_ | refine gx ?_ | refine gm ?_ | refine gp ?_) | (apply gZ; first | refine go_f ?_ | refine gx ?_ | refine gm ?_))); refine T_nil ?_) | (apply ZR; (try dsimp only [List.map_cons, List.map_nil]); refine C_dr mixed ?_; (repeat (first | (apply vS; first | refine vn ?_ | refine va ?_ | refine vp ?_ | refine vr ?_ | refine vt ?_) | (apply vZ; first | refine vs ?_ | refine vw ?_))); refine W_e ?_) | (apply ZK; first | refine Z4 ?_ | refine Z5 ?_) | refine Z6 ?_ | refine Z7 ?_ | refine Z8 ?_ | refine Z9 ?_ | refine ZA ?_ | refine ZB ?_ | refine ZC ?_ | refine ZD ?_ | refine ZE ?_ | refine ZF ?_ | refine ZG ?_ | refine ZH ?_)
        refine C_count LL.length (fun _ => True) (fun j => ⟨2, 75, [(15, iD j), (14, iD i), (8, rowI LL), (10, iD n), (12, iD R)], []⟩) ?_ trivial ?_
        · exact Wk.gx (fun b => b)
        · intro j hj _
          by_cases hjl : j < LL.length
          · obtain ⟨x1, x2, x3⟩ := hE i j hlt hjl
            obtain ⟨_, x4, x5⟩ := hE j i hjl hlt
            repeat (first | refine Z1 ?_ | refine Z2 ?_ | (refine Z3 ?_; (repeat (first | (apply gS; first | refine go_no ?_ | refine go_f ?_ | refine gx ?_ | refine gm ?_ | refine gp ?_) | (apply gZ; first | refine go_f ?_ | refine gx ?_ | refine gm ?_))); refine T_nil ?_) | (apply ZR; (try dsimp only [List.map_cons, List.map_nil]); refine C_dr mixed ?_; (repeat (first | (apply vS; first | refine vn ?_ | refine va ?_ | refine vp ?_ | refine vr ?_ | refine vt ?_) | (apply vZ; first | refine vs ?_ | refine vw ?_))); refine W_e ?_) | (apply ZK; first | refine Z4 ?_ | refine Z5 ?_) | refine Z6 ?_ | refine Z7 ?_ | refine Z8 ?_ | refine Z9 ?_ | refine ZA ?_ | refine ZB ?_ | refine ZC ?_ | refine ZD ?_ | refine ZE ?_ | refine ZF ?_ | refine ZG ?_ | refine ZH ?_)
            refine kLoop_n ⟨hjl, trivial, ?_⟩
            exact Wk.gx (fun b => b)
          · repeat (first | refine Z1 ?_ | refine Z2 ?_ | (refine Z3 ?_; (repeat (first | (apply gS; first | refine go_no ?_ | refine go_f ?_ | refine gx ?_ | refine gm ?_ | refine gp ?_) | (apply gZ; first | refine go_f ?_ | refine gx ?_ | refine gm ?_))); refine T_nil ?_) | (apply ZR; (try dsimp only [List.map_cons, List.map_nil]); refine C_dr mixed ?_; (repeat (first | (apply vS; first | refine vn ?_ | refine va ?_ | refine vp ?_ | refine vr ?_ | refine vt ?_) | (apply vZ; first | refine vs ?_ | refine vw ?_))); refine W_e ?_) | (apply ZK; first | refine Z4 ?_ | refine Z5 ?_) | refine Z6 ?_ | refine Z7 ?_ | refine Z8 ?_ | refine Z9 ?_ | refine ZA ?_ | refine ZB ?_ | refine ZC ?_ | refine ZD ?_ | refine ZE ?_ | refine ZF ?_ | refine ZG ?_ | refine ZH ?_)
            refine kLoop_n ⟨hlt, trivial, ?_⟩
            exact Wk.gx (fun b => b)
      · repeat (first | refine Z1 ?_ | refine Z2 ?_ | (refine Z3 ?_; (repeat (first | (apply gS; first | refine go_no ?_ | refine go_f ?_ | refine gx ?_ | refine gm ?_ | refine gp ?_ | refine go_c rfl rfl (first7_d) ?_ | refine go_cF rfl rfl (first7_d) ?_ | refine go_cA rfl rfl (first7_d) ?_) | (apply gZ; first | refine go_f ?_ | refine gx ?_ | refine gm ?_))); refine T_nil ?_) | (apply ZR; (try dsimp only [List.map_cons, List.map_nil]); refine C_dr mixed ?_; (repeat (first | (apply vS; first | refine vn ?_ | refine va ?_ | refine vp ?_ | refine vr ?_ | refine vt ?_ | refine vc (first7_d) ?_ | refine vcF (first7_d) ?_) | (apply vZ; first | refine vs ?_ | refine vw ?_))); refine W_e ?_) | (apply ZK; first | refine Z4 ?_ | refine Z5 ?_) | refine Z6 ?_ | refine Z7 ?_ | refine Z8 ?_ | refine Z9 ?_ | refine ZA ?_ | refine ZB ?_ | refine ZC ?_ | refine ZD ?_ | refine ZE ?_ | refine ZF ?_ | refine ZG ?_ | refine ZH ?_)
        repeat (first | refine kEnd_m ?_ | refine kEnd_f ?_)
        refine kEnd_g ?_ (by first | exact .inl rfl | exact .inr rfl)
        exact Sub.eq rfl rfl
theorem law_d (over : Int) (b : Bool) (rs : List Rg) : DC Try.prog 10 [iD over, bD b, domD rs] (bD true) := by
  cases b
  · exact law_k .block (.inl rfl) over false rfl rs
  · exact law_k .cyclic (.inr rfl) over true rfl rs
theorem walk {w : World} (over : Int) (b : Bool) (v : Value) (rs : List Rg) (rc : RC (fun b => b < w.heap.size) w (domD rs) v) : Calls Try.prog 10 #[.int .i64 over, .bool b, v] w fun e w' => e = .returned (.bool true) ∧ Below w.heap.size w w' :=
  DC.law (law_d over b rs) (.cons (.int _ _ over) (.cons (.val _ rfl) (.cons rc .nil)))
end Go.Proofs.Ytifapodobhkdcaa.distEven
