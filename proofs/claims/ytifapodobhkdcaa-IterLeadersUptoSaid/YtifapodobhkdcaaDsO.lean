/- The reference of layer 7: Owner, by the abstract machine. -/
import Derived.Test.YtifapodobhkdcaaDs6
namespace Go.Proofs.Ytifapodobhkdcaa
open Go.RowKit
set_option linter.unusedVariables false
set_option maxHeartbeats 16000000
set_option linter.unusedSimpArgs false
set_option maxRecDepth 100000
theorem rPlace_ok {r : Rg} (hv : vB r = true) {y : Int} (h : placeB (rowOf r) y = true) : DC Try.prog 133 [rD r, iD y] (.tup [iD ((placeI (rowOf r) y).toNat : Nat), iD 0]) := by
  have H := rPlaceP_d r y
  obtain ⟨a, b, c⟩ := at_place h
  have nr := at_near (vB_ok' hv) a (by omega)
  rw [c] at nr
  rw [show placeRes r y = (placeI (rowOf r) y, 0) by unfold placeRes; rw [if_pos hv, if_pos nr, if_pos h]] at H
  rw [Int.toNat_of_nonneg a]
  exact H
/-! ### Owner -/
theorem in_can {rs : List Rg} {c0 : Rg} {ct : List Rg} (hd : domB rs = true) (hc : canonRs rs = c0 :: ct) (hs : SpOk c0 ct) (x : List Int) : inB rs x = inB (c0 :: ct) x ∧ (inB rs x = true → placeV rs x 0 = placeV (c0 :: ct) x 0) := by
  obtain ⟨_, hv, _⟩ := domB_iff.1 hd
  obtain ⟨_, hv0, _⟩ := domB_iff.1 hs.dom
  obtain ⟨e1, e2, e3⟩ := canon_cnt hd hc
  have p1 := place_iff (xs := x) hv
  have p2 := place_iff (xs := x) hv0
  rw [← iN_mul] at p2
  rw [e2] at p1
  have key1 : inB rs x = true → inB (c0 :: ct) x = true ∧ placeV (c0 :: ct) x 0 = placeV rs x 0 := fun h => by
    obtain ⟨a, b⟩ := p1.1 h
    exact p2.2 _ a (by rw [← ith_can hd hc a]; exact b)
  have key2 : inB (c0 :: ct) x = true → inB rs x = true := fun h => by
    obtain ⟨a, b⟩ := p2.1 h
    exact (p1.2 _ a (by rw [ith_can hd hc a]; exact b)).1
  refine ⟨?_, fun h => (key1 h).2.symm⟩
  cases h : inB rs x with
  | true => exact (key1 h).1.symm
  | false =>
    cases h2 : inB (c0 :: ct) x with
    | true => rw [key2 h2] at h; cases h
    | false => rfl
/-- the place of an index's first number is its place by the others' many -/
theorem place_first {r : Rg} {rt : List Rg} {y : Int} {xt : List Int} (hv : ∀ q ∈ r :: rt, vB q = true) (h : inB (r :: rt) (y :: xt) = true) : placeB (rowOf r) y = true ∧ (placeI (rowOf r) y).toNat < cN r ∧ placeV (r :: rt) (y :: xt) 0 / prodN (cl rt) = (placeI (rowOf r) y).toNat ∧ 0 < prodN (cl rt) := by
  have h1 : (placeB (rowOf r) y && inB rt xt) = true := h
  rw [Bool.and_eq_true] at h1
  obtain ⟨a, b⟩ := place_lt (hv r (by simp)) h1.1
  obtain ⟨v, v1, v2, v3⟩ := placeV_ok (rs := rt) (xs := xt) (0 * cN r + (placeI (rowOf r) y).toNat) (fun q hq => hv q (by simp [hq])) h1.2
  have e : placeV (r :: rt) (y :: xt) 0 = placeV rt xt (0 * cN r + (placeI (rowOf r) y).toNat) := rfl
  refine ⟨h1.1, a, ?_, by omega⟩
  rw [e, v1, Nat.zero_mul, Nat.zero_add, Nat.mul_comm, Nat.mul_add_div (by omega), Nat.div_eq_of_lt v2, Nat.add_zero]
theorem rOwner7_bad {s : ByteArray} {n o : Int} {rs : List Rg} (h : errD s n o rs ≠ 0) (x : List Int) : DC Try.prog 60 [dsD s n o, domD rs, rowI x] (.tup [iD 0, iD (errD s n o rs)]) := by
  have V := rvalid7_d s n o rs
  generalize errD s n o rs = e at *
  refine DC.of Try.func60 Try.ntmps60 Try.results60 rfl (by decide +kernel) rfl ?_
  repeat (first | refine Z1 ?_ | refine Z2 ?_ | (refine Z3 ?_; (repeat (first | (apply gS; first | refine go_f ?_ | refine gx ?_ | refine gm ?_ | refine gp ?_ | refine go_c rfl rfl (V) ?_ | refine go_cF rfl rfl (V) ?_ | refine go_cA rfl rfl (V) ?_))); refine T_nil ?_) | (apply ZR; (try dsimp only [List.map_cons, List.map_nil]); refine C_dr mixed ?_; (repeat (first | (apply vS; first | refine va ?_ | refine vp ?_ | refine vr ?_ | refine vt ?_ | refine vc (V) ?_ | refine vcF (V) ?_))); refine W_e ?_) | (apply ZK; first | refine Z4 ?_ | refine Z5 ?_) | refine Z6 ?_ | refine Z7 ?_ | refine ZF ?_)
  repeat (first | refine kEnd_m ?_ | refine kEnd_f ?_)
  refine kEnd_g ?_ (by first | exact .inl rfl | exact .inr rfl)
  exact Sub.eq rfl rfl
theorem rOwner7_d {s : ByteArray} {k : Kd} {n o : Nat} (hk : Okd s k n o) {rs : List Rg} {c0 : Rg} {ct : List Rg} (hd : domB rs = true) (hc : canonRs rs = c0 :: ct) (hs : SpOk c0 ct) (x : List Int) :
    DC Try.prog 60 [dsD s n o, domD rs, rowI x] (.tup [iD (ownV k n o c0 ct x), iD (findRes c0 ct x).2]) := by
  have V := rvalid7_d s n o rs
  rw [errD_0 hk hd] at V
  have H := rdHas_d rs x
  have RW := rrows7_d hd hc hs
  obtain ⟨e1, e2, e3⟩ := canon_cnt hd hc
  obtain ⟨ic, ip⟩ := in_can hd hc hs x
  have hfew := hs.few
  by_cases hl : x.length = rs.length
  case neg =>
    have hfr : findRes c0 ct x = (0, 2) := by unfold findRes; rw [← e3, if_neg hl]
    have hov : ownV k n o c0 ct x = 0 := by unfold ownV; rw [hfr]; exact if_neg (by decide)
    rw [hov, hfr]
    have hl' : ¬ (x.length : Int) = rs.length := by omega
    refine DC.of Try.func60 Try.ntmps60 Try.results60 rfl (by decide +kernel) rfl ?_
    repeat (first | refine Z1 ?_ | refine Z2 ?_ | (refine Z3 ?_; (repeat (first | (apply gS; first | refine go_f ?_ | refine gx ?_ | refine gm ?_ | refine gp ?_ | refine go_c rfl rfl (V) ?_ | refine go_cF rfl rfl (V) ?_ | refine go_cA rfl rfl (V) ?_))); refine T_nil ?_) | (apply ZR; (try dsimp only [List.map_cons, List.map_nil]); refine C_dr mixed ?_; (repeat (first | (apply vS; first | refine va ?_ | refine vp ?_ | refine vr ?_ | refine vt ?_ | refine vc (V) ?_ | refine vcF (V) ?_))); refine W_e ?_) | (apply ZK; first | refine Z4 ?_ | refine Z5 ?_) | refine Z6 ?_ | refine Z7 ?_ | refine ZF ?_)
    repeat (first | refine kEnd_m ?_ | refine kEnd_f ?_)
    refine kEnd_g ?_ (by first | exact .inl rfl | exact .inr rfl)
    exact Sub.eq rfl rfl
  have hl' : (x.length : Int) = rs.length := by omega
  have hH : dHasRes rs x = (inB rs x, 0) := by
    unfold dHasRes
    rw [if_pos hd, if_pos hl]
  rw [hH] at H
  dsimp only at H
  cases hb : inB rs x with
  | false =>
    rw [hb] at H
    have hfr : findRes c0 ct x = (0, 5) := by
      unfold findRes
      rw [← e3, if_pos hl, ← ic, hb]; exact if_neg (by decide)
    have hov : ownV k n o c0 ct x = 0 := by unfold ownV; rw [hfr]; exact if_neg (by decide)
    rw [hov, hfr]
    clear ip hH
    refine DC.of Try.func60 Try.ntmps60 Try.results60 rfl (by decide +kernel) rfl ?_
    repeat (first | refine Z1 ?_ | refine Z2 ?_ | (refine Z3 ?_; (repeat (first | (apply gS; first | refine go_f ?_ | refine gx ?_ | refine gm ?_ | refine gp ?_ | refine go_c rfl rfl (V) ?_ | refine go_cF rfl rfl (V) ?_ | refine go_cA rfl rfl (V) ?_ | refine go_c rfl rfl (H) ?_ | refine go_cF rfl rfl (H) ?_ | refine go_cA rfl rfl (H) ?_))); refine T_nil ?_) | (apply ZR; (try dsimp only [List.map_cons, List.map_nil]); refine C_dr mixed ?_; (repeat (first | (apply vS; first | refine va ?_ | refine vp ?_ | refine vr ?_ | refine vt ?_ | refine vc (V) ?_ | refine vcF (V) ?_ | refine vc (H) ?_ | refine vcF (H) ?_))); refine W_e ?_) | (apply ZK; first | refine Z4 ?_ | refine Z5 ?_) | refine Z6 ?_ | refine Z7 ?_ | refine ZF ?_)
    repeat (first | refine kEnd_m ?_ | refine kEnd_f ?_)
    refine kEnd_g ?_ (by first | exact .inl rfl | exact .inr rfl)
    exact Sub.eq rfl rfl
  | true =>
    rw [hb] at H
    have ip := ip hb
    have hfr : findRes c0 ct x = (placeV rs x 0 / iN c0 ct, 0) := by
      unfold findRes
      rw [← e3, if_pos hl, ← ic, hb, if_pos rfl, ip]
    have hov : ownV k n o c0 ct x = own k n o (cN c0) (placeV rs x 0 / iN c0 ct) := by unfold ownV; rw [hfr]; rfl
    rw [hov, hfr]
    have hz : cN c0 ≠ 0 := fun e => by
      obtain ⟨a, _⟩ := (place_iff (xs := x) (domB_iff.1 hd).2.1).1 hb
      rw [e2, e, Nat.zero_mul] at a; omega
    obtain ⟨r, rt, rfl⟩ := rs_cons hd
    obtain ⟨y, xt, rfl⟩ : ∃ y xt, x = y :: xt := by
      cases x with
      | nil => simp at hl
      | cons y xt => exact ⟨y, xt, rfl⟩
    obtain ⟨c1, c2, c3, c4⟩ := cn_first hd hc hz
    have hv := (domB_iff.1 hd).2.1
    obtain ⟨q1, q2, q3, q4⟩ := place_first hv hb
    have hiN : iN c0 ct = prodN (cl rt) := by unfold iN; rw [if_neg hz, c4]
    rw [hiN, q3]
    have P := rPlace_ok (hv r (by simp)) q1
    have O := rowner7_d hk (i := (placeI (rowOf r) y).toNat) (R := cN c0) (by omega) (by omega)
    have hlen0 : 0 < (r :: rt).length := by simp
    have hlen1 : 0 < (y :: xt).length := by simp
    clear ip ic hH hb q3 q4 hiN c1 c2 c3 c4 hfr hov
    generalize own k n o (cN c0) (placeI (rowOf r) y).toNat = w at *
    generalize (placeI (rowOf r) y).toNat = i at *
    refine DC.of Try.func60 Try.ntmps60 Try.results60 rfl (by decide +kernel) rfl ?_
    repeat (first | refine Z1 ?_ | refine Z2 ?_ | (refine Z3 ?_; (repeat (first | (apply gS; first | refine go_f ?_ | refine gx ?_ | refine gm ?_ | refine gp ?_ | refine go_c rfl rfl (V) ?_ | refine go_cF rfl rfl (V) ?_ | refine go_cA rfl rfl (V) ?_ | refine go_c rfl rfl (H) ?_ | refine go_cF rfl rfl (H) ?_ | refine go_cA rfl rfl (H) ?_ | refine go_c rfl rfl (P) ?_ | refine go_cF rfl rfl (P) ?_ | refine go_cA rfl rfl (P) ?_ | refine go_c rfl rfl (RW) ?_ | refine go_cF rfl rfl (RW) ?_ | refine go_cA rfl rfl (RW) ?_ | refine go_c rfl rfl (O) ?_ | refine go_cF rfl rfl (O) ?_ | refine go_cA rfl rfl (O) ?_))); refine T_nil ?_) | (apply ZR; (try dsimp only [List.map_cons, List.map_nil]); refine C_dr mixed ?_; (repeat (first | (apply vS; first | refine va ?_ | refine vp ?_ | refine vr ?_ | refine vt ?_ | refine vc (V) ?_ | refine vcF (V) ?_ | refine vc (H) ?_ | refine vcF (H) ?_ | refine vc (P) ?_ | refine vcF (P) ?_ | refine vc (RW) ?_ | refine vcF (RW) ?_ | refine vc (O) ?_ | refine vcF (O) ?_))); refine W_e ?_) | (apply ZK; first | refine Z4 ?_ | refine Z5 ?_) | refine Z6 ?_ | refine Z7 ?_ | refine ZF ?_)
    repeat (first | refine kEnd_m ?_ | refine kEnd_f ?_)
    refine kEnd_g ?_ (by first | exact .inl rfl | exact .inr rfl)
    exact Sub.eq rfl rfl
end Go.Proofs.Ytifapodobhkdcaa
