/- Load of package dist; where an index stands; First and Large of the laws, by the abstract machine. -/
import Derived.Test.YtifapodobhkdcaaDsLaw2
namespace Go.Proofs.Ytifapodobhkdcaa
open Go.RowKit
set_option linter.unusedVariables false
set_option maxHeartbeats 16000000
set_option linter.unusedSimpArgs false
set_option maxRecDepth 100000
set_option maxHeartbeats 8000000 in
theorem piece_d {s : ByteArray} {k : Kd} {n o : Nat} (hk : Okd s k n o) (c0 : Rg) (ct : List Rg) (ml : List Int) (inn : Nat) (hct : ct.length ≤ 10) (hm : ml.length ≤ 4096) (hb : ∀ j (h : j < ml.length), -1000000 ≤ ml[j] ∧ ml[j] ≤ 1000000) (p : Nat)
    (gs : List (List Nat)) (hr : Runs (tgOf k n ml) (ow k n o ml.length p) gs) : DC Try.prog 145 [spO s n o (c0 :: ct) ml inn, iD p] (chD p (gs.map (partC ct ml))) := by
  have OW := owned_d hk (c0 :: ct) ml inn p hm
  have hlt := ow_lt (k := k) (n := n) (o := o) (R := ml.length) (p := p)
  have hle := ow_len k n o ml.length p
  generalize ow k n o ml.length p = l at *
  obtain ⟨h1, h2, h3, h4, h5⟩ := hk.ok
  by_cases hkb : k = .blocks
  · have hq : s.toList = (kb .blocks).toList := by rw [hk.eq, hkb]
    have hn := h3 hkb
    rw [tgOf, if_pos hkb] at hr
    have PS := spParts_d s n o c0 ct ml inn hct l hlt (by omega) hm 178 [] [.obj [spO s n o (c0 :: ct) ml inn]] rfl (blockB n) gs hr
      (fun part i a b c d => blockB_d s n o (c0 :: ct) ml inn part i a (by omega) (fun j hj => by have := c j hj; omega) (by omega))
    generalize gs.map (partC ct ml) = out at *
    refine DC.of Try.func145 Try.ntmps145 Try.results145 rfl (by decide +kernel) rfl ?_
    repeat (first | refine Z1 ?_ | refine Z2 ?_ | (refine Z3 ?_; (repeat (first | (apply gS; first | refine go_f ?_ | refine gx ?_ | refine gm ?_ | refine gp ?_ | refine go_c rfl rfl (OW) ?_ | refine go_cF rfl rfl (OW) ?_ | refine go_cA rfl rfl (OW) ?_ | refine go_c rfl rfl (PS) ?_ | refine go_cF rfl rfl (PS) ?_ | refine go_cA rfl rfl (PS) ?_) | (apply gZ; first | refine go_f ?_ | refine gx ?_ | refine gm ?_))); refine T_nil ?_) | (apply ZR; (try dsimp only [List.map_cons, List.map_nil]); refine C_dr mixed ?_; (repeat (first | (apply vS; first | refine va ?_ | refine vp ?_ | refine vr ?_ | refine vt ?_ | refine vc (OW) ?_ | refine vcF (OW) ?_ | refine vc (PS) ?_ | refine vcF (PS) ?_) | (apply vZ; first | refine vs ?_ | refine vw ?_))); refine W_e ?_) | (apply ZK; first | refine Z4 ?_ | refine Z5 ?_) | refine Z6 ?_ | refine Z7 ?_ | refine ZF ?_)
    repeat (first | refine kEnd_m ?_ | refine kEnd_f ?_)
    refine kEnd_g ?_ (by first | exact .inl rfl | exact .inr rfl)
    exact Sub.eq rfl rfl
  · have hq := (okd_ne hk).2.2.2 hkb
    rw [tgOf, if_neg hkb] at hr
    have PS := spParts_d s n o c0 ct ml inn hct l hlt (by omega) hm 177 [spO s n o (c0 :: ct) ml inn] [] rfl (chainB ml) gs hr
      (fun part i a b c d => chain_d s n o (c0 :: ct) ml inn hb part i a c d b)
    generalize gs.map (partC ct ml) = out at *
    refine DC.of Try.func145 Try.ntmps145 Try.results145 rfl (by decide +kernel) rfl ?_
    repeat (first | refine Z1 ?_ | refine Z2 ?_ | (refine Z3 ?_; (repeat (first | (apply gS; first | refine go_f ?_ | refine gx ?_ | refine gm ?_ | refine gp ?_ | refine go_c rfl rfl (OW) ?_ | refine go_cF rfl rfl (OW) ?_ | refine go_cA rfl rfl (OW) ?_ | refine go_c rfl rfl (PS) ?_ | refine go_cF rfl rfl (PS) ?_ | refine go_cA rfl rfl (PS) ?_) | (apply gZ; first | refine go_f ?_ | refine gx ?_ | refine gm ?_))); refine T_nil ?_) | (apply ZR; (try dsimp only [List.map_cons, List.map_nil]); refine C_dr mixed ?_; (repeat (first | (apply vS; first | refine va ?_ | refine vp ?_ | refine vr ?_ | refine vt ?_ | refine vc (OW) ?_ | refine vcF (OW) ?_ | refine vc (PS) ?_ | refine vcF (PS) ?_) | (apply vZ; first | refine vs ?_ | refine vw ?_))); refine W_e ?_) | (apply ZK; first | refine Z4 ?_ | refine Z5 ?_) | refine Z6 ?_ | refine Z7 ?_ | refine ZF ?_)
    repeat (first | refine kEnd_m ?_ | refine kEnd_f ?_)
    refine kEnd_g ?_ (by first | exact .inl rfl | exact .inr rfl)
    exact Sub.eq rfl rfl
/-! ### errors of a distribution and a domain -/
def errD (s : ByteArray) (n o : Int) (rs : List Rg) : Int := if vdB s n o = true then (if domB rs = true then 0 else 40) else 70
theorem errD_ok {s : ByteArray} {n o : Int} {rs : List Rg} (h : errD s n o rs = 0) : vdB s n o = true ∧ domB rs = true := by
  unfold errD at h
  split at h
  · split at h
    · exact ⟨by assumption, by assumption⟩
    · omega
  · omega
theorem errD_0 {s : ByteArray} {k : Kd} {n o : Nat} (hk : Okd s k n o) {rs : List Rg} (hd : domB rs = true) : errD s n o rs = 0 := by rw [errD, if_pos (okd_v hk), if_pos hd]
theorem begin_bad {s : ByteArray} {n o : Int} {rs : List Rg} (h : errD s n o rs ≠ 0) : DC Try.prog 126 [dsD s n o, domD rs] (.tup [.val (.pointer none), iD (errD s n o rs)]) := by
  unfold errD at h ⊢
  by_cases hv : vdB s n o = true
  · rw [if_pos hv] at h ⊢
    by_cases hd : domB rs = true
    · rw [if_pos hd] at h; exact absurd rfl h
    · rw [if_neg hd]
      exact begin_badD s n o rs hv (by simpa using hd)
  · rw [if_neg hv]
    exact begin_badT s n o rs (by simpa using hv)
/-! ### find -/
def findRes (c0 : Rg) (ct : List Rg) (x : List Int) : Nat × Int := if x.length = (c0 :: ct).length then (if inB (c0 :: ct) x = true then (placeV (c0 :: ct) x 0 / iN c0 ct, 0) else (0, 5)) else (0, 2)
theorem place_bd {c0 : Rg} {ct : List Rg} (hs : SpOk c0 ct) {x : List Int} (h : inB (c0 :: ct) x = true) : placeV (c0 :: ct) x 0 < cN c0 * iN c0 ct ∧ 0 < iN c0 ct ∧ placeV (c0 :: ct) x 0 / iN c0 ct < cN c0 := by
  obtain ⟨_, hv, _⟩ := domB_iff.1 hs.dom
  have h1 := ((place_iff hv).1 h).1
  rw [← iN_mul] at h1
  have h2 : 0 < iN c0 ct := Nat.pos_of_ne_zero fun e => by rw [e, Nat.mul_zero] at h1; omega
  exact ⟨h1, h2, Nat.div_lt_of_lt_mul (by rwa [Nat.mul_comm])⟩
theorem find_d {s : ByteArray} {n o : Nat} {c0 : Rg} {ct : List Rg} (hs : SpOk c0 ct) (x : List Int) : DC Try.prog 127 [spD s n o c0 ct, rowI x] (.tup [iD (findRes c0 ct x).1, iD (findRes c0 ct x).2]) := by
  have PL := dPlace_d (c0 :: ct) x
  unfold findRes
  rw [dPlaceRes, hs.dom, if_pos rfl] at PL
  rw [spD, spO]
  generalize hml : memN c0 = ml
  by_cases hl : x.length = (c0 :: ct).length
  · rw [if_pos hl] at PL ⊢
    have hl' : (x.length : Int) = ((c0 :: ct).length : Nat) := by omega
    cases hb : inB (c0 :: ct) x with
    | true =>
      obtain ⟨b1, b2, b3⟩ := place_bd hs hb
      have b4 : cN c0 * iN c0 ct ≤ 4096 := by rw [iN_mul]; exact (domB_iff.1 hs.dom).2.2
      rw [hb] at PL
      simp only [if_true] at PL ⊢
      have e : ((placeV (c0 :: ct) x 0 : Nat) : Int).tdiv ((iN c0 ct : Nat) : Int) = ((placeV (c0 :: ct) x 0 / iN c0 ct : Nat) : Int) := by rw [← Int.ofNat_tdiv]
      generalize placeV (c0 :: ct) x 0 = at' at *
      generalize iN c0 ct = W at *
      refine DC.of Try.func127 Try.ntmps127 Try.results127 rfl (by decide +kernel) rfl ?_
      repeat (first | refine Z1 ?_ | refine Z2 ?_ | (refine Z3 ?_; (repeat (first | (apply gS; first | refine go_f ?_ | refine gx ?_ | refine gm ?_ | refine gp ?_ | refine go_c rfl rfl (PL) ?_ | refine go_cF rfl rfl (PL) ?_ | refine go_cA rfl rfl (PL) ?_))); refine T_nil ?_) | (apply ZK; first | refine Z4 ?_ | refine Z5 ?_) | refine Z6 ?_ | refine Z7 ?_ | refine ZF ?_)
      repeat (first | refine kEnd_m ?_ | refine kEnd_f ?_)
      refine kEnd_g ?_ (by first | exact .inl rfl | exact .inr rfl)
      exact Sub.eq (by rw [← e]; rfl) rfl
    | false =>
      rw [hb] at PL
      simp only [Bool.false_eq_true, if_false] at PL ⊢
      generalize iN c0 ct = W at *
      refine DC.of Try.func127 Try.ntmps127 Try.results127 rfl (by decide +kernel) rfl ?_
      repeat (first | refine Z1 ?_ | refine Z2 ?_ | (refine Z3 ?_; (repeat (first | (apply gS; first | refine go_f ?_ | refine gx ?_ | refine gm ?_ | refine gp ?_ | refine go_c rfl rfl (PL) ?_ | refine go_cF rfl rfl (PL) ?_ | refine go_cA rfl rfl (PL) ?_))); refine T_nil ?_) | (apply ZK; first | refine Z4 ?_ | refine Z5 ?_) | refine Z6 ?_ | refine Z7 ?_ | refine ZF ?_)
      repeat (first | refine kEnd_m ?_ | refine kEnd_f ?_)
      refine kEnd_g ?_ (by first | exact .inl rfl | exact .inr rfl)
      exact Sub.eq rfl rfl
  · rw [if_neg hl]
    clear PL
    have hl' : ¬ (x.length : Int) = ((c0 :: ct).length : Nat) := by omega
    generalize iN c0 ct = W at *
    refine DC.of Try.func127 Try.ntmps127 Try.results127 rfl (by decide +kernel) rfl ?_
    repeat (first | refine Z1 ?_ | refine Z2 ?_ | (refine Z3 ?_; (repeat (first | (apply gS; first | refine go_f ?_ | refine gx ?_ | refine gm ?_ | refine gp ?_))); refine T_nil ?_) | (apply ZK; first | refine Z4 ?_ | refine Z5 ?_) | refine Z6 ?_ | refine Z7 ?_ | refine ZF ?_)
    repeat (first | refine kEnd_m ?_ | refine kEnd_f ?_)
    refine kEnd_g ?_ (by first | exact .inl rfl | exact .inr rfl)
    exact Sub.eq rfl rfl
theorem find_lt {c0 : Rg} {ct : List Rg} (hs : SpOk c0 ct) {x : List Int} (h : (findRes c0 ct x).2 = 0) : (findRes c0 ct x).1 < (memN c0).length ∧ x.length = (c0 :: ct).length ∧ inB (c0 :: ct) x = true ∧ (findRes c0 ct x).1 = placeV (c0 :: ct) x 0 / iN c0 ct := by
  unfold findRes at h ⊢
  by_cases h1 : x.length = (c0 :: ct).length
  · rw [if_pos h1] at h ⊢
    by_cases h2 : inB (c0 :: ct) x = true
    · rw [if_pos h2]
      rw [memN_len]
      exact ⟨(place_bd hs h2).2.2, h1, h2, rfl⟩
    · rw [if_neg h2] at h; cases h
  · rw [if_neg h1] at h; cases h
/-! ### Owner -/
theorem Owner_bad {s : ByteArray} {n o : Int} {rs : List Rg} (h : errD s n o rs ≠ 0) (x : List Int) : DC Try.prog 55 [dsD s n o, domD rs, rowI x] (.tup [iD 0, iD (errD s n o rs)]) := by
  have B := begin_bad h
  generalize errD s n o rs = e at *
  refine DC.of Try.func55 Try.ntmps55 Try.results55 rfl (by decide +kernel) rfl ?_
  repeat (first | refine Z1 ?_ | refine Z2 ?_ | (refine Z3 ?_; (repeat (first | (apply gS; first | refine go_f ?_ | refine gx ?_ | refine gm ?_ | refine gp ?_ | refine go_c rfl rfl (B) ?_ | refine go_cF rfl rfl (B) ?_ | refine go_cA rfl rfl (B) ?_))); refine T_nil ?_) | (apply ZK; first | refine Z4 ?_ | refine Z5 ?_) | refine Z6 ?_ | refine Z7 ?_ | refine ZF ?_)
  repeat (first | refine kEnd_m ?_ | refine kEnd_f ?_)
  refine kEnd_g ?_ (by first | exact .inl rfl | exact .inr rfl)
  exact Sub.eq rfl rfl
def ownV (k : Kd) (n o : Nat) (c0 : Rg) (ct : List Rg) (x : List Int) : Nat := if (findRes c0 ct x).2 = 0 then own k n o (cN c0) (findRes c0 ct x).1 else 0
theorem Owner_d {s : ByteArray} {k : Kd} {n o : Nat} (hk : Okd s k n o) {rs : List Rg} {c0 : Rg} {ct : List Rg} (hd : domB rs = true) (hc : canonRs rs = c0 :: ct) (hs : SpOk c0 ct) (x : List Int) :
    DC Try.prog 55 [dsD s n o, domD rs, rowI x] (.tup [iD (ownV k n o c0 ct x), iD (findRes c0 ct x).2]) := by
  have B := begin_d hk hd hc hs
  have F := find_d (s := s) (n := n) (o := o) hs x
  unfold ownV
  by_cases hf : (findRes c0 ct x).2 = 0
  · rw [if_pos hf]
    have O := owner_d hk (c0 :: ct) (memN c0) (iN c0 ct) (find_lt hs hf).1 (mem_few hs)
    rw [memN_len] at O
    rw [hf] at F ⊢
    generalize own k n o (cN c0) (findRes c0 ct x).1 = w at *
    generalize (findRes c0 ct x).1 = i at *
    clear hf
    refine DC.of Try.func55 Try.ntmps55 Try.results55 rfl (by decide +kernel) rfl ?_
    repeat (first | refine Z1 ?_ | refine Z2 ?_ | (refine Z3 ?_; (repeat (first | (apply gS; first | refine go_f ?_ | refine gx ?_ | refine gm ?_ | refine gp ?_ | refine go_c rfl rfl (B) ?_ | refine go_cF rfl rfl (B) ?_ | refine go_cA rfl rfl (B) ?_ | refine go_c rfl rfl (F) ?_ | refine go_cF rfl rfl (F) ?_ | refine go_cA rfl rfl (F) ?_ | refine go_c rfl rfl (O) ?_ | refine go_cF rfl rfl (O) ?_ | refine go_cA rfl rfl (O) ?_))); refine T_nil ?_) | (apply ZK; first | refine Z4 ?_ | refine Z5 ?_) | refine Z6 ?_ | refine Z7 ?_ | refine ZF ?_)
    repeat (first | refine kEnd_m ?_ | refine kEnd_f ?_)
    refine kEnd_g ?_ (by first | exact .inl rfl | exact .inr rfl)
    exact Sub.eq rfl rfl
  · rw [if_neg hf]
    generalize (findRes c0 ct x).1 = i at *
    generalize (findRes c0 ct x).2 = e at *
    refine DC.of Try.func55 Try.ntmps55 Try.results55 rfl (by decide +kernel) rfl ?_
    repeat (first | refine Z1 ?_ | refine Z2 ?_ | (refine Z3 ?_; (repeat (first | (apply gS; first | refine go_f ?_ | refine gx ?_ | refine gm ?_ | refine gp ?_ | refine go_c rfl rfl (B) ?_ | refine go_cF rfl rfl (B) ?_ | refine go_cA rfl rfl (B) ?_ | refine go_c rfl rfl (F) ?_ | refine go_cF rfl rfl (F) ?_ | refine go_cA rfl rfl (F) ?_))); refine T_nil ?_) | (apply ZK; first | refine Z4 ?_ | refine Z5 ?_) | refine Z6 ?_ | refine Z7 ?_ | refine ZF ?_)
    repeat (first | refine kEnd_m ?_ | refine kEnd_f ?_)
    refine kEnd_g ?_ (by first | exact .inl rfl | exact .inr rfl)
    exact Sub.eq rfl rfl
/-! ### Piece, Pieces -/
theorem ct_few {c0 : Rg} {ct : List Rg} (hs : SpOk c0 ct) : ct.length ≤ 10 := by
  have := (domB_iff.1 hs.dom).1.2
  simp at this; omega
theorem piece_sp {s : ByteArray} {k : Kd} {n o : Nat} (hk : Okd s k n o) {c0 : Rg} {ct : List Rg} (hs : SpOk c0 ct) (p : Nat) : DC Try.prog 145 [spD s n o c0 ct, iD p] (chD p (partsOf k n o c0 ct p)) :=
  piece_d hk c0 ct (memN c0) (iN c0 ct) (ct_few hs) (mem_few hs) (mem_bd hs) p (runsOf k n o c0 p) (by rw [memN_len]; exact (runsOf_ok hk.ok hs p).1)
theorem Piece_bad {s : ByteArray} {n o : Int} {rs : List Rg} (h : errD s n o rs ≠ 0) (p : Int) : DC Try.prog 76 [dsD s n o, domD rs, iD p] (.tup [chD 0 [], iD (errD s n o rs)]) := by
  have B := begin_bad h
  generalize errD s n o rs = e at *
  refine DC.of Try.func76 Try.ntmps76 Try.results76 rfl (by decide +kernel) rfl ?_
  repeat (first | refine Z1 ?_ | refine Z2 ?_ | (refine Z3 ?_; (repeat (first | (apply gS; first | refine go_f ?_ | refine gx ?_ | refine gm ?_ | refine gp ?_ | refine go_c rfl rfl (B) ?_ | refine go_cF rfl rfl (B) ?_ | refine go_cA rfl rfl (B) ?_) | (apply gZ; first | refine go_f ?_ | refine gx ?_ | refine gm ?_))); refine T_nil ?_) | (apply ZK; first | refine Z4 ?_ | refine Z5 ?_) | refine Z6 ?_ | refine Z7 ?_ | refine Z8 ?_ | refine Z9 ?_ | refine ZA ?_ | refine ZB ?_ | refine ZC ?_ | refine ZF ?_)
  repeat (first | refine kEnd_m ?_ | refine kEnd_f ?_)
  refine kEnd_g ?_ (by first | exact .inl rfl | exact .inr rfl)
  exact Sub.tup (.cons (Sub.agg (.cons (Sub.eq rfl rfl) (.cons Sub.nil .nil))) (.cons (Sub.eq rfl rfl) .nil))
theorem Piece_no {s : ByteArray} {k : Kd} {n o : Nat} (hk : Okd s k n o) {rs : List Rg} {c0 : Rg} {ct : List Rg} (hd : domB rs = true) (hc : canonRs rs = c0 :: ct) (hs : SpOk c0 ct) (p : Int) (hp : p < 0 ∨ 0 ≤ p ∧ (o : Int) ≤ p) :
    DC Try.prog 76 [dsD s n o, domD rs, iD p] (.tup [chD 0 [], iD 2]) := by
  have B := begin_d hk hd hc hs
  have I := isPlace_f s n o (c0 :: ct) (memN c0) (iN c0 ct) p hp
  refine DC.of Try.func76 Try.ntmps76 Try.results76 rfl (by decide +kernel) rfl ?_
  repeat (first | refine Z1 ?_ | refine Z2 ?_ | (refine Z3 ?_; (repeat (first | (apply gS; first | refine go_f ?_ | refine gx ?_ | refine gm ?_ | refine gp ?_ | refine go_c rfl rfl (B) ?_ | refine go_cF rfl rfl (B) ?_ | refine go_cA rfl rfl (B) ?_ | refine go_c rfl rfl (I) ?_ | refine go_cF rfl rfl (I) ?_ | refine go_cA rfl rfl (I) ?_) | (apply gZ; first | refine go_f ?_ | refine gx ?_ | refine gm ?_))); refine T_nil ?_) | (apply ZK; first | refine Z4 ?_ | refine Z5 ?_) | refine Z6 ?_ | refine Z7 ?_ | refine Z8 ?_ | refine Z9 ?_ | refine ZA ?_ | refine ZB ?_ | refine ZC ?_ | refine ZF ?_)
  repeat (first | refine kEnd_m ?_ | refine kEnd_f ?_)
  refine kEnd_g ?_ (by first | exact .inl rfl | exact .inr rfl)
  exact Sub.tup (.cons (Sub.agg (.cons (Sub.eq rfl rfl) (.cons Sub.nil .nil))) (.cons (Sub.eq rfl rfl) .nil))
theorem Piece_ok {s : ByteArray} {k : Kd} {n o : Nat} (hk : Okd s k n o) {rs : List Rg} {c0 : Rg} {ct : List Rg} (hd : domB rs = true) (hc : canonRs rs = c0 :: ct) (hs : SpOk c0 ct) (p : Nat) (hp : p < o) :
    DC Try.prog 76 [dsD s n o, domD rs, iD p] (.tup [chD p (partsOf k n o c0 ct p), iD 0]) := by
  have B := begin_d hk hd hc hs
  have I := isPlace_t s n o (c0 :: ct) (memN c0) (iN c0 ct) p (by omega) (by omega)
  have PS := piece_sp hk hs p
  generalize partsOf k n o c0 ct p = out at *
  refine DC.of Try.func76 Try.ntmps76 Try.results76 rfl (by decide +kernel) rfl ?_
  repeat (first | refine Z1 ?_ | refine Z2 ?_ | (refine Z3 ?_; (repeat (first | (apply gS; first | refine go_f ?_ | refine gx ?_ | refine gm ?_ | refine gp ?_ | refine go_c rfl rfl (B) ?_ | refine go_cF rfl rfl (B) ?_ | refine go_cA rfl rfl (B) ?_ | refine go_c rfl rfl (I) ?_ | refine go_cF rfl rfl (I) ?_ | refine go_cA rfl rfl (I) ?_ | refine go_c rfl rfl (PS) ?_ | refine go_cF rfl rfl (PS) ?_ | refine go_cA rfl rfl (PS) ?_) | (apply gZ; first | refine go_f ?_ | refine gx ?_ | refine gm ?_))); refine T_nil ?_) | (apply ZK; first | refine Z4 ?_ | refine Z5 ?_) | refine Z6 ?_ | refine Z7 ?_ | refine Z8 ?_ | refine Z9 ?_ | refine ZA ?_ | refine ZB ?_ | refine ZC ?_ | refine ZF ?_)
  repeat (first | refine kEnd_m ?_ | refine kEnd_f ?_)
  refine kEnd_g ?_ (by first | exact .inl rfl | exact .inr rfl)
  exact Sub.eq rfl rfl
abbrev chC (c : Int × List (List Rg)) : List D := [iD c.1, domsD c.2]
abbrev chsD (l : List (Int × List (List Rg))) : D := .row l.length (l.flatMap chC)
def piecesL (k : Kd) (n o : Nat) (c0 : Rg) (ct : List Rg) (m : Nat) : List (Int × List (List Rg)) := (List.range m).map fun p : Nat => ((p : Int), partsOf k n o c0 ct p)
theorem Pieces_bad {s : ByteArray} {n o : Int} {rs : List Rg} (h : errD s n o rs ≠ 0) : DC Try.prog 79 [dsD s n o, domD rs] (.tup [chsD [], iD (errD s n o rs)]) := by
  have B := begin_bad h
  generalize errD s n o rs = e at *
  refine DC.of Try.func79 Try.ntmps79 Try.results79 rfl (by decide +kernel) rfl ?_
  repeat (first | refine Z1 ?_ | refine Z2 ?_ | (refine Z3 ?_; (repeat (first | (apply gS; first | refine go_f ?_ | refine gx ?_ | refine gm ?_ | refine gp ?_ | refine go_c rfl rfl (B) ?_ | refine go_cF rfl rfl (B) ?_ | refine go_cA rfl rfl (B) ?_))); refine T_nil ?_) | (apply ZK; first | refine Z4 ?_ | refine Z5 ?_) | refine Z6 ?_ | refine Z7 ?_ | refine Z8 ?_ | refine Z9 ?_ | refine ZA ?_ | refine ZB ?_ | refine ZC ?_ | refine ZD ?_ | refine ZE ?_ | refine ZF ?_ | refine ZG ?_ | refine ZH ?_)
  repeat (first | refine kEnd_m ?_ | refine kEnd_f ?_)
  refine kEnd_g ?_ (by first | exact .inl rfl | exact .inr rfl)
  exact Sub.tup (.cons Sub.nil (.cons (Sub.eq rfl rfl) .nil))
theorem Pieces_ok {s : ByteArray} {k : Kd} {n o : Nat} (hk : Okd s k n o) {rs : List Rg} {c0 : Rg} {ct : List Rg} (hd : domB rs = true) (hc : canonRs rs = c0 :: ct) (hs : SpOk c0 ct) :
    DC Try.prog 79 [dsD s n o, domD rs] (.tup [chsD (piecesL k n o c0 ct o), iD 0]) := by
  have B := begin_d hk hd hc hs
  have PS := piece_sp hk hs
  have h8 := hk.ok.o8
  have hS : ∀ m, (piecesL k n o c0 ct (m + 1)).flatMap chC = (piecesL k n o c0 ct m).flatMap chC ++ [iD m, domsD (partsOf k n o c0 ct m)] := fun m => by
    unfold piecesL
    rw [List.range_succ, List.map_append, List.flatMap_append]; rfl
  have hL : (piecesL k n o c0 ct o).length = o := by simp [piecesL]
  have h0 : (piecesL k n o c0 ct 0).flatMap chC = [] := rfl
  rw [show chsD (piecesL k n o c0 ct o) = .row o ((piecesL k n o c0 ct o).flatMap chC) by show D.row _ _ = _; rw [hL]]
  clear hL
  generalize partsOf k n o c0 ct = P at *
  generalize piecesL k n o c0 ct = L at *
  refine DC.of Try.func79 Try.ntmps79 Try.results79 rfl (by decide +kernel) rfl ?_
  repeat (first | refine Z1 ?_ | refine Z2 ?_ | (refine Z3 ?_; (repeat (first | (apply gS; first | refine go_f ?_ | refine gx ?_ | refine gm ?_ | refine gp ?_ | refine go_c rfl rfl (B) ?_ | refine go_cF rfl rfl (B) ?_ | refine go_cA rfl rfl (B) ?_))); refine T_nil ?_) | (apply ZK; first | refine Z4 ?_ | refine Z5 ?_) | refine Z6 ?_ | refine Z7 ?_ | refine Z8 ?_ | refine Z9 ?_ | refine ZA ?_ | refine ZB ?_ | refine ZC ?_ | refine ZD ?_ | refine ZE ?_ | refine ZF ?_ | refine ZG ?_ | refine ZH ?_)
  refine C_count o (fun _ => True) (fun m => ⟨3, 32, [(21, iD m), (20, iD o), (8, .own 2 m), (6, spD s n o c0 ct)], [(2, some ⟨90, 2, m, (L m).flatMap chC⟩)]⟩) ?_ trivial ?_
  · rw [h0]
    refine Wk.trans (Wk.adoptT 8 90 2 rfl) ?_
    exact Wk.gx (fun b => b)
  · intro m hm _
    by_cases hlt : m < o
    · have C := PS m
      have en := hS m
      clear hS PS
      repeat (first | refine Z1 ?_ | refine Z2 ?_ | (refine Z3 ?_; (repeat (first | (apply gS; first | refine go_f ?_ | refine gx ?_ | refine gm ?_ | refine gp ?_ | refine go_c rfl rfl (C) ?_ | refine go_cF rfl rfl (C) ?_ | refine go_cA rfl rfl (C) ?_))); refine T_nil ?_) | (apply ZK; first | refine Z4 ?_ | refine Z5 ?_) | refine Z6 ?_ | refine Z7 ?_ | refine Z8 ?_ | refine Z9 ?_ | refine ZA ?_ | refine ZB ?_ | refine ZC ?_ | refine ZD ?_ | refine ZE ?_ | refine ZF ?_ | refine ZG ?_ | refine ZH ?_)
      refine kLoop_n ⟨hlt, trivial, ?_⟩
      exact Wk.gx (fun b => cond (Nat.beq b 2) 3 (b))
    · obtain rfl : m = o := by omega
      repeat (first | refine Z1 ?_ | refine Z2 ?_ | (refine Z3 ?_; (repeat (first | (apply gS; first | refine go_f ?_ | refine gx ?_ | refine gm ?_ | refine gp ?_))); refine T_nil ?_) | (apply ZK; first | refine Z4 ?_ | refine Z5 ?_) | refine Z6 ?_ | refine Z7 ?_ | refine Z8 ?_ | refine Z9 ?_ | refine ZA ?_ | refine ZB ?_ | refine ZC ?_ | refine ZD ?_ | refine ZE ?_ | refine ZF ?_ | refine ZG ?_ | refine ZH ?_)
      repeat (first | refine kEnd_m ?_ | refine kEnd_f ?_)
      refine kEnd_g ?_ (by first | exact .inl rfl | exact .inr rfl)
      exact Sub.eq rfl rfl
/-! ### Local, Global, Load -/
theorem idx_of {l : List Nat} {i : Nat} (h : i ∈ l) : ∃ q, q = l.idxOf i ∧ ∃ hq : q < l.length, l[q] = i ∧ ∀ j (hj : j < l.length), j < q → l[j] ≠ i := by
  refine ⟨_, rfl, List.idxOf_lt_length_iff.2 h, List.getElem_idxOf (List.idxOf_lt_length_iff.2 h), fun j hj hlt e => ?_⟩
  have := List.not_of_lt_findIdx (show j < l.findIdx (· == i) from hlt)
  simp [e] at this
theorem Local_bad {s : ByteArray} {n o : Int} {rs : List Rg} (h : errD s n o rs ≠ 0) (x : List Int) : DC Try.prog 56 [dsD s n o, domD rs, rowI x] (.tup [iD 0, iD (errD s n o rs)]) := by
  have B := begin_bad h
  generalize errD s n o rs = e at *
  refine DC.of Try.func56 Try.ntmps56 Try.results56 rfl (by decide +kernel) rfl ?_
  repeat (first | refine Z1 ?_ | refine Z2 ?_ | (refine Z3 ?_; (repeat (first | (apply gS; first | refine go_f ?_ | refine gx ?_ | refine gm ?_ | refine gp ?_ | refine go_c rfl rfl (B) ?_ | refine go_cF rfl rfl (B) ?_ | refine go_cA rfl rfl (B) ?_))); refine T_nil ?_) | (apply ZR; (try dsimp only [List.map_cons, List.map_nil]); refine C_dr mixed ?_; (repeat (first | (apply vS; first | refine va ?_ | refine vp ?_ | refine vr ?_ | refine vt ?_ | refine vc (B) ?_ | refine vcF (B) ?_))); refine W_e ?_) | (apply ZK; first | refine Z4 ?_ | refine Z5 ?_) | refine Z6 ?_ | refine Z7 ?_ | refine ZF ?_)
  repeat (first | refine kEnd_m ?_ | refine kEnd_f ?_)
  refine kEnd_g ?_ (by first | exact .inl rfl | exact .inr rfl)
  exact Sub.eq rfl rfl
/-- which one of its owner's an index is -/
def locV (k : Kd) (n o : Nat) (c0 : Rg) (ct : List Rg) (x : List Int) : Nat := if (findRes c0 ct x).2 = 0 then (ow k n o (cN c0) (ownV k n o c0 ct x)).idxOf (findRes c0 ct x).1 * iN c0 ct + placeV (c0 :: ct) x 0 % iN c0 ct else 0
theorem Local_d {s : ByteArray} {k : Kd} {n o : Nat} (hk : Okd s k n o) {rs : List Rg} {c0 : Rg} {ct : List Rg} (hd : domB rs = true) (hc : canonRs rs = c0 :: ct) (hs : SpOk c0 ct) (x : List Int) :
    DC Try.prog 56 [dsD s n o, domD rs, rowI x] (.tup [iD (locV k n o c0 ct x), iD (findRes c0 ct x).2]) := by
  have B := begin_d hk hd hc hs
  have F := find_d (s := s) (n := n) (o := o) hs x
  unfold locV
  by_cases hf : (findRes c0 ct x).2 = 0
  · rw [if_pos hf]
    obtain ⟨f1, f2, f3, f4⟩ := find_lt hs hf
    obtain ⟨b1, b2, b3⟩ := place_bd hs f3
    have b4 : cN c0 * iN c0 ct ≤ 4096 := by rw [iN_mul]; exact (domB_iff.1 hs.dom).2.2
    have O := owner_d hk (c0 :: ct) (memN c0) (iN c0 ct) f1 (mem_few hs)
    have OW := owned_d hk (c0 :: ct) (memN c0) (iN c0 ct) (own k n o (cN c0) (findRes c0 ct x).1) (mem_few hs)
    rw [memN_len] at O OW f1
    have PL := dPlace_d (c0 :: ct) x
    rw [dPlaceRes, hs.dom, if_pos rfl, if_pos f2, if_pos f3] at PL
    have hv : ownV k n o c0 ct x = own k n o (cN c0) (findRes c0 ct x).1 := if_pos hf
    rw [hv]
    have hmem : (findRes c0 ct x).1 ∈ ow k n o (cN c0) (own k n o (cN c0) (findRes c0 ct x).1) := ow_mem.2 ⟨f1, rfl⟩
    obtain ⟨q, hq, q1, q2, q3⟩ := idx_of hmem
    rw [← hq]
    have hle := ow_len k n o (cN c0) (own k n o (cN c0) (findRes c0 ct x).1)
    have hfew := hs.few
    have hnl : (natsI (ow k n o (cN c0) (own k n o (cN c0) (findRes c0 ct x).1))).length = (ow k n o (cN c0) (own k n o (cN c0) (findRes c0 ct x).1)).length := by simp [natsI]
    have IX := sIndex_q (natsI (ow k n o (cN c0) (own k n o (cN c0) (findRes c0 ct x).1))) ((findRes c0 ct x).1 : Nat) q (by omega) (by omega) (by simp [natsI, q2]) (fun j hj hlt e => q3 j (by omega) hlt (by
      have e' : (((ow k n o (cN c0) (own k n o (cN c0) (findRes c0 ct x).1))[j]'(by omega) : Nat) : Int) = ((findRes c0 ct x).1 : Nat) := by simpa [natsI] using e
      omega))
    have hqW : q * iN c0 ct ≤ 4096 := by
      have : q * iN c0 ct ≤ cN c0 * iN c0 ct := Nat.mul_le_mul_right _ (by omega)
      omega
    have hqW' : ((q * iN c0 ct : Nat) : Int) = (q : Int) * (iN c0 ct : Nat) := Int.natCast_mul _ _
    have hmod := Nat.mod_lt (placeV (c0 :: ct) x 0) b2
    have e2 : ((placeV (c0 :: ct) x 0 : Nat) : Int).tmod ((iN c0 ct : Nat) : Int) = ((placeV (c0 :: ct) x 0 % iN c0 ct : Nat) : Int) := by rw [← Int.ofNat_tmod]
    have hW : iN c0 ct ≤ 4096 := Nat.le_trans (Nat.le_mul_of_pos_left _ (by omega)) b4
    have hsp : spD s n o c0 ct = spO s n o (c0 :: ct) (memN c0) (iN c0 ct) := rfl
    rw [hsp] at B F
    rw [hf] at F ⊢
    dsimp only at PL
    generalize ow k n o (cN c0) (own k n o (cN c0) (findRes c0 ct x).1) = l at *
    generalize own k n o (cN c0) (findRes c0 ct x).1 = w at *
    generalize (findRes c0 ct x).1 = i at *
    generalize placeV (c0 :: ct) x 0 = at' at *
    clear hf hsp
    generalize iN c0 ct = W at *
    generalize memN c0 = ml at *
    have hm0 : 0 ≤ (at' : Int).tmod (W : Int) ∧ (at' : Int).tmod (W : Int) < W := by rw [e2]; omega
    have e3 : ((q * W + at' % W : Nat) : Int) = (q : Int) * W + (at' : Int).tmod (W : Int) := by rw [e2]; push_cast; rfl
    rw [e3]
    clear e3 f4 e2 hmod
    refine DC.of Try.func56 Try.ntmps56 Try.results56 rfl (by decide +kernel) rfl ?_
    repeat (first | refine Z1 ?_ | refine Z2 ?_ | (refine Z3 ?_; (repeat (first | (apply gS; first | refine go_f ?_ | refine gx ?_ | refine gm ?_ | refine gp ?_ | refine go_c rfl rfl (B) ?_ | refine go_cF rfl rfl (B) ?_ | refine go_cA rfl rfl (B) ?_ | refine go_c rfl rfl (F) ?_ | refine go_cF rfl rfl (F) ?_ | refine go_cA rfl rfl (F) ?_ | refine go_c rfl rfl (PL) ?_ | refine go_cF rfl rfl (PL) ?_ | refine go_cA rfl rfl (PL) ?_ | refine go_c rfl rfl (O) ?_ | refine go_cF rfl rfl (O) ?_ | refine go_cA rfl rfl (O) ?_ | refine go_c rfl rfl (OW) ?_ | refine go_cF rfl rfl (OW) ?_ | refine go_cA rfl rfl (OW) ?_ | refine go_c rfl rfl (IX) ?_ | refine go_cF rfl rfl (IX) ?_ | refine go_cA rfl rfl (IX) ?_))); refine T_nil ?_) | (apply ZR; (try dsimp only [List.map_cons, List.map_nil]); refine C_dr mixed ?_; (repeat (first | (apply vS; first | refine va ?_ | refine vp ?_ | refine vr ?_ | refine vt ?_ | refine vc (B) ?_ | refine vcF (B) ?_ | refine vc (F) ?_ | refine vcF (F) ?_ | refine vc (PL) ?_ | refine vcF (PL) ?_ | refine vc (O) ?_ | refine vcF (O) ?_ | refine vc (OW) ?_ | refine vcF (OW) ?_ | refine vc (IX) ?_ | refine vcF (IX) ?_))); refine W_e ?_) | (apply ZK; first | refine Z4 ?_ | refine Z5 ?_) | refine Z6 ?_ | refine Z7 ?_ | refine ZF ?_)
    repeat (first | refine kEnd_m ?_ | refine kEnd_f ?_)
    refine kEnd_g ?_ (by first | exact .inl rfl | exact .inr rfl)
    exact Sub.eq rfl rfl
  · rw [if_neg hf]
    generalize (findRes c0 ct x).1 = i at *
    generalize (findRes c0 ct x).2 = e at *
    refine DC.of Try.func56 Try.ntmps56 Try.results56 rfl (by decide +kernel) rfl ?_
    repeat (first | refine Z1 ?_ | refine Z2 ?_ | (refine Z3 ?_; (repeat (first | (apply gS; first | refine go_f ?_ | refine gx ?_ | refine gm ?_ | refine gp ?_ | refine go_c rfl rfl (B) ?_ | refine go_cF rfl rfl (B) ?_ | refine go_cA rfl rfl (B) ?_ | refine go_c rfl rfl (F) ?_ | refine go_cF rfl rfl (F) ?_ | refine go_cA rfl rfl (F) ?_))); refine T_nil ?_) | (apply ZR; (try dsimp only [List.map_cons, List.map_nil]); refine C_dr mixed ?_; (repeat (first | (apply vS; first | refine va ?_ | refine vp ?_ | refine vr ?_ | refine vt ?_ | refine vc (B) ?_ | refine vcF (B) ?_ | refine vc (F) ?_ | refine vcF (F) ?_))); refine W_e ?_) | (apply ZK; first | refine Z4 ?_ | refine Z5 ?_) | refine Z6 ?_ | refine Z7 ?_ | refine ZF ?_)
    repeat (first | refine kEnd_m ?_ | refine kEnd_f ?_)
    refine kEnd_g ?_ (by first | exact .inl rfl | exact .inr rfl)
    exact Sub.eq rfl rfl
theorem Global_bad {s : ByteArray} {n o : Int} {rs : List Rg} (h : errD s n o rs ≠ 0) (p q : Int) : DC Try.prog 67 [dsD s n o, domD rs, iD p, iD q] (.tup [rowI [], iD (errD s n o rs)]) := by
  have B := begin_bad h
  generalize errD s n o rs = e at *
  refine DC.of Try.func67 Try.ntmps67 Try.results67 rfl (by decide +kernel) rfl ?_
  repeat (first | refine Z1 ?_ | refine Z2 ?_ | (refine Z3 ?_; (repeat (first | (apply gS; first | refine go_no ?_ | refine go_f ?_ | refine gx ?_ | refine gm ?_ | refine gp ?_ | refine go_c rfl rfl (B) ?_ | refine go_cF rfl rfl (B) ?_ | refine go_cA rfl rfl (B) ?_))); refine T_nil ?_) | (apply ZR; (try dsimp only [List.map_cons, List.map_nil]); refine C_dr mixed ?_; (repeat (first | (apply vS; first | refine vn ?_ | refine va ?_ | refine vp ?_ | refine vr ?_ | refine vt ?_ | refine vc (B) ?_ | refine vcF (B) ?_))); refine W_e ?_) | (apply ZK; first | refine Z4 ?_ | refine Z5 ?_) | refine Z6 ?_ | refine Z7 ?_ | refine Z8 ?_ | refine Z9 ?_ | refine ZA ?_ | refine ZB ?_ | refine ZC ?_ | refine ZF ?_)
  repeat (first | refine kEnd_m ?_ | refine kEnd_f ?_)
  refine kEnd_g ?_ (by first | exact .inl rfl | exact .inr rfl)
  exact Sub.tup (.cons Sub.nil (.cons (Sub.eq rfl rfl) .nil))
theorem Global_no {s : ByteArray} {k : Kd} {n o : Nat} (hk : Okd s k n o) {rs : List Rg} {c0 : Rg} {ct : List Rg} (hd : domB rs = true) (hc : canonRs rs = c0 :: ct) (hs : SpOk c0 ct) (p q : Int) (hp : ¬ (0 ≤ p ∧ p < o ∧ 0 ≤ q)) :
    DC Try.prog 67 [dsD s n o, domD rs, iD p, iD q] (.tup [rowI [], iD 2]) := by
  have B := begin_d hk hd hc hs
  by_cases h : 0 ≤ p ∧ p < o
  · have hq : q < 0 := by omega
    have I := isPlace_t s n o (c0 :: ct) (memN c0) (iN c0 ct) p h.1 h.2
    refine DC.of Try.func67 Try.ntmps67 Try.results67 rfl (by decide +kernel) rfl ?_
    repeat (first | refine Z1 ?_ | refine Z2 ?_ | (refine Z3 ?_; (repeat (first | (apply gS; first | refine go_no ?_ | refine go_f ?_ | refine gx ?_ | refine gm ?_ | refine gp ?_ | refine go_c rfl rfl (B) ?_ | refine go_cF rfl rfl (B) ?_ | refine go_cA rfl rfl (B) ?_ | refine go_c rfl rfl (I) ?_ | refine go_cF rfl rfl (I) ?_ | refine go_cA rfl rfl (I) ?_))); refine T_nil ?_) | (apply ZR; (try dsimp only [List.map_cons, List.map_nil]); refine C_dr mixed ?_; (repeat (first | (apply vS; first | refine vn ?_ | refine va ?_ | refine vp ?_ | refine vr ?_ | refine vt ?_ | refine vc (B) ?_ | refine vcF (B) ?_ | refine vc (I) ?_ | refine vcF (I) ?_))); refine W_e ?_) | (apply ZK; first | refine Z4 ?_ | refine Z5 ?_) | refine Z6 ?_ | refine Z7 ?_ | refine Z8 ?_ | refine Z9 ?_ | refine ZA ?_ | refine ZB ?_ | refine ZC ?_ | refine ZF ?_)
    repeat (first | refine kEnd_m ?_ | refine kEnd_f ?_)
    refine kEnd_g ?_ (by first | exact .inl rfl | exact .inr rfl)
    exact Sub.tup (.cons Sub.nil (.cons (Sub.eq rfl rfl) .nil))
  · have I := isPlace_f s n o (c0 :: ct) (memN c0) (iN c0 ct) p (by omega)
    clear hp h
    refine DC.of Try.func67 Try.ntmps67 Try.results67 rfl (by decide +kernel) rfl ?_
    repeat (first | refine Z1 ?_ | refine Z2 ?_ | (refine Z3 ?_; (repeat (first | (apply gS; first | refine go_no ?_ | refine go_f ?_ | refine gx ?_ | refine gm ?_ | refine gp ?_ | refine go_c rfl rfl (B) ?_ | refine go_cF rfl rfl (B) ?_ | refine go_cA rfl rfl (B) ?_ | refine go_c rfl rfl (I) ?_ | refine go_cF rfl rfl (I) ?_ | refine go_cA rfl rfl (I) ?_))); refine T_nil ?_) | (apply ZR; (try dsimp only [List.map_cons, List.map_nil]); refine C_dr mixed ?_; (repeat (first | (apply vS; first | refine vn ?_ | refine va ?_ | refine vp ?_ | refine vr ?_ | refine vt ?_ | refine vc (B) ?_ | refine vcF (B) ?_ | refine vc (I) ?_ | refine vcF (I) ?_))); refine W_e ?_) | (apply ZK; first | refine Z4 ?_ | refine Z5 ?_) | refine Z6 ?_ | refine Z7 ?_ | refine Z8 ?_ | refine Z9 ?_ | refine ZA ?_ | refine ZB ?_ | refine ZC ?_ | refine ZF ?_)
    repeat (first | refine kEnd_m ?_ | refine kEnd_f ?_)
    refine kEnd_g ?_ (by first | exact .inl rfl | exact .inr rfl)
    exact Sub.tup (.cons Sub.nil (.cons (Sub.eq rfl rfl) .nil))
/-- the index at an offset of a place -/
def globX (k : Kd) (n o : Nat) (c0 : Rg) (ct : List Rg) (p q : Nat) : List Int := ithX (c0 :: ct) ((ow k n o (cN c0) p).getD (q / iN c0 ct) 0 * iN c0 ct + q % iN c0 ct)
def globB (k : Kd) (n o : Nat) (c0 : Rg) (ct : List Rg) (p q : Nat) : Prop := iN c0 ct ≠ 0 ∧ q / iN c0 ct < (ow k n o (cN c0) p).length
theorem Global_none {s : ByteArray} {k : Kd} {n o : Nat} (hk : Okd s k n o) {rs : List Rg} {c0 : Rg} {ct : List Rg} (hd : domB rs = true) (hc : canonRs rs = c0 :: ct) (hs : SpOk c0 ct) (p q : Nat) (hp : p < o) (hg : ¬ globB k n o c0 ct p q) (hq : q ≤ 9223372036854775807) :
    DC Try.prog 67 [dsD s n o, domD rs, iD p, iD q] (.tup [rowI [], iD 5]) := by
  have B := begin_d hk hd hc hs
  have I := isPlace_t s n o (c0 :: ct) (memN c0) (iN c0 ct) p (by omega) (by omega)
  have OW := owned_d hk (c0 :: ct) (memN c0) (iN c0 ct) p (mem_few hs)
  rw [memN_len] at OW
  unfold globB at hg
  have hsp : spD s n o c0 ct = spO s n o (c0 :: ct) (memN c0) (iN c0 ct) := rfl
  rw [hsp] at B
  have hnl : (natsI (ow k n o (cN c0) p)).length = (ow k n o (cN c0) p).length := by simp [natsI]
  have er : rowI (natsI (ow k n o (cN c0) p)) = .row (ow k n o (cN c0) p).length (intsD (natsI (ow k n o (cN c0) p))) := by show D.row _ _ = _; rw [hnl]
  rw [er] at OW
  have hle := ow_len k n o (cN c0) p
  have hfew := hs.few
  generalize ow k n o (cN c0) p = l at *
  generalize iN c0 ct = W at *
  generalize memN c0 = ml at *
  clear hsp er
  by_cases hW : W = 0
  · subst hW
    refine DC.of Try.func67 Try.ntmps67 Try.results67 rfl (by decide +kernel) rfl ?_
    repeat (first | refine Z1 ?_ | refine Z2 ?_ | (refine Z3 ?_; (repeat (first | (apply gS; first | refine go_no ?_ | refine go_f ?_ | refine gx ?_ | refine gm ?_ | refine gp ?_ | refine go_c rfl rfl (B) ?_ | refine go_cF rfl rfl (B) ?_ | refine go_cA rfl rfl (B) ?_ | refine go_c rfl rfl (I) ?_ | refine go_cF rfl rfl (I) ?_ | refine go_cA rfl rfl (I) ?_ | refine go_c rfl rfl (OW) ?_ | refine go_cF rfl rfl (OW) ?_ | refine go_cA rfl rfl (OW) ?_))); refine T_nil ?_) | (apply ZR; (try dsimp only [List.map_cons, List.map_nil]); refine C_dr mixed ?_; (repeat (first | (apply vS; first | refine vn ?_ | refine va ?_ | refine vp ?_ | refine vr ?_ | refine vt ?_ | refine vc (B) ?_ | refine vcF (B) ?_ | refine vc (I) ?_ | refine vcF (I) ?_ | refine vc (OW) ?_ | refine vcF (OW) ?_))); refine W_e ?_) | (apply ZK; first | refine Z4 ?_ | refine Z5 ?_) | refine Z6 ?_ | refine Z7 ?_ | refine Z8 ?_ | refine Z9 ?_ | refine ZA ?_ | refine ZB ?_ | refine ZC ?_ | refine ZF ?_)
    repeat (first | refine kEnd_m ?_ | refine kEnd_f ?_)
    refine kEnd_g ?_ (by first | exact .inl rfl | exact .inr rfl)
    exact Sub.tup (.cons Sub.nil (.cons (Sub.eq rfl rfl) .nil))
  · have h1 : ¬ q / W < l.length := fun h => hg ⟨hW, h⟩
    have e : ((q : Nat) : Int).tdiv (W : Nat) = ((q / W : Nat) : Int) := by rw [← Int.ofNat_tdiv]
    have h2 : ¬ ((q : Nat) : Int).tdiv (W : Nat) < l.length := by rw [e]; omega
    clear e h1 hg
    refine DC.of Try.func67 Try.ntmps67 Try.results67 rfl (by decide +kernel) rfl ?_
    repeat (first | refine Z1 ?_ | refine Z2 ?_ | (refine Z3 ?_; (repeat (first | (apply gS; first | refine go_no ?_ | refine go_f ?_ | refine gx ?_ | refine gm ?_ | refine gp ?_ | refine go_c rfl rfl (B) ?_ | refine go_cF rfl rfl (B) ?_ | refine go_cA rfl rfl (B) ?_ | refine go_c rfl rfl (I) ?_ | refine go_cF rfl rfl (I) ?_ | refine go_cA rfl rfl (I) ?_ | refine go_c rfl rfl (OW) ?_ | refine go_cF rfl rfl (OW) ?_ | refine go_cA rfl rfl (OW) ?_))); refine T_nil ?_) | (apply ZR; (try dsimp only [List.map_cons, List.map_nil]); refine C_dr mixed ?_; (repeat (first | (apply vS; first | refine vn ?_ | refine va ?_ | refine vp ?_ | refine vr ?_ | refine vt ?_ | refine vc (B) ?_ | refine vcF (B) ?_ | refine vc (I) ?_ | refine vcF (I) ?_ | refine vc (OW) ?_ | refine vcF (OW) ?_))); refine W_e ?_) | (apply ZK; first | refine Z4 ?_ | refine Z5 ?_) | refine Z6 ?_ | refine Z7 ?_ | refine Z8 ?_ | refine Z9 ?_ | refine ZA ?_ | refine ZB ?_ | refine ZC ?_ | refine ZF ?_)
    repeat (first | refine kEnd_m ?_ | refine kEnd_f ?_)
    refine kEnd_g ?_ (by first | exact .inl rfl | exact .inr rfl)
    exact Sub.tup (.cons Sub.nil (.cons (Sub.eq rfl rfl) .nil))
theorem Global_ok {s : ByteArray} {k : Kd} {n o : Nat} (hk : Okd s k n o) {rs : List Rg} {c0 : Rg} {ct : List Rg} (hd : domB rs = true) (hc : canonRs rs = c0 :: ct) (hs : SpOk c0 ct) (p q : Nat) (hp : p < o) (hg : globB k n o c0 ct p q) :
    DC Try.prog 67 [dsD s n o, domD rs, iD p, iD q] (.tup [rowI (globX k n o c0 ct p q), iD 0]) := by
  have B := begin_d hk hd hc hs
  have I := isPlace_t s n o (c0 :: ct) (memN c0) (iN c0 ct) p (by omega) (by omega)
  have OW := owned_d hk (c0 :: ct) (memN c0) (iN c0 ct) p (mem_few hs)
  rw [memN_len] at OW
  unfold globB at hg
  unfold globX
  obtain ⟨hW, h1⟩ := hg
  have b4 : cN c0 * iN c0 ct ≤ 4096 := by rw [iN_mul]; exact (domB_iff.1 hs.dom).2.2
  have hlt : (ow k n o (cN c0) p)[q / iN c0 ct] < cN c0 := ow_lt _ (List.getElem_mem h1)
  rw [getD_at h1]
  have hW0 : 0 < iN c0 ct := Nat.pos_of_ne_zero hW
  have hmod := Nat.mod_lt q hW0
  have hat : (ow k n o (cN c0) p)[q / iN c0 ct] * iN c0 ct + q % iN c0 ct < cN c0 * iN c0 ct := by
    have := Nat.mul_le_mul_right (iN c0 ct) (show (ow k n o (cN c0) p)[q / iN c0 ct] + 1 ≤ cN c0 by omega)
    rw [Nat.add_mul, Nat.one_mul] at this
    omega
  have IT := dIth_ok hs.dom (i := (ow k n o (cN c0) p)[q / iN c0 ct] * iN c0 ct + q % iN c0 ct) (by show _ < prodN _; rw [← iN_mul]; exact hat)
  have hsp : spD s n o c0 ct = spO s n o (c0 :: ct) (memN c0) (iN c0 ct) := rfl
  rw [hsp] at B
  have hnl : (natsI (ow k n o (cN c0) p)).length = (ow k n o (cN c0) p).length := by simp [natsI]
  have er : rowI (natsI (ow k n o (cN c0) p)) = .row (ow k n o (cN c0) p).length (intsD (natsI (ow k n o (cN c0) p))) := by show D.row _ _ = _; rw [hnl]
  rw [er] at OW
  have hle := ow_len k n o (cN c0) p
  have hfew := hs.few
  have e : ((q : Nat) : Int).tdiv (iN c0 ct : Nat) = ((q / iN c0 ct : Nat) : Int) := by rw [← Int.ofNat_tdiv]
  have e2 : ((q : Nat) : Int).tmod (iN c0 ct : Nat) = ((q % iN c0 ct : Nat) : Int) := by rw [← Int.ofNat_tmod]
  have eg : (natsI (ow k n o (cN c0) p))[q / iN c0 ct]'(by rw [hnl]; exact h1) = (((ow k n o (cN c0) p)[q / iN c0 ct] : Nat) : Int) := by simp only [natsI, List.getElem_map]
  have hcast : (((ow k n o (cN c0) p)[q / iN c0 ct] * iN c0 ct + q % iN c0 ct : Nat) : Int) = (natsI (ow k n o (cN c0) p))[q / iN c0 ct]'(by rw [hnl]; exact h1) * (iN c0 ct : Nat) + ((q : Nat) : Int).tmod (iN c0 ct : Nat) := by
    rw [eg, e2]; push_cast; rfl
  rw [hcast] at IT
  have hb1 : (natsI (ow k n o (cN c0) p))[q / iN c0 ct]'(by rw [hnl]; exact h1) * (iN c0 ct : Nat) ≤ 4096 ∧ 0 ≤ (natsI (ow k n o (cN c0) p))[q / iN c0 ct]'(by rw [hnl]; exact h1) * (iN c0 ct : Nat) := by
    rw [eg]
    have e3 : (((ow k n o (cN c0) p)[q / iN c0 ct] * iN c0 ct : Nat) : Int) = (((ow k n o (cN c0) p)[q / iN c0 ct] : Nat) : Int) * (iN c0 ct : Nat) := Int.natCast_mul _ _
    omega
  have hb2 : 0 ≤ ((q : Nat) : Int).tmod (iN c0 ct : Nat) ∧ ((q : Nat) : Int).tmod (iN c0 ct : Nat) < (iN c0 ct : Nat) := by rw [e2]; omega
  have hW2 : iN c0 ct ≤ 4096 := Nat.le_trans (Nat.le_mul_of_pos_left _ (by omega)) b4
  have hb3 : 0 ≤ ((q : Nat) : Int).tdiv (iN c0 ct : Nat) ∧ ((q : Nat) : Int).tdiv (iN c0 ct : Nat) < (ow k n o (cN c0) p).length := by rw [e]; exact ⟨Int.natCast_nonneg _, Int.ofNat_lt.2 h1⟩
  have hq : q ≤ 9223372036854775807 := by
    have h2 := (Nat.div_lt_iff_lt_mul hW0).1 h1
    have h3 := Nat.mul_le_mul_right (iN c0 ct) hle
    omega
  generalize ithX (c0 :: ct) ((ow k n o (cN c0) p)[q / iN c0 ct] * iN c0 ct + q % iN c0 ct) = out at *
  clear hcast eg hat hlt hmod e2 er hsp b4
  generalize ow k n o (cN c0) p = l at *
  clear hW
  generalize iN c0 ct = W at *
  generalize memN c0 = ml at *
  refine DC.of Try.func67 Try.ntmps67 Try.results67 rfl (by decide +kernel) rfl ?_
  repeat (first | refine Z1 ?_ | refine Z2 ?_ | (refine Z3 ?_; (repeat (first | (apply gS; first | refine go_no ?_ | refine go_f ?_ | refine gx ?_ | refine gm ?_ | refine gp ?_ | refine go_c rfl rfl (B) ?_ | refine go_cF rfl rfl (B) ?_ | refine go_cA rfl rfl (B) ?_ | refine go_c rfl rfl (I) ?_ | refine go_cF rfl rfl (I) ?_ | refine go_cA rfl rfl (I) ?_ | refine go_c rfl rfl (OW) ?_ | refine go_cF rfl rfl (OW) ?_ | refine go_cA rfl rfl (OW) ?_ | refine go_c rfl rfl (IT) ?_ | refine go_cF rfl rfl (IT) ?_ | refine go_cA rfl rfl (IT) ?_))); refine T_nil ?_) | (apply ZR; (try dsimp only [List.map_cons, List.map_nil]); refine C_dr mixed ?_; (repeat (first | (apply vS; first | refine vn ?_ | refine va ?_ | refine vp ?_ | refine vr ?_ | refine vt ?_ | refine vc (B) ?_ | refine vcF (B) ?_ | refine vc (I) ?_ | refine vcF (I) ?_ | refine vc (OW) ?_ | refine vcF (OW) ?_ | refine vc (IT) ?_ | refine vcF (IT) ?_))); refine W_e ?_) | (apply ZK; first | refine Z4 ?_ | refine Z5 ?_) | refine Z6 ?_ | refine Z7 ?_ | refine Z8 ?_ | refine Z9 ?_ | refine ZA ?_ | refine ZB ?_ | refine ZC ?_ | refine ZF ?_)
  repeat (first | refine kEnd_m ?_ | refine kEnd_f ?_)
  refine kEnd_g ?_ (by first | exact .inl rfl | exact .inr rfl)
  exact Sub.eq rfl rfl
end Go.Proofs.Ytifapodobhkdcaa
namespace Go.Proofs.Ytifapodobhkdcaa
open Go.RowKit
set_option linter.unusedVariables false
set_option maxHeartbeats 16000000
set_option linter.unusedSimpArgs false
set_option maxRecDepth 100000
/-! ### where an index stands -/
theorem ith_can {rs : List Rg} {c0 : Rg} {ct : List Rg} (hd : domB rs = true) (hc : canonRs rs = c0 :: ct) {i : Nat} (hi : i < cN c0 * iN c0 ct) : ithX rs i = ithX (c0 :: ct) i := by
  obtain ⟨e1, e2, _⟩ := canon_cnt hd hc
  have a := idxs_get rs i (by rw [e2]; exact hi)
  have b := idxs_get (c0 :: ct) i (by rw [← iN_mul]; exact hi)
  rw [e1, b] at a
  exact (Option.some.inj a).symm
theorem at_find {c0 : Rg} {ct : List Rg} (hs : SpOk c0 ct) {i : Nat} (hi : i < cN c0 * iN c0 ct) : (ithX (c0 :: ct) i).length = (c0 :: ct).length ∧ inB (c0 :: ct) (ithX (c0 :: ct) i) = true ∧ placeV (c0 :: ct) (ithX (c0 :: ct) i) 0 = i ∧ findRes c0 ct (ithX (c0 :: ct) i) = (i / iN c0 ct, 0) := by
  obtain ⟨_, hv, _⟩ := domB_iff.1 hs.dom
  have h2 : i < prodN (cl (c0 :: ct)) := by rw [← iN_mul]; exact hi
  obtain ⟨a, b⟩ := ithX_in hv h2
  have hp : placeV (c0 :: ct) (ithX (c0 :: ct) i) 0 = i := by rw [b 0, Nat.zero_mul, Nat.zero_add]
  have hl := ithX_len (c0 :: ct) i
  refine ⟨hl, a, hp, ?_⟩
  unfold findRes
  rw [if_pos hl, if_pos a, hp]
/-- the i-th index: its owner, its place there -/
theorem own_at {k : Kd} {n o : Nat} (hk : OkDs k n o) {c0 : Rg} {ct : List Rg} (hs : SpOk c0 ct) {i : Nat} (hi : i < cN c0 * iN c0 ct) :
    0 < iN c0 ct ∧ i / iN c0 ct < cN c0 ∧ ownV k n o c0 ct (ithX (c0 :: ct) i) = own k n o (cN c0) (i / iN c0 ct) ∧ own k n o (cN c0) (i / iN c0 ct) < o ∧ i / iN c0 ct ∈ ow k n o (cN c0) (own k n o (cN c0) (i / iN c0 ct)) ∧
    locV k n o c0 ct (ithX (c0 :: ct) i) = (ow k n o (cN c0) (own k n o (cN c0) (i / iN c0 ct))).idxOf (i / iN c0 ct) * iN c0 ct + i % iN c0 ct := by
  obtain ⟨f1, f2, f3, f4⟩ := at_find hs hi
  have hW : 0 < iN c0 ct := Nat.pos_of_ne_zero fun e => by rw [e, Nat.mul_zero] at hi; omega
  have hR : i / iN c0 ct < cN c0 := Nat.div_lt_of_lt_mul (by rwa [Nat.mul_comm])
  have hv : ownV k n o c0 ct (ithX (c0 :: ct) i) = own k n o (cN c0) (i / iN c0 ct) := by unfold ownV; rw [f4]; rfl
  refine ⟨hW, hR, hv, own_lt hk hR, ow_mem.2 ⟨hR, rfl⟩, ?_⟩
  unfold locV
  rw [hv, f4, f3]; rfl
theorem loc_at {k : Kd} {n o : Nat} (hk : OkDs k n o) {c0 : Rg} {ct : List Rg} (hs : SpOk c0 ct) {i : Nat} (hi : i < cN c0 * iN c0 ct) :
    locV k n o c0 ct (ithX (c0 :: ct) i) < (ow k n o (cN c0) (own k n o (cN c0) (i / iN c0 ct))).length * iN c0 ct ∧ globB k n o c0 ct (own k n o (cN c0) (i / iN c0 ct)) (locV k n o c0 ct (ithX (c0 :: ct) i)) ∧
    globX k n o c0 ct (own k n o (cN c0) (i / iN c0 ct)) (locV k n o c0 ct (ithX (c0 :: ct) i)) = ithX (c0 :: ct) i := by
  obtain ⟨h1, h2, h3, h4, h5, h6⟩ := own_at hk hs hi
  rw [h6]
  generalize ho : own k n o (cN c0) (i / iN c0 ct) = p at *
  obtain ⟨q, hq, q1, q2, q3⟩ := idx_of h5
  rw [← hq]
  have hm := Nat.mod_lt i h1
  have e1 : (q * iN c0 ct + i % iN c0 ct) / iN c0 ct = q := by
    rw [Nat.mul_comm, Nat.mul_add_div h1, Nat.div_eq_of_lt hm, Nat.add_zero]
  have e2 : (q * iN c0 ct + i % iN c0 ct) % iN c0 ct = i % iN c0 ct := by
    rw [Nat.mul_comm, Nat.mul_add_mod, Nat.mod_mod]
  refine ⟨?_, ⟨by omega, by rw [e1]; exact q1⟩, ?_⟩
  · have := Nat.mul_le_mul_right (iN c0 ct) (show q + 1 ≤ (ow k n o (cN c0) p).length by omega)
    rw [Nat.add_mul, Nat.one_mul] at this
    omega
  · unfold globX
    rw [e1, e2, getD_at q1, q2]
    congr 1
    have := Nat.div_add_mod i (iN c0 ct)
    rw [Nat.mul_comm] at this
    exact this
/-! ### Load -/
def loadJ (k : Kd) (n o R W j : Nat) : List Int := (List.range o).map fun p => (((cntF (own k n o R) j p) * W : Nat) : Int)
def loadsL (k : Kd) (n o R W : Nat) : List Int := loadJ k n o R W R
theorem loadJ_len (k : Kd) (n o R W j : Nat) : (loadJ k n o R W j).length = o := by simp [loadJ]
theorem set_range {g g' : Nat → Int} {o w : Nat} (hw : w < o) (h : ∀ p, p < o → p ≠ w → g' p = g p) : (List.range o).map g' = ((List.range o).map g).set w (g' w) := by
  refine List.ext_getElem (by simp) fun i h1 h2 => ?_
  rw [List.getElem_set]
  have hi : i < o := by simpa using h1
  by_cases e : w = i
  · subst e; rw [if_pos rfl]; simp
  · rw [if_neg e]; simp; exact h i hi (fun e' => e e'.symm)
theorem loadJ_step {k : Kd} {n o R W j : Nat} (h : own k n o R j < o) :
    (intsD (loadJ k n o R W j))[(((own k n o R j : Nat) : Int).toNat) * 1]? = some (iD ((cntF (own k n o R) j (own k n o R j) * W : Nat) : Int)) ∧
    intsD (loadJ k n o R W (j + 1)) = (intsD (loadJ k n o R W j)).set ((((own k n o R j : Nat) : Int).toNat) * 1) (iD (((cntF (own k n o R) j (own k n o R j) * W : Nat) : Int) + (W : Nat))) := by
  rw [Int.toNat_natCast, Nat.mul_one]
  generalize hw : own k n o R j = w at *
  constructor
  · unfold loadJ intsD
    simp [h]
  · have e := set_range (g := fun p => (((cntF (own k n o R) j p) * W : Nat) : Int)) (g' := fun p => (((cntF (own k n o R) (j + 1) p) * W : Nat) : Int)) h (fun p hp hne => by
      rw [cntF_succ, if_neg (by rw [hw]; exact fun e => hne e.symm), Nat.add_zero])
    have e2 : loadJ k n o R W (j + 1) = (loadJ k n o R W j).set w (((cntF (own k n o R) (j + 1) w) * W : Nat) : Int) := e
    rw [e2]
    unfold intsD
    rw [List.map_set]
    congr 2
    rw [cntF_succ, if_pos hw, Nat.add_mul, Nat.one_mul]
    omega
theorem loadJ_0 (k : Kd) (n o R W : Nat) : intsD (loadJ k n o R W 0) = List.replicate o (iD 0) := by
  unfold loadJ intsD
  simp only [cntF_0, Nat.zero_mul, List.map_map]
  rw [List.eq_replicate_iff]
  refine ⟨by simp, fun d hd => ?_⟩
  obtain ⟨i, _, rfl⟩ := List.mem_map.1 hd
  rfl
theorem Load_bad {s : ByteArray} {n o : Int} {rs : List Rg} (h : errD s n o rs ≠ 0) : DC Try.prog 61 [dsD s n o, domD rs] (.tup [rowI [], iD (errD s n o rs)]) := by
  have B := begin_bad h
  generalize errD s n o rs = e at *
  refine DC.of Try.func61 Try.ntmps61 Try.results61 rfl (by decide +kernel) rfl ?_
  repeat (first | refine Z1 ?_ | refine Z2 ?_ | (refine Z3 ?_; (repeat (first | (apply gS; first | refine go_f ?_ | refine gx ?_ | refine gm ?_ | refine gp ?_ | refine go_c rfl rfl (B) ?_ | refine go_cF rfl rfl (B) ?_ | refine go_cA rfl rfl (B) ?_) | (apply gZ; first | refine go_f ?_ | refine gx ?_ | refine gm ?_))); refine T_nil ?_) | (apply ZR; (try dsimp only [List.map_cons, List.map_nil]); refine C_dr mixed ?_; (repeat (first | (apply vS; first | refine va ?_ | refine vp ?_ | refine vr ?_ | refine vt ?_ | refine vc (B) ?_ | refine vcF (B) ?_) | (apply vZ; first | refine vs ?_ | refine vw ?_))); refine W_e ?_) | (apply ZK; first | refine Z4 ?_ | refine Z5 ?_) | refine Z6 ?_ | refine Z7 ?_ | refine Z8 ?_ | refine Z9 ?_ | refine ZA ?_ | refine ZB ?_ | refine ZC ?_ | refine ZD ?_ | refine ZE ?_ | refine ZF ?_ | refine ZG ?_ | refine ZH ?_)
  repeat (first | refine kEnd_m ?_ | refine kEnd_f ?_)
  refine kEnd_g ?_ (by first | exact .inl rfl | exact .inr rfl)
  exact Sub.tup (.cons Sub.nil (.cons (Sub.eq rfl rfl) .nil))
set_option maxHeartbeats 8000000 in
theorem Load_ok {s : ByteArray} {k : Kd} {n o : Nat} (hk : Okd s k n o) {rs : List Rg} {c0 : Rg} {ct : List Rg} (hd : domB rs = true) (hc : canonRs rs = c0 :: ct) (hs : SpOk c0 ct) :
    DC Try.prog 61 [dsD s n o, domD rs] (.tup [rowI (loadsL k n o (cN c0) (iN c0 ct)), iD 0]) := by
  have B := begin_d hk hd hc hs
  have h8 := hk.ok.o8
  have h1 := hk.ok.o1
  have hfew := hs.few
  have hml := memN_len c0
  have hP : cN c0 * iN c0 ct ≤ 4096 := by rw [iN_mul]; exact (domB_iff.1 hs.dom).2.2
  have hO := fun i (hi : i < cN c0) => own_lt hk.ok hi
  have hS := fun j (hj : j < cN c0) => loadJ_step (W := iN c0 ct) (hO j hj)
  have hB : ∀ j (hj : j < cN c0) p, cntF (own k n o (cN c0)) j p * iN c0 ct ≤ 4096 := fun j hj p => by
    have := Nat.mul_le_mul_right (iN c0 ct) (Nat.le_trans (cntF_le (own k n o (cN c0)) j p) (Nat.le_of_lt hj))
    omega
  have hW : ∀ j, j < cN c0 → iN c0 ct ≤ 4096 := fun j hj => Nat.le_trans (Nat.le_mul_of_pos_left _ (by omega)) hP
  have h0 := loadJ_0 k n o (cN c0) (iN c0 ct)
  have eo : rowI (loadsL k n o (cN c0) (iN c0 ct)) = .row o (intsD (loadJ k n o (cN c0) (iN c0 ct) (cN c0))) := by show D.row _ _ = _; rw [loadsL, loadJ_len]
  have hLl : ∀ j, (intsD (loadJ k n o (cN c0) (iN c0 ct) j)).length = o := fun j => by rw [intsD, List.length_map, loadJ_len]
  have C := fun i (hi : i < cN c0) => owner_d hk (c0 :: ct) (memN c0) (iN c0 ct) (i := i) (by rw [hml]; exact hi) (by omega)
  simp only [hml] at C
  rw [eo]
  rw [spD] at B
  clear hk hs eo
  generalize memN c0 = ml at *
  generalize hL : loadJ k n o (cN c0) (iN c0 ct) = L at *
  clear hL
  generalize iN c0 ct = W at *
  generalize cN c0 = R at *
  subst hml
  refine DC.of Try.func61 Try.ntmps61 Try.results61 rfl (by decide +kernel) rfl ?_
  repeat (first | refine Z1 ?_ | refine Z2 ?_ | (refine Z3 ?_; (repeat (first | (apply gS; first | refine go_f ?_ | refine gx ?_ | refine gm ?_ | refine gp ?_ | refine go_c rfl rfl (B) ?_ | refine go_cF rfl rfl (B) ?_ | refine go_cA rfl rfl (B) ?_) | (apply gZ; first | refine go_f ?_ | refine gx ?_ | refine gm ?_))); refine T_nil ?_) | (apply ZR; (try dsimp only [List.map_cons, List.map_nil]); refine C_dr mixed ?_; (repeat (first | (apply vS; first | refine va ?_ | refine vp ?_ | refine vr ?_ | refine vt ?_ | refine vc (B) ?_ | refine vcF (B) ?_) | (apply vZ; first | refine vs ?_ | refine vw ?_))); refine W_e ?_) | (apply ZK; first | refine Z4 ?_ | refine Z5 ?_) | refine Z6 ?_ | refine Z7 ?_ | refine Z8 ?_ | refine Z9 ?_ | refine ZA ?_ | refine ZB ?_ | refine ZC ?_ | refine ZD ?_ | refine ZE ?_ | refine ZF ?_ | refine ZG ?_ | refine ZH ?_)
  refine C_count ml.length (fun _ => True) (fun j => ⟨3, 44, [(27, iD j), (26, iD ml.length), (8, .own 2 o), (6, spO s n o (c0 :: ct) ml W)], [(2, some ⟨3, 1, o, intsD (L j)⟩)]⟩) ?_ trivial ?_
  · rw [h0]
    exact Wk.gx (fun b => b)
  · intro j hj _
    by_cases hlt : j < ml.length
    · have D1 := C j hlt
      have w1 := hO j hlt
      obtain ⟨g1, en⟩ := hS j hlt
      have b1 := hB j hlt (own k n o ml.length j)
      have b2 := hW j hlt
      have b3 := hLl j
      clear hS C hO hB hW h0 hLl
      generalize cntF (own k n o ml.length) j (own k n o ml.length j) * W = v at *
      generalize own k n o ml.length j = w at *
      repeat (first | refine Z1 ?_ | refine Z2 ?_ | (refine Z3 ?_; (repeat (first | (apply gS; first | refine go_f ?_ | refine gx ?_ | refine gm ?_ | refine gp ?_ | refine go_c rfl rfl (D1) ?_ | refine go_cF rfl rfl (D1) ?_ | refine go_cA rfl rfl (D1) ?_) | (apply gZ; first | refine go_f ?_ | refine gx ?_ | refine gm ?_))); refine T_nil ?_) | (apply ZR; (try dsimp only [List.map_cons, List.map_nil]); refine C_dr mixed ?_; (repeat (first | (apply vS; first | refine va ?_ | refine vp ?_ | refine vr ?_ | refine vt ?_ | refine vc (D1) ?_ | refine vcF (D1) ?_) | (apply vZ; first | refine vs ?_ | refine vw ?_))); refine W_e ?_) | (apply ZK; first | refine Z4 ?_ | refine Z5 ?_) | refine Z6 ?_ | refine Z7 ?_ | refine Z8 ?_ | refine Z9 ?_ | refine ZA ?_ | refine ZB ?_ | refine ZC ?_ | refine ZD ?_ | refine ZE ?_ | refine ZF ?_ | refine ZG ?_ | refine ZH ?_)
      refine kLoop_n ⟨hlt, trivial, ?_⟩
      exact Wk.gx (fun b => b)
    · obtain rfl : j = ml.length := by omega
      repeat (first | refine Z1 ?_ | refine Z2 ?_ | (refine Z3 ?_; (repeat (first | (apply gS; first | refine go_f ?_ | refine gx ?_ | refine gm ?_ | refine gp ?_) | (apply gZ; first | refine go_f ?_ | refine gx ?_ | refine gm ?_))); refine T_nil ?_) | (apply ZR; (try dsimp only [List.map_cons, List.map_nil]); refine C_dr mixed ?_; (repeat (first | (apply vS; first | refine va ?_ | refine vp ?_ | refine vr ?_ | refine vt ?_) | (apply vZ; first | refine vs ?_ | refine vw ?_))); refine W_e ?_) | (apply ZK; first | refine Z4 ?_ | refine Z5 ?_) | refine Z6 ?_ | refine Z7 ?_ | refine Z8 ?_ | refine Z9 ?_ | refine ZA ?_ | refine ZB ?_ | refine ZC ?_ | refine ZD ?_ | refine ZE ?_ | refine ZF ?_ | refine ZG ?_ | refine ZH ?_)
      repeat (first | refine kEnd_m ?_ | refine kEnd_f ?_)
      refine kEnd_g ?_ (by first | exact .inl rfl | exact .inr rfl)
      exact Sub.eq rfl rfl
/-! ### First and Large of the laws -/
theorem large7_d (d : List Rg) : ∃ b, DC Try.prog 58 [domD d] (bD b) := by
  have C := rdCount_d d
  generalize dCountRes d = c at *
  obtain ⟨n, e⟩ := c
  dsimp only at C
  by_cases h0 : 20 < d.length
  · refine ⟨true, ?_⟩
    refine DC.of Try.func58 Try.ntmps58 Try.results58 rfl (by decide +kernel) rfl ?_
    repeat (first | refine Z1 ?_ | refine Z2 ?_ | (refine Z3 ?_; (repeat (first | (apply gS; first | refine go_no ?_ | refine go_f ?_ | refine gx ?_ | refine gm ?_ | refine gp ?_ | refine go_c rfl rfl (C) ?_ | refine go_cF rfl rfl (C) ?_ | refine go_cA rfl rfl (C) ?_))); refine T_nil ?_) | (apply ZK; first | refine Z4 ?_ | refine Z5 ?_) | refine Z6 ?_ | refine Z7 ?_ | refine ZF ?_)
    repeat (first | refine kEnd_m ?_ | refine kEnd_f ?_)
    refine kEnd_g ?_ (by first | exact .inl rfl | exact .inr rfl)
    exact Sub.eq rfl rfl
  by_cases h1 : e = 0
  · by_cases h : 300 < n
    · refine ⟨true, ?_⟩
      refine DC.of Try.func58 Try.ntmps58 Try.results58 rfl (by decide +kernel) rfl ?_
      repeat (first | refine Z1 ?_ | refine Z2 ?_ | (refine Z3 ?_; (repeat (first | (apply gS; first | refine go_no ?_ | refine go_f ?_ | refine gx ?_ | refine gm ?_ | refine gp ?_ | refine go_c rfl rfl (C) ?_ | refine go_cF rfl rfl (C) ?_ | refine go_cA rfl rfl (C) ?_))); refine T_nil ?_) | (apply ZK; first | refine Z4 ?_ | refine Z5 ?_) | refine Z6 ?_ | refine Z7 ?_ | refine ZF ?_)
      repeat (first | refine kEnd_m ?_ | refine kEnd_f ?_)
      refine kEnd_g ?_ (by first | exact .inl rfl | exact .inr rfl)
      exact Sub.eq rfl rfl
    · refine ⟨false, ?_⟩
      refine DC.of Try.func58 Try.ntmps58 Try.results58 rfl (by decide +kernel) rfl ?_
      repeat (first | refine Z1 ?_ | refine Z2 ?_ | (refine Z3 ?_; (repeat (first | (apply gS; first | refine go_no ?_ | refine go_f ?_ | refine gx ?_ | refine gm ?_ | refine gp ?_ | refine go_c rfl rfl (C) ?_ | refine go_cF rfl rfl (C) ?_ | refine go_cA rfl rfl (C) ?_))); refine T_nil ?_) | (apply ZK; first | refine Z4 ?_ | refine Z5 ?_) | refine Z6 ?_ | refine Z7 ?_ | refine ZF ?_)
      repeat (first | refine kEnd_m ?_ | refine kEnd_f ?_)
      refine kEnd_g ?_ (by first | exact .inl rfl | exact .inr rfl)
      exact Sub.eq rfl rfl
  · refine ⟨false, ?_⟩
    refine DC.of Try.func58 Try.ntmps58 Try.results58 rfl (by decide +kernel) rfl ?_
    repeat (first | refine Z1 ?_ | refine Z2 ?_ | (refine Z3 ?_; (repeat (first | (apply gS; first | refine go_no ?_ | refine go_f ?_ | refine gx ?_ | refine gm ?_ | refine gp ?_ | refine go_c rfl rfl (C) ?_ | refine go_cF rfl rfl (C) ?_ | refine go_cA rfl rfl (C) ?_))); refine T_nil ?_) | (apply ZK; first | refine Z4 ?_ | refine Z5 ?_) | refine Z6 ?_ | refine Z7 ?_ | refine ZF ?_)
    repeat (first | refine kEnd_m ?_ | refine kEnd_f ?_)
    refine kEnd_g ?_ (by first | exact .inl rfl | exact .inr rfl)
    exact Sub.eq rfl rfl
abbrev rgF : Rg := ⟨1, 10, 1⟩
theorem cnF : canonRs [rgF] = rgF :: [] := by kernel_rfl
theorem spF : SpOk rgF [] := ⟨by decide +kernel, cnF, by decide +kernel, by decide +kernel⟩
theorem okF1 : Okd (kb .block) .block 0 3 := ⟨⟨by decide, by decide, (fun h => by cases h), by decide, fun _ => rfl⟩, rfl⟩
theorem okF2 : Okd (kb .blocks) .blocks 2 3 := ⟨⟨by decide, by decide, (fun _ => by decide), by decide, fun h => absurd rfl h⟩, rfl⟩
theorem first7_d : DC Try.prog 59 [] (bD true) := by
  have L := Load_ok okF1 (rs := [rgF]) (c0 := rgF) (ct := []) (by decide +kernel) cnF spF
  rw [show loadsL .block 0 3 (cN rgF) (iN rgF []) = [4, 3, 3] by decide +kernel] at L
  have O := Owner_d okF2 (rs := [rgF]) (c0 := rgF) (ct := []) (by decide +kernel) cnF spF [9]
  rw [show ownV .blocks 2 3 rgF [] [9] = 1 by decide +kernel, show (findRes rgF [] [9]).2 = 0 by decide +kernel] at O
  have S := sameInts_d [4, 3, 3] [4, 3, 3] (by decide)
  rw [decide_eq_true rfl] at S
  refine DC.of Try.func59 Try.ntmps59 Try.results59 rfl (by decide +kernel) rfl ?_
  repeat (first | refine Z1 ?_ | refine Z2 ?_ | (refine Z3 ?_; (repeat (first | (apply gS; first | refine go_no ?_ | refine go_f ?_ | refine gx ?_ | refine gm ?_ | refine gp ?_ | refine go_c rfl rfl (L) ?_ | refine go_cF rfl rfl (L) ?_ | refine go_cA rfl rfl (L) ?_ | refine go_c rfl rfl (O) ?_ | refine go_cF rfl rfl (O) ?_ | refine go_cA rfl rfl (O) ?_ | refine go_c rfl rfl (S) ?_ | refine go_cF rfl rfl (S) ?_ | refine go_cA rfl rfl (S) ?_) | (apply gZ; first | refine go_f ?_ | refine gx ?_ | refine gm ?_))); refine T_nil ?_) | (apply ZK; first | refine Z4 ?_ | refine Z5 ?_) | refine Z6 ?_ | refine Z7 ?_)
  repeat (first | refine kEnd_m ?_ | refine kEnd_f ?_)
  refine kEnd_g ?_ (by first | exact .inl rfl | exact .inr rfl)
  exact Sub.eq rfl rfl
end Go.Proofs.Ytifapodobhkdcaa
