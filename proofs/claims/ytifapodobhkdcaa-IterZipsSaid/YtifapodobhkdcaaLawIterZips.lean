/- The law IterZips returns true for every input: which indexes of several domains come together, place by place. -/
import Derived.Test.YtifapodobhkdcaaBag
import Derived.Test.YtifapodobhkdcaaF5
import Derived.Test.YtifapodobhkdcaaSlc
import Derived.Test.YtifapodobhkdcaaTen
import Derived.Test.YtifapodobhkdcaaCameT
namespace Go.Proofs.Ytifapodobhkdcaa.iterZips
open Go.RowKit Go.Proofs.Ytifapodobhkdcaa
set_option linter.unusedVariables false
set_option maxHeartbeats 16000000
set_option linter.unusedSimpArgs false
set_option maxRecDepth 100000
theorem rvalid8_d (ls : List (List Rg)) (hl : ls.length ≤ 1000000) : DC Try.prog 113 [domsD ls] (bD (ls.all domB)) := by
  have V := fun k (h : k < ls.length) => rdValid_b ls[k] (b := domB ls[k]) rfl
  rcases first_bad domB ls with hall | ⟨q, hq, hb, hmin⟩
  · rw [all_yes hall]
    refine DC.of Try.func113 Try.ntmps113 Try.results113 rfl (by decide +kernel) rfl ?_
    repeat (first | refine Z1 ?_ | refine Z2 ?_ | (refine Z3 ?_; (repeat (first | (apply gS; first | refine go_f ?_ | refine gx ?_ | refine gm ?_ | refine gp ?_))); refine T_nil ?_) | (apply ZK; first | refine Z4 ?_ | refine Z5 ?_) | refine Z6 ?_ | refine Z7 ?_ | refine Z8 ?_ | refine Z9 ?_ | refine ZA ?_ | refine ZB ?_ | refine ZC ?_ | refine ZD ?_ | refine ZE ?_ | refine ZF ?_ | refine ZG ?_ | refine ZH ?_)
    refine C_count ls.length (fun _ => True) (fun k => ⟨0, 16, [(3, iD k), (0, domsD ls)], []⟩) ?_ trivial ?_
    · exact Wk.gx (fun b => b)
    · intro k hk _
      by_cases hlt : k < ls.length
      · have v := V k hlt
        rw [hall k hlt] at v
        clear V hall
        repeat (first | refine Z1 ?_ | refine Z2 ?_ | (refine Z3 ?_; (repeat (first | (apply gS; first | refine go_f ?_ | refine gx ?_ | refine gm ?_ | refine gp ?_ | refine go_c rfl rfl (v) ?_ | refine go_cF rfl rfl (v) ?_ | refine go_cA rfl rfl (v) ?_))); refine T_nil ?_) | (apply ZK; first | refine Z4 ?_ | refine Z5 ?_) | refine Z6 ?_ | refine Z7 ?_ | refine Z8 ?_ | refine Z9 ?_ | refine ZA ?_ | refine ZB ?_ | refine ZC ?_ | refine ZD ?_ | refine ZE ?_ | refine ZF ?_ | refine ZG ?_ | refine ZH ?_)
        refine kLoop_n ⟨hlt, trivial, ?_⟩
        exact Wk.gx (fun b => b)
      · obtain rfl : k = ls.length := by omega
        clear V hall
        repeat (first | refine Z1 ?_ | refine Z2 ?_ | (refine Z3 ?_; (repeat (first | (apply gS; first | refine go_f ?_ | refine gx ?_ | refine gm ?_ | refine gp ?_))); refine T_nil ?_) | (apply ZK; first | refine Z4 ?_ | refine Z5 ?_) | refine Z6 ?_ | refine Z7 ?_ | refine Z8 ?_ | refine Z9 ?_ | refine ZA ?_ | refine ZB ?_ | refine ZC ?_ | refine ZD ?_ | refine ZE ?_ | refine ZF ?_ | refine ZG ?_ | refine ZH ?_)
        repeat (first | refine kEnd_m ?_ | refine kEnd_f ?_)
        refine kEnd_g ?_ (by first | exact .inl rfl | exact .inr rfl)
        exact Sub.eq rfl rfl
  · rw [all_no hq hb]
    refine DC.of Try.func113 Try.ntmps113 Try.results113 rfl (by decide +kernel) rfl ?_
    repeat (first | refine Z1 ?_ | refine Z2 ?_ | (refine Z3 ?_; (repeat (first | (apply gS; first | refine go_f ?_ | refine gx ?_ | refine gm ?_ | refine gp ?_))); refine T_nil ?_) | (apply ZK; first | refine Z4 ?_ | refine Z5 ?_) | refine Z6 ?_ | refine Z7 ?_ | refine Z8 ?_ | refine Z9 ?_ | refine ZA ?_ | refine ZB ?_ | refine ZC ?_ | refine ZD ?_ | refine ZE ?_ | refine ZF ?_ | refine ZG ?_ | refine ZH ?_)
    refine C_count q (fun _ => True) (fun k => ⟨0, 16, [(3, iD k), (0, domsD ls)], []⟩) ?_ trivial ?_
    · exact Wk.gx (fun b => b)
    · intro k hk _
      have hkl : k < ls.length := by omega
      have v := V k hkl
      by_cases hlt : k < q
      · rw [hmin k hkl hlt] at v
        clear V hmin
        repeat (first | refine Z1 ?_ | refine Z2 ?_ | (refine Z3 ?_; (repeat (first | (apply gS; first | refine go_f ?_ | refine gx ?_ | refine gm ?_ | refine gp ?_ | refine go_c rfl rfl (v) ?_ | refine go_cF rfl rfl (v) ?_ | refine go_cA rfl rfl (v) ?_))); refine T_nil ?_) | (apply ZK; first | refine Z4 ?_ | refine Z5 ?_) | refine Z6 ?_ | refine Z7 ?_ | refine Z8 ?_ | refine Z9 ?_ | refine ZA ?_ | refine ZB ?_ | refine ZC ?_ | refine ZD ?_ | refine ZE ?_ | refine ZF ?_ | refine ZG ?_ | refine ZH ?_)
        refine kLoop_n ⟨hlt, trivial, ?_⟩
        exact Wk.gx (fun b => b)
      · obtain rfl : k = q := by omega
        rw [hb] at v
        clear V hmin
        repeat (first | refine Z1 ?_ | refine Z2 ?_ | (refine Z3 ?_; (repeat (first | (apply gS; first | refine go_f ?_ | refine gx ?_ | refine gm ?_ | refine gp ?_ | refine go_c rfl rfl (v) ?_ | refine go_cF rfl rfl (v) ?_ | refine go_cA rfl rfl (v) ?_))); refine T_nil ?_) | (apply ZK; first | refine Z4 ?_ | refine Z5 ?_) | refine Z6 ?_ | refine Z7 ?_ | refine Z8 ?_ | refine Z9 ?_ | refine ZA ?_ | refine ZB ?_ | refine ZC ?_ | refine ZD ?_ | refine ZE ?_ | refine ZF ?_ | refine ZG ?_ | refine ZH ?_)
        repeat (first | refine kEnd_m ?_ | refine kEnd_f ?_)
        refine kEnd_g ?_ (by first | exact .inl rfl | exact .inr rfl)
        exact Sub.eq rfl rfl
/-! ### the reference's Zip -/
def zR (ls : List (List Rg)) (c j : Nat) : List D := ((ls.take c).map fun d => ithX d j).map rowI
theorem zR_closed (ls : List (List Rg)) (c j : Nat) : D.idsL (fun _ => false) (zR ls c j) = true := idsL_map (fun _ => rfl) _
theorem zR_0 (ls : List (List Rg)) (j : Nat) : zR ls 0 j = [] := rfl
def zl (i k : Nat) : Nat → Nat := fun j => cond (Nat.blt j k) (i + 1) i
theorem zl_k (i k : Nat) : zl i k k = i := by show cond (Nat.blt k k) _ _ = _; rw [blt_n (Nat.le_refl _)]; rfl
theorem zl_k1 (i k : Nat) : zl i (k + 1) k = i + 1 := by show cond (Nat.blt k (k + 1)) _ _ = _; rw [blt_y (Nat.lt_succ_self _)]; rfl
theorem zl_o (i k j : Nat) (h : j ≠ k) : zl i (k + 1) j = zl i k j := by
  show cond (Nat.blt j (k + 1)) _ _ = cond (Nat.blt j k) _ _
  by_cases hlt : j < k
  · rw [blt_y hlt, blt_y (by omega)]
  · rw [blt_n (by omega), blt_n (by omega)]
theorem zl_0 (i j : Nat) : zl i 0 j = i := by show cond (Nat.blt j 0) _ _ = _; rw [blt_n (Nat.zero_le _)]; rfl
theorem zl_n (i n j : Nat) (h : j < n) : zl i n j = zl (i + 1) 0 j := by
  rw [zl_0]
  show cond (Nat.blt j n) _ _ = _
  rw [blt_y h]; rfl
theorem rzip_c (ls : List (List Rg)) (hl : ls.length ≤ 8) (hp : 0 < ls.length) (n N : Nat) (hn : n ≤ 4096) (hall : ∀ j (h : j < ls.length), domB ls[j] = true) (hn0 : cnt (ls[0]'hp) = n) (hN : N ≤ ls.length) (hs : ∀ j (h : j < ls.length), j < N → cnt ls[j] = n)
    (r : List (List (List Int)) × Int) (hr : (N = ls.length ∧ r = (zipL ls n, 0)) ∨ (∃ h : N < ls.length, cnt ls[N] ≠ n ∧ r = ([], 80))) : DC Try.prog 36 [domsD ls] (.tup [rowL3 r.1, iD r.2]) := by
  have V := rvalid8_d ls (by omega)
  rw [List.all_eq_true.2 fun d hd => by obtain ⟨j, hj, rfl⟩ := List.mem_iff_getElem.1 hd; exact hall j hj] at V
  have C0 := rCount4_ok (hall 0 hp)
  rw [hn0] at C0
  have X : ∀ i (h : i < ls.length), ∃ L2 : List (List Int), L2.length = cnt ls[i] ∧ (∀ k (h : k < L2.length), L2[k] = ithX ls[i] k) ∧ DC Try.prog 114 [domD ls[i]] (.tup [rowL2 L2, iD 0]) := fun i h => ⟨idxs ls[i], idxs_len _, fun k hk => by
    have := idxs_get ls[i] k (by rwa [idxs_len] at hk)
    rw [List.getElem?_eq_getElem hk] at this
    exact Option.some.inj this, rIndexes_ok (hall i h)⟩
  clear hall hn0
  refine DC.of Try.func36 Try.ntmps36 Try.results36 rfl (by decide +kernel) rfl ?_
  repeat (first | refine Z1 ?_ | refine Z2 ?_ | (refine Z3 ?_; (repeat (first | (apply gS; first | refine go_f ?_ | refine gx ?_ | refine gm ?_ | refine gp ?_ | refine go_c rfl rfl (V) ?_ | refine go_cF rfl rfl (V) ?_ | refine go_cA rfl rfl (V) ?_ | refine go_c rfl rfl (C0) ?_ | refine go_cF rfl rfl (C0) ?_ | refine go_cA rfl rfl (C0) ?_) | (apply gZ; first | refine go_f ?_ | refine gx ?_ | refine gm ?_))); refine T_nil ?_) | (apply ZR; (try dsimp only [List.map_cons, List.map_nil]); refine C_dr mixed ?_; (repeat (first | (apply vS; first | refine va ?_ | refine vp ?_ | refine vr ?_ | refine vt ?_ | refine vc (V) ?_ | refine vcF (V) ?_ | refine vc (C0) ?_ | refine vcF (C0) ?_) | (apply vZ; first | refine vs ?_ | refine vw ?_))); refine W_e ?_) | (apply ZK; first | refine Z4 ?_ | refine Z5 ?_) | refine Z6 ?_ | refine Z7 ?_ | refine Z8 ?_ | refine Z9 ?_ | refine ZA ?_ | refine ZB ?_ | refine ZC ?_ | refine ZD ?_ | refine ZE ?_ | refine ZF ?_ | refine ZG ?_ | refine ZH ?_)
  refine C_count N (fun _ => True) (fun i => ⟨n + 1, 63, [(7, iD i), (6, .own 0 n), (4, iD n), (0, domsD ls)], (0, some ⟨28, 1, n, outC (zl i 0) n⟩) :: bagL 25 (zR ls) (zl i 0) n⟩) ?_ trivial ?_
  · refine Wk.trans (Wk.slots (.cons (t := 7) (d' := iD 0) rfl (Ren.im rfl) (.cons (t := 6) (d' := .own 0 n) rfl (Ren.own rfl rfl rfl) (.cons (t := 4) (d' := iD n) rfl (Ren.im rfl) (.cons (t := 0) (d' := domsD ls) rfl (Ren.im rfl) .nil))))) ?_
    rw [out_congr (L := zl 0 0) (L' := fun _ => 0) fun j _ => zl_0 0 j, bag_congr (L := zl 0 0) (L' := fun _ => 0) fun j _ => zl_0 0 j]
    exact Wk.bagIn (zR_0 ls)
  · intro i hi _
    by_cases hiN : i < N
    · have hil : i < ls.length := by omega
      obtain ⟨L2, hL2, hx, I⟩ := X i hil
      rw [hs i hil hiN] at hL2
      clear X hs hr C0 V
      repeat (first | refine Z1 ?_ | refine Z2 ?_ | (refine Z3 ?_; (repeat (first | (apply gS; first | refine go_f ?_ | refine gx ?_ | refine gm ?_ | refine gp ?_ | refine go_c rfl rfl (I) ?_ | refine go_cF rfl rfl (I) ?_ | refine go_cA rfl rfl (I) ?_) | (apply gZ; first | refine go_f ?_ | refine gx ?_ | refine gm ?_))); refine T_nil ?_) | (apply ZR; (try dsimp only [List.map_cons, List.map_nil]); refine C_dr mixed ?_; (repeat (first | (apply vS; first | refine va ?_ | refine vp ?_ | refine vr ?_ | refine vt ?_ | refine vc (I) ?_ | refine vcF (I) ?_) | (apply vZ; first | refine vs ?_ | refine vw ?_))); refine W_e ?_) | (apply ZK; first | refine Z4 ?_ | refine Z5 ?_) | refine Z6 ?_ | refine Z7 ?_ | refine Z8 ?_ | refine Z9 ?_ | refine ZA ?_ | refine ZB ?_ | refine ZC ?_ | refine ZD ?_ | refine ZE ?_ | refine ZF ?_ | refine ZG ?_ | refine ZH ?_)
      refine C_count n (fun _ => True) (fun k => ⟨n + 1, 63, [(10, iD k), (8, rowL2 L2), (7, iD i), (6, .own 0 n), (4, iD n), (0, domsD ls)], (0, some ⟨28, 1, n, outC (zl i k) n⟩) :: bagL 25 (zR ls) (zl i k) n⟩) ?_ trivial ?_
      · skip
        exact Wk.slots (by repeat (first | exact WkT.nil | refine WkT.cons rfl (Ren.im rfl) ?_ | refine WkT.cons rfl (Ren.own rfl rfl rfl) ?_))
      · intro k hk _
        by_cases hkn : k < n
        · have hg1 := outc_at' (zl i k) hkn
          rw [zl_k] at hg1
          have hb1 : getM (k + 1) ((0, some ⟨28, 1, n, outC (zl i k) n⟩) :: bagL 25 (zR ls) (zl i k) n) = some ⟨25, 1, i, zR ls i k⟩ := by
            rw [getM_past (by omega), getM_bag hkn, zl_k]
          have hkL : k < L2.length := by omega
          have hxk := hx k hkL
          have hol : (outC (zl i k) n).length = n := out_len _ _
          repeat (first | refine Z1 ?_ | refine Z2 ?_ | (refine Z3 ?_; (repeat (first | (apply gS; first | refine go_f ?_ | refine gx ?_ | refine gm ?_ | refine gp ?_) | (apply gZ; first | refine go_f ?_ | refine gx ?_ | refine gm ?_))); refine T_nil ?_) | (apply ZR; (try dsimp only [List.map_cons, List.map_nil]); refine C_dr mixed ?_; (repeat (first | (apply vS; first | refine va ?_ | refine vp ?_ | refine vr ?_ | refine vt ?_) | (apply vZ; first | refine vs ?_ | refine vw ?_))); refine W_e ?_) | (apply ZK; first | refine Z4 ?_ | refine Z5 ?_) | refine Z6 ?_ | refine Z7 ?_ | refine Z8 ?_ | refine Z9 ?_ | refine ZA ?_ | refine ZB ?_ | refine ZC ?_ | refine ZD ?_ | refine ZE ?_ | refine ZF ?_ | refine ZG ?_ | refine ZH ?_)
          apply ZR
          refine C_dr mixed ?_
          repeat (apply vS; first | refine vp ?_ | refine vr ?_)
          refine v2T (j := 12) (fun extra => ⟨fun _ _ k => T_push rfl rfl hb1 rfl rfl rfl rfl rfl (by omega) (by omega) k⟩) rfl rfl ?_
          repeat (apply vS; first | refine vp ?_ | refine vr ?_)
          refine v1N (j := 14) (fun extra => ⟨fun _ _ k => T_storeOne rfl rfl rfl rfl TySz.size rfl (by rw [hol]; omega) rfl k⟩) rfl rfl ?_
          refine W_e ?_
          repeat (first | refine Z1 ?_ | refine Z2 ?_ | (refine Z3 ?_; (repeat (first | (apply gS; first | refine go_f ?_ | refine gx ?_ | refine gm ?_ | refine gp ?_) | (apply gZ; first | refine go_f ?_ | refine gx ?_ | refine gm ?_))); refine T_nil ?_) | (apply ZR; (try dsimp only [List.map_cons, List.map_nil]); refine C_dr mixed ?_; (repeat (first | (apply vS; first | refine va ?_ | refine vp ?_ | refine vr ?_ | refine vt ?_) | (apply vZ; first | refine vs ?_ | refine vw ?_))); refine W_e ?_) | (apply ZK; first | refine Z4 ?_ | refine Z5 ?_) | refine Z6 ?_ | refine Z7 ?_ | refine Z8 ?_ | refine Z9 ?_ | refine ZA ?_ | refine ZB ?_ | refine ZC ?_ | refine ZD ?_ | refine ZE ?_ | refine ZF ?_ | refine ZG ?_ | refine ZH ?_)
          refine kLoop_n ⟨hkn, trivial, ?_⟩
          have hy : zR ls (i + 1) k = zR ls i k ++ [rowI L2[k]] := by
            rw [hxk]; exact ith_snoc hil k
          exact Wk.bagPush (c := i + 1) hkn (zR_closed ls) (fun j hj => zl_o i k j hj) (zl_k1 i k) hy (by repeat (first | exact WkT.nil | refine WkT.cons rfl (Ren.im rfl) ?_ | refine WkT.cons rfl (Ren.own rfl rfl rfl) ?_))
        · obtain rfl : k = n := by omega
          repeat (first | refine Z1 ?_ | refine Z2 ?_ | (refine Z3 ?_; (repeat (first | (apply gS; first | refine go_f ?_ | refine gx ?_ | refine gm ?_ | refine gp ?_) | (apply gZ; first | refine go_f ?_ | refine gx ?_ | refine gm ?_))); refine T_nil ?_) | (apply ZR; (try dsimp only [List.map_cons, List.map_nil]); refine C_dr mixed ?_; (repeat (first | (apply vS; first | refine va ?_ | refine vp ?_ | refine vr ?_ | refine vt ?_) | (apply vZ; first | refine vs ?_ | refine vw ?_))); refine W_e ?_) | (apply ZK; first | refine Z4 ?_ | refine Z5 ?_) | refine Z6 ?_ | refine Z7 ?_ | refine Z8 ?_ | refine Z9 ?_ | refine ZA ?_ | refine ZB ?_ | refine ZC ?_ | refine ZD ?_ | refine ZE ?_ | refine ZF ?_ | refine ZG ?_ | refine ZH ?_)
          refine kLoop_n ⟨hiN, trivial, ?_⟩
          rw [out_congr (L := zl (i + 1) 0) (L' := zl i k) fun j hj => (zl_n i k j hj).symm, bag_congr (L := zl (i + 1) 0) (L' := zl i k) fun j hj => (zl_n i k j hj).symm]
          exact Wk.slots (by repeat (first | exact WkT.nil | refine WkT.cons rfl (Ren.im rfl) ?_ | refine WkT.cons rfl (Ren.own rfl rfl rfl) ?_))
    · obtain rfl : i = N := by omega
      rcases hr with ⟨rfl, rfl⟩ | ⟨hlt, hne, rfl⟩
      · clear X hs C0 V
        have hz : (zipL ls n).map rowL2 = (List.range n).map fun j => D.row (zl ls.length 0 j) (zR ls (zl ls.length 0 j) j) := by
          unfold zipL
          rw [List.map_map]
          refine List.map_congr_left fun j _ => ?_
          rw [zl_0]
          show D.row _ _ = D.row _ (((ls.take ls.length).map fun d => ithX d j).map rowI)
          rw [List.take_length, List.length_map]
        refine C_wk (Wk.bagOut (zR_closed ls)) ?_
        rw [← hz]
        repeat (first | refine Z1 ?_ | refine Z2 ?_ | (refine Z3 ?_; (repeat (first | (apply gS; first | refine go_f ?_ | refine gx ?_ | refine gm ?_ | refine gp ?_) | (apply gZ; first | refine go_f ?_ | refine gx ?_ | refine gm ?_))); refine T_nil ?_) | (apply ZR; (try dsimp only [List.map_cons, List.map_nil]); refine C_dr mixed ?_; (repeat (first | (apply vS; first | refine va ?_ | refine vp ?_ | refine vr ?_ | refine vt ?_) | (apply vZ; first | refine vs ?_ | refine vw ?_))); refine W_e ?_) | (apply ZK; first | refine Z4 ?_ | refine Z5 ?_) | refine Z6 ?_ | refine Z7 ?_ | refine Z8 ?_ | refine Z9 ?_ | refine ZA ?_ | refine ZB ?_ | refine ZC ?_ | refine ZD ?_ | refine ZE ?_ | refine ZF ?_ | refine ZG ?_ | refine ZH ?_)
        repeat (first | refine kEnd_m ?_ | refine kEnd_f ?_)
        refine kEnd_g ?_ (by first | exact .inl rfl | exact .inr rfl)
        exact Sub.tup (.cons (Sub.eq (by show D.row n _ = D.row (zipL ls n).length _; rw [zipL_len]) rfl) (.cons (Sub.eq rfl rfl) .nil))
      · obtain ⟨L2, hL2, hx, I⟩ := X i hlt
        rw [← hL2] at hne
        clear X hs C0 V
        repeat (first | refine Z1 ?_ | refine Z2 ?_ | (refine Z3 ?_; (repeat (first | (apply gS; first | refine go_f ?_ | refine gx ?_ | refine gm ?_ | refine gp ?_ | refine go_c rfl rfl (I) ?_ | refine go_cF rfl rfl (I) ?_ | refine go_cA rfl rfl (I) ?_) | (apply gZ; first | refine go_f ?_ | refine gx ?_ | refine gm ?_))); refine T_nil ?_) | (apply ZR; (try dsimp only [List.map_cons, List.map_nil]); refine C_dr mixed ?_; (repeat (first | (apply vS; first | refine va ?_ | refine vp ?_ | refine vr ?_ | refine vt ?_ | refine vc (I) ?_ | refine vcF (I) ?_) | (apply vZ; first | refine vs ?_ | refine vw ?_))); refine W_e ?_) | (apply ZK; first | refine Z4 ?_ | refine Z5 ?_) | refine Z6 ?_ | refine Z7 ?_ | refine Z8 ?_ | refine Z9 ?_ | refine ZA ?_ | refine ZB ?_ | refine ZC ?_ | refine ZD ?_ | refine ZE ?_ | refine ZF ?_ | refine ZG ?_ | refine ZH ?_)
        repeat (first | refine kEnd_m ?_ | refine kEnd_f ?_)
        refine kEnd_g ?_ (by first | exact .inl rfl | exact .inr rfl)
        exact Sub.tup (.cons Sub.nil (.cons (Sub.eq rfl rfl) .nil))
theorem rzip_d (ls : List (List Rg)) (hl : ls.length ≤ 8) : DC Try.prog 36 [domsD ls] (.tup [rowL3 (zipRes ls).1, iD (zipRes ls).2]) := by
  have V := rvalid8_d ls (by omega)
  unfold zipRes
  cases hv : ls.all domB with
  | false =>
    rw [hv] at V
    rw [if_neg (by decide)]
    refine DC.of Try.func36 Try.ntmps36 Try.results36 rfl (by decide +kernel) rfl ?_
    repeat (first | refine Z1 ?_ | refine Z2 ?_ | (refine Z3 ?_; (repeat (first | (apply gS; first | refine go_f ?_ | refine gx ?_ | refine gm ?_ | refine gp ?_ | refine go_c rfl rfl (V) ?_ | refine go_cF rfl rfl (V) ?_ | refine go_cA rfl rfl (V) ?_) | (apply gZ; first | refine go_f ?_ | refine gx ?_ | refine gm ?_))); refine T_nil ?_) | (apply ZR; (try dsimp only [List.map_cons, List.map_nil]); refine C_dr mixed ?_; (repeat (first | (apply vS; first | refine va ?_ | refine vp ?_ | refine vr ?_ | refine vt ?_ | refine vc (V) ?_ | refine vcF (V) ?_) | (apply vZ; first | refine vs ?_ | refine vw ?_))); refine W_e ?_) | (apply ZK; first | refine Z4 ?_ | refine Z5 ?_) | refine Z6 ?_ | refine Z7 ?_ | refine Z8 ?_ | refine Z9 ?_ | refine ZA ?_ | refine ZB ?_ | refine ZC ?_ | refine ZD ?_ | refine ZE ?_ | refine ZF ?_ | refine ZG ?_ | refine ZH ?_)
    repeat (first | refine kEnd_m ?_ | refine kEnd_f ?_)
    refine kEnd_g ?_ (by first | exact .inl rfl | exact .inr rfl)
    exact Sub.tup (.cons Sub.nil (.cons (Sub.eq rfl rfl) .nil))
  | true =>
  rw [hv] at V
  rw [if_pos rfl]
  have hall : ∀ j (h : j < ls.length), domB ls[j] = true := fun j h => List.all_eq_true.1 hv _ (List.getElem_mem h)
  cases ls with
  | nil =>
    refine DC.of Try.func36 Try.ntmps36 Try.results36 rfl (by decide +kernel) rfl ?_
    repeat (first | refine Z1 ?_ | refine Z2 ?_ | (refine Z3 ?_; (repeat (first | (apply gS; first | refine go_f ?_ | refine gx ?_ | refine gm ?_ | refine gp ?_ | refine go_c rfl rfl (V) ?_ | refine go_cF rfl rfl (V) ?_ | refine go_cA rfl rfl (V) ?_) | (apply gZ; first | refine go_f ?_ | refine gx ?_ | refine gm ?_))); refine T_nil ?_) | (apply ZR; (try dsimp only [List.map_cons, List.map_nil]); refine C_dr mixed ?_; (repeat (first | (apply vS; first | refine va ?_ | refine vp ?_ | refine vr ?_ | refine vt ?_ | refine vc (V) ?_ | refine vcF (V) ?_) | (apply vZ; first | refine vs ?_ | refine vw ?_))); refine W_e ?_) | (apply ZK; first | refine Z4 ?_ | refine Z5 ?_) | refine Z6 ?_ | refine Z7 ?_ | refine Z8 ?_ | refine Z9 ?_ | refine ZA ?_ | refine ZB ?_ | refine ZC ?_ | refine ZD ?_ | refine ZE ?_ | refine ZF ?_ | refine ZG ?_ | refine ZH ?_)
    repeat (first | refine kEnd_m ?_ | refine kEnd_f ?_)
    refine kEnd_g ?_ (by first | exact .inl rfl | exact .inr rfl)
    exact Sub.tup (.cons Sub.nil (.cons (Sub.eq rfl rfl) .nil))
  | cons d0 l0 =>
  have hcap : cnt d0 ≤ 4096 := (domB_iff.1 (hall 0 (by simp))).2.2
  rcases first_bad (fun d => decide (cnt d = cnt d0)) (d0 :: l0) with h | ⟨q, hq, hb, hmin⟩
  · refine rzip_c (d0 :: l0) hl (by simp) (cnt d0) (d0 :: l0).length hcap hall rfl (Nat.le_refl _) (fun j hj _ => of_decide_eq_true (h j hj)) _ (.inl ⟨rfl, ?_⟩)
    have ha : alikeB (d0 :: l0) (cnt d0) = true := List.all_eq_true.2 fun d hd => by
      obtain ⟨j, hj, rfl⟩ := List.mem_iff_getElem.1 hd
      exact h j hj
    simp only [ha, if_true]
  · refine rzip_c (d0 :: l0) hl (by simp) (cnt d0) q hcap hall rfl (by omega) (fun j hj hjq => of_decide_eq_true (hmin j hj hjq)) _ (.inr ⟨hq, of_decide_eq_false hb, ?_⟩)
    have ha : alikeB (d0 :: l0) (cnt d0) = false := by
      cases h : alikeB (d0 :: l0) (cnt d0) with
      | false => rfl
      | true =>
        have := List.all_eq_true.1 h _ (List.getElem_mem hq)
        rw [show decide (cnt (d0 :: l0)[q] = cnt d0) = true from this] at hb
        cases hb
    simp only [ha]
    rfl
/-! ### the law -/
theorem threes_d (X : List (List (List Int))) (h1 : X.length ≤ 1000000) (h2 : ∀ x ∈ X, x.length ≤ 1000000 ∧ ∀ y ∈ x, y.length ≤ 1000000) : DC Try.prog 37 [rowL3 X, rowL3 X] (bD true) := by
  have LS := fun k (h : k < X.length) => lists_d X[k] (by have := (h2 _ (List.getElem_mem h)).1; omega) (fun o ho => by have := (h2 _ (List.getElem_mem h)).2 o ho; omega)
  clear h2
  refine DC.of Try.func37 Try.ntmps37 Try.results37 rfl (by decide +kernel) rfl ?_
  repeat (first | refine Z1 ?_ | refine Z2 ?_ | (refine Z3 ?_; (repeat (first | (apply gS; first | refine go_f ?_ | refine gx ?_ | refine gm ?_ | refine gp ?_))); refine T_nil ?_) | (apply ZR; (try dsimp only [List.map_cons, List.map_nil]); refine C_dr mixed ?_; (repeat (first | (apply vS; first | refine va ?_ | refine vp ?_ | refine vr ?_ | refine vt ?_))); refine W_e ?_) | (apply ZK; first | refine Z4 ?_ | refine Z5 ?_) | refine Z6 ?_ | refine Z7 ?_ | refine Z8 ?_ | refine Z9 ?_ | refine ZA ?_ | refine ZB ?_ | refine ZC ?_ | refine ZD ?_ | refine ZE ?_ | refine ZF ?_ | refine ZG ?_ | refine ZH ?_)
  refine C_count X.length (fun _ => True) (fun k => ⟨0, 27, [(5, iD k), (0, rowL3 X), (1, rowL3 X)], []⟩) ?_ trivial ?_
  · exact Wk.gx (fun b => b)
  · intro k hk _
    by_cases hlt : k < X.length
    · have s := LS k hlt
      clear LS
      repeat (first | refine Z1 ?_ | refine Z2 ?_ | (refine Z3 ?_; (repeat (first | (apply gS; first | refine go_f ?_ | refine gx ?_ | refine gm ?_ | refine gp ?_ | refine go_c rfl rfl (s) ?_ | refine go_cF rfl rfl (s) ?_ | refine go_cA rfl rfl (s) ?_))); refine T_nil ?_) | (apply ZR; (try dsimp only [List.map_cons, List.map_nil]); refine C_dr mixed ?_; (repeat (first | (apply vS; first | refine va ?_ | refine vp ?_ | refine vr ?_ | refine vt ?_ | refine vc (s) ?_ | refine vcF (s) ?_))); refine W_e ?_) | (apply ZK; first | refine Z4 ?_ | refine Z5 ?_) | refine Z6 ?_ | refine Z7 ?_ | refine Z8 ?_ | refine Z9 ?_ | refine ZA ?_ | refine ZB ?_ | refine ZC ?_ | refine ZD ?_ | refine ZE ?_ | refine ZF ?_ | refine ZG ?_ | refine ZH ?_)
      refine kLoop_n ⟨hlt, trivial, ?_⟩
      exact Wk.gx (fun b => b)
    · obtain rfl : k = X.length := by omega
      clear LS
      repeat (first | refine Z1 ?_ | refine Z2 ?_ | (refine Z3 ?_; (repeat (first | (apply gS; first | refine go_f ?_ | refine gx ?_ | refine gm ?_ | refine gp ?_))); refine T_nil ?_) | (apply ZR; (try dsimp only [List.map_cons, List.map_nil]); refine C_dr mixed ?_; (repeat (first | (apply vS; first | refine va ?_ | refine vp ?_ | refine vr ?_ | refine vt ?_))); refine W_e ?_) | (apply ZK; first | refine Z4 ?_ | refine Z5 ?_) | refine Z6 ?_ | refine Z7 ?_ | refine Z8 ?_ | refine Z9 ?_ | refine ZA ?_ | refine ZB ?_ | refine ZC ?_ | refine ZD ?_ | refine ZE ?_ | refine ZF ?_ | refine ZG ?_ | refine ZH ?_)
      repeat (first | refine kEnd_m ?_ | refine kEnd_f ?_)
      refine kEnd_g ?_ (by first | exact .inl rfl | exact .inr rfl)
      exact Sub.eq rfl rfl
theorem law_d (ls : List (List Rg)) : DC Try.prog 4 [domsD ls] (bD true) := by
  by_cases hl : 8 < ls.length
  · refine DC.of Try.func4 Try.ntmps4 Try.results4 rfl (by decide +kernel) rfl ?_
    repeat (first | refine Z1 ?_ | refine Z2 ?_ | (refine Z3 ?_; (repeat (first | (apply gS; first | refine go_no ?_ | refine go_f ?_ | refine gx ?_ | refine gm ?_ | refine gp ?_ | refine go_c rfl rfl (awake8_d) ?_ | refine go_cF rfl rfl (awake8_d) ?_ | refine go_cA rfl rfl (awake8_d) ?_))); refine T_nil ?_) | (apply ZK; first | refine Z4 ?_ | refine Z5 ?_) | refine Z6 ?_ | refine Z7 ?_ | refine ZF ?_)
    repeat (first | refine kEnd_m ?_ | refine kEnd_f ?_)
    refine kEnd_g ?_ (by first | exact .inl rfl | exact .inr rfl)
    exact Sub.eq rfl rfl
  have A := zip_d ls (by omega)
  have B := rzip_d ls (by omega)
  have T := threes_d (zipRes ls).1 (by
    unfold zipRes
    split
    · rename_i hv
      split
      · simp
      · split
        · have hc : ∀ d, domB d = true → cnt d ≤ 4096 := fun d h => (domB_iff.1 h).2.2
          have := hc _ (List.all_eq_true.1 hv _ List.mem_cons_self)
          simp only; rw [zipL_len]; omega
        · simp
    · simp) (by
    unfold zipRes
    split
    · rename_i hv
      split
      · simp
      · split
        · intro x hx
          obtain ⟨j, hj, rfl⟩ := List.mem_map.1 hx
          refine ⟨by simp only [List.length_map]; omega, fun y hy => ?_⟩
          obtain ⟨e, he, rfl⟩ := List.mem_map.1 hy
          have hd : domB e = true := List.all_eq_true.1 hv e he
          have := (domB_iff.1 hd).1.2
          rw [ithX_len]; omega
        · simp
    · simp)
  generalize zipRes ls = r at *
  obtain ⟨r1, r2⟩ := r
  dsimp only at A B T
  refine DC.of Try.func4 Try.ntmps4 Try.results4 rfl (by decide +kernel) rfl ?_
  repeat (first | refine Z1 ?_ | refine Z2 ?_ | (refine Z3 ?_; (repeat (first | (apply gS; first | refine go_no ?_ | refine go_f ?_ | refine gx ?_ | refine gm ?_ | refine gp ?_ | refine go_c rfl rfl (A) ?_ | refine go_cF rfl rfl (A) ?_ | refine go_cA rfl rfl (A) ?_ | refine go_c rfl rfl (B) ?_ | refine go_cF rfl rfl (B) ?_ | refine go_cA rfl rfl (B) ?_ | refine go_c rfl rfl (T) ?_ | refine go_cF rfl rfl (T) ?_ | refine go_cA rfl rfl (T) ?_ | refine go_c rfl rfl (awake8_d) ?_ | refine go_cF rfl rfl (awake8_d) ?_ | refine go_cA rfl rfl (awake8_d) ?_))); refine T_nil ?_) | (apply ZK; first | refine Z4 ?_ | refine Z5 ?_) | refine Z6 ?_ | refine Z7 ?_ | refine ZF ?_)
  repeat (first | refine kEnd_m ?_ | refine kEnd_f ?_)
  refine kEnd_g ?_ (by first | exact .inl rfl | exact .inr rfl)
  exact Sub.eq rfl rfl
theorem walk {w : World} (v : Value) (ls : List (List Rg)) (rc : RC (fun b => b < w.heap.size) w (domsD ls) v) : Calls Try.prog 4 #[v] w fun e w' => e = .returned (.bool true) ∧ Below w.heap.size w w' :=
  DC.law (law_d ls) (.cons rc .nil)
end Go.Proofs.Ytifapodobhkdcaa.iterZips
