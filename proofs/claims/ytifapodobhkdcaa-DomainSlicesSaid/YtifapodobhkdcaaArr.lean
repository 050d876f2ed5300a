/- The abstract machine's rules for arrays (no program in sight). -/
import Derived.Test.YtifapodobhkdcaaGo
import Derived.ChangeKeysEq
namespace Go.Proofs.Ytifapodobhkdcaa
open Go.RowKit
set_option linter.unusedVariables false
set_option linter.unusedSimpArgs false
theorem RC.cut {I : Nat → Prop} {w : World} {n lo hi m size : Nat} {xs : List D} {ao : Option Addr} {cap : Nat} (h : RC I w (.row n xs) (.slice ao n cap)) (h1 : lo ≤ hi) (h3 : hi ≤ m) (h4 : m ≤ cap) : RC I w (.row (hi - lo) ((xs.drop (lo * size)).take ((hi - lo) * size))) (sliced ao lo hi m size) := by
  cases h with
  | row hc hm hn hl ha hs ho hr =>
    rename_i b off us
    unfold sliced
    refine .row (b := b) (off := off + lo * size) (us := (us.drop (lo * size)).take ((hi - lo) * size)) (by omega) (by omega) (fun hh => ?_) (by simp [hl]) (fun hh => ?_) ((LiesAt.drop hs _).take _) (fun u hu => ho u (List.mem_of_mem_drop (List.mem_of_mem_take hu))) fun j d u h7 h8 => ?_
    · split at hh
      · omega
      · have : ao = none := by simpa using hh
        have := hn this
        omega
    · rw [List.length_take, List.length_drop] at hh
      have hlt : lo < hi := by
        rcases Nat.lt_or_ge lo hi with h | h
        · exact h
        · rw [show hi - lo = 0 by omega, Nat.zero_mul] at hh; omega
      obtain ⟨rfl, hI⟩ := ha (by omega)
      rw [if_neg (by omega)]
      exact ⟨by simp [Addr.add_mid], hI⟩
    · have hj : j < (hi - lo) * size := by
        have := (List.getElem?_eq_some_iff.1 h7).1
        rw [List.length_take] at this
        omega
      rw [List.getElem?_take, if_pos hj, List.getElem?_drop] at h7 h8
      exact hr _ d u h7 h8
section
variable {P : Program} {S : St} {o : Oper} {x y z u : Operand} {t : TypeId}
theorem elem_ty {size bytes : Nat} {e : TypeId} (hT : TySlice P t e size bytes) : P.underlying t = some (.slice (P.elem t)) ∧ ∀ w, (sizeOf (P.elem t)).run P w = .ok size w := by
  have e1 : P.elem t = e := by simp [Program.elem, hT.ty]
  obtain ⟨i, zz, h1, h2, h3, h4, h5⟩ := hT.info
  rw [e1]
  exact ⟨hT.ty, fun w => by rw [run_sizeOf'' h1, h3]⟩
theorem P_cut {n lo hi size bytes : Nat} {xs : List D} {e : TypeId} {a1 a2 a3 : Option Operand} (m : Nat → Nat) (hT : TySlice P t e size bytes) (ho : o.op = .slice t x a1 a2 a3) (hx : S.ev x = some (.row n xs)) (h1 : lo ≤ hi) (h2 : ∀ cap, n ≤ cap → hi ≤ m cap ∧ m cap ≤ cap)
    (hrun : ∀ w0 I0 ρ I a w, G w0 I0 S ρ I a w → ∀ ao cap, n ≤ cap → (Instr.slice t (.slice ao n cap) (a1.map a.eval) (a2.map a.eval) (a3.map a.eval)).run P w = .ok (sliced ao lo hi (m cap) size) w) : PStep P o S (.row (hi - lo) ((xs.drop (lo * size)).take ((hi - lo) * size))) :=
  PStep.pure fun w0 I0 ρ I ac w g => by
    have h := g.ev hx
    generalize hv : ac.eval x = v at h
    cases h with | im h =>
    have h' := h
    cases h with
    | row hc hm hn hl ha hs ho' hr =>
      rename_i ao cap b off us
      have hr := hrun w0 I0 ρ I ac w g ao cap hc
      obtain ⟨k1, k2⟩ := h2 cap hc
      refine ⟨_, ?_, .im (h'.cut h1 k1 k2)⟩
      simp [execOp, ho, hv, run_sliceAt_slice (h := (elem_ty hT).1), hr]
variable {k1 k2 k3 : IntKind} {n size bytes : Nat} {xs zs : List D} {e : TypeId} {lo hi mx : Int}
theorem P_cutLH [hT : TySlice P t e size bytes] (ho : o.op = .slice t x (some y) (some z) none) (hx : S.ev x = some (.row n xs)) (hy : S.ev y = some (.val (.int k1 lo))) (hz : S.ev z = some (.val (.int k2 hi))) (h0 : 0 ≤ lo) (h1 : lo ≤ hi) (h2 : hi ≤ n) :
    PStep P o S (.row (hi.toNat - lo.toNat) ((xs.drop (lo.toNat * size)).take ((hi.toNat - lo.toNat) * size))) :=
  P_cut (fun cap => cap) hT ho hx (by omega) (fun cap h => ⟨by omega, Nat.le_refl _⟩) fun w0 I0 ρ I a w g ao cap h => by
    have e1 := (g.ev hy).val_eq
    have e2 := (g.ev hz).val_eq
    simp only [Option.map_some, Option.map_none, e1, e2, run_slice_lh w t ao n cap (elem_ty hT).1 k1 k2 lo hi h0 h1 (by omega), (elem_ty hT).2, Result.andThen_ok]
theorem P_cutL [hT : TySlice P t e size bytes] (ho : o.op = .slice t x (some y) none none) (hx : S.ev x = some (.row n xs)) (hy : S.ev y = some (.val (.int k1 lo))) (h0 : 0 ≤ lo) (h1 : lo ≤ n) :
    PStep P o S (.row (n - lo.toNat) ((xs.drop (lo.toNat * size)).take ((n - lo.toNat) * size))) :=
  P_cut (fun cap => cap) hT ho hx (by omega) (fun cap h => ⟨by omega, Nat.le_refl _⟩) fun w0 I0 ρ I a w g ao cap h => by
    have e1 := (g.ev hy).val_eq
    simp only [Option.map_some, Option.map_none, e1, run_slice_l w t ao n cap (elem_ty hT).1 k1 lo h0 h1, (elem_ty hT).2, Result.andThen_ok]
theorem P_cutH [hT : TySlice P t e size bytes] (ho : o.op = .slice t x none (some z) none) (hx : S.ev x = some (.row n xs)) (hz : S.ev z = some (.val (.int k2 hi))) (h0 : 0 ≤ hi) (h2 : hi ≤ n) :
    PStep P o S (.row (hi.toNat - 0) ((xs.drop (0 * size)).take ((hi.toNat - 0) * size))) :=
  P_cut (fun cap => cap) hT ho hx (by omega) (fun cap h => ⟨by omega, Nat.le_refl _⟩) fun w0 I0 ρ I a w g ao cap h => by
    have e2 := (g.ev hz).val_eq
    simp only [Option.map_some, Option.map_none, e2, run_slice_h w t ao n cap (elem_ty hT).1 k2 hi h0 (by omega), (elem_ty hT).2, Result.andThen_ok]
theorem P_cutLHM [hT : TySlice P t e size bytes] (ho : o.op = .slice t x (some y) (some z) (some u)) (hx : S.ev x = some (.row n xs)) (hy : S.ev y = some (.val (.int k1 lo))) (hz : S.ev z = some (.val (.int k2 hi))) (hu : S.ev u = some (.val (.int k3 mx))) (h0 : 0 ≤ lo) (h1 : lo ≤ hi) (h2 : hi ≤ mx) (h3 : mx ≤ n) :
    PStep P o S (.row (hi.toNat - lo.toNat) ((xs.drop (lo.toNat * size)).take ((hi.toNat - lo.toNat) * size))) :=
  P_cut (fun _ => mx.toNat) hT ho hx (by omega) (fun cap h => ⟨by omega, by omega⟩) fun w0 I0 ρ I a w g ao cap h => by
    have e1 := (g.ev hy).val_eq
    have e2 := (g.ev hz).val_eq
    have e3 := (g.ev hu).val_eq
    simp only [Option.map_some, Option.map_none, e1, e2, e3, run_slice_lhm w t ao n cap (elem_ty hT).1 k1 k2 k3 lo hi mx h0 h1 h2 (by omega), (elem_ty hT).2, Result.andThen_ok]
end
/-! rows of lists -/
theorem cut_map {α : Type} {f : α → D} {l l' : List α} {n lo hi : Nat} (hn : n = l.length) (h1 : lo ≤ hi) (h2 : hi ≤ n) (hl : (l.drop lo).take (hi - lo) = l') : D.row (hi - lo) (((l.map f).drop (lo * 1)).take ((hi - lo) * 1)) = .row l'.length (l'.map f) := by
  subst hl
  rw [Nat.mul_one, Nat.mul_one, ← List.map_drop, ← List.map_take, List.length_take, List.length_drop]
  congr 1
  omega
theorem drop_flat {α β : Type} {f : α → List β} {m : Nat} (hf : ∀ a, (f a).length = m) : ∀ (l : List α) (k : Nat), (l.flatMap f).drop (k * m) = (l.drop k).flatMap f
  | [], k => by simp
  | a :: l, 0 => by simp
  | a :: l, k + 1 => by
    rw [List.flatMap_cons, List.drop_append, show (k + 1) * m = m + k * m by rw [Nat.add_mul]; omega, List.drop_eq_nil_of_le (by rw [hf]; omega), hf, show m + k * m - m = k * m by omega, drop_flat hf l k]
    rfl
theorem take_flat {α β : Type} {f : α → List β} {m : Nat} (hf : ∀ a, (f a).length = m) : ∀ (l : List α) (k : Nat), (l.flatMap f).take (k * m) = (l.take k).flatMap f
  | [], k => by simp
  | a :: l, 0 => by simp
  | a :: l, k + 1 => by
    rw [List.flatMap_cons, List.take_append, show (k + 1) * m = m + k * m by rw [Nat.add_mul]; omega, List.take_of_length_le (by rw [hf]; omega), hf, show m + k * m - m = k * m by omega, take_flat hf l k]
    rfl
theorem cut_flat {α : Type} {f : α → List D} {m : Nat} {l l' : List α} {n lo hi : Nat} (hf : ∀ a, (f a).length = m) (hn : n = l.length) (h1 : lo ≤ hi) (h2 : hi ≤ n) (hl : (l.drop lo).take (hi - lo) = l') : D.row (hi - lo) (((l.flatMap f).drop (lo * m)).take ((hi - lo) * m)) = .row l'.length (l'.flatMap f) := by
  subst hl
  rw [drop_flat hf, take_flat hf, List.length_take, List.length_drop]
  congr 1
  omega
section
variable {P : Program} {S : St} {o : Oper} {x y z u : Operand} {t : TypeId}
variable {k1 k2 k3 : IntKind} {n m bytes : Nat} {e : TypeId} {lo hi mx : Int} {α : Type} {f : α → D} {ff : α → List D} {l l' : List α}
theorem P_cLH1 [hT : TySlice P t e 1 bytes] (ho : o.op = .slice t x (some y) (some z) none) (hx : S.ev x = some (.row n (l.map f))) (hy : S.ev y = some (.val (.int k1 lo))) (hz : S.ev z = some (.val (.int k2 hi))) (hn : n = l.length) (h0 : 0 ≤ lo) (h1 : lo ≤ hi) (h2 : hi ≤ n) (hl : (l.drop lo.toNat).take (hi.toNat - lo.toNat) = l') : PStep P o S (.row l'.length (l'.map f)) := by
  have h := P_cutLH (hT := hT) ho hx hy hz h0 h1 h2
  rwa [cut_map hn (by omega) (by omega) hl] at h
theorem P_cL1 [hT : TySlice P t e 1 bytes] (ho : o.op = .slice t x (some y) none none) (hx : S.ev x = some (.row n (l.map f))) (hy : S.ev y = some (.val (.int k1 lo))) (hn : n = l.length) (h0 : 0 ≤ lo) (h1 : lo ≤ n) (hl : (l.drop lo.toNat).take (n - lo.toNat) = l') : PStep P o S (.row l'.length (l'.map f)) := by
  have h := P_cutL (hT := hT) ho hx hy h0 h1
  rwa [cut_map hn (by omega) (by omega) hl] at h
theorem P_cH1 [hT : TySlice P t e 1 bytes] (ho : o.op = .slice t x none (some z) none) (hx : S.ev x = some (.row n (l.map f))) (hz : S.ev z = some (.val (.int k2 hi))) (hn : n = l.length) (h0 : 0 ≤ hi) (h2 : hi ≤ n) (hl : (l.drop 0).take (hi.toNat - 0) = l') : PStep P o S (.row l'.length (l'.map f)) := by
  have h := P_cutH (hT := hT) ho hx hz h0 h2
  rwa [cut_map hn (by omega) (by omega) hl] at h
theorem P_cLHM1 [hT : TySlice P t e 1 bytes] (ho : o.op = .slice t x (some y) (some z) (some u)) (hx : S.ev x = some (.row n (l.map f))) (hy : S.ev y = some (.val (.int k1 lo))) (hz : S.ev z = some (.val (.int k2 hi))) (hu : S.ev u = some (.val (.int k3 mx))) (hn : n = l.length) (h0 : 0 ≤ lo) (h1 : lo ≤ hi) (h2 : hi ≤ mx) (h3 : mx ≤ n) (hl : (l.drop lo.toNat).take (hi.toNat - lo.toNat) = l') : PStep P o S (.row l'.length (l'.map f)) := by
  have h := P_cutLHM (hT := hT) ho hx hy hz hu h0 h1 h2 h3
  rwa [cut_map hn (by omega) (by omega) hl] at h
theorem P_cLHF [hT : TySlice P t e m bytes] (ho : o.op = .slice t x (some y) (some z) none) (hx : S.ev x = some (.row n (l.flatMap ff))) (hy : S.ev y = some (.val (.int k1 lo))) (hz : S.ev z = some (.val (.int k2 hi))) (hf : ∀ a, (ff a).length = m) (hn : n = l.length) (h0 : 0 ≤ lo) (h1 : lo ≤ hi) (h2 : hi ≤ n) (hl : (l.drop lo.toNat).take (hi.toNat - lo.toNat) = l') : PStep P o S (.row l'.length (l'.flatMap ff)) := by
  have h := P_cutLH (hT := hT) ho hx hy hz h0 h1 h2
  rwa [cut_flat hf hn (by omega) (by omega) hl] at h
theorem P_cLF [hT : TySlice P t e m bytes] (ho : o.op = .slice t x (some y) none none) (hx : S.ev x = some (.row n (l.flatMap ff))) (hy : S.ev y = some (.val (.int k1 lo))) (hf : ∀ a, (ff a).length = m) (hn : n = l.length) (h0 : 0 ≤ lo) (h1 : lo ≤ n) (hl : (l.drop lo.toNat).take (n - lo.toNat) = l') : PStep P o S (.row l'.length (l'.flatMap ff)) := by
  have h := P_cutL (hT := hT) ho hx hy h0 h1
  rwa [cut_flat hf hn (by omega) (by omega) hl] at h
theorem P_cHF [hT : TySlice P t e m bytes] (ho : o.op = .slice t x none (some z) none) (hx : S.ev x = some (.row n (l.flatMap ff))) (hz : S.ev z = some (.val (.int k2 hi))) (hf : ∀ a, (ff a).length = m) (hn : n = l.length) (h0 : 0 ≤ hi) (h2 : hi ≤ n) (hl : (l.drop 0).take (hi.toNat - 0) = l') : PStep P o S (.row l'.length (l'.flatMap ff)) := by
  have h := P_cutH (hT := hT) ho hx hz h0 h2
  rwa [cut_flat hf hn (by omega) (by omega) hl] at h
theorem P_gCut {d : D} (h : PStep P o S d := by
    first
    | exact P_cLH1 rfl rfl rfl rfl (by first | rfl | omega) (by omega) (by omega) (by omega) (by first | assumption | rfl)
    | exact P_cLHF rfl rfl rfl rfl (by intro _; rfl) (by first | rfl | omega) (by omega) (by omega) (by omega) (by first | assumption | rfl)
    | exact P_cL1 rfl rfl rfl (by first | rfl | omega) (by omega) (by omega) (by first | assumption | rfl)
    | exact P_cLF rfl rfl rfl (by intro _; rfl) (by first | rfl | omega) (by omega) (by omega) (by first | assumption | rfl)
    | exact P_cH1 rfl rfl rfl (by first | rfl | omega) (by omega) (by omega) (by first | assumption | rfl)
    | exact P_cHF rfl rfl rfl (by intro _; rfl) (by first | rfl | omega) (by omega) (by omega) (by first | assumption | rfl)
    | exact P_cLHM1 rfl rfl rfl rfl rfl (by first | rfl | omega) (by omega) (by omega) (by omega) (by omega) (by first | assumption | rfl)) : PStep P o S d := h
end
end Go.Proofs.Ytifapodobhkdcaa
namespace Go.Proofs.Ytifapodobhkdcaa
open Go.RowKit
set_option linter.unusedVariables false
set_option linter.unusedSimpArgs false
theorem TyEqI.arr2 {P : Program} {t e : TypeId} (hg : P.eqGuardType P.depth t = false) (hu : P.underlying t = some (.array 2 e)) (he : P.underlying e = some (.int .i64)) (hc : P.cellsOf e = 1) (hi : (P.info? e).isSome = true) : TyEqI P t 2 := by
  refine ⟨hg, fun w xs ys hx hy => ?_⟩
  obtain ⟨a, b, rfl⟩ : ∃ a b, xs = [a, b] := by
    match xs, hx with
    | [a, b], _ => exact ⟨a, b, rfl⟩
  obtain ⟨c, d, rfl⟩ : ∃ c d, ys = [c, d] := by
    match ys, hy with
    | [c, d], _ => exact ⟨c, d, rfl⟩
  obtain ⟨i, hi⟩ := Option.isSome_iff_exists.1 hi
  rw [run_equalIn_array w 9999 _ _ hu hi, hc]
  have p3 : ∀ u v : Int, (Op.equalIn (9998 + 1) e (.int .i64 u) (.int .i64 v)).run P w = .ok (u == v) w := fun u v => run_equalIn_int w 9998 e .i64 .i64 _ _ he
  have hr : List.range 2 = [0, 1] := rfl
  simp [hr, Op.eqItems, part, isAgg, run_underlying he, p3]
  by_cases h1 : a = c
  · by_cases h2 : b = d
    · simp [h1, h2]
    · simp [h1, h2]
  · simp [h1]
section
variable {P : Program} {S : St} {o : Oper} {x y : Operand} {t yt : TypeId}
theorem arr_len {n size : Nat} {e : TypeId} (hT : TyArr P t n e size) : P.underlying t = some (.array (P.arrayLen t) (P.elem t)) ∧ P.arrayLen t = n ∧ ∀ w, (sizeOf (P.elem t)).run P w = .ok size w := by
  have e1 : P.elem t = e := by simp [Program.elem, hT.ty]
  have e2 : P.arrayLen t = n := by simp [Program.arrayLen, hT.ty]
  rw [e1, e2]
  exact ⟨hT.ty, rfl, fun w => run_sizeOf' hT.info⟩
theorem P_arrObj {n size : Nat} {e : TypeId} {k : IntKind} {i : Int} {xs : List D} [hT : TyArr P t n e size] (ho : o.op = .indexAddr t x y) (hx : S.ev x = some (.obj xs)) (hy : S.ev y = some (.val (.int k i))) (h0 : 0 ≤ i) (hi : i < n) : PStep P o S (.obj (xs.drop (i.toNat * size))) :=
  PStep.pure fun w0 I0 ρ I ac w g => by
    obtain ⟨h1, h2, h3⟩ := arr_len hT
    have hyv := (g.ev hy).val_eq
    have h := g.ev hx
    generalize hv : ac.eval x = v at h
    cases h with | im h => cases h with
    | obj hI hl hs ho' hr =>
      rename_i b o' us
      refine ⟨.pointer (some ⟨b, o' + i.toNat * size, none⟩), ?_, .im (.obj hI (us := us.drop (i.toNat * size)) (by simp [hl]) (LiesAt.drop hs _) (fun u hu => ho' u (List.mem_of_mem_drop hu)) fun j d u h7 h8 => hr (i.toNat * size + j) d u (by simpa using h7) (by simpa using h8))⟩
      simp [execOp, ho, hv, hyv, run_indexAt_array (h := h1), h2, h0, hi, h3, Addr.add_mid]
theorem P_arrPtr {n size b o' : Nat} {e : TypeId} {k : IntKind} {i : Int} [hT : TyArr P t n e size] (ho : o.op = .indexAddr t x y) (hx : S.ev x = some (.ptr b o')) (hy : S.ev y = some (.val (.int k i))) (h0 : 0 ≤ i) (hi : i < n) : PStep P o S (.ptr b (o' + i.toNat * size)) :=
  PStep.pure fun w0 I0 ρ I ac w g => by
    obtain ⟨h1, h2, h3⟩ := arr_len hT
    have hyv := (g.ev hy).val_eq
    have h := g.ev hx
    generalize hv : ac.eval x = v at h
    cases h with
    | im h => cases h
    | ptr hb hρ =>
      refine ⟨_, ?_, .ptr hb hρ⟩
      simp [execOp, ho, hv, hyv, run_indexAt_array (h := h1), h2, h0, hi, h3, Addr.add_mid]
theorem P_eqR2 {a b c d : Int} [hE : TyEqI P t 2] (ho : o.op = .binOp .eql t x y yt) (hx : S.ev x = some (.agg [.val (.int .i64 a), .val (.int .i64 b)])) (hy : S.ev y = some (.agg [.val (.int .i64 c), .val (.int .i64 d)])) : PStep P o S (.val (.bool (decide (a = c ∧ b = d)))) := by
  have h := P_eqR (P := P) (n := 2) (xs := [a, b]) (ys := [c, d]) ho hx hy rfl rfl
  have e : decide ([a, b] = [c, d]) = decide (a = c ∧ b = d) := by simp
  rwa [e] at h
theorem P_neR2F {a b c d : Int} [hE : TyEqI P t 2] (ho : o.op = .binOp .neq t x y yt) (hx : S.ev x = some (.agg [.val (.int .i64 a), .val (.int .i64 b)])) (hy : S.ev y = some (.agg [.val (.int .i64 c), .val (.int .i64 d)])) (h : a = c ∧ b = d) : PStep P o S (.val (.bool false)) := by
  have k := P_neR (P := P) (n := 2) (xs := [a, b]) (ys := [c, d]) ho hx hy rfl rfl
  have e : (!decide ([a, b] = [c, d])) = false := by simp [h]
  rwa [e] at k
theorem P_eqsT {r s : ByteArray} (ho : o.op = .binOp .eql t x y yt) (hx : S.ev x = some (.val (.string r))) (hy : S.ev y = some (.val (.string s))) (h : r.toList = s.toList) : PStep P o S (.val (.bool true)) := by
  have k := P_eqs (P := P) ho hx hy; rwa [decide_eq_true h] at k
theorem P_eqsF {r s : ByteArray} (ho : o.op = .binOp .eql t x y yt) (hx : S.ev x = some (.val (.string r))) (hy : S.ev y = some (.val (.string s))) (h : ¬ r.toList = s.toList) : PStep P o S (.val (.bool false)) := by
  have k := P_eqs (P := P) ho hx hy; rwa [decide_eq_false h] at k
theorem P_nes {r s : ByteArray} (ho : o.op = .binOp .neq t x y yt) (hx : S.ev x = some (.val (.string r))) (hy : S.ev y = some (.val (.string s))) : PStep P o S (.val (.bool (!decide (r.toList = s.toList)))) :=
  PStep.value rfl fun w0 I0 ρ I ac w g => by
    have h1 := (g.ev hx).val_eq; have h2 := (g.ev hy).val_eq
    have e : (r.toList == s.toList) = decide (r.toList = s.toList) := by rw [Bool.eq_iff_iff]; simp
    simp [execOp, ho, h1, h2, eqGuard_at_string, binOp_neq, binOp, Op.stringOp, e]
theorem P_nesF {r s : ByteArray} (ho : o.op = .binOp .neq t x y yt) (hx : S.ev x = some (.val (.string r))) (hy : S.ev y = some (.val (.string s))) (h : r.toList = s.toList) : PStep P o S (.val (.bool false)) := by
  have k := P_nes (P := P) ho hx hy; rwa [decide_eq_true h] at k
theorem P_nesT {r s : ByteArray} (ho : o.op = .binOp .neq t x y yt) (hx : S.ev x = some (.val (.string r))) (hy : S.ev y = some (.val (.string s))) (h : ¬ r.toList = s.toList) : PStep P o S (.val (.bool true)) := by
  have k := P_nes (P := P) ho hx hy; rwa [decide_eq_false h] at k
/-- an array's element -/
theorem P_idxArr {n : Nat} {e : TypeId} {k : IntKind} {i : Int} {xs : List D} {d : D} [hT : TyArr P t n e 1] [hC : TyCell P e] (ho : o.op = .index t x y) (hx : S.ev x = some (.agg xs)) (hy : S.ev y = some (.val (.int k i))) (h0 : 0 ≤ i) (hi : i < n) (hd : xs[i.toNat]? = some d) : PStep P o S d :=
  PStep.pure fun w0 I0 ρ I ac w g => by
    have hyv := (g.ev hy).val_eq
    obtain ⟨us, h5, h6, _, h8⟩ := (g.ev hx).cells
    have hlt : i.toNat < us.length := by have := (List.getElem?_eq_some_iff.1 hd).1; omega
    obtain ⟨dd, hd1, hd2⟩ := hC.desc
    have hagg : (isAgg e).run P w = .ok false w := by
      unfold isAgg
      rw [Sem.run_bind, run_underlying hd1 w]
      cases dd <;> simp_all [aggDesc]
    exact ⟨us[i.toNat], by simp [execOp, ho, h5, hyv, Instr.index, asIntOf, run_underlying hT.ty, h0, hi, run_sizeOf' hT.info, part, hagg, hlt], h8 i.toNat d _ hd (List.getElem?_eq_getElem hlt)⟩
end
end Go.Proofs.Ytifapodobhkdcaa
