/- The reference's Indexes, by the abstract machine. -/
import Derived.Test.YtifapodobhkdcaaR2
import Derived.Test.YtifapodobhkdcaaDomMath2
namespace Go.Proofs.Ytifapodobhkdcaa
open Go.RowKit
set_option linter.unusedVariables false
set_option maxHeartbeats 16000000
set_option linter.unusedSimpArgs false
set_option maxRecDepth 100000
theorem RC.rows {I : Nat → Prop} {w : World} {n : Nat} {xs xs' : List D} (hl : xs'.length = xs.length) (h : ∀ (j : Nat) (d d' : D), xs[j]? = some d → xs'[j]? = some d' → ∀ v, RC I w d v → RC I w d' v) {v : Value} (hv : RC I w (.row n xs) v) : RC I w (.row n xs') v := by
  cases hv with
  | row hc hm hn hl0 ha hs ho hr =>
    refine .row hc hm hn (by rw [hl, hl0]) ha hs ho fun j d' u h1 h2 => ?_
    have hj : j < xs.length := by rw [← hl]; exact (List.getElem?_eq_some_iff.1 h1).1
    exact h j xs[j] d' (List.getElem?_eq_getElem hj) h1 u (hr j xs[j] u (List.getElem?_eq_getElem hj) h2)
theorem Ren.nilRow {σ : Nat → Nat} {nb' : Nat} : Ren σ nb' (rowL2 [[]]) (.row 1 [.val (.slice none 0 0)]) := fun ρ nb I w v hv => .im (RC.rows (n := 1) (xs' := [rowI []]) (xs := [.val (.slice none 0 0)]) rfl (fun j d d' h1 h2 v hv => by
  cases j with
  | zero => simp at h1 h2; subst h1; subst h2; exact hv.nil_row
  | succ j => simp at h1) (hv.closed rfl))
theorem rMembers_ok {r : Rg} (h : vB r = true) (hn : cN r ≤ 4096) : DC Try.prog 167 [rD r] (.tup [rowI (memN r), iD 0]) := by
  have H := rMembers_d r
  have := cN_int h
  rwa [show membersRes r = (memN r, 0) by rw [membersRes, if_pos h, if_pos (by omega)]; rfl] at H
theorem snoc_row (o : List Int) (x : Int) : rowI (o ++ [x]) = .row (0 + o.length + 1) (([] ++ intsD o) ++ [iD x]) := by
  show D.row _ _ = _
  congr 1
  · simp
  · simp [intsD]
theorem canonRs_facts {rs : List Rg} (h : domB rs = true) : (canonRs rs).length = rs.length ∧ (∀ c ∈ canonRs rs, vB c = true ∧ cN c ≤ 4096) ∧ (∀ i, prodN (cl ((canonRs rs).take i)) ≤ 4096) ∧ idxs (canonRs rs) = idxs rs := by
  obtain ⟨⟨hl1, hl3⟩, hv, hp⟩ := domB_iff.1 h
  refine ⟨by simp [canonRs], ?_⟩
  by_cases hz : prodN (cl rs) = 0
  · have e : canonRs rs = List.replicate rs.length ⟨1, 0, 1⟩ := by
      unfold canonRs; simp only [hz, if_true]; exact List.map_const' ..
    rw [e]
    refine ⟨fun c hc => ?_, fun i => ?_, ?_⟩
    · rw [List.eq_of_mem_replicate hc]; decide
    · rw [List.take_replicate]
      cases hm : min i rs.length with
      | zero => simp [cl, prodN]
      | succ n => rw [List.replicate_succ]; show cN ⟨1, 0, 1⟩ * _ ≤ _; rw [none_c, Nat.zero_mul]; omega
    · obtain ⟨n, hn⟩ : ∃ n, rs.length = n + 1 := ⟨rs.length - 1, by omega⟩
      have e1 : idxs rs = [] := List.eq_nil_of_length_eq_zero (by rw [idxs_len]; exact hz)
      rw [e1, hn, List.replicate_succ]
      exact List.eq_nil_of_length_eq_zero (by rw [idxs_len]; show cN ⟨1, 0, 1⟩ * _ = 0; rw [none_c, Nat.zero_mul])
  · have e : canonRs rs = rs.map fun r => canonOf (rowOf r) := by unfold canonRs; simp only [hz, if_false]
    have hz' : 0 ∉ cl rs := fun h => hz (prodN_zero.2 h)
    have hcl : cl (canonRs rs) = cl rs := by
      rw [e]; unfold cl; rw [List.map_map]
      exact List.map_congr_left fun r hr => (memN_canon (hv r hr)).2
    have hcN : ∀ n ∈ cl rs, n ≤ 4096 := fun n hn => by
      obtain ⟨i, hi, rfl⟩ := List.getElem_of_mem hn
      have h1 := prodN_take i hi
      have h2 := prodN_le hz' (i + 1)
      have h3 := prodN_le hz' i
      have := Nat.le_mul_of_pos_left (cl rs)[i] h3.1
      omega
    refine ⟨fun c hc => ?_, fun i => ?_, ?_⟩
    · have h2 : cN c ∈ cl rs := by rw [← hcl]; exact List.mem_map.2 ⟨c, hc, rfl⟩
      rw [e] at hc
      obtain ⟨r, hr, rfl⟩ := List.mem_map.1 hc
      exact ⟨vB_true (canon_ok (vB_okS (hv r hr))), hcN _ h2⟩
    · rw [← cl_take, hcl]
      exact Nat.le_trans (prodN_le hz' i).2 hp
    · rw [e]
      clear e hz hz' hcl hcN hp hl1 hl3 h
      induction rs with
      | nil => rfl
      | cons r rs ih =>
        rw [List.map_cons]
        show (memN (canonOf (rowOf r))).flatMap _ = (memN r).flatMap _
        rw [(memN_canon (hv r (by simp))).1, ih fun r hr => hv r (by simp [hr])]
set_option maxHeartbeats 16000000 in
theorem rdIndexes_d (rs : List Rg) : DC Try.prog 114 [domD rs] (.tup [rowL2 (dIndexesRes rs).1, iD (dIndexesRes rs).2]) := by
  have V := rdValid_b rs (b := domB rs) rfl
  have C := rdCanon_d rs
  unfold dIndexesRes
  unfold dCanonRes at C
  cases h : domB rs <;> rw [h] at V C
  · refine DC.of Try.func114 Try.ntmps114 Try.results114 rfl (by decide +kernel) rfl ?_
    repeat (first | refine Z1 ?_ | refine Z2 ?_ | (refine Z3 ?_; (repeat (first | (apply gS; first | refine go_f ?_ | refine gm ?_ | refine gp ?_ | refine go_c rfl rfl (V) ?_) | (apply gZ; first | refine go_f ?_ | refine gm ?_))); refine T_nil ?_) | (apply ZR; refine C_dr mixed ?_; (repeat (first | (apply vS; first | refine vl 51 ?_ | refine va ?_ | refine vp ?_ | refine vr ?_ | refine vf 62 ?_ | refine vt ?_ | refine vc (V) ?_) | (apply vZ; first | refine vs ?_))); refine W_e ?_) | (apply ZK; first | refine Z4 ?_ | refine Z5 ?_) | refine Z6 ?_ | refine Z7 ?_ | refine Z8 ?_ | refine Z9 ?_ | refine ZA ?_ | refine ZB ?_ | refine ZC ?_ | refine ZD ?_ | refine ZE ?_ | refine ZF ?_ | refine ZG ?_ | refine ZH ?_)
    repeat (first | refine kEnd_m ?_ | refine kEnd_f ?_)
    refine kEnd_g ?_ (by first | exact .inl rfl | exact .inr rfl)
    exact Sub.tup (.cons Sub.nil (.cons (Sub.eq rfl rfl) .nil))
  rw [if_pos rfl] at C ⊢
  obtain ⟨c1, c2, c3, c4⟩ := canonRs_facts h
  rw [← c4]
  have hl3 := (domB_iff.1 h).1
  generalize canonRs rs = cs at *
  rw [← c1] at hl3
  clear h c1 c4
  refine DC.of Try.func114 Try.ntmps114 Try.results114 rfl (by decide +kernel) rfl ?_
  repeat (first | refine Z1 ?_ | refine Z2 ?_ | (refine Z3 ?_; (repeat (first | (apply gS; first | refine go_f ?_ | refine gm ?_ | refine gp ?_ | refine go_c rfl rfl (V) ?_ | refine go_c rfl rfl (C) ?_) | (apply gZ; first | refine go_f ?_ | refine gm ?_))); refine T_nil ?_) | (apply ZR; refine C_dr mixed ?_; (repeat (first | (apply vS; first | refine vl 51 ?_ | refine va ?_ | refine vp ?_ | refine vr ?_ | refine vf 62 ?_ | refine vt ?_ | refine vc (V) ?_ | refine vc (C) ?_) | (apply vZ; first | refine vs ?_))); refine W_e ?_) | (apply ZK; first | refine Z4 ?_ | refine Z5 ?_) | refine Z6 ?_ | refine Z7 ?_ | refine Z8 ?_ | refine Z9 ?_ | refine ZA ?_ | refine ZB ?_ | refine ZC ?_ | refine ZD ?_ | refine ZE ?_ | refine ZF ?_ | refine ZG ?_ | refine ZH ?_)
  refine C_count cs.length (fun _ => True) (fun i => ⟨2, 67, [(7, iD i), (6, rowL2 (idxs (cs.take i))), (4, .ptr 1 0)], [(1, some ⟨24, 1, 1, [rowR cs]⟩)]⟩) ?_ trivial ?_
  · exact Wk.mk (fun b => b) (.cons rfl (Ren.im rfl) (.cons rfl Ren.nilRow (.cons rfl (Ren.ptr rfl rfl rfl) .nil))) (.cons rfl rfl rfl (RenL.im rfl rfl) .nil) rfl
  · intro i hi _
    by_cases hlt : i < cs.length
    · have hm := c2 _ (List.getElem_mem hlt)
      have M := rMembers_ok hm.1 hm.2
      have e5 : idxs (cs.take (i + 1)) = nx (idxs (cs.take i)) (memN cs[i]) (idxs (cs.take i)).length 0 := by
        rw [List.take_succ_eq_append_getElem hlt, idxs_snoc, nx_end]
      have hA : ∀ o ∈ idxs (cs.take i), o.length ≤ 3 := fun o ho => by
        rw [idxs_each ho, List.length_take]; omega
      have hcap : (idxs (cs.take i)).length * (memN cs[i]).length ≤ 4096 := by
        have := c3 (i + 1)
        rw [List.take_succ_eq_append_getElem hlt] at this
        rw [idxs_len, memN_len]
        have e : prodN (cl (cs.take i ++ [cs[i]])) = prodN (cl (cs.take i)) * cN cs[i] := by
          unfold cl; rw [List.map_append, prodN_append]; simp [prodN]
        omega
      have hAl : (idxs (cs.take i)).length ≤ 4096 := by rw [idxs_len]; exact c3 i
      have hLl : (memN cs[i]).length ≤ 4096 := by rw [memN_len]; exact hm.2
      have hci : (i : Int) + 1 ≤ 3 := by omega
      clear c2 c3
      generalize memN cs[i] = L at *
      generalize idxs (cs.take i) = A at *
      repeat (first | refine Z1 ?_ | refine Z2 ?_ | (refine Z3 ?_; (repeat (first | (apply gS; first | refine go_f ?_ | refine gm ?_ | refine gp ?_ | refine go_c rfl rfl (M) ?_) | (apply gZ; first | refine go_f ?_ | refine gm ?_))); refine T_nil ?_) | (apply ZR; refine C_dr mixed ?_; (repeat (first | (apply vS; first | refine vl 51 ?_ | refine va ?_ | refine vp ?_ | refine vr ?_ | refine vf 62 ?_ | refine vt ?_ | refine vc (M) ?_) | (apply vZ; first | refine vs ?_))); refine W_e ?_) | (apply ZK; first | refine Z4 ?_ | refine Z5 ?_) | refine Z6 ?_ | refine Z7 ?_ | refine Z8 ?_ | refine Z9 ?_ | refine ZA ?_ | refine ZB ?_ | refine ZC ?_ | refine ZD ?_ | refine ZE ?_ | refine ZF ?_ | refine ZG ?_ | refine ZH ?_)
      refine C_count A.length (fun _ => True) (fun k => ⟨3, 67, [(11, iD k), (10, .own 2 (nx A L k 0).length), (8, rowI L), (7, iD i), (6, rowL2 A), (4, .ptr 1 0)], [(1, some ⟨24, 1, 1, [rowR cs]⟩), (2, some ⟨25, 1, (nx A L k 0).length, (nx A L k 0).map rowI⟩)]⟩) ?_ trivial ?_
      · rw [nx_0]
        refine Wk.trans (Wk.adoptT 10 25 1 rfl) ?_
        exact Wk.go (fun b => b)
      · intro k hk _
        by_cases hkl : k < A.length
        · repeat (first | refine Z1 ?_ | refine Z2 ?_ | (refine Z3 ?_; (repeat (first | (apply gS; first | refine go_f ?_ | refine gm ?_ | refine gp ?_) | (apply gZ; first | refine go_f ?_ | refine gm ?_))); refine T_nil ?_) | (apply ZR; refine C_dr mixed ?_; (repeat (first | (apply vS; first | refine vl 51 ?_ | refine va ?_ | refine vp ?_ | refine vr ?_ | refine vf 62 ?_ | refine vt ?_) | (apply vZ; first | refine vs ?_))); refine W_e ?_) | (apply ZK; first | refine Z4 ?_ | refine Z5 ?_) | refine Z6 ?_ | refine Z7 ?_ | refine Z8 ?_ | refine Z9 ?_ | refine ZA ?_ | refine ZB ?_ | refine ZC ?_ | refine ZD ?_ | refine ZE ?_ | refine ZF ?_ | refine ZG ?_ | refine ZH ?_)
          refine C_count L.length (fun _ => True) (fun j => ⟨3, 67, [(12, iD j), (11, iD k), (10, .own 2 (nx A L k j).length), (8, rowI L), (7, iD i), (6, rowL2 A), (4, .ptr 1 0)], [(1, some ⟨24, 1, 1, [rowR cs]⟩), (2, some ⟨25, 1, (nx A L k j).length, (nx A L k j).map rowI⟩)]⟩) ?_ trivial ?_
          · exact Wk.go (fun b => b)
          · intro j hj _
            by_cases hjl : j < L.length
            · have s1 := nx_step hkl hjl
              have ho := hA _ (List.getElem_mem hkl)
              have hn := nx_len (A := A) (L := L) (k := k) (j := j + 1) hk (by omega)
              have el : (nx A L k (j + 1)).length = (nx A L k j).length + 1 := by rw [s1]; simp
              have en : (nx A L k (j + 1)).map rowI = (nx A L k j).map rowI ++ [.row (0 + A[k].length + 1) (([] ++ intsD A[k]) ++ [iD L[j]])] := by
                rw [s1, List.map_append, List.map_cons, List.map_nil, snoc_row]
              repeat (first | refine Z1 ?_ | refine Z2 ?_ | (refine Z3 ?_; (repeat (first | (apply gS; first | refine go_f ?_ | refine gm ?_ | refine gp ?_) | (apply gZ; first | refine go_f ?_ | refine gm ?_))); refine T_nil ?_) | (apply ZR; refine C_dr mixed ?_; (repeat (first | (apply vS; first | refine vl 51 ?_ | refine va ?_ | refine vp ?_ | refine vr ?_ | refine vf 62 ?_ | refine vt ?_) | (apply vZ; first | refine vs ?_))); refine W_e ?_) | (apply ZK; first | refine Z4 ?_ | refine Z5 ?_) | refine Z6 ?_ | refine Z7 ?_ | refine Z8 ?_ | refine Z9 ?_ | refine ZA ?_ | refine ZB ?_ | refine ZC ?_ | refine ZD ?_ | refine ZE ?_ | refine ZF ?_ | refine ZG ?_ | refine ZH ?_)
              refine kLoop_n ⟨hjl, trivial, ?_⟩
              exact Wk.go (fun b => cond (Nat.beq b 2) 6 (b))
            · obtain rfl : j = L.length := by omega
              rw [nx_row hkl]
              repeat (first | refine Z1 ?_ | refine Z2 ?_ | (refine Z3 ?_; (repeat (first | (apply gS; first | refine go_f ?_ | refine gm ?_ | refine gp ?_) | (apply gZ; first | refine go_f ?_ | refine gm ?_))); refine T_nil ?_) | (apply ZR; refine C_dr mixed ?_; (repeat (first | (apply vS; first | refine vl 51 ?_ | refine va ?_ | refine vp ?_ | refine vr ?_ | refine vf 62 ?_ | refine vt ?_) | (apply vZ; first | refine vs ?_))); refine W_e ?_) | (apply ZK; first | refine Z4 ?_ | refine Z5 ?_) | refine Z6 ?_ | refine Z7 ?_ | refine Z8 ?_ | refine Z9 ?_ | refine ZA ?_ | refine ZB ?_ | refine ZC ?_ | refine ZD ?_ | refine ZE ?_ | refine ZF ?_ | refine ZG ?_ | refine ZH ?_)
              refine kLoop_n ⟨hkl, trivial, ?_⟩
              exact Wk.go (fun b => b)
        · obtain rfl : k = A.length := by omega
          repeat (first | refine Z1 ?_ | refine Z2 ?_ | (refine Z3 ?_; (repeat (first | (apply gS; first | refine go_f ?_ | refine gm ?_ | refine gp ?_) | (apply gZ; first | refine go_f ?_ | refine gm ?_))); refine T_nil ?_) | (apply ZR; refine C_dr mixed ?_; (repeat (first | (apply vS; first | refine vl 51 ?_ | refine va ?_ | refine vp ?_ | refine vr ?_ | refine vf 62 ?_ | refine vt ?_) | (apply vZ; first | refine vs ?_))); refine W_e ?_) | (apply ZK; first | refine Z4 ?_ | refine Z5 ?_) | refine Z6 ?_ | refine Z7 ?_ | refine Z8 ?_ | refine Z9 ?_ | refine ZA ?_ | refine ZB ?_ | refine ZC ?_ | refine ZD ?_ | refine ZE ?_ | refine ZF ?_ | refine ZG ?_ | refine ZH ?_)
          refine kLoop_n ⟨hlt, trivial, ?_⟩
          rw [e5]
          refine Wk.trans (Wk.freeze2 2 rfl (by repeat (first | rfl | exact idsL_map (fun _ => rfl) _ | exact idsL_flat (fun _ => rfl) _ | refine idsL_append ?_ ?_)) (by repeat (first | exact trivial | exact rfl | refine And.intro ?_ ?_))) ?_
          exact Wk.go (fun b => b)
    · obtain rfl : i = cs.length := by omega
      rw [List.take_length]
      repeat (first | refine Z1 ?_ | refine Z2 ?_ | (refine Z3 ?_; (repeat (first | (apply gS; first | refine go_f ?_ | refine gm ?_ | refine gp ?_) | (apply gZ; first | refine go_f ?_ | refine gm ?_))); refine T_nil ?_) | (apply ZR; refine C_dr mixed ?_; (repeat (first | (apply vS; first | refine vl 51 ?_ | refine va ?_ | refine vp ?_ | refine vr ?_ | refine vf 62 ?_ | refine vt ?_) | (apply vZ; first | refine vs ?_))); refine W_e ?_) | (apply ZK; first | refine Z4 ?_ | refine Z5 ?_) | refine Z6 ?_ | refine Z7 ?_ | refine Z8 ?_ | refine Z9 ?_ | refine ZA ?_ | refine ZB ?_ | refine ZC ?_ | refine ZD ?_ | refine ZE ?_ | refine ZF ?_ | refine ZG ?_ | refine ZH ?_)
      repeat (first | refine kEnd_m ?_ | refine kEnd_f ?_)
      refine kEnd_g ?_ (by first | exact .inl rfl | exact .inr rfl)
      exact Sub.eq rfl rfl
end Go.Proofs.Ytifapodobhkdcaa
