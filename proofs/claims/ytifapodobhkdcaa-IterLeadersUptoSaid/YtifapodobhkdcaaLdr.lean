/- Leader and Indexes of package iter, by the abstract machine. -/
import Derived.Test.YtifapodobhkdcaaDs5
namespace Go.Proofs.Ytifapodobhkdcaa
open Go.RowKit
set_option linter.unusedVariables false
set_option maxHeartbeats 16000000
set_option linter.unusedSimpArgs false
set_option maxRecDepth 100000
/-- the pieces that are not empty -/
def leadL (k : Kd) (n o : Nat) (c0 : Rg) (ct : List Rg) (m : Nat) : List (Int × List (List Rg)) := (piecesL k n o c0 ct m).filter fun c => decide (0 < c.2.length)
theorem Leader_bad {s : ByteArray} {n o : Int} {rs : List Rg} (h : errD s n o rs ≠ 0) : DC Try.prog 84 [dsD s n o, domD rs] (.tup [chsD [], iD (errD s n o rs)]) := by
  have B := Pieces_bad h
  generalize errD s n o rs = e at *
  refine DC.of Try.func84 Try.ntmps84 Try.results84 rfl (by decide +kernel) rfl ?_
  repeat (first | refine Z1 ?_ | refine Z2 ?_ | (refine Z3 ?_; (repeat (first | (apply gS; first | refine go_f ?_ | refine gx ?_ | refine gm ?_ | refine gp ?_ | refine go_c rfl rfl (B) ?_ | refine go_cF rfl rfl (B) ?_ | refine go_cA rfl rfl (B) ?_) | (apply gZ; first | refine go_f ?_ | refine gx ?_ | refine gm ?_))); refine T_nil ?_) | (apply ZK; first | refine Z4 ?_ | refine Z5 ?_) | refine Z6 ?_ | refine Z7 ?_ | refine Z8 ?_ | refine Z9 ?_ | refine ZA ?_ | refine ZB ?_ | refine ZC ?_ | refine ZD ?_ | refine ZE ?_ | refine ZF ?_ | refine ZG ?_ | refine ZH ?_)
  repeat (first | refine kEnd_m ?_ | refine kEnd_f ?_)
  refine kEnd_g ?_ (by first | exact .inl rfl | exact .inr rfl)
  exact Sub.tup (.cons Sub.nil (.cons (Sub.eq rfl rfl) .nil))
theorem Leader_ok {s : ByteArray} {k : Kd} {n o : Nat} (hk : Okd s k n o) {rs : List Rg} {c0 : Rg} {ct : List Rg} (hd : domB rs = true) (hc : canonRs rs = c0 :: ct) (hs : SpOk c0 ct) :
    DC Try.prog 84 [dsD s n o, domD rs] (.tup [chsD (leadL k n o c0 ct o), iD 0]) := by
  have B := Pieces_ok hk hd hc hs
  have h8 := hk.ok.o8
  have hlen : (piecesL k n o c0 ct o).length = o := by simp [piecesL]
  have hlead : leadL k n o c0 ct o = (piecesL k n o c0 ct o).filter fun c => decide (0 < c.2.length) := rfl
  generalize piecesL k n o c0 ct o = ps at *
  generalize leadL k n o c0 ct o = ld at *
  subst hlead
  have hl8 : ps.length ≤ 8 := by omega
  clear hk hd hc hs
  have hS : ∀ m (h : m < ps.length), (ps.take (m + 1)).filter (fun c => decide (0 < c.2.length)) = (ps.take m).filter (fun c => decide (0 < c.2.length)) ++ (if 0 < ps[m].2.length then [ps[m]] else []) := fun m h => by
    rw [List.take_succ_eq_append_getElem h, List.filter_append]
    by_cases hp : 0 < ps[m].2.length <;> simp [hp]
  have hle : ∀ m, ((ps.take m).filter (fun c => decide (0 < c.2.length))).length ≤ 8 := fun m => by
    have h1 := List.length_filter_le (fun c : Int × List (List Rg) => decide (0 < c.2.length)) (ps.take m)
    rw [List.length_take] at h1; omega
  have hend : (ps.take ps.length).filter (fun c => decide (0 < c.2.length)) = ps.filter (fun c => decide (0 < c.2.length)) := by rw [List.take_length]
  obtain ⟨ld, hld⟩ : ∃ ld : Nat → List (Int × List (List Rg)), ∀ m, ld m = (ps.take m).filter (fun c => decide (0 < c.2.length)) := ⟨_, fun _ => rfl⟩
  simp only [← hld] at hS hle hend
  rw [← hend]
  have z0 : (ld 0).length = 0 := by rw [hld]; rfl
  have z1 : (ld 0).flatMap chC = [] := by rw [hld]; rfl
  clear hld hend
  rw [show chsD ps = .row ps.length (ps.flatMap chC) from rfl] at B
  refine DC.of Try.func84 Try.ntmps84 Try.results84 rfl (by decide +kernel) rfl ?_
  repeat (first | refine Z1 ?_ | refine Z2 ?_ | (refine Z3 ?_; (repeat (first | (apply gS; first | refine go_f ?_ | refine gx ?_ | refine gm ?_ | refine gp ?_ | refine go_c rfl rfl (B) ?_ | refine go_cF rfl rfl (B) ?_ | refine go_cA rfl rfl (B) ?_) | (apply gZ; first | refine go_f ?_ | refine gx ?_ | refine gm ?_))); refine T_nil ?_) | (apply ZK; first | refine Z4 ?_ | refine Z5 ?_) | refine Z6 ?_ | refine Z7 ?_ | refine Z8 ?_ | refine Z9 ?_ | refine ZA ?_ | refine ZB ?_ | refine ZC ?_ | refine ZD ?_ | refine ZE ?_ | refine ZF ?_ | refine ZG ?_ | refine ZH ?_)
  refine C_count ps.length (fun _ => True) (fun m => ⟨3, 36, [(22, iD m), (21, iD ps.length), (20, .row ps.length (ps.flatMap chC)), (8, .own 2 (ld m).length)], [(2, some ⟨90, 2, (ld m).length, (ld m).flatMap chC⟩)]⟩) ?_ trivial ?_
  · rw [z0, z1]
    refine Wk.trans (Wk.adoptT 8 90 2 rfl) ?_
    exact Wk.gx (fun b => b)
  · intro m hm _
    by_cases hlt : m < ps.length
    · have e := hS m hlt
      have q := hle m
      by_cases hp : 0 < ps[m].2.length
      · rw [if_pos hp] at e
        have e1 : (ld (m + 1)).length = (ld m).length + 1 := by rw [e]; simp
        have e2 : (ld (m + 1)).flatMap chC = (ld m).flatMap chC ++ chC ps[m] := by rw [e, List.flatMap_append]; simp
        clear hS e hle
        repeat (first | refine Z1 ?_ | refine Z2 ?_ | (refine Z3 ?_; (repeat (first | (apply gS; first | refine go_f ?_ | refine gx ?_ | refine gm ?_ | refine gp ?_) | (apply gZ; first | refine go_f ?_ | refine gx ?_ | refine gm ?_))); refine T_nil ?_) | (apply ZK; first | refine Z4 ?_ | refine Z5 ?_) | refine Z6 ?_ | refine Z7 ?_ | refine Z8 ?_ | refine Z9 ?_ | refine ZA ?_ | refine ZB ?_ | refine ZC ?_ | refine ZD ?_ | refine ZE ?_ | refine ZF ?_ | refine ZG ?_ | refine ZH ?_)
        refine kLoop_n ⟨hlt, trivial, ?_⟩
        exact Wk.gx (fun b => cond (Nat.beq b 2) 4 (b))
      · rw [if_neg hp, List.append_nil] at e
        have e1 : (ld (m + 1)).length = (ld m).length := by rw [e]
        have e2 : (ld (m + 1)).flatMap chC = (ld m).flatMap chC := by rw [e]
        clear hS e hle
        repeat (first | refine Z1 ?_ | refine Z2 ?_ | (refine Z3 ?_; (repeat (first | (apply gS; first | refine go_f ?_ | refine gx ?_ | refine gm ?_ | refine gp ?_) | (apply gZ; first | refine go_f ?_ | refine gx ?_ | refine gm ?_))); refine T_nil ?_) | (apply ZK; first | refine Z4 ?_ | refine Z5 ?_) | refine Z6 ?_ | refine Z7 ?_ | refine Z8 ?_ | refine Z9 ?_ | refine ZA ?_ | refine ZB ?_ | refine ZC ?_ | refine ZD ?_ | refine ZE ?_ | refine ZF ?_ | refine ZG ?_ | refine ZH ?_)
        refine kLoop_n ⟨hlt, trivial, ?_⟩
        exact Wk.gx (fun b => b)
    · obtain rfl : m = ps.length := by omega
      repeat (first | refine Z1 ?_ | refine Z2 ?_ | (refine Z3 ?_; (repeat (first | (apply gS; first | refine go_f ?_ | refine gx ?_ | refine gm ?_ | refine gp ?_) | (apply gZ; first | refine go_f ?_ | refine gx ?_ | refine gm ?_))); refine T_nil ?_) | (apply ZK; first | refine Z4 ?_ | refine Z5 ?_) | refine Z6 ?_ | refine Z7 ?_ | refine Z8 ?_ | refine Z9 ?_ | refine ZA ?_ | refine ZB ?_ | refine ZC ?_ | refine ZD ?_ | refine ZE ?_ | refine ZF ?_ | refine ZG ?_ | refine ZH ?_)
      repeat (first | refine kEnd_m ?_ | refine kEnd_f ?_)
      refine kEnd_g ?_ (by first | exact .inl rfl | exact .inr rfl)
      exact Sub.eq rfl rfl
theorem iIndexes_ok (p : Int) (ps : List (List Rg)) (hl : ps.length ≤ 1000000000) (hc : chB p ps = true) : DC Try.prog 86 [chD p ps] (.tup [rowL2 (allX ps), iD 0]) := by
  have V := iValid_d p ps (by omega)
  rw [hc] at V
  have hall : ∀ d ∈ ps, domB d = true := by
    unfold chB at hc
    rw [Bool.and_eq_true] at hc
    exact List.all_eq_true.1 hc.1
  have I := iIndexes_d p ps hl hall
  clear hc
  generalize allX ps = X at *
  refine DC.of Try.func86 Try.ntmps86 Try.results86 rfl (by decide +kernel) rfl ?_
  repeat (first | refine Z1 ?_ | refine Z2 ?_ | (refine Z3 ?_; (repeat (first | (apply gS; first | refine go_f ?_ | refine gx ?_ | refine gm ?_ | refine gp ?_ | refine go_c rfl rfl (V) ?_ | refine go_cF rfl rfl (V) ?_ | refine go_cA rfl rfl (V) ?_ | refine go_c rfl rfl (I) ?_ | refine go_cF rfl rfl (I) ?_ | refine go_cA rfl rfl (I) ?_))); refine T_nil ?_) | (apply ZK; first | refine Z4 ?_ | refine Z5 ?_) | refine Z6 ?_ | refine Z7 ?_ | refine ZF ?_)
  repeat (first | refine kEnd_m ?_ | refine kEnd_f ?_)
  refine kEnd_g ?_ (by first | exact .inl rfl | exact .inr rfl)
  exact Sub.eq rfl rfl
end Go.Proofs.Ytifapodobhkdcaa
