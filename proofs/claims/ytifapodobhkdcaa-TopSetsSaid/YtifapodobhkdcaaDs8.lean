/- Tables of counts, by the abstract machine: counts of the program and of the reference. -/
import Derived.Test.YtifapodobhkdcaaDs6
namespace Go.Proofs.Ytifapodobhkdcaa
open Go.RowKit
set_option linter.unusedVariables false
set_option maxHeartbeats 16000000
set_option linter.unusedSimpArgs false
set_option maxRecDepth 100000
def tabD (F : Nat → Int) : List D := (List.range 64).map fun i => iD (F i)
def rowF (F : Nat → Int) (a : Nat) : List D := (List.range 8).map fun b => iD (F (a * 8 + b))
theorem tabD_len (F : Nat → Int) : (tabD F).length = 64 := by simp [tabD]
theorem rowF_len (F : Nat → Int) (a : Nat) : (rowF F a).length = 8 := by simp [rowF]
theorem row_of (F : Nat → Int) {a : Nat} (ha : a < 8) : (List.drop (((a : Nat) : Int).toNat * 8) (tabD F)).take 8 = rowF F a := by
  rw [Int.toNat_natCast]
  refine List.ext_getElem (by simp [tabD, rowF]; omega) fun i h1 h2 => ?_
  simp [tabD, rowF]
theorem row_at (F : Nat → Int) (a : Nat) {b : Nat} (hb : b < 8) : (rowF F a)[((b : Nat) : Int).toNat]? = some (iD (F (a * 8 + b))) := by
  rw [Int.toNat_natCast]
  simp [rowF, hb]
theorem tab_at (F : Nat → Int) {a b : Nat} (ha : a < 8) (hb : b < 8) : (tabD F)[0 + ((a : Nat) : Int).toNat * 8 + ((b : Nat) : Int).toNat * 1]? = some (iD (F (a * 8 + b))) := by
  have h : a * 8 + b < 64 := by omega
  rw [Int.toNat_natCast, Int.toNat_natCast, Nat.zero_add, Nat.mul_one]
  simp [tabD, h]
def updF (F : Nat → Int) (i : Nat) (v : Int) : Nat → Int := fun j => if j = i then v else F j
theorem tab_set (F : Nat → Int) {a b : Nat} (ha : a < 8) (hb : b < 8) (v : Int) : tabD (updF F (a * 8 + b) v) = (tabD F).set (0 + ((a : Nat) : Int).toNat * 8 + ((b : Nat) : Int).toNat * 1) (iD v) := by
  rw [Int.toNat_natCast, Int.toNat_natCast, Nat.zero_add, Nat.mul_one]
  refine List.ext_getElem (by simp [tabD]) fun i h1 h2 => ?_
  rw [List.getElem_set]
  unfold updF
  by_cases e : a * 8 + b = i
  · subst e; rw [if_pos rfl]; simp [tabD]
  · have e' : ¬ i = a * 8 + b := fun h => e h.symm
    rw [if_neg e]; simp [tabD, e']
def ents (F : Nat → Int) (m : Nat) : List Nat := (List.range m).filter fun i => decide (0 < F i)
abbrev entC (kd : ByteArray) (F : Nat → Int) (i : Nat) : List D := [iD (i / 8 : Nat), iD (i % 8 : Nat), sD kd, iD (F i)]
abbrev entsC (kd : ByteArray) (F : Nat → Int) (m : Nat) : List D := (ents F m).flatMap (entC kd F)
abbrev cntsD (kd : ByteArray) (F : Nat → Int) : D := .row (ents F 64).length (entsC kd F 64)
theorem ents_snoc (kd : ByteArray) (F : Nat → Int) {a b : Nat} (hb : b < 8) : (0 < F (a * 8 + b) → (ents F (a * 8 + (b + 1))).length = (ents F (a * 8 + b)).length + 1 ∧ entsC kd F (a * 8 + (b + 1)) = entsC kd F (a * 8 + b) ++ [iD a, iD b, sD kd, iD (F (a * 8 + b))]) ∧
    (¬ 0 < F (a * 8 + b) → (ents F (a * 8 + (b + 1))).length = (ents F (a * 8 + b)).length ∧ entsC kd F (a * 8 + (b + 1)) = entsC kd F (a * 8 + b)) := by
  have e : ents F (a * 8 + (b + 1)) = ents F (a * 8 + b) ++ (if 0 < F (a * 8 + b) then [a * 8 + b] else []) := by
    unfold ents
    rw [← Nat.add_assoc, List.range_succ, List.filter_append]
    by_cases h : 0 < F (a * 8 + b) <;> simp [h]
  unfold entsC
  rw [e]
  constructor
  · intro h
    rw [if_pos h]
    refine ⟨by simp, ?_⟩
    rw [List.flatMap_append]
    have h1 : (a * 8 + b) / 8 = a := by omega
    have h2 : (a * 8 + b) % 8 = b := by omega
    simp [entC, h1, h2]
  · intro h
    rw [if_neg h, List.append_nil]
    exact ⟨rfl, rfl⟩
theorem ents_le (F : Nat → Int) (m : Nat) : (ents F m).length ≤ m := by
  have := List.length_filter_le (fun i => decide (0 < F i)) (List.range m)
  simpa [ents] using this
theorem tcounts_d (F : Nat → Int) (kd : ByteArray) : DC Try.prog 140 [.obj (tabD F), sD kd] (cntsD kd F) := by
  have hR := fun a (ha : a < 8) => row_of F ha
  have hl := rowF_len F
  have hA := fun a b (hb : b < 8) => row_at F a hb
  have hS := fun a b (hb : b < 8) => ents_snoc kd F (a := a) hb
  have hT := tabD_len F
  have hL := ents_le F
  have z0 : (ents F (0 * 8)).length = 0 := rfl
  have z1 : entsC kd F (0 * 8) = [] := rfl
  show DC _ _ _ (.row (ents F (8 * 8)).length ((ents F (8 * 8)).flatMap (entC kd F)))
  dsimp only [entsC] at hS z1
  generalize ents F = N at *
  refine DC.of Try.func140 Try.ntmps140 Try.results140 rfl (by decide +kernel) rfl ?_
  repeat (first | refine Z1 ?_ | refine Z2 ?_ | (refine Z3 ?_; (repeat (first | (apply gS; first | refine go_f ?_ | refine gx ?_ | refine gm ?_ | refine gp ?_))); refine T_nil ?_) | (apply ZK; first | refine Z4 ?_ | refine Z5 ?_) | refine Z6 ?_ | refine Z7 ?_ | refine Z8 ?_ | refine Z9 ?_ | refine ZA ?_ | refine ZB ?_ | refine ZC ?_ | refine ZD ?_ | refine ZE ?_ | refine ZF ?_ | refine ZG ?_ | refine ZH ?_)
  refine C_count 8 (fun _ => True) (fun a => ⟨1, 34, [(9, iD a), (5, .own 0 (N (a * 8)).length), (0, .obj (tabD F)), (1, sD kd)], [(0, some ⟨84, 4, (N (a * 8)).length, (N (a * 8)).flatMap (entC kd F)⟩)]⟩) ?_ trivial ?_
  · rw [z0, z1]
    refine Wk.trans (Wk.adoptT 5 84 4 rfl) ?_
    exact Wk.gx (fun b => b)
  · intro a ha _
    by_cases hlt : a < 8
    · have r1 := hR a hlt
      have r2 := hl a
      repeat (first | refine Z1 ?_ | refine Z2 ?_ | (refine Z3 ?_; (repeat (first | (apply gS; first | refine go_f ?_ | refine gx ?_ | refine gm ?_ | refine gp ?_))); refine T_nil ?_) | (apply ZK; first | refine Z4 ?_ | refine Z5 ?_) | refine Z6 ?_ | refine Z7 ?_ | refine Z8 ?_ | refine Z9 ?_ | refine ZA ?_ | refine ZB ?_ | refine ZC ?_ | refine ZD ?_ | refine ZE ?_ | refine ZF ?_ | refine ZG ?_ | refine ZH ?_)
      refine C_count 8 (fun _ => True) (fun b => ⟨1, 34, [(17, iD b), (16, .agg (rowF F a)), (9, iD a), (6, iD a), (5, .own 0 (N (a * 8 + b)).length), (0, .obj (tabD F)), (1, sD kd)], [(0, some ⟨84, 4, (N (a * 8 + b)).length, (N (a * 8 + b)).flatMap (entC kd F)⟩)]⟩) ?_ trivial ?_
      · rw [Nat.add_zero]
        exact Wk.gx (fun b => b)
      · intro b hb _
        by_cases hbl : b < 8
        · have r3 := hA a b hbl
          obtain ⟨s1, s2⟩ := hS a b hbl
          have r4 := hL (a * 8 + b)
          by_cases hp : 0 < F (a * 8 + b)
          · obtain ⟨s3, s4⟩ := s1 hp
            clear s1 s2 hS hA hR hL
            repeat (first | refine Z1 ?_ | refine Z2 ?_ | (refine Z3 ?_; (repeat (first | (apply gS; first | refine go_f ?_ | refine gx ?_ | refine gm ?_ | refine gp ?_))); refine T_nil ?_) | (apply ZK; first | refine Z4 ?_ | refine Z5 ?_) | refine Z6 ?_ | refine Z7 ?_ | refine Z8 ?_ | refine Z9 ?_ | refine ZA ?_ | refine ZB ?_ | refine ZC ?_ | refine ZD ?_ | refine ZE ?_ | refine ZF ?_ | refine ZG ?_ | refine ZH ?_)
            refine kLoop_n ⟨hbl, trivial, ?_⟩
            exact Wk.gx (fun b => cond (Nat.beq b 0) 1 (b))
          · obtain ⟨s3, s4⟩ := s2 hp
            clear s1 s2 hS hA hR hL
            repeat (first | refine Z1 ?_ | refine Z2 ?_ | (refine Z3 ?_; (repeat (first | (apply gS; first | refine go_f ?_ | refine gx ?_ | refine gm ?_ | refine gp ?_))); refine T_nil ?_) | (apply ZK; first | refine Z4 ?_ | refine Z5 ?_) | refine Z6 ?_ | refine Z7 ?_ | refine Z8 ?_ | refine Z9 ?_ | refine ZA ?_ | refine ZB ?_ | refine ZC ?_ | refine ZD ?_ | refine ZE ?_ | refine ZF ?_ | refine ZG ?_ | refine ZH ?_)
            refine kLoop_n ⟨hbl, trivial, ?_⟩
            exact Wk.gx (fun b => b)
        · obtain rfl : b = 8 := by omega
          have e1 : a * 8 + 8 = (a + 1) * 8 := by omega
          rw [e1]
          repeat (first | refine Z1 ?_ | refine Z2 ?_ | (refine Z3 ?_; (repeat (first | (apply gS; first | refine go_f ?_ | refine gx ?_ | refine gm ?_ | refine gp ?_))); refine T_nil ?_) | (apply ZK; first | refine Z4 ?_ | refine Z5 ?_) | refine Z6 ?_ | refine Z7 ?_ | refine Z8 ?_ | refine Z9 ?_ | refine ZA ?_ | refine ZB ?_ | refine ZC ?_ | refine ZD ?_ | refine ZE ?_ | refine ZF ?_ | refine ZG ?_ | refine ZH ?_)
          refine kLoop_n ⟨hlt, trivial, ?_⟩
          exact Wk.gx (fun b => b)
    · obtain rfl : a = 8 := by omega
      repeat (first | refine Z1 ?_ | refine Z2 ?_ | (refine Z3 ?_; (repeat (first | (apply gS; first | refine go_f ?_ | refine gx ?_ | refine gm ?_ | refine gp ?_))); refine T_nil ?_) | (apply ZK; first | refine Z4 ?_ | refine Z5 ?_) | refine Z6 ?_ | refine Z7 ?_ | refine Z8 ?_ | refine Z9 ?_ | refine ZA ?_ | refine ZB ?_ | refine ZC ?_ | refine ZD ?_ | refine ZE ?_ | refine ZF ?_ | refine ZG ?_ | refine ZH ?_)
      repeat (first | refine kEnd_m ?_ | refine kEnd_f ?_)
      refine kEnd_g ?_ (by first | exact .inl rfl | exact .inr rfl)
      exact Sub.eq rfl rfl
theorem rcounts_d (F : Nat → Int) (kd : ByteArray) : DC Try.prog 141 [sD kd, .agg (tabD F)] (cntsD kd F) := by
  have hA := fun a b (ha : a < 8) (hb : b < 8) => tab_at F ha hb
  have hS := fun a b (hb : b < 8) => ents_snoc kd F (a := a) hb
  have hT := tabD_len F
  have hL := ents_le F
  have z0 : (ents F (0 * 8)).length = 0 := rfl
  have z1 : entsC kd F (0 * 8) = [] := rfl
  show DC _ _ _ (.row (ents F (8 * 8)).length ((ents F (8 * 8)).flatMap (entC kd F)))
  dsimp only [entsC] at hS z1
  generalize ents F = N at *
  refine DC.of Try.func141 Try.ntmps141 Try.results141 rfl (by decide +kernel) rfl ?_
  repeat (first | refine Z1 ?_ | refine Z2 ?_ | (refine Z3 ?_; (repeat (first | (apply gS; first | refine go_f ?_ | refine gx ?_ | refine gm ?_ | refine gp ?_))); refine T_nil ?_) | (apply ZK; first | refine Z4 ?_ | refine Z5 ?_) | refine Z6 ?_ | refine Z7 ?_ | refine Z8 ?_ | refine Z9 ?_ | refine ZA ?_ | refine ZB ?_ | refine ZC ?_ | refine ZD ?_ | refine ZE ?_ | refine ZF ?_ | refine ZG ?_ | refine ZH ?_)
  refine C_count 8 (fun _ => True) (fun a => ⟨2, 35, [(6, iD a), (5, .own 1 (N (a * 8)).length), (3, .ptr 0 0), (0, sD kd)], [(0, some ⟨155, 64, 1, tabD F⟩), (1, some ⟨84, 4, (N (a * 8)).length, (N (a * 8)).flatMap (entC kd F)⟩)]⟩) ?_ trivial ?_
  · rw [z0, z1]
    refine Wk.trans (Wk.adoptT 5 84 4 rfl) ?_
    exact Wk.gx (fun b => b)
  · intro a ha _
    by_cases hlt : a < 8
    · repeat (first | refine Z1 ?_ | refine Z2 ?_ | (refine Z3 ?_; (repeat (first | (apply gS; first | refine go_f ?_ | refine gx ?_ | refine gm ?_ | refine gp ?_))); refine T_nil ?_) | (apply ZK; first | refine Z4 ?_ | refine Z5 ?_) | refine Z6 ?_ | refine Z7 ?_ | refine Z8 ?_ | refine Z9 ?_ | refine ZA ?_ | refine ZB ?_ | refine ZC ?_ | refine ZD ?_ | refine ZE ?_ | refine ZF ?_ | refine ZG ?_ | refine ZH ?_)
      refine C_count 8 (fun _ => True) (fun b => ⟨2, 35, [(7, iD b), (6, iD a), (5, .own 1 (N (a * 8 + b)).length), (3, .ptr 0 0), (0, sD kd)], [(0, some ⟨155, 64, 1, tabD F⟩), (1, some ⟨84, 4, (N (a * 8 + b)).length, (N (a * 8 + b)).flatMap (entC kd F)⟩)]⟩) ?_ trivial ?_
      · rw [Nat.add_zero]
        exact Wk.gx (fun b => b)
      · intro b hb _
        by_cases hbl : b < 8
        · have r3 := hA a b hlt hbl
          obtain ⟨s1, s2⟩ := hS a b hbl
          have r4 := hL (a * 8 + b)
          by_cases hp : 0 < F (a * 8 + b)
          · obtain ⟨s3, s4⟩ := s1 hp
            clear s1 s2 hS hA hL
            repeat (first | refine Z1 ?_ | refine Z2 ?_ | (refine Z3 ?_; (repeat (first | (apply gS; first | refine go_f ?_ | refine gx ?_ | refine gm ?_ | refine gp ?_))); refine T_nil ?_) | (apply ZK; first | refine Z4 ?_ | refine Z5 ?_) | refine Z6 ?_ | refine Z7 ?_ | refine Z8 ?_ | refine Z9 ?_ | refine ZA ?_ | refine ZB ?_ | refine ZC ?_ | refine ZD ?_ | refine ZE ?_ | refine ZF ?_ | refine ZG ?_ | refine ZH ?_)
            refine kLoop_n ⟨hbl, trivial, ?_⟩
            exact Wk.gx (fun b => cond (Nat.beq b 1) 2 (b))
          · obtain ⟨s3, s4⟩ := s2 hp
            clear s1 s2 hS hA hL
            repeat (first | refine Z1 ?_ | refine Z2 ?_ | (refine Z3 ?_; (repeat (first | (apply gS; first | refine go_f ?_ | refine gx ?_ | refine gm ?_ | refine gp ?_))); refine T_nil ?_) | (apply ZK; first | refine Z4 ?_ | refine Z5 ?_) | refine Z6 ?_ | refine Z7 ?_ | refine Z8 ?_ | refine Z9 ?_ | refine ZA ?_ | refine ZB ?_ | refine ZC ?_ | refine ZD ?_ | refine ZE ?_ | refine ZF ?_ | refine ZG ?_ | refine ZH ?_)
            refine kLoop_n ⟨hbl, trivial, ?_⟩
            exact Wk.gx (fun b => b)
        · obtain rfl : b = 8 := by omega
          have e1 : a * 8 + 8 = (a + 1) * 8 := by omega
          rw [e1]
          repeat (first | refine Z1 ?_ | refine Z2 ?_ | (refine Z3 ?_; (repeat (first | (apply gS; first | refine go_f ?_ | refine gx ?_ | refine gm ?_ | refine gp ?_))); refine T_nil ?_) | (apply ZK; first | refine Z4 ?_ | refine Z5 ?_) | refine Z6 ?_ | refine Z7 ?_ | refine Z8 ?_ | refine Z9 ?_ | refine ZA ?_ | refine ZB ?_ | refine ZC ?_ | refine ZD ?_ | refine ZE ?_ | refine ZF ?_ | refine ZG ?_ | refine ZH ?_)
          refine kLoop_n ⟨hlt, trivial, ?_⟩
          exact Wk.gx (fun b => b)
    · obtain rfl : a = 8 := by omega
      repeat (first | refine Z1 ?_ | refine Z2 ?_ | (refine Z3 ?_; (repeat (first | (apply gS; first | refine go_f ?_ | refine gx ?_ | refine gm ?_ | refine gp ?_))); refine T_nil ?_) | (apply ZK; first | refine Z4 ?_ | refine Z5 ?_) | refine Z6 ?_ | refine Z7 ?_ | refine Z8 ?_ | refine Z9 ?_ | refine ZA ?_ | refine ZB ?_ | refine ZC ?_ | refine ZD ?_ | refine ZE ?_ | refine ZF ?_ | refine ZG ?_ | refine ZH ?_)
      repeat (first | refine kEnd_m ?_ | refine kEnd_f ?_)
      refine kEnd_g ?_ (by first | exact .inl rfl | exact .inr rfl)
      exact Sub.eq rfl rfl
end Go.Proofs.Ytifapodobhkdcaa
