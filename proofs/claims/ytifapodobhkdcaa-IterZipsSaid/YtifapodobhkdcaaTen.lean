/- Tensor of package iter and of the reference, by the abstract machine. -/
import Derived.Test.YtifapodobhkdcaaF3
namespace Go.Proofs.Ytifapodobhkdcaa
open Go.RowKit
set_option linter.unusedVariables false
set_option maxHeartbeats 16000000
set_option linter.unusedSimpArgs false
set_option maxRecDepth 100000
/-! ### all lists of one index of each domain -/
def cD (ls : List (List Rg)) : List Nat := ls.map cnt
def tens : List (List Rg) → List (List (List Int))
  | [] => [[]]
  | d :: ds => (idxs d).flatMap fun x => (tens ds).map (x :: ·)
theorem tens_len : ∀ ls : List (List Rg), (tens ls).length = prodN (cD ls)
  | [] => rfl
  | d :: ds => by
    show ((idxs d).flatMap _).length = cnt d * prodN (cD ds)
    rw [flat_len (m := prodN (cD ds)) (fun x => by rw [List.length_map, tens_len ds]), idxs_len]; rfl
def tenX : List (List Rg) → Nat → List (List Int)
  | [], _ => []
  | d :: ds, i => ithX d (i / prodN (cD ds)) :: tenX ds (i % prodN (cD ds))
theorem tenX_len : ∀ (ls : List (List Rg)) (i : Nat), (tenX ls i).length = ls.length
  | [], _ => rfl
  | d :: ds, i => by simp [tenX, tenX_len ds]
theorem tens_get : ∀ (ls : List (List Rg)) (i : Nat), i < prodN (cD ls) → (tens ls)[i]? = some (tenX ls i)
  | [], i, h => by
    have : i = 0 := by simp [cD, prodN] at h; exact h
    subst this; rfl
  | d :: ds, i, h => by
    have h' : i < cnt d * prodN (cD ds) := h
    have hP : 0 < prodN (cD ds) := by
      rcases Nat.eq_zero_or_pos (prodN (cD ds)) with e | e
      · rw [e] at h'; simp at h'
      · exact e
    have hk : i / prodN (cD ds) < (idxs d).length := by rw [idxs_len]; exact Nat.div_lt_of_lt_mul (by rw [Nat.mul_comm]; exact h')
    have hj := Nat.mod_lt i hP
    have hf := flat_at (f := fun x => (tens ds).map (x :: ·)) (m := prodN (cD ds)) (fun x => by rw [List.length_map, tens_len ds]) hk hj
    have ei : i / prodN (cD ds) * prodN (cD ds) + i % prodN (cD ds) = i := by rw [Nat.mul_comm]; exact Nat.div_add_mod i _
    rw [ei] at hf
    show ((idxs d).flatMap fun x => (tens ds).map (x :: ·))[i]? = _
    rw [hf, List.getElem?_map, tens_get ds _ hj]
    have hg := idxs_get d (i / prodN (cD ds)) (by rw [idxs_len] at hk; exact hk)
    rw [List.getElem?_eq_getElem hk] at hg
    simp only [Option.map_some, tenX, Option.some.inj hg]
theorem tens_snoc : ∀ (a : List (List Rg)) (d : List Rg), tens (a ++ [d]) = (tens a).flatMap fun o => (idxs d).map fun x => o ++ [x]
  | [], d => by
    show (idxs d).flatMap (fun x => ([[]] : List (List (List Int))).map (x :: ·)) = _
    simp only [tens, List.flatMap_cons, List.flatMap_nil, List.append_nil, List.map_cons, List.map_nil, List.nil_append]
    induction idxs d with
    | nil => rfl
    | cons x l ih => rw [List.flatMap_cons, ih]; rfl
  | s :: a, d => by
    show (idxs s).flatMap (fun x => (tens (a ++ [d])).map (x :: ·)) = ((idxs s).flatMap fun x => (tens a).map (x :: ·)).flatMap _
    rw [tens_snoc a d, List.flatMap_assoc]
    congr 1
    funext x
    rw [List.map_flatMap, List.flatMap_map]
    congr 1
    funext o
    rw [List.map_map]
    rfl
def tenD (ls : List (List Rg)) (i k : Nat) : List D := (tenX (ls.drop k) (i % prodN (cD (ls.drop k)))).map rowI
theorem tens_each : ∀ {ls : List (List Rg)} {o : List (List Int)}, o ∈ tens ls → o.length = ls.length
  | [], o, h => by simp [tens] at h; subst h; rfl
  | d :: ds, o, h => by
    obtain ⟨x, _, h⟩ := List.mem_flatMap.1 h
    obtain ⟨o', h1, rfl⟩ := List.mem_map.1 h
    simp [tens_each h1]
theorem tenX_step {ls : List (List Rg)} {k : Nat} (h : k < ls.length) (i : Nat) :
    tenX (ls.drop k) (i % prodN (cD (ls.drop k))) = ithX ls[k] (i / prodN (cD (ls.drop (k + 1))) % cnt ls[k]) :: tenX (ls.drop (k + 1)) (i % prodN (cD (ls.drop (k + 1)))) ∧
    i / prodN (cD (ls.drop (k + 1))) / cnt ls[k] = i / prodN (cD (ls.drop k)) := by
  have e : ls.drop k = ls[k] :: ls.drop (k + 1) := List.drop_eq_getElem_cons h
  have e2 : prodN (cD (ls.drop k)) = cnt ls[k] * prodN (cD (ls.drop (k + 1))) := by rw [e]; rfl
  rw [e2]
  refine ⟨?_, by rw [Nat.div_div_eq_div_mul, Nat.mul_comm]⟩
  rw [e]
  simp only [tenX]
  rw [Nat.mod_mul_left_div_self, Nat.mod_mul_left_mod]
/-- after k lists whole, and j of the next one -/
def nxT {α : Type} (A : List (List α)) (L : List α) (k j : Nat) : List (List α) := ((A.take k).flatMap fun o => L.map fun x => o ++ [x]) ++ match A[k]? with
  | some o => (L.take j).map fun x => o ++ [x]
  | none => []
theorem nxT_0 {α : Type} (A : List (List α)) (L : List α) : nxT A L 0 0 = [] := by unfold nxT; cases A <;> simp
theorem nxT_step {α : Type} {A : List (List α)} {L : List α} {k j : Nat} (hk : k < A.length) (hj : j < L.length) : nxT A L k (j + 1) = nxT A L k j ++ [A[k] ++ [L[j]]] := by
  unfold nxT
  rw [List.getElem?_eq_getElem hk]
  simp only
  rw [List.take_succ_eq_append_getElem hj, List.map_append, ← List.append_assoc]
  rfl
theorem nxT_row {α : Type} {A : List (List α)} {L : List α} {k : Nat} (hk : k < A.length) : nxT A L k L.length = nxT A L (k + 1) 0 := by
  unfold nxT
  rw [List.getElem?_eq_getElem hk, List.take_length, List.take_succ_eq_append_getElem hk, List.flatMap_append]
  simp only [List.flatMap_cons, List.flatMap_nil, List.append_nil, List.take_zero, List.map_nil]
  cases A[k + 1]? <;> simp
theorem nxT_end {α : Type} (A : List (List α)) (L : List α) : nxT A L A.length 0 = A.flatMap fun o => L.map fun x => o ++ [x] := by
  unfold nxT
  rw [List.getElem?_eq_none (Nat.le_refl _), List.take_length, List.append_nil]
theorem nxT_len {α : Type} {A : List (List α)} {L : List α} {k j : Nat} (hk : k ≤ A.length) (hj : j ≤ L.length) : (nxT A L k j).length ≤ A.length * L.length := by
  unfold nxT
  rw [List.length_append, flat_len (m := L.length) (fun o => by simp), List.length_take, Nat.min_eq_left hk]
  by_cases h : k < A.length
  · rw [List.getElem?_eq_getElem h]
    simp only [List.length_map, List.length_take, Nat.min_eq_left hj]
    have := Nat.mul_le_mul_right L.length (show k + 1 ≤ A.length by omega)
    rw [Nat.add_mul, Nat.one_mul] at this
    omega
  · rw [List.getElem?_eq_none (by omega)]
    have : k = A.length := by omega
    subst this
    simp
def tensRes (ls : List (List Rg)) : List (List (List Int)) × Int := if ls.all domB = true then (if ls.length = 0 then ([], 2) else if 0 ∈ cD ls then ([], 0) else if prodN (cD ls) ≤ 4096 then (tens ls, 0) else ([], 4)) else ([], 40)
/-! ### counts -/
def cntJ (L : Nat → Nat) (N j : Nat) : List Int := (List.range N).map fun p => if p < j then ((L p : Nat) : Int) else 0
theorem cntJ_len (L : Nat → Nat) (N j : Nat) : (intsD (cntJ L N j)).length = N := by simp [intsD, cntJ]
theorem cntJ_0 (L : Nat → Nat) (N : Nat) : intsD (cntJ L N 0) = List.replicate N (iD 0) := by
  unfold cntJ intsD
  rw [List.map_map, List.eq_replicate_iff]
  refine ⟨by simp, fun d hd => ?_⟩
  obtain ⟨i, _, rfl⟩ := List.mem_map.1 hd
  simp
theorem cntJ_step (L : Nat → Nat) {N j : Nat} (h : j < N) : intsD (cntJ L N (j + 1)) = (intsD (cntJ L N j)).set ((((j : Nat) : Int).toNat) * 1) (iD ((L j : Nat) : Int)) := by
  rw [Int.toNat_natCast, Nat.mul_one]
  have e : cntJ L N (j + 1) = (cntJ L N j).set j ((L j : Nat) : Int) := by
    unfold cntJ
    apply List.ext_getElem
    · simp
    · intro i h1 h2
      simp only [List.length_map, List.length_range] at h1
      rw [List.getElem_set]
      simp only [List.getElem_map, List.getElem_range]
      by_cases e : j = i
      · subst e; rw [if_pos rfl, if_pos (by omega)]
      · rw [if_neg e]
        by_cases h3 : i < j
        · rw [if_pos h3, if_pos (by omega)]
        · rw [if_neg h3, if_neg (by omega)]
  rw [e]
  unfold intsD
  rw [List.map_set]
theorem cntJ_get (L : Nat → Nat) {N j k : Nat} (h : k < N) (hj : k < j) : (intsD (cntJ L N j))[(((k : Nat) : Int).toNat) * 1]? = some (iD ((L k : Nat) : Int)) := by
  rw [Int.toNat_natCast, Nat.mul_one]
  unfold cntJ intsD
  simp [h, hj]
theorem leastQ {p : Nat → Prop} [DecidablePred p] : ∀ {n : Nat}, p n → ∃ q, p q ∧ ∀ j, j < q → ¬ p j := fun {n} h => by
  induction n using Nat.strongRecOn with
  | _ n ih =>
    by_cases hex : ∃ j, j < n ∧ p j
    · obtain ⟨j, hj, hpj⟩ := hex
      exact ih j hj hpj
    · exact ⟨n, h, fun j hj hpj => hex ⟨j, hj, hpj⟩⟩
set_option maxHeartbeats 16000000 in
theorem tensor_d (ls : List (List Rg)) (hl : ls.length ≤ 8) : DC Try.prog 38 [domsD ls] (.tup [rowL3 (tensRes ls).1, iD (tensRes ls).2]) := by
  have A := asked_d ls (by omega)
  unfold askedR at A
  unfold tensRes
  cases hv : ls.all domB with
  | false =>
    rw [hv] at A
    rw [if_neg (by decide)] at A ⊢
    refine DC.of Try.func38 Try.ntmps38 Try.results38 rfl (by decide +kernel) rfl ?_
    repeat (first | refine Z1 ?_ | refine Z2 ?_ | (refine Z3 ?_; (repeat (first | (apply gS; first | refine go_f ?_ | refine gx ?_ | refine gm ?_ | refine gp ?_ | refine go_c rfl rfl (A) ?_ | refine go_cF rfl rfl (A) ?_ | refine go_cA rfl rfl (A) ?_) | (apply gZ; first | refine go_f ?_ | refine gx ?_ | refine gm ?_))); refine T_nil ?_) | (apply ZR; (try dsimp only [List.map_cons, List.map_nil]); refine C_dr mixed ?_; (repeat (first | (apply vS; first | refine va ?_ | refine vp ?_ | refine vr ?_ | refine vt ?_ | refine vc (A) ?_ | refine vcF (A) ?_) | (apply vZ; first | refine vs ?_ | refine vw ?_))); refine W_e ?_) | (apply ZK; first | refine Z4 ?_ | refine Z5 ?_) | refine Z6 ?_ | refine Z7 ?_ | refine Z8 ?_ | refine Z9 ?_ | refine ZA ?_ | refine ZB ?_ | refine ZC ?_ | refine ZD ?_ | refine ZE ?_ | refine ZF ?_ | refine ZG ?_ | refine ZH ?_)
    repeat (first | refine kEnd_m ?_ | refine kEnd_f ?_)
    refine kEnd_g ?_ (by first | exact .inl rfl | exact .inr rfl)
    exact Sub.tup (.cons Sub.nil (.cons (Sub.eq rfl rfl) .nil))
  | true =>
  rw [hv] at A
  rw [if_pos rfl] at A ⊢
  have hall : ∀ j (h : j < ls.length), domB ls[j] = true := fun j h => List.all_eq_true.1 hv _ (List.getElem_mem h)
  by_cases hz0 : ls.length = 0
  · rw [if_pos hz0] at A ⊢
    refine DC.of Try.func38 Try.ntmps38 Try.results38 rfl (by decide +kernel) rfl ?_
    repeat (first | refine Z1 ?_ | refine Z2 ?_ | (refine Z3 ?_; (repeat (first | (apply gS; first | refine go_f ?_ | refine gx ?_ | refine gm ?_ | refine gp ?_ | refine go_c rfl rfl (A) ?_ | refine go_cF rfl rfl (A) ?_ | refine go_cA rfl rfl (A) ?_) | (apply gZ; first | refine go_f ?_ | refine gx ?_ | refine gm ?_))); refine T_nil ?_) | (apply ZR; (try dsimp only [List.map_cons, List.map_nil]); refine C_dr mixed ?_; (repeat (first | (apply vS; first | refine va ?_ | refine vp ?_ | refine vr ?_ | refine vt ?_ | refine vc (A) ?_ | refine vcF (A) ?_) | (apply vZ; first | refine vs ?_ | refine vw ?_))); refine W_e ?_) | (apply ZK; first | refine Z4 ?_ | refine Z5 ?_) | refine Z6 ?_ | refine Z7 ?_ | refine Z8 ?_ | refine Z9 ?_ | refine ZA ?_ | refine ZB ?_ | refine ZC ?_ | refine ZD ?_ | refine ZE ?_ | refine ZF ?_ | refine ZG ?_ | refine ZH ?_)
    repeat (first | refine kEnd_m ?_ | refine kEnd_f ?_)
    refine kEnd_g ?_ (by first | exact .inl rfl | exact .inr rfl)
    exact Sub.tup (.cons Sub.nil (.cons (Sub.eq rfl rfl) .nil))
  rw [if_neg hz0] at A ⊢
  have hlc : (cD ls).length = ls.length := by simp [cD]
  obtain ⟨L, hL⟩ : ∃ L : Nat → Nat, ∀ j, L j = (cD ls).getD j 1 := ⟨_, fun _ => rfl⟩
  have hLk : ∀ k (h : k < ls.length), L k = cnt ls[k] := fun k h => by rw [hL, List.getD_eq_getElem?_getD, List.getElem?_eq_getElem (by omega)]; simp [cD]
  have hLb : ∀ k (h : k < ls.length), L k ≤ 4096 := fun k h => by rw [hLk k h]; exact (domB_iff.1 (hall k h)).2.2
  have C : ∀ k (h : k < ls.length), DC Try.prog 49 [domD ls[k]] (.tup [iD (L k), iD 0]) := fun k h => by rw [hLk k h]; exact dCount_ok (hall k h)
  have s0 := cntJ_0 L ls.length
  have sS := fun k (h : k < ls.length) => cntJ_step L h
  have sl := fun k => cntJ_len L ls.length k
  have sg := fun j k (h : k < ls.length) (hj : k < j) => cntJ_get L h hj
  have hp0 : 0 < ls.length := by omega
  by_cases hzz : 0 ∈ cD ls
  · rw [if_pos hzz]
    obtain ⟨q0, hq0, hq1⟩ := List.mem_iff_getElem.1 hzz
    obtain ⟨q, ⟨hq, hqz⟩, hmin⟩ := leastQ (p := fun k => k < ls.length ∧ L k = 0) (n := q0) ⟨by omega, by rw [hLk q0 (by omega), ← hq1]; simp [cD]⟩
    clear hzz hq0 hq1 hv hL hLk
    refine DC.of Try.func38 Try.ntmps38 Try.results38 rfl (by decide +kernel) rfl ?_
    repeat (first | refine Z1 ?_ | refine Z2 ?_ | (refine Z3 ?_; (repeat (first | (apply gS; first | refine go_f ?_ | refine gx ?_ | refine gm ?_ | refine gp ?_ | refine go_c rfl rfl (A) ?_ | refine go_cF rfl rfl (A) ?_ | refine go_cA rfl rfl (A) ?_) | (apply gZ; first | refine go_f ?_ | refine gx ?_ | refine gm ?_))); refine T_nil ?_) | (apply ZR; (try dsimp only [List.map_cons, List.map_nil]); refine C_dr mixed ?_; (repeat (first | (apply vS; first | refine va ?_ | refine vp ?_ | refine vr ?_ | refine vt ?_ | refine vc (A) ?_ | refine vcF (A) ?_) | (apply vZ; first | refine vs ?_ | refine vw ?_))); refine W_e ?_) | (apply ZK; first | refine Z4 ?_ | refine Z5 ?_) | refine Z6 ?_ | refine Z7 ?_ | refine Z8 ?_ | refine Z9 ?_ | refine ZA ?_ | refine ZB ?_ | refine ZC ?_ | refine ZD ?_ | refine ZE ?_ | refine ZF ?_ | refine ZG ?_ | refine ZH ?_)
    refine C_count q (fun _ => True) (fun k => ⟨1, 101, [(25, iD k), (24, iD ls.length), (23, domsD ls), (0, domsD ls), (5, .own 0 ls.length), (6, iD 1)], [(0, some ⟨3, 1, ls.length, intsD (cntJ L ls.length k)⟩)]⟩) ?_ trivial ?_
    · rw [s0]
      exact Wk.gx (fun b => b)
    · intro k hk _
      have hkl : k < ls.length := by omega
      have c := C k hkl
      have t1 := sS k hkl
      have t2 := sl k
      have t3 := sg (k + 1) k hkl (by omega)
      have t4 := hLb k hkl
      have t5 := hmin k
      rw [t1] at t3
      clear C sS sl sg s0 hLb hmin
      by_cases hkq : k < q
      · have t6 : ¬ L k = 0 := fun e => t5 hkq ⟨hkl, e⟩
        generalize L k = n at *
        repeat (first | refine Z1 ?_ | refine Z2 ?_ | (refine Z3 ?_; (repeat (first | (apply gS; first | refine go_f ?_ | refine gx ?_ | refine gm ?_ | refine gp ?_ | refine go_c rfl rfl (c) ?_ | refine go_cF rfl rfl (c) ?_ | refine go_cA rfl rfl (c) ?_) | (apply gZ; first | refine go_f ?_ | refine gx ?_ | refine gm ?_))); refine T_nil ?_) | (apply ZR; (try dsimp only [List.map_cons, List.map_nil]); refine C_dr mixed ?_; (repeat (first | (apply vS; first | refine va ?_ | refine vp ?_ | refine vr ?_ | refine vt ?_ | refine vc (c) ?_ | refine vcF (c) ?_) | (apply vZ; first | refine vs ?_ | refine vw ?_))); refine W_e ?_) | (apply ZK; first | refine Z4 ?_ | refine Z5 ?_) | refine Z6 ?_ | refine Z7 ?_ | refine Z8 ?_ | refine Z9 ?_ | refine ZA ?_ | refine ZB ?_ | refine ZC ?_ | refine ZD ?_ | refine ZE ?_ | refine ZF ?_ | refine ZG ?_ | refine ZH ?_)
        refine kLoop_n ⟨hkq, trivial, ?_⟩
        exact Wk.gx (fun b => b)
      · obtain rfl : k = q := by omega
        rw [hqz] at c t3
        repeat (first | refine Z1 ?_ | refine Z2 ?_ | (refine Z3 ?_; (repeat (first | (apply gS; first | refine go_f ?_ | refine gx ?_ | refine gm ?_ | refine gp ?_ | refine go_c rfl rfl (c) ?_ | refine go_cF rfl rfl (c) ?_ | refine go_cA rfl rfl (c) ?_) | (apply gZ; first | refine go_f ?_ | refine gx ?_ | refine gm ?_))); refine T_nil ?_) | (apply ZR; (try dsimp only [List.map_cons, List.map_nil]); refine C_dr mixed ?_; (repeat (first | (apply vS; first | refine va ?_ | refine vp ?_ | refine vr ?_ | refine vt ?_ | refine vc (c) ?_ | refine vcF (c) ?_) | (apply vZ; first | refine vs ?_ | refine vw ?_))); refine W_e ?_) | (apply ZK; first | refine Z4 ?_ | refine Z5 ?_) | refine Z6 ?_ | refine Z7 ?_ | refine Z8 ?_ | refine Z9 ?_ | refine ZA ?_ | refine ZB ?_ | refine ZC ?_ | refine ZD ?_ | refine ZE ?_ | refine ZF ?_ | refine ZG ?_ | refine ZH ?_)
        repeat (first | refine kEnd_m ?_ | refine kEnd_f ?_)
        refine kEnd_g ?_ (by first | exact .inl rfl | exact .inr rfl)
        exact Sub.tup (.cons Sub.nil (.cons (Sub.eq rfl rfl) .nil))
  rw [if_neg hzz]
  have hLp : ∀ k (h : k < ls.length), 1 ≤ L k := fun k h => by
    rw [hLk k h]
    refine Nat.pos_of_ne_zero fun e => hzz ?_
    rw [← e]
    exact List.mem_map.2 ⟨ls[k], List.getElem_mem h, rfl⟩
  have hstep : ∀ k (h : k < ls.length), prodN ((cD ls).take (k + 1)) = prodN ((cD ls).take k) * L k := fun k h => by
    rw [prodN_take k (by omega), hL, List.getD_eq_getElem?_getD, List.getElem?_eq_getElem (by omega)]; rfl
  have hpos : ∀ k, 1 ≤ prodN ((cD ls).take k) := fun k => (prodN_le hzz k).1
  have hdiv : ∀ P c : Nat, 1 ≤ P → ∃ q : Nat, (4096 : Int).tdiv (P : Int) = q ∧ (q < c ↔ 4096 < c * P) := fun P c hP => ⟨4096 / P, by rw [Int.ofNat_tdiv]; rfl, Nat.div_lt_iff_lt_mul hP⟩
  have hend : prodN ((cD ls).take ls.length) = prodN (cD ls) := by rw [← hlc, List.take_length]
  have hpr0 : prodN ((cD ls).take 0) = 1 := rfl
  by_cases hp : prodN (cD ls) ≤ 4096
  case neg =>
    rw [if_neg hp]
    obtain ⟨q, ⟨hq, hqp⟩, hmin⟩ := leastQ (p := fun k => k < ls.length ∧ 4096 < prodN ((cD ls).take (k + 1))) (n := ls.length - 1) ⟨by omega, by rw [show ls.length - 1 + 1 = ls.length by omega, hend]; omega⟩
    have hle : ∀ k, k ≤ q → prodN ((cD ls).take k) ≤ 4096 := fun k hk => by
      cases k with
      | zero => rw [hpr0]; omega
      | succ k => have := hmin k (by omega); omega
    clear hzz hv hL hLk hmin hend hp
    generalize (cD ls) = cs at *
    refine DC.of Try.func38 Try.ntmps38 Try.results38 rfl (by decide +kernel) rfl ?_
    repeat (first | refine Z1 ?_ | refine Z2 ?_ | (refine Z3 ?_; (repeat (first | (apply gS; first | refine go_f ?_ | refine gx ?_ | refine gm ?_ | refine gp ?_ | refine go_c rfl rfl (A) ?_ | refine go_cF rfl rfl (A) ?_ | refine go_cA rfl rfl (A) ?_) | (apply gZ; first | refine go_f ?_ | refine gx ?_ | refine gm ?_))); refine T_nil ?_) | (apply ZR; (try dsimp only [List.map_cons, List.map_nil]); refine C_dr mixed ?_; (repeat (first | (apply vS; first | refine va ?_ | refine vp ?_ | refine vr ?_ | refine vt ?_ | refine vc (A) ?_ | refine vcF (A) ?_) | (apply vZ; first | refine vs ?_ | refine vw ?_))); refine W_e ?_) | (apply ZK; first | refine Z4 ?_ | refine Z5 ?_) | refine Z6 ?_ | refine Z7 ?_ | refine Z8 ?_ | refine Z9 ?_ | refine ZA ?_ | refine ZB ?_ | refine ZC ?_ | refine ZD ?_ | refine ZE ?_ | refine ZF ?_ | refine ZG ?_ | refine ZH ?_)
    refine C_count ls.length (fun _ => True) (fun k => ⟨1, 101, [(25, iD k), (24, iD ls.length), (23, domsD ls), (0, domsD ls), (5, .own 0 ls.length), (6, iD 1)], [(0, some ⟨3, 1, ls.length, intsD (cntJ L ls.length k)⟩)]⟩) ?_ trivial ?_
    · rw [s0]
      exact Wk.gx (fun b => b)
    · intro k hk _
      by_cases hkl : k < ls.length
      · have c := C k hkl
        have t1 := sS k hkl
        have t2 := sl k
        have t3 := sg (k + 1) k hkl (by omega)
        have t4 := hLb k hkl
        have t5 := hLp k hkl
        rw [t1] at t3
        clear C sS sl sg s0 hLb hLp hle hstep hdiv hpos
        generalize L k = n at *
        repeat (first | refine Z1 ?_ | refine Z2 ?_ | (refine Z3 ?_; (repeat (first | (apply gS; first | refine go_f ?_ | refine gx ?_ | refine gm ?_ | refine gp ?_ | refine go_c rfl rfl (c) ?_ | refine go_cF rfl rfl (c) ?_ | refine go_cA rfl rfl (c) ?_) | (apply gZ; first | refine go_f ?_ | refine gx ?_ | refine gm ?_))); refine T_nil ?_) | (apply ZR; (try dsimp only [List.map_cons, List.map_nil]); refine C_dr mixed ?_; (repeat (first | (apply vS; first | refine va ?_ | refine vp ?_ | refine vr ?_ | refine vt ?_ | refine vc (c) ?_ | refine vcF (c) ?_) | (apply vZ; first | refine vs ?_ | refine vw ?_))); refine W_e ?_) | (apply ZK; first | refine Z4 ?_ | refine Z5 ?_) | refine Z6 ?_ | refine Z7 ?_ | refine Z8 ?_ | refine Z9 ?_ | refine ZA ?_ | refine ZB ?_ | refine ZC ?_ | refine ZD ?_ | refine ZE ?_ | refine ZF ?_ | refine ZG ?_ | refine ZH ?_)
        refine kLoop_n ⟨hkl, trivial, ?_⟩
        exact Wk.gx (fun b => b)
      · obtain rfl : k = ls.length := by omega
        have t2 := sl ls.length
        clear C sS s0 sl
        repeat (first | refine Z1 ?_ | refine Z2 ?_ | (refine Z3 ?_; (repeat (first | (apply gS; first | refine go_f ?_ | refine gx ?_ | refine gm ?_ | refine gp ?_) | (apply gZ; first | refine go_f ?_ | refine gx ?_ | refine gm ?_))); refine T_nil ?_) | (apply ZR; (try dsimp only [List.map_cons, List.map_nil]); refine C_dr mixed ?_; (repeat (first | (apply vS; first | refine va ?_ | refine vp ?_ | refine vr ?_ | refine vt ?_) | (apply vZ; first | refine vs ?_ | refine vw ?_))); refine W_e ?_) | (apply ZK; first | refine Z4 ?_ | refine Z5 ?_) | refine Z6 ?_ | refine Z7 ?_ | refine Z8 ?_ | refine Z9 ?_ | refine ZA ?_ | refine ZB ?_ | refine ZC ?_ | refine ZD ?_ | refine ZE ?_ | refine ZF ?_ | refine ZG ?_ | refine ZH ?_)
        refine C_count q (fun _ => True) (fun k => ⟨1, 101, [(46, iD k), (45, iD ls.length), (44, .own 0 ls.length), (6, iD (prodN (cs.take k) : Nat))], [(0, some ⟨3, 1, ls.length, intsD (cntJ L ls.length ls.length)⟩)]⟩) ?_ trivial ?_
        · rw [hpr0]
          exact Wk.gx (fun b => b)
        · intro k hk _
          have hlt : k < ls.length := by omega
          have t3 := sg ls.length k hlt hlt
          have e2 := hstep k hlt
          have e3 := hpos k
          have e4 := hle k hk
          have e8 := hLb k hlt
          obtain ⟨q', e6, e7⟩ := hdiv (prodN (cs.take k)) (L k) e3
          have e5 := Int.natCast_mul (prodN (cs.take k)) (L k)
          rw [Nat.mul_comm, ← e2] at e7
          rw [← e2] at e5
          by_cases hkq : k < q
          · have e9 := hle (k + 1) (by omega)
            clear sg hstep hpos hle hLb hLp hdiv
            generalize L k = n at *
            generalize prodN (cs.take (k + 1)) = pn at *
            generalize prodN (cs.take k) = pk at *
            repeat (first | refine Z1 ?_ | refine Z2 ?_ | (refine Z3 ?_; (repeat (first | (apply gS; first | refine go_f ?_ | refine gx ?_ | refine gm ?_ | refine gp ?_) | (apply gZ; first | refine go_f ?_ | refine gx ?_ | refine gm ?_))); refine T_nil ?_) | (apply ZR; (try dsimp only [List.map_cons, List.map_nil]); refine C_dr mixed ?_; (repeat (first | (apply vS; first | refine va ?_ | refine vp ?_ | refine vr ?_ | refine vt ?_) | (apply vZ; first | refine vs ?_ | refine vw ?_))); refine W_e ?_) | (apply ZK; first | refine Z4 ?_ | refine Z5 ?_) | refine Z6 ?_ | refine Z7 ?_ | refine Z8 ?_ | refine Z9 ?_ | refine ZA ?_ | refine ZB ?_ | refine ZC ?_ | refine ZD ?_ | refine ZE ?_ | refine ZF ?_ | refine ZG ?_ | refine ZH ?_)
            refine kLoop_n ⟨hkq, trivial, ?_⟩
            exact Wk.gx (fun b => b)
          · obtain rfl : k = q := by omega
            clear sg hstep hpos hle hLb hLp hdiv
            generalize L k = n at *
            generalize prodN (cs.take (k + 1)) = pn at *
            generalize prodN (cs.take k) = pk at *
            repeat (first | refine Z1 ?_ | refine Z2 ?_ | (refine Z3 ?_; (repeat (first | (apply gS; first | refine go_f ?_ | refine gx ?_ | refine gm ?_ | refine gp ?_) | (apply gZ; first | refine go_f ?_ | refine gx ?_ | refine gm ?_))); refine T_nil ?_) | (apply ZR; (try dsimp only [List.map_cons, List.map_nil]); refine C_dr mixed ?_; (repeat (first | (apply vS; first | refine va ?_ | refine vp ?_ | refine vr ?_ | refine vt ?_) | (apply vZ; first | refine vs ?_ | refine vw ?_))); refine W_e ?_) | (apply ZK; first | refine Z4 ?_ | refine Z5 ?_) | refine Z6 ?_ | refine Z7 ?_ | refine Z8 ?_ | refine Z9 ?_ | refine ZA ?_ | refine ZB ?_ | refine ZC ?_ | refine ZD ?_ | refine ZE ?_ | refine ZF ?_ | refine ZG ?_ | refine ZH ?_)
            repeat (first | refine kEnd_m ?_ | refine kEnd_f ?_)
            refine kEnd_g ?_ (by first | exact .inl rfl | exact .inr rfl)
            exact Sub.tup (.cons Sub.nil (.cons (Sub.eq rfl rfl) .nil))
  rw [if_pos hp]
  have hle : ∀ k, prodN ((cD ls).take k) ≤ 4096 := fun k => Nat.le_trans (prodN_le hzz k).2 hp
  have hI : ∀ k (h : k < ls.length) i, i < L k → DC Try.prog 27 [domD ls[k], iD i] (.tup [rowI (ithX ls[k] i), iD 0]) := fun k h i hi => dIth_ok (hall k h) (by rw [← hLk k h]; exact hi)
  have htl : (tens ls).length = prodN (cD ls) := tens_len ls
  have hte : ∀ i (h : i < prodN (cD ls)), ((tens ls).take (i + 1)).map rowL2 = ((tens ls).take i).map rowL2 ++ [rowL2 (tenX ls i)] := fun i h => by
    have hg := tens_get ls i h
    rw [List.getElem?_eq_getElem (by omega)] at hg
    rw [List.take_succ_eq_append_getElem (by omega), List.map_append, Option.some.inj hg]; rfl
  have hx0 : ∀ i, i / prodN (cD (ls.drop ls.length)) = i ∧ (tenX (ls.drop ls.length) (i % prodN (cD (ls.drop ls.length)))).map rowI = [] := fun i => by
    rw [List.drop_length]; exact ⟨by simp [cD, prodN], rfl⟩
  have hxE : ∀ i, i < prodN (cD ls) → (tenX (ls.drop 0) (i % prodN (cD (ls.drop 0)))).map rowI = (tenX ls i).map rowI := fun i hi => by
    rw [List.drop_zero, Nat.mod_eq_of_lt hi]
  have hxS : ∀ i k (h : k < ls.length), (tenX (ls.drop k) (i % prodN (cD (ls.drop k)))).map rowI = rowI (ithX ls[k] (i / prodN (cD (ls.drop (k + 1))) % L k)) :: (tenX (ls.drop (k + 1)) (i % prodN (cD (ls.drop (k + 1))))).map rowI ∧ i / prodN (cD (ls.drop (k + 1))) / L k = i / prodN (cD (ls.drop k)) := fun i k h => by
    obtain ⟨a, b⟩ := tenX_step h i
    rw [hLk k h]
    exact ⟨by rw [a]; rfl, b⟩
  have hxl : ∀ i, (tenX ls i).length = ls.length := fun i => tenX_len ls i
  have eo : rowL3 (tens ls) = .row (prodN (cD ls)) ((tens ls).map rowL2) := by show D.row _ _ = _; rw [htl]
  have hfin : (tens ls).take (prodN (cD ls)) = tens ls := by rw [← htl, List.take_length]
  have hz1 : ((tens ls).take 0).map rowL2 = [] := rfl
  dsimp only
  rw [eo]
  clear eo hzz hv hL hLk htl hp0
  have hTX : ∀ i k, tenD ls i k = (tenX (ls.drop k) (i % prodN (cD (ls.drop k)))).map rowI := fun _ _ => rfl
  obtain ⟨QX, hQX⟩ : ∃ QX : Nat → Nat → Nat, ∀ i k, QX i k = i / prodN (cD (ls.drop k)) := ⟨_, fun _ _ => rfl⟩
  simp only [← hTX, ← hQX] at hx0 hxE hxS
  have hQb : ∀ i k, QX i k ≤ i := fun i k => by rw [hQX]; exact Nat.div_le_self _ _
  clear hTX hQX
  generalize tens ls = TS at *
  generalize hPn : prodN (cD ls) = PN at *
  generalize cD ls = cs at *
  clear hPn
  refine DC.of Try.func38 Try.ntmps38 Try.results38 rfl (by decide +kernel) rfl ?_
  repeat (first | refine Z1 ?_ | refine Z2 ?_ | (refine Z3 ?_; (repeat (first | (apply gS; first | refine go_f ?_ | refine gx ?_ | refine gm ?_ | refine gp ?_ | refine go_c rfl rfl (A) ?_ | refine go_cF rfl rfl (A) ?_ | refine go_cA rfl rfl (A) ?_) | (apply gZ; first | refine go_f ?_ | refine gx ?_ | refine gm ?_))); refine T_nil ?_) | (apply ZR; (try dsimp only [List.map_cons, List.map_nil]); refine C_dr mixed ?_; (repeat (first | (apply vS; first | refine va ?_ | refine vp ?_ | refine vr ?_ | refine vt ?_ | refine vc (A) ?_ | refine vcF (A) ?_) | (apply vZ; first | refine vs ?_ | refine vw ?_))); refine W_e ?_) | (apply ZK; first | refine Z4 ?_ | refine Z5 ?_) | refine Z6 ?_ | refine Z7 ?_ | refine Z8 ?_ | refine Z9 ?_ | refine ZA ?_ | refine ZB ?_ | refine ZC ?_ | refine ZD ?_ | refine ZE ?_ | refine ZF ?_ | refine ZG ?_ | refine ZH ?_)
  refine C_count ls.length (fun _ => True) (fun k => ⟨1, 101, [(25, iD k), (24, iD ls.length), (23, domsD ls), (0, domsD ls), (5, .own 0 ls.length), (6, iD 1)], [(0, some ⟨3, 1, ls.length, intsD (cntJ L ls.length k)⟩)]⟩) ?_ trivial ?_
  · rw [s0]
    exact Wk.gx (fun b => b)
  · intro k hk _
    by_cases hkl : k < ls.length
    · have c := C k hkl
      have t1 := sS k hkl
      have t2 := sl k
      have t3 := sg (k + 1) k hkl (by omega)
      have t4 := hLb k hkl
      have t5 := hLp k hkl
      rw [t1] at t3
      clear C sS sl sg s0 hLb hLp hle hstep hdiv hpos hI hte hx0 hxE hxS hxl hQb
      generalize L k = n at *
      repeat (first | refine Z1 ?_ | refine Z2 ?_ | (refine Z3 ?_; (repeat (first | (apply gS; first | refine go_f ?_ | refine gx ?_ | refine gm ?_ | refine gp ?_ | refine go_c rfl rfl (c) ?_ | refine go_cF rfl rfl (c) ?_ | refine go_cA rfl rfl (c) ?_) | (apply gZ; first | refine go_f ?_ | refine gx ?_ | refine gm ?_))); refine T_nil ?_) | (apply ZR; (try dsimp only [List.map_cons, List.map_nil]); refine C_dr mixed ?_; (repeat (first | (apply vS; first | refine va ?_ | refine vp ?_ | refine vr ?_ | refine vt ?_ | refine vc (c) ?_ | refine vcF (c) ?_) | (apply vZ; first | refine vs ?_ | refine vw ?_))); refine W_e ?_) | (apply ZK; first | refine Z4 ?_ | refine Z5 ?_) | refine Z6 ?_ | refine Z7 ?_ | refine Z8 ?_ | refine Z9 ?_ | refine ZA ?_ | refine ZB ?_ | refine ZC ?_ | refine ZD ?_ | refine ZE ?_ | refine ZF ?_ | refine ZG ?_ | refine ZH ?_)
      refine kLoop_n ⟨hkl, trivial, ?_⟩
      exact Wk.gx (fun b => b)
    · obtain rfl : k = ls.length := by omega
      have t2 := sl ls.length
      clear C sS s0 sl
      repeat (first | refine Z1 ?_ | refine Z2 ?_ | (refine Z3 ?_; (repeat (first | (apply gS; first | refine go_f ?_ | refine gx ?_ | refine gm ?_ | refine gp ?_) | (apply gZ; first | refine go_f ?_ | refine gx ?_ | refine gm ?_))); refine T_nil ?_) | (apply ZR; (try dsimp only [List.map_cons, List.map_nil]); refine C_dr mixed ?_; (repeat (first | (apply vS; first | refine va ?_ | refine vp ?_ | refine vr ?_ | refine vt ?_) | (apply vZ; first | refine vs ?_ | refine vw ?_))); refine W_e ?_) | (apply ZK; first | refine Z4 ?_ | refine Z5 ?_) | refine Z6 ?_ | refine Z7 ?_ | refine Z8 ?_ | refine Z9 ?_ | refine ZA ?_ | refine ZB ?_ | refine ZC ?_ | refine ZD ?_ | refine ZE ?_ | refine ZF ?_ | refine ZG ?_ | refine ZH ?_)
      refine C_count ls.length (fun _ => True) (fun k => ⟨1, 101, [(46, iD k), (45, iD ls.length), (44, .own 0 ls.length), (5, .own 0 ls.length), (0, domsD ls), (6, iD (prodN (cs.take k) : Nat))], [(0, some ⟨3, 1, ls.length, intsD (cntJ L ls.length ls.length)⟩)]⟩) ?_ trivial ?_
      · rw [hpr0]
        exact Wk.gx (fun b => b)
      · intro k hk _
        by_cases hlt : k < ls.length
        · have t3 := sg ls.length k hlt hlt
          have e2 := hstep k hlt
          have e3 := hpos k
          have e4 := hle k
          have e8 := hLb k hlt
          obtain ⟨q', e6, e7⟩ := hdiv (prodN (cs.take k)) (L k) e3
          have e5 := Int.natCast_mul (prodN (cs.take k)) (L k)
          rw [Nat.mul_comm, ← e2] at e7
          rw [← e2] at e5
          have e9 := hle (k + 1)
          clear sg hstep hpos hle hLb hLp hdiv hI hte hx0 hxE hxS hxl hQb
          generalize L k = n at *
          generalize prodN (cs.take (k + 1)) = pn at *
          generalize prodN (cs.take k) = pk at *
          repeat (first | refine Z1 ?_ | refine Z2 ?_ | (refine Z3 ?_; (repeat (first | (apply gS; first | refine go_f ?_ | refine gx ?_ | refine gm ?_ | refine gp ?_) | (apply gZ; first | refine go_f ?_ | refine gx ?_ | refine gm ?_))); refine T_nil ?_) | (apply ZR; (try dsimp only [List.map_cons, List.map_nil]); refine C_dr mixed ?_; (repeat (first | (apply vS; first | refine va ?_ | refine vp ?_ | refine vr ?_ | refine vt ?_) | (apply vZ; first | refine vs ?_ | refine vw ?_))); refine W_e ?_) | (apply ZK; first | refine Z4 ?_ | refine Z5 ?_) | refine Z6 ?_ | refine Z7 ?_ | refine Z8 ?_ | refine Z9 ?_ | refine ZA ?_ | refine ZB ?_ | refine ZC ?_ | refine ZD ?_ | refine ZE ?_ | refine ZF ?_ | refine ZG ?_ | refine ZH ?_)
          refine kLoop_n ⟨hlt, trivial, ?_⟩
          exact Wk.gx (fun b => b)
        · obtain rfl : k = ls.length := by omega
          rw [hend]
          clear hstep hpos hle hdiv
          repeat (first | refine Z1 ?_ | refine Z2 ?_ | (refine Z3 ?_; (repeat (first | (apply gS; first | refine go_f ?_ | refine gx ?_ | refine gm ?_ | refine gp ?_) | (apply gZ; first | refine go_f ?_ | refine gx ?_ | refine gm ?_))); refine T_nil ?_) | (apply ZR; (try dsimp only [List.map_cons, List.map_nil]); refine C_dr mixed ?_; (repeat (first | (apply vS; first | refine va ?_ | refine vp ?_ | refine vr ?_ | refine vt ?_) | (apply vZ; first | refine vs ?_ | refine vw ?_))); refine W_e ?_) | (apply ZK; first | refine Z4 ?_ | refine Z5 ?_) | refine Z6 ?_ | refine Z7 ?_ | refine Z8 ?_ | refine Z9 ?_ | refine ZA ?_ | refine ZB ?_ | refine ZC ?_ | refine ZD ?_ | refine ZE ?_ | refine ZF ?_ | refine ZG ?_ | refine ZH ?_)
          refine C_count PN (fun _ => True) (fun i => ⟨2, 101, [(59, iD i), (58, iD PN), (11, .own 1 i), (5, .own 0 ls.length), (0, domsD ls)], [(0, some ⟨3, 1, ls.length, intsD (cntJ L ls.length ls.length)⟩), (1, some ⟨28, 1, i, (TS.take i).map rowL2⟩)]⟩) ?_ trivial ?_
          · rw [hz1]
            refine Wk.trans (Wk.adoptT 11 28 1 rfl) ?_
            exact Wk.gx (fun b => b)
          · intro i hi _
            by_cases hil : i < PN
            · have en := hte i hil
              obtain ⟨x1, x2⟩ := hx0 i
              have x3 := hxE i hil
              have x4 := hxS i
              have x5 := hxl i
              have x6 := hQb i
              clear hte hx0 hxE hxS hxl hQb
              generalize QX i = qx at *
              repeat (first | refine Z1 ?_ | refine Z2 ?_ | (refine Z3 ?_; (repeat (first | (apply gS; first | refine go_f ?_ | refine gx ?_ | refine gm ?_ | refine gp ?_) | (apply gZ; first | refine go_f ?_ | refine gx ?_ | refine gm ?_))); refine T_nil ?_) | (apply ZR; (try dsimp only [List.map_cons, List.map_nil]); refine C_dr mixed ?_; (repeat (first | (apply vS; first | refine va ?_ | refine vp ?_ | refine vr ?_ | refine vt ?_) | (apply vZ; first | refine vs ?_ | refine vw ?_))); refine W_e ?_) | (apply ZK; first | refine Z4 ?_ | refine Z5 ?_) | refine Z6 ?_ | refine Z7 ?_ | refine Z8 ?_ | refine Z9 ?_ | refine ZA ?_ | refine ZB ?_ | refine ZC ?_ | refine ZD ?_ | refine ZE ?_ | refine ZF ?_ | refine ZG ?_ | refine ZH ?_)
              refine C_loop (σ := {k : Nat // k ≤ ls.length}) (fun k => ⟨3, 101, [(14, iD ((k.1 : Int) - 1)), (13, .own 2 ls.length), (12, iD (qx k.1)), (59, iD i), (58, iD PN), (11, .own 1 i), (5, .own 0 ls.length), (0, domsD ls)], [(0, some ⟨3, 1, ls.length, intsD (cntJ L ls.length ls.length)⟩), (1, some ⟨28, 1, i, (TS.take i).map rowL2⟩), (2, some ⟨25, 1, ls.length, List.replicate k.1 (.val (.slice none 0 0)) ++ tenD ls i k.1⟩)]⟩) (fun k => k.1) ⟨ls.length, Nat.le_refl _⟩ ?_ ?_
              · simp only [x1, x2, List.append_nil]
                exact Wk.gx (fun b => b)
              · rintro ⟨k, hk⟩
                simp only
                cases k with
                | zero =>
                  have e1 : ((0 : Nat) : Int) - 1 = -1 := by omega
                  have e2 : List.replicate 0 (D.val (.slice none 0 0)) ++ tenD ls i 0 = (tenX ls i).map rowI := by rw [x3]; rfl
                  have er : rowL2 (tenX ls i) = .row ls.length ((tenX ls i).map rowI) := by show D.row _ _ = _; rw [x5]
                  rw [er] at en
                  rw [e1, e2]
                  clear x4 x6 hI
                  repeat (first | refine Z1 ?_ | refine Z2 ?_ | (refine Z3 ?_; (repeat (first | (apply gS; first | refine go_f ?_ | refine gx ?_ | refine gm ?_ | refine gp ?_) | (apply gZ; first | refine go_f ?_ | refine gx ?_ | refine gm ?_))); refine T_nil ?_) | (apply ZR; (try dsimp only [List.map_cons, List.map_nil]); refine C_dr mixed ?_; (repeat (first | (apply vS; first | refine va ?_ | refine vp ?_ | refine vr ?_ | refine vt ?_) | (apply vZ; first | refine vs ?_ | refine vw ?_))); refine W_e ?_) | (apply ZK; first | refine Z4 ?_ | refine Z5 ?_) | refine Z6 ?_ | refine Z7 ?_ | refine Z8 ?_ | refine Z9 ?_ | refine ZA ?_ | refine ZB ?_ | refine ZC ?_ | refine ZD ?_ | refine ZE ?_ | refine ZF ?_ | refine ZG ?_ | refine ZH ?_)
                  refine kLoop_n ⟨hil, trivial, ?_⟩
                  exact Wk.gx (fun b => cond (Nat.beq b 1) 3 (b))
                | succ m =>
                  have hm : m < ls.length := by omega
                  have e1 : ((m + 1 : Nat) : Int) - 1 = (m : Int) := by omega
                  rw [e1]
                  obtain ⟨s1, s2⟩ := x4 m hm
                  have hQ := x6 (m + 1)
                  have g2 := hLp m hm
                  have g3 := hLb m hm
                  have I := hI m hm (qx (m + 1) % L m) (Nat.mod_lt _ g2)
                  have t3 := sg ls.length m hm hm
                  rw [show ((qx (m + 1) % L m : Nat) : Int) = ((qx (m + 1) : Nat) : Int).tmod ((L m : Nat) : Int) by rw [← Int.ofNat_tmod]] at I
                  have q1 : ((qx (m + 1) : Nat) : Int).tdiv ((L m : Nat) : Int) = ((qx m : Nat) : Int) := by rw [← Int.ofNat_tdiv, s2]
                  generalize ithX ls[m] (qx (m + 1) % L m) = ix at *
                  have en2 : List.replicate m (D.val (.slice none 0 0)) ++ tenD ls i m = (List.replicate (m + 1) (D.val (.slice none 0 0)) ++ tenD ls i (m + 1)).set (((m : Nat) : Int).toNat * 1) (rowI ix) := by
                    rw [s1, List.replicate_succ', List.append_assoc]
                    show _ = (List.replicate m (D.val (.slice none 0 0)) ++ D.val (.slice none 0 0) :: _).set _ _
                    rw [set_mid _ _ _ _ (by simp)]
                    rfl
                  clear x4 x6 hI sg hLp hLb s1 s2 en
                  generalize qx (m + 1) = Q at *
                  generalize L m = n at *
                  repeat (first | refine Z1 ?_ | refine Z2 ?_ | (refine Z3 ?_; (repeat (first | (apply gS; first | refine go_f ?_ | refine gx ?_ | refine gm ?_ | refine gp ?_ | refine go_c rfl rfl (I) ?_ | refine go_cF rfl rfl (I) ?_ | refine go_cA rfl rfl (I) ?_) | (apply gZ; first | refine go_f ?_ | refine gx ?_ | refine gm ?_))); refine T_nil ?_) | (apply ZR; (try dsimp only [List.map_cons, List.map_nil]); refine C_dr mixed ?_; (repeat (first | (apply vS; first | refine va ?_ | refine vp ?_ | refine vr ?_ | refine vt ?_ | refine vc (I) ?_ | refine vcF (I) ?_) | (apply vZ; first | refine vs ?_ | refine vw ?_))); refine W_e ?_) | (apply ZK; first | refine Z4 ?_ | refine Z5 ?_) | refine Z6 ?_ | refine Z7 ?_ | refine Z8 ?_ | refine Z9 ?_ | refine ZA ?_ | refine ZB ?_ | refine ZC ?_ | refine ZD ?_ | refine ZE ?_ | refine ZF ?_ | refine ZG ?_ | refine ZH ?_)
                  refine kLoop_n ⟨⟨m, by omega⟩, Nat.lt_succ_self m, ?_⟩
                  dsimp only
                  exact Wk.gx (fun b => b)
            · obtain rfl : i = PN := by omega
              rw [hfin]
              clear hte hx0 hxE hxS hxl hQb
              repeat (first | refine Z1 ?_ | refine Z2 ?_ | (refine Z3 ?_; (repeat (first | (apply gS; first | refine go_f ?_ | refine gx ?_ | refine gm ?_ | refine gp ?_) | (apply gZ; first | refine go_f ?_ | refine gx ?_ | refine gm ?_))); refine T_nil ?_) | (apply ZR; (try dsimp only [List.map_cons, List.map_nil]); refine C_dr mixed ?_; (repeat (first | (apply vS; first | refine va ?_ | refine vp ?_ | refine vr ?_ | refine vt ?_) | (apply vZ; first | refine vs ?_ | refine vw ?_))); refine W_e ?_) | (apply ZK; first | refine Z4 ?_ | refine Z5 ?_) | refine Z6 ?_ | refine Z7 ?_ | refine Z8 ?_ | refine Z9 ?_ | refine ZA ?_ | refine ZB ?_ | refine ZC ?_ | refine ZD ?_ | refine ZE ?_ | refine ZF ?_ | refine ZG ?_ | refine ZH ?_)
              repeat (first | refine kEnd_m ?_ | refine kEnd_f ?_)
              refine kEnd_g ?_ (by first | exact .inl rfl | exact .inr rfl)
              exact Sub.eq rfl rfl
end Go.Proofs.Ytifapodobhkdcaa
