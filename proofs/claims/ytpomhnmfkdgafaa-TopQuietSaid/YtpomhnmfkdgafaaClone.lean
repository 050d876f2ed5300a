/- slices.Clone of a row, and the messages that fly of the program's ring. -/
import Derived.Test.YtpomhnmfkdgafaaOver
import Derived.Lib.SliceRun
namespace Go.Proofs.Ytpomhnmfkdgafaa
open Go.RowKit
set_option linter.unusedVariables false
set_option maxHeartbeats 16000000
set_option linter.unusedSimpArgs false
set_option maxRecDepth 100000
section
variable {P : Program} {ops : Array Oper} {rest : List Oper} {x y : Operand} {T' T2 : TypeId} {nb sz : Nat} {tmp : List (Nat × D)} {mem : List (Nat × Option M)} {K : St → Prop} {t : Nat} {ty : TypeId} {pos : String} {af : Array Edge} {gd : Option (Nat × Bool)}
/-- a row compared with nil: an empty one may be nil or not -/
theorem go_eqS {n size bytes : Nat} {xs : List D} {e : TypeId} [hT : TySlice P T' e size bytes] (k : ∀ b : Bool, (0 < n → b = false) → T P ops rest ⟨nb, sz, (t, .val (.bool b)) :: tmp, mem⟩ K) (hx : St.ev ⟨nb, sz, tmp, mem⟩ x = some (.row n xs) := by rfl)
    (hg : St.guard ⟨nb, sz, tmp, mem⟩ ops ⟨some t, .binOp .eql T' x (.const (.slice none 0 0)) T2, ty, pos, af, gd⟩ = some true := by rfl) (ht : Nat.blt t sz = true := by rfl) : T P ops (⟨some t, .binOp .eql T' x (.const (.slice none 0 0)) T2, ty, pos, af, gd⟩ :: rest) ⟨nb, sz, tmp, mem⟩ K :=
  T_of_wp hg fun w0 I0 ρ I a w Q next g hk' q => by
    have h := g.ev hx
    generalize hv : a.eval x = v at h
    cases h with
    | im h => cases h with
      | row hc hm hn hl ha hs ho hr =>
        rename_i ao cap b off us
        have hrr : (execOp a.eval ⟨some t, .binOp .eql T' x (.const (.slice none 0 0)) T2, ty, pos, af, gd⟩).run P w = .ok (.value (.bool ao.isNone)) w := by
          have e2 : a.eval (.const (.slice none 0 0)) = .slice none 0 0 := rfl
          simp [execOp, hv, e2, eqGuard_at_slice, Lib.run_eql_slice_nil w T' e ao n cap 0 0 hT.ty]
        unfold Oper.wp; rw [hrr]
        refine hk' _ _ ((k ao.isNone fun h0 => ?_).h w0 I0 ρ I _ _ Q (g.put (by simpa using ht) (.im (.val _ rfl))) q)
        cases ao with
        | none => have := hn rfl; omega
        | some _ => rfl
end
theorem clone_d (l : List (Int × Int)) (hl : l.length ≤ 1000000) : DC Try.prog 23 [.row l.length (flyD l)] (.row l.length (flyD l)) := by
  have hf := fly_len l
  refine DC.of Try.func23 Try.ntmps23 Try.results23 rfl (by decide +kernel) rfl ?_
  repeat (first | refine Z1 ?_ | refine Z2 ?_ | (refine Z3 ?_; (repeat (first | (apply gS; first | refine go_eqS fun b hb => ?_ | refine go_l 5 ?_ | refine go_f ?_ | refine gx ?_ | refine gm ?_ | refine gp ?_))); refine T_nil ?_) | (apply ZK; first | refine Z4 ?_ | refine Z5 ?_) | refine Z6 ?_ | refine Z7 ?_ | refine ZF ?_)
  cases b with
  | true =>
    have h0 : l.length = 0 := by
      rcases Nat.eq_zero_or_pos l.length with h | h
      · exact h
      · have := hb h; cases this
    obtain rfl : l = [] := List.eq_nil_of_length_eq_zero h0
    repeat (first | refine Z1 ?_ | refine Z2 ?_ | (refine Z3 ?_; (repeat (first | (apply gS; first | refine go_l 5 ?_ | refine go_f ?_ | refine gx ?_ | refine gm ?_ | refine gp ?_))); refine T_nil ?_) | (apply ZK; first | refine Z4 ?_ | refine Z5 ?_) | refine Z6 ?_ | refine Z7 ?_ | refine ZF ?_)
    repeat (first | refine kEnd_m ?_ | refine kEnd_f ?_)
    refine kEnd_g ?_ (by first | exact .inl rfl | exact .inr rfl)
    exact Sub.nil
  | false =>
    clear hb
    repeat (first | refine Z1 ?_ | refine Z2 ?_ | (refine Z3 ?_; (repeat (first | (apply gS; first | refine go_l 5 ?_ | refine go_f ?_ | refine gx ?_ | refine gm ?_ | refine gp ?_))); refine T_nil ?_) | (apply ZK; first | refine Z4 ?_ | refine Z5 ?_) | refine Z6 ?_ | refine Z7 ?_ | refine ZF ?_)
    repeat (first | refine kEnd_m ?_ | refine kEnd_f ?_)
    refine kEnd_g ?_ (by first | exact .inl rfl | exact .inr rfl)
    exact Sub.eq (by show D.row (0 + l.length) _ = _; rw [Nat.zero_add]; rfl) rfl
theorem flying_d (r : Rng) (h : 0 < r.n) (hl : r.fly.length ≤ 1000000) : DC Try.prog 7 [ringO r] (.row r.fly.length (flyD r.fly)) := by
  have N := none_d r h
  have C := clone_d r.fly hl
  refine DC.of Try.func7 Try.ntmps7 Try.results7 rfl (by decide +kernel) rfl ?_
  repeat (first | refine Z1 ?_ | refine Z2 ?_ | (refine Z3 ?_; (repeat (first | (apply gS; first | refine go_f ?_ | refine gx ?_ | refine gm ?_ | refine gp ?_ | refine go_c rfl rfl (N) ?_ | refine go_cF rfl rfl (N) ?_ | refine go_cA rfl rfl (N) ?_ | refine go_c rfl rfl (C) ?_ | refine go_cF rfl rfl (C) ?_ | refine go_cA rfl rfl (C) ?_))); refine T_nil ?_) | (apply ZK; first | refine Z4 ?_ | refine Z5 ?_) | refine Z6 ?_ | refine Z7 ?_ | refine ZF ?_)
  repeat (first | refine kEnd_m ?_ | refine kEnd_f ?_)
  refine kEnd_g ?_ (by first | exact .inl rfl | exact .inr rfl)
  exact Sub.eq rfl rfl
end Go.Proofs.Ytpomhnmfkdgafaa
