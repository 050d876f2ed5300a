/- First. -/
import Derived.Test.YtpomhnmfkdgafaaBeg
namespace Go.Proofs.Ytpomhnmfkdgafaa
open Go.RowKit
set_option linter.unusedVariables false
set_option maxHeartbeats 16000000
set_option linter.unusedSimpArgs false
set_option maxRecDepth 100000
theorem first_d : DC Try.prog 5 [] (bD true) := by
  have H1 := new_ok 2 (by omega) (by omega)
  have B0 : Bnd 0 (ring0 2) := Bnd.zero (by omega) (by omega)
  have B1 := B0.idle 0
  have B2 := B1.pass (by omega)
  have B3 := B2.pass (by omega)
  have H2 : ∀ B q, _ := fun B q => idle_dm B q (ring0 2) (B0.few (by omega)) 0
  have H3 : ∀ B q, _ := fun B q => pass_dm B q _ (B1.few (by omega))
  have H4 : ∀ B q, _ := fun B q => pass_dm B q _ (B2.few (by omega))
  have H5 : ∀ B q, _ := fun B q => pass_dm B q _ (B3.few (by omega))
  have e1 : idleE (ring0 2) 0 = 0 := by decide
  have e2 : passT (passR (passR (idleR (ring0 2) 0))) = true := by decide
  have e3 : passE (passR (passR (idleR (ring0 2) 0))) = 0 := by decide
  rw [e2, e3] at H5
  rw [e1] at H2
  clear B0 B1 B2 B3 e1 e2 e3
  generalize passR (passR (passR (idleR (ring0 2) 0))) = r4 at *
  generalize passR (passR (idleR (ring0 2) 0)) = r3 at *
  generalize passR (idleR (ring0 2) 0) = r2 at *
  generalize idleR (ring0 2) 0 = r1 at *
  generalize ring0 2 = r0 at *
  refine DC.of Try.func5 Try.ntmps5 Try.results5 rfl (by decide +kernel) rfl ?_
  repeat (first | refine Z1 ?_ | refine Z2 ?_ | (refine Z3 ?_; (repeat (first | (apply gS; first | refine go_newR H1 ?_ | refine go_eqP ?_ | refine T_R (s := 15) H2 rfl (fun _ _ => rfl) (fun _ _ => rfl) rfl rfl rfl rfl rfl rfl (fun _ => rfl) rfl (fun _ _ => rfl) rfl ?_ | refine T_R (s := 19) H3 rfl (fun _ _ => rfl) (fun _ _ => rfl) rfl rfl rfl rfl rfl rfl (fun _ => rfl) rfl (fun _ _ => rfl) rfl ?_ | refine T_R (s := 21) H4 rfl (fun _ _ => rfl) (fun _ _ => rfl) rfl rfl rfl rfl rfl rfl (fun _ => rfl) rfl (fun _ _ => rfl) rfl ?_ | refine T_R (s := 24) H5 rfl (fun _ _ => rfl) (fun _ _ => rfl) rfl rfl rfl rfl rfl rfl (fun _ => rfl) rfl (fun _ _ => rfl) rfl ?_ | refine go_no ?_ | refine go_f ?_ | refine gx ?_ | refine gm ?_ | refine gp ?_))); refine T_nil ?_) | (apply ZK; first | refine Z4 ?_ | refine Z5 ?_) | refine Z6 ?_ | refine Z7 ?_ | refine ZF ?_)
  repeat (first | refine kEnd_m ?_ | refine kEnd_f ?_)
  refine kEnd_g ?_ (by first | exact .inl rfl | exact .inr rfl)
  exact Sub.eq rfl rfl
end Go.Proofs.Ytpomhnmfkdgafaa
