/- The abstract machine: a code's rest from a state that the first part ends in. -/
import Derived.Test.YtpomhnmfkdgafaaCutA
namespace Go.Proofs.Ytpomhnmfkdgafaa
open Go.RowKit
set_option linter.unusedVariables false
section
variable {P : Program} {S : St} {K : Exit → St → Prop}
structure kCutN (S' : St) (e : Exit) (S : St) : Prop where
  ex : e = .normal
  wk : Wk S S'
theorem kCut_n {S' : St} (h : Wk S S') : kCutN S' .normal S := ⟨rfl, h⟩
/-- the rest goes on from a weaker state -/
theorem C_cut (S' : St) {c rest : Code} (h1 : C P c S (kCutN S')) (h2 : C P rest S' K) : C P c S (kSeq P rest K) :=
  C_mono h1 fun e S1 h => by
    obtain ⟨rfl, hw⟩ := h
    exact Z2 (C_wk hw h2)
end
end Go.Proofs.Ytpomhnmfkdgafaa
