/- How a pair of ints reads, with their bounds. -/
import Derived.Test.YtifapodobhkdcaaCameT
namespace Go.Proofs.Ytifapodobhkdcaa
open Go.RowKit Go.ChangeShapes Go.WideShapes Go.Deep
set_option linter.unusedVariables false
set_option linter.unusedSimpArgs false
set_option maxRecDepth 100000
theorem came_i64 {P : Program} {t : TypeId} (ht : P.underlying t = some (.int .i64)) : Came P t fun n : {n : Int // okI n} => [iD n.1] := fun w fuel cs x h => by
  obtain ⟨n, rfl, _, hw⟩ := DataW.trod_int ht h
  exact ⟨⟨n, okI_wf hw⟩, Reads.one rfl (.val _ rfl)⟩
theorem came_at7 : Came Try.prog 75 fun a : {n : Int // okI n} × {n : Int // okI n} => [iD a.1.1, iD a.2.1] := fun {H} {enc} =>
  Came.to (came_struct2 Try.underlying75 (by kernel_rfl) (by kernel_rfl) (by kernel_rfl) (came_i64 Try.underlying3) (came_i64 Try.underlying3)) fun a => ⟨a, rfl⟩
theorem came_at25 : Came Try.prog 107 fun a : {n : Int // okI n} × {n : Int // okI n} => [iD a.1.1, iD a.2.1] := fun {H} {enc} =>
  Came.to (came_struct2 Try.underlying107 (by kernel_rfl) (by kernel_rfl) (by kernel_rfl) (came_i64 Try.underlying3) (came_i64 Try.underlying3)) fun a => ⟨a, rfl⟩
end Go.Proofs.Ytifapodobhkdcaa
