/- beyond of the reference of domains, by the abstract machine. -/
import Derived.Test.YtifapodobhkdcaaE4
namespace Go.Proofs.Ytifapodobhkdcaa
open Go.RowKit
set_option linter.unusedVariables false
set_option linter.unusedSimpArgs false
set_option maxRecDepth 100000
end Go.Proofs.Ytifapodobhkdcaa
