import Derived.Test.YtbkojmcppeflbaaDoorWkD
namespace Go.Proofs.YtbkojmcppeflbaaDoor
open Go
set_option linter.unusedVariables false
set_option linter.unusedSimpArgs false
set_option linter.unusedSectionVars false
set_option linter.unnecessarySimpa false
set_option maxRecDepth 100000
theorem knows_ok (k : Nat) : law03_knows.f (k + 200) = some true := by kernel_rfl
end Go.Proofs.YtbkojmcppeflbaaDoor
