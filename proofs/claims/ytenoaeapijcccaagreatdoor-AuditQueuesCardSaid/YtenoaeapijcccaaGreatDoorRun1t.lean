import Derived.Test.YtenoaeapijcccaaGreatDoorTab
set_option linter.unusedVariables false
set_option linter.unusedSimpArgs false
set_option linter.unusedSectionVars false
namespace Go.Proofs.YtenoaeapijcccaaGreatDoor
open Go Go.Sh
set_option maxRecDepth 1000000
theorem run_1t : runB [] 3 [.int .i64 (.ofNat 1), .bool true] = true := by decide +kernel
end Go.Proofs.YtenoaeapijcccaaGreatDoor
