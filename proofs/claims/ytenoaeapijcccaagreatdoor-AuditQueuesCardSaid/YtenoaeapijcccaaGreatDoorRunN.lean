import Derived.Test.YtenoaeapijcccaaGreatDoorTab
set_option linter.unusedVariables false
set_option linter.unusedSimpArgs false
set_option linter.unusedSectionVars false
namespace Go.Proofs.YtenoaeapijcccaaGreatDoor
open Go Go.Sh
set_option maxRecDepth 1000000
theorem run_neg : runB [(.lss, .sym 0, .int .i64 (.ofNat 0), .bool true)] 3 [.sym 0, .sym 1] = true := by decide +kernel
end Go.Proofs.YtenoaeapijcccaaGreatDoor
