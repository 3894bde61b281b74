import Derived.Test.YtipampcmhklndaaGreatDoorCtx
/- KernelNothing: runs of the evaluator in the kernel. -/
namespace Go.Proofs.YtipampcmhklndaaGreatDoor
open Go Go.Sh
set_option maxRecDepth 1000000
theorem runK_one : runK binSmall slcAll (i 1) = true := by decide +kernel
theorem runK_two : runK binSmall slcAll (i 2) = true := by decide +kernel
theorem runK_high : runK binHigh slcAll (i 3) = true := by decide +kernel
end Go.Proofs.YtipampcmhklndaaGreatDoor
