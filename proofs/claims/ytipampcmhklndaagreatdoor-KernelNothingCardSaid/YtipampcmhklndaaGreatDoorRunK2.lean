import Derived.Test.YtipampcmhklndaaGreatDoorCtx
/- KernelNothing: runs of the evaluator in the kernel. -/
namespace Go.Proofs.YtipampcmhklndaaGreatDoor
open Go Go.Sh
set_option maxRecDepth 1000000
theorem runK_under : runK binUnder slcAll (.sym 0) = true := by decide +kernel
theorem runK_above : runK binAbove slcAll (.sym 0) = true := by decide +kernel
theorem runK_low : runK binLow slcAll (i 3) = true := by decide +kernel
end Go.Proofs.YtipampcmhklndaaGreatDoor
