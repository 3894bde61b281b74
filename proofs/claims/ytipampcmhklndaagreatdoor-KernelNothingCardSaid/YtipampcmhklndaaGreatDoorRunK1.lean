import Derived.Test.YtipampcmhklndaaGreatDoorCtx
/- KernelNothing: runs of the evaluator in the kernel. -/
namespace Go.Proofs.YtipampcmhklndaaGreatDoor
open Go Go.Sh
set_option maxRecDepth 1000000
theorem runK_longData : runK binLongData [] (.sym 0) = true := by decide +kernel
theorem runK_longList : runK binLongList [] (.sym 0) = true := by decide +kernel
theorem runK_known : runK binKnown slcAll (i 3) = true := by decide +kernel
end Go.Proofs.YtipampcmhklndaaGreatDoor
