import Derived.Test.YtipampcmhklndaaGreatDoorRows
import Derived.JoinedOf
import Derived.KernelRfl
/- The row's closed facts. -/
namespace Go.Proofs.YtipampcmhklndaaGreatDoor
open Go
set_option maxHeartbeats 0 in
set_option maxRecDepth 100000 in
theorem closedK : joinedFacts Tryz.prog 3 Tryz.f3 Rows.kernelNothingSpec Rows.kernelNothingRow = true := by
  simp only [joinedFacts, Bool.and_eq_true]
  repeat' apply And.intro
  all_goals as_aux_lemma => kernel_rfl
end Go.Proofs.YtipampcmhklndaaGreatDoor
