import Derived.Test.YtenoaeapijcccaaGreatDoorCok
import Derived.Test.YtenoaeapijcccaaGreatDoorSym
import Derived.Test.YtenoaeapijcccaaGreatDoorRunN
import Derived.Test.YtenoaeapijcccaaGreatDoorRunB
import Derived.Test.YtenoaeapijcccaaGreatDoorRun0t
import Derived.Test.YtenoaeapijcccaaGreatDoorRun0f
import Derived.Test.YtenoaeapijcccaaGreatDoorRun1t
import Derived.Test.YtenoaeapijcccaaGreatDoorRun1f
import Derived.Test.YtenoaeapijcccaaGreatDoorRun2t
import Derived.Test.YtenoaeapijcccaaGreatDoorRun2f
import Derived.Test.YtenoaeapijcccaaGreatDoorRun3t
import Derived.Test.YtenoaeapijcccaaGreatDoorRun3f
set_option linter.unusedVariables false
set_option linter.unusedSimpArgs false
set_option linter.unusedSectionVars false
namespace Go.Proofs.YtenoaeapijcccaaGreatDoor
open Go Go.Sh
theorem fi3 : fnT.get 3 = some (mkFI Tryz.f3) := rfl
def Good (W : World) (e : Ending) (w' : World) : Prop := e = .returned (.bool true) ∧ W.keptBut w' (fun _ => False) ∧ W.heap.size ≤ w'.heap.size
theorem closed_run {n : Nat} {b : Bool} (hrun : runB [] 3 [.int .i64 (.ofNat n), .bool b] = true) {W : World} (hW : NamesAt W) : Calls Tryz.prog 3 #[.int .i64 (Int.ofNat n), .bool b] W (Good W) :=
  walk_of_run (σ := ⟨fun _ => .bool b, fun _ => none⟩) rfl (cok [] _ (by simp)) (fok [] _) mixed (vs := [.int .i64 (Int.ofNat n), .bool b]) (by simp [VRs, VR]) hrun fi3 hW
theorem sym_args (a0 : Int) (a1 : Bool) : VRs (sig a0 a1) ρ0 [.sym 0, .sym 1] [.int .i64 a0, .bool a1] := by
  refine VRs.cons ?_ (VRs.cons ?_ VRs.nil) <;> (simp only [VR]; exact ⟨rfl, rfl⟩)
theorem walk (a0 : Int) (a1 : Bool) {W : World} (hW : NamesAt W) : Calls Tryz.prog 3 #[.int .i64 a0, .bool a1] W (Good W) := by
  by_cases h0 : a0 < 0
  · exact walk_of_run (σ := sig a0 a1) rfl (cok _ _ (neg_bin h0)) (fok _ _) mixed (vs := [.int .i64 a0, .bool a1]) (sym_args a0 a1) run_neg fi3 hW
  · by_cases h3 : 3 < a0
    · exact walk_of_run (σ := sig a0 a1) rfl (cok _ _ (big_bin h3)) (fok _ _) mixed (vs := [.int .i64 a0, .bool a1]) (sym_args a0 a1) run_big fi3 hW
    · have : a0 = 0 ∨ a0 = 1 ∨ a0 = 2 ∨ a0 = 3 := by omega
      rcases this with rfl | rfl | rfl | rfl <;> cases a1
      · exact closed_run run_0f hW
      · exact closed_run run_0t hW
      · exact closed_run run_1f hW
      · exact closed_run run_1t hW
      · exact closed_run run_2f hW
      · exact closed_run run_2t hW
      · exact closed_run run_3f hW
      · exact closed_run run_3t hW
end Go.Proofs.YtenoaeapijcccaaGreatDoor
