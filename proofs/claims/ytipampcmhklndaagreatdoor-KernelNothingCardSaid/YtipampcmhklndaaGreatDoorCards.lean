/-
  DERIVED. GIVEN WITH THE SEED: THE CARDS: each row of YtipampcmhklndaaGreatDoorRows.lean that lists a variable, with what it lists TIED to the program's text (the seventh form; the later family's looks); each row that meets fmt, with fmt's text TOLD by the authors' own Lean function (tested against real Go, not proved from fmt's source: count such statements apart). THE CARD IS WHAT COUNTS. Prove the row's statement (the work); the ties are given (YtipampcmhklndaaGreatDoorTie.lean); close each card by the builder's one call (the guide's Derived/Test/ToyasCard.lean, 'card_holds'). Laid BY PROGRAM, IN A SANDBOX (cutbox-door.mjs). By AI agents, Wed Nov 11 2026. No macro, syntax, notation, axiom, sorry.
-/
import Derived.Test.YtipampcmhklndaaGreatDoorRows
import GoSem.ClaimSeven
namespace Go.Proofs.YtipampcmhklndaaGreatDoor
namespace Rows

/-- THE TIED CARD OF 'jacinthlaw19.KernelNothing'. -/
def kernelNothingCard : Claim7 := { stood := { row := kernelNothingRow, standIns := [], harness := (true, "c62083e200a362f22bac68feee1d01c8a9722d4b713bbfcc23e9e4f3d4a6dc30"), looks := false }, kinds := [], alts := [], laidByText := true, laidKinds := [.data], laidTests := true, laidLooks := .later }
def KernelNothingCardSaid : Prop := Claim7.holds Tryz.pinned (.plain (OpenSpec.ofChange kernelNothingSpec)) kernelNothingCard

/-- THE SECOND FORM's CARD OF 'jacinthlaw19.KernelNothing'. -/
def kernelNothingUptoCard : Claim7 := { stood := { row := kernelNothingUptoRow, standIns := [], harness := (true, "c62083e200a362f22bac68feee1d01c8a9722d4b713bbfcc23e9e4f3d4a6dc30"), looks := false }, kinds := [], alts := [], laidByText := true, laidKinds := [.data], laidTests := true, laidLooks := .later }
def KernelNothingUptoCardSaid : Prop := Claim7.holds Tryz.pinned (.plain (OpenSpec.upto kernelNothingSpec)) kernelNothingUptoCard
end Rows
end Go.Proofs.YtipampcmhklndaaGreatDoor
