/-
  DERIVED. GIVEN WITH THE SEED: THE CARDS: each row of YtenoaeapijcccaaGreatDoorRows.lean that lists a variable, with what it lists TIED to the program's text (the seventh form; the later family's looks); each row that meets fmt, with fmt's text TOLD by the authors' own Lean function (tested against real Go, not proved from fmt's source: count such statements apart). THE CARD IS WHAT COUNTS. Prove the row's statement (the work); the ties are given (YtenoaeapijcccaaGreatDoorTie.lean); close each card by the builder's one call (the guide's Derived/Test/ToyasCard.lean, 'card_holds'). Laid BY PROGRAM, IN A SANDBOX (cutbox-door.mjs). By AI agents, Wed Nov 11 2026. No macro, syntax, notation, axiom, sorry.
-/
import Derived.Test.YtenoaeapijcccaaGreatDoorRows
import GoSem.ClaimSeven
namespace Go.Proofs.YtenoaeapijcccaaGreatDoor
namespace Rows

/-- THE TIED CARD OF 'jacinthlaw21.AuditQueues'. -/
def auditQueuesCard : Claim7 := { stood := { row := auditQueuesRow, standIns := [], harness := (true, "e42142b9351b3bc6e371302abe44408b0ad38ec2dbadb484cf121d57d8a2c95c"), looks := false }, kinds := [], alts := [], laidByText := true, laidKinds := [.data], laidTests := true, laidLooks := .later }
def AuditQueuesCardSaid : Prop := Claim7.holds Tryz.pinned (.plain (OpenSpec.ofChange auditQueuesSpec)) auditQueuesCard

/-- THE SECOND FORM's CARD OF 'jacinthlaw21.AuditQueues'. -/
def auditQueuesUptoCard : Claim7 := { stood := { row := auditQueuesUptoRow, standIns := [], harness := (true, "e42142b9351b3bc6e371302abe44408b0ad38ec2dbadb484cf121d57d8a2c95c"), looks := false }, kinds := [], alts := [], laidByText := true, laidKinds := [.data], laidTests := true, laidLooks := .later }
def AuditQueuesUptoCardSaid : Prop := Claim7.holds Tryz.pinned (.plain (OpenSpec.upto auditQueuesSpec)) auditQueuesUptoCard
end Rows
end Go.Proofs.YtenoaeapijcccaaGreatDoor
