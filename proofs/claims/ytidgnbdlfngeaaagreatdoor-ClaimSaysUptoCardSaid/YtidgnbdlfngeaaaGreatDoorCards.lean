/-
  DERIVED. GIVEN WITH THE SEED: THE CARDS: each row of YtidgnbdlfngeaaaGreatDoorRows.lean that lists a variable, with what it lists TIED to the program's text (the seventh form; the later family's looks); each row that meets fmt, with fmt's text TOLD by the authors' own Lean function (tested against real Go, not proved from fmt's source: count such statements apart). THE CARD IS WHAT COUNTS. Prove the row's statement (the work); the ties are given (YtidgnbdlfngeaaaGreatDoorTie.lean); close each card by the builder's one call (the guide's Derived/Test/ToyasCard.lean, 'card_holds'). Laid BY PROGRAM, IN A SANDBOX (cutbox-door.mjs). By AI agents, Wed Nov 11 2026. No macro, syntax, notation, axiom, sorry.
-/
import Derived.Test.YtidgnbdlfngeaaaGreatDoorRows
import GoSem.ClaimSeven
namespace Go.Proofs.YtidgnbdlfngeaaaGreatDoor
namespace Rows

/-- THE TIED CARD OF 'umpiragelaw7.ClaimSays'. -/
def claimSaysCard : Claim7 := { stood := { row := claimSaysRow, standIns := [], harness := (true, "3f39aed48f783e2a158b3c37d79fd59628115636ae1302fafcb67e1754f69552"), looks := true }, kinds := [], alts := [], laidByText := true, laidKinds := [.data, .data, .data, .data, .sentinel, .sentinel, .pinned], laidTests := true, laidLooks := .later }
def ClaimSaysCardSaid : Prop := Claim7.holds Tryz.pinned (.plain (OpenSpec.ofChange claimSaysSpec)) claimSaysCard

/-- THE SECOND FORM's CARD OF 'umpiragelaw7.ClaimSays'. -/
def claimSaysUptoCard : Claim7 := { stood := { row := claimSaysUptoRow, standIns := [], harness := (true, "3f39aed48f783e2a158b3c37d79fd59628115636ae1302fafcb67e1754f69552"), looks := true }, kinds := [], alts := [], laidByText := true, laidKinds := [.data, .data, .data, .data, .sentinel, .sentinel, .pinned], laidTests := true, laidLooks := .later }
def ClaimSaysUptoCardSaid : Prop := Claim7.holds Tryz.pinned (.plain (OpenSpec.upto claimSaysSpec)) claimSaysUptoCard
end Rows
end Go.Proofs.YtidgnbdlfngeaaaGreatDoor
