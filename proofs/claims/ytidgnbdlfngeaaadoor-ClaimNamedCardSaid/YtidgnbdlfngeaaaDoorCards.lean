/-
  DERIVED. GIVEN WITH THE SEED: THE CARDS: each row of YtidgnbdlfngeaaaDoorRows.lean that lists a variable, with what it lists TIED to the program's text (the seventh form; the later family's looks); each row that meets fmt, with fmt's text TOLD by the authors' own Lean function (tested against real Go, not proved from fmt's source: count such statements apart). THE CARD IS WHAT COUNTS. Prove the row's statement (the work); the ties are given (YtidgnbdlfngeaaaDoorTie.lean); close each card by the builder's one call (the guide's Derived/Test/ToyasCard.lean, 'card_holds'). Laid BY PROGRAM, IN A SANDBOX (cutbox-door.mjs). By AI agents, Wed Nov 11 2026. No macro, syntax, notation, axiom, sorry.
-/
import Derived.Test.YtidgnbdlfngeaaaDoorRows
import GoSem.ClaimSeven
namespace Go.Proofs.YtidgnbdlfngeaaaDoor
namespace Rows

/-- THE TIED CARD OF 'umpiragelaw7.ClaimBack'. -/
def claimBackCard : Claim7 := { stood := { row := claimBackRow, standIns := [], harness := (true, "98477cc0fad5fee81adcb4f6b21a42e74e2d124f1e653d7dd0d58868520f0619"), looks := true }, kinds := [], alts := [], laidByText := true, laidKinds := [.data, .data, .data, .data, .sentinel, .sentinel, .pinned], laidTests := true, laidLooks := .later }
def ClaimBackCardSaid : Prop := Claim7.holds Tryd.pinned (.plain (OpenSpec.ofChange claimBackSpec)) claimBackCard

/-- THE TIED CARD OF 'umpiragelaw7.ClaimNamed'. -/
def claimNamedCard : Claim7 := { stood := { row := claimNamedRow, standIns := [], harness := (true, "98477cc0fad5fee81adcb4f6b21a42e74e2d124f1e653d7dd0d58868520f0619"), looks := true }, kinds := [], alts := [], laidByText := true, laidKinds := [.data, .data, .data, .data, .sentinel, .sentinel, .pinned], laidTests := true, laidLooks := .later }
def ClaimNamedCardSaid : Prop := Claim7.holds Tryd.pinned (.plain (OpenSpec.ofChange claimNamedSpec)) claimNamedCard

/-- THE SECOND FORM's CARD OF 'umpiragelaw7.ClaimBack'. -/
def claimBackUptoCard : Claim7 := { stood := { row := claimBackUptoRow, standIns := [], harness := (true, "98477cc0fad5fee81adcb4f6b21a42e74e2d124f1e653d7dd0d58868520f0619"), looks := true }, kinds := [], alts := [], laidByText := true, laidKinds := [.data, .data, .data, .data, .sentinel, .sentinel, .pinned], laidTests := true, laidLooks := .later }
def ClaimBackUptoCardSaid : Prop := Claim7.holds Tryd.pinned (.plain (OpenSpec.upto claimBackSpec)) claimBackUptoCard

/-- THE SECOND FORM's CARD OF 'umpiragelaw7.ClaimNamed'. -/
def claimNamedUptoCard : Claim7 := { stood := { row := claimNamedUptoRow, standIns := [], harness := (true, "98477cc0fad5fee81adcb4f6b21a42e74e2d124f1e653d7dd0d58868520f0619"), looks := true }, kinds := [], alts := [], laidByText := true, laidKinds := [.data, .data, .data, .data, .sentinel, .sentinel, .pinned], laidTests := true, laidLooks := .later }
def ClaimNamedUptoCardSaid : Prop := Claim7.holds Tryd.pinned (.plain (OpenSpec.upto claimNamedSpec)) claimNamedUptoCard
end Rows
end Go.Proofs.YtidgnbdlfngeaaaDoor
