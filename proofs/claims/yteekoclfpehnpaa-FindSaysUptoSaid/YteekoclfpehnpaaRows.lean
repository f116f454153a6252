/-
  NARROWER THAN 'FOR EVERY INPUT', by the rows' own cells (each row's printed sentence says how): ClaimNorms: loops · TableSays: loops · TableFewer: loops · TableWith: loops · TurnSays: loops · TurnModel: loops · FindSays: loops · AboveSays: loops · AboveOrder: loops · AboveWith: loops · AboveSorts: loops.
  DERIVED. THE GIVEN ROWS OF THIS SEAT. 12 by the template 'for every input the law returns true; each argument reads behind the call as it read before'; 0 by the template 'total and deterministic' (their statements: YteekoclfpehnpaaTotals.lean).
  GIVEN WITH THE SEED: the statements are not yours to turn. If you find one false, say at which input.
  Laid BY PROGRAM, IN A SANDBOX (cutbox-rows.mjs): the forced cells as the released guide's own fill.sh prints them over the translation b84350ce172b1d53… (all of the seat's roots in one cut). By AI agents, Wed Nov 11 2026. No macro, syntax, notation, axiom, sorry.
-/
import Derived.Test.YteekoclfpehnpaaChecked
import GoSem.Claim
import GoSem.ClaimJoined
import GoSem.ClaimMapViews
import Derived.JoinedTies
import Derived.KernelRfl
namespace Go.Proofs.Yteekoclfpehnpaa
/- THE CELL 'sum', in the pinned program and in every row, IS THE sha256 OF THE DUMP (.gsa) THAT YteekoclfpehnpaaProg.lean LOADS. Nothing in Lean hashes anything: it is a label: what it is worth is what the hold of that sum in a sandbox is worth. -/
noncomputable def Try.pinned : Pinned := { name := "yteekoclfpehnpaa", sum := "b84350ce172b1d53e899d7075ec53a6140e2124237a19f7cf177f7d62d82ab31", checked := Try.checked }
namespace Rows
def none {H : Type} : Left H := { results := [], args := [] }

/-- 'umpiragelaw7.ClaimNorms': WHATEVER THE INPUT: true; the input reads as it did. -/
def claimNormsSpec : ChangeSpec := { name := "claimNorms", fn := fun _ => fun
  | [d] => { results := [.lit (.bool true)], args := [d] }
  | _ => none }
def claimNormsRow : OpenClaim := { program := "yteekoclfpehnpaa", sum := "b84350ce172b1d53e899d7075ec53a6140e2124237a19f7cf177f7d62d82ab31", func := "umpirage/umpiragelaw7.ClaimNorms", spec := "claimNorms", unfollowed := true, recurses := true, loops := true, plainKeys := false, apart := false }
def ClaimNormsSaid : Prop := claimNormsRow.holds Try.pinned (OpenSpec.ofChange claimNormsSpec)

/-- ITS FALSE NEIGHBOUR: 'it returns false'. Refute it at one input. -/
def claimNormsWrong : ChangeSpec := { name := "claimNorms", fn := fun _ => fun
  | [d] => { results := [.lit (.bool false)], args := [d] }
  | _ => none }
def ClaimNormsWrongFalsely : Prop := claimNormsRow.holds Try.pinned (OpenSpec.ofChange claimNormsWrong)

/-- 'umpiragelaw7.TableSays': WHATEVER THE INPUT: true; the input reads as it did. -/
def tableSaysSpec : ChangeSpec := { name := "tableSays", fn := fun _ => fun
  | [d1, d2, d3, d4] => { results := [.lit (.bool true)], args := [d1, d2, d3, d4] }
  | _ => none }
def tableSaysRow : OpenClaim := { program := "yteekoclfpehnpaa", sum := "b84350ce172b1d53e899d7075ec53a6140e2124237a19f7cf177f7d62d82ab31", func := "umpirage/umpiragelaw7.TableSays", spec := "tableSays", unfollowed := true, recurses := true, loops := true, plainKeys := false, apart := false }
def TableSaysSaid : Prop := tableSaysRow.holds Try.pinned (OpenSpec.ofChange tableSaysSpec)

/-- ITS FALSE NEIGHBOUR: 'it returns false'. Refute it at one input. -/
def tableSaysWrong : ChangeSpec := { name := "tableSays", fn := fun _ => fun
  | [d1, d2, d3, d4] => { results := [.lit (.bool false)], args := [d1, d2, d3, d4] }
  | _ => none }
def TableSaysWrongFalsely : Prop := tableSaysRow.holds Try.pinned (OpenSpec.ofChange tableSaysWrong)

/-- 'umpiragelaw7.TableFewer': WHATEVER THE INPUT: true; the input reads as it did. -/
def tableFewerSpec : ChangeSpec := { name := "tableFewer", fn := fun _ => fun
  | [d1, d2, d3] => { results := [.lit (.bool true)], args := [d1, d2, d3] }
  | _ => none }
def tableFewerRow : OpenClaim := { program := "yteekoclfpehnpaa", sum := "b84350ce172b1d53e899d7075ec53a6140e2124237a19f7cf177f7d62d82ab31", func := "umpirage/umpiragelaw7.TableFewer", spec := "tableFewer", unfollowed := true, recurses := true, loops := true, plainKeys := false, apart := false }
def TableFewerSaid : Prop := tableFewerRow.holds Try.pinned (OpenSpec.ofChange tableFewerSpec)

/-- ITS FALSE NEIGHBOUR: 'it returns false'. Refute it at one input. -/
def tableFewerWrong : ChangeSpec := { name := "tableFewer", fn := fun _ => fun
  | [d1, d2, d3] => { results := [.lit (.bool false)], args := [d1, d2, d3] }
  | _ => none }
def TableFewerWrongFalsely : Prop := tableFewerRow.holds Try.pinned (OpenSpec.ofChange tableFewerWrong)

/-- 'umpiragelaw7.TableWith': WHATEVER THE INPUT: true; the input reads as it did. -/
def tableWithSpec : ChangeSpec := { name := "tableWith", fn := fun _ => fun
  | [d1, d2, d3, d4, d5] => { results := [.lit (.bool true)], args := [d1, d2, d3, d4, d5] }
  | _ => none }
def tableWithRow : OpenClaim := { program := "yteekoclfpehnpaa", sum := "b84350ce172b1d53e899d7075ec53a6140e2124237a19f7cf177f7d62d82ab31", func := "umpirage/umpiragelaw7.TableWith", spec := "tableWith", unfollowed := true, recurses := true, loops := true, plainKeys := false, apart := false }
def TableWithSaid : Prop := tableWithRow.holds Try.pinned (OpenSpec.ofChange tableWithSpec)

/-- ITS FALSE NEIGHBOUR: 'it returns false'. Refute it at one input. -/
def tableWithWrong : ChangeSpec := { name := "tableWith", fn := fun _ => fun
  | [d1, d2, d3, d4, d5] => { results := [.lit (.bool false)], args := [d1, d2, d3, d4, d5] }
  | _ => none }
def TableWithWrongFalsely : Prop := tableWithRow.holds Try.pinned (OpenSpec.ofChange tableWithWrong)

/-- 'umpiragelaw7.TurnAdds': WHATEVER THE INPUT: true; the input reads as it did. -/
def turnAddsSpec : ChangeSpec := { name := "turnAdds", fn := fun _ => fun
  | [d1, d2] => { results := [.lit (.bool true)], args := [d1, d2] }
  | _ => none }
def turnAddsRow : OpenClaim := { program := "yteekoclfpehnpaa", sum := "b84350ce172b1d53e899d7075ec53a6140e2124237a19f7cf177f7d62d82ab31", func := "umpirage/umpiragelaw7.TurnAdds", spec := "turnAdds", unfollowed := true, recurses := true, plainKeys := false, apart := false }
def TurnAddsSaid : Prop := turnAddsRow.holds Try.pinned (OpenSpec.ofChange turnAddsSpec)

/-- ITS FALSE NEIGHBOUR: 'it returns false'. Refute it at one input. -/
def turnAddsWrong : ChangeSpec := { name := "turnAdds", fn := fun _ => fun
  | [d1, d2] => { results := [.lit (.bool false)], args := [d1, d2] }
  | _ => none }
def TurnAddsWrongFalsely : Prop := turnAddsRow.holds Try.pinned (OpenSpec.ofChange turnAddsWrong)

/-- 'umpiragelaw7.TurnSays': WHATEVER THE INPUT: true; the input reads as it did. -/
def turnSaysSpec : ChangeSpec := { name := "turnSays", fn := fun _ => fun
  | [d1, d2, d3] => { results := [.lit (.bool true)], args := [d1, d2, d3] }
  | _ => none }
def turnSaysRow : OpenClaim := { program := "yteekoclfpehnpaa", sum := "b84350ce172b1d53e899d7075ec53a6140e2124237a19f7cf177f7d62d82ab31", func := "umpirage/umpiragelaw7.TurnSays", spec := "turnSays", unfollowed := true, recurses := true, loops := true, plainKeys := false, apart := false }
def TurnSaysSaid : Prop := turnSaysRow.holds Try.pinned (OpenSpec.ofChange turnSaysSpec)

/-- ITS FALSE NEIGHBOUR: 'it returns false'. Refute it at one input. -/
def turnSaysWrong : ChangeSpec := { name := "turnSays", fn := fun _ => fun
  | [d1, d2, d3] => { results := [.lit (.bool false)], args := [d1, d2, d3] }
  | _ => none }
def TurnSaysWrongFalsely : Prop := turnSaysRow.holds Try.pinned (OpenSpec.ofChange turnSaysWrong)

/-- 'umpiragelaw7.TurnModel': WHATEVER THE INPUT: true; the input reads as it did. -/
def turnModelSpec : ChangeSpec := { name := "turnModel", fn := fun _ => fun
  | [d1, d2, d3, d4, d5] => { results := [.lit (.bool true)], args := [d1, d2, d3, d4, d5] }
  | _ => none }
def turnModelRow : OpenClaim := { program := "yteekoclfpehnpaa", sum := "b84350ce172b1d53e899d7075ec53a6140e2124237a19f7cf177f7d62d82ab31", func := "umpirage/umpiragelaw7.TurnModel", spec := "turnModel", unfollowed := true, recurses := true, loops := true, plainKeys := false, apart := false }
def TurnModelSaid : Prop := turnModelRow.holds Try.pinned (OpenSpec.ofChange turnModelSpec)

/-- ITS FALSE NEIGHBOUR: 'it returns false'. Refute it at one input. -/
def turnModelWrong : ChangeSpec := { name := "turnModel", fn := fun _ => fun
  | [d1, d2, d3, d4, d5] => { results := [.lit (.bool false)], args := [d1, d2, d3, d4, d5] }
  | _ => none }
def TurnModelWrongFalsely : Prop := turnModelRow.holds Try.pinned (OpenSpec.ofChange turnModelWrong)

/-- 'umpiragelaw7.FindSays': WHATEVER THE INPUT: true; the input reads as it did. -/
def findSaysSpec : ChangeSpec := { name := "findSays", fn := fun _ => fun
  | [d1, d2, d3] => { results := [.lit (.bool true)], args := [d1, d2, d3] }
  | _ => none }
def findSaysRow : OpenClaim := { program := "yteekoclfpehnpaa", sum := "b84350ce172b1d53e899d7075ec53a6140e2124237a19f7cf177f7d62d82ab31", func := "umpirage/umpiragelaw7.FindSays", spec := "findSays", unfollowed := true, recurses := true, loops := true, plainKeys := false, apart := false }
def FindSaysSaid : Prop := findSaysRow.holds Try.pinned (OpenSpec.ofChange findSaysSpec)

/-- ITS FALSE NEIGHBOUR: 'it returns false'. Refute it at one input. -/
def findSaysWrong : ChangeSpec := { name := "findSays", fn := fun _ => fun
  | [d1, d2, d3] => { results := [.lit (.bool false)], args := [d1, d2, d3] }
  | _ => none }
def FindSaysWrongFalsely : Prop := findSaysRow.holds Try.pinned (OpenSpec.ofChange findSaysWrong)

/-- 'umpiragelaw7.AboveSays': WHATEVER THE INPUT: true; the input reads as it did. -/
def aboveSaysSpec : ChangeSpec := { name := "aboveSays", fn := fun _ => fun
  | [d1, d2] => { results := [.lit (.bool true)], args := [d1, d2] }
  | _ => none }
def aboveSaysRow : OpenClaim := { program := "yteekoclfpehnpaa", sum := "b84350ce172b1d53e899d7075ec53a6140e2124237a19f7cf177f7d62d82ab31", func := "umpirage/umpiragelaw7.AboveSays", spec := "aboveSays", unfollowed := true, recurses := true, loops := true, plainKeys := false, apart := false }
def AboveSaysSaid : Prop := aboveSaysRow.holds Try.pinned (OpenSpec.ofChange aboveSaysSpec)

/-- ITS FALSE NEIGHBOUR: 'it returns false'. Refute it at one input. -/
def aboveSaysWrong : ChangeSpec := { name := "aboveSays", fn := fun _ => fun
  | [d1, d2] => { results := [.lit (.bool false)], args := [d1, d2] }
  | _ => none }
def AboveSaysWrongFalsely : Prop := aboveSaysRow.holds Try.pinned (OpenSpec.ofChange aboveSaysWrong)

/-- 'umpiragelaw7.AboveOrder': WHATEVER THE INPUT: true; the input reads as it did. -/
def aboveOrderSpec : ChangeSpec := { name := "aboveOrder", fn := fun _ => fun
  | [d1, d2, d3, d4] => { results := [.lit (.bool true)], args := [d1, d2, d3, d4] }
  | _ => none }
def aboveOrderRow : OpenClaim := { program := "yteekoclfpehnpaa", sum := "b84350ce172b1d53e899d7075ec53a6140e2124237a19f7cf177f7d62d82ab31", func := "umpirage/umpiragelaw7.AboveOrder", spec := "aboveOrder", unfollowed := true, recurses := true, loops := true, plainKeys := false, apart := false }
def AboveOrderSaid : Prop := aboveOrderRow.holds Try.pinned (OpenSpec.ofChange aboveOrderSpec)

/-- ITS FALSE NEIGHBOUR: 'it returns false'. Refute it at one input. -/
def aboveOrderWrong : ChangeSpec := { name := "aboveOrder", fn := fun _ => fun
  | [d1, d2, d3, d4] => { results := [.lit (.bool false)], args := [d1, d2, d3, d4] }
  | _ => none }
def AboveOrderWrongFalsely : Prop := aboveOrderRow.holds Try.pinned (OpenSpec.ofChange aboveOrderWrong)

/-- 'umpiragelaw7.AboveWith': WHATEVER THE INPUT: true; the input reads as it did. -/
def aboveWithSpec : ChangeSpec := { name := "aboveWith", fn := fun _ => fun
  | [d1, d2, d3, d4, d5] => { results := [.lit (.bool true)], args := [d1, d2, d3, d4, d5] }
  | _ => none }
def aboveWithRow : OpenClaim := { program := "yteekoclfpehnpaa", sum := "b84350ce172b1d53e899d7075ec53a6140e2124237a19f7cf177f7d62d82ab31", func := "umpirage/umpiragelaw7.AboveWith", spec := "aboveWith", unfollowed := true, recurses := true, loops := true, plainKeys := false, apart := false }
def AboveWithSaid : Prop := aboveWithRow.holds Try.pinned (OpenSpec.ofChange aboveWithSpec)

/-- ITS FALSE NEIGHBOUR: 'it returns false'. Refute it at one input. -/
def aboveWithWrong : ChangeSpec := { name := "aboveWith", fn := fun _ => fun
  | [d1, d2, d3, d4, d5] => { results := [.lit (.bool false)], args := [d1, d2, d3, d4, d5] }
  | _ => none }
def AboveWithWrongFalsely : Prop := aboveWithRow.holds Try.pinned (OpenSpec.ofChange aboveWithWrong)

/-- 'umpiragelaw7.AboveSorts': WHATEVER THE INPUT: true; the input reads as it did. -/
def aboveSortsSpec : ChangeSpec := { name := "aboveSorts", fn := fun _ => fun
  | [d] => { results := [.lit (.bool true)], args := [d] }
  | _ => none }
def aboveSortsRow : OpenClaim := { program := "yteekoclfpehnpaa", sum := "b84350ce172b1d53e899d7075ec53a6140e2124237a19f7cf177f7d62d82ab31", func := "umpirage/umpiragelaw7.AboveSorts", spec := "aboveSorts", unfollowed := true, recurses := true, loops := true, plainKeys := false, apart := false }
def AboveSortsSaid : Prop := aboveSortsRow.holds Try.pinned (OpenSpec.ofChange aboveSortsSpec)

/-- ITS FALSE NEIGHBOUR: 'it returns false'. Refute it at one input. -/
def aboveSortsWrong : ChangeSpec := { name := "aboveSorts", fn := fun _ => fun
  | [d] => { results := [.lit (.bool false)], args := [d] }
  | _ => none }
def AboveSortsWrongFalsely : Prop := aboveSortsRow.holds Try.pinned (OpenSpec.ofChange aboveSortsWrong)

/- THE SECOND FORM. 'bulk': how many values and letters a reading holds, each counted each time it is reached (what is shared counts as often as it is met; a slice's spare places count too). A statement '..UptoSaid' is the law's where the arguments, and the package variables that the reading takes, are together of bulk at most 1048576: NARROWER than '..Said'. Prove '..Said' where nothing that the law and all that it calls make is longer than what came in: it says more and counts as full. Else prove '..UptoSaid'. A law counts once. -/
mutual
def uptoBulk {H : Type} : DataW H → Nat
  | .lit (.string bytes) => bytes.length + 1
  | .lit _ => 1
  | .nil => 1
  | .ptr d => uptoBulk d + 1
  | .slice elems spare => uptoBulkAll elems + uptoBulkAll spare + 1
  | .agg parts => uptoBulkAll parts + 1
  | .iface _ d => uptoBulk d + 1
  | .map entries => uptoBulkEntries entries + 1
  | .held _ => 1
def uptoBulkAll {H : Type} : List (DataW H) → Nat
  | [] => 0
  | d :: r => uptoBulk d + uptoBulkAll r
def uptoBulkEntries {H : Type} : List (Lit × DataW H) → Nat
  | [] => 0
  | x :: r => uptoBulkEntry x + uptoBulkEntries r
def uptoBulkEntry {H : Type} : Lit × DataW H → Nat
  | (.string bytes, d) => bytes.length + uptoBulk d + 1
  | (_, d) => uptoBulk d + 1
 end
def uptoSmall : (H : Type) → List (DataW H) → Bool := fun _ ds => decide (uptoBulkAll ds ≤ 1048576)
def OpenSpec.upto (s : _root_.Go.ChangeSpec) : _root_.Go.OpenSpec := { _root_.Go.OpenSpec.ofChange s with cond := some uptoSmall }

/-- 'umpiragelaw7.ClaimNorms', WHERE WHAT IT READS IS OF BULK AT MOST 1048576: true; the input reads as it did. -/
def claimNormsUptoRow : OpenClaim := { program := "yteekoclfpehnpaa", sum := "b84350ce172b1d53e899d7075ec53a6140e2124237a19f7cf177f7d62d82ab31", func := "umpirage/umpiragelaw7.ClaimNorms", spec := "claimNorms", unfollowed := true, recurses := true, loops := true, plainKeys := false, apart := false, narrowed := true }
def ClaimNormsUptoSaid : Prop := claimNormsUptoRow.holds Try.pinned (OpenSpec.upto claimNormsSpec)

/-- 'umpiragelaw7.TableSays', WHERE WHAT IT READS IS OF BULK AT MOST 1048576: true; the input reads as it did. -/
def tableSaysUptoRow : OpenClaim := { program := "yteekoclfpehnpaa", sum := "b84350ce172b1d53e899d7075ec53a6140e2124237a19f7cf177f7d62d82ab31", func := "umpirage/umpiragelaw7.TableSays", spec := "tableSays", unfollowed := true, recurses := true, loops := true, plainKeys := false, apart := false, narrowed := true }
def TableSaysUptoSaid : Prop := tableSaysUptoRow.holds Try.pinned (OpenSpec.upto tableSaysSpec)

/-- 'umpiragelaw7.TableFewer', WHERE WHAT IT READS IS OF BULK AT MOST 1048576: true; the input reads as it did. -/
def tableFewerUptoRow : OpenClaim := { program := "yteekoclfpehnpaa", sum := "b84350ce172b1d53e899d7075ec53a6140e2124237a19f7cf177f7d62d82ab31", func := "umpirage/umpiragelaw7.TableFewer", spec := "tableFewer", unfollowed := true, recurses := true, loops := true, plainKeys := false, apart := false, narrowed := true }
def TableFewerUptoSaid : Prop := tableFewerUptoRow.holds Try.pinned (OpenSpec.upto tableFewerSpec)

/-- 'umpiragelaw7.TableWith', WHERE WHAT IT READS IS OF BULK AT MOST 1048576: true; the input reads as it did. -/
def tableWithUptoRow : OpenClaim := { program := "yteekoclfpehnpaa", sum := "b84350ce172b1d53e899d7075ec53a6140e2124237a19f7cf177f7d62d82ab31", func := "umpirage/umpiragelaw7.TableWith", spec := "tableWith", unfollowed := true, recurses := true, loops := true, plainKeys := false, apart := false, narrowed := true }
def TableWithUptoSaid : Prop := tableWithUptoRow.holds Try.pinned (OpenSpec.upto tableWithSpec)

/-- 'umpiragelaw7.TurnAdds', WHERE WHAT IT READS IS OF BULK AT MOST 1048576: true; the input reads as it did. -/
def turnAddsUptoRow : OpenClaim := { program := "yteekoclfpehnpaa", sum := "b84350ce172b1d53e899d7075ec53a6140e2124237a19f7cf177f7d62d82ab31", func := "umpirage/umpiragelaw7.TurnAdds", spec := "turnAdds", unfollowed := true, recurses := true, plainKeys := false, apart := false, narrowed := true }
def TurnAddsUptoSaid : Prop := turnAddsUptoRow.holds Try.pinned (OpenSpec.upto turnAddsSpec)

/-- 'umpiragelaw7.TurnSays', WHERE WHAT IT READS IS OF BULK AT MOST 1048576: true; the input reads as it did. -/
def turnSaysUptoRow : OpenClaim := { program := "yteekoclfpehnpaa", sum := "b84350ce172b1d53e899d7075ec53a6140e2124237a19f7cf177f7d62d82ab31", func := "umpirage/umpiragelaw7.TurnSays", spec := "turnSays", unfollowed := true, recurses := true, loops := true, plainKeys := false, apart := false, narrowed := true }
def TurnSaysUptoSaid : Prop := turnSaysUptoRow.holds Try.pinned (OpenSpec.upto turnSaysSpec)

/-- 'umpiragelaw7.TurnModel', WHERE WHAT IT READS IS OF BULK AT MOST 1048576: true; the input reads as it did. -/
def turnModelUptoRow : OpenClaim := { program := "yteekoclfpehnpaa", sum := "b84350ce172b1d53e899d7075ec53a6140e2124237a19f7cf177f7d62d82ab31", func := "umpirage/umpiragelaw7.TurnModel", spec := "turnModel", unfollowed := true, recurses := true, loops := true, plainKeys := false, apart := false, narrowed := true }
def TurnModelUptoSaid : Prop := turnModelUptoRow.holds Try.pinned (OpenSpec.upto turnModelSpec)

/-- 'umpiragelaw7.FindSays', WHERE WHAT IT READS IS OF BULK AT MOST 1048576: true; the input reads as it did. -/
def findSaysUptoRow : OpenClaim := { program := "yteekoclfpehnpaa", sum := "b84350ce172b1d53e899d7075ec53a6140e2124237a19f7cf177f7d62d82ab31", func := "umpirage/umpiragelaw7.FindSays", spec := "findSays", unfollowed := true, recurses := true, loops := true, plainKeys := false, apart := false, narrowed := true }
def FindSaysUptoSaid : Prop := findSaysUptoRow.holds Try.pinned (OpenSpec.upto findSaysSpec)

/-- 'umpiragelaw7.AboveSays', WHERE WHAT IT READS IS OF BULK AT MOST 1048576: true; the input reads as it did. -/
def aboveSaysUptoRow : OpenClaim := { program := "yteekoclfpehnpaa", sum := "b84350ce172b1d53e899d7075ec53a6140e2124237a19f7cf177f7d62d82ab31", func := "umpirage/umpiragelaw7.AboveSays", spec := "aboveSays", unfollowed := true, recurses := true, loops := true, plainKeys := false, apart := false, narrowed := true }
def AboveSaysUptoSaid : Prop := aboveSaysUptoRow.holds Try.pinned (OpenSpec.upto aboveSaysSpec)

/-- 'umpiragelaw7.AboveOrder', WHERE WHAT IT READS IS OF BULK AT MOST 1048576: true; the input reads as it did. -/
def aboveOrderUptoRow : OpenClaim := { program := "yteekoclfpehnpaa", sum := "b84350ce172b1d53e899d7075ec53a6140e2124237a19f7cf177f7d62d82ab31", func := "umpirage/umpiragelaw7.AboveOrder", spec := "aboveOrder", unfollowed := true, recurses := true, loops := true, plainKeys := false, apart := false, narrowed := true }
def AboveOrderUptoSaid : Prop := aboveOrderUptoRow.holds Try.pinned (OpenSpec.upto aboveOrderSpec)

/-- 'umpiragelaw7.AboveWith', WHERE WHAT IT READS IS OF BULK AT MOST 1048576: true; the input reads as it did. -/
def aboveWithUptoRow : OpenClaim := { program := "yteekoclfpehnpaa", sum := "b84350ce172b1d53e899d7075ec53a6140e2124237a19f7cf177f7d62d82ab31", func := "umpirage/umpiragelaw7.AboveWith", spec := "aboveWith", unfollowed := true, recurses := true, loops := true, plainKeys := false, apart := false, narrowed := true }
def AboveWithUptoSaid : Prop := aboveWithUptoRow.holds Try.pinned (OpenSpec.upto aboveWithSpec)

/-- 'umpiragelaw7.AboveSorts', WHERE WHAT IT READS IS OF BULK AT MOST 1048576: true; the input reads as it did. -/
def aboveSortsUptoRow : OpenClaim := { program := "yteekoclfpehnpaa", sum := "b84350ce172b1d53e899d7075ec53a6140e2124237a19f7cf177f7d62d82ab31", func := "umpirage/umpiragelaw7.AboveSorts", spec := "aboveSorts", unfollowed := true, recurses := true, loops := true, plainKeys := false, apart := false, narrowed := true }
def AboveSortsUptoSaid : Prop := aboveSortsUptoRow.holds Try.pinned (OpenSpec.upto aboveSortsSpec)

end Rows
end Go.Proofs.Yteekoclfpehnpaa
