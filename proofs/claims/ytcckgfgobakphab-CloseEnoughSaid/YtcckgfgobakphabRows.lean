/-
  No cell of these rows narrows 'for every input' (looked for: loops, veiled, ifaces, maps, wideKeys, modest, calm, conditions, laid).
  DERIVED. THE GIVEN ROWS OF THIS SEAT. 6 by the template 'for every input the law returns true; each argument reads behind the call as it read before'; 0 by the template 'total and deterministic' (their statements: YtcckgfgobakphabTotals.lean).
  GIVEN WITH THE SEED: the statements are not yours to turn. If you find one false, say at which input.
  Laid BY PROGRAM, IN A SANDBOX (cutbox-rows.mjs): the forced cells as the released guide's own fill.sh prints them over the translation 33b7d409916b6baf… (all of the seat's roots in one cut). By AI agents, Wed Nov 11 2026. No macro, syntax, notation, axiom, sorry.
-/
import Derived.Test.YtcckgfgobakphabChecked
import GoSem.Claim
import GoSem.ClaimJoined
import GoSem.ClaimMapViews
import Derived.JoinedTies
import Derived.KernelRfl
namespace Go.Proofs.Ytcckgfgobakphab
/- THE CELL 'sum', in the pinned program and in every row, IS THE sha256 OF THE DUMP (.gsa) THAT YtcckgfgobakphabProg.lean LOADS. Nothing in Lean hashes anything: it is a label: what it is worth is what the hold of that sum in a sandbox is worth. -/
noncomputable def Try.pinned : Pinned := { name := "ytcckgfgobakphab", sum := "33b7d409916b6baf65e63e0df2c4b648c646c6b619d9b6619635546b3bda2bfe", checked := Try.checked }
namespace Rows
def none {H : Type} : Left H := { results := [], args := [] }

/-- 'umpiragelaw7.CloseSays': WHATEVER THE INPUT: true; the input reads as it did. -/
def closeSaysSpec : ChangeSpec := { name := "closeSays", fn := fun _ => fun
  | [d1, d2, d3] => { results := [.lit (.bool true)], args := [d1, d2, d3] }
  | _ => none }
def closeSaysRow : OpenClaim := { program := "ytcckgfgobakphab", sum := "33b7d409916b6baf65e63e0df2c4b648c646c6b619d9b6619635546b3bda2bfe", func := "umpirage/umpiragelaw7.CloseSays", spec := "closeSays", unfollowed := true, recurses := true, apart := false }
def CloseSaysSaid : Prop := closeSaysRow.holds Try.pinned (OpenSpec.ofChange closeSaysSpec)

/-- ITS FALSE NEIGHBOUR: 'it returns false'. Refute it at one input. -/
def closeSaysWrong : ChangeSpec := { name := "closeSays", fn := fun _ => fun
  | [d1, d2, d3] => { results := [.lit (.bool false)], args := [d1, d2, d3] }
  | _ => none }
def CloseSaysWrongFalsely : Prop := closeSaysRow.holds Try.pinned (OpenSpec.ofChange closeSaysWrong)

/-- 'umpiragelaw7.CloseWhy': WHATEVER THE INPUT: true; the input reads as it did. -/
def closeWhySpec : ChangeSpec := { name := "closeWhy", fn := fun _ => fun
  | [d1, d2, d3, d4] => { results := [.lit (.bool true)], args := [d1, d2, d3, d4] }
  | _ => none }
def closeWhyRow : OpenClaim := { program := "ytcckgfgobakphab", sum := "33b7d409916b6baf65e63e0df2c4b648c646c6b619d9b6619635546b3bda2bfe", func := "umpirage/umpiragelaw7.CloseWhy", spec := "closeWhy", unfollowed := true, recurses := true, apart := false }
def CloseWhySaid : Prop := closeWhyRow.holds Try.pinned (OpenSpec.ofChange closeWhySpec)

/-- ITS FALSE NEIGHBOUR: 'it returns false'. Refute it at one input. -/
def closeWhyWrong : ChangeSpec := { name := "closeWhy", fn := fun _ => fun
  | [d1, d2, d3, d4] => { results := [.lit (.bool false)], args := [d1, d2, d3, d4] }
  | _ => none }
def CloseWhyWrongFalsely : Prop := closeWhyRow.holds Try.pinned (OpenSpec.ofChange closeWhyWrong)

/-- 'umpiragelaw7.CloseEnough': WHATEVER THE INPUT: true; the input reads as it did. -/
def closeEnoughSpec : ChangeSpec := { name := "closeEnough", fn := fun _ => fun
  | [d1, d2, d3, d4] => { results := [.lit (.bool true)], args := [d1, d2, d3, d4] }
  | _ => none }
def closeEnoughRow : OpenClaim := { program := "ytcckgfgobakphab", sum := "33b7d409916b6baf65e63e0df2c4b648c646c6b619d9b6619635546b3bda2bfe", func := "umpirage/umpiragelaw7.CloseEnough", spec := "closeEnough", unfollowed := true, recurses := true, apart := false }
def CloseEnoughSaid : Prop := closeEnoughRow.holds Try.pinned (OpenSpec.ofChange closeEnoughSpec)

/-- ITS FALSE NEIGHBOUR: 'it returns false'. Refute it at one input. -/
def closeEnoughWrong : ChangeSpec := { name := "closeEnough", fn := fun _ => fun
  | [d1, d2, d3, d4] => { results := [.lit (.bool false)], args := [d1, d2, d3, d4] }
  | _ => none }
def CloseEnoughWrongFalsely : Prop := closeEnoughRow.holds Try.pinned (OpenSpec.ofChange closeEnoughWrong)

/-- 'umpiragelaw7.CloseSound': WHATEVER THE INPUT: true; the input reads as it did. -/
def closeSoundSpec : ChangeSpec := { name := "closeSound", fn := fun _ => fun
  | [d1, d2, d3] => { results := [.lit (.bool true)], args := [d1, d2, d3] }
  | _ => none }
def closeSoundRow : OpenClaim := { program := "ytcckgfgobakphab", sum := "33b7d409916b6baf65e63e0df2c4b648c646c6b619d9b6619635546b3bda2bfe", func := "umpirage/umpiragelaw7.CloseSound", spec := "closeSound", unfollowed := true, recurses := true, apart := false }
def CloseSoundSaid : Prop := closeSoundRow.holds Try.pinned (OpenSpec.ofChange closeSoundSpec)

/-- ITS FALSE NEIGHBOUR: 'it returns false'. Refute it at one input. -/
def closeSoundWrong : ChangeSpec := { name := "closeSound", fn := fun _ => fun
  | [d1, d2, d3] => { results := [.lit (.bool false)], args := [d1, d2, d3] }
  | _ => none }
def CloseSoundWrongFalsely : Prop := closeSoundRow.holds Try.pinned (OpenSpec.ofChange closeSoundWrong)

/-- 'umpiragelaw7.CloseModel': WHATEVER THE INPUT: true; the input reads as it did. -/
def closeModelSpec : ChangeSpec := { name := "closeModel", fn := fun _ => fun
  | [d1, d2] => { results := [.lit (.bool true)], args := [d1, d2] }
  | _ => none }
def closeModelRow : OpenClaim := { program := "ytcckgfgobakphab", sum := "33b7d409916b6baf65e63e0df2c4b648c646c6b619d9b6619635546b3bda2bfe", func := "umpirage/umpiragelaw7.CloseModel", spec := "closeModel", unfollowed := true, recurses := true, apart := false }
def CloseModelSaid : Prop := closeModelRow.holds Try.pinned (OpenSpec.ofChange closeModelSpec)

/-- ITS FALSE NEIGHBOUR: 'it returns false'. Refute it at one input. -/
def closeModelWrong : ChangeSpec := { name := "closeModel", fn := fun _ => fun
  | [d1, d2] => { results := [.lit (.bool false)], args := [d1, d2] }
  | _ => none }
def CloseModelWrongFalsely : Prop := closeModelRow.holds Try.pinned (OpenSpec.ofChange closeModelWrong)

/-- 'umpiragelaw7.CloseMore': WHATEVER THE INPUT: true; the input reads as it did. -/
def closeMoreSpec : ChangeSpec := { name := "closeMore", fn := fun _ => fun
  | [d1, d2, d3, d4] => { results := [.lit (.bool true)], args := [d1, d2, d3, d4] }
  | _ => none }
def closeMoreRow : OpenClaim := { program := "ytcckgfgobakphab", sum := "33b7d409916b6baf65e63e0df2c4b648c646c6b619d9b6619635546b3bda2bfe", func := "umpirage/umpiragelaw7.CloseMore", spec := "closeMore", unfollowed := true, recurses := true, apart := false }
def CloseMoreSaid : Prop := closeMoreRow.holds Try.pinned (OpenSpec.ofChange closeMoreSpec)

/-- ITS FALSE NEIGHBOUR: 'it returns false'. Refute it at one input. -/
def closeMoreWrong : ChangeSpec := { name := "closeMore", fn := fun _ => fun
  | [d1, d2, d3, d4] => { results := [.lit (.bool false)], args := [d1, d2, d3, d4] }
  | _ => none }
def CloseMoreWrongFalsely : Prop := closeMoreRow.holds Try.pinned (OpenSpec.ofChange closeMoreWrong)

/- THE SECOND FORM. 'bulk': how many values and letters a reading holds, each counted each time it is reached (what is shared counts as often as it is met; a slice's spare places count too). A statement '..UptoSaid' is the law's where the arguments, and the package variables that the reading takes, are together of bulk at most 1048576: NARROWER than '..Said'. Prove '..Said' where nothing that the law and all that it calls make is longer than what came in: it says more and counts as full. Else prove '..UptoSaid'. A law counts once. -/
mutual
def uptoBulk {H : Type} : DataW H → Nat
  | .lit (.string bytes) => bytes.length + 1
  | .lit _ => 1
  | .nil => 1
  | .ptr d => uptoBulk d + 1
  | .slice elems spare => uptoBulkAll elems + uptoBulkAll spare + 1
  | .agg parts => uptoBulkAll parts + 1
  | .iface _ d => uptoBulk d + 1
  | .map entries => uptoBulkEntries entries + 1
  | .held _ => 1
def uptoBulkAll {H : Type} : List (DataW H) → Nat
  | [] => 0
  | d :: r => uptoBulk d + uptoBulkAll r
def uptoBulkEntries {H : Type} : List (Lit × DataW H) → Nat
  | [] => 0
  | x :: r => uptoBulkEntry x + uptoBulkEntries r
def uptoBulkEntry {H : Type} : Lit × DataW H → Nat
  | (.string bytes, d) => bytes.length + uptoBulk d + 1
  | (_, d) => uptoBulk d + 1
 end
def uptoSmall : (H : Type) → List (DataW H) → Bool := fun _ ds => decide (uptoBulkAll ds ≤ 1048576)
def OpenSpec.upto (s : _root_.Go.ChangeSpec) : _root_.Go.OpenSpec := { _root_.Go.OpenSpec.ofChange s with cond := some uptoSmall }

/-- 'umpiragelaw7.CloseSays', WHERE WHAT IT READS IS OF BULK AT MOST 1048576: true; the input reads as it did. -/
def closeSaysUptoRow : OpenClaim := { program := "ytcckgfgobakphab", sum := "33b7d409916b6baf65e63e0df2c4b648c646c6b619d9b6619635546b3bda2bfe", func := "umpirage/umpiragelaw7.CloseSays", spec := "closeSays", unfollowed := true, recurses := true, apart := false, narrowed := true }
def CloseSaysUptoSaid : Prop := closeSaysUptoRow.holds Try.pinned (OpenSpec.upto closeSaysSpec)

/-- 'umpiragelaw7.CloseWhy', WHERE WHAT IT READS IS OF BULK AT MOST 1048576: true; the input reads as it did. -/
def closeWhyUptoRow : OpenClaim := { program := "ytcckgfgobakphab", sum := "33b7d409916b6baf65e63e0df2c4b648c646c6b619d9b6619635546b3bda2bfe", func := "umpirage/umpiragelaw7.CloseWhy", spec := "closeWhy", unfollowed := true, recurses := true, apart := false, narrowed := true }
def CloseWhyUptoSaid : Prop := closeWhyUptoRow.holds Try.pinned (OpenSpec.upto closeWhySpec)

/-- 'umpiragelaw7.CloseEnough', WHERE WHAT IT READS IS OF BULK AT MOST 1048576: true; the input reads as it did. -/
def closeEnoughUptoRow : OpenClaim := { program := "ytcckgfgobakphab", sum := "33b7d409916b6baf65e63e0df2c4b648c646c6b619d9b6619635546b3bda2bfe", func := "umpirage/umpiragelaw7.CloseEnough", spec := "closeEnough", unfollowed := true, recurses := true, apart := false, narrowed := true }
def CloseEnoughUptoSaid : Prop := closeEnoughUptoRow.holds Try.pinned (OpenSpec.upto closeEnoughSpec)

/-- 'umpiragelaw7.CloseSound', WHERE WHAT IT READS IS OF BULK AT MOST 1048576: true; the input reads as it did. -/
def closeSoundUptoRow : OpenClaim := { program := "ytcckgfgobakphab", sum := "33b7d409916b6baf65e63e0df2c4b648c646c6b619d9b6619635546b3bda2bfe", func := "umpirage/umpiragelaw7.CloseSound", spec := "closeSound", unfollowed := true, recurses := true, apart := false, narrowed := true }
def CloseSoundUptoSaid : Prop := closeSoundUptoRow.holds Try.pinned (OpenSpec.upto closeSoundSpec)

/-- 'umpiragelaw7.CloseModel', WHERE WHAT IT READS IS OF BULK AT MOST 1048576: true; the input reads as it did. -/
def closeModelUptoRow : OpenClaim := { program := "ytcckgfgobakphab", sum := "33b7d409916b6baf65e63e0df2c4b648c646c6b619d9b6619635546b3bda2bfe", func := "umpirage/umpiragelaw7.CloseModel", spec := "closeModel", unfollowed := true, recurses := true, apart := false, narrowed := true }
def CloseModelUptoSaid : Prop := closeModelUptoRow.holds Try.pinned (OpenSpec.upto closeModelSpec)

/-- 'umpiragelaw7.CloseMore', WHERE WHAT IT READS IS OF BULK AT MOST 1048576: true; the input reads as it did. -/
def closeMoreUptoRow : OpenClaim := { program := "ytcckgfgobakphab", sum := "33b7d409916b6baf65e63e0df2c4b648c646c6b619d9b6619635546b3bda2bfe", func := "umpirage/umpiragelaw7.CloseMore", spec := "closeMore", unfollowed := true, recurses := true, apart := false, narrowed := true }
def CloseMoreUptoSaid : Prop := closeMoreUptoRow.holds Try.pinned (OpenSpec.upto closeMoreSpec)

end Rows
end Go.Proofs.Ytcckgfgobakphab
