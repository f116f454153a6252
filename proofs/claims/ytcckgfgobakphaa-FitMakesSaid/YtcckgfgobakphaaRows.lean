/-
  NARROWER THAN 'FOR EVERY INPUT', by the rows' own cells (each row's printed sentence says how): TreeBinds: loops · TreeTwice: loops · TreeSays: loops · TreeVars: loops · TreePlaces: loops · FitSays: loops · FitRow: loops · FitMakes: loops · UnifySays: loops · UnifyMakes: loops · UnifyGeneral: loops · UnifyTurned: loops.
  DERIVED. THE GIVEN ROWS OF THIS SEAT. 12 by the template 'for every input the law returns true; each argument reads behind the call as it read before'; 0 by the template 'total and deterministic' (their statements: YtcckgfgobakphaaTotals.lean).
  GIVEN WITH THE SEED: the statements are not yours to turn. If you find one false, say at which input.
  Laid BY PROGRAM, IN A SANDBOX (cutbox-rows.mjs): the forced cells as the released guide's own fill.sh prints them over the translation e7361c399d9dc944… (all of the seat's roots in one cut). By AI agents, Wed Nov 11 2026. No macro, syntax, notation, axiom, sorry.
-/
import Derived.Test.YtcckgfgobakphaaChecked
import GoSem.Claim
import GoSem.ClaimJoined
import GoSem.ClaimMapViews
import Derived.JoinedTies
import Derived.KernelRfl
namespace Go.Proofs.Ytcckgfgobakphaa
/- THE CELL 'sum', in the pinned program and in every row, IS THE sha256 OF THE DUMP (.gsa) THAT YtcckgfgobakphaaProg.lean LOADS. Nothing in Lean hashes anything: it is a label: what it is worth is what the hold of that sum in a sandbox is worth. -/
noncomputable def Try.pinned : Pinned := { name := "ytcckgfgobakphaa", sum := "e7361c399d9dc944a0dabb6f1bc94e7f0238cd372981b4e420fce1a006a3dd0b", checked := Try.checked }
namespace Rows
def none {H : Type} : Left H := { results := [], args := [] }

/-- 'umpiragelaw7.TreeBinds': WHATEVER THE INPUT: true; the input reads as it did. -/
def treeBindsSpec : ChangeSpec := { name := "treeBinds", fn := fun _ => fun
  | [d1, d2] => { results := [.lit (.bool true)], args := [d1, d2] }
  | _ => none }
def treeBindsRow : OpenClaim := { program := "ytcckgfgobakphaa", sum := "e7361c399d9dc944a0dabb6f1bc94e7f0238cd372981b4e420fce1a006a3dd0b", func := "umpirage/umpiragelaw7.TreeBinds", spec := "treeBinds", unfollowed := true, recurses := true, loops := true, apart := false }
def TreeBindsSaid : Prop := treeBindsRow.holds Try.pinned (OpenSpec.ofChange treeBindsSpec)

/-- ITS FALSE NEIGHBOUR: 'it returns false'. Refute it at one input. -/
def treeBindsWrong : ChangeSpec := { name := "treeBinds", fn := fun _ => fun
  | [d1, d2] => { results := [.lit (.bool false)], args := [d1, d2] }
  | _ => none }
def TreeBindsWrongFalsely : Prop := treeBindsRow.holds Try.pinned (OpenSpec.ofChange treeBindsWrong)

/-- 'umpiragelaw7.TreeTwice': WHATEVER THE INPUT: true; the input reads as it did. -/
def treeTwiceSpec : ChangeSpec := { name := "treeTwice", fn := fun _ => fun
  | [d1, d2, d3] => { results := [.lit (.bool true)], args := [d1, d2, d3] }
  | _ => none }
def treeTwiceRow : OpenClaim := { program := "ytcckgfgobakphaa", sum := "e7361c399d9dc944a0dabb6f1bc94e7f0238cd372981b4e420fce1a006a3dd0b", func := "umpirage/umpiragelaw7.TreeTwice", spec := "treeTwice", unfollowed := true, recurses := true, loops := true, apart := false }
def TreeTwiceSaid : Prop := treeTwiceRow.holds Try.pinned (OpenSpec.ofChange treeTwiceSpec)

/-- ITS FALSE NEIGHBOUR: 'it returns false'. Refute it at one input. -/
def treeTwiceWrong : ChangeSpec := { name := "treeTwice", fn := fun _ => fun
  | [d1, d2, d3] => { results := [.lit (.bool false)], args := [d1, d2, d3] }
  | _ => none }
def TreeTwiceWrongFalsely : Prop := treeTwiceRow.holds Try.pinned (OpenSpec.ofChange treeTwiceWrong)

/-- 'umpiragelaw7.TreeSays': WHATEVER THE INPUT: true; the input reads as it did. -/
def treeSaysSpec : ChangeSpec := { name := "treeSays", fn := fun _ => fun
  | [d1, d2, d3] => { results := [.lit (.bool true)], args := [d1, d2, d3] }
  | _ => none }
def treeSaysRow : OpenClaim := { program := "ytcckgfgobakphaa", sum := "e7361c399d9dc944a0dabb6f1bc94e7f0238cd372981b4e420fce1a006a3dd0b", func := "umpirage/umpiragelaw7.TreeSays", spec := "treeSays", unfollowed := true, recurses := true, loops := true, apart := false }
def TreeSaysSaid : Prop := treeSaysRow.holds Try.pinned (OpenSpec.ofChange treeSaysSpec)

/-- ITS FALSE NEIGHBOUR: 'it returns false'. Refute it at one input. -/
def treeSaysWrong : ChangeSpec := { name := "treeSays", fn := fun _ => fun
  | [d1, d2, d3] => { results := [.lit (.bool false)], args := [d1, d2, d3] }
  | _ => none }
def TreeSaysWrongFalsely : Prop := treeSaysRow.holds Try.pinned (OpenSpec.ofChange treeSaysWrong)

/-- 'umpiragelaw7.TreeVars': WHATEVER THE INPUT: true; the input reads as it did. -/
def treeVarsSpec : ChangeSpec := { name := "treeVars", fn := fun _ => fun
  | [d1, d2] => { results := [.lit (.bool true)], args := [d1, d2] }
  | _ => none }
def treeVarsRow : OpenClaim := { program := "ytcckgfgobakphaa", sum := "e7361c399d9dc944a0dabb6f1bc94e7f0238cd372981b4e420fce1a006a3dd0b", func := "umpirage/umpiragelaw7.TreeVars", spec := "treeVars", unfollowed := true, recurses := true, loops := true, apart := false }
def TreeVarsSaid : Prop := treeVarsRow.holds Try.pinned (OpenSpec.ofChange treeVarsSpec)

/-- ITS FALSE NEIGHBOUR: 'it returns false'. Refute it at one input. -/
def treeVarsWrong : ChangeSpec := { name := "treeVars", fn := fun _ => fun
  | [d1, d2] => { results := [.lit (.bool false)], args := [d1, d2] }
  | _ => none }
def TreeVarsWrongFalsely : Prop := treeVarsRow.holds Try.pinned (OpenSpec.ofChange treeVarsWrong)

/-- 'umpiragelaw7.TreePlaces': WHATEVER THE INPUT: true; the input reads as it did. -/
def treePlacesSpec : ChangeSpec := { name := "treePlaces", fn := fun _ => fun
  | [d1, d2, d3, d4] => { results := [.lit (.bool true)], args := [d1, d2, d3, d4] }
  | _ => none }
def treePlacesRow : OpenClaim := { program := "ytcckgfgobakphaa", sum := "e7361c399d9dc944a0dabb6f1bc94e7f0238cd372981b4e420fce1a006a3dd0b", func := "umpirage/umpiragelaw7.TreePlaces", spec := "treePlaces", unfollowed := true, recurses := true, loops := true, apart := false }
def TreePlacesSaid : Prop := treePlacesRow.holds Try.pinned (OpenSpec.ofChange treePlacesSpec)

/-- ITS FALSE NEIGHBOUR: 'it returns false'. Refute it at one input. -/
def treePlacesWrong : ChangeSpec := { name := "treePlaces", fn := fun _ => fun
  | [d1, d2, d3, d4] => { results := [.lit (.bool false)], args := [d1, d2, d3, d4] }
  | _ => none }
def TreePlacesWrongFalsely : Prop := treePlacesRow.holds Try.pinned (OpenSpec.ofChange treePlacesWrong)

/-- 'umpiragelaw7.FitSays': WHATEVER THE INPUT: true; the input reads as it did. -/
def fitSaysSpec : ChangeSpec := { name := "fitSays", fn := fun _ => fun
  | [d1, d2] => { results := [.lit (.bool true)], args := [d1, d2] }
  | _ => none }
def fitSaysRow : OpenClaim := { program := "ytcckgfgobakphaa", sum := "e7361c399d9dc944a0dabb6f1bc94e7f0238cd372981b4e420fce1a006a3dd0b", func := "umpirage/umpiragelaw7.FitSays", spec := "fitSays", unfollowed := true, recurses := true, loops := true, apart := false }
def FitSaysSaid : Prop := fitSaysRow.holds Try.pinned (OpenSpec.ofChange fitSaysSpec)

/-- ITS FALSE NEIGHBOUR: 'it returns false'. Refute it at one input. -/
def fitSaysWrong : ChangeSpec := { name := "fitSays", fn := fun _ => fun
  | [d1, d2] => { results := [.lit (.bool false)], args := [d1, d2] }
  | _ => none }
def FitSaysWrongFalsely : Prop := fitSaysRow.holds Try.pinned (OpenSpec.ofChange fitSaysWrong)

/-- 'umpiragelaw7.FitRow': WHATEVER THE INPUT: true; the input reads as it did. -/
def fitRowSpec : ChangeSpec := { name := "fitRow", fn := fun _ => fun
  | [d1, d2, d3] => { results := [.lit (.bool true)], args := [d1, d2, d3] }
  | _ => none }
def fitRowRow : OpenClaim := { program := "ytcckgfgobakphaa", sum := "e7361c399d9dc944a0dabb6f1bc94e7f0238cd372981b4e420fce1a006a3dd0b", func := "umpirage/umpiragelaw7.FitRow", spec := "fitRow", unfollowed := true, recurses := true, loops := true, apart := false }
def FitRowSaid : Prop := fitRowRow.holds Try.pinned (OpenSpec.ofChange fitRowSpec)

/-- ITS FALSE NEIGHBOUR: 'it returns false'. Refute it at one input. -/
def fitRowWrong : ChangeSpec := { name := "fitRow", fn := fun _ => fun
  | [d1, d2, d3] => { results := [.lit (.bool false)], args := [d1, d2, d3] }
  | _ => none }
def FitRowWrongFalsely : Prop := fitRowRow.holds Try.pinned (OpenSpec.ofChange fitRowWrong)

/-- 'umpiragelaw7.FitMakes': WHATEVER THE INPUT: true; the input reads as it did. -/
def fitMakesSpec : ChangeSpec := { name := "fitMakes", fn := fun _ => fun
  | [d1, d2, d3] => { results := [.lit (.bool true)], args := [d1, d2, d3] }
  | _ => none }
def fitMakesRow : OpenClaim := { program := "ytcckgfgobakphaa", sum := "e7361c399d9dc944a0dabb6f1bc94e7f0238cd372981b4e420fce1a006a3dd0b", func := "umpirage/umpiragelaw7.FitMakes", spec := "fitMakes", unfollowed := true, recurses := true, loops := true, apart := false }
def FitMakesSaid : Prop := fitMakesRow.holds Try.pinned (OpenSpec.ofChange fitMakesSpec)

/-- ITS FALSE NEIGHBOUR: 'it returns false'. Refute it at one input. -/
def fitMakesWrong : ChangeSpec := { name := "fitMakes", fn := fun _ => fun
  | [d1, d2, d3] => { results := [.lit (.bool false)], args := [d1, d2, d3] }
  | _ => none }
def FitMakesWrongFalsely : Prop := fitMakesRow.holds Try.pinned (OpenSpec.ofChange fitMakesWrong)

/-- 'umpiragelaw7.UnifySays': WHATEVER THE INPUT: true; the input reads as it did. -/
def unifySaysSpec : ChangeSpec := { name := "unifySays", fn := fun _ => fun
  | [d1, d2] => { results := [.lit (.bool true)], args := [d1, d2] }
  | _ => none }
def unifySaysRow : OpenClaim := { program := "ytcckgfgobakphaa", sum := "e7361c399d9dc944a0dabb6f1bc94e7f0238cd372981b4e420fce1a006a3dd0b", func := "umpirage/umpiragelaw7.UnifySays", spec := "unifySays", unfollowed := true, recurses := true, loops := true, apart := false }
def UnifySaysSaid : Prop := unifySaysRow.holds Try.pinned (OpenSpec.ofChange unifySaysSpec)

/-- ITS FALSE NEIGHBOUR: 'it returns false'. Refute it at one input. -/
def unifySaysWrong : ChangeSpec := { name := "unifySays", fn := fun _ => fun
  | [d1, d2] => { results := [.lit (.bool false)], args := [d1, d2] }
  | _ => none }
def UnifySaysWrongFalsely : Prop := unifySaysRow.holds Try.pinned (OpenSpec.ofChange unifySaysWrong)

/-- 'umpiragelaw7.UnifyMakes': WHATEVER THE INPUT: true; the input reads as it did. -/
def unifyMakesSpec : ChangeSpec := { name := "unifyMakes", fn := fun _ => fun
  | [d1, d2] => { results := [.lit (.bool true)], args := [d1, d2] }
  | _ => none }
def unifyMakesRow : OpenClaim := { program := "ytcckgfgobakphaa", sum := "e7361c399d9dc944a0dabb6f1bc94e7f0238cd372981b4e420fce1a006a3dd0b", func := "umpirage/umpiragelaw7.UnifyMakes", spec := "unifyMakes", unfollowed := true, recurses := true, loops := true, apart := false }
def UnifyMakesSaid : Prop := unifyMakesRow.holds Try.pinned (OpenSpec.ofChange unifyMakesSpec)

/-- ITS FALSE NEIGHBOUR: 'it returns false'. Refute it at one input. -/
def unifyMakesWrong : ChangeSpec := { name := "unifyMakes", fn := fun _ => fun
  | [d1, d2] => { results := [.lit (.bool false)], args := [d1, d2] }
  | _ => none }
def UnifyMakesWrongFalsely : Prop := unifyMakesRow.holds Try.pinned (OpenSpec.ofChange unifyMakesWrong)

/-- 'umpiragelaw7.UnifyGeneral': WHATEVER THE INPUT: true; the input reads as it did. -/
def unifyGeneralSpec : ChangeSpec := { name := "unifyGeneral", fn := fun _ => fun
  | [d1, d2, d3] => { results := [.lit (.bool true)], args := [d1, d2, d3] }
  | _ => none }
def unifyGeneralRow : OpenClaim := { program := "ytcckgfgobakphaa", sum := "e7361c399d9dc944a0dabb6f1bc94e7f0238cd372981b4e420fce1a006a3dd0b", func := "umpirage/umpiragelaw7.UnifyGeneral", spec := "unifyGeneral", unfollowed := true, recurses := true, loops := true, apart := false }
def UnifyGeneralSaid : Prop := unifyGeneralRow.holds Try.pinned (OpenSpec.ofChange unifyGeneralSpec)

/-- ITS FALSE NEIGHBOUR: 'it returns false'. Refute it at one input. -/
def unifyGeneralWrong : ChangeSpec := { name := "unifyGeneral", fn := fun _ => fun
  | [d1, d2, d3] => { results := [.lit (.bool false)], args := [d1, d2, d3] }
  | _ => none }
def UnifyGeneralWrongFalsely : Prop := unifyGeneralRow.holds Try.pinned (OpenSpec.ofChange unifyGeneralWrong)

/-- 'umpiragelaw7.UnifyTurned': WHATEVER THE INPUT: true; the input reads as it did. -/
def unifyTurnedSpec : ChangeSpec := { name := "unifyTurned", fn := fun _ => fun
  | [d1, d2] => { results := [.lit (.bool true)], args := [d1, d2] }
  | _ => none }
def unifyTurnedRow : OpenClaim := { program := "ytcckgfgobakphaa", sum := "e7361c399d9dc944a0dabb6f1bc94e7f0238cd372981b4e420fce1a006a3dd0b", func := "umpirage/umpiragelaw7.UnifyTurned", spec := "unifyTurned", unfollowed := true, recurses := true, loops := true, apart := false }
def UnifyTurnedSaid : Prop := unifyTurnedRow.holds Try.pinned (OpenSpec.ofChange unifyTurnedSpec)

/-- ITS FALSE NEIGHBOUR: 'it returns false'. Refute it at one input. -/
def unifyTurnedWrong : ChangeSpec := { name := "unifyTurned", fn := fun _ => fun
  | [d1, d2] => { results := [.lit (.bool false)], args := [d1, d2] }
  | _ => none }
def UnifyTurnedWrongFalsely : Prop := unifyTurnedRow.holds Try.pinned (OpenSpec.ofChange unifyTurnedWrong)

/- THE SECOND FORM. 'bulk': how many values and letters a reading holds, each counted each time it is reached (what is shared counts as often as it is met; a slice's spare places count too). A statement '..UptoSaid' is the law's where the arguments, and the package variables that the reading takes, are together of bulk at most 1048576: NARROWER than '..Said'. Prove '..Said' where nothing that the law and all that it calls make is longer than what came in: it says more and counts as full. Else prove '..UptoSaid'. A law counts once. -/
mutual
def uptoBulk {H : Type} : DataW H → Nat
  | .lit (.string bytes) => bytes.length + 1
  | .lit _ => 1
  | .nil => 1
  | .ptr d => uptoBulk d + 1
  | .slice elems spare => uptoBulkAll elems + uptoBulkAll spare + 1
  | .agg parts => uptoBulkAll parts + 1
  | .iface _ d => uptoBulk d + 1
  | .map entries => uptoBulkEntries entries + 1
  | .held _ => 1
def uptoBulkAll {H : Type} : List (DataW H) → Nat
  | [] => 0
  | d :: r => uptoBulk d + uptoBulkAll r
def uptoBulkEntries {H : Type} : List (Lit × DataW H) → Nat
  | [] => 0
  | x :: r => uptoBulkEntry x + uptoBulkEntries r
def uptoBulkEntry {H : Type} : Lit × DataW H → Nat
  | (.string bytes, d) => bytes.length + uptoBulk d + 1
  | (_, d) => uptoBulk d + 1
 end
def uptoSmall : (H : Type) → List (DataW H) → Bool := fun _ ds => decide (uptoBulkAll ds ≤ 1048576)
def OpenSpec.upto (s : _root_.Go.ChangeSpec) : _root_.Go.OpenSpec := { _root_.Go.OpenSpec.ofChange s with cond := some uptoSmall }

/-- 'umpiragelaw7.TreeBinds', WHERE WHAT IT READS IS OF BULK AT MOST 1048576: true; the input reads as it did. -/
def treeBindsUptoRow : OpenClaim := { program := "ytcckgfgobakphaa", sum := "e7361c399d9dc944a0dabb6f1bc94e7f0238cd372981b4e420fce1a006a3dd0b", func := "umpirage/umpiragelaw7.TreeBinds", spec := "treeBinds", unfollowed := true, recurses := true, loops := true, apart := false, narrowed := true }
def TreeBindsUptoSaid : Prop := treeBindsUptoRow.holds Try.pinned (OpenSpec.upto treeBindsSpec)

/-- 'umpiragelaw7.TreeTwice', WHERE WHAT IT READS IS OF BULK AT MOST 1048576: true; the input reads as it did. -/
def treeTwiceUptoRow : OpenClaim := { program := "ytcckgfgobakphaa", sum := "e7361c399d9dc944a0dabb6f1bc94e7f0238cd372981b4e420fce1a006a3dd0b", func := "umpirage/umpiragelaw7.TreeTwice", spec := "treeTwice", unfollowed := true, recurses := true, loops := true, apart := false, narrowed := true }
def TreeTwiceUptoSaid : Prop := treeTwiceUptoRow.holds Try.pinned (OpenSpec.upto treeTwiceSpec)

/-- 'umpiragelaw7.TreeSays', WHERE WHAT IT READS IS OF BULK AT MOST 1048576: true; the input reads as it did. -/
def treeSaysUptoRow : OpenClaim := { program := "ytcckgfgobakphaa", sum := "e7361c399d9dc944a0dabb6f1bc94e7f0238cd372981b4e420fce1a006a3dd0b", func := "umpirage/umpiragelaw7.TreeSays", spec := "treeSays", unfollowed := true, recurses := true, loops := true, apart := false, narrowed := true }
def TreeSaysUptoSaid : Prop := treeSaysUptoRow.holds Try.pinned (OpenSpec.upto treeSaysSpec)

/-- 'umpiragelaw7.TreeVars', WHERE WHAT IT READS IS OF BULK AT MOST 1048576: true; the input reads as it did. -/
def treeVarsUptoRow : OpenClaim := { program := "ytcckgfgobakphaa", sum := "e7361c399d9dc944a0dabb6f1bc94e7f0238cd372981b4e420fce1a006a3dd0b", func := "umpirage/umpiragelaw7.TreeVars", spec := "treeVars", unfollowed := true, recurses := true, loops := true, apart := false, narrowed := true }
def TreeVarsUptoSaid : Prop := treeVarsUptoRow.holds Try.pinned (OpenSpec.upto treeVarsSpec)

/-- 'umpiragelaw7.TreePlaces', WHERE WHAT IT READS IS OF BULK AT MOST 1048576: true; the input reads as it did. -/
def treePlacesUptoRow : OpenClaim := { program := "ytcckgfgobakphaa", sum := "e7361c399d9dc944a0dabb6f1bc94e7f0238cd372981b4e420fce1a006a3dd0b", func := "umpirage/umpiragelaw7.TreePlaces", spec := "treePlaces", unfollowed := true, recurses := true, loops := true, apart := false, narrowed := true }
def TreePlacesUptoSaid : Prop := treePlacesUptoRow.holds Try.pinned (OpenSpec.upto treePlacesSpec)

/-- 'umpiragelaw7.FitSays', WHERE WHAT IT READS IS OF BULK AT MOST 1048576: true; the input reads as it did. -/
def fitSaysUptoRow : OpenClaim := { program := "ytcckgfgobakphaa", sum := "e7361c399d9dc944a0dabb6f1bc94e7f0238cd372981b4e420fce1a006a3dd0b", func := "umpirage/umpiragelaw7.FitSays", spec := "fitSays", unfollowed := true, recurses := true, loops := true, apart := false, narrowed := true }
def FitSaysUptoSaid : Prop := fitSaysUptoRow.holds Try.pinned (OpenSpec.upto fitSaysSpec)

/-- 'umpiragelaw7.FitRow', WHERE WHAT IT READS IS OF BULK AT MOST 1048576: true; the input reads as it did. -/
def fitRowUptoRow : OpenClaim := { program := "ytcckgfgobakphaa", sum := "e7361c399d9dc944a0dabb6f1bc94e7f0238cd372981b4e420fce1a006a3dd0b", func := "umpirage/umpiragelaw7.FitRow", spec := "fitRow", unfollowed := true, recurses := true, loops := true, apart := false, narrowed := true }
def FitRowUptoSaid : Prop := fitRowUptoRow.holds Try.pinned (OpenSpec.upto fitRowSpec)

/-- 'umpiragelaw7.FitMakes', WHERE WHAT IT READS IS OF BULK AT MOST 1048576: true; the input reads as it did. -/
def fitMakesUptoRow : OpenClaim := { program := "ytcckgfgobakphaa", sum := "e7361c399d9dc944a0dabb6f1bc94e7f0238cd372981b4e420fce1a006a3dd0b", func := "umpirage/umpiragelaw7.FitMakes", spec := "fitMakes", unfollowed := true, recurses := true, loops := true, apart := false, narrowed := true }
def FitMakesUptoSaid : Prop := fitMakesUptoRow.holds Try.pinned (OpenSpec.upto fitMakesSpec)

/-- 'umpiragelaw7.UnifySays', WHERE WHAT IT READS IS OF BULK AT MOST 1048576: true; the input reads as it did. -/
def unifySaysUptoRow : OpenClaim := { program := "ytcckgfgobakphaa", sum := "e7361c399d9dc944a0dabb6f1bc94e7f0238cd372981b4e420fce1a006a3dd0b", func := "umpirage/umpiragelaw7.UnifySays", spec := "unifySays", unfollowed := true, recurses := true, loops := true, apart := false, narrowed := true }
def UnifySaysUptoSaid : Prop := unifySaysUptoRow.holds Try.pinned (OpenSpec.upto unifySaysSpec)

/-- 'umpiragelaw7.UnifyMakes', WHERE WHAT IT READS IS OF BULK AT MOST 1048576: true; the input reads as it did. -/
def unifyMakesUptoRow : OpenClaim := { program := "ytcckgfgobakphaa", sum := "e7361c399d9dc944a0dabb6f1bc94e7f0238cd372981b4e420fce1a006a3dd0b", func := "umpirage/umpiragelaw7.UnifyMakes", spec := "unifyMakes", unfollowed := true, recurses := true, loops := true, apart := false, narrowed := true }
def UnifyMakesUptoSaid : Prop := unifyMakesUptoRow.holds Try.pinned (OpenSpec.upto unifyMakesSpec)

/-- 'umpiragelaw7.UnifyGeneral', WHERE WHAT IT READS IS OF BULK AT MOST 1048576: true; the input reads as it did. -/
def unifyGeneralUptoRow : OpenClaim := { program := "ytcckgfgobakphaa", sum := "e7361c399d9dc944a0dabb6f1bc94e7f0238cd372981b4e420fce1a006a3dd0b", func := "umpirage/umpiragelaw7.UnifyGeneral", spec := "unifyGeneral", unfollowed := true, recurses := true, loops := true, apart := false, narrowed := true }
def UnifyGeneralUptoSaid : Prop := unifyGeneralUptoRow.holds Try.pinned (OpenSpec.upto unifyGeneralSpec)

/-- 'umpiragelaw7.UnifyTurned', WHERE WHAT IT READS IS OF BULK AT MOST 1048576: true; the input reads as it did. -/
def unifyTurnedUptoRow : OpenClaim := { program := "ytcckgfgobakphaa", sum := "e7361c399d9dc944a0dabb6f1bc94e7f0238cd372981b4e420fce1a006a3dd0b", func := "umpirage/umpiragelaw7.UnifyTurned", spec := "unifyTurned", unfollowed := true, recurses := true, loops := true, apart := false, narrowed := true }
def UnifyTurnedUptoSaid : Prop := unifyTurnedUptoRow.holds Try.pinned (OpenSpec.upto unifyTurnedSpec)

end Rows
end Go.Proofs.Ytcckgfgobakphaa
