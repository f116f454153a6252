/-
  NARROWER THAN 'FOR EVERY INPUT', by the rows' own cells (each row's printed sentence says how): TraceSays: loops · TraceParts: loops · TraceHolds: loops · PatSays: loops · PatHolds: loops · UnifySays: loops · UnifyMakes: loops · UnifyGeneral: loops · UnifyTurned: loops · IndexSays: loops · IndexMeets: loops · TurnPairs: loops.
  DERIVED. THE GIVEN ROWS OF THIS SEAT. 12 by the template 'for every input the law returns true; each argument reads behind the call as it read before'; 0 by the template 'total and deterministic' (their statements: YtlhnfdjidjgfgaaTotals.lean).
  GIVEN WITH THE SEED: the statements are not yours to turn. If you find one false, say at which input.
  Laid BY PROGRAM, IN A SANDBOX (cutbox-rows.mjs): the forced cells as the released guide's own fill.sh prints them over the translation 6c8fb2ad4babd2bd… (all of the seat's roots in one cut). By AI agents, Wed Nov 11 2026. No macro, syntax, notation, axiom, sorry.
-/
import Derived.Test.YtlhnfdjidjgfgaaChecked
import GoSem.Claim
import GoSem.ClaimJoined
import GoSem.ClaimMapViews
import Derived.JoinedTies
import Derived.KernelRfl
namespace Go.Proofs.Ytlhnfdjidjgfgaa
/- THE CELL 'sum', in the pinned program and in every row, IS THE sha256 OF THE DUMP (.gsa) THAT YtlhnfdjidjgfgaaProg.lean LOADS. Nothing in Lean hashes anything: it is a label: what it is worth is what the hold of that sum in a sandbox is worth. -/
noncomputable def Try.pinned : Pinned := { name := "ytlhnfdjidjgfgaa", sum := "6c8fb2ad4babd2bd86bcf9c6ccfe513bd526db9d3dc6b7855f801c68210eed32", checked := Try.checked }
namespace Rows
def none {H : Type} : Left H := { results := [], args := [] }

/-- 'umpiragelaw7.TraceSays': WHATEVER THE INPUT: true; the input reads as it did. -/
def traceSaysSpec : ChangeSpec := { name := "traceSays", fn := fun _ => fun
  | [d1, d2] => { results := [.lit (.bool true)], args := [d1, d2] }
  | _ => none }
def traceSaysRow : OpenClaim := { program := "ytlhnfdjidjgfgaa", sum := "6c8fb2ad4babd2bd86bcf9c6ccfe513bd526db9d3dc6b7855f801c68210eed32", func := "umpirage/umpiragelaw7.TraceSays", spec := "traceSays", unfollowed := true, recurses := true, loops := true, apart := false }
def TraceSaysSaid : Prop := traceSaysRow.holds Try.pinned (OpenSpec.ofChange traceSaysSpec)

/-- ITS FALSE NEIGHBOUR: 'it returns false'. Refute it at one input. -/
def traceSaysWrong : ChangeSpec := { name := "traceSays", fn := fun _ => fun
  | [d1, d2] => { results := [.lit (.bool false)], args := [d1, d2] }
  | _ => none }
def TraceSaysWrongFalsely : Prop := traceSaysRow.holds Try.pinned (OpenSpec.ofChange traceSaysWrong)

/-- 'umpiragelaw7.TraceParts': WHATEVER THE INPUT: true; the input reads as it did. -/
def tracePartsSpec : ChangeSpec := { name := "traceParts", fn := fun _ => fun
  | [d1, d2, d3] => { results := [.lit (.bool true)], args := [d1, d2, d3] }
  | _ => none }
def tracePartsRow : OpenClaim := { program := "ytlhnfdjidjgfgaa", sum := "6c8fb2ad4babd2bd86bcf9c6ccfe513bd526db9d3dc6b7855f801c68210eed32", func := "umpirage/umpiragelaw7.TraceParts", spec := "traceParts", unfollowed := true, recurses := true, loops := true, apart := false }
def TracePartsSaid : Prop := tracePartsRow.holds Try.pinned (OpenSpec.ofChange tracePartsSpec)

/-- ITS FALSE NEIGHBOUR: 'it returns false'. Refute it at one input. -/
def tracePartsWrong : ChangeSpec := { name := "traceParts", fn := fun _ => fun
  | [d1, d2, d3] => { results := [.lit (.bool false)], args := [d1, d2, d3] }
  | _ => none }
def TracePartsWrongFalsely : Prop := tracePartsRow.holds Try.pinned (OpenSpec.ofChange tracePartsWrong)

/-- 'umpiragelaw7.TraceHolds': WHATEVER THE INPUT: true; the input reads as it did. -/
def traceHoldsSpec : ChangeSpec := { name := "traceHolds", fn := fun _ => fun
  | [d1, d2, d3] => { results := [.lit (.bool true)], args := [d1, d2, d3] }
  | _ => none }
def traceHoldsRow : OpenClaim := { program := "ytlhnfdjidjgfgaa", sum := "6c8fb2ad4babd2bd86bcf9c6ccfe513bd526db9d3dc6b7855f801c68210eed32", func := "umpirage/umpiragelaw7.TraceHolds", spec := "traceHolds", unfollowed := true, recurses := true, loops := true, apart := false }
def TraceHoldsSaid : Prop := traceHoldsRow.holds Try.pinned (OpenSpec.ofChange traceHoldsSpec)

/-- ITS FALSE NEIGHBOUR: 'it returns false'. Refute it at one input. -/
def traceHoldsWrong : ChangeSpec := { name := "traceHolds", fn := fun _ => fun
  | [d1, d2, d3] => { results := [.lit (.bool false)], args := [d1, d2, d3] }
  | _ => none }
def TraceHoldsWrongFalsely : Prop := traceHoldsRow.holds Try.pinned (OpenSpec.ofChange traceHoldsWrong)

/-- 'umpiragelaw7.PatSays': WHATEVER THE INPUT: true; the input reads as it did. -/
def patSaysSpec : ChangeSpec := { name := "patSays", fn := fun _ => fun
  | [d1, d2] => { results := [.lit (.bool true)], args := [d1, d2] }
  | _ => none }
def patSaysRow : OpenClaim := { program := "ytlhnfdjidjgfgaa", sum := "6c8fb2ad4babd2bd86bcf9c6ccfe513bd526db9d3dc6b7855f801c68210eed32", func := "umpirage/umpiragelaw7.PatSays", spec := "patSays", unfollowed := true, recurses := true, loops := true, apart := false }
def PatSaysSaid : Prop := patSaysRow.holds Try.pinned (OpenSpec.ofChange patSaysSpec)

/-- ITS FALSE NEIGHBOUR: 'it returns false'. Refute it at one input. -/
def patSaysWrong : ChangeSpec := { name := "patSays", fn := fun _ => fun
  | [d1, d2] => { results := [.lit (.bool false)], args := [d1, d2] }
  | _ => none }
def PatSaysWrongFalsely : Prop := patSaysRow.holds Try.pinned (OpenSpec.ofChange patSaysWrong)

/-- 'umpiragelaw7.PatHolds': WHATEVER THE INPUT: true; the input reads as it did. -/
def patHoldsSpec : ChangeSpec := { name := "patHolds", fn := fun _ => fun
  | [d1, d2, d3] => { results := [.lit (.bool true)], args := [d1, d2, d3] }
  | _ => none }
def patHoldsRow : OpenClaim := { program := "ytlhnfdjidjgfgaa", sum := "6c8fb2ad4babd2bd86bcf9c6ccfe513bd526db9d3dc6b7855f801c68210eed32", func := "umpirage/umpiragelaw7.PatHolds", spec := "patHolds", unfollowed := true, recurses := true, loops := true, apart := false }
def PatHoldsSaid : Prop := patHoldsRow.holds Try.pinned (OpenSpec.ofChange patHoldsSpec)

/-- ITS FALSE NEIGHBOUR: 'it returns false'. Refute it at one input. -/
def patHoldsWrong : ChangeSpec := { name := "patHolds", fn := fun _ => fun
  | [d1, d2, d3] => { results := [.lit (.bool false)], args := [d1, d2, d3] }
  | _ => none }
def PatHoldsWrongFalsely : Prop := patHoldsRow.holds Try.pinned (OpenSpec.ofChange patHoldsWrong)

/-- 'umpiragelaw7.UnifySays': WHATEVER THE INPUT: true; the input reads as it did. -/
def unifySaysSpec : ChangeSpec := { name := "unifySays", fn := fun _ => fun
  | [d1, d2] => { results := [.lit (.bool true)], args := [d1, d2] }
  | _ => none }
def unifySaysRow : OpenClaim := { program := "ytlhnfdjidjgfgaa", sum := "6c8fb2ad4babd2bd86bcf9c6ccfe513bd526db9d3dc6b7855f801c68210eed32", func := "umpirage/umpiragelaw7.UnifySays", spec := "unifySays", unfollowed := true, recurses := true, loops := true, apart := false }
def UnifySaysSaid : Prop := unifySaysRow.holds Try.pinned (OpenSpec.ofChange unifySaysSpec)

/-- ITS FALSE NEIGHBOUR: 'it returns false'. Refute it at one input. -/
def unifySaysWrong : ChangeSpec := { name := "unifySays", fn := fun _ => fun
  | [d1, d2] => { results := [.lit (.bool false)], args := [d1, d2] }
  | _ => none }
def UnifySaysWrongFalsely : Prop := unifySaysRow.holds Try.pinned (OpenSpec.ofChange unifySaysWrong)

/-- 'umpiragelaw7.UnifyMakes': WHATEVER THE INPUT: true; the input reads as it did. -/
def unifyMakesSpec : ChangeSpec := { name := "unifyMakes", fn := fun _ => fun
  | [d1, d2] => { results := [.lit (.bool true)], args := [d1, d2] }
  | _ => none }
def unifyMakesRow : OpenClaim := { program := "ytlhnfdjidjgfgaa", sum := "6c8fb2ad4babd2bd86bcf9c6ccfe513bd526db9d3dc6b7855f801c68210eed32", func := "umpirage/umpiragelaw7.UnifyMakes", spec := "unifyMakes", unfollowed := true, recurses := true, loops := true, apart := false }
def UnifyMakesSaid : Prop := unifyMakesRow.holds Try.pinned (OpenSpec.ofChange unifyMakesSpec)

/-- ITS FALSE NEIGHBOUR: 'it returns false'. Refute it at one input. -/
def unifyMakesWrong : ChangeSpec := { name := "unifyMakes", fn := fun _ => fun
  | [d1, d2] => { results := [.lit (.bool false)], args := [d1, d2] }
  | _ => none }
def UnifyMakesWrongFalsely : Prop := unifyMakesRow.holds Try.pinned (OpenSpec.ofChange unifyMakesWrong)

/-- 'umpiragelaw7.UnifyGeneral': WHATEVER THE INPUT: true; the input reads as it did. -/
def unifyGeneralSpec : ChangeSpec := { name := "unifyGeneral", fn := fun _ => fun
  | [d1, d2, d3] => { results := [.lit (.bool true)], args := [d1, d2, d3] }
  | _ => none }
def unifyGeneralRow : OpenClaim := { program := "ytlhnfdjidjgfgaa", sum := "6c8fb2ad4babd2bd86bcf9c6ccfe513bd526db9d3dc6b7855f801c68210eed32", func := "umpirage/umpiragelaw7.UnifyGeneral", spec := "unifyGeneral", unfollowed := true, recurses := true, loops := true, apart := false }
def UnifyGeneralSaid : Prop := unifyGeneralRow.holds Try.pinned (OpenSpec.ofChange unifyGeneralSpec)

/-- ITS FALSE NEIGHBOUR: 'it returns false'. Refute it at one input. -/
def unifyGeneralWrong : ChangeSpec := { name := "unifyGeneral", fn := fun _ => fun
  | [d1, d2, d3] => { results := [.lit (.bool false)], args := [d1, d2, d3] }
  | _ => none }
def UnifyGeneralWrongFalsely : Prop := unifyGeneralRow.holds Try.pinned (OpenSpec.ofChange unifyGeneralWrong)

/-- 'umpiragelaw7.UnifyTurned': WHATEVER THE INPUT: true; the input reads as it did. -/
def unifyTurnedSpec : ChangeSpec := { name := "unifyTurned", fn := fun _ => fun
  | [d1, d2] => { results := [.lit (.bool true)], args := [d1, d2] }
  | _ => none }
def unifyTurnedRow : OpenClaim := { program := "ytlhnfdjidjgfgaa", sum := "6c8fb2ad4babd2bd86bcf9c6ccfe513bd526db9d3dc6b7855f801c68210eed32", func := "umpirage/umpiragelaw7.UnifyTurned", spec := "unifyTurned", unfollowed := true, recurses := true, loops := true, apart := false }
def UnifyTurnedSaid : Prop := unifyTurnedRow.holds Try.pinned (OpenSpec.ofChange unifyTurnedSpec)

/-- ITS FALSE NEIGHBOUR: 'it returns false'. Refute it at one input. -/
def unifyTurnedWrong : ChangeSpec := { name := "unifyTurned", fn := fun _ => fun
  | [d1, d2] => { results := [.lit (.bool false)], args := [d1, d2] }
  | _ => none }
def UnifyTurnedWrongFalsely : Prop := unifyTurnedRow.holds Try.pinned (OpenSpec.ofChange unifyTurnedWrong)

/-- 'umpiragelaw7.IndexSays': WHATEVER THE INPUT: true; the input reads as it did. -/
def indexSaysSpec : ChangeSpec := { name := "indexSays", fn := fun _ => fun
  | [d1, d2] => { results := [.lit (.bool true)], args := [d1, d2] }
  | _ => none }
def indexSaysRow : OpenClaim := { program := "ytlhnfdjidjgfgaa", sum := "6c8fb2ad4babd2bd86bcf9c6ccfe513bd526db9d3dc6b7855f801c68210eed32", func := "umpirage/umpiragelaw7.IndexSays", spec := "indexSays", unfollowed := true, recurses := true, loops := true, apart := false }
def IndexSaysSaid : Prop := indexSaysRow.holds Try.pinned (OpenSpec.ofChange indexSaysSpec)

/-- ITS FALSE NEIGHBOUR: 'it returns false'. Refute it at one input. -/
def indexSaysWrong : ChangeSpec := { name := "indexSays", fn := fun _ => fun
  | [d1, d2] => { results := [.lit (.bool false)], args := [d1, d2] }
  | _ => none }
def IndexSaysWrongFalsely : Prop := indexSaysRow.holds Try.pinned (OpenSpec.ofChange indexSaysWrong)

/-- 'umpiragelaw7.IndexMeets': WHATEVER THE INPUT: true; the input reads as it did. -/
def indexMeetsSpec : ChangeSpec := { name := "indexMeets", fn := fun _ => fun
  | [d1, d2] => { results := [.lit (.bool true)], args := [d1, d2] }
  | _ => none }
def indexMeetsRow : OpenClaim := { program := "ytlhnfdjidjgfgaa", sum := "6c8fb2ad4babd2bd86bcf9c6ccfe513bd526db9d3dc6b7855f801c68210eed32", func := "umpirage/umpiragelaw7.IndexMeets", spec := "indexMeets", unfollowed := true, recurses := true, loops := true, apart := false }
def IndexMeetsSaid : Prop := indexMeetsRow.holds Try.pinned (OpenSpec.ofChange indexMeetsSpec)

/-- ITS FALSE NEIGHBOUR: 'it returns false'. Refute it at one input. -/
def indexMeetsWrong : ChangeSpec := { name := "indexMeets", fn := fun _ => fun
  | [d1, d2] => { results := [.lit (.bool false)], args := [d1, d2] }
  | _ => none }
def IndexMeetsWrongFalsely : Prop := indexMeetsRow.holds Try.pinned (OpenSpec.ofChange indexMeetsWrong)

/-- 'umpiragelaw7.TurnPairs': WHATEVER THE INPUT: true; the input reads as it did. -/
def turnPairsSpec : ChangeSpec := { name := "turnPairs", fn := fun _ => fun
  | [d] => { results := [.lit (.bool true)], args := [d] }
  | _ => none }
def turnPairsRow : OpenClaim := { program := "ytlhnfdjidjgfgaa", sum := "6c8fb2ad4babd2bd86bcf9c6ccfe513bd526db9d3dc6b7855f801c68210eed32", func := "umpirage/umpiragelaw7.TurnPairs", spec := "turnPairs", unfollowed := true, recurses := true, loops := true, apart := false }
def TurnPairsSaid : Prop := turnPairsRow.holds Try.pinned (OpenSpec.ofChange turnPairsSpec)

/-- ITS FALSE NEIGHBOUR: 'it returns false'. Refute it at one input. -/
def turnPairsWrong : ChangeSpec := { name := "turnPairs", fn := fun _ => fun
  | [d] => { results := [.lit (.bool false)], args := [d] }
  | _ => none }
def TurnPairsWrongFalsely : Prop := turnPairsRow.holds Try.pinned (OpenSpec.ofChange turnPairsWrong)

/- THE SECOND FORM. 'bulk': how many values and letters a reading holds, each counted each time it is reached (what is shared counts as often as it is met; a slice's spare places count too). A statement '..UptoSaid' is the law's where the arguments, and the package variables that the reading takes, are together of bulk at most 1048576: NARROWER than '..Said'. Prove '..Said' where nothing that the law and all that it calls make is longer than what came in: it says more and counts as full. Else prove '..UptoSaid'. A law counts once. -/
mutual
def uptoBulk {H : Type} : DataW H → Nat
  | .lit (.string bytes) => bytes.length + 1
  | .lit _ => 1
  | .nil => 1
  | .ptr d => uptoBulk d + 1
  | .slice elems spare => uptoBulkAll elems + uptoBulkAll spare + 1
  | .agg parts => uptoBulkAll parts + 1
  | .iface _ d => uptoBulk d + 1
  | .map entries => uptoBulkEntries entries + 1
  | .held _ => 1
def uptoBulkAll {H : Type} : List (DataW H) → Nat
  | [] => 0
  | d :: r => uptoBulk d + uptoBulkAll r
def uptoBulkEntries {H : Type} : List (Lit × DataW H) → Nat
  | [] => 0
  | x :: r => uptoBulkEntry x + uptoBulkEntries r
def uptoBulkEntry {H : Type} : Lit × DataW H → Nat
  | (.string bytes, d) => bytes.length + uptoBulk d + 1
  | (_, d) => uptoBulk d + 1
 end
def uptoSmall : (H : Type) → List (DataW H) → Bool := fun _ ds => decide (uptoBulkAll ds ≤ 1048576)
def OpenSpec.upto (s : _root_.Go.ChangeSpec) : _root_.Go.OpenSpec := { _root_.Go.OpenSpec.ofChange s with cond := some uptoSmall }

/-- 'umpiragelaw7.TraceSays', WHERE WHAT IT READS IS OF BULK AT MOST 1048576: true; the input reads as it did. -/
def traceSaysUptoRow : OpenClaim := { program := "ytlhnfdjidjgfgaa", sum := "6c8fb2ad4babd2bd86bcf9c6ccfe513bd526db9d3dc6b7855f801c68210eed32", func := "umpirage/umpiragelaw7.TraceSays", spec := "traceSays", unfollowed := true, recurses := true, loops := true, apart := false, narrowed := true }
def TraceSaysUptoSaid : Prop := traceSaysUptoRow.holds Try.pinned (OpenSpec.upto traceSaysSpec)

/-- 'umpiragelaw7.TraceParts', WHERE WHAT IT READS IS OF BULK AT MOST 1048576: true; the input reads as it did. -/
def tracePartsUptoRow : OpenClaim := { program := "ytlhnfdjidjgfgaa", sum := "6c8fb2ad4babd2bd86bcf9c6ccfe513bd526db9d3dc6b7855f801c68210eed32", func := "umpirage/umpiragelaw7.TraceParts", spec := "traceParts", unfollowed := true, recurses := true, loops := true, apart := false, narrowed := true }
def TracePartsUptoSaid : Prop := tracePartsUptoRow.holds Try.pinned (OpenSpec.upto tracePartsSpec)

/-- 'umpiragelaw7.TraceHolds', WHERE WHAT IT READS IS OF BULK AT MOST 1048576: true; the input reads as it did. -/
def traceHoldsUptoRow : OpenClaim := { program := "ytlhnfdjidjgfgaa", sum := "6c8fb2ad4babd2bd86bcf9c6ccfe513bd526db9d3dc6b7855f801c68210eed32", func := "umpirage/umpiragelaw7.TraceHolds", spec := "traceHolds", unfollowed := true, recurses := true, loops := true, apart := false, narrowed := true }
def TraceHoldsUptoSaid : Prop := traceHoldsUptoRow.holds Try.pinned (OpenSpec.upto traceHoldsSpec)

/-- 'umpiragelaw7.PatSays', WHERE WHAT IT READS IS OF BULK AT MOST 1048576: true; the input reads as it did. -/
def patSaysUptoRow : OpenClaim := { program := "ytlhnfdjidjgfgaa", sum := "6c8fb2ad4babd2bd86bcf9c6ccfe513bd526db9d3dc6b7855f801c68210eed32", func := "umpirage/umpiragelaw7.PatSays", spec := "patSays", unfollowed := true, recurses := true, loops := true, apart := false, narrowed := true }
def PatSaysUptoSaid : Prop := patSaysUptoRow.holds Try.pinned (OpenSpec.upto patSaysSpec)

/-- 'umpiragelaw7.PatHolds', WHERE WHAT IT READS IS OF BULK AT MOST 1048576: true; the input reads as it did. -/
def patHoldsUptoRow : OpenClaim := { program := "ytlhnfdjidjgfgaa", sum := "6c8fb2ad4babd2bd86bcf9c6ccfe513bd526db9d3dc6b7855f801c68210eed32", func := "umpirage/umpiragelaw7.PatHolds", spec := "patHolds", unfollowed := true, recurses := true, loops := true, apart := false, narrowed := true }
def PatHoldsUptoSaid : Prop := patHoldsUptoRow.holds Try.pinned (OpenSpec.upto patHoldsSpec)

/-- 'umpiragelaw7.UnifySays', WHERE WHAT IT READS IS OF BULK AT MOST 1048576: true; the input reads as it did. -/
def unifySaysUptoRow : OpenClaim := { program := "ytlhnfdjidjgfgaa", sum := "6c8fb2ad4babd2bd86bcf9c6ccfe513bd526db9d3dc6b7855f801c68210eed32", func := "umpirage/umpiragelaw7.UnifySays", spec := "unifySays", unfollowed := true, recurses := true, loops := true, apart := false, narrowed := true }
def UnifySaysUptoSaid : Prop := unifySaysUptoRow.holds Try.pinned (OpenSpec.upto unifySaysSpec)

/-- 'umpiragelaw7.UnifyMakes', WHERE WHAT IT READS IS OF BULK AT MOST 1048576: true; the input reads as it did. -/
def unifyMakesUptoRow : OpenClaim := { program := "ytlhnfdjidjgfgaa", sum := "6c8fb2ad4babd2bd86bcf9c6ccfe513bd526db9d3dc6b7855f801c68210eed32", func := "umpirage/umpiragelaw7.UnifyMakes", spec := "unifyMakes", unfollowed := true, recurses := true, loops := true, apart := false, narrowed := true }
def UnifyMakesUptoSaid : Prop := unifyMakesUptoRow.holds Try.pinned (OpenSpec.upto unifyMakesSpec)

/-- 'umpiragelaw7.UnifyGeneral', WHERE WHAT IT READS IS OF BULK AT MOST 1048576: true; the input reads as it did. -/
def unifyGeneralUptoRow : OpenClaim := { program := "ytlhnfdjidjgfgaa", sum := "6c8fb2ad4babd2bd86bcf9c6ccfe513bd526db9d3dc6b7855f801c68210eed32", func := "umpirage/umpiragelaw7.UnifyGeneral", spec := "unifyGeneral", unfollowed := true, recurses := true, loops := true, apart := false, narrowed := true }
def UnifyGeneralUptoSaid : Prop := unifyGeneralUptoRow.holds Try.pinned (OpenSpec.upto unifyGeneralSpec)

/-- 'umpiragelaw7.UnifyTurned', WHERE WHAT IT READS IS OF BULK AT MOST 1048576: true; the input reads as it did. -/
def unifyTurnedUptoRow : OpenClaim := { program := "ytlhnfdjidjgfgaa", sum := "6c8fb2ad4babd2bd86bcf9c6ccfe513bd526db9d3dc6b7855f801c68210eed32", func := "umpirage/umpiragelaw7.UnifyTurned", spec := "unifyTurned", unfollowed := true, recurses := true, loops := true, apart := false, narrowed := true }
def UnifyTurnedUptoSaid : Prop := unifyTurnedUptoRow.holds Try.pinned (OpenSpec.upto unifyTurnedSpec)

/-- 'umpiragelaw7.IndexSays', WHERE WHAT IT READS IS OF BULK AT MOST 1048576: true; the input reads as it did. -/
def indexSaysUptoRow : OpenClaim := { program := "ytlhnfdjidjgfgaa", sum := "6c8fb2ad4babd2bd86bcf9c6ccfe513bd526db9d3dc6b7855f801c68210eed32", func := "umpirage/umpiragelaw7.IndexSays", spec := "indexSays", unfollowed := true, recurses := true, loops := true, apart := false, narrowed := true }
def IndexSaysUptoSaid : Prop := indexSaysUptoRow.holds Try.pinned (OpenSpec.upto indexSaysSpec)

/-- 'umpiragelaw7.IndexMeets', WHERE WHAT IT READS IS OF BULK AT MOST 1048576: true; the input reads as it did. -/
def indexMeetsUptoRow : OpenClaim := { program := "ytlhnfdjidjgfgaa", sum := "6c8fb2ad4babd2bd86bcf9c6ccfe513bd526db9d3dc6b7855f801c68210eed32", func := "umpirage/umpiragelaw7.IndexMeets", spec := "indexMeets", unfollowed := true, recurses := true, loops := true, apart := false, narrowed := true }
def IndexMeetsUptoSaid : Prop := indexMeetsUptoRow.holds Try.pinned (OpenSpec.upto indexMeetsSpec)

/-- 'umpiragelaw7.TurnPairs', WHERE WHAT IT READS IS OF BULK AT MOST 1048576: true; the input reads as it did. -/
def turnPairsUptoRow : OpenClaim := { program := "ytlhnfdjidjgfgaa", sum := "6c8fb2ad4babd2bd86bcf9c6ccfe513bd526db9d3dc6b7855f801c68210eed32", func := "umpirage/umpiragelaw7.TurnPairs", spec := "turnPairs", unfollowed := true, recurses := true, loops := true, apart := false, narrowed := true }
def TurnPairsUptoSaid : Prop := turnPairsUptoRow.holds Try.pinned (OpenSpec.upto turnPairsSpec)

end Rows
end Go.Proofs.Ytlhnfdjidjgfgaa
