/-
  How substitutions and rows of integers as arguments read, with their length.
-/
import Derived.Test.YteekoclfpehnpaaRows
import Derived.Test.YteekoclfpehnpaaO3
namespace Go.Proofs.Yteekoclfpehnpaa
open Go.ChangeShapes Go.WideShapes Go.ChangeAt Go.RowKit
set_option linter.unusedVariables false

section
variable {H : Type} {enc : TypeId × Value → H} {W : World} {held : Bool}
theorem bindL_arg {d : DataW H} {pl : List MemPlace} {ao : Option Addr} {len cap : Nat} (h : DataW.Trod enc Try.prog W 0 (fun _ => true) held 62 (.slice ao len cap) d pl) : ∃ ks, len = ks.length ∧ RowAt W ao ks ∧ ks.length ≤ maxLen := by
  obtain ⟨fuel, hf⟩ := h
  obtain ⟨ao', cap', ks, e, _, hm, hr, hs⟩ := row_of Try.underlying62 hf (fun n _ cs x h => tree_of n cs x h)
  simp [Value.cells] at e
  obtain ⟨rfl, rfl, rfl⟩ := e
  exact ⟨ks, rfl, hr, hm⟩
theorem intsL_arg {d : DataW H} {pl : List MemPlace} {ao : Option Addr} {len cap : Nat} (h : DataW.Trod enc Try.prog W 0 (fun _ => true) held 27 (.slice ao len cap) d pl) : ∃ xs, len = xs.length ∧ intE.Row (fun _ => True) W ao xs ∧ xs.length ≤ maxLen := by
  obtain ⟨fuel, hf⟩ := h
  obtain ⟨ao', cap', xs, e, _, hm, hr, _⟩ := rowE_of intE (fun _ => 0) Try.underlying27 (by kernel_rfl) hf (fun n _ cs x h => int_of n cs x h)
  simp [Value.cells] at e
  obtain ⟨rfl, rfl, rfl⟩ := e
  exact ⟨xs, rfl, hr.mono (fun _ _ _ => trivial), hm⟩
end
end Go.Proofs.Yteekoclfpehnpaa
