/-
  The value of a tree in a table: plain, and where it lies.
-/
import Derived.Test.YtidgnbdlfngeaaaGreatDoorV1
import Derived.Test.YtidgnbdlfngeaaaGreatDoorM2
import Derived.Test.YtidgnbdlfngeaaaGreatDoorXc
namespace Go.Proofs.YtidgnbdlfngeaaaGreatDoor
open Go.RowKit Go.Shelf
set_option linter.unusedVariables false
set_option maxHeartbeats 400000

/-- a node fits the signs -/
def sigN (ar : List Int) (x : T) : Prop := x.head ≤ ar.length ∧ (0 < x.head → (x.kids.length : Int) = gI ar (x.head - 1).toNat)
structure T.sig (ar : List Int) (t : T) : Prop where
  all : ∀ x ∈ t.pre, okN x ∧ sigN ar x
theorem okN_num {x : T} (h : okN x) : x.head ≠ 0 ∧ -8 ≤ x.head ∧ x.head ≤ 12 ∧ x.kids.length ≤ 3 ∧ (x.head < 0 → x.kids.length = 0) := by
  obtain ⟨h1, h2⟩ := h
  unfold badHead at h1
  unfold badKids at h2
  refine ⟨?_, ?_, ?_, ?_, ?_⟩ <;> omega
end Go.Proofs.YtidgnbdlfngeaaaGreatDoor
