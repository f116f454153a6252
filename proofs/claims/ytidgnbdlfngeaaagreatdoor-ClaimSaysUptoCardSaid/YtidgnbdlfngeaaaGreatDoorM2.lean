/-
  Walks: a tree whose variables are numbered by a list.
  Walks: Renamer.Term.
-/
import Derived.Test.YtidgnbdlfngeaaaGreatDoorProg
import Derived.Test.YtidgnbdlfngeaaaGreatDoorE6
import Derived.Test.YtidgnbdlfngeaaaGreatDoorXb
import Derived.Deep.RegionLaw
import Derived.RegionTactic
import Derived.Test.YtidgnbdlfngeaaaGreatDoorXc
import Derived.Maps.OwnSet
import Derived.Maps.Views
import Derived.Maps.OwnOps
import Derived.Maps.Keyed
namespace Go.Proofs.YtidgnbdlfngeaaaGreatDoor
open Go.RowKit Go.Shelf
set_option linter.unusedVariables false
set_option maxHeartbeats 400000

theorem Elt.Row.rowP {p : Nat → Prop} {w : World} {ao : Option Addr} {ks : List T} (h : treeE.Row p w ao ks) : RowP p w ao ks := fun i hi => by
  obtain ⟨b, off, k, sp, e, hp, h1, h2, h3⟩ := h.tree hi
  rw [gK_get hi]
  exact ⟨b, off, k, sp, e, hp, h1, h2, h3⟩
end Go.Proofs.YtidgnbdlfngeaaaGreatDoor
namespace Go.Proofs.YtidgnbdlfngeaaaGreatDoor
open Go.RowKit Go.Shelf Go.Maps
set_option linter.unusedVariables false
set_option maxHeartbeats 400000

/-- all blocks of w but b are as they were -/
def Fct.kept (w : World) (b : Nat) : Fct :=
  ⟨fun c => c < w.heap.size ∧ c ≠ b, fun W => ∀ c, c < w.heap.size → c ≠ b → W.heap[c]? = w.heap[c]?, fun W W' h hh c h1 h2 => by
    by_cases hc : c < W.heap.size
    · exact (h c ⟨h1, h2⟩ hc).trans (hh c h1 h2)
    · have := hh c h1 h2
      rw [Array.getElem?_eq_none (by omega), eq_comm, Array.getElem?_eq_none_iff] at this
      omega⟩
theorem St.kept {w0 w : World} {l : List Fct} (S : St w0 w l) (i : Nat) {W : World} {b : Nat} (h : Fct.at l i = Fct.kept W b := by rfl) : ∀ c, c < W.heap.size → c ≠ b → w.heap[c]? = W.heap[c]? := by
  have := S.2 i
  rw [h] at this; exact this
end Go.Proofs.YtidgnbdlfngeaaaGreatDoor
