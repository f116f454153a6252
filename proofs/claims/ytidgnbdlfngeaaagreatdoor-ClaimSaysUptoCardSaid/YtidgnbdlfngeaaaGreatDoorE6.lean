/-
  A row of trees that is written place by place, as a fact of a walk's state; facts ahead of an unknown list.
  Walks: the order of a tree's variables.
-/
import Derived.Test.YtidgnbdlfngeaaaGreatDoorXb
import Derived.Test.YtidgnbdlfngeaaaGreatDoorProg
import Derived.Test.YtidgnbdlfngeaaaGreatDoorBase
import Derived.Test.YtidgnbdlfngeaaaGreatDoorXd
import Derived.Test.YtidgnbdlfngeaaaGreatDoorT20
import Derived.Test.YtidgnbdlfngeaaaGreatDoorT23
import Derived.Laws.OwnMore
import Derived.Test.YtidgnbdlfngeaaaGreatDoorXa
namespace Go.Proofs.YtidgnbdlfngeaaaGreatDoor
open Go.RowKit Go.Shelf
set_option linter.unusedVariables false

theorem St.cons {w0 w : World} {l : List Fct} (S : St w0 w l) (f : Fct) (hf : f.holds w) : St w0 w (f :: l) := ⟨S.1, fun i => match i with | 0 => hf | i + 1 => S.2 i⟩
theorem St.boxH {w0 w : World} {l : List Fct} (S : St w0 w l) {b : Nat} (hb : w.heap.size = b) (cs : Array Value) (T : TypeId) : St w0 (w.alloc (.cells cs T)) (.box b cs T :: l) := by
  subst hb
  exact (S.alloc _).cons (.box _ cs T) (heap_ofAlloc w (.cells cs T))
end Go.Proofs.YtidgnbdlfngeaaaGreatDoor
namespace Go.Proofs.YtidgnbdlfngeaaaGreatDoor
open Go.RowKit Go.Shelf
set_option linter.unusedVariables false
set_option maxHeartbeats 400000

/-- an integer -/
def intE : Elt Int where
  ty := 3
  n := 1
  is p w cs a := cs = [.int .i64 a]
  pos := by omega
  len := fun e => by rw [e]; rfl
  one := fun e u hu => by rw [e] at hu; simp at hu; subst hu; rfl
  keep := fun hk e => e
theorem Elt.Row.int {p : Nat → Prop} {w : World} {ao : Option Addr} {cs : List Int} (h : intE.Row p w ao cs) {i : Nat} (hi : i < cs.length) : ∃ b off, ao = some ⟨b, off, none⟩ ∧ p b ∧ w.cell? ⟨b, off + i, none⟩ = some (.int .i64 cs[i]) := by
  obtain ⟨b, off, c, e, hp, hc, rfl⟩ := h i cs[i] (List.getElem?_eq_getElem hi)
  exact ⟨b, off, e, hp, by have := hc 0 _ rfl; simpa [intE] using this⟩
def pF : Nat → Prop := fun _ => False

end Go.Proofs.YtidgnbdlfngeaaaGreatDoor
