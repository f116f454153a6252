/-
  Walks: turn.checkRule. A set of variables as a map to true.
-/
import Derived.Test.YtidgnbdlfngeaaaGreatDoorProg
import Derived.Test.YtidgnbdlfngeaaaGreatDoorM2
import Derived.Test.YtidgnbdlfngeaaaGreatDoorT23
import Derived.Test.YtidgnbdlfngeaaaGreatDoorE5
import Derived.Maps.OwnIn
namespace Go.Proofs.YtidgnbdlfngeaaaGreatDoor
open Go.RowKit Go.Shelf Go.Maps
set_option linter.unusedVariables false
set_option maxHeartbeats 400000
attribute [local go_sem] Oper.semAt_some

theorem ret_cell1 {P : Program} {fn : Func} {R : Ending → World → Prop} {a : Act} {w : World} (x : Value) (b : Nat) (T : TypeId) (hb : w.heap[b]? = some (.cells #[x] T (0, 0)))
    (hres : ∀ w' : World, w'.cell? ⟨b, 0, none⟩ = some x → (results fn a.tmps).run P w' = .ok x w') (hd : a.defers = [])
    (hR : R (.returned x) w) : bodyPost P fn R .ret a w := bodyPost_ret (hres w (box1 hb).1) hd hR

theorem retM_cell1 {n B : Nat} {P : Program} {fn : Func} {tmps : Array Value} {R : Ending → World → Prop} (ds : List Nat) {w : World} (x : Value) (b : Nat) (T : TypeId) (hb : w.heap[b]? = some (.cells #[x] T (0, 0))) (hm : Marks B w ds) (hB : B ≤ w.heap.size)
    (hres : ∀ w' : World, w'.cell? ⟨b, 0, none⟩ = some x → (results fn tmps).run P w' = .ok x w') (hR : ∀ w', Below B w w' → R (.returned x) w') :
    bodyPostM Fence.wide n P fn R .ret { tmps := tmps, defers := ds.map mark } w :=
  bodyM_marks hm hB (fun w' h1 h2 => ⟨x, hres w' (box1 ((h2 _ _ _ _ hb).trans hb)).1, hR w' h1⟩)
end Go.Proofs.YtidgnbdlfngeaaaGreatDoor
