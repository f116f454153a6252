/-
  The document's Norm of a claim, plain; small lemmas for its walk.
-/
import Derived.Test.YtidgnbdlfngeaaaGreatDoorProg
import Derived.Test.YtidgnbdlfngeaaaGreatDoorM2
namespace Go.Proofs.YtidgnbdlfngeaaaGreatDoor
open Go.RowKit Go.Shelf
set_option linter.unusedVariables false
set_option maxHeartbeats 400000

theorem ret_box1 {P : Program} {fn : Func} {R : Ending → World → Prop} {a : Act} {w : World} (x : Value) (b : Nat) (T : TypeId) (hb : w.heap[b]? = some (.cells #[x] T (0, 0)))
    (hres : ∀ w' : World, w'.cell? ⟨b, 0, none⟩ = some x → (results fn a.tmps).run P w' = .ok (.agg #[x]) w') (hd : a.defers = [])
    (hR : R (.returned (.agg #[x])) w) : bodyPost P fn R .ret a w := bodyPost_ret (hres w (box1 hb).1) hd hR

end Go.Proofs.YtidgnbdlfngeaaaGreatDoor
