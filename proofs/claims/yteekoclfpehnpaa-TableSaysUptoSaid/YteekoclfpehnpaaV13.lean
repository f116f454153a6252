/-
  The closed fact of the table laws: what it comes to; a row in a block.
-/
import Derived.Test.YteekoclfpehnpaaProg
import Derived.Test.YteekoclfpehnpaaV12
import Derived.WalkKit
namespace Go.Proofs.Yteekoclfpehnpaa
open Go.RowKit Go.Shelf
set_option linter.unusedVariables false
set_option maxHeartbeats 400000

def xT : T := .node 2 [.node (-1) []]
def clT : List Fc := [⟨false, xT, .node 1 []⟩]
set_option maxRecDepth 100000 in
theorem holdsT : holdsF [0, 1] [clT] 2 [[1], [1, 1]] = ([true], (0, 0)) := by kernel_rfl
set_option maxRecDepth 100000 in
theorem valueT : valueF [0, 1] [clT] 2 [[1], [1, 0]] xT [1] = (0, (0, 0)) := by kernel_rfl
/-- the elements of a block -/
theorem row_block {α : Type} (E : Elt α) {p : Nat → Prop} {w : World} {g : Nat} {cs : Array Value} {T : TypeId} (hb : w.heap[g]? = some (.cells cs T (0, 0))) (hp : p g) (css : List (List Value)) (xs : List α) (hf : cs.toList = css.flatten) (hl : css.length = xs.length)
    (he : ∀ (i : Nat) c x, css[i]? = some c → xs[i]? = some x → E.is p w c x) : E.Row p w (some ⟨g, 0, none⟩) xs := fun i x hi => by
  have hil := (List.getElem?_eq_some_iff.1 hi).1
  have hc : css[i]? = some css[i] := List.getElem?_eq_getElem (by omega)
  have hx := he i _ _ hc hi
  refine ⟨g, 0, css[i], rfl, hp, fun j u hu => ?_, hx⟩
  have h1 := flat_at (n := E.n) (Elt.lens hl he) hc hu
  rw [← hf] at h1
  have h2 : cs[i * E.n + j]? = some u := by rw [← h1]; simp
  simp [World.cell?, hb, h2]
end Go.Proofs.Yteekoclfpehnpaa
