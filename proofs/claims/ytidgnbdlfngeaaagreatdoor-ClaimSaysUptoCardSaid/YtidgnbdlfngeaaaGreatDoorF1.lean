/-
  Walks: claim.Form.
-/
import Derived.Test.YtidgnbdlfngeaaaGreatDoorProg
import Derived.Test.YtidgnbdlfngeaaaGreatDoorE5
import Derived.Test.YtidgnbdlfngeaaaGreatDoorXd
namespace Go.Proofs.YtidgnbdlfngeaaaGreatDoor
open Go.RowKit Go.Shelf
set_option linter.unusedVariables false
set_option maxHeartbeats 400000

theorem treesF_pair : ∀ {fs : List Fc} {k : Nat} (h : k < fs.length), (treesF fs)[2 * k]? = some fs[k].l ∧ (treesF fs)[2 * k + 1]? = some fs[k].r
  | f :: r, 0, _ => ⟨rfl, rfl⟩
  | f :: r, k + 1, h => by
    have := treesF_pair (fs := r) (k := k) (by simpa using h)
    rw [show 2 * (k + 1) = 2 * k + 1 + 1 by omega]
    simp only [treesF, List.getElem?_cons_succ, List.getElem_cons_succ]
    exact this
/-- tree m of a pair -/
def pairT (x y : T) (m : Nat) : T := if m = 0 then x else y
theorem pairT_at {ts : List T} {n m : Nat} {x y : T} (h1 : ts[n]? = some x) (h2 : ts[n + 1]? = some y) (hm : m < 2) : ts[n + m]? = some (pairT x y m) := by
  rcases (show m = 0 ∨ m = 1 by omega) with rfl | rfl
  · exact h1
  · exact h2

end Go.Proofs.YtidgnbdlfngeaaaGreatDoor
