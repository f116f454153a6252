/-
  Plain: what turn.Do hands back at the rules of sums.
-/
import Derived.Test.YteekoclfpehnpaaR5
import Derived.Test.YteekoclfpehnpaaR6
namespace Go.Proofs.Yteekoclfpehnpaa
open Go.RowKit Go.Shelf
set_option linter.unusedVariables false
def plusT (a b : Nat) : T := .node 3 [numT a, numT b]
theorem ev_check : (checkF addRs (plusT 1 1)).1 = 0 := by kernel_rfl
theorem ev_step : (plusT 1 1).step addRs = some (.node 2 [.node 3 [numT 1, numT 0]]) := by kernel_rfl
theorem ev11 : doR addRs (plusT 1 1) 50 = (1, numT 2, (0, 0)) := by kernel_rfl
end Go.Proofs.Yteekoclfpehnpaa
