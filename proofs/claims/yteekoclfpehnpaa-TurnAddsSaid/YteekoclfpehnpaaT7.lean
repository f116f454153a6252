/-
  Walks: the document's Bind.
-/
import Derived.Test.YteekoclfpehnpaaProg
import Derived.Test.YteekoclfpehnpaaBase
import Derived.Test.YteekoclfpehnpaaT6
namespace Go.Proofs.Yteekoclfpehnpaa
open Go.RowKit Go.Shelf
set_option linter.unusedVariables false
set_option maxHeartbeats 400000

def bindL : List T → Int → Int × Int
  | [], _ => (0, 0)
  | t :: r, k => if t.head = 0 then (if 0 < t.kids.length then (5, -1 - k) else bindL r (k + 1)) else if (treeF t).1 ≠ 0 then ((treeF t).1, -1 - k) else bindL r (k + 1)
def bindF (bs : List T) : Int × Int := if 8 < bs.length then (2, -1) else bindL bs 0

end Go.Proofs.Yteekoclfpehnpaa
