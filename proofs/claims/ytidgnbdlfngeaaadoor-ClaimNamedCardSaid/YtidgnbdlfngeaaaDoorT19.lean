/-
  Walks: tree.Bind, tree.Do.
-/
import Derived.Test.YtidgnbdlfngeaaaDoorProg
import Derived.Test.YtidgnbdlfngeaaaDoorBase
import Derived.Test.YtidgnbdlfngeaaaDoorXa
import Derived.Test.YtidgnbdlfngeaaaDoorXd
namespace Go.Proofs.YtidgnbdlfngeaaaDoor
open Go.RowKit Go.Shelf
set_option linter.unusedVariables false
set_option maxHeartbeats 400000

end Go.Proofs.YtidgnbdlfngeaaaDoor
