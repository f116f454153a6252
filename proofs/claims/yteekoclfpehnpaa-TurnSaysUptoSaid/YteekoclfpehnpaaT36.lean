/-
  Walks: the document's Down.
-/
import Derived.Test.YteekoclfpehnpaaProg
import Derived.Test.YteekoclfpehnpaaBase
import Derived.Test.YteekoclfpehnpaaXb
import Derived.Test.YteekoclfpehnpaaT25
import Derived.IntWalk
namespace Go.Proofs.Yteekoclfpehnpaa
open Go.RowKit Go.Shelf
set_option linter.unusedVariables false
set_option maxHeartbeats 400000

theorem TreeP.row {p : Nat → Prop} {w : World} {h0 : Int} {ao : Option Addr} {n c : Nat} {x : T} (h : TreeP p w (.agg #[.int .i64 h0, .slice ao n c]) x) : RowP p w ao x.kids ∧ x.kids.length ≤ maxLen := by
  obtain ⟨ao', sp', e, h1, h2⟩ := h.open
  simp at e
  rw [e.2.1]; exact ⟨h1, h2⟩
def DownPost (p : Nat → Prop) (r : T × Int) (w : World) (e : Ending) (w' : World) : Prop := ∃ k sp, e = .returned (.tuple #[.agg #[.int .i64 r.1.head, .slice k r.1.kids.length (r.1.kids.length + sp)], .int .i64 r.2]) ∧ TreeP p w (.agg #[.int .i64 r.1.head, .slice k r.1.kids.length (r.1.kids.length + sp)]) r.1 ∧ Below w.heap.size w w'

end Go.Proofs.Yteekoclfpehnpaa
