/-
  Walks: the law's leaf.
-/
import Derived.Test.YteekoclfpehnpaaProg
import Derived.Test.YteekoclfpehnpaaBase
import Derived.Test.YteekoclfpehnpaaXa
namespace Go.Proofs.Yteekoclfpehnpaa
open Go.RowKit Go.Shelf
set_option linter.unusedVariables false

theorem TreeP.leaf (p : Nat → Prop) (w : World) (h : Int) : TreeP p w (.agg #[.int .i64 h, .slice none 0 0]) (.node h []) :=
  TreeP.close (sp := 0) (ks := []) (fun i hi => by simp at hi) (by simp)
theorem leaf25 (h : Int) (w : World) : Calls Try.prog 49 #[.int .i64 h] w fun e w' => e = .returned (.agg #[.int .i64 h, .slice none 0 0]) ∧ Below w.heap.size w w' := by
  go_enter Try.func49, Try.ntmps49
  go_wp2
  refine bodyPost_ret (v := .agg #[.int .i64 h, .slice none 0 0]) (by simp [results, Try.results49, go_sem]) rfl ⟨rfl, (Below.refl _ _).alloc (Nat.le_refl _) _⟩
end Go.Proofs.Yteekoclfpehnpaa
