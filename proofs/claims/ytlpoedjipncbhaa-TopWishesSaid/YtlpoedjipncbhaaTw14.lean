/-
  Walks: unit.New; cdcl.Do on the two clauses.
-/
import Derived.Test.YtlpoedjipncbhaaProg
import Derived.Test.YtlpoedjipncbhaaTw13
namespace Go.Proofs.Ytlpoedjipncbhaa
open Go.RowKit Go.Shelf Go.Maps
set_option linter.unusedVariables false
set_option linter.unusedSimpArgs false
set_option maxHeartbeats 400000

set_option maxRecDepth 100000 in
theorem new30 (cl : Value) (w : World) (ko : Option Addr) (n c : Nat) (hcl : cl = .slice ko n c) : Calls Try.prog 30 #[cl] w fun e w' => e = .returned (.pointer (some ⟨w.heap.size + 1, 0, none⟩)) ∧ w' = (w.alloc (.map #[] 0)).alloc (.cells #[cl, .slice none 0 0, .slice none 0 0, .map (some w.heap.size)] 81) := by
  subst hcl
  have hmm := @run_makeMap Try.prog
  go_enter Try.func30, Try.ntmps30
  go_wp2_with fail
  go_ret
  exact ⟨by simp, rfl⟩
end Go.Proofs.Ytlpoedjipncbhaa
