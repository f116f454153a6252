/-
  A region that draws its order: two operations that may come next, each way walked (behind wpH of g4).
-/
import Derived.Test.YtlhnfdjidjgfgaaG4
namespace Go.Proofs.Ytlhnfdjidjgfgaa
open Go.RowKit
set_option linter.unusedVariables false

section
variable {P : Program} {ops : Array Oper} {Q : Exit → Act → World → Prop} {md : Region.Mode} {S : World → Prop} {sts : List Nat}
/-- numbers i and j are those that may come -/
theorem wpH.two {i j fuel : Nat} {listed : Array Bool} {a : Act} {w : World} (hr : Region.ready md ops listed = [i, j])
    (h : ∀ o, ops[i]? = some o → ∀ K' : Act → World → Prop, (∀ b W, (i ∉ sts → S W) → wpH P md ops Q S sts fuel (listed.setIfInBounds i true) b W → K' b W) → if Region.wanted o (yielded ops a.tmps) = true then Oper.wp P o a w K' Q else K' (a.put o.dst undef) w)
    (h2 : ∀ o, ops[j]? = some o → ∀ K' : Act → World → Prop, (∀ b W, (j ∉ sts → S W) → wpH P md ops Q S sts fuel (listed.setIfInBounds j true) b W → K' b W) → if Region.wanted o (yielded ops a.tmps) = true then Oper.wp P o a w K' Q else K' (a.put o.dst undef) w) : wpH P md ops Q S sts (fuel + 1) listed a w := by
  refine ⟨fun e => (by rw [hr] at e; cases e), fun k hk => ?_⟩
  have hm : k ∈ Region.ready md ops listed := hk
  obtain ⟨_, o, ho, _⟩ := mem_ready.1 hm
  rw [hr] at hk
  have hk2 : k = i ∨ k = j := by simpa using hk
  rcases hk2 with rfl | rfl
  · exact wpOp_step ho fun K' hK => h o ho K' fun b W h1 h2 => hK _ _ ⟨h1, h2⟩
  · exact wpOp_step ho fun K' hK => h2 o ho K' fun b W h1 h2 => hK _ _ ⟨h1, h2⟩
end
end Go.Proofs.Ytlhnfdjidjgfgaa
