/-
  A region that draws its order and stores nothing, walked in one order; no program is named here.
-/
import Derived.Test.YtlhnfdjidjgfgaaG1
namespace Go.Proofs.Ytlhnfdjidjgfgaa
open Go.RowKit
set_option linter.unusedVariables false

section
variable {P : Program} {ops : Array Oper} {Q : Exit → Act → World → Prop} {md : Region.Mode} {S : World → Prop} {st : Nat}
theorem wpG.toH (hst : ops.size ≤ st) : ∀ {fuel : Nat} {listed : Array Bool} {a : Act} {w : World}, wpG P md ops Q S st fuel listed a w → wpAnyH P md ops Q S fuel listed a w
  | 0, _, _, _, h => h
  | fuel + 1, _, _, _, h => ⟨h.1, fun j hj => wpOp_mono (fun _ _ hb => ⟨hb.1 (fun e => by
      obtain ⟨_, o, ho, _⟩ := mem_ready.1 hj
      have := (Array.getElem?_eq_some_iff.1 ho).1
      omega), wpG.toH hst hb.2⟩) (h.2 j hj)⟩
theorem wpG.ofH : ∀ {fuel : Nat} {listed : Array Bool} {a : Act} {w : World}, wpAnyH P md ops Q S fuel listed a w → wpG P md ops Q S st fuel listed a w
  | 0, _, _, _, h => h
  | fuel + 1, _, _, _, h => ⟨h.1, fun j hj => wpOp_mono (fun _ _ hb => ⟨fun _ => hb.1, wpG.ofH hb.2⟩) (h.2 j hj)⟩
/-- take number i now, where no number bears the mark st -/
theorem wpG.take0 {i fuel : Nat} {listed : Array Bool} {a : Act} {w : World} (hs : Region.noSelect ops = true) (hf : Region.free md ops listed i = true) (hr : (Region.ready md ops listed).contains i = true) (hst : decide (ops.size ≤ st) = true) (hS : S w)
    (h : ∀ oi, ops[i]? = some oi → ∃ v, YieldsIf P ops S oi v a ∧ (∀ c b W, Q (.panic c) (Act.put b oi.dst v) W → Q (.panic c) b W) ∧ wpG P md ops Q S st fuel (listed.setIfInBounds i true) (a.put oi.dst v) w) : wpG P md ops Q S st (fuel + 1) listed a w := by
  have hr' : i ∈ Region.ready md ops listed := by simpa using hr
  obtain ⟨_, oi, ho, _⟩ := mem_ready.1 hr'
  obtain ⟨v, hy, hQ, hG⟩ := h oi ho
  exact wpG.ofH (wpAnyH_take ho hs hf hr hQ hy hS (wpG.toH (of_decide_eq_true hst) hG))
end
end Go.Proofs.Ytlhnfdjidjgfgaa
