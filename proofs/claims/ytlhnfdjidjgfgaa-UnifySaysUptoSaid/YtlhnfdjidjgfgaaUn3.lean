/-
  Plain: the closed fact of the unification laws.
-/
import Derived.Test.YtlhnfdjidjgfgaaUx8
namespace Go.Proofs.Ytlhnfdjidjgfgaa
open Go.RowKit
set_option linter.unusedVariables false
set_option maxHeartbeats 400000

def lf2 : T := .node 2 []
def fA : T := .node 1 [vT 0, lf2]
def fB : T := .node 1 [vT 1, vT 0]
def fC : T := .node 1 [vT 0, lf2]
theorem fA_ok : (treeF fA).1 = 0 := by rfl
theorem fB_ok : (treeF fB).1 = 0 := by rfl
theorem f0_ok : (treeF (vT 0)).1 = 0 := by rfl
theorem fAB_n : uN fA fB = 2 := by
  unfold uN
  simp [mostL, T.most_eq, fA, fB, vT, lf2, T.head, T.kids]
  rfl
def s1 (x : Nat) : T := if x < 2 then lf2 else vT x
theorem lf2_inst (θ : Nat → T) : lf2.inst θ = lf2 := by
  rw [inst_node (by show ¬ (2 : Int) < 0; omega)]; rfl
theorem fA_inst (θ : Nat → T) : fA.inst θ = .node 1 [θ 0, lf2] := by
  rw [inst_node (by show ¬ (1 : Int) < 0; omega)]
  show T.node 1 (instL θ [vT 0, lf2]) = _
  simp only [instL, vT_inst, lf2_inst]
theorem fB_inst (θ : Nat → T) : fB.inst θ = .node 1 [θ 1, θ 0] := by
  rw [inst_node (by show ¬ (1 : Int) < 0; omega)]
  show T.node 1 (instL θ [vT 1, vT 0]) = _
  simp only [instL, vT_inst]
theorem s1_canon : Canon (fun θ => fA.inst θ = fB.inst θ) s1 := by
  refine ⟨?_, fun θ h x => ?_, fun x => ?_, fun x y h => ?_⟩
  · show fA.inst s1 = fB.inst s1
    rw [fA_inst, fB_inst]; rfl
  · have h : fA.inst θ = fB.inst θ := h
    rw [fA_inst, fB_inst] at h
    injection h with _ h
    injection h with h0 h1
    injection h1 with h1 _
    unfold s1
    by_cases hx : x < 2
    · rw [if_pos hx, lf2_inst]
      rcases (show x = 0 ∨ x = 1 by omega) with rfl | rfl
      · exact h1
      · rw [← h0]; exact h1
    · rw [if_neg hx, vT_inst]
  · unfold s1
    by_cases hx : x < 2
    · rw [if_pos hx]
      exact LV.of (fun h => rfl) (fun i hi => by simp [lf2, T.kids] at hi)
    · rw [if_neg hx]; exact LV.vT x
  · unfold s1 at h
    by_cases hx : x < 2
    · rw [if_pos hx] at h
      have := congrArg T.head h
      rw [vT_head] at this
      have h2 : (2 : Int) = -(y : Int) - 1 := this
      omega
    · rw [if_neg hx] at h
      obtain rfl := vT_inj h
      exact ⟨Nat.le_refl _, by unfold s1; rw [if_neg hx]⟩
theorem s1_fit (x : Nat) (h : s1 x ≠ vT x) : fitN 0 1 (s1 x) := by
  unfold s1 at h ⊢
  by_cases hx : x < 2
  · rw [if_pos hx]; unfold fitN; rw [T.size_eq, T.deep_eq]; simp [lf2, T.kids, sizeL, deepL]
  · rw [if_neg hx] at h; exact absurd rfl h
theorem factU1 {L : List T} {ok : Bool} {f : Int × Int} (h : UAns fA fB L ok f) : L = [lf2, lf2] ∧ ok = true ∧ f = (0, 0) := by
  rcases h with ⟨h, _⟩ | ⟨_, h, _⟩ | ⟨_, _, h⟩
  · exact absurd fA_ok h
  · exact absurd fB_ok h
  · rcases h with ⟨_, _, _, h⟩ | ⟨_, _, _, σ, h⟩ | ⟨σ, h, hL, h2, h3⟩
    · exact absurd s1_canon.sol (h s1)
    · obtain rfl := h.can.unique s1_canon
      obtain ⟨x, _, h1, h2⟩ := h.big
      exact absurd (s1_fit x h1) h2
    · obtain rfl := h.can.unique s1_canon
      refine ⟨?_, h2, h3⟩
      rw [hL, fAB_n]
      have key : ∀ x, x < 2 → bnd s1 x = lf2 := fun x hx => by
        unfold bnd
        have : s1 x = lf2 := by unfold s1; rw [if_pos hx]
        rw [this, if_neg (fun e => by have := congrArg T.head e; rw [vT_head] at this; have h2 : (2 : Int) = -(x : Int) - 1 := this; omega)]
      simp only [listT, List.range, List.range.loop, List.map, key 0 (by omega), key 1 (by omega)]
theorem factU2 {L : List T} {ok : Bool} {f : Int × Int} (h : UAns (vT 0) fC L ok f) : L = [] ∧ ok = false ∧ f = (0, 0) := by
  have hno : NoU (vT 0) fC := fun θ h => by
    rw [vT_inst, show fC = fA from rfl, fA_inst] at h
    have := congrArg T.size h
    conv at this => rhs; rw [T.size_eq]; simp only [T.kids, sizeL]
    omega
  rcases h with ⟨h, _⟩ | ⟨_, h, _⟩ | ⟨_, _, h⟩
  · exact absurd f0_ok h
  · exact absurd fA_ok h
  · rcases h with ⟨h1, h2, h3, _⟩ | ⟨_, _, _, σ, h⟩ | ⟨σ, h, hL, h2, h3⟩
    · exact ⟨h1, h2, h3⟩
    · exact absurd h.can.sol (hno σ)
    · exact absurd h.can.sol (hno σ)
end Go.Proofs.Ytlhnfdjidjgfgaa
