/-
  Plain: a derivation that ends, of one claim that is not so; what Ends answers.
-/
import Derived.Test.YtlhnfdjidjgfgaaTr0
namespace Go.Proofs.Ytlhnfdjidjgfgaa
open Go.RowKit Go.Shelf
set_option linter.unusedVariables false
set_option maxHeartbeats 400000

noncomputable def endsF (ar : List Int) (cs : List (List Fc)) (gs : List Gt) : Bool × (Int × Int) :=
  if (takeF ar cs gs).2.1 ≠ 0 then (false, (takeF ar cs gs).2) else (decide (∃ c, (takeF ar cs gs).1.getLast? = some c ∧ c = []), (0, 0))
def leaf1 : T := .node 1 []
def apartC : List (List Fc) := [[⟨true, leaf1, leaf1⟩]]
def gClaim : Gt := ⟨1, 0, 0, 0, 0, false, [], []⟩
def gOnce : Gt := ⟨4, 0, 0, 0, 0, false, [], []⟩
theorem apart_code : codeF [0] [⟨true, leaf1, leaf1⟩] = 0 := by decide +kernel
theorem apart_none : codeF [0] [] = 0 := by decide +kernel
theorem apart_lore : loreF [0] apartC = (0, 0) := by decide +kernel
theorem apart_step1 : stepF [0] apartC [] gClaim = ([⟨true, leaf1, leaf1⟩], 0) := by
  have ho : outF apartC [] gClaim = [⟨true, leaf1, leaf1⟩] := by unfold outF; rw [if_pos (show gClaim.kind = 1 from rfl)]; rfl
  unfold stepF
  rw [if_neg (by decide), if_neg (by decide), if_neg (fun h => absurd h.1 (by decide)), if_neg (fun h => absurd h.1 (by decide)), ho, if_neg (by rw [apart_code]; simp)]
theorem apart_once : onceF [⟨true, leaf1, leaf1⟩] = [] := by
  show onceL [] [⟨true, leaf1, leaf1⟩] = []
  rw [onceL, if_pos (show skipP [] ⟨true, leaf1, leaf1⟩ from Or.inl ⟨rfl, rfl⟩)]; rfl
theorem apart_step2 : stepF [0] apartC [[⟨true, leaf1, leaf1⟩]] gOnce = ([], 0) := by
  have ho : outF apartC [[⟨true, leaf1, leaf1⟩]] gOnce = [] := by
    unfold outF
    rw [if_neg (show ¬ gOnce.kind = 1 by decide), if_neg (show ¬ gOnce.kind = 2 by decide), if_neg (show ¬ gOnce.kind = 3 by decide)]
    exact apart_once
  unfold stepF
  rw [if_neg (by decide), if_neg (by decide), if_neg (fun h => absurd h.1 (by decide)), if_neg (fun h => absurd h.1 (by decide)), ho, if_neg (by rw [apart_none]; simp)]
theorem apart_take : takeF [0] apartC [gClaim, gOnce] = ([[⟨true, leaf1, leaf1⟩], []], (0, 0)) := by
  unfold takeF
  rw [apart_lore, if_neg (by simp), if_neg (by simp), takeGo, apart_step1, if_neg (by simp)]
  show takeGo [0] apartC [gOnce] [[⟨true, leaf1, leaf1⟩]] _ = _
  rw [takeGo, apart_step2, if_neg (by simp), takeGo]; rfl
theorem apart_take0 : takeF [0] apartC [] = ([], (0, 0)) := by
  unfold takeF
  rw [apart_lore, if_neg (by simp), if_neg (by simp), takeGo]
theorem apart_ends : endsF [0] apartC [gClaim, gOnce] = (true, (0, 0)) := by
  unfold endsF
  rw [apart_take, if_neg (by simp)]
  congr 1
theorem apart_ends0 : endsF [0] apartC [] = (false, (0, 0)) := by
  unfold endsF
  rw [apart_take0, if_neg (by simp)]
  congr 1
end Go.Proofs.Ytlhnfdjidjgfgaa
