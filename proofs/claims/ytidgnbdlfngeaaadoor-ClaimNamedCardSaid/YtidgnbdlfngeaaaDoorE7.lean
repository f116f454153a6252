/-
  Walks: a tree whose variables are numbered by a list.
-/
import Derived.Test.YtidgnbdlfngeaaaDoorProg
import Derived.Test.YtidgnbdlfngeaaaDoorE6
import Derived.Test.YtidgnbdlfngeaaaDoorXb
import Derived.Deep.RegionLaw
import Derived.RegionTactic
namespace Go.Proofs.YtidgnbdlfngeaaaDoor
open Go.RowKit Go.Shelf
set_option linter.unusedVariables false
set_option maxHeartbeats 400000

def renH (l : List Int) (h : Int) : Nat → Int
  | 0 => h
  | n + 1 => if gI l n = h then -(n : Int) - 1 else renH l h n
mutual
def T.renum (l : List Int) : T → T
  | .node h ks => .node (renH l h l.length) (renumL l ks)
def renumL (l : List Int) : List T → List T
  | [] => []
  | t :: r => t.renum l :: renumL l r
end
theorem renumL_append (l : List Int) : ∀ (a b : List T), renumL l (a ++ b) = renumL l a ++ renumL l b
  | [], b => rfl
  | t :: r, b => by simp [renumL, renumL_append l r b]
theorem renumL_take (l : List Int) {ks : List T} {k : Nat} (h : k < ks.length) : renumL l (ks.take (k + 1)) = renumL l (ks.take k) ++ [(gK ks k).renum l] := by
  rw [take_gK h, renumL_append]; rfl
theorem renumL_length (l : List Int) : ∀ (ks : List T), (renumL l ks).length = ks.length
  | [] => rfl
  | t :: r => by simp [renumL, renumL_length l r]
theorem T.renum_eq (l : List Int) (t : T) : t.renum l = .node (renH l t.head l.length) (renumL l t.kids) := by cases t; rfl

theorem Elt.Row.rowP {p : Nat → Prop} {w : World} {ao : Option Addr} {ks : List T} (h : treeE.Row p w ao ks) : RowP p w ao ks := fun i hi => by
  obtain ⟨b, off, k, sp, e, hp, h1, h2, h3⟩ := h.tree hi
  rw [gK_get hi]
  exact ⟨b, off, k, sp, e, hp, h1, h2, h3⟩
theorem RowP.elt {p : Nat → Prop} {w : World} {ao : Option Addr} {ks : List T} (h : RowP p w ao ks) : treeE.Row p w ao ks := fun i x hx => by
  obtain ⟨hi, rfl⟩ := List.getElem?_eq_some_iff.1 hx
  obtain ⟨b, off, k, sp, e, hp, h1, h2, h3⟩ := h i hi
  rw [gK_get hi] at h1 h2 h3
  refine ⟨b, off, _, e, hp, fun j u hu => ?_, k, sp, rfl, h3⟩
  match j with
  | 0 => simp at hu; subst hu; exact h1
  | 1 => simp at hu; subst hu; exact h2
  | j + 2 => simp at hu

end Go.Proofs.YtidgnbdlfngeaaaDoor
