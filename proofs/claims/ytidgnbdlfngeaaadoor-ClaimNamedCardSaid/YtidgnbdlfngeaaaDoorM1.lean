/-
  A map of the call's own from variables to numbers, as a fact of a walk's state.
-/
import Derived.Test.YtidgnbdlfngeaaaDoorProg
import Derived.Test.YtidgnbdlfngeaaaDoorN1
import Derived.Test.YtidgnbdlfngeaaaDoorSt3
import Derived.Maps.OwnSet
import Derived.Maps.Views
import Derived.Maps.OwnOps
import Derived.Maps.Keyed
namespace Go.Proofs.YtidgnbdlfngeaaaDoor
open Go.RowKit Go.Shelf Go.Maps
set_option linter.unusedVariables false

theorem law3 : Keyed Tryd.prog 3 := int_keyed Tryd.underlying3
theorem zero3 (w : World) : (zeroValue 3).run Tryd.prog w = .ok (.int .i64 0) w := by kernel_rfl

/-- block b is a map that holds the numbers of the list's variables -/
def MapI (b : Nat) (L : List Int) (w : World) : Prop :=
  ∃ D : DataW Unit, w.ownsMap Tryd.prog 3 (plainElem Tryd.prog 3) b L.length D ∧ Maps.Tidy D ∧ Maps.size D = L.length ∧ (∀ z : Int, D.atKey (.int .i64 z) (.lit (.int .i64 0)) = .lit (.int .i64 (numL L z))) ∧ ∀ z : Int, (Maps.has D (.int .i64 z) = true ↔ z ∈ L)
theorem MapI.made (w : World) : MapI w.heap.size [] (w.alloc (.map #[] 0)) :=
  ⟨.map [], World.ownsMap_made _ _ _ _, tidy_empty, rfl, fun z => rfl, fun z => by simp [Maps.has]⟩
theorem MapI.put {b : Nat} {L : List Int} {w1 : World} {D : DataW Unit} {z : Int} (hz : z ∉ L) (ht : Maps.Tidy D) (hs : Maps.size D = L.length) (ha : ∀ z : Int, D.atKey (.int .i64 z) (.lit (.int .i64 0)) = .lit (.int .i64 (numL L z))) (hh : ∀ z : Int, (Maps.has D (.int .i64 z) = true ↔ z ∈ L))
    (ho : w1.ownsMap Tryd.prog 3 (plainElem Tryd.prog 3) b (L.length + 1) (D.put (.int .i64 z) (.lit (.int .i64 (-(L.length : Int) - 1))))) : MapI b (L ++ [z]) w1 := by
  have hk : WideAt.IsKeyLit (.int .i64 z) := by simp [WideAt.IsKeyLit]
  have hne : ∀ y, y ≠ z → (Lit.int .i64 y) ≠ .int .i64 z := fun y h e => h (by injection e)
  refine ⟨_, by simpa using ho, ht.put hk _, ?_, fun y => ?_, fun y => ?_⟩
  · rw [size_put ht, if_neg (by rw [hh]; exact hz), hs]; simp
  · rw [numL_snoc]
    by_cases e : z = y
    · subst e; rw [if_pos rfl, atKey_put_same ht.isMap hk]
    · rw [if_neg e, atKey_put_other (hne y (fun h => e h.symm)), ha]
  · by_cases e : y = z
    · subst e; simp [has_put_same ht.isMap hk]
    · rw [has_put_other (hne y e), hh]; simp [e]

def Fct.mapI (b : Nat) (L : List Int) : Fct :=
  ⟨fun c => c = b, MapI b L, fun w w' h hm => by
    obtain ⟨D, ⟨es, clock, hb, r⟩, r2⟩ := hm
    exact ⟨D, ⟨es, clock, (h b rfl (Array.getElem?_eq_some_iff.1 hb).1).trans hb, r⟩, r2⟩⟩
theorem St.mapI {w0 w : World} {l : List Fct} (S : St w0 w l) (i : Nat) {b : Nat} {L : List Int} (h : Fct.at l i = Fct.mapI b L := by rfl) : MapI b L w := by
  have := S.2 i
  rw [h] at this; exact this
theorem MapI.lt {b : Nat} {L : List Int} {w : World} (h : MapI b L w) : b < w.heap.size := by
  obtain ⟨D, h1, _⟩ := h
  exact h1.lt
/-- a variable's number has been laid -/
theorem St.mapPut {w0 w w1 : World} {l : List Fct} (S : St w0 w l) (i : Nat) {b : Nat} {L M : List Int} (hi : Fct.at l i = Fct.mapI b L) (hm : MapI b M w1) (hg : w.grownBy w1 (some b)) (h0 : w0.heap.size ≤ b) (hoff : offs b i l) : St w0 w1 (fset l i (.mapI b M)) := by
  refine ⟨S.bel.grown hg S.size (fun c hc => by cases hc; exact h0), fun j => ?_⟩
  by_cases hj : j = i
  · subst hj
    rcases at_fset_same (.mapI b M) l j with h | h
    · rw [h]; exact hm
    · rw [h]; trivial
  · rw [at_fset_other _ _ _ _ hj]
    exact (Fct.at l j).stable w w1 (fun c hc hl => hg.block c hl (fun e => by cases e; exact offs_at hoff j hj hc)) (S.2 j)
end Go.Proofs.YtidgnbdlfngeaaaDoor
