/-
  Walks: the order of a tree's variables.
-/
import Derived.Test.YtidgnbdlfngeaaaDoorProg
import Derived.Test.YtidgnbdlfngeaaaDoorXd
import Derived.Test.YtidgnbdlfngeaaaDoorSt3
import Derived.Test.YtidgnbdlfngeaaaDoorXa
namespace Go.Proofs.YtidgnbdlfngeaaaDoor
open Go.RowKit Go.Shelf
set_option linter.unusedVariables false
set_option maxHeartbeats 400000

/-- an integer -/
def intE : Elt Int where
  ty := 3
  n := 1
  is p w cs a := cs = [.int .i64 a]
  pos := by omega
  len := fun e => by rw [e]; rfl
  one := fun e u hu => by rw [e] at hu; simp at hu; subst hu; rfl
  keep := fun hk e => e
theorem Elt.Row.int {p : Nat → Prop} {w : World} {ao : Option Addr} {cs : List Int} (h : intE.Row p w ao cs) {i : Nat} (hi : i < cs.length) : ∃ b off, ao = some ⟨b, off, none⟩ ∧ p b ∧ w.cell? ⟨b, off + i, none⟩ = some (.int .i64 cs[i]) := by
  obtain ⟨b, off, c, e, hp, hc, rfl⟩ := h i cs[i] (List.getElem?_eq_getElem hi)
  exact ⟨b, off, e, hp, by have := hc 0 _ rfl; simpa [intE] using this⟩
theorem infoI : (Tryd.prog.info? 3).map (fun i => (i.zero, i.size, i.bytes)) = some (some (.int .i64 0), 1, 8) := by kernel_rfl

mutual
def T.order : T → List Int → List Int
  | .node h ks, had => if h < 0 then (if h ∈ had then had else had ++ [h]) else orderL ks had
def orderL : List T → List Int → List Int
  | [], had => had
  | t :: r, had => orderL r (t.order had)
end
theorem orderL_append : ∀ (a b : List T) (had : List Int), orderL (a ++ b) had = orderL b (orderL a had)
  | [], b, had => rfl
  | t :: r, b, had => by simp only [List.cons_append, orderL]; exact orderL_append r b _
theorem orderL_take {l : List T} {i : Nat} (h : i < l.length) (had : List Int) : orderL (l.take (i + 1)) had = (gK l i).order (orderL (l.take i) had) := by
  rw [take_gK h, orderL_append]; rfl
mutual
theorem T.order_length : ∀ (t : T) (had : List Int), (t.order had).length ≤ had.length + t.size
  | .node h ks, had => by
    simp only [T.order, T.size]
    split
    · split
      · omega
      · simp only [List.length_append, List.length_cons, List.length_nil]; omega
    · have := orderL_length ks had; omega
theorem orderL_length : ∀ (l : List T) (had : List Int), (orderL l had).length ≤ had.length + sizeL l
  | [], had => by simp [orderL, sizeL]
  | t :: r, had => by
    simp only [orderL, sizeL]
    have h1 := T.order_length t had
    have h2 := orderL_length r (t.order had)
    omega
end
/-- the second fact ahead of the first -/
theorem St.swap {w0 w : World} {f g : Fct} {l : List Fct} (S : St w0 w (f :: g :: l)) : St w0 w (g :: f :: l) := S.sub fun h hh => by simp at hh ⊢; rcases hh with rfl | rfl | hh <;> simp [*]
theorem St.drop2 {w0 w : World} {f g : Fct} {l : List Fct} (S : St w0 w (f :: g :: l)) : St w0 w (f :: l) := S.sub fun h hh => by simp at hh ⊢; rcases hh with rfl | hh <;> simp [*]
theorem Elt.Own.mono {α : Type} {E : Elt α} {p q : Nat → Prop} {B : Nat} {w : World} {o : Value} {xs : List α} (h : E.Own p B w o xs) (hpq : ∀ b, p b → q b) : E.Own q B w o xs := by
  obtain ⟨css, h1, h2, h3⟩ := h
  exact ⟨css, h1, h2, fun i cs x e1 e2 => E.keep (fun b hb _ => ⟨rfl, hpq b hb.1, hb.2⟩) (h3 i cs x e1 e2)⟩
def pF : Nat → Prop := fun _ => False

end Go.Proofs.YtidgnbdlfngeaaaDoor
