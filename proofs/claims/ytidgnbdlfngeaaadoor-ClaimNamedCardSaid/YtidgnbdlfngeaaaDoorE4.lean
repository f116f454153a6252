/-
  Walks: is a lore vast?
-/
import Derived.Test.YtidgnbdlfngeaaaDoorProg
import Derived.Test.YtidgnbdlfngeaaaDoorXd
namespace Go.Proofs.YtidgnbdlfngeaaaDoor
open Go.RowKit Go.Shelf
set_option linter.unusedVariables false
set_option maxHeartbeats 400000

def bigT (t : T) : Bool := decide ((200 : Int) < t.size)
def vastC (c : List Fc) : Bool := decide (40 < (treesF c).length) || (treesF c).any bigT
def vastL (na : Nat) (cs : List (List Fc)) : Bool := decide (80 < cs.length) || decide (40 < na) || cs.any vastC
theorem any_take {α : Type} {p : α → Bool} {l : List α} {k : Nat} {x : α} (hx : l[k]? = some x) (h : p x = true) : l.any p = true := List.any_eq_true.2 ⟨x, List.mem_of_getElem? hx, h⟩
theorem any_none {α : Type} {p : α → Bool} {l : List α} (h : ∀ (j : Nat) x, j < l.length → l[j]? = some x → p x = false) : l.any p = false := by
  rw [List.any_eq_false]
  intro x hx
  obtain ⟨j, hj, rfl⟩ := List.getElem_of_mem hx
  rw [h j _ hj (List.getElem?_eq_getElem hj)]; simp
theorem no_step {α : Type} {p : α → Bool} {l : List α} {k : Nat} (hk : k < l.length) (h : ∀ (j : Nat) x, j < k → l[j]? = some x → p x = false) (h2 : p l[k] = false) : ∀ (j : Nat) x, j < k + 1 → l[j]? = some x → p x = false := fun j x hj hx => by
  rcases Nat.lt_succ_iff_lt_or_eq.1 hj with h3 | rfl
  · exact h j x h3 hx
  · rw [List.getElem?_eq_getElem hk] at hx
    obtain rfl := Option.some.inj hx
    exact h2
theorem Elt.Row.claim {p : Nat → Prop} {w : World} {ao : Option Addr} {cs : List (List Fc)} (h : claimE.Row p w ao cs) {i : Nat} (hi : i < cs.length) : ∃ b off k sp, ao = some ⟨b, off, none⟩ ∧ p b ∧
    w.cell? ⟨b, off + i, none⟩ = some (.slice k cs[i].length (cs[i].length + sp)) ∧ factE.Row p w k cs[i] ∧ cs[i].length ≤ maxLen := by
  obtain ⟨b, off, c, e, hp, hc, k, sp, rfl, h1, h2⟩ := h i cs[i] (List.getElem?_eq_getElem hi)
  exact ⟨b, off, k, sp, e, hp, by have := hc 0 _ rfl; simpa [claimE] using this, h1, h2⟩

end Go.Proofs.YtidgnbdlfngeaaaDoor
