/-
  Steps of a derivation in memory.
-/
import Derived.Test.YtlhnfdjidjgfgaaProg
import Derived.Test.YtlhnfdjidjgfgaaTr0
import Derived.Test.YtlhnfdjidjgfgaaXb
import Derived.Test.YtlhnfdjidjgfgaaE6
import Derived.Test.YtlhnfdjidjgfgaaE7
namespace Go.Proofs.Ytlhnfdjidjgfgaa
open Go.RowKit Go.Shelf
set_option linter.unusedVariables false
set_option maxHeartbeats 400000

instance : Inhabited Gt := ⟨⟨0, 0, 0, 0, 0, false, [], []⟩⟩
/-- the eight cells of a step -/
def gotV (g : Gt) (po : Option Addr) (pc : Nat) (bo : Option Addr) (bc : Nat) : List Value :=
  [.int .i64 g.kind, .int .i64 g.a, .int .i64 g.b, .int .i64 g.i, .int .i64 g.j, .bool g.turn, .slice po g.pl.length (g.pl.length + pc), .slice bo g.bs.length (g.bs.length + bc)]
def gotE : Elt Gt where
  ty := 35
  n := 8
  is p w cs g := ∃ po pc bo bc, cs = gotV g po pc bo bc ∧ intE.Row p w po g.pl ∧ treeE.Row p w bo g.bs ∧ g.pl.length + pc ≤ maxLen ∧ g.bs.length + bc ≤ maxLen
  pos := by omega
  len := fun ⟨po, pc, bo, bc, e, _⟩ => by rw [e]; rfl
  one := fun ⟨po, pc, bo, bc, e, _⟩ u hu => by
    rw [e] at hu; simp [gotV] at hu
    rcases hu with rfl | rfl | rfl | rfl | rfl | rfl | rfl | rfl <;> rfl
  keep := fun hk ⟨po, pc, bo, bc, e, h1, h2, h3⟩ => ⟨po, pc, bo, bc, e, h1.keep hk, h2.keep hk, h3⟩
theorem Elt.Row.got {p : Nat → Prop} {w : World} {ao : Option Addr} {gs : List Gt} (h : gotE.Row p w ao gs) {i : Nat} (hi : i < gs.length) :
    ∃ b off po pc bo bc, ao = some ⟨b, off, none⟩ ∧ p b ∧ (∀ (j : Nat) u, (gotV gs[i] po pc bo bc)[j]? = some u → w.cell? ⟨b, off + i * 8 + j, none⟩ = some u) ∧
      intE.Row p w po gs[i].pl ∧ treeE.Row p w bo gs[i].bs ∧ gs[i].pl.length + pc ≤ maxLen ∧ gs[i].bs.length + bc ≤ maxLen := by
  obtain ⟨b, off, c, e, hp, hc, po, pc, bo, bc, rfl, h1, h2, h3, h4⟩ := h i gs[i] (List.getElem?_eq_getElem hi)
  exact ⟨b, off, po, pc, bo, bc, e, hp, hc, h1, h2, h3, h4⟩
end Go.Proofs.Ytlhnfdjidjgfgaa
