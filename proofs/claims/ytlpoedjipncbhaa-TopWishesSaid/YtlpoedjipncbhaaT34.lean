/-
  How an argument of integers reads.
-/
import Derived.Test.YtlpoedjipncbhaaRows
import Derived.Test.YtlpoedjipncbhaaBase
import Derived.WalkKit
import Derived.ProofKit
import Derived.OpenShut
import Derived.ChangeOld
import Derived.Below
import Derived.Deep.Slices
import Derived.ChangeSlices
namespace Go.Proofs.Ytlpoedjipncbhaa
open Go.ChangeShapes Go.WideShapes Go.ChangeAt Go.RowKit
set_option linter.unusedVariables false

section
variable {H : Type} {enc : TypeId × Value → H} {W : World} {held : Bool}
theorem ints_arg {d : DataW H} {pl : List MemPlace} {ao : Option Addr} {len cap : Nat} (h : DataW.Trod enc Try.prog W 0 (fun _ => true) held 22 (.slice ao len cap) d pl) :
    ∃ zs : List Int, len = zs.length ∧ CellsAt W ao zs.length (fun i => .int .i64 (gI zs i)) ∧ zs.length ≤ cap ∧ cap ≤ 9223372036854775807 ∧ (ao = none → zs.length = 0 ∧ cap = 0) := by
  obtain ⟨n, hf⟩ := h
  rcases open_ints Try.underlying22 Try.underlying3 (by kernel_rfl) hf with ⟨hcs, _⟩ | ⟨x, l, c, zs, hcs, _, hl, hm, hz, _, hcell, hwz⟩
  · simp [Value.cells] at hcs
    obtain ⟨rfl, rfl, rfl⟩ := hcs
    exact ⟨[], rfl, fun j hj => by simp at hj, by simp, by simp, fun _ => ⟨rfl, rfl⟩⟩
  · simp [Value.cells] at hcs
    obtain ⟨rfl, rfl, rfl⟩ := hcs
    have hz' : len ≤ zs.length := by simp at hz; omega
    have hlen : (zs.take len).length = len := by simp; omega
    refine ⟨zs.take len, hlen.symm, fun j hj => ?_, by omega, hm, fun h => by cases h⟩
    rw [hlen] at hj
    have h0 := hcell 0 (by omega)
    have hs : x.spot = none := by simpa [Addr.add] using World.cell?_spot h0
    obtain ⟨b, o, s⟩ := x
    simp only at hs
    subst hs
    refine ⟨b, o, rfl, ?_⟩
    have hj' := hcell j (by omega)
    have hg : gI (zs.take len) j = zs.getD j 0 := by
      simp [gI, List.getD, hj]
    show W.cell? ⟨b, o + j, none⟩ = some (.int .i64 (gI (zs.take len) j))
    rw [hg, ← hj']
    unfold Addr.add
    split
    · rename_i h; subst h; rfl
    · rfl
end
end Go.Proofs.Ytlpoedjipncbhaa
