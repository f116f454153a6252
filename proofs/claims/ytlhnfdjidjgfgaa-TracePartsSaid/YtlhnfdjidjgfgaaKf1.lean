/-
  Walk: the lore of apart.
-/
import Derived.Test.YtlhnfdjidjgfgaaProg
import Derived.Test.YtlhnfdjidjgfgaaKp
import Derived.Test.YtlhnfdjidjgfgaaXb
import Derived.Test.YtlhnfdjidjgfgaaXd
import Derived.Test.YtlhnfdjidjgfgaaE6
import Derived.Test.YtlhnfdjidjgfgaaK61
import Derived.RegionTactic
namespace Go.Proofs.Ytlhnfdjidjgfgaa
open Go.RowKit Go.Shelf
set_option linter.unusedVariables false
set_option maxHeartbeats 400000

set_option maxRecDepth 100000 in
set_option maxHeartbeats 4000000 in
theorem apart30 (w : World) : Calls Try.prog 30 #[] w fun e w' => ∃ ao co, e = .returned (.agg #[.slice ao 1 1, .slice co 1 1]) ∧ intE.Row (fun b => w.heap.size ≤ b) w' ao [0] ∧ claimE.Row (fun b => w.heap.size ≤ b) w' co apartC ∧ Below w.heap.size w w' := by
  obtain ⟨bx, hbx⟩ : ∃ b, b = w.heap.size := ⟨_, rfl⟩
  have S1 := ((St.start w).box hbx.symm #[.slice none 0 0, .slice none 0 0] 25).box (b := bx + 1) (by simp [hbx]) #[.int .i64 0] 3
  have HBX := Lib.hid hbx
  go_enter Try.func30, Try.ntmps30
  go_wp2_with fail
  rw [← hbx]
  refine S1.gen (z := bx + 2) (by simp [hbx]) ?_
  intro w1 z1 S
  clear S1 hbx
  refine (S.quiet (leaf25 1 w1)).mono ?_
  rintro e w2 ⟨rfl, z2, S2⟩
  clear S
  go_wp2_with fail
  refine (S2.quiet (leaf25 1 w2)).mono ?_
  rintro e w3 ⟨rfl, z3, S3⟩
  have S4 := (S3.box (b := w3.heap.size) rfl #[.bool true, .int .i64 1, .slice none 0 0, .int .i64 1, .slice none 0 0] 62).box (b := w3.heap.size + 1) (by simp) #[.slice (some ⟨w3.heap.size, 0, none⟩) 1 1] 41
  have hz4 : bx + 2 ≤ w3.heap.size := by omega
  obtain ⟨⟨x0, x1⟩, x2, x3⟩ := S4.two 0
  have hl := S4.lt 0
  have SG := Lib.hid (S4.set2 0 rfl (.slice (some ⟨bx + 1, 0, none⟩) 1 1) (.slice (some ⟨w3.heap.size + 1, 0, none⟩) 1 1) (by have := HBX.out; omega) (by simp only [fsnoc, offs, offAll, Fct.box, and_true]; omega))
  clear S2 S3 S4
  go_wp2_with fail
  refine bodyPost_ret (v := .agg #[.slice (some ⟨bx + 1, 0, none⟩) 1 1, .slice (some ⟨w3.heap.size + 1, 0, none⟩) 1 1]) ?_ rfl ?_
  · obtain ⟨⟨z0, _⟩, z2, _⟩ := SG.out.two 0
    simp [results, Try.results30, go_sem, z0, z2]
  · have hx := HBX.out
    have k1 := SG.out.block 1
    have k3 := SG.out.block 3
    have k2 := fact_row5 (L := ⟨true, leaf1, leaf1⟩) (k1 := none) (k2 := none) (s1 := 0) (s2 := 0) (q := fun b => w.heap.size ≤ b) (SG.out.block 2) (by show w.heap.size ≤ w3.heap.size; omega) (TreeP.leaf _ _ 1) (TreeP.leaf _ _ 1)
    refine ⟨_, _, rfl, fun i x hi => ?_, fun i x hi => ?_, SG.out.bel⟩
    · match i with
      | 0 =>
        simp at hi; subst hi
        refine ⟨bx + 1, 0, [.int .i64 0], rfl, by show w.heap.size ≤ bx + 1; omega, fun j u hu => ?_, rfl⟩
        simp only [World.cell?, k1, Option.isSome_none]
        simpa using hu
      | i + 1 => simp at hi
    · match i with
      | 0 =>
        simp [apartC] at hi; subst hi
        refine ⟨w3.heap.size + 1, 0, [.slice (some ⟨w3.heap.size, 0, none⟩) 1 1], rfl, by show w.heap.size ≤ w3.heap.size + 1; omega, fun j u hu => ?_, some ⟨w3.heap.size, 0, none⟩, 0, rfl, k2, by show 1 ≤ maxLen; unfold maxLen; omega⟩
        simp only [World.cell?, k3, Option.isSome_none]
        simpa using hu
      | i + 1 => simp [apartC] at hi
end Go.Proofs.Ytlhnfdjidjgfgaa
