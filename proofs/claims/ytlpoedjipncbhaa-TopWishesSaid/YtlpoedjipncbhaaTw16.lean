/-
  Walk: top.clausesSure is so.
-/
import Derived.Test.YtlpoedjipncbhaaProg
import Derived.Test.YtlpoedjipncbhaaTw15
namespace Go.Proofs.Ytlpoedjipncbhaa
open Go.RowKit Go.Shelf Go.Maps
set_option linter.unusedVariables false
set_option linter.unusedSimpArgs false
set_option maxHeartbeats 400000

theorem TwoC.row {w : World} {g1 g2 g3 : Nat} (h : TwoC w g1 g2 g3) : intsE.Row (fun _ => True) w (some ⟨g3, 0, none⟩) cs2 := fun i y hi => by
  match i, hi with
  | 0, hi =>
    obtain rfl : [1] = y := by simpa [cs2] using hi
    refine ⟨g3, 0, [.slice (some ⟨g1, 0, none⟩) 1 1], rfl, trivial, fun j u hu => ?_, some ⟨g1, 0, none⟩, 0, rfl, (row_one h.c1).mono (fun _ _ _ => trivial), by unfold maxLen; simp⟩
    rcases j with _ | j
    · simp at hu; subst hu; simp [World.cell?, h.c3, intsE]
    · simp at hu
  | 1, hi =>
    obtain rfl : [-1] = y := by simpa [cs2] using hi
    refine ⟨g3, 0, [.slice (some ⟨g2, 0, none⟩) 1 1], rfl, trivial, fun j u hu => ?_, some ⟨g2, 0, none⟩, 0, rfl, (row_one h.c2).mono (fun _ _ _ => trivial), by unfold maxLen; simp⟩
    rcases j with _ | j
    · simp at hu; subst hu; simp [World.cell?, h.c3, intsE]
    · simp at hu
  | i + 2, hi => simp [cs2] at hi
set_option maxRecDepth 100000 in
set_option maxHeartbeats 4000000 in
theorem sure9 (w : World) : Calls Try.prog 9 #[] w fun e w' => e = .returned (.bool true) ∧ Below w.heap.size w w' := by
  obtain ⟨bx, hbx⟩ : ∃ b, b = w.heap.size := ⟨_, rfl⟩
  have S1 := (((St.start w).box hbx.symm #[.int .i64 1] 3).box (b := bx + 1) (by simp [hbx]) #[.int .i64 (-1)] 3).box (b := bx + 2) (by simp [hbx]) #[.slice (some ⟨bx, 0, none⟩) 1 1, .slice (some ⟨bx + 1, 0, none⟩) 1 1] 22
  have HBX := Lib.hid hbx
  go_enter Try.func9, Try.ntmps9
  go_wp2_with fail
  rw [← hbx]
  simp only [Nat.add_assoc, Nat.reduceAdd]
  refine S1.gen (z := bx + 3) (by simp [hbx]) ?_
  clear S1 hbx
  intro w1 z1 S
  have HT := Lib.hid (show TwoC w1 bx (bx + 1) (bx + 2) from ⟨S.block 0, S.block 1, S.block 2⟩)
  refine (do18 bx (bx + 1) (bx + 2) w1 HT.out HT.out.row).mono ?_
  rintro e w2 ⟨⟨sao, scap, rfl⟩, hb2⟩
  have S2 := S.step hb2
  obtain ⟨b1, hb1⟩ : ∃ b, b = w2.heap.size := ⟨_, rfl⟩
  have S3 := (S2.box hb1.symm #[.int .i64 2, .slice none 0 0, .slice sao 1 scap, .slice none 0 0, .int .i64 1] 48).box (b := b1 + 1) (by simp [hb1]) #[.int .i64 0, .int .i64 0] 32
  clear S S2 hb2
  go_upto_region 2 with fail
  rw [← hb1]
  refine S3.genC (z := 0) (by omega) ?_
  clear S3 hb1
  intro w3 z3 S
  obtain ⟨x0, _⟩ := S.cell 3 0 rfl
  obtain ⟨⟨y0, _⟩, _⟩ := S.two 4
  have SB := Lib.hid S
  clear S
  go_wp2_with fail
  go_ret
  exact ⟨rfl, SB.out.bel⟩
end Go.Proofs.Ytlpoedjipncbhaa
