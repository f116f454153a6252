/-
  Walk: the closed fact of the laws on derivations.
-/
import Derived.Test.YtlhnfdjidjgfgaaProg
import Derived.Test.YtlhnfdjidjgfgaaKf2
namespace Go.Proofs.Ytlhnfdjidjgfgaa
open Go.RowKit Go.Shelf
set_option linter.unusedVariables false
set_option maxHeartbeats 400000

theorem gotE_row2 {w : World} {b : Nat} {q : Nat → Prop} (h : w.heap[b]? = some (.cells #[.int .i64 1, .int .i64 0, .int .i64 0, .int .i64 0, .int .i64 0, .bool false, .slice none 0 0, .slice none 0 0, .int .i64 4, .int .i64 0, .int .i64 0, .int .i64 0, .int .i64 0, .bool false, .slice none 0 0, .slice none 0 0] 35 (0, 0))) (hb : q b) :
    gotE.Row q w (some ⟨b, 0, none⟩) [gClaim, gOnce] := fun i g hi => by
  match i with
  | 0 =>
    simp at hi; subst hi
    refine ⟨b, 0, gotV gClaim none 0 none 0, rfl, hb, fun j u hu => ?_, none, 0, none, 0, rfl, Elt.Row.nil, Elt.Row.nil, by simp [gClaim], by simp [gClaim]⟩
    match j with
    | 0 | 1 | 2 | 3 | 4 | 5 | 6 | 7 => simp [gotV, gClaim] at hu; subst hu; simp [World.cell?, h]
    | j + 8 => simp [gotV] at hu
  | 1 =>
    simp at hi; subst hi
    refine ⟨b, 0, gotV gOnce none 0 none 0, rfl, hb, fun j u hu => ?_, none, 0, none, 0, rfl, Elt.Row.nil, Elt.Row.nil, by simp [gOnce], by simp [gOnce]⟩
    match j with
    | 0 | 1 | 2 | 3 | 4 | 5 | 6 | 7 => simp [gotV, gOnce] at hu; subst hu; simp [World.cell?, h, gotE]
    | j + 8 => simp [gotV] at hu
  | i + 2 => simp at hi

set_option maxRecDepth 100000 in
set_option maxHeartbeats 8000000 in
theorem traceFact23 (w : World) : Calls Try.prog 23 #[] w fun e w' => e = .returned (.bool true) ∧ Below w.heap.size w w' := by
  have S := St.start w
  go_enter Try.func23, Try.ntmps23
  go_wp2_with fail
  refine (apart30 w).mono ?_
  rintro e w1 ⟨ao, co, rfl, ha, hc, hb1⟩
  have S1 := S.step hb1
  have HA := Lib.hid ha; have HC := Lib.hid hc
  clear S ha hc hb1
  go_wp2_with fail
  have S2 := S1.box (b := w1.heap.size) rfl #[.int .i64 1, .int .i64 0, .int .i64 0, .int .i64 0, .int .i64 0, .bool false, .slice none 0 0, .slice none 0 0, .int .i64 4, .int .i64 0, .int .i64 0, .int .i64 0, .int .i64 0, .bool false, .slice none 0 0, .slice none 0 0] 35
  have hl := S2.lt 0
  have HAL := Lib.hid (show Below w1.heap.size w1 (w1.alloc (.cells #[.int .i64 1, .int .i64 0, .int .i64 0, .int .i64 0, .int .i64 0, .bool false, .slice none 0 0, .slice none 0 0, .int .i64 4, .int .i64 0, .int .i64 0, .int .i64 0, .int .i64 0, .bool false, .slice none 0 0, .slice none 0 0] 35)) from (Below.refl _ w1).alloc (Nat.le_refl _) _)
  refine (ends21 [0] apartC [gClaim, gOnce] ao co (some ⟨w1.heap.size, 0, none⟩) 1 1 2 _ ((HA.out.kept HAL.out).mono (fun b h h2 => h2)) ((HC.out.kept HAL.out).mono (fun b h h2 => h2)) (gotE_row2 (S2.block 0) hl) (by unfold maxLen; simp) (by unfold maxLen; simp [apartC]) (by unfold maxLen; simp)).mono ?_
  rintro e w2 ⟨rfl, hb2⟩
  rw [apart_ends]
  have S3 := S2.step hb2
  have S4 := S3.box (b := w2.heap.size) rfl #[.int .i64 0, .int .i64 0] 29
  clear S1 S2 S3 hl hb2 HA HC HAL
  obtain ⟨b2, hb2⟩ : ∃ b, b = w2.heap.size := ⟨_, rfl⟩
  go_wp2_with fail
  rw [← hb2] at S4 ⊢
  refine S4.gen (z := b2 + 1) (by simp [hb2]) ?_
  clear S4 hb2
  intro w3 z3 S4
  refine (apart30 w3).mono ?_
  rintro e w4 ⟨ao2, co2, rfl, ha, hc, hb4⟩
  have S5 := S4.step hb4
  have z4 := hb4.size
  have HA := Lib.hid ha; have HC := Lib.hid hc
  clear S4 ha hc hb4
  go_wp2_with fail
  refine (ends21 [0] apartC [] ao2 co2 none 1 1 0 w4 (HA.out.mono (fun b h h2 => h2)) (HC.out.mono (fun b h h2 => h2)) Elt.Row.nil (by unfold maxLen; simp) (by unfold maxLen; simp [apartC]) (by unfold maxLen; simp)).mono ?_
  rintro e w5 ⟨rfl, hb5⟩
  rw [apart_ends0]
  have S6 := S5.step hb5
  obtain ⟨b6, hb6⟩ : ∃ b, b = w5.heap.size := ⟨_, rfl⟩
  have S7 := S6.box hb6.symm #[.int .i64 0, .int .i64 0] 29
  obtain ⟨⟨x0, _⟩, x1, _⟩ := S7.two 1
  obtain ⟨⟨y0, _⟩, y1, _⟩ := S7.two 2
  have SB := Lib.hid S7
  clear S5 S6 S7 hb5 HA HC
  go_wp2_with fail
  go_ret
  exact ⟨rfl, SB.out.bel⟩
end Go.Proofs.Ytlhnfdjidjgfgaa
