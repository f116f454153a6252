/-
  Walk: unit.Trail.Run on the two clauses 1 and not 1: the second is false.
-/
import Derived.Test.YtlpoedjipncbhaaProg
import Derived.Test.YtlpoedjipncbhaaTw10
import Derived.LoopN
namespace Go.Proofs.Ytlpoedjipncbhaa
open Go.RowKit Go.Shelf Go.Maps
set_option linter.unusedVariables false
set_option linter.unusedSimpArgs false
set_option maxHeartbeats 400000

def f0T : Lit → Option Bool := fun _ => none
noncomputable def f1T : Lit → Option Bool := fput f0T (.int .i64 1) true
theorem st01 : stT f0T 1 = (false, 1) := rfl
theorem st02 : stT f0T (-1) = (false, -1) := rfl
theorem st11 : stT f1T 1 = (false, 0) := by simp [stT, onT, f1T, f0T, fput]
theorem st12 : stT f1T (-1) = (true, 0) := by simp [stT, onT, f1T, f0T, fput]
/-- the two clauses lie so -/
structure TwoC (w0 : World) (g1 g2 g3 : Nat) : Prop where
  c1 : w0.heap[g1]? = some (.cells #[.int .i64 1] 3 (0, 0))
  c2 : w0.heap[g2]? = some (.cells #[.int .i64 (-1)] 3 (0, 0))
  c3 : w0.heap[g3]? = some (.cells #[.slice (some ⟨g1, 0, none⟩) 1 1, .slice (some ⟨g2, 0, none⟩) 1 1] 22 (0, 0))
theorem TwoC.kept {w0 w : World} {g1 g2 g3 : Nat} (h : TwoC w0 g1 g2 g3) (hb : Below w0.heap.size w0 w) : TwoC w g1 g2 g3 :=
  ⟨(hb.block g1 (heap_lt h.c1)).trans h.c1, (hb.block g2 (heap_lt h.c2)).trans h.c2, (hb.block g3 (heap_lt h.c3)).trans h.c3⟩
theorem row_one {W : World} {g : Nat} {x : Int} (h : W.heap[g]? = some (.cells #[.int .i64 x] 3 (0, 0))) : intE.Row (fun b => b = g) W (some ⟨g, 0, none⟩) [x] := fun i y hi => by
  rcases i with _ | i
  · obtain rfl : x = y := by simpa using hi
    refine ⟨g, 0, [.int .i64 x], rfl, rfl, fun j u hu => ?_, rfl⟩
    rcases j with _ | j
    · simp at hu; subst hu; simp [World.cell?, h]
    · simp at hu
  · simp at hi
theorem state1 {g1 g2 g3 T mb n : Nat} {f : Lit → Option Bool} {w : World} {b : Bool} {z : Int} (h : TwoC w g1 g2 g3) (hs : stT f 1 = (b, z)) (hT : w.cell? ⟨T, 3, none⟩ = some (.map (some mb))) (hm : BMap 3 4 mb n f w) :
    Calls Try.prog 67 #[.pointer (some ⟨T, 0, none⟩), .slice (some ⟨g1, 0, none⟩) 1 1] w fun e w' => e = .returned (.tuple #[.bool b, .int .i64 z]) ∧ w' = w := by
  have := state67 1 _ (some ⟨g1, 0, none⟩) 1 T mb n f w (by omega) (by omega) (by omega) (row_one h.c1) hT hm
  rw [hs] at this; exact this
theorem state2 {g1 g2 g3 T mb n : Nat} {f : Lit → Option Bool} {w : World} {b : Bool} {z : Int} (h : TwoC w g1 g2 g3) (hs : stT f (-1) = (b, z)) (hT : w.cell? ⟨T, 3, none⟩ = some (.map (some mb))) (hm : BMap 3 4 mb n f w) :
    Calls Try.prog 67 #[.pointer (some ⟨T, 0, none⟩), .slice (some ⟨g2, 0, none⟩) 1 1] w fun e w' => e = .returned (.tuple #[.bool b, .int .i64 z]) ∧ w' = w := by
  have := state67 (-1) _ (some ⟨g2, 0, none⟩) 1 T mb n f w (by omega) (by omega) (by omega) (row_one h.c2) hT hm
  rw [hs] at this; exact this
set_option maxRecDepth 100000 in
set_option maxHeartbeats 4000000 in
theorem run49 (T mb g1 g2 g3 : Nat) (F : Fct) (w0 w : World) (hF1 : ¬ F.foot T) (hF2 : ¬ F.foot mb) (hc : TwoC w0 g1 g2 g3) (S : St w0 w [.box T #[.slice (some ⟨g3, 0, none⟩) 2 2, .slice none 0 0, .slice none 0 0, .map (some mb)] 81, .bmap 3 4 mb 0 f0T, F]) (hT0 : w0.heap.size ≤ T) (hM0 : w0.heap.size ≤ mb) (hTM : T ≠ mb) :
    Calls Try.prog 49 #[.pointer (some ⟨T, 0, none⟩)] w fun e w' => e = .returned (.int .i64 1) ∧ w.heap.size ≤ w'.heap.size ∧ ∃ ao cap wv, St w0 w' [.box T #[.slice (some ⟨g3, 0, none⟩) 2 2, .slice ao 1 cap, wv, .map (some mb)] 81, .bmap 3 4 mb 1 f1T, F] := by
  have HC := Lib.hid (hc.kept S.bel)
  have HC0 := Lib.hid hc
  have HS := Lib.hid S
  have H1 := Lib.hid (state1 HC.out st01 (S.cell 0 3 rfl).1 (S.bmap 1))
  have H2 := Lib.hid (state2 HC.out st02 (S.cell 0 3 rfl).1 (S.bmap 1))
  obtain ⟨y0, _⟩ := S.cell 0 0 rfl
  obtain ⟨⟨z0, _⟩, z1, _⟩ := box2 HC.out.c3
  clear S hc
  go_enter Try.func49, Try.ntmps49
  go_wp2_with fail
  refine wp_loop_rounds 2 ?_
  rw [rounds_succ]
  go_wp2_with fail
  refine wp_loop_rounds 3 ?_
  rw [rounds_succ]
  go_wp2_with fail
  refine H1.out.mono ?_
  rintro e w2 ⟨rfl, hw⟩
  have hw := hw.symm
  subst hw
  go_wp2_with fail
  rw [rounds_succ]
  go_wp2_with fail
  refine H2.out.mono ?_
  rintro e w2 ⟨rfl, hw⟩
  have hw := hw.symm
  subst hw
  go_wp2_with fail
  rw [rounds_succ]
  go_wp2_with fail
  refine H1.out.mono ?_
  rintro e w2 ⟨rfl, hw⟩
  have hw := hw.symm
  subst hw
  go_wp2_with fail
  refine (add58 1 0 _ T mb F w0 _ hF1 hF2 (by omega) (by omega) HS.out hT0 hM0 hTM).mono ?_
  rintro e w3 ⟨rfl, hz3, ao, cap, wv, S3⟩
  clear y0 z0 z1 H1 H2 HC
  have HC := Lib.hid (HC0.out.kept S3.bel)
  have H1 := Lib.hid (state1 HC.out st11 (S3.cell 0 3 rfl).1 (S3.bmap 1))
  have H2 := Lib.hid (state2 HC.out st12 (S3.cell 0 3 rfl).1 (S3.bmap 1))
  obtain ⟨y0, _⟩ := S3.cell 0 0 rfl
  obtain ⟨⟨z0, _⟩, z1, _⟩ := box2 HC.out.c3
  have HS3 := Lib.hid S3
  clear S3
  go_wp2_with fail
  rw [rounds_succ]
  go_wp2_with fail
  refine wp_loop_rounds 3 ?_
  rw [rounds_succ]
  go_wp2_with fail
  refine H1.out.mono ?_
  rintro e w2 ⟨rfl, hw⟩
  have hw := hw.symm
  subst hw
  go_wp2_with fail
  rw [rounds_succ]
  go_wp2_with fail
  refine H2.out.mono ?_
  rintro e w2 ⟨rfl, hw⟩
  have hw := hw.symm
  subst hw
  go_wp2_with fail
  go_ret
  exact ⟨rfl, hz3, ao, cap, wv, HS3.out⟩
end Go.Proofs.Ytlpoedjipncbhaa
