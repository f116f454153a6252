/-
  closeFact: the fact closed, step by step.
-/
import Derived.Test.YtcckgfgobakphabProg
import Derived.Test.YtcckgfgobakphabBase
import Derived.Test.YtcckgfgobakphabCm2
import Derived.Test.YtcckgfgobakphabW12
import Derived.Test.YtcckgfgobakphabW13
import Derived.Test.YtcckgfgobakphabW14
namespace Go.Proofs.Ytcckgfgobakphab
open Go.RowKit Go.Shelf
set_option linter.unusedVariables false
set_option linter.unusedSimpArgs false

def T4 : List Tm := [⟨0, []⟩, ⟨1, []⟩, ⟨2, [0]⟩, ⟨2, [1]⟩]
theorem cl_01 : classes T4 [(0, 1)] = [0, 0, 2, 2] := satOf_of (.more (c' := [0, 0, 2, 2]) (by decide) (.done (by decide)))
theorem cl_0122 : classes T4 [(0, 1), (2, 2)] = [0, 0, 2, 2] := satOf_of (.more (c' := [0, 0, 2, 2]) (by decide) (.done (by decide)))
theorem cl_no : classes T4 [] = [0, 1, 2, 3] := satOf_of (.done (by decide))
theorem whyR_fact : whyR T4 [(0, 1), (2, 2)] 2 3 = ([0], (0, 0)) := by
  have h1 : checkF T4 [[(0, 1), (2, 2)]] = (0, 0) := by decide
  have h2 : relD T4 [(0, 1), (2, 2)] 2 3 = true := by rw [relD, cl_0122]; decide
  have h3 : whyL T4 [(0, 1), (2, 2)] 2 3 = [0] := by
    have e1 : pairsOf [(0, 1), (2, 2)] (setP (fun _ => true) 1 false) 2 = [(0, 1)] := by decide
    have e2 : pairsOf [(0, 1), (2, 2)] (setP (setP (fun _ => true) 1 false) 0 false) 2 = [] := by decide
    have r1 : relD T4 [(0, 1)] 2 3 = true := by rw [relD, cl_01]; decide
    have r2 : relD T4 [] 2 3 = false := by rw [relD, cl_no]; decide
    simp only [whyL, whyP, List.length_cons, List.length_nil, Nat.zero_add, Nat.reduceAdd, e1, e2, r1, r2, if_true, Bool.false_eq_true, if_false]
    decide
  rw [whyR, h1]
  have i1 : inN T4.length 2 = true := by decide
  have i2 : inN T4.length 3 = true := by decide
  have t2 : (2 : Int).toNat = 2 := rfl
  have t3 : (3 : Int).toNat = 3 := rfl
  simp only [i1, i2, t2, t3, h2, h3]
  simp
theorem doR_fact : doR T4 [(0, 1)] [] = ⟨1, [0, 0, 2, 2], [], 0⟩ := by
  have h1 : checkF T4 [[(0, 1)], []] = (0, 0) := by decide
  rw [doR, h1, cl_01]; rfl
theorem check_fact : checkF T4 [[(0, 1)], []] = (0, 0) := by decide


theorem cell_of_heap {w : World} {b i : Nat} {cs : Array Value} {T : TypeId} {v : Value} (h : w.heap[b]? = some (.cells cs T (0, 0))) (hi : cs[i]? = some v) : w.cell? ⟨b, i, none⟩ = some v := by
  simp [World.cell?, h, hi]

/-- the four terms, where they lie -/
theorem terms4 {w : World} {a b c : Nat} (h0 : w.heap[a]? = some (.cells #[.int .i64 0] 3 (0, 0))) (h1 : w.heap[b]? = some (.cells #[.int .i64 1] 3 (0, 0)))
    (h2 : w.heap[c]? = some (.cells #[.int .i64 0, .slice none 0 0, .int .i64 1, .slice none 0 0, .int .i64 2, .slice (some ⟨a, 0, none⟩) 1 1, .int .i64 2, .slice (some ⟨b, 0, none⟩) 1 1] 45 (0, 0))) :
    TermsAt w (.slice (some ⟨c, 0, none⟩) 4 4) T4 := by
  refine ⟨some ⟨c, 0, none⟩, 0, rfl, fun j hj => ?_⟩
  have hj' : j < 4 := hj
  match j, hj' with
  | 0, _ => exact ⟨c, 0, none, 0, rfl, cell_of_heap h2 rfl, cell_of_heap h2 rfl, fun i hi => absurd hi (by simp [gT, T4])⟩
  | 1, _ => exact ⟨c, 0, none, 0, rfl, cell_of_heap h2 rfl, cell_of_heap h2 rfl, fun i hi => absurd hi (by simp [gT, T4])⟩
  | 2, _ =>
    refine ⟨c, 0, some ⟨a, 0, none⟩, 1, rfl, cell_of_heap h2 rfl, cell_of_heap h2 rfl, fun i hi => ?_⟩
    have hi' : i < 1 := hi
    obtain rfl : i = 0 := by omega
    exact ⟨a, 0, rfl, cell_of_heap h0 rfl⟩
  | 3, _ =>
    refine ⟨c, 0, some ⟨b, 0, none⟩, 1, rfl, cell_of_heap h2 rfl, cell_of_heap h2 rfl, fun i hi => ?_⟩
    have hi' : i < 1 := hi
    obtain rfl : i = 0 := by omega
    exact ⟨b, 0, rfl, cell_of_heap h1 rfl⟩
theorem pairs2 {w : World} {c : Nat} (h : w.heap[c]? = some (.cells #[.int .i64 0, .int .i64 1, .int .i64 2, .int .i64 2] 34 (0, 0))) : PairsAt w (.slice (some ⟨c, 0, none⟩) 2 2) [(0, 1), (2, 2)] := by
  refine ⟨some ⟨c, 0, none⟩, 2, rfl, fun j hj => ?_⟩
  have hj' : j < 2 := hj
  match j, hj' with
  | 0, _ => exact ⟨c, 0, rfl, cell_of_heap h rfl, cell_of_heap h rfl⟩
  | 1, _ => exact ⟨c, 0, rfl, cell_of_heap h rfl, cell_of_heap h rfl⟩
theorem pairs1 {w : World} {c : Nat} (h : w.heap[c]? = some (.cells #[.int .i64 0, .int .i64 1] 34 (0, 0))) : PairsAt w (.slice (some ⟨c, 0, none⟩) 1 1) [(0, 1)] := by
  refine ⟨some ⟨c, 0, none⟩, 1, rfl, fun j hj => ?_⟩
  have hj' : j < 1 := hj
  match j, hj' with
  | 0, _ => exact ⟨c, 0, rfl, cell_of_heap h rfl, cell_of_heap h rfl⟩
theorem nats1 {w : World} {c : Nat} (h : w.heap[c]? = some (.cells #[.int .i64 0] 3 (0, 0))) : NatsAt w (.slice (some ⟨c, 0, none⟩) 1 1) [0] := by
  refine ⟨some ⟨c, 0, none⟩, 1, rfl, fun j hj => ?_⟩
  have hj' : j < 1 := hj
  match j, hj' with
  | 0, _ => exact ⟨c, 0, rfl, cell_of_heap h rfl⟩
theorem nats4 {w : World} {c : Nat} (h : w.heap[c]? = some (.cells #[.int .i64 0, .int .i64 0, .int .i64 2, .int .i64 2] 3 (0, 0))) : NatsAt w (.slice (some ⟨c, 0, none⟩) 4 4) [0, 0, 2, 2] := by
  refine ⟨some ⟨c, 0, none⟩, 4, rfl, fun j hj => ?_⟩
  have hj' : j < 4 := hj
  match j, hj' with
  | 0, _ => exact ⟨c, 0, rfl, cell_of_heap h rfl⟩
  | 1, _ => exact ⟨c, 0, rfl, cell_of_heap h rfl⟩
  | 2, _ => exact ⟨c, 0, rfl, cell_of_heap h rfl⟩
  | 3, _ => exact ⟨c, 0, rfl, cell_of_heap h rfl⟩
theorem why_fact (tv pv : Value) (w : World) (ht : TermsAt w tv T4) (hp : PairsAt w pv [(0, 1), (2, 2)]) :
    Calls Try.prog 15 #[tv, pv, .int .i64 2, .int .i64 3] w fun e w' => ∃ u, e = .returned (.tuple #[u, .agg #[.int .i64 0, .int .i64 0]]) ∧ NatsFrom w.heap.size w' u [0] ∧ Below w.heap.size w w' := by
  have h := why15_any T4 _ 2 3 tv pv w (by decide) ht hp
  rw [whyR_fact] at h
  exact h
theorem do_fact (tv pv : Value) (w : World) (ht : TermsAt w tv T4) (hp : PairsAt w pv [(0, 1)]) :
    Calls Try.prog 9 #[tv, pv, .slice none 0 0] w fun e w' => ∃ u v, e = .returned (.tuple #[.agg #[.int .i64 1, u, v, .int .i64 0], .agg #[.int .i64 0, .int .i64 0]]) ∧
      NatsFrom w.heap.size w' u [0, 0, 2, 2] ∧ NatsFrom w.heap.size w' v [] ∧ Below w.heap.size w w' := by
  have h := do_any T4 [(0, 1)] [] tv pv (.slice none 0 0) w (by decide) ht hp ⟨none, 0, rfl, fun j hj => by simp at hj⟩
  rw [doR_fact, check_fact] at h
  exact h

set_option maxRecDepth 100000 in
set_option maxHeartbeats 4000000 in
theorem closeFact_any (w : World) : Calls Try.prog 18 #[] w fun e w' => e = .returned (.bool true) ∧ Below w.heap.size w w' := by
  go_enter Try.func18, Try.ntmps18
  go_wp2_with fail
  have hA0 := heap_alloc_old (o' := .cells #[.int .i64 1] 3) (heap_ofAlloc w (.cells #[.int .i64 0] 3))
  have hB0 := heap_ofAlloc (w.alloc (.cells #[.int .i64 0] 3)) (.cells #[.int .i64 1] 3)
  rw [World.size_alloc] at hB0
  generalize hw1 : (w.alloc (.cells #[.int .i64 0] 3)).alloc (.cells #[.int .i64 1] 3) = w1 at hA0 hB0 ⊢
  have hs1 : w1.heap.size = w.heap.size + 1 + 1 := by rw [← hw1]; simp
  have hb1 : Below w.heap.size w w1 := by rw [← hw1]; exact ((Below.refl w.heap.size w).alloc (Nat.le_refl _) _).alloc (by simp) _
  clear hw1
  rw [← hs1]
  have hlA := heap_lt hA0
  have hlB := heap_lt hB0
  generalize hN : w1.heap.size = N at *
  have hA1 := heap_alloc_old (o' := .cells #[.int .i64 0, .int .i64 1, .int .i64 2, .int .i64 2] 34) (heap_alloc_old (o' := .cells #[.int .i64 0, .slice none 0 0, .int .i64 1, .slice none 0 0, .int .i64 2, .slice (some ⟨w.heap.size, 0, none⟩) 1 1, .int .i64 2, .slice (some ⟨w.heap.size + 1, 0, none⟩) 1 1] 45) hA0)
  have hB1 := heap_alloc_old (o' := .cells #[.int .i64 0, .int .i64 1, .int .i64 2, .int .i64 2] 34) (heap_alloc_old (o' := .cells #[.int .i64 0, .slice none 0 0, .int .i64 1, .slice none 0 0, .int .i64 2, .slice (some ⟨w.heap.size, 0, none⟩) 1 1, .int .i64 2, .slice (some ⟨w.heap.size + 1, 0, none⟩) 1 1] 45) hB0)
  have hT1 := heap_alloc_old (o' := .cells #[.int .i64 0, .int .i64 1, .int .i64 2, .int .i64 2] 34) (heap_ofAlloc w1 (.cells #[.int .i64 0, .slice none 0 0, .int .i64 1, .slice none 0 0, .int .i64 2, .slice (some ⟨w.heap.size, 0, none⟩) 1 1, .int .i64 2, .slice (some ⟨w.heap.size + 1, 0, none⟩) 1 1] 45))
  have hP1 := heap_ofAlloc (w1.alloc (.cells #[.int .i64 0, .slice none 0 0, .int .i64 1, .slice none 0 0, .int .i64 2, .slice (some ⟨w.heap.size, 0, none⟩) 1 1, .int .i64 2, .slice (some ⟨w.heap.size + 1, 0, none⟩) 1 1] 45)) (.cells #[.int .i64 0, .int .i64 1, .int .i64 2, .int .i64 2] 34)
  have hb2 := (hb1.alloc (by omega) (.cells #[.int .i64 0, .slice none 0 0, .int .i64 1, .slice none 0 0, .int .i64 2, .slice (some ⟨w.heap.size, 0, none⟩) 1 1, .int .i64 2, .slice (some ⟨w.heap.size + 1, 0, none⟩) 1 1] 45)).alloc (by simp; omega) (.cells #[.int .i64 0, .int .i64 1, .int .i64 2, .int .i64 2] 34)
  rw [World.size_alloc, hN] at hP1
  rw [hN] at hT1
  have hs2 : ((w1.alloc (.cells #[.int .i64 0, .slice none 0 0, .int .i64 1, .slice none 0 0, .int .i64 2, .slice (some ⟨w.heap.size, 0, none⟩) 1 1, .int .i64 2, .slice (some ⟨w.heap.size + 1, 0, none⟩) 1 1] 45)).alloc (.cells #[.int .i64 0, .int .i64 1, .int .i64 2, .int .i64 2] 34)).heap.size = N + 1 + 1 := by simp [hN]
  generalize (w1.alloc (.cells #[.int .i64 0, .slice none 0 0, .int .i64 1, .slice none 0 0, .int .i64 2, .slice (some ⟨w.heap.size, 0, none⟩) 1 1, .int .i64 2, .slice (some ⟨w.heap.size + 1, 0, none⟩) 1 1] 45)).alloc (.cells #[.int .i64 0, .int .i64 1, .int .i64 2, .int .i64 2] 34) = w2 at hA1 hB1 hT1 hP1 hb2 hs2 ⊢
  clear hA0 hB0 hb1 hN w1
  refine (why_fact _ _ _ (terms4 hA1 hB1 hT1) (pairs2 hP1)).mono ?_
  rintro e w3 ⟨u, rfl, hl, hb3⟩
  have HL := Lib.hid hl.1; obtain ⟨uo, uc, rfl, _⟩ := hl.1; clear hl
  have HA := Lib.hid (Below.heapAt hb3 hA1); have HB := Lib.hid (Below.heapAt hb3 hB1); have HT := Lib.hid (Below.heapAt hb3 hT1)
  have hb13 := Lib.hid (Below.step hb2 hb3)
  have hw3 : w.heap.size ≤ w3.heap.size := by have := hb2.size; have := hb3.size; omega
  clear hA1 hB1 hT1 hP1 hb2 hb3 hs2 hs1 hlA hlB
  go_wp2_with fail
  have hf0 := heap_alloc_old (o' := .cells #[.int .i64 0, .int .i64 1] 34) (heap_ofAlloc w3 (.cells #[.int .i64 0, .int .i64 0] 28))
  have hA4 := heap_alloc_old (o' := .cells #[.int .i64 0, .int .i64 1] 34) (heap_alloc_old (o' := .cells #[.int .i64 0, .int .i64 0] 28) HA.out)
  have hB4 := heap_alloc_old (o' := .cells #[.int .i64 0, .int .i64 1] 34) (heap_alloc_old (o' := .cells #[.int .i64 0, .int .i64 0] 28) HB.out)
  have hT4 := heap_alloc_old (o' := .cells #[.int .i64 0, .int .i64 1] 34) (heap_alloc_old (o' := .cells #[.int .i64 0, .int .i64 0] 28) HT.out)
  have hP4 := heap_ofAlloc (w3.alloc (.cells #[.int .i64 0, .int .i64 0] 28)) (.cells #[.int .i64 0, .int .i64 1] 34)
  have hb34 := ((Below.refl w3.heap.size w3).alloc (Nat.le_refl _) (.cells #[.int .i64 0, .int .i64 0] 28)).alloc (by simp) (.cells #[.int .i64 0, .int .i64 1] 34)
  rw [World.size_alloc] at hP4
  refine (do_fact _ _ _ (terms4 hA4 hB4 hT4) (pairs1 hP4)).mono ?_
  rintro e w5 ⟨x, y, rfl, hx, hy, hb5⟩
  have HX := Lib.hid hx.1; obtain ⟨xo, xc, rfl, _⟩ := hx.1; clear hx
  obtain ⟨yo, yc, rfl, _⟩ := hy.1; clear hy
  have hb35 := Below.step hb34 hb5
  have hf5 := Below.heapAt hb5 hf0
  have hb15 := Below.step hb13.out hb35
  have HL5 := Lib.hid (HL.out.below hb35)
  have hlf := heap_lt hf5
  clear hf0 hA4 hB4 hT4 hP4 hb34 hb5 hb35 HL HA HB HT hb13
  obtain ⟨⟨c0, c1⟩, c2, c3⟩ := box2 hf5
  go_wp2_with fail
  have hd0 := heap_alloc_old (o' := .cells #[.int .i64 0] 3) (heap_alloc_old (o' := .cells #[.int .i64 0, .int .i64 0] 28) (heap_ofAlloc w5 (.cells #[.int .i64 1, .slice xo 4 xc, .slice yo 0 yc, .int .i64 0] 26)))
  have hn0 := heap_ofAlloc ((w5.alloc (.cells #[.int .i64 1, .slice xo 4 xc, .slice yo 0 yc, .int .i64 0] 26)).alloc (.cells #[.int .i64 0, .int .i64 0] 28)) (.cells #[.int .i64 0] 3)
  rw [World.size_alloc, World.size_alloc] at hn0
  have hb57 := (((Below.refl w5.heap.size w5).alloc (Nat.le_refl _) (.cells #[.int .i64 1, .slice xo 4 xc, .slice yo 0 yc, .int .i64 0] 26)).alloc (by simp) (.cells #[.int .i64 0, .int .i64 0] 28)).alloc (by simp; omega) (.cells #[.int .i64 0] 3)
  refine (ints_same [0] _ _ _ (HL5.out.below hb57) (nats1 hn0) (by decide)).mono ?_
  rintro e w7 ⟨rfl, hb7⟩
  have hd7 := Below.heapAt hb7 hd0
  have hb58 := Below.step hb57 hb7
  have hb18 := Below.step hb15 hb58
  have HX7 := Lib.hid (HX.out.below hb58)
  have hld := heap_lt hd7
  clear hd0 hn0 hb57 hb7 hb15 hb58 HX HL5 c0 c1 c2 c3
  obtain ⟨⟨c0, c1⟩, ⟨c2, c3⟩, _⟩ := box4 hd7
  go_wp2_with fail
  have hd8 := heap_alloc_old (o' := .cells #[.int .i64 0, .int .i64 0, .int .i64 2, .int .i64 2] 3) hd7
  have hn8 := heap_ofAlloc w7 (.cells #[.int .i64 0, .int .i64 0, .int .i64 2, .int .i64 2] 3)
  have hb78 := (Below.refl w7.heap.size w7).alloc (Nat.le_refl _) (.cells #[.int .i64 0, .int .i64 0, .int .i64 2, .int .i64 2] 3)
  refine (ints_same [0, 0, 2, 2] _ _ _ (HX7.out.below hb78) (nats4 hn8) (by decide)).mono ?_
  rintro e w9 ⟨rfl, hb9⟩
  have hd9 := Below.heapAt hb9 hd8
  have hb19 := Below.step hb18 (Below.step hb78 hb9)
  clear hd7 hd8 hn8 hb78 hb9 hb18 HX7 c0 c1 c2 c3
  have hld := heap_lt hd9
  obtain ⟨⟨c0, c1⟩, ⟨c2, c3⟩, _⟩ := box4 hd9
  go_wp2_with fail
  go_ret
  exact ⟨rfl, hb19⟩
end Go.Proofs.Ytcckgfgobakphab
