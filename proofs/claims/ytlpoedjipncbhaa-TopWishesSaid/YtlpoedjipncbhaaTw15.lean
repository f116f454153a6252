/-
  Walks: cdcl.Do on the two clauses.
-/
import Derived.Test.YtlpoedjipncbhaaProg
import Derived.Test.YtlpoedjipncbhaaTw14
namespace Go.Proofs.Ytlpoedjipncbhaa
open Go.RowKit Go.Shelf Go.Maps
set_option linter.unusedVariables false
set_option linter.unusedSimpArgs false
set_option maxHeartbeats 400000

def cs2 : List (List Int) := [[1], [-1]]
theorem cs2_good : ∀ c ∈ cs2, GoodC 1 c := by
  intro c hc
  simp only [cs2, List.mem_cons, List.not_mem_nil, or_false] at hc
  rcases hc with rfl | rfl
  · exact ⟨by simp, by simp, .cons (by simp) .nil⟩
  · exact ⟨by simp, by simp, .cons (by simp) .nil⟩
set_option maxRecDepth 100000 in
set_option maxHeartbeats 4000000 in
theorem do18 (g1 g2 g3 : Nat) (w : World) (hc : TwoC w g1 g2 g3) (hrow : intsE.Row (fun _ => True) w (some ⟨g3, 0, none⟩) cs2) :
    Calls Try.prog 18 #[.agg #[.int .i64 1, .slice (some ⟨g3, 0, none⟩) 2 2], .slice none 0 0, .agg #[.int .i64 0, .int .i64 0, .int .i64 0, .int .i64 0], .int .i64 2000] w fun e w' => (∃ sao scap, e = .returned (.tuple #[.agg #[.int .i64 2, .slice none 0 0, .slice sao 1 scap, .slice none 0 0, .int .i64 1], .agg #[.int .i64 0, .int .i64 0]])) ∧ Below w.heap.size w w' := by
  have HB := Lib.hid (fun (W : World) (hW : Below w.heap.size w W) => both28 (fun _ => True) (some ⟨g3, 0, none⟩) cs2 2 W cs2_good (hrow.kept hW) (by decide))
  have HC := Lib.hid hc
  obtain ⟨bx, hbx⟩ : ∃ b, b = w.heap.size := ⟨_, rfl⟩
  have S1 := ((((St.start w).box hbx.symm #[.int .i64 1, .slice (some ⟨g3, 0, none⟩) 2 2] 25).box (b := bx + 1) (by simp [hbx]) #[.int .i64 0, .int .i64 0, .int .i64 0, .int .i64 0] 52).box (b := bx + 2) (by simp [hbx]) #[.int .i64 0, .slice none 0 0, .slice none 0 0, .slice none 0 0, .int .i64 0] 48).box (b := bx + 3) (by simp [hbx]) #[.int .i64 0, .int .i64 0] 32
  have HBX := Lib.hid hbx
  clear hc hrow
  go_enter Try.func18, Try.ntmps18
  go_upto_region 1 with fail
  rw [← hbx]
  simp only [Nat.add_assoc, Nat.reduceAdd]
  refine S1.genC (z := bx + 4) (by simp [hbx]) ?_
  clear S1 hbx
  intro w1 z1 S
  obtain ⟨⟨u0, u1⟩, u2, u3⟩ := S.two 0
  go_wp2_with fail
  refine (S.quiet (HB.out w1 S.bel)).mono ?_
  rintro e w2 ⟨rfl, z2, S2⟩
  obtain ⟨b2, hb2⟩ : ∃ b, b = w2.heap.size := ⟨_, rfl⟩
  have S3 := S2.box hb2.symm #[.int .i64 0, .int .i64 0] 32
  have HB2 := Lib.hid (show bx + 4 ≤ b2 by omega)
  clear S S2 HB u0 u1 u2 u3
  go_upto_region 2 with fail
  rw [← hb2]
  refine S3.genC (z := b2 + 1) (by simp [hb2]) ?_
  clear S3 hb2
  intro w3 z3 S
  obtain ⟨⟨y0, y1⟩, y2, y3⟩ := S.two 4
  obtain ⟨x0, _⟩ := S.cell 1 0 rfl
  obtain ⟨x1, _⟩ := S.cell 1 1 rfl
  obtain ⟨x2, _⟩ := S.cell 1 2 rfl
  obtain ⟨x3, _⟩ := S.cell 1 3 rfl
  go_wp2_with fail
  refine (S.quiet (options29 w3)).mono ?_
  rintro e w4 ⟨rfl, z4, S2⟩
  obtain ⟨b3, hb3⟩ : ∃ b, b = w4.heap.size := ⟨_, rfl⟩
  have S3 := S2.box hb3.symm #[.int .i64 0, .int .i64 0] 32
  have HB3 := Lib.hid (show b2 + 1 ≤ b3 by omega)
  clear S S2 y0 y1 y2 y3 x0 x1 x2 x3
  go_upto_region 5 with fail
  rw [← hb3]
  refine S3.genC (z := b3 + 1) (by simp [hb3]) ?_
  clear S3 hb3
  intro w5 z5 S
  obtain ⟨⟨y0, y1⟩, y2, y3⟩ := S.two 5
  go_upto_region 7 with fail
  clear y0 y1 y2 y3
  have FC := Lib.hid (fun W (hb : Below w5.heap.size w5 W) => (show W.cell? ⟨bx, 0, none⟩ = some (.int .i64 1) ∧ W.cell? ⟨bx, 1, none⟩ = some (.slice (some ⟨g3, 0, none⟩) 2 2) ∧ W.cell? ⟨bx + 1, 3, none⟩ = some (.int .i64 0) from ⟨Below.cellOf hb (S.cell 0 0 rfl).1, Below.cellOf hb (S.cell 0 1 rfl).1, Below.cellOf hb (S.cell 1 3 rfl).1⟩))
  have HS5 := Lib.hid S
  clear S
  refine wpT_region [] (fun W => W.cell? ⟨bx, 0, none⟩ = some (.int .i64 1) ∧ W.cell? ⟨bx, 1, none⟩ = some (.slice (some ⟨g3, 0, none⟩) 2 2) ∧ W.cell? ⟨bx + 1, 3, none⟩ = some (.int .i64 0)) (by kernel_rfl) ?_
  have HS := FC.out _ (Below.refl _ w5).drew
  try simp only [Act.put, List.setIfInBounds_toArray, List.set_cons_zero, List.set_cons_succ]
  refine wpT.take (i := 0) (by kernel_rfl) (by kernel_rfl) (by kernel_rfl) (by kernel_rfl) (by kernel_rfl) (fun _ => HS) ?_
  intro oi ho
  simp only [List.getElem?_toArray, List.getElem?_cons_succ, List.getElem?_cons_zero, Option.some.injEq] at ho
  subst ho
  refine ⟨?_, Or.inl ⟨by rfl, ?_⟩, fun _ _ _ h => h, ?_⟩
  rotate_left 1
  · intro W hW
    try (subst hW)
    try dsimp only at hW
    go_simp
    try with_reducible rfl
  try simp only [Act.put, List.setIfInBounds_toArray, List.set_cons_zero, List.set_cons_succ]
  refine wpT.take (i := 1) (by kernel_rfl) (by kernel_rfl) (by kernel_rfl) (by kernel_rfl) (by kernel_rfl) (fun _ => HS) ?_
  intro oi ho
  simp only [List.getElem?_toArray, List.getElem?_cons_succ, List.getElem?_cons_zero, Option.some.injEq] at ho
  subst ho
  refine ⟨?_, Or.inl ⟨by rfl, ?_⟩, fun _ _ _ h => h, ?_⟩
  rotate_left 1
  · intro W hW
    try (subst hW)
    try dsimp only at hW
    go_simp
    try with_reducible rfl
  try simp only [Act.put, List.setIfInBounds_toArray, List.set_cons_zero, List.set_cons_succ]
  refine wpT.take (i := 2) (by kernel_rfl) (by kernel_rfl) (by kernel_rfl) (by kernel_rfl) (by kernel_rfl) (fun _ => HS) ?_
  intro oi ho
  simp only [List.getElem?_toArray, List.getElem?_cons_succ, List.getElem?_cons_zero, Option.some.injEq] at ho
  subst ho
  refine ⟨?_, Or.inl ⟨by rfl, ?_⟩, fun _ _ _ h => h, ?_⟩
  rotate_left 1
  · intro W hW
    try (subst hW)
    try dsimp only at hW
    go_simp
    try with_reducible rfl
  try simp only [Act.put, List.setIfInBounds_toArray, List.set_cons_zero, List.set_cons_succ]
  refine wpT.take (i := 3) (by kernel_rfl) (by kernel_rfl) (by kernel_rfl) (by kernel_rfl) (by kernel_rfl) (fun _ => HS) ?_
  intro oi ho
  simp only [List.getElem?_toArray, List.getElem?_cons_succ, List.getElem?_cons_zero, Option.some.injEq] at ho
  subst ho
  refine ⟨?_, Or.inl ⟨by rfl, ?_⟩, fun _ _ _ h => h, ?_⟩
  rotate_left 1
  · intro W hW
    try (subst hW)
    try dsimp only at hW
    go_simp
    try with_reducible rfl
  try simp only [Act.put, List.setIfInBounds_toArray, List.set_cons_zero, List.set_cons_succ]
  refine wpT.take (i := 4) (by kernel_rfl) (by kernel_rfl) (by kernel_rfl) (by kernel_rfl) (by kernel_rfl) (fun _ => HS) ?_
  intro oi ho
  simp only [List.getElem?_toArray, List.getElem?_cons_succ, List.getElem?_cons_zero, Option.some.injEq] at ho
  subst ho
  refine ⟨?_, Or.inl ⟨by rfl, ?_⟩, fun _ _ _ h => h, ?_⟩
  rotate_left 1
  · intro W hW
    try (subst hW)
    try dsimp only at hW
    go_simp
    try with_reducible rfl
  try simp only [Act.put, List.setIfInBounds_toArray, List.set_cons_zero, List.set_cons_succ]
  refine wpT.take (i := 5) (by kernel_rfl) (by kernel_rfl) (by kernel_rfl) (by kernel_rfl) (by kernel_rfl) (fun _ => HS) ?_
  intro oi ho
  simp only [List.getElem?_toArray, List.getElem?_cons_succ, List.getElem?_cons_zero, Option.some.injEq] at ho
  subst ho
  refine ⟨?_, Or.inl ⟨by rfl, ?_⟩, fun _ _ _ h => h, ?_⟩
  rotate_left 1
  · intro W hW
    try (subst hW)
    try dsimp only at hW
    go_simp
    try with_reducible rfl
  try simp only [Act.put, List.setIfInBounds_toArray, List.set_cons_zero, List.set_cons_succ]
  refine wpT.take (i := 6) (by kernel_rfl) (by kernel_rfl) (by kernel_rfl) (by kernel_rfl) (by kernel_rfl) (fun _ => HS) ?_
  intro oi ho
  simp only [List.getElem?_toArray, List.getElem?_cons_succ, List.getElem?_cons_zero, Option.some.injEq] at ho
  subst ho
  refine ⟨?_, Or.inl ⟨by rfl, ?_⟩, fun _ _ _ h => h, ?_⟩
  rotate_left 1
  · intro W hW
    try (subst hW)
    try dsimp only at hW
    go_simp
    try with_reducible rfl
  try simp only [Act.put, List.setIfInBounds_toArray, List.set_cons_zero, List.set_cons_succ]
  refine wpT.take (i := 7) (by kernel_rfl) (by kernel_rfl) (by kernel_rfl) (by kernel_rfl) (by kernel_rfl) (fun _ => HS) ?_
  intro oi ho
  simp only [List.getElem?_toArray, List.getElem?_cons_succ, List.getElem?_cons_zero, Option.some.injEq] at ho
  subst ho
  refine ⟨?_, Or.inl ⟨by rfl, ?_⟩, fun _ _ _ h => h, ?_⟩
  rotate_left 1
  · intro W hW
    try (subst hW)
    try dsimp only at hW
    go_simp
    try with_reducible rfl
  try simp only [Act.put, List.setIfInBounds_toArray, List.set_cons_zero, List.set_cons_succ]
  refine wpT.one (i := 8) (by kernel_rfl) ?_
  intro oi ho
  simp only [List.getElem?_toArray, List.getElem?_cons_succ, List.getElem?_cons_zero, Option.some.injEq] at ho
  subst ho
  intro K' hK
  have HK := Lib.hid hK
  clear hK
  go_simp
  go_at_call 30
  refine (new30 _ w5.drew (some ⟨g3, 0, none⟩) 2 2 rfl).mono ?_
  rintro e w6 ⟨rfl, hw⟩
  have hs6 : w6.heap.size = w5.drew.heap.size + 2 := by rw [hw]; simp
  have S6a := (((St.start w5.drew).alloc (.map #[] 0)).add (.bmap 3 4 w5.drew.heap.size 0 f0T) (BMap.made 3 4 w5.drew)).box (b := w5.drew.heap.size + 1) (by simp) #[.slice (some ⟨g3, 0, none⟩) 2 2, .slice none 0 0, .slice none 0 0, .map (some w5.drew.heap.size)] 81
  rw [← hw] at S6a
  clear hw HS
  obtain ⟨wd, hwd⟩ : ∃ W, W = w5.drew := ⟨_, rfl⟩
  have HBD := Lib.hid (show Below w5.heap.size w5 wd from by rw [hwd]; exact (Below.refl _ w5).drew)
  have HSD := Lib.hid (show St w wd _ from by rw [hwd]; exact HS5.out.drew)
  rw [← hwd] at S6a hs6 ⊢
  clear hwd
  obtain ⟨bd, hbd⟩ : ∃ b, b = wd.heap.size := ⟨_, rfl⟩
  rw [← hbd] at S6a hs6 ⊢
  have HBDS := Lib.hid (show wd.heap.size ≤ bd ∧ bd ≤ wd.heap.size by omega)
  clear hbd
  have HB6 := Lib.hid (Below.step HBD.out S6a.bel)
  refine HK.out _ _ (fun _ => FC.out _ HB6.out) ?_
  try simp only [Act.put, List.setIfInBounds_toArray, List.set_cons_zero, List.set_cons_succ]
  refine wpT.one (i := 9) (by kernel_rfl) ?_
  intro oi ho
  simp only [List.getElem?_toArray, List.getElem?_cons_succ, List.getElem?_cons_zero, Option.some.injEq] at ho
  subst ho
  intro K' hK
  have HK := Lib.hid hK
  clear hK
  go_simp
  refine HK.out _ _ (fun _ => FC.out _ HB6.out) ?_
  try simp only [Act.put, List.setIfInBounds_toArray, List.set_cons_zero, List.set_cons_succ]
  refine wpT.one (i := 10) (by kernel_rfl) ?_
  intro oi ho
  simp only [List.getElem?_toArray, List.getElem?_cons_succ, List.getElem?_cons_zero, Option.some.injEq] at ho
  subst ho
  intro K' hK
  have HK := Lib.hid hK
  clear hK
  go_simp
  try rw [hs6]
  refine HK.out _ _ (fun _ => FC.out _ (Below.step HB6.out ((Below.refl _ w6).alloc (Nat.le_refl _) _))) ?_
  have S7a := S6a.box hs6 #[.int .i64 1, .slice none 0 0, .bool false, .pointer (some ⟨bd + 1, 0, none⟩), .slice none 0 0, .int .i64 0, .slice none 0 0] 69
  obtain ⟨w7, hw7⟩ : ∃ W, W = w6.alloc (.cells #[.int .i64 1, .slice none 0 0, .bool false, .pointer (some ⟨bd + 1, 0, none⟩), .slice none 0 0, .int .i64 0, .slice none 0 0] 69) := ⟨_, rfl⟩
  rw [← hw7] at S7a ⊢
  have HB7 := Lib.hid (show Below w5.heap.size w5 w7 by rw [hw7]; exact Below.step HB6.out ((Below.refl _ w6).alloc (Nat.le_refl _) _))
  clear hw7 hs6 S6a
  try simp only [Act.put, List.setIfInBounds_toArray, List.set_cons_zero, List.set_cons_succ]
  refine wpT.one (i := 11) (by kernel_rfl) ?_
  intro oi ho
  simp only [List.getElem?_toArray, List.getElem?_cons_succ, List.getElem?_cons_zero, Option.some.injEq] at ho
  subst ho
  intro K' hK
  have HK := Lib.hid hK
  clear hK
  go_simp
  refine HK.out _ _ (fun _ => FC.out _ HB7.out) ?_
  try simp only [Act.put, List.setIfInBounds_toArray, List.set_cons_zero, List.set_cons_succ]
  refine wpT.done (by kernel_rfl) ?_
  have S7 : St wd w7 [.box (bd + 1) #[.slice (some ⟨g3, 0, none⟩) 2 2, .slice none 0 0, .slice none 0 0, .map (some bd)] 81, .bmap 3 4 bd 0 f0T, .box (bd + 2) #[.int .i64 1, .slice none 0 0, .bool false, .pointer (some ⟨bd + 1, 0, none⟩), .slice none 0 0, .int .i64 0, .slice none 0 0] 69] := S7a.pick [1, 0, 2]
  have HS7 := Lib.hid S7
  clear S7 S7a
  go_wp2_with fail
  refine wp_loop_rounds 1 ?_
  rw [rounds_succ]
  go_wp2_with fail
  refine (propagate31 (bd + 1) bd g1 g2 g3 (bd + 2) _ _ _ _ wd w7 (by have := HBDS.out; omega) (by omega) (by omega) (HC.out.kept HSD.out.bel) HS7.out (by have := HBDS.out; omega) (by have := HBDS.out; omega) (by omega)).mono ?_
  rintro e w8 ⟨rfl, z8, lv, S8⟩
  obtain ⟨y5, _⟩ := S8.cell 0 5 rfl
  have HS8 := Lib.hid S8
  clear S8
  go_wp2_with fail
  refine (no32 (bd + 2) _ _ _ _ _ wd w8 (by have := HBDS.out; omega) HS8.out).mono ?_
  rintro e w9 ⟨⟨sao, scap, rfl⟩, z9, hb9⟩
  have S9 := HSD.out.step hb9
  clear y5
  obtain ⟨a0, b0⟩ := S9.cell 2 0 rfl
  obtain ⟨a1, b1⟩ := S9.cell 2 1 rfl
  obtain ⟨a2, b2'⟩ := S9.cell 2 2 rfl
  obtain ⟨a3, b3'⟩ := S9.cell 2 3 rfl
  obtain ⟨a4, b4⟩ := S9.cell 2 4 rfl
  obtain ⟨c0, d0⟩ := S9.cell 3 0 rfl
  obtain ⟨c1, d1⟩ := S9.cell 3 1 rfl
  have hl2 := S9.lt 2
  have hl3 := S9.lt 3
  have h0x : w.heap.size ≤ bx + 2 := by have := HBX.out; omega
  have h0y : w.heap.size ≤ bx + 3 := by have := HBX.out; omega
  have hbb : bx + 4 ≤ b2 ∧ bx + 4 ≤ b3 := by have := HB2.out; have := HB3.out; omega
  have S10 := ((((((S9.setC 2 rfl 0 (.int .i64 2) h0x (by simp only [fsnoc, fset, offs, offAll, Fct.box, and_true]; omega)).setC 2 rfl 1 (.slice none 0 0) h0x (by simp only [fsnoc, fset, offs, offAll, Fct.box, and_true]; omega)).setC 2 rfl 2 (.slice sao 1 scap) h0x (by simp only [fsnoc, fset, offs, offAll, Fct.box, and_true]; omega)).setC 2 rfl 3 (.slice none 0 0) h0x (by simp only [fsnoc, fset, offs, offAll, Fct.box, and_true]; omega)).setC 2 rfl 4 (.int .i64 1) h0x (by simp only [fsnoc, fset, offs, offAll, Fct.box, and_true]; omega)).setC 3 rfl 0 (.int .i64 0) h0y (by simp only [fsnoc, fset, offs, offAll, Fct.box, and_true]; omega)).setC 3 rfl 1 (.int .i64 0) h0y (by simp only [fsnoc, fset, offs, offAll, Fct.box, and_true]; omega)
  have HS10 := Lib.hid S10
  clear S9 S10
  go_wp2_with fail
  have e0 := (HS10.out.cell 2 0 rfl).1
  have e1 := (HS10.out.cell 2 1 rfl).1
  have e2 := (HS10.out.cell 2 2 rfl).1
  have e3 := (HS10.out.cell 2 3 rfl).1
  have e4 := (HS10.out.cell 2 4 rfl).1
  have k0 := (HS10.out.cell 3 0 rfl).1
  have k1 := (HS10.out.cell 3 1 rfl).1
  refine bodyPost_ret (v := .tuple #[.agg #[.int .i64 2, .slice none 0 0, .slice sao 1 scap, .slice none 0 0, .int .i64 1], .agg #[.int .i64 0, .int .i64 0]]) (by simp [results, Try.results18, go_sem, e0, e1, e2, e3, e4, k0, k1]) rfl ?_
  exact ⟨⟨_, _, rfl⟩, HS10.out.bel⟩
end Go.Proofs.Ytlpoedjipncbhaa
