/-
  Walks: unit.New, cdcl's propagate.
-/
import Derived.Test.YtlpoedjipncbhaaProg
import Derived.Test.YtlpoedjipncbhaaTw11
namespace Go.Proofs.Ytlpoedjipncbhaa
open Go.RowKit Go.Shelf Go.Maps
set_option linter.unusedVariables false
set_option linter.unusedSimpArgs false
set_option maxHeartbeats 400000

set_option maxRecDepth 100000 in
set_option maxHeartbeats 4000000 in
theorem propagate31 (T mb g1 g2 g3 Sx : Nat) (v0 v1 v2 lr : Value) (w0 w : World) (hS0 : w0.heap.size ≤ Sx) (hST : Sx ≠ T) (hSM : Sx ≠ mb) (hc : TwoC w0 g1 g2 g3) (S : St w0 w [.box T #[.slice (some ⟨g3, 0, none⟩) 2 2, .slice none 0 0, .slice none 0 0, .map (some mb)] 81, .bmap 3 4 mb 0 f0T, .box Sx #[v0, v1, v2, .pointer (some ⟨T, 0, none⟩), .slice none 0 0, .int .i64 0, lr] 69]) (hT0 : w0.heap.size ≤ T) (hM0 : w0.heap.size ≤ mb) (hTM : T ≠ mb) :
    Calls Try.prog 31 #[.pointer (some ⟨Sx, 0, none⟩)] w fun e w' => e = .returned (.int .i64 1) ∧ w.heap.size ≤ w'.heap.size ∧ ∃ lv, St w0 w' [.box Sx #[v0, v1, v2, .pointer (some ⟨T, 0, none⟩), lv, .int .i64 0, lr] 69] := by
  obtain ⟨i3, gi, gz0, gz1, gz2⟩ := info_parts infoI
  have HR := Lib.hid (run49 T mb g1 g2 g3 (.box Sx #[v0, v1, v2, .pointer (some ⟨T, 0, none⟩), .slice none 0 0, .int .i64 0, lr] 69) w0 w (fun h => hST h.symm) (fun h => hSM h.symm) hc S hT0 hM0 hTM)
  obtain ⟨y0, _⟩ := S.cell 2 3 rfl
  clear S hc
  go_enter Try.func31, Try.ntmps31
  go_wp2_with fail
  refine HR.out.mono ?_
  rintro e w2 ⟨rfl, hz2, ao, cap, wv, S2⟩
  clear y0 HR
  obtain ⟨y3, _⟩ := S2.cell 2 3 rfl
  obtain ⟨y4, _⟩ := S2.cell 2 4 rfl
  obtain ⟨y5, _⟩ := S2.cell 2 5 rfl
  obtain ⟨t1, _⟩ := S2.cell 0 1 rfl
  have HS2 := Lib.hid S2
  clear S2
  go_wp2_with fail
  refine wp_loop_rounds 2 ?_
  rw [rounds_succ]
  go_upto_region 2 with fail
  go_quiet (fail)
  refine (HS2.out.drewN nq).genX (z := w2.heap.size) (Nat.le_refl _) ?_
  clear y3 y4 y5 t1 HS2
  intro w3 z3 S3
  have FC := Lib.hid (fun W (hb : Below w3.heap.size w3 W) => (show W.cell? ⟨Sx, 4, none⟩ = some (.slice none 0 0) ∧ W.cell? ⟨Sx, 5, none⟩ = some (.int .i64 0) from ⟨Below.cellOf hb (S3.cell 2 4 rfl).1, Below.cellOf hb (S3.cell 2 5 rfl).1⟩))
  have HS3 := Lib.hid S3
  clear S3
  go_upto_region 3 with fail
  refine wpT_region [13] (fun W => W.cell? ⟨Sx, 4, none⟩ = some (.slice none 0 0) ∧ W.cell? ⟨Sx, 5, none⟩ = some (.int .i64 0)) (by kernel_rfl) ?_
  have HS := FC.out _ (Below.refl _ w3).drew
  try simp only [Act.put, List.setIfInBounds_toArray, List.set_cons_zero, List.set_cons_succ]
  refine wpT.pure (i := 0) (by kernel_rfl) (by kernel_rfl) (by kernel_rfl) (by kernel_rfl) (by kernel_rfl) (fun _ => HS) ?_
  intro oi ho
  simp only [List.getElem?_toArray, List.getElem?_cons_succ, List.getElem?_cons_zero, Option.some.injEq] at ho
  subst ho
  refine ⟨?_, Or.inl ⟨by rfl, ?_⟩, fun _ _ _ h => h, ?_⟩
  rotate_left 1
  · intro W hW
    try (subst hW)
    try dsimp only at hW
    go_simp
    try with_reducible rfl
  try simp only [Act.put, List.setIfInBounds_toArray, List.set_cons_zero, List.set_cons_succ]
  refine wpT.pure (i := 1) (by kernel_rfl) (by kernel_rfl) (by kernel_rfl) (by kernel_rfl) (by kernel_rfl) (fun _ => HS) ?_
  intro oi ho
  simp only [List.getElem?_toArray, List.getElem?_cons_succ, List.getElem?_cons_zero, Option.some.injEq] at ho
  subst ho
  refine ⟨?_, Or.inl ⟨by rfl, ?_⟩, fun _ _ _ h => h, ?_⟩
  rotate_left 1
  · intro W hW
    try (subst hW)
    try dsimp only at hW
    go_simp
    try with_reducible rfl
  try simp only [Act.put, List.setIfInBounds_toArray, List.set_cons_zero, List.set_cons_succ]
  refine wpT.pure (i := 2) (by kernel_rfl) (by kernel_rfl) (by kernel_rfl) (by kernel_rfl) (by kernel_rfl) (fun _ => HS) ?_
  intro oi ho
  simp only [List.getElem?_toArray, List.getElem?_cons_succ, List.getElem?_cons_zero, Option.some.injEq] at ho
  subst ho
  refine ⟨?_, Or.inl ⟨by rfl, ?_⟩, fun _ _ _ h => h, ?_⟩
  rotate_left 1
  · intro W hW
    try (subst hW)
    try dsimp only at hW
    go_simp
    try with_reducible rfl
  try simp only [Act.put, List.setIfInBounds_toArray, List.set_cons_zero, List.set_cons_succ]
  refine wpT.pure (i := 3) (by kernel_rfl) (by kernel_rfl) (by kernel_rfl) (by kernel_rfl) (by kernel_rfl) (fun _ => HS) ?_
  intro oi ho
  simp only [List.getElem?_toArray, List.getElem?_cons_succ, List.getElem?_cons_zero, Option.some.injEq] at ho
  subst ho
  refine ⟨?_, Or.inl ⟨by rfl, ?_⟩, fun _ _ _ h => h, ?_⟩
  rotate_left 1
  · intro W hW
    try (subst hW)
    try dsimp only at hW
    go_simp
    try with_reducible rfl
  try simp only [Act.put, List.setIfInBounds_toArray, List.set_cons_zero, List.set_cons_succ]
  refine wpT.take (i := 4) (by kernel_rfl) (by kernel_rfl) (by kernel_rfl) (by kernel_rfl) (by kernel_rfl) (fun _ => HS) ?_
  intro oi ho
  simp only [List.getElem?_toArray, List.getElem?_cons_succ, List.getElem?_cons_zero, Option.some.injEq] at ho
  subst ho
  refine ⟨?_, Or.inl ⟨by rfl, ?_⟩, fun _ _ _ h => h, ?_⟩
  rotate_left 1
  · intro W hW
    try (subst hW)
    try dsimp only at hW
    go_simp
    try with_reducible rfl
  try simp only [Act.put, List.setIfInBounds_toArray, List.set_cons_zero, List.set_cons_succ]
  refine wpT.pure (i := 5) (by kernel_rfl) (by kernel_rfl) (by kernel_rfl) (by kernel_rfl) (by kernel_rfl) (fun _ => HS) ?_
  intro oi ho
  simp only [List.getElem?_toArray, List.getElem?_cons_succ, List.getElem?_cons_zero, Option.some.injEq] at ho
  subst ho
  refine ⟨?_, Or.inl ⟨by rfl, ?_⟩, fun _ _ _ h => h, ?_⟩
  rotate_left 1
  · intro W hW
    try (subst hW)
    try dsimp only at hW
    go_simp
    try with_reducible rfl
  try simp only [Act.put, List.setIfInBounds_toArray, List.set_cons_zero, List.set_cons_succ]
  refine wpT.pure (i := 6) (by kernel_rfl) (by kernel_rfl) (by kernel_rfl) (by kernel_rfl) (by kernel_rfl) (fun _ => HS) ?_
  intro oi ho
  simp only [List.getElem?_toArray, List.getElem?_cons_succ, List.getElem?_cons_zero, Option.some.injEq] at ho
  subst ho
  refine ⟨?_, Or.inl ⟨by rfl, ?_⟩, fun _ _ _ h => h, ?_⟩
  rotate_left 1
  · intro W hW
    try (subst hW)
    try dsimp only at hW
    go_simp
    try with_reducible rfl
  try simp only [Act.put, List.setIfInBounds_toArray, List.set_cons_zero, List.set_cons_succ]
  refine wpT.pure (i := 7) (by kernel_rfl) (by kernel_rfl) (by kernel_rfl) (by kernel_rfl) (by kernel_rfl) (fun _ => HS) ?_
  intro oi ho
  simp only [List.getElem?_toArray, List.getElem?_cons_succ, List.getElem?_cons_zero, Option.some.injEq] at ho
  subst ho
  refine ⟨?_, Or.inl ⟨by rfl, ?_⟩, fun _ _ _ h => h, ?_⟩
  rotate_left 1
  · intro W hW
    try (subst hW)
    try dsimp only at hW
    go_simp
    try with_reducible rfl
  try simp only [Act.put, List.setIfInBounds_toArray, List.set_cons_zero, List.set_cons_succ]
  refine wpT.take (i := 8) (by kernel_rfl) (by kernel_rfl) (by kernel_rfl) (by kernel_rfl) (by kernel_rfl) (fun _ => HS) ?_
  intro oi ho
  simp only [List.getElem?_toArray, List.getElem?_cons_succ, List.getElem?_cons_zero, Option.some.injEq] at ho
  subst ho
  refine ⟨?_, Or.inl ⟨by rfl, ?_⟩, fun _ _ _ h => h, ?_⟩
  rotate_left 1
  · intro W hW
    try (subst hW)
    try dsimp only at hW
    go_simp
    try with_reducible rfl
  try simp only [Act.put, List.setIfInBounds_toArray, List.set_cons_zero, List.set_cons_succ]
  refine wpT.one (i := 9) (by kernel_rfl) ?_
  intro oi ho
  simp only [List.getElem?_toArray, List.getElem?_cons_succ, List.getElem?_cons_zero, Option.some.injEq] at ho
  subst ho
  intro K' hK
  have HK := Lib.hid hK
  clear hK
  go_simp
  have hbA : (w3.alloc (.cells #[.int .i64 0] 3)).drew.heap[w3.heap.size]? = some (.cells #[.int .i64 0] 3 (0, 0)) := heap_ofAlloc w3 (.cells #[.int .i64 0] 3)
  have HA := Lib.hid ((Below.refl w3.heap.size w3).alloc (Nat.le_refl _) (.cells #[.int .i64 0] 3)).drew
  refine HK.out _ _ (fun _ => FC.out _ HA.out) ?_
  try simp only [Act.put, List.setIfInBounds_toArray, List.set_cons_zero, List.set_cons_succ]
  refine wpT.one (i := 10) (by kernel_rfl) ?_
  intro oi ho
  simp only [List.getElem?_toArray, List.getElem?_cons_succ, List.getElem?_cons_zero, Option.some.injEq] at ho
  subst ho
  intro K' hK
  have HK := Lib.hid hK
  clear hK
  refine step_app1 (by rfl) (.tmp 27) (.tmp 32) 22 (by rfl) Try.underlying22 gi gz0 gz1 gz2 (by rfl) (by rfl) (by rfl) hbA ?_
  intro ao1 cap1 w8 hb8
  have HE := Lib.hid (Below.step HA.out hb8)
  refine HK.out _ _ (fun _ => FC.out _ HE.out) ?_
  clear hb8 hbA HS
  have HSE := FC.out _ HE.out
  have S9 := HS3.out.step HE.out
  have hsz9 := HE.out.size
  try simp only [Act.put, List.setIfInBounds_toArray, List.set_cons_zero, List.set_cons_succ]
  refine wpT.pure (i := 11) (by kernel_rfl) (by kernel_rfl) (by kernel_rfl) (by kernel_rfl) (by kernel_rfl) (fun _ => HSE) ?_
  intro oi ho
  simp only [List.getElem?_toArray, List.getElem?_cons_succ, List.getElem?_cons_zero, Option.some.injEq] at ho
  subst ho
  refine ⟨?_, Or.inl ⟨by rfl, ?_⟩, fun _ _ _ h => h, ?_⟩
  rotate_left 1
  · intro W hW
    try (subst hW)
    try dsimp only at hW
    go_simp
    try with_reducible rfl
  try simp only [Act.put, List.setIfInBounds_toArray, List.set_cons_zero, List.set_cons_succ]
  refine wpT.pure (i := 12) (by kernel_rfl) (by kernel_rfl) (by kernel_rfl) (by kernel_rfl) (by kernel_rfl) (fun _ => HSE) ?_
  intro oi ho
  simp only [List.getElem?_toArray, List.getElem?_cons_succ, List.getElem?_cons_zero, Option.some.injEq] at ho
  subst ho
  refine ⟨?_, Or.inl ⟨by rfl, ?_⟩, fun _ _ _ h => h, ?_⟩
  rotate_left 1
  · intro W hW
    try (subst hW)
    try dsimp only at hW
    go_simp
    try with_reducible rfl
  obtain ⟨y1, y2⟩ := S9.cell 2 4 rfl
  have hl9 := S9.lt 2
  try simp only [Act.put, List.setIfInBounds_toArray, List.set_cons_zero, List.set_cons_succ]
  refine wpT.one (i := 13) (by kernel_rfl) ?_
  intro oi ho
  simp only [List.getElem?_toArray, List.getElem?_cons_succ, List.getElem?_cons_zero, Option.some.injEq] at ho
  subst ho
  intro K' hK
  have HK := Lib.hid hK
  clear hK
  go_simp
  refine HK.out _ _ (fun h => absurd h (by decide)) ?_
  have S10 := S9.setC 2 rfl 4 (.slice ao1 1 cap1) hS0 (by simp only [offs, offAll, Fct.box, Fct.bmap, and_true]; exact ⟨hST, hSM⟩)
  try simp only [Act.put, List.setIfInBounds_toArray, List.set_cons_zero, List.set_cons_succ]
  refine wpT.done (by kernel_rfl) ?_
  have S11 : St w0 (w8.setCell ⟨Sx, 4, none⟩ (.slice ao1 1 cap1)) [.box T #[.slice (some ⟨g3, 0, none⟩) 2 2, .slice ao 1 cap, wv, .map (some mb)] 81, .bmap 3 4 mb 1 f1T, .box Sx #[v0, v1, v2, .pointer (some ⟨T, 0, none⟩), .slice ao1 1 cap1, .int .i64 0, lr] 69] := S10
  clear y1 y2 HSE S9 S10
  refine S11.genX (z := w8.heap.size) (by simp [World.setCell]) ?_
  intro w9 z9 S
  clear S11
  go_wp2_with fail
  rw [rounds_succ]
  obtain ⟨y3, _⟩ := S.cell 2 3 rfl
  obtain ⟨y4, _⟩ := S.cell 2 4 rfl
  obtain ⟨y5, _⟩ := S.cell 2 5 rfl
  obtain ⟨t1, _⟩ := S.cell 0 1 rfl
  have HS9 := Lib.hid S
  clear S
  go_upto_region 2 with fail
  go_quiet (fail)
  refine (HS9.out.drewN nq).genX (z := w9.heap.size) (Nat.le_refl _) ?_
  clear y3 y4 y5 t1 HS9
  intro w10 z10 S3
  have SB := Lib.hid S3
  clear S3
  go_wp2_with fail
  go_ret
  exact ⟨rfl, by omega, .slice ao1 1 cap1, SB.out.pick [2]⟩
end Go.Proofs.Ytlpoedjipncbhaa
