/-
  Walks: unit.Trail.Add to an empty trail.
-/
import Derived.Test.YtlpoedjipncbhaaProg
import Derived.Test.YtlpoedjipncbhaaTw9
import Derived.Test.YtlpoedjipncbhaaTd7
namespace Go.Proofs.Ytlpoedjipncbhaa
open Go.RowKit Go.Shelf Go.Maps
set_option linter.unusedVariables false
set_option linter.unusedSimpArgs false
set_option maxHeartbeats 400000

/-- one number appended to nothing: its shape -/
theorem step_app1 {P : Program} {w : World} {ops : Array Oper} {ope : Oper} {a : Act} {K : Act → World → Prop} {Q : Exit → Act → World → Prop} {E0 : Prop} {x : Int} {b : Nat}
    (hgd : ope.guard = none) (s y : Operand) (t : TypeId) (hop : ope.op = Op.call { callee := Callee.builtin Builtin.append, args := #[s, y], argTypes := #[t, t] })
    {inf : TypeInfo} {z : Value} (hu : P.underlying t = some (.slice 3)) (h1 : P.info? 3 = some inf) (h2 : inf.zero = some z) (h3 : inf.size = 1) (h4 : inf.bytes = 8) (h5 : z.cells.size = 1)
    (hv : a.eval s = .slice none 0 0) (hy : a.eval y = .slice (some ⟨b, 0, none⟩) 1 1) (hb : w.heap[b]? = some (.cells #[.int .i64 x] 3 (0, 0)))
    (h : ∀ (ao : Option Addr) cap w3, Below w.heap.size w w3 → K (a.put ope.dst (.slice ao 1 cap)) w3) :
    if Region.wanted ope (yielded ops a.tmps) = true then Oper.wp P ope a w K Q else E0 := by
  refine step_appRow hgd s y t hop intE ((St.start w).add (.owns intE w.heap.size (fun _ => False) (.slice none 0 0) []) (Elt.Own.nil _ _ _ _)) 0 rfl (yo := some ⟨b, 0, none⟩) (ys := [x]) (q := fun c => c = b) (p' := fun _ => True) (c := 1) ?_ hu h1 h2 h3 h4 h5 rfl hv hy (by unfold maxLen; simp) (by simp) (Nat.le_refl _) (Nat.le_refl _) (fun bb h => by cases h) (fun bb h e => by cases e) (fun _ _ => trivial) ?_
  · intro i y hi
    rcases i with _ | i
    · obtain rfl : x = y := by simpa using hi
      refine ⟨b, 0, [.int .i64 x], rfl, rfl, fun j u hu => ?_, rfl⟩
      rcases j with _ | j
      · simp at hu; subst hu; simp [World.cell?, hb]
      · simp at hu
    · simp at hi
  · intro ao cap w3 S3 _ _ _
    exact h ao cap w3 S3.bel
set_option maxRecDepth 100000 in
set_option maxHeartbeats 4000000 in
theorem add58 (x i : Int) (cl : Value) (T mb : Nat) (F : Fct) (w0 w : World) (hF1 : ¬ F.foot T) (hF2 : ¬ F.foot mb) (h1 : -100 ≤ x) (h2 : x ≤ 100) (S : St w0 w [.box T #[cl, .slice none 0 0, .slice none 0 0, .map (some mb)] 81, .bmap 3 4 mb 0 (fun _ => none), F]) (hT0 : w0.heap.size ≤ T) (hM0 : w0.heap.size ≤ mb) (hTM : T ≠ mb) :
    Calls Try.prog 58 #[.pointer (some ⟨T, 0, none⟩), .int .i64 x, .int .i64 i] w fun e w' => e = .returned (.tuple #[]) ∧ w.heap.size ≤ w'.heap.size ∧ ∃ ao cap wv, St w0 w' [.box T #[cl, .slice ao 1 cap, wv, .map (some mb)] 81, .bmap 3 4 mb 1 (fput (fun _ => none) (.int .i64 x) true), F] := by
  obtain ⟨i3, gi, gz0, gz1, gz2⟩ := info_parts infoI
  have FC := Lib.hid (fun W (hb : Below w.heap.size w W) => (show W.cell? ⟨T, 1, none⟩ = some (.slice none 0 0) ∧ W.cell? ⟨T, 2, none⟩ = some (.slice none 0 0) from ⟨Below.cellOf hb (S.cell 0 1 rfl).1, Below.cellOf hb (S.cell 0 2 rfl).1⟩))
  have HSS := Lib.hid S
  clear S
  go_enter Try.func58, Try.ntmps58
  go_upto_region 0 with fail
  refine wpT_region [18, 21] (fun W => W.cell? ⟨T, 1, none⟩ = some (.slice none 0 0) ∧ W.cell? ⟨T, 2, none⟩ = some (.slice none 0 0)) (by kernel_rfl) ?_
  have HS := FC.out _ (Below.refl _ w).drew
  try simp only [Act.put, List.setIfInBounds_toArray, List.set_cons_zero, List.set_cons_succ]
  refine wpT.pure (i := 0) (by kernel_rfl) (by kernel_rfl) (by kernel_rfl) (by kernel_rfl) (by kernel_rfl) (fun _ => HS) ?_
  intro oi ho
  simp only [List.getElem?_toArray, List.getElem?_cons_succ, List.getElem?_cons_zero, Option.some.injEq] at ho
  subst ho
  refine ⟨?_, Or.inl ⟨by rfl, ?_⟩, fun _ _ _ h => h, ?_⟩
  rotate_left 1
  · intro W hW
    try (subst hW)
    try dsimp only at hW
    go_simp
    try with_reducible rfl
  try simp only [Act.put, List.setIfInBounds_toArray, List.set_cons_zero, List.set_cons_succ]
  refine wpT.pure (i := 1) (by kernel_rfl) (by kernel_rfl) (by kernel_rfl) (by kernel_rfl) (by kernel_rfl) (fun _ => HS) ?_
  intro oi ho
  simp only [List.getElem?_toArray, List.getElem?_cons_succ, List.getElem?_cons_zero, Option.some.injEq] at ho
  subst ho
  refine ⟨?_, Or.inl ⟨by rfl, ?_⟩, fun _ _ _ h => h, ?_⟩
  rotate_left 1
  · intro W hW
    try (subst hW)
    try dsimp only at hW
    go_simp
    try with_reducible rfl
  try simp only [Act.put, List.setIfInBounds_toArray, List.set_cons_zero, List.set_cons_succ]
  refine wpT.pure (i := 2) (by kernel_rfl) (by kernel_rfl) (by kernel_rfl) (by kernel_rfl) (by kernel_rfl) (fun _ => HS) ?_
  intro oi ho
  simp only [List.getElem?_toArray, List.getElem?_cons_succ, List.getElem?_cons_zero, Option.some.injEq] at ho
  subst ho
  refine ⟨?_, Or.inl ⟨by rfl, ?_⟩, fun _ _ _ h => h, ?_⟩
  rotate_left 1
  · intro W hW
    try (subst hW)
    try dsimp only at hW
    go_simp
    try with_reducible rfl
  try simp only [Act.put, List.setIfInBounds_toArray, List.set_cons_zero, List.set_cons_succ]
  refine wpT.pure (i := 3) (by kernel_rfl) (by kernel_rfl) (by kernel_rfl) (by kernel_rfl) (by kernel_rfl) (fun _ => HS) ?_
  intro oi ho
  simp only [List.getElem?_toArray, List.getElem?_cons_succ, List.getElem?_cons_zero, Option.some.injEq] at ho
  subst ho
  refine ⟨?_, Or.inl ⟨by rfl, ?_⟩, fun _ _ _ h => h, ?_⟩
  rotate_left 1
  · intro W hW
    try (subst hW)
    try dsimp only at hW
    go_simp
    try with_reducible rfl
  try simp only [Act.put, List.setIfInBounds_toArray, List.set_cons_zero, List.set_cons_succ]
  refine wpT.pure (i := 4) (by kernel_rfl) (by kernel_rfl) (by kernel_rfl) (by kernel_rfl) (by kernel_rfl) (fun _ => HS) ?_
  intro oi ho
  simp only [List.getElem?_toArray, List.getElem?_cons_succ, List.getElem?_cons_zero, Option.some.injEq] at ho
  subst ho
  refine ⟨?_, Or.inl ⟨by rfl, ?_⟩, fun _ _ _ h => h, ?_⟩
  rotate_left 1
  · intro W hW
    try (subst hW)
    try dsimp only at hW
    go_simp
    try with_reducible rfl
  try simp only [Act.put, List.setIfInBounds_toArray, List.set_cons_zero, List.set_cons_succ]
  refine wpT.take (i := 5) (by kernel_rfl) (by kernel_rfl) (by kernel_rfl) (by kernel_rfl) (by kernel_rfl) (fun _ => HS) ?_
  intro oi ho
  simp only [List.getElem?_toArray, List.getElem?_cons_succ, List.getElem?_cons_zero, Option.some.injEq] at ho
  subst ho
  refine ⟨?_, Or.inl ⟨by rfl, ?_⟩, fun _ _ _ h => h, ?_⟩
  rotate_left 1
  · intro W hW
    try (subst hW)
    try dsimp only at hW
    go_simp
    try with_reducible rfl
  try simp only [Act.put, List.setIfInBounds_toArray, List.set_cons_zero, List.set_cons_succ]
  refine wpT.pure (i := 6) (by kernel_rfl) (by kernel_rfl) (by kernel_rfl) (by kernel_rfl) (by kernel_rfl) (fun _ => HS) ?_
  intro oi ho
  simp only [List.getElem?_toArray, List.getElem?_cons_succ, List.getElem?_cons_zero, Option.some.injEq] at ho
  subst ho
  refine ⟨?_, Or.inl ⟨by rfl, ?_⟩, fun _ _ _ h => h, ?_⟩
  rotate_left 1
  · intro W hW
    try (subst hW)
    try dsimp only at hW
    go_simp
    try with_reducible rfl
  try simp only [Act.put, List.setIfInBounds_toArray, List.set_cons_zero, List.set_cons_succ]
  refine wpT.pure (i := 9) (by kernel_rfl) (by kernel_rfl) (by kernel_rfl) (by kernel_rfl) (by kernel_rfl) (fun _ => HS) ?_
  intro oi ho
  simp only [List.getElem?_toArray, List.getElem?_cons_succ, List.getElem?_cons_zero, Option.some.injEq] at ho
  subst ho
  refine ⟨?_, Or.inl ⟨by rfl, ?_⟩, fun _ _ _ h => h, ?_⟩
  rotate_left 1
  · intro W hW
    try (subst hW)
    try dsimp only at hW
    go_simp
    try with_reducible rfl
  try simp only [Act.put, List.setIfInBounds_toArray, List.set_cons_zero, List.set_cons_succ]
  refine wpT.pure (i := 10) (by kernel_rfl) (by kernel_rfl) (by kernel_rfl) (by kernel_rfl) (by kernel_rfl) (fun _ => HS) ?_
  intro oi ho
  simp only [List.getElem?_toArray, List.getElem?_cons_succ, List.getElem?_cons_zero, Option.some.injEq] at ho
  subst ho
  refine ⟨?_, Or.inl ⟨by rfl, ?_⟩, fun _ _ _ h => h, ?_⟩
  rotate_left 1
  · intro W hW
    try (subst hW)
    try dsimp only at hW
    go_simp
    try with_reducible rfl
  try simp only [Act.put, List.setIfInBounds_toArray, List.set_cons_zero, List.set_cons_succ]
  refine wpT.pure (i := 11) (by kernel_rfl) (by kernel_rfl) (by kernel_rfl) (by kernel_rfl) (by kernel_rfl) (fun _ => HS) ?_
  intro oi ho
  simp only [List.getElem?_toArray, List.getElem?_cons_succ, List.getElem?_cons_zero, Option.some.injEq] at ho
  subst ho
  refine ⟨?_, Or.inl ⟨by rfl, ?_⟩, fun _ _ _ h => h, ?_⟩
  rotate_left 1
  · intro W hW
    try (subst hW)
    try dsimp only at hW
    go_simp
    try with_reducible rfl
  try simp only [Act.put, List.setIfInBounds_toArray, List.set_cons_zero, List.set_cons_succ]
  refine wpT.take (i := 12) (by kernel_rfl) (by kernel_rfl) (by kernel_rfl) (by kernel_rfl) (by kernel_rfl) (fun _ => HS) ?_
  intro oi ho
  simp only [List.getElem?_toArray, List.getElem?_cons_succ, List.getElem?_cons_zero, Option.some.injEq] at ho
  subst ho
  refine ⟨?_, Or.inl ⟨by rfl, ?_⟩, fun _ _ _ h => h, ?_⟩
  rotate_left 1
  · intro W hW
    try (subst hW)
    try dsimp only at hW
    go_simp
    try with_reducible rfl
  try simp only [Act.put, List.setIfInBounds_toArray, List.set_cons_zero, List.set_cons_succ]
  refine wpT.pure (i := 13) (by kernel_rfl) (by kernel_rfl) (by kernel_rfl) (by kernel_rfl) (by kernel_rfl) (fun _ => HS) ?_
  intro oi ho
  simp only [List.getElem?_toArray, List.getElem?_cons_succ, List.getElem?_cons_zero, Option.some.injEq] at ho
  subst ho
  refine ⟨?_, Or.inl ⟨by rfl, ?_⟩, fun _ _ _ h => h, ?_⟩
  rotate_left 1
  · intro W hW
    try (subst hW)
    try dsimp only at hW
    go_simp
    try with_reducible rfl
  clear HS
  try simp only [Act.put, List.setIfInBounds_toArray, List.set_cons_zero, List.set_cons_succ]
  refine wpT.two (i := 7) (j := 14) (by kernel_rfl) ?_ ?_
  · skip
    intro oi ho
    simp only [List.getElem?_toArray, List.getElem?_cons_succ, List.getElem?_cons_zero, Option.some.injEq] at ho
    subst ho
    intro K' hK
    have HK := Lib.hid hK
    clear hK
    go_simp
    have hbA : (w.alloc (.cells #[.int .i64 x] 3)).drew.heap[w.heap.size]? = some (.cells #[.int .i64 x] 3 (0, 0)) := heap_ofAlloc w (.cells #[.int .i64 x] 3)
    have HA := Lib.hid ((Below.refl w.heap.size w).alloc (Nat.le_refl _) (.cells #[.int .i64 x] 3)).drew
    refine HK.out _ _ (fun _ => FC.out _ HA.out) ?_
    obtain ⟨bA, hbAe⟩ : ∃ b, b = w.heap.size := ⟨_, rfl⟩
    rw [← hbAe] at hbA ⊢
    clear hbAe
    generalize (w.alloc (.cells #[.int .i64 x] 3)).drew = wa at hbA HA ⊢
    try simp only [Act.put, List.setIfInBounds_toArray, List.set_cons_zero, List.set_cons_succ]
    refine wpT.two (i := 8) (j := 14) (by kernel_rfl) ?_ ?_
    · skip
      intro oi ho
      simp only [List.getElem?_toArray, List.getElem?_cons_succ, List.getElem?_cons_zero, Option.some.injEq] at ho
      subst ho
      intro K' hK
      have HK := Lib.hid hK
      clear hK
      refine step_app1 (by rfl) (.tmp 11) (.tmp 13) 22 (by rfl) Try.underlying22 gi gz0 gz1 gz2 (by rfl) (by rfl) (by rfl) hbA ?_
      intro ao1 cap1 w8 hb8
      have HB8 := Lib.hid (Below.step HA.out hb8)
      refine HK.out _ _ (fun _ => FC.out _ HB8.out) ?_
      clear hb8 hbA
      try simp only [Act.put, List.setIfInBounds_toArray, List.set_cons_zero, List.set_cons_succ]
      refine wpT.one (i := 14) (by kernel_rfl) ?_
      intro oi ho
      simp only [List.getElem?_toArray, List.getElem?_cons_succ, List.getElem?_cons_zero, Option.some.injEq] at ho
      subst ho
      intro K' hK
      have HK := Lib.hid hK
      clear hK
      go_simp
      have hbB := heap_ofAlloc w8 (.cells #[.int .i64 i] 3)
      have HB := Lib.hid (Below.step HB8.out ((Below.refl _ w8).alloc (Nat.le_refl _) (.cells #[.int .i64 i] 3)))
      refine HK.out _ _ (fun _ => FC.out _ HB.out) ?_
      try simp only [Act.put, List.setIfInBounds_toArray, List.set_cons_zero, List.set_cons_succ]
      refine wpT.one (i := 15) (by kernel_rfl) ?_
      intro oi ho
      simp only [List.getElem?_toArray, List.getElem?_cons_succ, List.getElem?_cons_zero, Option.some.injEq] at ho
      subst ho
      intro K' hK
      have HK := Lib.hid hK
      clear hK
      refine step_app1 (by rfl) (.tmp 18) (.tmp 20) 22 (by rfl) Try.underlying22 gi gz0 gz1 gz2 (by rfl) (by rfl) (by rfl) hbB ?_
      intro ao2 cap2 w9 hb9
      have HE := Lib.hid (Below.step HB.out hb9)
      refine HK.out _ _ (fun _ => FC.out _ HE.out) ?_
      clear hb9 hbB
      have HSE := FC.out _ HE.out
      have S9 := HSS.out.step HE.out
      have hsz9 := HE.out.size
      try simp only [Act.put, List.setIfInBounds_toArray, List.set_cons_zero, List.set_cons_succ]
      refine wpT.pure (i := 16) (by kernel_rfl) (by kernel_rfl) (by kernel_rfl) (by kernel_rfl) (by kernel_rfl) (fun _ => HSE) ?_
      intro oi ho
      simp only [List.getElem?_toArray, List.getElem?_cons_succ, List.getElem?_cons_zero, Option.some.injEq] at ho
      subst ho
      refine ⟨?_, Or.inl ⟨by rfl, ?_⟩, fun _ _ _ h => h, ?_⟩
      rotate_left 1
      · intro W hW
        try (subst hW)
        try dsimp only at hW
        go_simp
        try with_reducible rfl
      try simp only [Act.put, List.setIfInBounds_toArray, List.set_cons_zero, List.set_cons_succ]
      refine wpT.pure (i := 17) (by kernel_rfl) (by kernel_rfl) (by kernel_rfl) (by kernel_rfl) (by kernel_rfl) (fun _ => HSE) ?_
      intro oi ho
      simp only [List.getElem?_toArray, List.getElem?_cons_succ, List.getElem?_cons_zero, Option.some.injEq] at ho
      subst ho
      refine ⟨?_, Or.inl ⟨by rfl, ?_⟩, fun _ _ _ h => h, ?_⟩
      rotate_left 1
      · intro W hW
        try (subst hW)
        try dsimp only at hW
        go_simp
        try with_reducible rfl
      obtain ⟨y1, y2⟩ := S9.cell 0 1 rfl
      have hl9 := S9.lt 0
      try simp only [Act.put, List.setIfInBounds_toArray, List.set_cons_zero, List.set_cons_succ]
      refine wpT.one (i := 18) (by kernel_rfl) ?_
      intro oi ho
      simp only [List.getElem?_toArray, List.getElem?_cons_succ, List.getElem?_cons_zero, Option.some.injEq] at ho
      subst ho
      intro K' hK
      have HK := Lib.hid hK
      clear hK
      go_simp
      refine HK.out _ _ (fun h => absurd h (by decide)) ?_
      have S10 := S9.setC 0 rfl 1 (.slice ao1 1 cap1) hT0 (by simp only [offs, offAll, Fct.bmap, and_true]; exact ⟨hTM, hF1⟩)
      try simp only [Act.put, List.setIfInBounds_toArray, List.set_cons_zero, List.set_cons_succ]
      refine wpT.pure (i := 19) (by kernel_rfl) (by kernel_rfl) (by kernel_rfl) (by kernel_rfl) (by kernel_rfl) (fun h => absurd h (by decide)) ?_
      intro oi ho
      simp only [List.getElem?_toArray, List.getElem?_cons_succ, List.getElem?_cons_zero, Option.some.injEq] at ho
      subst ho
      refine ⟨?_, Or.inl ⟨by rfl, ?_⟩, fun _ _ _ h => h, ?_⟩
      rotate_left 1
      · intro W hW
        try (subst hW)
        try dsimp only at hW
        go_simp
        try with_reducible rfl
      try simp only [Act.put, List.setIfInBounds_toArray, List.set_cons_zero, List.set_cons_succ]
      refine wpT.pure (i := 20) (by kernel_rfl) (by kernel_rfl) (by kernel_rfl) (by kernel_rfl) (by kernel_rfl) (fun h => absurd h (by decide)) ?_
      intro oi ho
      simp only [List.getElem?_toArray, List.getElem?_cons_succ, List.getElem?_cons_zero, Option.some.injEq] at ho
      subst ho
      refine ⟨?_, Or.inl ⟨by rfl, ?_⟩, fun _ _ _ h => h, ?_⟩
      rotate_left 1
      · intro W hW
        try (subst hW)
        try dsimp only at hW
        go_simp
        try with_reducible rfl
      clear y1 y2
      obtain ⟨y1, y2⟩ := S10.cell 0 2 rfl
      have hl10 := S10.lt 0
      try simp only [Act.put, List.setIfInBounds_toArray, List.set_cons_zero, List.set_cons_succ]
      refine wpT.one (i := 21) (by kernel_rfl) ?_
      intro oi ho
      simp only [List.getElem?_toArray, List.getElem?_cons_succ, List.getElem?_cons_zero, Option.some.injEq] at ho
      subst ho
      intro K' hK
      have HK := Lib.hid hK
      clear hK
      go_simp
      refine HK.out _ _ (fun h => absurd h (by decide)) ?_
      have S11 := S10.setC 0 rfl 2 (.slice ao2 1 cap2) hT0 (by simp only [fset, offs, offAll, Fct.bmap, and_true]; exact ⟨hTM, hF1⟩)
      try simp only [Act.put, List.setIfInBounds_toArray, List.set_cons_zero, List.set_cons_succ]
      refine wpT.done (by kernel_rfl) ?_
      clear y1 y2 HSE
      obtain ⟨w12, hrun, hm12, hg12⟩ := (S11.bmap 1).store (t := 79) law3 Try.underlying79 Try.underlying4 (by unfold maxLen; omega) (keyI (z := x) (by omega) (by omega)) (v := true)
      obtain ⟨z3, _⟩ := S11.cell 0 3 rfl
      have S12 := Lib.hid (S11.turn (F' := .bmap 3 4 mb 1 (fput (fun _ => none) (.int .i64 x) true)) 1 rfl (fun c h => h) hm12 hg12 hM0 (by simp only [fset, offs, offAll, Fct.box, and_true]; exact ⟨fun h => hTM h.symm, hF2⟩))
      have hsz12 : w9.heap.size ≤ w12.heap.size := by have := hg12.size; simpa [World.setCell] using this
      clear S9 S10 S11
      go_wp2_with fail
      go_end0
      exact ⟨rfl, by omega, ao1, cap1, .slice ao2 1 cap2, S12.out⟩
    · skip
      intro oi ho
      simp only [List.getElem?_toArray, List.getElem?_cons_succ, List.getElem?_cons_zero, Option.some.injEq] at ho
      subst ho
      intro K' hK
      have HK := Lib.hid hK
      clear hK
      go_simp
      have hbB := heap_ofAlloc wa (.cells #[.int .i64 i] 3)
      have hbA2 := heap_alloc_old (o' := .cells #[.int .i64 i] 3) hbA
      have HB := Lib.hid (Below.step HA.out ((Below.refl _ wa).alloc (Nat.le_refl _) (.cells #[.int .i64 i] 3)))
      refine HK.out _ _ (fun _ => FC.out _ HB.out) ?_
      try simp only [Act.put, List.setIfInBounds_toArray, List.set_cons_zero, List.set_cons_succ]
      refine wpT.one (i := 8) (by kernel_rfl) ?_
      intro oi ho
      simp only [List.getElem?_toArray, List.getElem?_cons_succ, List.getElem?_cons_zero, Option.some.injEq] at ho
      subst ho
      intro K' hK
      have HK := Lib.hid hK
      clear hK
      refine step_app1 (by rfl) (.tmp 11) (.tmp 13) 22 (by rfl) Try.underlying22 gi gz0 gz1 gz2 (by rfl) (by rfl) (by rfl) hbA2 ?_
      intro ao1 cap1 w8 hb8
      have HB8 := Lib.hid (Below.step HB.out hb8)
      have hbB2 := (hb8.block wa.heap.size (heap_lt hbB)).trans hbB
      refine HK.out _ _ (fun _ => FC.out _ HB8.out) ?_
      clear hb8 hbA hbA2 hbB
      try simp only [Act.put, List.setIfInBounds_toArray, List.set_cons_zero, List.set_cons_succ]
      refine wpT.one (i := 15) (by kernel_rfl) ?_
      intro oi ho
      simp only [List.getElem?_toArray, List.getElem?_cons_succ, List.getElem?_cons_zero, Option.some.injEq] at ho
      subst ho
      intro K' hK
      have HK := Lib.hid hK
      clear hK
      refine step_app1 (by rfl) (.tmp 18) (.tmp 20) 22 (by rfl) Try.underlying22 gi gz0 gz1 gz2 (by rfl) (by rfl) (by rfl) hbB2 ?_
      intro ao2 cap2 w9 hb9
      have HE := Lib.hid (Below.step HB8.out hb9)
      refine HK.out _ _ (fun _ => FC.out _ HE.out) ?_
      clear hb9 hbB2
      have HSE := FC.out _ HE.out
      have S9 := HSS.out.step HE.out
      have hsz9 := HE.out.size
      try simp only [Act.put, List.setIfInBounds_toArray, List.set_cons_zero, List.set_cons_succ]
      refine wpT.pure (i := 16) (by kernel_rfl) (by kernel_rfl) (by kernel_rfl) (by kernel_rfl) (by kernel_rfl) (fun _ => HSE) ?_
      intro oi ho
      simp only [List.getElem?_toArray, List.getElem?_cons_succ, List.getElem?_cons_zero, Option.some.injEq] at ho
      subst ho
      refine ⟨?_, Or.inl ⟨by rfl, ?_⟩, fun _ _ _ h => h, ?_⟩
      rotate_left 1
      · intro W hW
        try (subst hW)
        try dsimp only at hW
        go_simp
        try with_reducible rfl
      try simp only [Act.put, List.setIfInBounds_toArray, List.set_cons_zero, List.set_cons_succ]
      refine wpT.pure (i := 17) (by kernel_rfl) (by kernel_rfl) (by kernel_rfl) (by kernel_rfl) (by kernel_rfl) (fun _ => HSE) ?_
      intro oi ho
      simp only [List.getElem?_toArray, List.getElem?_cons_succ, List.getElem?_cons_zero, Option.some.injEq] at ho
      subst ho
      refine ⟨?_, Or.inl ⟨by rfl, ?_⟩, fun _ _ _ h => h, ?_⟩
      rotate_left 1
      · intro W hW
        try (subst hW)
        try dsimp only at hW
        go_simp
        try with_reducible rfl
      obtain ⟨y1, y2⟩ := S9.cell 0 1 rfl
      have hl9 := S9.lt 0
      try simp only [Act.put, List.setIfInBounds_toArray, List.set_cons_zero, List.set_cons_succ]
      refine wpT.one (i := 18) (by kernel_rfl) ?_
      intro oi ho
      simp only [List.getElem?_toArray, List.getElem?_cons_succ, List.getElem?_cons_zero, Option.some.injEq] at ho
      subst ho
      intro K' hK
      have HK := Lib.hid hK
      clear hK
      go_simp
      refine HK.out _ _ (fun h => absurd h (by decide)) ?_
      have S10 := S9.setC 0 rfl 1 (.slice ao1 1 cap1) hT0 (by simp only [offs, offAll, Fct.bmap, and_true]; exact ⟨hTM, hF1⟩)
      try simp only [Act.put, List.setIfInBounds_toArray, List.set_cons_zero, List.set_cons_succ]
      refine wpT.pure (i := 19) (by kernel_rfl) (by kernel_rfl) (by kernel_rfl) (by kernel_rfl) (by kernel_rfl) (fun h => absurd h (by decide)) ?_
      intro oi ho
      simp only [List.getElem?_toArray, List.getElem?_cons_succ, List.getElem?_cons_zero, Option.some.injEq] at ho
      subst ho
      refine ⟨?_, Or.inl ⟨by rfl, ?_⟩, fun _ _ _ h => h, ?_⟩
      rotate_left 1
      · intro W hW
        try (subst hW)
        try dsimp only at hW
        go_simp
        try with_reducible rfl
      try simp only [Act.put, List.setIfInBounds_toArray, List.set_cons_zero, List.set_cons_succ]
      refine wpT.pure (i := 20) (by kernel_rfl) (by kernel_rfl) (by kernel_rfl) (by kernel_rfl) (by kernel_rfl) (fun h => absurd h (by decide)) ?_
      intro oi ho
      simp only [List.getElem?_toArray, List.getElem?_cons_succ, List.getElem?_cons_zero, Option.some.injEq] at ho
      subst ho
      refine ⟨?_, Or.inl ⟨by rfl, ?_⟩, fun _ _ _ h => h, ?_⟩
      rotate_left 1
      · intro W hW
        try (subst hW)
        try dsimp only at hW
        go_simp
        try with_reducible rfl
      clear y1 y2
      obtain ⟨y1, y2⟩ := S10.cell 0 2 rfl
      have hl10 := S10.lt 0
      try simp only [Act.put, List.setIfInBounds_toArray, List.set_cons_zero, List.set_cons_succ]
      refine wpT.one (i := 21) (by kernel_rfl) ?_
      intro oi ho
      simp only [List.getElem?_toArray, List.getElem?_cons_succ, List.getElem?_cons_zero, Option.some.injEq] at ho
      subst ho
      intro K' hK
      have HK := Lib.hid hK
      clear hK
      go_simp
      refine HK.out _ _ (fun h => absurd h (by decide)) ?_
      have S11 := S10.setC 0 rfl 2 (.slice ao2 1 cap2) hT0 (by simp only [fset, offs, offAll, Fct.bmap, and_true]; exact ⟨hTM, hF1⟩)
      try simp only [Act.put, List.setIfInBounds_toArray, List.set_cons_zero, List.set_cons_succ]
      refine wpT.done (by kernel_rfl) ?_
      clear y1 y2 HSE
      obtain ⟨w12, hrun, hm12, hg12⟩ := (S11.bmap 1).store (t := 79) law3 Try.underlying79 Try.underlying4 (by unfold maxLen; omega) (keyI (z := x) (by omega) (by omega)) (v := true)
      obtain ⟨z3, _⟩ := S11.cell 0 3 rfl
      have S12 := Lib.hid (S11.turn (F' := .bmap 3 4 mb 1 (fput (fun _ => none) (.int .i64 x) true)) 1 rfl (fun c h => h) hm12 hg12 hM0 (by simp only [fset, offs, offAll, Fct.box, and_true]; exact ⟨fun h => hTM h.symm, hF2⟩))
      have hsz12 : w9.heap.size ≤ w12.heap.size := by have := hg12.size; simpa [World.setCell] using this
      clear S9 S10 S11
      go_wp2_with fail
      go_end0
      exact ⟨rfl, by omega, ao1, cap1, .slice ao2 1 cap2, S12.out⟩
  · skip
    intro oi ho
    simp only [List.getElem?_toArray, List.getElem?_cons_succ, List.getElem?_cons_zero, Option.some.injEq] at ho
    subst ho
    intro K' hK
    have HK := Lib.hid hK
    clear hK
    go_simp
    have hbB : (w.alloc (.cells #[.int .i64 i] 3)).drew.heap[w.heap.size]? = some (.cells #[.int .i64 i] 3 (0, 0)) := heap_ofAlloc w (.cells #[.int .i64 i] 3)
    have HA := Lib.hid ((Below.refl w.heap.size w).alloc (Nat.le_refl _) (.cells #[.int .i64 i] 3)).drew
    refine HK.out _ _ (fun _ => FC.out _ HA.out) ?_
    obtain ⟨bB, hbBe⟩ : ∃ b, b = w.heap.size := ⟨_, rfl⟩
    rw [← hbBe] at hbB ⊢
    clear hbBe
    generalize (w.alloc (.cells #[.int .i64 i] 3)).drew = wa at hbB HA ⊢
    try simp only [Act.put, List.setIfInBounds_toArray, List.set_cons_zero, List.set_cons_succ]
    refine wpT.one (i := 7) (by kernel_rfl) ?_
    intro oi ho
    simp only [List.getElem?_toArray, List.getElem?_cons_succ, List.getElem?_cons_zero, Option.some.injEq] at ho
    subst ho
    intro K' hK
    have HK := Lib.hid hK
    clear hK
    go_simp
    have hbA := heap_ofAlloc wa (.cells #[.int .i64 x] 3)
    have hbB2 := heap_alloc_old (o' := .cells #[.int .i64 x] 3) hbB
    have HB := Lib.hid (Below.step HA.out ((Below.refl _ wa).alloc (Nat.le_refl _) (.cells #[.int .i64 x] 3)))
    refine HK.out _ _ (fun _ => FC.out _ HB.out) ?_
    try simp only [Act.put, List.setIfInBounds_toArray, List.set_cons_zero, List.set_cons_succ]
    refine wpT.one (i := 8) (by kernel_rfl) ?_
    intro oi ho
    simp only [List.getElem?_toArray, List.getElem?_cons_succ, List.getElem?_cons_zero, Option.some.injEq] at ho
    subst ho
    intro K' hK
    have HK := Lib.hid hK
    clear hK
    refine step_app1 (by rfl) (.tmp 11) (.tmp 13) 22 (by rfl) Try.underlying22 gi gz0 gz1 gz2 (by rfl) (by rfl) (by rfl) hbA ?_
    intro ao1 cap1 w8 hb8
    have HB8 := Lib.hid (Below.step HB.out hb8)
    have hbB3 := (hb8.block bB (heap_lt hbB2)).trans hbB2
    refine HK.out _ _ (fun _ => FC.out _ HB8.out) ?_
    clear hb8 hbA hbB hbB2
    try simp only [Act.put, List.setIfInBounds_toArray, List.set_cons_zero, List.set_cons_succ]
    refine wpT.one (i := 15) (by kernel_rfl) ?_
    intro oi ho
    simp only [List.getElem?_toArray, List.getElem?_cons_succ, List.getElem?_cons_zero, Option.some.injEq] at ho
    subst ho
    intro K' hK
    have HK := Lib.hid hK
    clear hK
    refine step_app1 (by rfl) (.tmp 18) (.tmp 20) 22 (by rfl) Try.underlying22 gi gz0 gz1 gz2 (by rfl) (by rfl) (by rfl) hbB3 ?_
    intro ao2 cap2 w9 hb9
    have HE := Lib.hid (Below.step HB8.out hb9)
    refine HK.out _ _ (fun _ => FC.out _ HE.out) ?_
    clear hb9 hbB3
    have HSE := FC.out _ HE.out
    have S9 := HSS.out.step HE.out
    have hsz9 := HE.out.size
    try simp only [Act.put, List.setIfInBounds_toArray, List.set_cons_zero, List.set_cons_succ]
    refine wpT.pure (i := 16) (by kernel_rfl) (by kernel_rfl) (by kernel_rfl) (by kernel_rfl) (by kernel_rfl) (fun _ => HSE) ?_
    intro oi ho
    simp only [List.getElem?_toArray, List.getElem?_cons_succ, List.getElem?_cons_zero, Option.some.injEq] at ho
    subst ho
    refine ⟨?_, Or.inl ⟨by rfl, ?_⟩, fun _ _ _ h => h, ?_⟩
    rotate_left 1
    · intro W hW
      try (subst hW)
      try dsimp only at hW
      go_simp
      try with_reducible rfl
    try simp only [Act.put, List.setIfInBounds_toArray, List.set_cons_zero, List.set_cons_succ]
    refine wpT.pure (i := 17) (by kernel_rfl) (by kernel_rfl) (by kernel_rfl) (by kernel_rfl) (by kernel_rfl) (fun _ => HSE) ?_
    intro oi ho
    simp only [List.getElem?_toArray, List.getElem?_cons_succ, List.getElem?_cons_zero, Option.some.injEq] at ho
    subst ho
    refine ⟨?_, Or.inl ⟨by rfl, ?_⟩, fun _ _ _ h => h, ?_⟩
    rotate_left 1
    · intro W hW
      try (subst hW)
      try dsimp only at hW
      go_simp
      try with_reducible rfl
    obtain ⟨y1, y2⟩ := S9.cell 0 1 rfl
    have hl9 := S9.lt 0
    try simp only [Act.put, List.setIfInBounds_toArray, List.set_cons_zero, List.set_cons_succ]
    refine wpT.one (i := 18) (by kernel_rfl) ?_
    intro oi ho
    simp only [List.getElem?_toArray, List.getElem?_cons_succ, List.getElem?_cons_zero, Option.some.injEq] at ho
    subst ho
    intro K' hK
    have HK := Lib.hid hK
    clear hK
    go_simp
    refine HK.out _ _ (fun h => absurd h (by decide)) ?_
    have S10 := S9.setC 0 rfl 1 (.slice ao1 1 cap1) hT0 (by simp only [offs, offAll, Fct.bmap, and_true]; exact ⟨hTM, hF1⟩)
    try simp only [Act.put, List.setIfInBounds_toArray, List.set_cons_zero, List.set_cons_succ]
    refine wpT.pure (i := 19) (by kernel_rfl) (by kernel_rfl) (by kernel_rfl) (by kernel_rfl) (by kernel_rfl) (fun h => absurd h (by decide)) ?_
    intro oi ho
    simp only [List.getElem?_toArray, List.getElem?_cons_succ, List.getElem?_cons_zero, Option.some.injEq] at ho
    subst ho
    refine ⟨?_, Or.inl ⟨by rfl, ?_⟩, fun _ _ _ h => h, ?_⟩
    rotate_left 1
    · intro W hW
      try (subst hW)
      try dsimp only at hW
      go_simp
      try with_reducible rfl
    try simp only [Act.put, List.setIfInBounds_toArray, List.set_cons_zero, List.set_cons_succ]
    refine wpT.pure (i := 20) (by kernel_rfl) (by kernel_rfl) (by kernel_rfl) (by kernel_rfl) (by kernel_rfl) (fun h => absurd h (by decide)) ?_
    intro oi ho
    simp only [List.getElem?_toArray, List.getElem?_cons_succ, List.getElem?_cons_zero, Option.some.injEq] at ho
    subst ho
    refine ⟨?_, Or.inl ⟨by rfl, ?_⟩, fun _ _ _ h => h, ?_⟩
    rotate_left 1
    · intro W hW
      try (subst hW)
      try dsimp only at hW
      go_simp
      try with_reducible rfl
    clear y1 y2
    obtain ⟨y1, y2⟩ := S10.cell 0 2 rfl
    have hl10 := S10.lt 0
    try simp only [Act.put, List.setIfInBounds_toArray, List.set_cons_zero, List.set_cons_succ]
    refine wpT.one (i := 21) (by kernel_rfl) ?_
    intro oi ho
    simp only [List.getElem?_toArray, List.getElem?_cons_succ, List.getElem?_cons_zero, Option.some.injEq] at ho
    subst ho
    intro K' hK
    have HK := Lib.hid hK
    clear hK
    go_simp
    refine HK.out _ _ (fun h => absurd h (by decide)) ?_
    have S11 := S10.setC 0 rfl 2 (.slice ao2 1 cap2) hT0 (by simp only [fset, offs, offAll, Fct.bmap, and_true]; exact ⟨hTM, hF1⟩)
    try simp only [Act.put, List.setIfInBounds_toArray, List.set_cons_zero, List.set_cons_succ]
    refine wpT.done (by kernel_rfl) ?_
    clear y1 y2 HSE
    obtain ⟨w12, hrun, hm12, hg12⟩ := (S11.bmap 1).store (t := 79) law3 Try.underlying79 Try.underlying4 (by unfold maxLen; omega) (keyI (z := x) (by omega) (by omega)) (v := true)
    obtain ⟨z3, _⟩ := S11.cell 0 3 rfl
    have S12 := Lib.hid (S11.turn (F' := .bmap 3 4 mb 1 (fput (fun _ => none) (.int .i64 x) true)) 1 rfl (fun c h => h) hm12 hg12 hM0 (by simp only [fset, offs, offAll, Fct.box, and_true]; exact ⟨fun h => hTM h.symm, hF2⟩))
    have hsz12 : w9.heap.size ≤ w12.heap.size := by have := hg12.size; simpa [World.setCell] using this
    clear S9 S10 S11
    go_wp2_with fail
    go_end0
    exact ⟨rfl, by omega, ao1, cap1, .slice ao2 1 cap2, S12.out⟩
end Go.Proofs.Ytlpoedjipncbhaa
