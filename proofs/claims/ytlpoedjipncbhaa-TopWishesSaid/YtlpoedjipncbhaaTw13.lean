/-
  Walks: unit.Negated of nothing, cdcl's no.
-/
import Derived.Test.YtlpoedjipncbhaaProg
import Derived.Test.YtlpoedjipncbhaaTw12
namespace Go.Proofs.Ytlpoedjipncbhaa
open Go.RowKit Go.Shelf Go.Maps
set_option linter.unusedVariables false
set_option linter.unusedSimpArgs false
set_option maxHeartbeats 400000

/-- elements of which the cells are said outright -/
def constE (T : TypeId) (n : Nat) (hn : 0 < n) : Elt (List Value) where
  ty := T
  n := n
  is p w cs a := cs = a ∧ a.length = n ∧ ∀ u ∈ a, u.oneCell' = true
  pos := hn
  len := fun h => by rw [h.1]; exact h.2.1
  one := fun h u hu => h.2.2 u (by rw [← h.1]; exact hu)
  keep := fun hk h => h
theorem step_appV {P : Program} {w : World} {ops : Array Oper} {ope : Oper} {a : Act} {K : Act → World → Prop} {Q : Exit → Act → World → Prop} {E0 : Prop} {cs : List Value} {b : Nat} (T : TypeId) (n : Nat) (hn : 0 < n) (hcl : cs.length = n) (hone : ∀ u ∈ cs, u.oneCell' = true)
    (hgd : ope.guard = none) (s y : Operand) (t : TypeId) (hop : ope.op = Op.call { callee := Callee.builtin Builtin.append, args := #[s, y], argTypes := #[t, t] })
    {inf : TypeInfo} {z : Value} {bytes : Nat} (hu : P.underlying t = some (.slice T)) (h1 : P.info? T = some inf) (h2 : inf.zero = some z) (h3 : inf.size = n) (h4 : inf.bytes = bytes) (h5 : z.cells.size = n) (hby : bytes ≤ 1000)
    (hv : a.eval s = .slice none 0 0) (hy : a.eval y = .slice (some ⟨b, 0, none⟩) 1 1) (hb : w.heap[b]? = some (.cells cs.toArray T (0, 0)))
    (h : ∀ (ao : Option Addr) cap w3, Below w.heap.size w w3 → K (a.put ope.dst (.slice ao 1 cap)) w3) :
    if Region.wanted ope (yielded ops a.tmps) = true then Oper.wp P ope a w K Q else E0 := by
  refine step_appRow hgd s y t hop (constE T n hn) ((St.start w).add (.owns (constE T n hn) w.heap.size (fun _ => False) (.slice none 0 0) []) (Elt.Own.nil _ _ _ _)) 0 rfl (yo := some ⟨b, 0, none⟩) (ys := [cs]) (q := fun c => c = b) (p' := fun _ => True) (c := 1) ?_ hu h1 h2 h3 h4 h5 rfl hv hy (by unfold maxLen; simp) (by simp; omega) (Nat.le_refl _) (Nat.le_refl _) (fun bb h => by cases h) (fun bb h e => by cases e) (fun _ _ => trivial) ?_
  · intro i y hi
    rcases i with _ | i
    · obtain rfl : cs = y := by simpa using hi
      refine ⟨b, 0, cs, rfl, rfl, fun j u hu => ?_, rfl, hcl, hone⟩
      simpa [World.cell?, hb] using hu
    · simp at hi
  · intro ao cap w3 S3 _ _ _
    exact h ao cap w3 S3.bel
set_option maxRecDepth 100000 in
theorem negated50 (w : World) : Calls Try.prog 50 #[.slice none 0 0] w fun e w' => e = .returned (.slice none 0 0) ∧ w' = w := by
  go_enter Try.func50, Try.ntmps50
  go_wp2_with fail
  refine wp_loop_rounds 1 ?_
  rw [rounds_succ]
  go_wp2_with fail
  go_ret
  exact ⟨rfl, rfl⟩
theorem infoStep : (Try.prog.info? 95).map (fun i => (i.zero, i.size, i.bytes)) = some (some (.agg #[.int .i64 0, .slice none 0 0, .slice none 0 0, .int .i64 0, .int .i64 0, .int .i64 0, .slice none 0 0, .int .i64 0, .int .i64 0]), 9, 120) := by kernel_rfl
set_option maxRecDepth 100000 in
set_option maxHeartbeats 4000000 in
theorem no32 (Sx : Nat) (v0 v1 v2 v3 v4 : Value) (w0 w : World) (hS0 : w0.heap.size ≤ Sx) (S : St w0 w [.box Sx #[v0, v1, v2, v3, v4, .int .i64 0, .slice none 0 0] 69]) :
    Calls Try.prog 32 #[.pointer (some ⟨Sx, 0, none⟩), .slice none 0 0, .int .i64 1] w fun e w' => (∃ sao scap, e = .returned (.agg #[.int .i64 2, .slice none 0 0, .slice sao 1 scap, .slice none 0 0, .int .i64 1])) ∧ w.heap.size ≤ w'.heap.size ∧ Below w0.heap.size w0 w' := by
  obtain ⟨i3, gi, gz0, gz1, gz2⟩ := info_parts infoStep
  obtain ⟨bx, hbx⟩ : ∃ b, b = w.heap.size := ⟨_, rfl⟩
  have hlS := S.lt 0
  have S1 := S.box hbx.symm #[.int .i64 0, .slice none 0 0, .slice none 0 0, .slice none 0 0, .int .i64 0] 48
  have HBX := Lib.hid (show w.heap.size = bx ∧ Sx < bx from ⟨hbx.symm, by omega⟩)
  have HNE := Lib.hid (fun W => negated50 W)
  clear S hlS
  go_enter Try.func32, Try.ntmps32
  go_upto_region 1 with fail
  rw [← hbx]
  refine S1.genC (z := bx + 1) (by simp [hbx]) ?_
  clear S1 hbx
  intro w1 z1 S
  have FC := Lib.hid (fun W (hb : Below w1.heap.size w1 W) => (show W.cell? ⟨Sx, 6, none⟩ = some (.slice none 0 0) from Below.cellOf hb (S.cell 0 6 rfl).1))
  have HS1 := Lib.hid S
  clear S
  refine wpT_region [12] (fun W => W.cell? ⟨Sx, 6, none⟩ = some (.slice none 0 0)) (by kernel_rfl) ?_
  have HS := FC.out _ (Below.refl _ w1).drew
  try simp only [Act.put, List.setIfInBounds_toArray, List.set_cons_zero, List.set_cons_succ]
  refine wpT.pure (i := 0) (by kernel_rfl) (by kernel_rfl) (by kernel_rfl) (by kernel_rfl) (by kernel_rfl) (fun _ => HS) ?_
  intro oi ho
  simp only [List.getElem?_toArray, List.getElem?_cons_succ, List.getElem?_cons_zero, Option.some.injEq] at ho
  subst ho
  refine ⟨?_, Or.inl ⟨by rfl, ?_⟩, fun _ _ _ h => h, ?_⟩
  rotate_left 1
  · intro W hW
    try (subst hW)
    try dsimp only at hW
    go_simp
    try with_reducible rfl
  try simp only [Act.put, List.setIfInBounds_toArray, List.set_cons_zero, List.set_cons_succ]
  refine wpT.pure (i := 1) (by kernel_rfl) (by kernel_rfl) (by kernel_rfl) (by kernel_rfl) (by kernel_rfl) (fun _ => HS) ?_
  intro oi ho
  simp only [List.getElem?_toArray, List.getElem?_cons_succ, List.getElem?_cons_zero, Option.some.injEq] at ho
  subst ho
  refine ⟨?_, Or.inl ⟨by rfl, ?_⟩, fun _ _ _ h => h, ?_⟩
  rotate_left 1
  · intro W hW
    try (subst hW)
    try dsimp only at hW
    go_simp
    try with_reducible rfl
  try simp only [Act.put, List.setIfInBounds_toArray, List.set_cons_zero, List.set_cons_succ]
  refine wpT.pure (i := 2) (by kernel_rfl) (by kernel_rfl) (by kernel_rfl) (by kernel_rfl) (by kernel_rfl) (fun _ => HS) ?_
  intro oi ho
  simp only [List.getElem?_toArray, List.getElem?_cons_succ, List.getElem?_cons_zero, Option.some.injEq] at ho
  subst ho
  refine ⟨?_, Or.inl ⟨by rfl, ?_⟩, fun _ _ _ h => h, ?_⟩
  rotate_left 1
  · intro W hW
    try (subst hW)
    try dsimp only at hW
    go_simp
    try with_reducible rfl
  try simp only [Act.put, List.setIfInBounds_toArray, List.set_cons_zero, List.set_cons_succ]
  refine wpT.pure (i := 3) (by kernel_rfl) (by kernel_rfl) (by kernel_rfl) (by kernel_rfl) (by kernel_rfl) (fun _ => HS) ?_
  intro oi ho
  simp only [List.getElem?_toArray, List.getElem?_cons_succ, List.getElem?_cons_zero, Option.some.injEq] at ho
  subst ho
  refine ⟨?_, Or.inl ⟨by rfl, ?_⟩, fun _ _ _ h => h, ?_⟩
  rotate_left 1
  · intro W hW
    try (subst hW)
    try dsimp only at hW
    go_simp
    try with_reducible rfl
  try simp only [Act.put, List.setIfInBounds_toArray, List.set_cons_zero, List.set_cons_succ]
  refine wpT.take (i := 4) (by kernel_rfl) (by kernel_rfl) (by kernel_rfl) (by kernel_rfl) (by kernel_rfl) (fun _ => HS) ?_
  intro oi ho
  simp only [List.getElem?_toArray, List.getElem?_cons_succ, List.getElem?_cons_zero, Option.some.injEq] at ho
  subst ho
  refine ⟨?_, Or.inl ⟨by rfl, ?_⟩, fun _ _ _ h => h, ?_⟩
  rotate_left 1
  · intro W hW
    try (subst hW)
    try dsimp only at hW
    go_simp
    try with_reducible rfl
  try simp only [Act.put, List.setIfInBounds_toArray, List.set_cons_zero, List.set_cons_succ]
  refine wpT.pure (i := 5) (by kernel_rfl) (by kernel_rfl) (by kernel_rfl) (by kernel_rfl) (by kernel_rfl) (fun _ => HS) ?_
  intro oi ho
  simp only [List.getElem?_toArray, List.getElem?_cons_succ, List.getElem?_cons_zero, Option.some.injEq] at ho
  subst ho
  refine ⟨?_, Or.inl ⟨by rfl, ?_⟩, fun _ _ _ h => h, ?_⟩
  rotate_left 1
  · intro W hW
    try (subst hW)
    try dsimp only at hW
    go_simp
    try with_reducible rfl
  try simp only [Act.put, List.setIfInBounds_toArray, List.set_cons_zero, List.set_cons_succ]
  refine wpT.one (i := 6) (by kernel_rfl) ?_
  intro oi ho
  simp only [List.getElem?_toArray, List.getElem?_cons_succ, List.getElem?_cons_zero, Option.some.injEq] at ho
  subst ho
  intro K' hK
  have HK := Lib.hid hK
  clear hK
  go_simp
  go_at_call 50
  refine (HNE.out _).mono ?_
  rintro e w2 ⟨rfl, hw⟩
  have hw := hw.symm
  subst hw
  refine HK.out _ _ (fun _ => HS) ?_
  try simp only [Act.put, List.setIfInBounds_toArray, List.set_cons_zero, List.set_cons_succ]
  refine wpT.one (i := 7) (by kernel_rfl) ?_
  intro oi ho
  simp only [List.getElem?_toArray, List.getElem?_cons_succ, List.getElem?_cons_zero, Option.some.injEq] at ho
  subst ho
  intro K' hK
  have HK := Lib.hid hK
  clear hK
  go_simp
  refine HK.out _ _ (fun _ => HS) ?_
  try simp only [Act.put, List.setIfInBounds_toArray, List.set_cons_zero, List.set_cons_succ]
  refine wpT.one (i := 8) (by kernel_rfl) ?_
  intro oi ho
  simp only [List.getElem?_toArray, List.getElem?_cons_succ, List.getElem?_cons_zero, Option.some.injEq] at ho
  subst ho
  intro K' hK
  have HK := Lib.hid hK
  clear hK
  go_simp
  have hbA : (w1.alloc (.cells #[.int .i64 1, .slice none 0 0, .slice none 0 0, .int .i64 0, .int .i64 0, .int .i64 0, .slice none 0 0, .int .i64 0, .int .i64 0] 95)).drew.heap[w1.heap.size]? = some (.cells #[.int .i64 1, .slice none 0 0, .slice none 0 0, .int .i64 0, .int .i64 0, .int .i64 0, .slice none 0 0, .int .i64 0, .int .i64 0] 95 (0, 0)) := heap_ofAlloc w1 _
  have HA := Lib.hid ((Below.refl w1.heap.size w1).alloc (Nat.le_refl _) (.cells #[.int .i64 1, .slice none 0 0, .slice none 0 0, .int .i64 0, .int .i64 0, .int .i64 0, .slice none 0 0, .int .i64 0, .int .i64 0] 95)).drew
  refine HK.out _ _ (fun _ => FC.out _ HA.out) ?_
  try simp only [Act.put, List.setIfInBounds_toArray, List.set_cons_zero, List.set_cons_succ]
  refine wpT.one (i := 9) (by kernel_rfl) ?_
  intro oi ho
  simp only [List.getElem?_toArray, List.getElem?_cons_succ, List.getElem?_cons_zero, Option.some.injEq] at ho
  subst ho
  intro K' hK
  have HK := Lib.hid hK
  clear hK
  refine step_appV (cs := [.int .i64 1, .slice none 0 0, .slice none 0 0, .int .i64 0, .int .i64 0, .int .i64 0, .slice none 0 0, .int .i64 0, .int .i64 0]) 95 9 (by omega) rfl (by simp [Value.oneCell']) (by rfl) (.tmp 11) (.tmp 15) 46 (by rfl) Try.underlying46 gi gz0 gz1 gz2 (by rfl) (by omega) (by rfl) (by rfl) hbA ?_
  intro ao1 cap1 w8 hb8
  have HE := Lib.hid (Below.step HA.out hb8)
  refine HK.out _ _ (fun _ => FC.out _ HE.out) ?_
  clear hb8 hbA HS
  have HSE := FC.out _ HE.out
  have S9 := HS1.out.step HE.out
  have hsz9 := HE.out.size
  try simp only [Act.put, List.setIfInBounds_toArray, List.set_cons_zero, List.set_cons_succ]
  refine wpT.pure (i := 10) (by kernel_rfl) (by kernel_rfl) (by kernel_rfl) (by kernel_rfl) (by kernel_rfl) (fun _ => HSE) ?_
  intro oi ho
  simp only [List.getElem?_toArray, List.getElem?_cons_succ, List.getElem?_cons_zero, Option.some.injEq] at ho
  subst ho
  refine ⟨?_, Or.inl ⟨by rfl, ?_⟩, fun _ _ _ h => h, ?_⟩
  rotate_left 1
  · intro W hW
    try (subst hW)
    try dsimp only at hW
    go_simp
    try with_reducible rfl
  try simp only [Act.put, List.setIfInBounds_toArray, List.set_cons_zero, List.set_cons_succ]
  refine wpT.pure (i := 11) (by kernel_rfl) (by kernel_rfl) (by kernel_rfl) (by kernel_rfl) (by kernel_rfl) (fun _ => HSE) ?_
  intro oi ho
  simp only [List.getElem?_toArray, List.getElem?_cons_succ, List.getElem?_cons_zero, Option.some.injEq] at ho
  subst ho
  refine ⟨?_, Or.inl ⟨by rfl, ?_⟩, fun _ _ _ h => h, ?_⟩
  rotate_left 1
  · intro W hW
    try (subst hW)
    try dsimp only at hW
    go_simp
    try with_reducible rfl
  obtain ⟨y1, y2⟩ := S9.cell 0 6 rfl
  have hl9 := S9.lt 0
  try simp only [Act.put, List.setIfInBounds_toArray, List.set_cons_zero, List.set_cons_succ]
  refine wpT.one (i := 12) (by kernel_rfl) ?_
  intro oi ho
  simp only [List.getElem?_toArray, List.getElem?_cons_succ, List.getElem?_cons_zero, Option.some.injEq] at ho
  subst ho
  intro K' hK
  have HK := Lib.hid hK
  clear hK
  go_simp
  refine HK.out _ _ (fun h => absurd h (by decide)) ?_
  have S10 := S9.setC 0 rfl 6 (.slice ao1 1 cap1) hS0 (by have := HBX.out; simp only [fsnoc, offs, offAll, Fct.box, and_true]; omega)
  try simp only [Act.put, List.setIfInBounds_toArray, List.set_cons_zero, List.set_cons_succ]
  refine wpT.done (by kernel_rfl) ?_
  have S11 : St w0 (w8.setCell ⟨Sx, 6, none⟩ (.slice ao1 1 cap1)) [.box Sx #[v0, v1, v2, v3, v4, .int .i64 0, .slice ao1 1 cap1] 69, .box bx #[.int .i64 0, .slice none 0 0, .slice none 0 0, .slice none 0 0, .int .i64 0] 48] := S10
  clear y1 y2 HSE S9 S10
  refine S11.genX (z := w8.heap.size) (by simp [World.setCell]) ?_
  intro w9 z9 S
  clear S11
  obtain ⟨x6, _⟩ := S.cell 0 6 rfl
  obtain ⟨a0, b0⟩ := S.cell 1 0 rfl
  obtain ⟨a1, b1⟩ := S.cell 1 1 rfl
  obtain ⟨a2, b2⟩ := S.cell 1 2 rfl
  obtain ⟨a3, b3⟩ := S.cell 1 3 rfl
  obtain ⟨a4, b4⟩ := S.cell 1 4 rfl
  have hlb := S.lt 1
  have h0x : w0.heap.size ≤ bx := by have := HBX.out; omega
  have hof : Sx ≠ bx := by have := HBX.out; omega
  have S5 := (((((S.setC 1 rfl 0 (.int .i64 2) h0x (by simp only [fset, offs, offAll, Fct.box, and_true]; omega)).setC 1 rfl 1 (.slice none 0 0) h0x (by simp only [fset, offs, offAll, Fct.box, and_true]; omega)).setC 1 rfl 2 (.slice ao1 1 cap1) h0x (by simp only [fset, offs, offAll, Fct.box, and_true]; omega)).setC 1 rfl 3 (.slice none 0 0) h0x (by simp only [fset, offs, offAll, Fct.box, and_true]; omega)).setC 1 rfl 4 (.int .i64 1) h0x (by simp only [fset, offs, offAll, Fct.box, and_true]; omega))
  have HS5 := Lib.hid S5
  clear S S5
  go_wp2_with fail
  have c0 := (HS5.out.cell 1 0 rfl).1
  have c1 := (HS5.out.cell 1 1 rfl).1
  have c2 := (HS5.out.cell 1 2 rfl).1
  have c3 := (HS5.out.cell 1 3 rfl).1
  have c4 := (HS5.out.cell 1 4 rfl).1
  refine bodyPost_ret (v := .agg #[.int .i64 2, .slice none 0 0, .slice ao1 1 cap1, .slice none 0 0, .int .i64 1]) (by simp [results, Try.results32, go_sem, c0, c1, c2, c3, c4]) rfl ?_
  exact ⟨⟨_, _, rfl⟩, by have := HBX.out; simp [World.setCell]; omega, HS5.out.bel⟩
end Go.Proofs.Ytlpoedjipncbhaa
