/-
  Walks: dia.Not, dia.Both; sameDia of equal diagrams.
-/
import Derived.Test.YtacaakcpkgipfaaProg
import Derived.Test.YtacaakcpkgipfaaTd12
import Derived.Test.YtacaakcpkgipfaaTd14
import Derived.Test.YtacaakcpkgipfaaG7
import Derived.RegionTactic
import Derived.BigQuiet
import Derived.Laws.StructEq
import Derived.Deep.CutBlock
import Derived.Deep.DeepCutAuto
namespace Go.Proofs.Ytacaakcpkgipfaa
open Go.RowKit Go.Shelf Go.Maps
set_option linter.unusedVariables false
set_option linter.unusedSimpArgs false
set_option maxHeartbeats 400000

theorem not_step {A : List Nat} {j : Nat} (ha : j < A.length) : (notT A).take (j + 1) ++ A.drop (j + 1) = ((notT A).take j ++ A.drop j).set j (1 - A[j]) := by
  have hl : (notT A).length = A.length := by simp [notT]
  have hg : (notT A)[j]'(by omega) = 1 - A[j] := by simp [notT]
  have h2 : ((notT A).take j).length = j := by simp; omega
  rw [List.set_append_right _ _ (by omega), h2, Nat.sub_self, List.drop_eq_getElem_cons ha, List.set_cons_zero, List.take_succ_eq_append_getElem (by omega), hg, List.append_assoc]
  rfl
theorem notT_length (A : List Nat) : (notT A).length = A.length := by simp [notT]
theorem andT_length {A B : List Nat} (h : A.length = B.length) : (andT A B).length = A.length := by simp [andT, h]
theorem andT_bits (A B : List Nat) : ∀ x ∈ andT A B, x < 2 := fun x hx => by
  unfold andT at hx
  obtain ⟨i, hi, rfl⟩ := List.getElem_of_mem hx
  rw [List.getElem_zipWith]
  split <;> omega

set_option maxRecDepth 100000 in
set_option maxHeartbeats 8000000 in
theorem not12 (T : List Nat) (hT : T.length = 64) (h01 : ∀ x ∈ T, x < 2) (d : List Ch × Nat) (hd : DiaOk 6 T d) (q : Nat → Prop) (co : Option Addr) (cp : Nat) (w : World) (hrow : chE.Row q w co d.1) :
    Calls Try.prog 12 #[.int .i64 6, .agg #[.slice co d.1.length cp, .int .i64 d.2]] w (DiaPo (builtD 6 (notT T)) w) := by
  have HROW := Lib.hid hrow; have HD := Lib.hid hd; have HT := Lib.hid hT; have H01 := Lib.hid h01
  obtain ⟨n, hn⟩ : ∃ n, n = d.1.length := ⟨_, rfl⟩
  obtain ⟨r, hr⟩ : ∃ n, n = d.2 := ⟨_, rfl⟩
  have HC1 := Lib.hid (fun W hb => check26 T d hd q co cp W (hrow.kept (w' := W) hb))
  have HC2 := Lib.hid (fun W hb => tableOf28 T hT h01 d hd q co cp W (hrow.kept (w' := W) hb))
  rw [← hn, ← hr] at HC1 HC2 ⊢
  obtain ⟨bx, hbx⟩ : ∃ b, b = w.heap.size := ⟨_, rfl⟩
  have S1 := (((St.start w).box hbx.symm #[.slice co n cp, .int .i64 r] 44).box (b := bx + 1) (by simp [hbx]) #[.slice none 0 0, .int .i64 0] 44).box (b := bx + 2) (by simp [hbx]) #[.int .i64 0, .int .i64 0] 31
  have HBX := Lib.hid hbx
  clear hrow hd hn hr hT h01
  go_enter Try.func12, Try.ntmps12
  go_wp2_with fail
  rw [← hbx]
  refine S1.gen (z := 0) (by omega) ?_
  intro w1 _ S
  clear S1 hbx
  refine (S.quiet (HC1.out w1 S.bel)).mono ?_
  rintro e w2 ⟨rfl, z2, S2⟩
  obtain ⟨b4, hb4⟩ : ∃ b, b = w2.heap.size := ⟨_, rfl⟩
  have S3 := S2.box hb4.symm #[.int .i64 0, .int .i64 0] 31
  have HB4 := Lib.hid (show bx + 2 < b4 by have := S2.lt 2; omega)
  clear S S2
  obtain ⟨⟨y0, _⟩, y1, _⟩ := S3.two 3
  obtain ⟨⟨y2, _⟩, y3, _⟩ := S3.two 0
  go_upto_region 4 with fail
  rw [← hb4]
  clear y0 y1 y2 y3
  refine S3.genC (z := 0) (by omega) ?_
  intro w3 _ S
  clear S3 hb4
  obtain ⟨⟨y2, _⟩, y3, _⟩ := S.two 0
  go_wp2_with fail
  refine (HC2.out w3 S.bel).mono ?_
  rintro e w4 ⟨g, rfl, hg, hcell, hb4⟩
  have S4 := (S.step hb4).add (.box g (cellsF byV ((notT T).take 0 ++ T.drop 0)) 5) (by rw [List.take_zero, List.drop_zero, List.nil_append]; exact hcell)
  have HG := Lib.hid (show b4 < g by have := S.lt 3; omega)
  have HS4 := Lib.hid S4
  clear S hcell hb4 y2 y3 S4 hg
  go_wp2_with fail
  go_loopw [22] (fun i wr => ∃ j : Nat, j ≤ 64 ∧ i = .int .i64 j ∧ St w wr [.box bx #[.slice co n cp, .int .i64 r] 44, .box (bx + 1) #[.slice none 0 0, .int .i64 0] 44, .box (bx + 2) #[.int .i64 0, .int .i64 0] 31, .box b4 #[.int .i64 0, .int .i64 0] 31, .box g (cellsF byV ((notT T).take j ++ T.drop j)) 5]) (fun i _ => 64 - (intOf i).toNat)
  case atStart => exact ⟨0, by omega, rfl, HS4.out⟩
  case round =>
    clear HS4
    obtain ⟨j, hj, rfl, S⟩ := hrel
    have HLL := Lib.hid (show ((notT T).take j ++ T.drop j).length = 64 by rw [List.length_append, List.length_take, List.length_drop, notT_length, HT.out]; omega)
    by_cases hlt : j < 64
    · have hlti : (j : Int) < 64 := by omega
      have hjT : j < T.length := by rw [HT.out]; exact hlt
      obtain ⟨d0, f0⟩ := S.cell 4 j (cellsF_get byV (show j < ((notT T).take j ++ T.drop j).length by rw [HLL.out]; exact hlt))
      have hge : ((notT T).take j ++ T.drop j)[j]'(by rw [HLL.out]; exact hlt) = T[j] := by
        rw [List.getElem_append_right (by rw [List.length_take, notT_length]; omega), List.getElem_drop]
        congr 1
        rw [List.length_take, notT_length]; omega
      rw [hge] at d0
      have x01 := H01.out T[j] (List.getElem_mem hjT)
      have HST := Lib.hid (not_step hjT)
      obtain ⟨X, hX⟩ : ∃ X, X = T[j] := ⟨_, rfl⟩
      rw [← hX] at d0 x01 HST
      have hw1 : IntKind.u8.wrap (1 - (X : Int)) = ((1 - X : Nat) : Int) := by rcases (by omega : X = 0 ∨ X = 1) with rfl | rfl <;> decide +kernel
      have SN := Lib.hid (S.setC 4 rfl j (byV (1 - X)) (by have := HG.out; have := HB4.out; have := HBX.out; omega) (by have := HG.out; have := HB4.out; simp only [offs, offAll, Fct.box, and_true]; omega))
      have hly := S.lt 4
      simp only [byV] at d0
      clear hX hge hjT S
      go_wp2_with fail
      go_roundw
      case rel => exact ⟨j + 1, by omega, by go_num, by have := SN.out; rw [cellsF_set, ← HST.out] at this; exact this⟩
      case measure => simp [intOf] <;> omega
    · obtain rfl : j = 64 := by omega
      have HFIN := Lib.hid (show (notT T).take 64 ++ T.drop 64 = notT T by rw [List.take_of_length_le (by rw [notT_length, HT.out]; exact Nat.le_refl _), List.drop_eq_nil_of_le (by rw [HT.out]; exact Nat.le_refl _), List.append_nil])
      rw [HFIN.out] at S
      have HCB := built22 (notT T) (fun _ => True) (some ⟨g, 0, none⟩) 64 wr (by rw [notT_length, HT.out]) (notT_bits H01.out) (by omega) (row_cellsU trivial (S.block 4))
      obtain ⟨dd, hdd⟩ : ∃ d, d = builtD 6 (notT T) := ⟨_, rfl⟩
      rw [← hdd] at HCB
      have HDD := Lib.hid hdd
      have HCC := Lib.hid HCB
      have HS := Lib.hid S
      clear hdd HCB S
      go_wp2_with fail
      refine HCC.out.mono ?_
      rintro e w5 ⟨co2, sp, rfl, hrow, hb5⟩
      have HROW2 := Lib.hid hrow
      have S5 := HS.out.step hb5
      have hz5 : bx + 3 ≤ wr.heap.size := by have := HS.out.lt 2; omega
      clear hrow hb5
      obtain ⟨⟨x0, x1⟩, x2, x3⟩ := S5.two 1
      obtain ⟨⟨x4, x5⟩, x6, x7⟩ := S5.two 2
      have l0 := S5.lt 1
      have l1 := S5.lt 2
      have SB := Lib.hid S5
      clear S5
      go_wp2_with fail
      have HX := Lib.hid (two22 (SB.out.block 1 rfl) (SB.out.block 2 rfl) (by omega) (.slice co2 dd.1.length (dd.1.length + sp)) (.int .i64 dd.2) (.int .i64 0) (.int .i64 0))
      have HY := Lib.hid (below22 SB.out.bel (b := bx + 1) (c := bx + 2) (by have := HBX.out; omega) (by have := HBX.out; omega) (.slice co2 dd.1.length (dd.1.length + sp)) (.int .i64 dd.2) (.int .i64 0) (.int .i64 0))
      refine ret_box22 (.slice co2 dd.1.length (dd.1.length + sp)) (.int .i64 dd.2) (.int .i64 0) (.int .i64 0) (bx + 1) (bx + 2) 44 31 HX.out.1 HX.out.2 (fun w' q0 q1 q2 q3 => by simp [results, Try.results12, go_sem, q0, q1, q2, q3]) rfl ?_
      rw [← HDD.out]
      refine ⟨co2, sp, rfl, ?_, HY.out⟩
      refine HROW2.out.keep (fun b h _ => ⟨?_, by have := HBX.out; have h8 : wr.heap.size ≤ b := h; omega⟩)
      have h8 : wr.heap.size ≤ b := h
      exact (Below.heap_setCell _ _ _ _ (by show b ≠ bx + 2; omega)).trans ((Below.heap_setCell _ _ _ _ (by show b ≠ bx + 2; omega)).trans ((Below.heap_setCell _ _ _ _ (by show b ≠ bx + 1; omega)).trans (Below.heap_setCell _ _ _ _ (by show b ≠ bx + 1; omega))))

set_option maxRecDepth 100000 in
set_option maxHeartbeats 8000000 in
theorem both11 (A B : List Nat) (hA : A.length = 64) (a01 : ∀ x ∈ A, x < 2) (hB : B.length = 64) (b01 : ∀ x ∈ B, x < 2) (d f : List Ch × Nat) (hd : DiaOk 6 A d) (hf : DiaOk 6 B f) (q p : Nat → Prop) (co fo : Option Addr) (cp fp : Nat) (w : World) (hrow : chE.Row q w co d.1) (hrowf : chE.Row p w fo f.1) :
    Calls Try.prog 11 #[.int .i64 6, .int .i64 8, .agg #[.slice co d.1.length cp, .int .i64 d.2], .agg #[.slice fo f.1.length fp, .int .i64 f.2]] w (DiaPo (builtD 6 (andT A B)) w) := by
  have HA := Lib.hid hA; have HB := Lib.hid hB; have HA01 := Lib.hid a01; have HB01 := Lib.hid b01
  obtain ⟨n, hn⟩ : ∃ n, n = d.1.length := ⟨_, rfl⟩
  obtain ⟨r, hr⟩ : ∃ n, n = d.2 := ⟨_, rfl⟩
  obtain ⟨n2, hn2⟩ : ∃ n, n = f.1.length := ⟨_, rfl⟩
  obtain ⟨r2, hr2⟩ : ∃ n, n = f.2 := ⟨_, rfl⟩
  have HC1 := Lib.hid (fun W hb => check26 A d hd q co cp W (hrow.kept (w' := W) hb))
  have HC2 := Lib.hid (fun W hb => tableOf28 A hA a01 d hd q co cp W (hrow.kept (w' := W) hb))
  have HC3 := Lib.hid (fun W hb => check26 B f hf p fo fp W (hrowf.kept (w' := W) hb))
  have HC4 := Lib.hid (fun W hb => tableOf28 B hB b01 f hf p fo fp W (hrowf.kept (w' := W) hb))
  rw [← hn, ← hr] at HC1 HC2 ⊢
  rw [← hn2, ← hr2] at HC3 HC4 ⊢
  obtain ⟨bx, hbx⟩ : ∃ b, b = w.heap.size := ⟨_, rfl⟩
  have S1 := ((((St.start w).box hbx.symm #[.slice co n cp, .int .i64 r] 44).box (b := bx + 1) (by simp [hbx]) #[.slice fo n2 fp, .int .i64 r2] 44).box (b := bx + 2) (by simp [hbx]) #[.slice none 0 0, .int .i64 0] 44).box (b := bx + 3) (by simp [hbx]) #[.int .i64 0, .int .i64 0] 31
  have HBX := Lib.hid hbx
  clear hrow hrowf hd hf hn hr hn2 hr2 hA hB a01 b01
  go_enter Try.func11, Try.ntmps11
  go_wp2_with fail
  rw [← hbx]
  refine S1.gen (z := 0) (by omega) ?_
  intro w1 _ S
  clear S1 hbx
  refine (S.quiet (HC1.out w1 S.bel)).mono ?_
  rintro e w2 ⟨rfl, z2, S2⟩
  obtain ⟨b4, hb4⟩ : ∃ b, b = w2.heap.size := ⟨_, rfl⟩
  have S3 := S2.box hb4.symm #[.int .i64 0, .int .i64 0] 31
  have HB4 := Lib.hid (show bx + 3 < b4 by have := S2.lt 3; omega)
  clear S S2
  obtain ⟨⟨y0, _⟩, y1, _⟩ := S3.two 4
  obtain ⟨⟨y2, _⟩, y3, _⟩ := S3.two 1
  go_upto_region 4 with fail
  rw [← hb4]
  clear y0 y1 y2 y3
  refine S3.genC (z := 0) (by omega) ?_
  intro w3 _ S
  clear S3 hb4
  obtain ⟨⟨y2, _⟩, y3, _⟩ := S.two 1
  go_wp2_with fail
  refine (S.quiet (HC3.out w3 S.bel)).mono ?_
  rintro e w4 ⟨rfl, z4, S2⟩
  obtain ⟨b5, hb5⟩ : ∃ b, b = w4.heap.size := ⟨_, rfl⟩
  have S3 := S2.box hb5.symm #[.int .i64 0, .int .i64 0] 31
  clear S S2 y2 y3
  obtain ⟨⟨y0, _⟩, y1, _⟩ := S3.two 5
  go_upto_region 9 with fail
  rw [← hb5]
  clear y0 y1 z2 z4 hb5
  refine S3.genC (z := 0) (by omega) ?_
  intro w5 _ S
  clear S3
  have HZ := Lib.hid (S.lt 3)
  obtain ⟨⟨y0, _⟩, y1, _⟩ := S.drew.two 0
  have FC := Lib.hid (fun W (hb : Below w5.heap.size w5 W) => (show W.cell? ⟨bx, 0, none⟩ = some (.slice co n cp) ∧ W.cell? ⟨bx, 1, none⟩ = some (.int .i64 r) ∧ W.cell? ⟨bx + 1, 0, none⟩ = some (.slice fo n2 fp) ∧ W.cell? ⟨bx + 1, 1, none⟩ = some (.int .i64 r2) from
    ⟨Below.cellOf hb (S.two 0).1.1, Below.cellOf hb (S.two 0).2.1, Below.cellOf hb (S.two 1).1.1, Below.cellOf hb (S.two 1).2.1⟩))
  have SD := Lib.hid S.drew
  clear S y0 y1
  refine wpT_region [11, 12] (fun W => W.cell? ⟨bx, 0, none⟩ = some (.slice co n cp) ∧ W.cell? ⟨bx, 1, none⟩ = some (.int .i64 r) ∧ W.cell? ⟨bx + 1, 0, none⟩ = some (.slice fo n2 fp) ∧ W.cell? ⟨bx + 1, 1, none⟩ = some (.int .i64 r2)) (by kernel_rfl) ?_
  have HS := FC.out _ (Below.refl _ w5).drew
  try simp only [Act.put, List.setIfInBounds_toArray, List.set_cons_zero, List.set_cons_succ]
  refine wpT.take (i := 0) (by kernel_rfl) (by kernel_rfl) (by kernel_rfl) (by kernel_rfl) (by kernel_rfl) (fun _ => HS) ?_
  intro oi ho
  simp only [List.getElem?_toArray, List.getElem?_cons_succ, List.getElem?_cons_zero, Option.some.injEq] at ho
  subst ho
  refine ⟨?_, Or.inl ⟨by rfl, ?_⟩, fun _ _ _ h => h, ?_⟩
  rotate_left 1
  · intro W hW
    try (subst hW)
    try dsimp only at hW
    go_simp
    try with_reducible rfl
  try simp only [Act.put, List.setIfInBounds_toArray, List.set_cons_zero, List.set_cons_succ]
  refine wpT.take (i := 1) (by kernel_rfl) (by kernel_rfl) (by kernel_rfl) (by kernel_rfl) (by kernel_rfl) (fun _ => HS) ?_
  intro oi ho
  simp only [List.getElem?_toArray, List.getElem?_cons_succ, List.getElem?_cons_zero, Option.some.injEq] at ho
  subst ho
  refine ⟨?_, Or.inl ⟨by rfl, ?_⟩, fun _ _ _ h => h, ?_⟩
  rotate_left 1
  · intro W hW
    try (subst hW)
    try dsimp only at hW
    go_simp
    try with_reducible rfl
  try simp only [Act.put, List.setIfInBounds_toArray, List.set_cons_zero, List.set_cons_succ]
  refine wpT.take (i := 2) (by kernel_rfl) (by kernel_rfl) (by kernel_rfl) (by kernel_rfl) (by kernel_rfl) (fun _ => HS) ?_
  intro oi ho
  simp only [List.getElem?_toArray, List.getElem?_cons_succ, List.getElem?_cons_zero, Option.some.injEq] at ho
  subst ho
  refine ⟨?_, Or.inl ⟨by rfl, ?_⟩, fun _ _ _ h => h, ?_⟩
  rotate_left 1
  · intro W hW
    try (subst hW)
    try dsimp only at hW
    go_simp
    try with_reducible rfl
  try simp only [Act.put, List.setIfInBounds_toArray, List.set_cons_zero, List.set_cons_succ]
  refine wpT.take (i := 4) (by kernel_rfl) (by kernel_rfl) (by kernel_rfl) (by kernel_rfl) (by kernel_rfl) (fun _ => HS) ?_
  intro oi ho
  simp only [List.getElem?_toArray, List.getElem?_cons_succ, List.getElem?_cons_zero, Option.some.injEq] at ho
  subst ho
  refine ⟨?_, Or.inl ⟨by rfl, ?_⟩, fun _ _ _ h => h, ?_⟩
  rotate_left 1
  · intro W hW
    try (subst hW)
    try dsimp only at hW
    go_simp
    try with_reducible rfl
  try simp only [Act.put, List.setIfInBounds_toArray, List.set_cons_zero, List.set_cons_succ]
  refine wpT.take (i := 5) (by kernel_rfl) (by kernel_rfl) (by kernel_rfl) (by kernel_rfl) (by kernel_rfl) (fun _ => HS) ?_
  intro oi ho
  simp only [List.getElem?_toArray, List.getElem?_cons_succ, List.getElem?_cons_zero, Option.some.injEq] at ho
  subst ho
  refine ⟨?_, Or.inl ⟨by rfl, ?_⟩, fun _ _ _ h => h, ?_⟩
  rotate_left 1
  · intro W hW
    try (subst hW)
    try dsimp only at hW
    go_simp
    try with_reducible rfl
  try simp only [Act.put, List.setIfInBounds_toArray, List.set_cons_zero, List.set_cons_succ]
  refine wpT.one (i := 3) (by kernel_rfl) ?_
  intro oi ho
  simp only [List.getElem?_toArray, List.getElem?_cons_succ, List.getElem?_cons_zero, Option.some.injEq] at ho
  subst ho
  intro K' hK
  have HK := Lib.hid hK
  clear hK
  go_simp
  go_at_call 28
  refine (HC2.out w5.drew SD.out.bel).mono ?_
  rintro e w6 ⟨g, rfl, hg, hcell, hb6⟩
  have S6 := Lib.hid (SD.out.step hb6)
  have HCE := Lib.hid hcell
  have HB6 := Lib.hid (Below.step (Below.refl _ w5).drew hb6)
  clear hcell hb6 hg
  refine HK.out _ _ (fun _ => FC.out _ HB6.out) ?_
  try simp only [Act.put, List.setIfInBounds_toArray, List.set_cons_zero, List.set_cons_succ]
  refine wpT.one (i := 6) (by kernel_rfl) ?_
  intro oi ho
  simp only [List.getElem?_toArray, List.getElem?_cons_succ, List.getElem?_cons_zero, Option.some.injEq] at ho
  subst ho
  intro K' hK
  have HK := Lib.hid hK
  clear hK
  go_simp
  go_at_call 28
  refine (HC4.out w6 S6.out.bel).mono ?_
  rintro e w7 ⟨g2, rfl, hg, hcell, hb7⟩
  have S7 := Lib.hid (S6.out.step hb7)
  have HCE2 := Lib.hid hcell
  have HCE1 := Lib.hid ((hb7.block g (heap_lt HCE.out)).trans HCE.out)
  have HB7 := Lib.hid (Below.step HB6.out hb7)
  clear hcell hb7 hg
  refine HK.out _ _ (fun _ => FC.out _ HB7.out) ?_
  try simp only [Act.put, List.setIfInBounds_toArray, List.set_cons_zero, List.set_cons_succ]
  refine wpT.one (i := 7) (by kernel_rfl) ?_
  intro oi ho
  simp only [List.getElem?_toArray, List.getElem?_cons_succ, List.getElem?_cons_zero, Option.some.injEq] at ho
  subst ho
  intro K' hK
  have HK := Lib.hid hK
  clear hK
  go_simp
  go_at_call 27
  refine (combined27 A B (fun b => b = g) (fun b => b = g2) (some ⟨g, 0, none⟩) (some ⟨g2, 0, none⟩) 64 64 w7 HA.out HB.out HA01.out HB01.out (row_cellsU rfl HCE1.out) (row_cellsU rfl HCE2.out) (fun b h => by have h2 : b = g := h; rw [h2]; exact heap_lt HCE1.out)).mono ?_
  rintro e w8 ⟨lo, lsp, rfl, hrow8, hb8⟩
  have S8 := Lib.hid (S7.out.step hb8)
  have HR8 := Lib.hid hrow8
  have HB8 := Lib.hid (Below.step HB7.out hb8)
  clear hrow8 hb8
  refine HK.out _ _ (fun _ => FC.out _ HB8.out) ?_
  try simp only [Act.put, List.setIfInBounds_toArray, List.set_cons_zero, List.set_cons_succ]
  refine wpT.one (i := 8) (by kernel_rfl) ?_
  intro oi ho
  simp only [List.getElem?_toArray, List.getElem?_cons_succ, List.getElem?_cons_zero, Option.some.injEq] at ho
  subst ho
  intro K' hK
  have HK := Lib.hid hK
  clear hK
  go_simp
  go_at_call 22
  have HCB := built22 (andT A B) _ lo (64 + lsp) w8 (by rw [andT_length (by rw [HA.out, HB.out]), HA.out]) (andT_bits A B) (by omega) HR8.out
  obtain ⟨dd, hdd⟩ : ∃ d, d = builtD 6 (andT A B) := ⟨_, rfl⟩
  rw [← hdd] at HCB
  have HDD := Lib.hid hdd
  refine HCB.mono ?_
  clear HCB hdd
  rintro e w9 ⟨co2, sp, rfl, hrow9, hb9⟩
  have S9 := Lib.hid (S8.out.step hb9)
  have HROW2 := Lib.hid hrow9
  have hz8 : bx + 3 < w8.heap.size := S8.out.lt 3
  have HB9 := Lib.hid (Below.step HB8.out hb9)
  clear hrow9 hb9
  have HS9 := FC.out _ HB9.out
  refine HK.out _ _ (fun _ => HS9) ?_
  try simp only [Act.put, List.setIfInBounds_toArray, List.set_cons_zero, List.set_cons_succ]
  refine wpT.take (i := 9) (by kernel_rfl) (by kernel_rfl) (by kernel_rfl) (by kernel_rfl) (by kernel_rfl) (fun _ => HS9) ?_
  intro oi ho
  simp only [List.getElem?_toArray, List.getElem?_cons_succ, List.getElem?_cons_zero, Option.some.injEq] at ho
  subst ho
  refine ⟨?_, Or.inl ⟨by rfl, ?_⟩, fun _ _ _ h => h, ?_⟩
  rotate_left 1
  · intro W hW
    try (subst hW)
    try dsimp only at hW
    go_simp
    try with_reducible rfl
  try simp only [Act.put, List.setIfInBounds_toArray, List.set_cons_zero, List.set_cons_succ]
  refine wpT.take (i := 10) (by kernel_rfl) (by kernel_rfl) (by kernel_rfl) (by kernel_rfl) (by kernel_rfl) (fun _ => HS9) ?_
  intro oi ho
  simp only [List.getElem?_toArray, List.getElem?_cons_succ, List.getElem?_cons_zero, Option.some.injEq] at ho
  subst ho
  refine ⟨?_, Or.inl ⟨by rfl, ?_⟩, fun _ _ _ h => h, ?_⟩
  rotate_left 1
  · intro W hW
    try (subst hW)
    try dsimp only at hW
    go_simp
    try with_reducible rfl
  obtain ⟨⟨x0, x1⟩, x2, x3⟩ := S9.out.two 2
  obtain ⟨⟨x4, x5⟩, x6, x7⟩ := S9.out.two 3
  have l0 := S9.out.lt 2
  have l1 := S9.out.lt 3
  try simp only [Act.put, List.setIfInBounds_toArray, List.set_cons_zero, List.set_cons_succ]
  refine wpT.one (i := 11) (by kernel_rfl) ?_
  intro oi ho
  simp only [List.getElem?_toArray, List.getElem?_cons_succ, List.getElem?_cons_zero, Option.some.injEq] at ho
  subst ho
  intro K' hK
  have HK := Lib.hid hK
  clear hK
  go_simp
  refine HK.out _ _ (fun h => absurd h (by decide)) ?_
  try simp only [Act.put, List.setIfInBounds_toArray, List.set_cons_zero, List.set_cons_succ]
  refine wpT.one (i := 12) (by kernel_rfl) ?_
  intro oi ho
  simp only [List.getElem?_toArray, List.getElem?_cons_succ, List.getElem?_cons_zero, Option.some.injEq] at ho
  subst ho
  intro K' hK
  have HK := Lib.hid hK
  clear hK
  go_simp
  refine HK.out _ _ (fun h => absurd h (by decide)) ?_
  try simp only [Act.put, List.setIfInBounds_toArray, List.set_cons_zero, List.set_cons_succ]
  refine wpT.done (by kernel_rfl) ?_
  clear HS HS9
  go_wp2_with fail
  have HX := Lib.hid (two22 (S9.out.block 2 rfl) (S9.out.block 3 rfl) (by omega) (.slice co2 dd.1.length (dd.1.length + sp)) (.int .i64 dd.2) (.int .i64 0) (.int .i64 0))
  have HY := Lib.hid (below22 S9.out.bel (b := bx + 2) (c := bx + 3) (by have := HBX.out; omega) (by have := HBX.out; omega) (.slice co2 dd.1.length (dd.1.length + sp)) (.int .i64 dd.2) (.int .i64 0) (.int .i64 0))
  refine ret_box22 (.slice co2 dd.1.length (dd.1.length + sp)) (.int .i64 dd.2) (.int .i64 0) (.int .i64 0) (bx + 2) (bx + 3) 44 31 HX.out.1 HX.out.2 (fun w' q0 q1 q2 q3 => by simp [results, Try.results11, go_sem, q0, q1, q2, q3]) rfl ?_
  rw [← HDD.out]
  refine ⟨co2, sp, rfl, ?_, HY.out⟩
  refine HROW2.out.keep (fun b h _ => ⟨?_, by have := HBX.out; have h8 : w8.heap.size ≤ b := h; omega⟩)
  have h8 : w8.heap.size ≤ b := h
  exact (Below.heap_setCell _ _ _ _ (by show b ≠ bx + 3; omega)).trans ((Below.heap_setCell _ _ _ _ (by show b ≠ bx + 3; omega)).trans ((Below.heap_setCell _ _ _ _ (by show b ≠ bx + 2; omega)).trans (Below.heap_setCell _ _ _ _ (by show b ≠ bx + 2; omega))))

set_option maxRecDepth 100000 in
theorem neq72 (v lo hi : Int) (W : World) : (binOp .neq 72 (.agg #[.int .i64 v, .int .i64 lo, .int .i64 hi]) (.agg #[.int .i64 v, .int .i64 lo, .int .i64 hi])).run Try.prog W = .ok (.bool false) W := by
  have h1 : Try.prog.fieldsOf 72 = #[{ name := "Var", type := 3, offset := 0, embedded := false, tag := "", pkgPath := "", byteOffset := 0 }, { name := "Low", type := 3, offset := 1, embedded := false, tag := "", pkgPath := "", byteOffset := 8 }, { name := "High", type := 3, offset := 2, embedded := false, tag := "", pkgPath := "", byteOffset := 16 }] := by
    unfold Program.fieldsOf
    rw [Try.underlying72]
  have h2 : Try.prog.underlying 72 = some (.struct (Try.prog.fieldsOf 72)) := by rw [h1]; exact Try.underlying72
  have h3 : Try.prog.stoodInHeld 72 = false := by kernel_rfl
  rw [run_neq_struct, run_equalIn_struct W 9999 72 _ _ h2 h3, h1]
  have n1 : ("Var" ≠ "_") := by decide
  have n2 : ("Low" ≠ "_") := by decide
  have n3 : ("High" ≠ "_") := by decide
  simp [Op.eqFields, go_sem, Try.underlying3]
set_option maxRecDepth 100000 in
set_option maxHeartbeats 4000000 in
theorem same13 (d : List Ch × Nat) (p q : Nat → Prop) (co fo : Option Addr) (cp fp : Nat) (w : World) (hn : d.1.length ≤ 200) (hrow : chE.Row q w co d.1) (hrowf : chE.Row p w fo d.1) :
    Calls Try.prog 13 #[.agg #[.slice co d.1.length cp, .int .i64 d.2], .agg #[.slice fo d.1.length fp, .int .i64 d.2]] w fun e w' => e = .returned (.bool true) ∧ Below w.heap.size w w' := by
  have HR := Lib.hid hrow; have HRF := Lib.hid hrowf
  obtain ⟨n, hnn⟩ : ∃ n, n = d.1.length := ⟨_, rfl⟩
  obtain ⟨r, hr⟩ : ∃ n, n = d.2 := ⟨_, rfl⟩
  rw [← hnn] at hn
  rw [← hnn, ← hr]
  have HN := Lib.hid hnn
  obtain ⟨bx, hbx⟩ : ∃ b, b = w.heap.size := ⟨_, rfl⟩
  have S1 := ((St.start w).box hbx.symm #[.slice co n cp, .int .i64 r] 44).box (b := bx + 1) (by simp [hbx]) #[.slice fo n fp, .int .i64 r] 44
  clear hrow hrowf hnn hr
  go_enter Try.func13, Try.ntmps13
  have h1 : ((r : Int) != (r : Int)) = false := by simp
  have h2 : ((n : Int) != (n : Int)) = false := by simp
  go_upto_region 3 with fail
  rw [← hbx]
  refine S1.genC (z := 0) (by omega) ?_
  intro w1 _ S
  clear S1 hbx h1 h2
  go_wp2_with fail
  go_loopw [5] (fun i wr => ∃ k : Nat, k ≤ n ∧ i = .int .i64 k ∧ St w wr [.box bx #[.slice co n cp, .int .i64 r] 44, .box (bx + 1) #[.slice fo n fp, .int .i64 r] 44]) (fun i _ => n - (intOf i).toNat)
  case atStart => exact ⟨0, by omega, rfl, S⟩
  case round =>
    clear S
    obtain ⟨k, hk, rfl, S⟩ := hrel
    obtain ⟨⟨y0, _⟩, y1, _⟩ := S.two 0
    obtain ⟨⟨y2, _⟩, y3, _⟩ := S.two 1
    by_cases hlt : k < n
    · have hlti : (k : Int) < (n : Int) := by omega
      have hkc : k < d.1.length := by have := HN.out; omega
      obtain ⟨b, off, rfl, _, c0, c1, c2⟩ := (HR.out.kept S.bel).ch hkc
      obtain ⟨b2, off2, rfl, _, c3, c4, c5⟩ := (HRF.out.kept S.bel).ch hkc
      generalize d.1[k] = c at c0 c1 c2 c3 c4 c5
      obtain ⟨v, lo, hi⟩ := c
      dsimp only at c0 c1 c2 c3 c4 c5
      have SD := Lib.hid S.drew
      go_upto_region 6 with fail
      clear y0 y1 y2 y3
      obtain ⟨⟨y0, _⟩, y1, _⟩ := SD.out.two 0
      obtain ⟨⟨y2, _⟩, y3, _⟩ := SD.out.two 1
      have HS : wr.drew = wr.drew := rfl
      refine wpT_region [] (fun W => W = wr.drew) (by kernel_rfl) ?_
      try simp only [Act.put, List.setIfInBounds_toArray, List.set_cons_zero, List.set_cons_succ]
      refine wpT.take (i := 0) (by kernel_rfl) (by kernel_rfl) (by kernel_rfl) (by kernel_rfl) (by kernel_rfl) (fun _ => HS) ?_
      intro oi ho
      simp only [List.getElem?_toArray, List.getElem?_cons_succ, List.getElem?_cons_zero, Option.some.injEq] at ho
      subst ho
      refine ⟨?_, Or.inl ⟨by rfl, ?_⟩, fun _ _ _ h => h, ?_⟩
      rotate_left 1
      · intro W hW
        try (subst hW)
        try dsimp only at hW
        go_simp
        try with_reducible rfl
      try simp only [Act.put, List.setIfInBounds_toArray, List.set_cons_zero, List.set_cons_succ]
      refine wpT.take (i := 1) (by kernel_rfl) (by kernel_rfl) (by kernel_rfl) (by kernel_rfl) (by kernel_rfl) (fun _ => HS) ?_
      intro oi ho
      simp only [List.getElem?_toArray, List.getElem?_cons_succ, List.getElem?_cons_zero, Option.some.injEq] at ho
      subst ho
      refine ⟨?_, Or.inl ⟨by rfl, ?_⟩, fun _ _ _ h => h, ?_⟩
      rotate_left 1
      · intro W hW
        try (subst hW)
        try dsimp only at hW
        go_simp
        try with_reducible rfl
      try simp only [Act.put, List.setIfInBounds_toArray, List.set_cons_zero, List.set_cons_succ]
      refine wpT.take (i := 2) (by kernel_rfl) (by kernel_rfl) (by kernel_rfl) (by kernel_rfl) (by kernel_rfl) (fun _ => HS) ?_
      intro oi ho
      simp only [List.getElem?_toArray, List.getElem?_cons_succ, List.getElem?_cons_zero, Option.some.injEq] at ho
      subst ho
      refine ⟨?_, Or.inl ⟨by rfl, ?_⟩, fun _ _ _ h => h, ?_⟩
      rotate_left 1
      · intro W hW
        try (subst hW)
        try dsimp only at hW
        go_simp
        try with_reducible rfl
      try simp only [Act.put, List.setIfInBounds_toArray, List.set_cons_zero, List.set_cons_succ]
      refine wpT.take (i := 3) (by kernel_rfl) (by kernel_rfl) (by kernel_rfl) (by kernel_rfl) (by kernel_rfl) (fun _ => HS) ?_
      intro oi ho
      simp only [List.getElem?_toArray, List.getElem?_cons_succ, List.getElem?_cons_zero, Option.some.injEq] at ho
      subst ho
      refine ⟨?_, Or.inl ⟨by rfl, ?_⟩, fun _ _ _ h => h, ?_⟩
      rotate_left 1
      · intro W hW
        try (subst hW)
        try dsimp only at hW
        go_simp
        try with_reducible rfl
      try simp only [Act.put, List.setIfInBounds_toArray, List.set_cons_zero, List.set_cons_succ]
      refine wpT.take (i := 4) (by kernel_rfl) (by kernel_rfl) (by kernel_rfl) (by kernel_rfl) (by kernel_rfl) (fun _ => HS) ?_
      intro oi ho
      simp only [List.getElem?_toArray, List.getElem?_cons_succ, List.getElem?_cons_zero, Option.some.injEq] at ho
      subst ho
      refine ⟨?_, Or.inl ⟨by rfl, ?_⟩, fun _ _ _ h => h, ?_⟩
      rotate_left 1
      · intro W hW
        try (subst hW)
        try dsimp only at hW
        go_simp
        try with_reducible rfl
      try simp only [Act.put, List.setIfInBounds_toArray, List.set_cons_zero, List.set_cons_succ]
      refine wpT.take (i := 5) (by kernel_rfl) (by kernel_rfl) (by kernel_rfl) (by kernel_rfl) (by kernel_rfl) (fun _ => HS) ?_
      intro oi ho
      simp only [List.getElem?_toArray, List.getElem?_cons_succ, List.getElem?_cons_zero, Option.some.injEq] at ho
      subst ho
      refine ⟨?_, Or.inl ⟨by rfl, ?_⟩, fun _ _ _ h => h, ?_⟩
      rotate_left 1
      · intro W hW
        try (subst hW)
        try dsimp only at hW
        go_simp
        try with_reducible rfl
      try simp only [Act.put, List.setIfInBounds_toArray, List.set_cons_zero, List.set_cons_succ]
      refine wpT.take (i := 6) (by kernel_rfl) (by kernel_rfl) (by kernel_rfl) (by kernel_rfl) (by kernel_rfl) (fun _ => HS) ?_
      intro oi ho
      simp only [List.getElem?_toArray, List.getElem?_cons_succ, List.getElem?_cons_zero, Option.some.injEq] at ho
      subst ho
      refine ⟨?_, Or.inl ⟨by rfl, ?_⟩, fun _ _ _ h => h, ?_⟩
      rotate_left 1
      · intro W hW
        try (subst hW)
        try dsimp only at hW
        go_simp
        try with_reducible rfl
      try simp only [Act.put, List.setIfInBounds_toArray, List.set_cons_zero, List.set_cons_succ]
      refine wpT.take (i := 7) (by kernel_rfl) (by kernel_rfl) (by kernel_rfl) (by kernel_rfl) (by kernel_rfl) (fun _ => HS) ?_
      intro oi ho
      simp only [List.getElem?_toArray, List.getElem?_cons_succ, List.getElem?_cons_zero, Option.some.injEq] at ho
      subst ho
      refine ⟨?_, Or.inl ⟨by rfl, ?_⟩, fun _ _ _ h => h, ?_⟩
      rotate_left 1
      · intro W hW
        try (subst hW)
        try dsimp only at hW
        go_simp
        try with_reducible rfl
      try simp only [Act.put, List.setIfInBounds_toArray, List.set_cons_zero, List.set_cons_succ]
      refine wpT.take (i := 8) (by kernel_rfl) (by kernel_rfl) (by kernel_rfl) (by kernel_rfl) (by kernel_rfl) (fun _ => HS) ?_
      intro oi ho
      simp only [List.getElem?_toArray, List.getElem?_cons_succ, List.getElem?_cons_zero, Option.some.injEq] at ho
      subst ho
      refine ⟨?_, Or.inl ⟨by rfl, ?_⟩, fun _ _ _ h => h, ?_⟩
      rotate_left 1
      · intro W hW
        try (subst hW)
        try dsimp only at hW
        go_simp
        try with_reducible rfl
      try simp only [Act.put, List.setIfInBounds_toArray, List.set_cons_zero, List.set_cons_succ]
      refine wpT.take (i := 9) (by kernel_rfl) (by kernel_rfl) (by kernel_rfl) (by kernel_rfl) (by kernel_rfl) (fun _ => HS) ?_
      intro oi ho
      simp only [List.getElem?_toArray, List.getElem?_cons_succ, List.getElem?_cons_zero, Option.some.injEq] at ho
      subst ho
      refine ⟨?_, Or.inl ⟨by rfl, ?_⟩, fun _ _ _ h => h, ?_⟩
      rotate_left 1
      · intro W hW
        try (subst hW)
        try dsimp only at hW
        go_simp
        try with_reducible rfl
      have hne := neq72 v lo hi wr.drew
      have heg : Try.prog.eqGuardType Try.prog.depth 72 = false := by kernel_rfl
      try simp only [Act.put, List.setIfInBounds_toArray, List.set_cons_zero, List.set_cons_succ]
      refine wpT.take (i := 10) (by kernel_rfl) (by kernel_rfl) (by kernel_rfl) (by kernel_rfl) (by kernel_rfl) (fun _ => HS) ?_
      intro oi ho
      simp only [List.getElem?_toArray, List.getElem?_cons_succ, List.getElem?_cons_zero, Option.some.injEq] at ho
      subst ho
      refine ⟨?_, Or.inl ⟨by rfl, ?_⟩, fun _ _ _ h => h, ?_⟩
      rotate_left 1
      · intro W hW
        try (subst hW)
        try dsimp only at hW
        go_simp
        try with_reducible rfl
      try simp only [Act.put, List.setIfInBounds_toArray, List.set_cons_zero, List.set_cons_succ]
      refine wpT.done (by kernel_rfl) ?_
      clear hne heg y0 y1 y2 y3 HS
      go_wp2_with fail
      go_roundw
      case rel => exact ⟨k + 1, by omega, by go_num, SD.out⟩
      case measure => simp [intOf] <;> omega
    · have hlti : ¬ (k : Int) < (n : Int) := by omega
      have SB := Lib.hid S.bel
      clear S
      go_wp2_with fail
      go_ret
      exact ⟨rfl, SB.out⟩
end Go.Proofs.Ytacaakcpkgipfaa
