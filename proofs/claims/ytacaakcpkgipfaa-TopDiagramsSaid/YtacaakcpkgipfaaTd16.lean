/-
  Walk: the law TopDiagrams.
-/
import Derived.Test.YtacaakcpkgipfaaProg
import Derived.Test.YtacaakcpkgipfaaTd15
import Derived.Test.YtacaakcpkgipfaaEk2
import Derived.RegionTactic
import Derived.BigQuiet
import Derived.Deep.CutBlock
import Derived.Deep.DeepCutAuto
namespace Go.Proofs.Ytacaakcpkgipfaa
open Go.RowKit Go.Shelf Go.Maps
set_option linter.unusedVariables false
set_option linter.unusedSimpArgs false
set_option maxHeartbeats 400000

def tabC (cs : List (List Int)) : List Nat := tabF 6 (fun a => allT a cs)
theorem tabC_length (cs : List (List Int)) : (tabC cs).length = 64 := tabF_length 6 _
theorem tabC_bits (cs : List (List Int)) : ∀ x ∈ tabC cs, x < 2 := tabF_bits 6 _
theorem one_lenC : (builtD 6 (tabC [[1]])).1.length = 1 := by unfold tabC; exact one_len
/-- both lists of clauses, and the row of all -/
def ThreeP (w : World) (b7 : Nat) (cs1 cs2 : List (List Int)) (W : World) : Prop := ∃ ao cap, Below w.heap.size w W ∧ W.heap[b7]? = some (.cells #[.int .i64 6, .slice ao (cs1 ++ cs2).length cap] 40 (0, 0)) ∧ intsE.Row (fun _ => True) W ao (cs1 ++ cs2)
def TwoP (w : World) (cs1 cs2 : List (List Int)) (p : Value) (W : World) : Prop := ∃ b7, p = .pointer (some ⟨b7, 0, none⟩) ∧ ThreeP w b7 cs1 cs2 W

set_option maxRecDepth 100000 in
set_option maxHeartbeats 16000000 in
theorem topDiagrams4 (a b : List Int) (ao bo : Option Addr) (ac bc : Nat) (w : World) (ha : intE.Row (fun b => b < w.heap.size) w ao a) (hb : intE.Row (fun b => b < w.heap.size) w bo b) (han : a.length ≤ maxLen) (hbn : b.length ≤ maxLen) (hac : a.length ≤ ac) (hbc : b.length ≤ bc) :
    Calls Try.prog 4 #[.slice ao a.length ac, .slice bo b.length bc] w fun e w' => e = .returned (.bool true) ∧ Below w.heap.size w w' := by
  have HA := Lib.hid (fun W hB => cnfOf9 _ ao a ac 8 W (ha.kept (w' := W) hB) han hac (by omega))
  have HB := Lib.hid (fun W hB => cnfOf9 _ bo b bc 8 W (hb.kept (w' := W) hB) hbn hbc (by omega))
  obtain ⟨an, han2⟩ : ∃ n, n = a.length := ⟨_, rfl⟩
  obtain ⟨bn, hbn2⟩ : ∃ n, n = b.length := ⟨_, rfl⟩
  rw [← han2] at HA ⊢
  rw [← hbn2] at HB ⊢
  have S0 := St.start w
  clear ha hb han hbn hac hbc han2 hbn2
  go_enter Try.func4, Try.ntmps4
  go_wp2_with fail
  refine (HA.out w S0.bel).mono ?_
  rintro e w1 ⟨cs1, lo1, sp1, rfl, hl1, hG1, hrow1, hb1⟩
  have HG1 := Lib.hid hG1
  obtain ⟨n1, hn1⟩ : ∃ n, n = cs1.length := ⟨_, rfl⟩
  rw [← hn1] at hl1 ⊢
  have HN1 := Lib.hid hn1
  obtain ⟨b5, hb5⟩ : ∃ b, b = w1.heap.size := ⟨_, rfl⟩
  have S1 := ((S0.step hb1).add (.rowE intsE (fun _ => True) lo1 cs1) (hrow1.mono (fun _ _ _ => trivial))).box hb5.symm #[.int .i64 6, .slice lo1 n1 (n1 + sp1)] 40
  clear S0 hG1 hrow1 hb1 hn1
  go_upto_region 2 with fail
  rw [← hb5]
  refine S1.genC (z := 0) (by omega) ?_
  clear S1 hb5
  intro w2 _ S
  go_wp2_with fail
  refine (HB.out w2 S.bel).mono ?_
  rintro e w3 ⟨cs2, lo2, sp2, rfl, hl2, hG2, hrow2, hb2⟩
  have HG2 := Lib.hid hG2
  obtain ⟨n2, hn2⟩ : ∃ n, n = cs2.length := ⟨_, rfl⟩
  rw [← hn2] at hl2 ⊢
  have HN2 := Lib.hid hn2
  obtain ⟨b6, hb6⟩ : ∃ b, b = w3.heap.size := ⟨_, rfl⟩
  have S1 := ((S.step hb2).add (.rowE intsE (fun _ => True) lo2 cs2) (hrow2.mono (fun _ _ _ => trivial))).box hb6.symm #[.int .i64 6, .slice lo2 n2 (n2 + sp2)] 40
  clear S hG2 hrow2 hb2 hn2
  go_upto_region 3 with fail
  rw [← hb6]
  refine S1.genC (z := 0) (by omega) ?_
  clear S1 hb6
  intro w4 _ S
  obtain ⟨_, x1, _⟩ := S.two 1
  obtain ⟨_, x3, _⟩ := S.two 3
  have FC := Lib.hid (fun W (hb : Below w4.heap.size w4 W) => (show W.cell? ⟨b5, 1, none⟩ = some (.slice lo1 n1 (n1 + sp1)) ∧ W.cell? ⟨b6, 1, none⟩ = some (.slice lo2 n2 (n2 + sp2)) from ⟨Below.cellOf hb x1, Below.cellOf hb x3⟩))
  have HR1 := Lib.hid (show intsE.Row (fun b => b < w4.heap.size) w4 lo1 cs1 from (S.rowE intsE 0).keep (fun b _ h2 => ⟨rfl, h2⟩))
  have HR2 := Lib.hid (show intsE.Row (fun b => b < w4.heap.size) w4 lo2 cs2 from (S.rowE intsE 2).keep (fun b _ h2 => ⟨rfl, h2⟩))
  have HS := Lib.hid S
  clear x1 x3 S
  have hlen : (cs1 ++ cs2).length = n1 + n2 := by rw [List.length_append, HN1.out, HN2.out]
  have HLL := Lib.hid hlen
  clear hlen
  go_cut [7] (fun p W => TwoP w4 cs1 cs2 p W)
  case first =>
    obtain ⟨i3, gi, gz0, gz1, gz2⟩ := info_parts infoS
    have HSN := Lib.hid (((St.start w4).drew).add (.owns intsE w4.heap.size (fun b => b < w4.heap.size) (.slice none 0 0) []) (Elt.Own.nil _ _ _ _))
    refine wpT_region [8] (fun W => W.cell? ⟨b5, 1, none⟩ = some (.slice lo1 n1 (n1 + sp1)) ∧ W.cell? ⟨b6, 1, none⟩ = some (.slice lo2 n2 (n2 + sp2))) (by kernel_rfl) ?_
    have HW := FC.out _ (Below.refl _ w4).drew
    have e1 : ([] : List (List Int)).length + cs1.length = n1 := by rw [HN1.out]; simp
    have e2 : cs1.length + cs2.length = n1 + n2 := by rw [HN1.out, HN2.out]
    have E1 := Lib.hid e1; have E2 := Lib.hid e2
    clear e1 e2
    try simp only [Act.put, List.setIfInBounds_toArray, List.set_cons_zero, List.set_cons_succ]
    refine wpT.take (i := 0) (by kernel_rfl) (by kernel_rfl) (by kernel_rfl) (by kernel_rfl) (by kernel_rfl) (fun _ => HW) ?_
    intro oi ho
    simp only [List.getElem?_toArray, List.getElem?_cons_succ, List.getElem?_cons_zero, Option.some.injEq] at ho
    subst ho
    refine ⟨?_, Or.inl ⟨by rfl, ?_⟩, fun _ _ _ h => h, ?_⟩
    rotate_left 1
    · intro W hW
      try (subst hW)
      try dsimp only at hW
      go_simp
      try with_reducible rfl
    try simp only [Act.put, List.setIfInBounds_toArray, List.set_cons_zero, List.set_cons_succ]
    refine wpT.take (i := 1) (by kernel_rfl) (by kernel_rfl) (by kernel_rfl) (by kernel_rfl) (by kernel_rfl) (fun _ => HW) ?_
    intro oi ho
    simp only [List.getElem?_toArray, List.getElem?_cons_succ, List.getElem?_cons_zero, Option.some.injEq] at ho
    subst ho
    refine ⟨?_, Or.inl ⟨by rfl, ?_⟩, fun _ _ _ h => h, ?_⟩
    rotate_left 1
    · intro W hW
      try (subst hW)
      try dsimp only at hW
      go_simp
      try with_reducible rfl
    try simp only [Act.put, List.setIfInBounds_toArray, List.set_cons_zero, List.set_cons_succ]
    refine wpT.take (i := 3) (by kernel_rfl) (by kernel_rfl) (by kernel_rfl) (by kernel_rfl) (by kernel_rfl) (fun _ => HW) ?_
    intro oi ho
    simp only [List.getElem?_toArray, List.getElem?_cons_succ, List.getElem?_cons_zero, Option.some.injEq] at ho
    subst ho
    refine ⟨?_, Or.inl ⟨by rfl, ?_⟩, fun _ _ _ h => h, ?_⟩
    rotate_left 1
    · intro W hW
      try (subst hW)
      try dsimp only at hW
      go_simp
      try with_reducible rfl
    try simp only [Act.put, List.setIfInBounds_toArray, List.set_cons_zero, List.set_cons_succ]
    refine wpT.take (i := 4) (by kernel_rfl) (by kernel_rfl) (by kernel_rfl) (by kernel_rfl) (by kernel_rfl) (fun _ => HW) ?_
    intro oi ho
    simp only [List.getElem?_toArray, List.getElem?_cons_succ, List.getElem?_cons_zero, Option.some.injEq] at ho
    subst ho
    refine ⟨?_, Or.inl ⟨by rfl, ?_⟩, fun _ _ _ h => h, ?_⟩
    rotate_left 1
    · intro W hW
      try (subst hW)
      try dsimp only at hW
      go_simp
      try with_reducible rfl

    try simp only [Act.put, List.setIfInBounds_toArray, List.set_cons_zero, List.set_cons_succ]
    refine wpT.two (i := 2) (j := 7) (by kernel_rfl) ?_ ?_
    · skip
      intro oi ho
      simp only [List.getElem?_toArray, List.getElem?_cons_succ, List.getElem?_cons_zero, Option.some.injEq] at ho
      subst ho
      intro K' hK
      have HK := Lib.hid hK
      clear hK
      refine step_appRow (by rfl) (.const (.slice none 0 0)) (.tmp 27) 38 (by rfl) intsE HSN.out 0 rfl (yo := lo1) (ys := cs1) (q := fun b => b < w4.heap.size) (p' := fun b => b < w4.heap.size) (c := n1 + sp1) (HR1.out.kept HSN.out.bel) Try.underlying38 gi gz0 gz1 gz2 (by rfl) (by rfl) (by rfl) (by rw [← HN1.out]; rfl) (by rw [← HN1.out]; unfold maxLen; simp; omega) (by rw [← HN1.out]; simp; omega) (HSN.out.size) (Nat.le_refl _) (fun bb h1 _ _ => by cases h1) (fun bb _ h2 => by cases h2) (fun _ h => h.elim id id) ?_
      intro ao1 cap1 v1 S1 hs1 how1 _
      rw [E1.out, List.nil_append] at S1
      rw [E1.out]
      have HOW1 := Lib.hid (S1.ownlt intsE 0 rfl)
      have HS1 := Lib.hid S1
      rw [E1.out] at how1
      have HWA := Lib.hid how1
      clear S1 how1
      refine HK.out _ _ (fun _ => FC.out _ HS1.out.bel) ?_
      try simp only [Act.put, List.setIfInBounds_toArray, List.set_cons_zero, List.set_cons_succ]
      refine wpT.two (i := 5) (j := 7) (by kernel_rfl) ?_ ?_
      · skip
        intro oi ho
        simp only [List.getElem?_toArray, List.getElem?_cons_succ, List.getElem?_cons_zero, Option.some.injEq] at ho
        subst ho
        intro K' hK
        have HK := Lib.hid hK
        clear hK
        refine step_appRow (by rfl) (.tmp 28) (.tmp 30) 38 (by rfl) intsE HS1.out 0 rfl (yo := lo2) (ys := cs2) (q := fun b => b < w4.heap.size) (p' := fun b => b < w4.heap.size) (c := n2 + sp2) (HR2.out.kept HS1.out.bel) Try.underlying38 gi gz0 gz1 gz2 (by rfl) (by rfl) (by rfl) (by rw [← HN2.out]; rfl) (by rw [← HN1.out, ← HN2.out]; unfold maxLen; omega) (by rw [← HN1.out, ← HN2.out]; omega) (by have := HS1.out.size; omega) (Nat.le_refl _) (fun bb _ _ _ => trivial) (fun bb h1 h2 => by have := (HOW1.out bb h2).1; omega) (fun _ h => h.elim id id) ?_
        intro ao2 cap2 v2 S2 hs2 how2 _
        rw [E2.out] at S2
        rw [E2.out] at how2
        rw [E2.out]
        have HOW2 := Lib.hid (S2.ownlt intsE 0 rfl)
        have HS2 := Lib.hid S2
        have HWW := Lib.hid how2
        clear S2 how2
        refine HK.out _ _ (fun _ => FC.out _ HS2.out.bel) ?_
        try simp only [Act.put, List.setIfInBounds_toArray, List.set_cons_zero, List.set_cons_succ]
        refine wpT.take (i := 6) (by kernel_rfl) (by kernel_rfl) (by kernel_rfl) (by kernel_rfl) (by kernel_rfl) (fun _ => FC.out _ HS2.out.bel) ?_
        intro oi ho
        simp only [List.getElem?_toArray, List.getElem?_cons_succ, List.getElem?_cons_zero, Option.some.injEq] at ho
        subst ho
        refine ⟨?_, Or.inl ⟨by rfl, ?_⟩, fun _ _ _ h => h, ?_⟩
        rotate_left 1
        · intro W hW
          try (subst hW)
          try dsimp only at hW
          go_simp
          try with_reducible rfl
        try simp only [Act.put, List.setIfInBounds_toArray, List.set_cons_zero, List.set_cons_succ]
        refine wpT.one (i := 7) (by kernel_rfl) ?_
        intro oi ho
        simp only [List.getElem?_toArray, List.getElem?_cons_succ, List.getElem?_cons_zero, Option.some.injEq] at ho
        subst ho
        intro K' hK
        have HK := Lib.hid hK
        clear hK
        go_simp
        refine HK.out _ _ (fun _ => FC.out _ (Below.step HS2.out.bel ((Below.refl _ v2).alloc (Nat.le_refl _) _))) ?_
        try simp only [Act.put, List.setIfInBounds_toArray, List.set_cons_zero, List.set_cons_succ]
        refine wpT.one (i := 8) (by kernel_rfl) ?_
        intro oi ho
        simp only [List.getElem?_toArray, List.getElem?_cons_succ, List.getElem?_cons_zero, Option.some.injEq] at ho
        subst ho
        intro K' hK
        have HK := Lib.hid hK
        clear hK
        go_simp
        refine HK.out _ _ (fun h => absurd h (by decide)) ?_
        try simp only [Act.put, List.setIfInBounds_toArray, List.set_cons_zero, List.set_cons_succ]
        refine wpT.done (by kernel_rfl) ?_
        clear HW
        have HZ := Lib.hid (HS2.out.box rfl #[.int .i64 6, .slice ao2 (n1 + n2) cap2] 40)
        go_wp2_with fail
        go_meet
        case rel => exact ⟨_, rfl, ao2, cap2, HZ.out.bel, by rw [HLL.out]; exact HZ.out.block 1 rfl, by obtain ⟨aox, spx, ex, hx, _⟩ := (HZ.out.owns intsE 0 rfl).rowB; simp only [Value.slice.injEq] at ex; rw [← ex.1] at hx; exact hx.mono (fun _ _ _ => trivial)⟩
      · skip
        intro oi ho
        simp only [List.getElem?_toArray, List.getElem?_cons_succ, List.getElem?_cons_zero, Option.some.injEq] at ho
        subst ho
        intro K' hK
        have HK := Lib.hid hK
        clear hK
        go_simp
        obtain ⟨b7, hb7⟩ : ∃ b, b = v1.heap.size := ⟨_, rfl⟩
        have HSA := Lib.hid (HS1.out.box hb7.symm #[.int .i64 0, .slice none 0 0] 40)
        have HB7 := Lib.hid (show w4.heap.size ≤ b7 ∧ ∀ bb, (Value.slice ao1 n1 cap1).ownBlock = some bb → bb < b7 from ⟨by have := HS1.out.size; omega, fun bb h => by have := (HOW1.out bb h).2; omega⟩)
        have HLB := Lib.hid (HSA.out.lt 1 rfl)
        rw [← hb7]
        clear hb7
        refine HK.out _ _ (fun _ => FC.out _ HSA.out.bel) ?_
        try simp only [Act.put, List.setIfInBounds_toArray, List.set_cons_zero, List.set_cons_succ]
        refine wpT.one (i := 5) (by kernel_rfl) ?_
        intro oi ho
        simp only [List.getElem?_toArray, List.getElem?_cons_succ, List.getElem?_cons_zero, Option.some.injEq] at ho
        subst ho
        intro K' hK
        have HK := Lib.hid hK
        clear hK
        refine step_appRow (by rfl) (.tmp 28) (.tmp 30) 38 (by rfl) intsE HSA.out 0 rfl (yo := lo2) (ys := cs2) (q := fun b => b < w4.heap.size) (p' := fun b => b < w4.heap.size) (c := n2 + sp2) (HR2.out.kept HSA.out.bel) Try.underlying38 gi gz0 gz1 gz2 (by rfl) (by rfl) (by rfl) (by rw [← HN2.out]; rfl) (by rw [← HN1.out, ← HN2.out]; unfold maxLen; omega) (by rw [← HN1.out, ← HN2.out]; omega) (by have := HSA.out.size; omega) (Nat.le_refl _) (fun bb h1 _ _ => by have := HB7.out.2 bb h1; simp only [fsnoc, fset, offs, offAll, Fct.box, and_true]; omega) (fun bb h1 h2 => by have := (HOW1.out bb h2).1; omega) (fun _ h => h.elim id id) ?_
        intro ao2 cap2 v2 S2 hs2 how2 _
        rw [E2.out] at S2
        rw [E2.out] at how2
        rw [E2.out]
        have HOW2 := Lib.hid (S2.ownlt intsE 0 rfl)
        have HS2 := Lib.hid S2
        have HWW := Lib.hid how2
        clear S2 how2
        refine HK.out _ _ (fun _ => FC.out _ HS2.out.bel) ?_
        have HNO := Lib.hid (show ¬ ((Value.slice ao2 (n1 + n2) cap2).ownBlock = some b7 ∨ b7 < w4.heap.size) from fun h => by rcases h with h | h; rcases HWW.out b7 h with h | h; have := HB7.out.2 b7 h; omega; have := HLB.out; omega; have := HB7.out.1; omega)
        try simp only [Act.put, List.setIfInBounds_toArray, List.set_cons_zero, List.set_cons_succ]
        refine wpT.take (i := 6) (by kernel_rfl) (by kernel_rfl) (by kernel_rfl) (by kernel_rfl) (by kernel_rfl) (fun _ => FC.out _ HS2.out.bel) ?_
        intro oi ho
        simp only [List.getElem?_toArray, List.getElem?_cons_succ, List.getElem?_cons_zero, Option.some.injEq] at ho
        subst ho
        refine ⟨?_, Or.inl ⟨by rfl, ?_⟩, fun _ _ _ h => h, ?_⟩
        rotate_left 1
        · intro W hW
          try (subst hW)
          try dsimp only at hW
          go_simp
          try with_reducible rfl
        obtain ⟨⟨z0, z1⟩, z2, z3⟩ := HS2.out.two 1 rfl
        have hlz := HS2.out.lt 1 rfl
        try simp only [Act.put, List.setIfInBounds_toArray, List.set_cons_zero, List.set_cons_succ]
        refine wpT.one (i := 8) (by kernel_rfl) ?_
        intro oi ho
        simp only [List.getElem?_toArray, List.getElem?_cons_succ, List.getElem?_cons_zero, Option.some.injEq] at ho
        subst ho
        intro K' hK
        have HK := Lib.hid hK
        clear hK
        go_simp
        have HZ := Lib.hid (HS2.out.set2 1 rfl (.int .i64 6) (.slice ao2 (n1 + n2) cap2) (by have := HB7.out; omega) (by simp only [fsnoc, fset, offs, offAll, Fct.owns, and_true]; exact HNO.out))
        refine HK.out _ _ (fun h => absurd h (by decide)) ?_
        try simp only [Act.put, List.setIfInBounds_toArray, List.set_cons_zero, List.set_cons_succ]
        refine wpT.done (by kernel_rfl) ?_
        clear HW z0 z1 z2 z3
        go_wp2_with fail
        go_meet
        case rel => exact ⟨b7, rfl, ao2, cap2, HZ.out.bel, by rw [HLL.out]; exact HZ.out.block 1 rfl, by obtain ⟨aox, spx, ex, hx, _⟩ := (HZ.out.owns intsE 0 rfl).rowB; simp only [Value.slice.injEq] at ex; rw [← ex.1] at hx; exact hx.mono (fun _ _ _ => trivial)⟩
    · skip
      intro oi ho
      simp only [List.getElem?_toArray, List.getElem?_cons_succ, List.getElem?_cons_zero, Option.some.injEq] at ho
      subst ho
      intro K' hK
      have HK := Lib.hid hK
      clear hK
      go_simp
      obtain ⟨b7, hb7⟩ : ∃ b, b = w4.heap.size := ⟨_, rfl⟩
      have HSA := Lib.hid (HSN.out.box (show w4.drew.heap.size = b7 from hb7.symm) #[.int .i64 0, .slice none 0 0] 40)
      have HB7 := Lib.hid (show w4.heap.size ≤ b7 by omega)
      have HLB := Lib.hid (HSA.out.lt 1 rfl)
      rw [← hb7]
      clear hb7
      refine HK.out _ _ (fun _ => FC.out _ HSA.out.bel) ?_
      try simp only [Act.put, List.setIfInBounds_toArray, List.set_cons_zero, List.set_cons_succ]
      refine wpT.one (i := 2) (by kernel_rfl) ?_
      intro oi ho
      simp only [List.getElem?_toArray, List.getElem?_cons_succ, List.getElem?_cons_zero, Option.some.injEq] at ho
      subst ho
      intro K' hK
      have HK := Lib.hid hK
      clear hK
      refine step_appRow (by rfl) (.const (.slice none 0 0)) (.tmp 27) 38 (by rfl) intsE HSA.out 0 rfl (yo := lo1) (ys := cs1) (q := fun b => b < w4.heap.size) (p' := fun b => b < w4.heap.size) (c := n1 + sp1) (HR1.out.kept HSA.out.bel) Try.underlying38 gi gz0 gz1 gz2 (by rfl) (by rfl) (by rfl) (by rw [← HN1.out]; rfl) (by rw [← HN1.out]; unfold maxLen; simp; omega) (by rw [← HN1.out]; simp; omega) (HSA.out.size) (Nat.le_refl _) (fun bb h1 _ _ => by cases h1) (fun bb _ h2 => by cases h2) (fun _ h => h.elim id id) ?_
      intro ao1 cap1 v1 S1 hs1 how1 _
      rw [E1.out, List.nil_append] at S1
      rw [E1.out]
      have HOW1 := Lib.hid (S1.ownlt intsE 0 rfl)
      have HS1 := Lib.hid S1
      rw [E1.out] at how1
      have HWA := Lib.hid how1
      clear S1 how1
      refine HK.out _ _ (fun _ => FC.out _ HS1.out.bel) ?_
      have HNA := Lib.hid (show (Value.slice ao1 n1 cap1).ownBlock ≠ some b7 from fun h => (HWA.out b7 h).elim (fun h => by cases h) (fun h => by have h9 := HLB.out; rw [h] at h9; exact absurd h9 (Nat.lt_irrefl _)))
      have HLC := Lib.hid (HS1.out.lt 1 rfl)
      try simp only [Act.put, List.setIfInBounds_toArray, List.set_cons_zero, List.set_cons_succ]
      refine wpT.one (i := 5) (by kernel_rfl) ?_
      intro oi ho
      simp only [List.getElem?_toArray, List.getElem?_cons_succ, List.getElem?_cons_zero, Option.some.injEq] at ho
      subst ho
      intro K' hK
      have HK := Lib.hid hK
      clear hK
      refine step_appRow (by rfl) (.tmp 28) (.tmp 30) 38 (by rfl) intsE HS1.out 0 rfl (yo := lo2) (ys := cs2) (q := fun b => b < w4.heap.size) (p' := fun b => b < w4.heap.size) (c := n2 + sp2) (HR2.out.kept HS1.out.bel) Try.underlying38 gi gz0 gz1 gz2 (by rfl) (by rfl) (by rfl) (by rw [← HN2.out]; rfl) (by rw [← HN1.out, ← HN2.out]; unfold maxLen; omega) (by rw [← HN1.out, ← HN2.out]; omega) (by have := HS1.out.size; omega) (Nat.le_refl _) (fun bb h1 _ _ => by have h3 : bb ≠ b7 := fun e => HNA.out (by rw [← e]; exact h1); simp only [fsnoc, fset, offs, offAll, Fct.box, and_true]; exact h3) (fun bb h1 h2 => by have := (HOW1.out bb h2).1; omega) (fun _ h => h.elim id id) ?_
      intro ao2 cap2 v2 S2 hs2 how2 _
      rw [E2.out] at S2
      rw [E2.out] at how2
      rw [E2.out]
      have HOW2 := Lib.hid (S2.ownlt intsE 0 rfl)
      have HS2 := Lib.hid S2
      have HWW := Lib.hid how2
      clear S2 how2
      refine HK.out _ _ (fun _ => FC.out _ HS2.out.bel) ?_
      have HNO := Lib.hid (show ¬ ((Value.slice ao2 (n1 + n2) cap2).ownBlock = some b7 ∨ b7 < w4.heap.size) from fun h => by rcases h with h | h; rcases HWW.out b7 h with h | h; exact HNA.out h; have := HLC.out; omega; have := HB7.out; omega)
      try simp only [Act.put, List.setIfInBounds_toArray, List.set_cons_zero, List.set_cons_succ]
      refine wpT.take (i := 6) (by kernel_rfl) (by kernel_rfl) (by kernel_rfl) (by kernel_rfl) (by kernel_rfl) (fun _ => FC.out _ HS2.out.bel) ?_
      intro oi ho
      simp only [List.getElem?_toArray, List.getElem?_cons_succ, List.getElem?_cons_zero, Option.some.injEq] at ho
      subst ho
      refine ⟨?_, Or.inl ⟨by rfl, ?_⟩, fun _ _ _ h => h, ?_⟩
      rotate_left 1
      · intro W hW
        try (subst hW)
        try dsimp only at hW
        go_simp
        try with_reducible rfl
      obtain ⟨⟨z0, z1⟩, z2, z3⟩ := HS2.out.two 1 rfl
      have hlz := HS2.out.lt 1 rfl
      try simp only [Act.put, List.setIfInBounds_toArray, List.set_cons_zero, List.set_cons_succ]
      refine wpT.one (i := 8) (by kernel_rfl) ?_
      intro oi ho
      simp only [List.getElem?_toArray, List.getElem?_cons_succ, List.getElem?_cons_zero, Option.some.injEq] at ho
      subst ho
      intro K' hK
      have HK := Lib.hid hK
      clear hK
      go_simp
      have HZ := Lib.hid (HS2.out.set2 1 rfl (.int .i64 6) (.slice ao2 (n1 + n2) cap2) (by have := HB7.out; omega) (by simp only [fsnoc, fset, offs, offAll, Fct.owns, and_true]; exact HNO.out))
      refine HK.out _ _ (fun h => absurd h (by decide)) ?_
      try simp only [Act.put, List.setIfInBounds_toArray, List.set_cons_zero, List.set_cons_succ]
      refine wpT.done (by kernel_rfl) ?_
      clear HW z0 z1 z2 z3
      go_wp2_with fail
      go_meet
      case rel => exact ⟨b7, rfl, ao2, cap2, HZ.out.bel, by rw [HLL.out]; exact HZ.out.block 1 rfl, by obtain ⟨aox, spx, ex, hx, _⟩ := (HZ.out.owns intsE 0 rfl).rowB; simp only [Value.slice.injEq] at ex; rw [← ex.1] at hx; exact hx.mono (fun _ _ _ => trivial)⟩
  case rest =>
  obtain ⟨b7, rfl, ao3, cap3, hb, hbox, hrow⟩ := hcut
  have S := ((HS.out.step hb).add (.box b7 #[.int .i64 6, .slice ao3 (cs1 ++ cs2).length cap3] 40) hbox).add (.rowE intsE (fun _ => True) ao3 (cs1 ++ cs2)) hrow
  have HG3 := Lib.hid (show ∀ c ∈ cs1 ++ cs2, GoodC 6 c from fun c hc => (List.mem_append.1 hc).elim (HG1.out c) (HG2.out c))
  obtain ⟨cs3, hcs3⟩ : ∃ c, c = cs1 ++ cs2 := ⟨_, rfl⟩
  rw [← hcs3] at S HLL HG3
  have HTB := Lib.hid (show andT (tabC cs1) (tabC cs2) = tabC cs3 by rw [hcs3]; exact both_tab 6 cs1 cs2)
  have HTN := Lib.hid (show notT (notT (tabC cs1)) = tabC cs1 from notT_notT (tabC_bits cs1))
  clear hb hbox hrow HS HR1 HR2 FC hcs3
  obtain ⟨n3, hn3⟩ : ∃ n, n = cs3.length := ⟨_, rfl⟩
  rw [← hn3] at S HLL
  have hl3 : n3 ≤ 16 := by have := HLL.out; omega
  have HN3 := Lib.hid hn3
  clear hn3
  obtain ⟨d4, hd4⟩ : ∃ d, d = builtD 6 (tabC cs1) := ⟨_, rfl⟩
  obtain ⟨d5, hd5⟩ : ∃ d, d = builtD 6 (tabC cs2) := ⟨_, rfl⟩
  obtain ⟨d6, hd6⟩ : ∃ d, d = builtD 6 (tabC cs3) := ⟨_, rfl⟩
  obtain ⟨d8, hd8⟩ : ∃ d, d = builtD 6 (notT (tabC cs1)) := ⟨_, rfl⟩
  obtain ⟨d10, hd10⟩ : ∃ d, d = builtD 6 (tabC [[1]]) := ⟨_, rfl⟩
  have OK4 := Lib.hid (show DiaOk 6 (tabC cs1) d4 by rw [hd4]; exact builtD_ok 6 _ (by rw [tabC_length]) (tabC_bits _))
  have OK5 := Lib.hid (show DiaOk 6 (tabC cs2) d5 by rw [hd5]; exact builtD_ok 6 _ (by rw [tabC_length]) (tabC_bits _))
  have OK6 := Lib.hid (show DiaOk 6 (tabC cs3) d6 by rw [hd6]; exact builtD_ok 6 _ (by rw [tabC_length]) (tabC_bits _))
  have OK8 := Lib.hid (show DiaOk 6 (notT (tabC cs1)) d8 by rw [hd8]; exact builtD_ok 6 _ (by rw [notT_length, tabC_length]) (notT_bits (tabC_bits _)))
  have HONE := Lib.hid (show d10.1.length = 1 by rw [hd10]; exact one_lenC)
  have C4 := Lib.hid (fun (W : World) (q : Nat → Prop) ko kc hr => show Calls Try.prog 10 #[.agg #[.int .i64 6, .slice ko cs1.length kc]] W (DiaPo d4 W) by rw [hd4]; exact of10 cs1 HG1.out (by have := HN1.out; omega) q ko kc W hr)
  have C5 := Lib.hid (fun (W : World) (q : Nat → Prop) ko kc hr => show Calls Try.prog 10 #[.agg #[.int .i64 6, .slice ko cs2.length kc]] W (DiaPo d5 W) by rw [hd5]; exact of10 cs2 HG2.out (by have := HN2.out; omega) q ko kc W hr)
  have C6 := Lib.hid (fun (W : World) (q : Nat → Prop) ko kc hr => show Calls Try.prog 10 #[.agg #[.int .i64 6, .slice ko cs3.length kc]] W (DiaPo d6 W) by rw [hd6]; exact of10 cs3 HG3.out (by have := HN3.out; omega) q ko kc W hr)
  have C7 := Lib.hid (fun (W : World) (p q : Nat → Prop) co fo cp fp hr hrf => show Calls Try.prog 11 #[.int .i64 6, .int .i64 8, .agg #[.slice co d4.1.length cp, .int .i64 d4.2], .agg #[.slice fo d5.1.length fp, .int .i64 d5.2]] W (DiaPo d6 W) by rw [hd6, ← HTB.out]; exact both11 (tabC cs1) (tabC cs2) (tabC_length _) (tabC_bits _) (tabC_length _) (tabC_bits _) d4 d5 OK4.out OK5.out p q co fo cp fp W hr hrf)
  have C8 := Lib.hid (fun (W : World) (q : Nat → Prop) co cp hr => show Calls Try.prog 12 #[.int .i64 6, .agg #[.slice co d4.1.length cp, .int .i64 d4.2]] W (DiaPo d8 W) by rw [hd8]; exact not12 (tabC cs1) (tabC_length _) (tabC_bits _) d4 OK4.out q co cp W hr)
  have C9 := Lib.hid (fun (W : World) (q : Nat → Prop) co cp hr => show Calls Try.prog 12 #[.int .i64 6, .agg #[.slice co d8.1.length cp, .int .i64 d8.2]] W (DiaPo d4 W) by
    have h := not12 (notT (tabC cs1)) (by rw [notT_length]; exact tabC_length _) (notT_bits (tabC_bits _)) d8 OK8.out q co cp W hr
    rw [HTN.out, ← hd4] at h
    exact h)
  have C10 := Lib.hid (fun (W : World) (q : Nat → Prop) ko kc hr => show Calls Try.prog 10 #[.agg #[.int .i64 6, .slice ko 1 kc]] W (DiaPo d10 W) by rw [hd10]; exact of10 [[1]] (by intro c hc; rw [List.mem_singleton.1 hc]; exact ⟨by simp, by simp, by simp⟩) (by simp) q ko kc W hr)
  rw [← HN1.out] at C4; rw [← HN2.out] at C5; rw [← HN3.out] at C6
  have L4 := Lib.hid (show d4.1.length ≤ 63 by have := OK4.out.len; simp at this; omega)
  have L6 := Lib.hid (show d6.1.length ≤ 63 by have := OK6.out.len; simp at this; omega)
  clear hd4 hd5 hd6 hd8 hd10
  go_upto_region 4 with fail

  have S : St w wc [.rowE intsE (fun _ => True) lo1 cs1, .box b5 #[.int .i64 6, .slice lo1 n1 (n1 + sp1)] 40, .rowE intsE (fun _ => True) lo2 cs2, .box b6 #[.int .i64 6, .slice lo2 n2 (n2 + sp2)] 40, .box b7 #[.int .i64 6, .slice ao3 n3 cap3] 40, .rowE intsE (fun _ => True) ao3 cs3] := S
  obtain ⟨⟨yb5a, _⟩, yb5b, _⟩ := S.two 1
  have HS := Lib.hid S
  clear S
  go_wp2_with fail
  refine (C4.out _ _ _ _ (HS.out.rowE intsE 0)).mono ?_
  rintro e v4 ⟨co4, sp4, rfl, hrow, hb⟩
  obtain ⟨B4, hB4⟩ : ∃ b, b = v4.heap.size := ⟨_, rfl⟩
  have S1 : St w _ [.rowE intsE (fun _ => True) lo2 cs2, .box b6 #[.int .i64 6, .slice lo2 n2 (n2 + sp2)] 40, .box b7 #[.int .i64 6, .slice ao3 n3 cap3] 40, .rowE intsE (fun _ => True) ao3 cs3, .rowE chE (fun _ => True) co4 d4.1, .box B4 #[.slice co4 d4.1.length (d4.1.length + sp4), .int .i64 d4.2] 44, .box (B4 + 1) #[.int .i64 0, .int .i64 0] 31] := ((((HS.out.step hb).add (.rowE chE (fun _ => True) co4 d4.1) (hrow.mono (fun _ _ _ => trivial))).box hB4.symm #[.slice co4 d4.1.length (d4.1.length + sp4), .int .i64 d4.2] 44).box (b := B4 + 1) (by simp [hB4]) #[.int .i64 0, .int .i64 0] 31).pick [2, 3, 4, 5, 6, 7, 8]
  clear HS hrow hb yb5a yb5b
  go_upto_region 5 with fail
  rw [← hB4]
  refine S1.genC (z := 0) (by omega) ?_
  clear S1 hB4
  intro W4 _ S
  obtain ⟨⟨yb6a, _⟩, yb6b, _⟩ := S.two 1
  have HS := Lib.hid S
  clear S
  go_wp2_with fail
  refine (C5.out _ _ _ _ (HS.out.rowE intsE 0)).mono ?_
  rintro e v5 ⟨co5, sp5, rfl, hrow, hb⟩
  obtain ⟨B5, hB5⟩ : ∃ b, b = v5.heap.size := ⟨_, rfl⟩
  have S1 : St w _ [.box b7 #[.int .i64 6, .slice ao3 n3 cap3] 40, .rowE intsE (fun _ => True) ao3 cs3, .rowE chE (fun _ => True) co4 d4.1, .box B4 #[.slice co4 d4.1.length (d4.1.length + sp4), .int .i64 d4.2] 44, .box (B4 + 1) #[.int .i64 0, .int .i64 0] 31, .rowE chE (fun _ => True) co5 d5.1, .box B5 #[.slice co5 d5.1.length (d5.1.length + sp5), .int .i64 d5.2] 44, .box (B5 + 1) #[.int .i64 0, .int .i64 0] 31] := ((((HS.out.step hb).add (.rowE chE (fun _ => True) co5 d5.1) (hrow.mono (fun _ _ _ => trivial))).box hB5.symm #[.slice co5 d5.1.length (d5.1.length + sp5), .int .i64 d5.2] 44).box (b := B5 + 1) (by simp [hB5]) #[.int .i64 0, .int .i64 0] 31).pick [2, 3, 4, 5, 6, 7, 8, 9]
  clear HS hrow hb yb6a yb6b
  go_upto_region 6 with fail
  rw [← hB5]
  refine S1.genC (z := 0) (by omega) ?_
  clear S1 hB5
  intro W5 _ S
  obtain ⟨⟨yb7a, _⟩, yb7b, _⟩ := S.two 0
  have HS := Lib.hid S
  clear S
  go_wp2_with fail
  refine (C6.out _ _ _ _ (HS.out.rowE intsE 1)).mono ?_
  rintro e v6 ⟨co6, sp6, rfl, hrow, hb⟩
  obtain ⟨B6, hB6⟩ : ∃ b, b = v6.heap.size := ⟨_, rfl⟩
  have S1 : St w _ [.rowE chE (fun _ => True) co4 d4.1, .box B4 #[.slice co4 d4.1.length (d4.1.length + sp4), .int .i64 d4.2] 44, .box (B4 + 1) #[.int .i64 0, .int .i64 0] 31, .rowE chE (fun _ => True) co5 d5.1, .box B5 #[.slice co5 d5.1.length (d5.1.length + sp5), .int .i64 d5.2] 44, .box (B5 + 1) #[.int .i64 0, .int .i64 0] 31, .rowE chE (fun _ => True) co6 d6.1, .box B6 #[.slice co6 d6.1.length (d6.1.length + sp6), .int .i64 d6.2] 44, .box (B6 + 1) #[.int .i64 0, .int .i64 0] 31] := ((((HS.out.step hb).add (.rowE chE (fun _ => True) co6 d6.1) (hrow.mono (fun _ _ _ => trivial))).box hB6.symm #[.slice co6 d6.1.length (d6.1.length + sp6), .int .i64 d6.2] 44).box (b := B6 + 1) (by simp [hB6]) #[.int .i64 0, .int .i64 0] 31).pick [2, 3, 4, 5, 6, 7, 8, 9, 10]
  clear HS hrow hb yb7a yb7b
  go_upto_region 7 with fail
  rw [← hB6]
  refine S1.genC (z := 0) (by omega) ?_
  clear S1 hB6
  intro W6 _ S
  obtain ⟨⟨yd4a, _⟩, yd4b, _⟩ := S.two 1
  obtain ⟨⟨yd5a, _⟩, yd5b, _⟩ := S.two 4
  have HS := Lib.hid S
  clear S
  go_wp2_with fail
  refine (C7.out _ _ _ _ _ _ _ (HS.out.rowE chE 0) (HS.out.rowE chE 3)).mono ?_
  rintro e v7 ⟨co7, sp7, rfl, hrow, hb⟩
  obtain ⟨B7, hB7⟩ : ∃ b, b = v7.heap.size := ⟨_, rfl⟩
  have S1 : St w _ [.rowE chE (fun _ => True) co4 d4.1, .box B4 #[.slice co4 d4.1.length (d4.1.length + sp4), .int .i64 d4.2] 44, .box (B4 + 1) #[.int .i64 0, .int .i64 0] 31, .box (B5 + 1) #[.int .i64 0, .int .i64 0] 31, .rowE chE (fun _ => True) co6 d6.1, .box B6 #[.slice co6 d6.1.length (d6.1.length + sp6), .int .i64 d6.2] 44, .box (B6 + 1) #[.int .i64 0, .int .i64 0] 31, .rowE chE (fun _ => True) co7 d6.1, .box B7 #[.slice co7 d6.1.length (d6.1.length + sp7), .int .i64 d6.2] 44, .box (B7 + 1) #[.int .i64 0, .int .i64 0] 31] := ((((HS.out.step hb).add (.rowE chE (fun _ => True) co7 d6.1) (hrow.mono (fun _ _ _ => trivial))).box hB7.symm #[.slice co7 d6.1.length (d6.1.length + sp7), .int .i64 d6.2] 44).box (b := B7 + 1) (by simp [hB7]) #[.int .i64 0, .int .i64 0] 31).pick [0, 1, 2, 5, 6, 7, 8, 9, 10, 11]
  clear HS hrow hb yd4a yd4b yd5a yd5b
  go_upto_region 8 with fail
  rw [← hB7]
  refine S1.genC (z := 0) (by omega) ?_
  clear S1 hB7
  intro W7 _ S
  obtain ⟨⟨yd4a, _⟩, yd4b, _⟩ := S.two 1
  have HS := Lib.hid S
  clear S
  go_wp2_with fail
  refine (C8.out _ _ _ _ (HS.out.rowE chE 0)).mono ?_
  rintro e v8 ⟨co8, sp8, rfl, hrow, hb⟩
  obtain ⟨B8, hB8⟩ : ∃ b, b = v8.heap.size := ⟨_, rfl⟩
  have S1 : St w _ [.rowE chE (fun _ => True) co4 d4.1, .box B4 #[.slice co4 d4.1.length (d4.1.length + sp4), .int .i64 d4.2] 44, .box (B4 + 1) #[.int .i64 0, .int .i64 0] 31, .box (B5 + 1) #[.int .i64 0, .int .i64 0] 31, .rowE chE (fun _ => True) co6 d6.1, .box B6 #[.slice co6 d6.1.length (d6.1.length + sp6), .int .i64 d6.2] 44, .box (B6 + 1) #[.int .i64 0, .int .i64 0] 31, .rowE chE (fun _ => True) co7 d6.1, .box B7 #[.slice co7 d6.1.length (d6.1.length + sp7), .int .i64 d6.2] 44, .box (B7 + 1) #[.int .i64 0, .int .i64 0] 31, .rowE chE (fun _ => True) co8 d8.1, .box B8 #[.slice co8 d8.1.length (d8.1.length + sp8), .int .i64 d8.2] 44, .box (B8 + 1) #[.int .i64 0, .int .i64 0] 31] := ((((HS.out.step hb).add (.rowE chE (fun _ => True) co8 d8.1) (hrow.mono (fun _ _ _ => trivial))).box hB8.symm #[.slice co8 d8.1.length (d8.1.length + sp8), .int .i64 d8.2] 44).box (b := B8 + 1) (by simp [hB8]) #[.int .i64 0, .int .i64 0] 31).pick [0, 1, 2, 3, 4, 5, 6, 7, 8, 9, 10, 11, 12]
  clear HS hrow hb yd4a yd4b
  go_upto_region 9 with fail
  rw [← hB8]
  refine S1.genC (z := 0) (by omega) ?_
  clear S1 hB8
  intro W8 _ S
  obtain ⟨⟨yd8a, _⟩, yd8b, _⟩ := S.two 11
  have HS := Lib.hid S
  clear S
  go_wp2_with fail
  refine (C9.out _ _ _ _ (HS.out.rowE chE 10)).mono ?_
  rintro e v9 ⟨co9, sp9, rfl, hrow, hb⟩
  obtain ⟨B9, hB9⟩ : ∃ b, b = v9.heap.size := ⟨_, rfl⟩
  have S1 : St w _ [.rowE chE (fun _ => True) co4 d4.1, .box B4 #[.slice co4 d4.1.length (d4.1.length + sp4), .int .i64 d4.2] 44, .box (B4 + 1) #[.int .i64 0, .int .i64 0] 31, .box (B5 + 1) #[.int .i64 0, .int .i64 0] 31, .rowE chE (fun _ => True) co6 d6.1, .box B6 #[.slice co6 d6.1.length (d6.1.length + sp6), .int .i64 d6.2] 44, .box (B6 + 1) #[.int .i64 0, .int .i64 0] 31, .rowE chE (fun _ => True) co7 d6.1, .box B7 #[.slice co7 d6.1.length (d6.1.length + sp7), .int .i64 d6.2] 44, .box (B7 + 1) #[.int .i64 0, .int .i64 0] 31, .box (B8 + 1) #[.int .i64 0, .int .i64 0] 31, .rowE chE (fun _ => True) co9 d4.1, .box B9 #[.slice co9 d4.1.length (d4.1.length + sp9), .int .i64 d4.2] 44, .box (B9 + 1) #[.int .i64 0, .int .i64 0] 31] := ((((HS.out.step hb).add (.rowE chE (fun _ => True) co9 d4.1) (hrow.mono (fun _ _ _ => trivial))).box hB9.symm #[.slice co9 d4.1.length (d4.1.length + sp9), .int .i64 d4.2] 44).box (b := B9 + 1) (by simp [hB9]) #[.int .i64 0, .int .i64 0] 31).pick [0, 1, 2, 3, 4, 5, 6, 7, 8, 9, 12, 13, 14, 15]
  clear HS hrow hb yd8a yd8b
  go_upto_region 10 with fail
  rw [← hB9]
  refine S1.genC (z := 0) (by omega) ?_
  clear S1 hB9
  intro W9 _ S
  obtain ⟨bq, hbq⟩ : ∃ b, b = W9.heap.size := ⟨_, rfl⟩
  have S2 : St w _ [.rowE chE (fun _ => True) co4 d4.1, .box B4 #[.slice co4 d4.1.length (d4.1.length + sp4), .int .i64 d4.2] 44, .box (B4 + 1) #[.int .i64 0, .int .i64 0] 31, .box (B5 + 1) #[.int .i64 0, .int .i64 0] 31, .rowE chE (fun _ => True) co6 d6.1, .box B6 #[.slice co6 d6.1.length (d6.1.length + sp6), .int .i64 d6.2] 44, .box (B6 + 1) #[.int .i64 0, .int .i64 0] 31, .rowE chE (fun _ => True) co7 d6.1, .box B7 #[.slice co7 d6.1.length (d6.1.length + sp7), .int .i64 d6.2] 44, .box (B7 + 1) #[.int .i64 0, .int .i64 0] 31, .box (B8 + 1) #[.int .i64 0, .int .i64 0] 31, .rowE chE (fun _ => True) co9 d4.1, .box B9 #[.slice co9 d4.1.length (d4.1.length + sp9), .int .i64 d4.2] 44, .box (B9 + 1) #[.int .i64 0, .int .i64 0] 31, .box bq #[.int .i64 1] 3, .box (bq + 1) #[.slice (some ⟨bq, 0, none⟩) 1 1] 22] := (S.box hbq.symm #[.int .i64 1] 3).box (b := bq + 1) (by simp [hbq]) #[.slice (some ⟨bq, 0, none⟩) 1 1] 22
  clear S
  go_wp2_with fail
  rw [← hbq]
  refine S2.gen (z := 0) (by omega) ?_
  clear S2 hbq
  intro w10 _ S
  have HRO : Hid (intsE.Row (fun _ => True) w10 (some ⟨bq + 1, 0, none⟩) [[1]]) := Lib.hid (by
    intro i x hi
    match i, hi with
    | 0, hi =>
      simp at hi; subst hi
      refine ⟨bq + 1, 0, [.slice (some ⟨bq, 0, none⟩) 1 1], rfl, trivial, fun j u hu => ?_, some ⟨bq, 0, none⟩, 0, rfl, fun i x hi => ?_, by unfold maxLen; simp⟩
      · match j, hu with
        | 0, hu => simp at hu; subst hu; exact (S.one 15).1
        | j + 1, hu => simp at hu
      · match i, hi with
        | 0, hi =>
          simp at hi; subst hi
          refine ⟨bq, 0, [.int .i64 1], rfl, trivial, fun j u hu => ?_, rfl⟩
          match j, hu with
          | 0, hu => simp at hu; subst hu; exact (S.one 14).1
          | j + 1, hu => simp at hu
        | i + 1, hi => simp at hi
    | i + 1, hi => simp at hi)
  have HS := Lib.hid S
  clear S
  refine (C10.out _ _ _ _ HRO.out).mono ?_
  rintro e v10 ⟨co10, sp10, rfl, hrow, hb⟩
  obtain ⟨B10, hB10⟩ : ∃ b, b = v10.heap.size := ⟨_, rfl⟩
  have S1 : St w _ [.rowE chE (fun _ => True) co4 d4.1, .box B4 #[.slice co4 d4.1.length (d4.1.length + sp4), .int .i64 d4.2] 44, .box (B4 + 1) #[.int .i64 0, .int .i64 0] 31, .box (B5 + 1) #[.int .i64 0, .int .i64 0] 31, .rowE chE (fun _ => True) co6 d6.1, .box B6 #[.slice co6 d6.1.length (d6.1.length + sp6), .int .i64 d6.2] 44, .box (B6 + 1) #[.int .i64 0, .int .i64 0] 31, .rowE chE (fun _ => True) co7 d6.1, .box B7 #[.slice co7 d6.1.length (d6.1.length + sp7), .int .i64 d6.2] 44, .box (B7 + 1) #[.int .i64 0, .int .i64 0] 31, .box (B8 + 1) #[.int .i64 0, .int .i64 0] 31, .rowE chE (fun _ => True) co9 d4.1, .box B9 #[.slice co9 d4.1.length (d4.1.length + sp9), .int .i64 d4.2] 44, .box (B9 + 1) #[.int .i64 0, .int .i64 0] 31, .box B10 #[.slice co10 d10.1.length (d10.1.length + sp10), .int .i64 d10.2] 44, .box (B10 + 1) #[.int .i64 0, .int .i64 0] 31] := (((HS.out.step hb).box hB10.symm #[.slice co10 d10.1.length (d10.1.length + sp10), .int .i64 d10.2] 44).box (b := B10 + 1) (by simp [hB10]) #[.int .i64 0, .int .i64 0] 31).pick [0, 1, 2, 3, 4, 5, 6, 7, 8, 9, 10, 11, 12, 13, 16, 17]
  clear HS hrow hb
  go_upto_region 11 with fail
  rw [← hB10]
  refine S1.genC (z := 0) (by omega) ?_
  clear S1 hB10
  intro W10 _ S
  have hone := HONE.out

  obtain ⟨⟨yf4a, _⟩, _⟩ := S.two 2
  obtain ⟨⟨yf5a, _⟩, _⟩ := S.two 3
  obtain ⟨⟨yf6a, _⟩, _⟩ := S.two 6
  obtain ⟨⟨yf7a, _⟩, _⟩ := S.two 9
  obtain ⟨⟨yf8a, _⟩, _⟩ := S.two 10
  obtain ⟨⟨yf9a, _⟩, _⟩ := S.two 13
  obtain ⟨⟨yf10a, _⟩, _⟩ := S.two 15
  obtain ⟨⟨yd4a, _⟩, yd4b, _⟩ := S.two 1
  obtain ⟨⟨yd6a, _⟩, yd6b, _⟩ := S.two 5
  obtain ⟨⟨yd7a, _⟩, yd7b, _⟩ := S.two 8
  obtain ⟨⟨yd9a, _⟩, yd9b, _⟩ := S.two 12
  obtain ⟨⟨yd10a, _⟩, yd10b, _⟩ := S.two 14
  rw [hone] at yd10a
  have HS := Lib.hid S
  clear S hone
  go_wp2_with fail
  refine (HS.out.quiet (same13 d6 _ _ co6 co7 _ _ W10 (by have := L6.out; omega) (HS.out.rowE chE 4) (HS.out.rowE chE 7))).mono ?_
  rintro e v11 ⟨rfl, _, S⟩
  have HS2 := Lib.hid S
  clear yf4a yf5a yf6a yf7a yf8a yf9a yf10a yd4a yd4b yd6a yd6b yd7a yd7b yd9a yd9b yd10a yd10b
  obtain ⟨⟨yd4a, _⟩, yd4b, _⟩ := S.two 1
  obtain ⟨⟨yd9a, _⟩, yd9b, _⟩ := S.two 12
  clear S
  go_wp2_with fail
  refine (HS2.out.quiet (same13 d4 _ _ co9 co4 _ _ v11 (by have := L4.out; omega) (HS2.out.rowE chE 11) (HS2.out.rowE chE 0))).mono ?_
  rintro e v12 ⟨rfl, _, S⟩
  have SB := Lib.hid S.bel
  clear S
  go_wp2_with fail
  go_ret
  exact ⟨rfl, SB.out⟩
end Go.Proofs.Ytacaakcpkgipfaa
