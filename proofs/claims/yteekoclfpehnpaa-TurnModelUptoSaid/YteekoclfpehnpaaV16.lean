/-
  The law TableFewer: for any lore, table and number it answers true.
-/
import Derived.Test.YteekoclfpehnpaaProg
import Derived.Test.YteekoclfpehnpaaV14
import Derived.Test.YteekoclfpehnpaaV15
import Derived.Test.YteekoclfpehnpaaG1
import Derived.Test.YteekoclfpehnpaaR6
import Derived.RegionTactic
import Derived.Lib.QuietBelow
import Derived.BigQuiet
namespace Go.Proofs.Yteekoclfpehnpaa
open Go.RowKit Go.Shelf
set_option linter.unusedVariables false
set_option maxHeartbeats 400000

theorem St.held {P : Program} {n : Nat} {a : Array Value} {w0 w : World} {l : List Fct} (S : St w0 w l) {r : List Bool × (Int × Int)} (h : Calls P n a w (HoldsP r w)) :
    Calls P n a w fun e w' => ∃ ro sp B c d, e = .returned (.tuple #[.slice ro B.length (B.length + sp), .agg #[.int .i64 c, .int .i64 d]]) ∧ Hid (r = (B, (c, d))) ∧ w.heap.size ≤ w'.heap.size ∧ St w0 w' (fsnoc l (.rowE boolE (fun b => w.heap.size ≤ b ∧ b < w'.heap.size) ro B)) :=
  h.mono fun e w' ⟨ro, sp, h1, h2, h3⟩ => ⟨ro, sp, r.1, r.2.1, r.2.2, h1, rfl, h3.size, (S.step h3).add (.rowE boolE _ ro r.1) (h2.mono (fun b hb hl => ⟨hb, hl⟩))⟩
theorem Elt.Row.shift {α : Type} {E : Elt α} {p : Nat → Prop} {w : World} {b off k : Nat} {xs ys : List α} (h : E.Row p w (some ⟨b, off, none⟩) xs) (hy : ∀ (i : Nat) y, ys[i]? = some y → xs[k + i]? = some y) : E.Row p w (some ⟨b, off + k * E.n, none⟩) ys := fun i y hi => by
  obtain ⟨b', off', cs, e, hp, hc, he⟩ := h (k + i) y (hy i y hi)
  simp only [Option.some.injEq, Addr.mk.injEq, and_true] at e
  obtain ⟨rfl, rfl⟩ := e
  exact ⟨b, _, cs, rfl, hp, fun j u hu => by rw [← hc j u hu]; congr 2; rw [Nat.add_mul]; omega, he⟩
theorem Elt.Row.pre {α : Type} {E : Elt α} {p : Nat → Prop} {w : World} {ao : Option Addr} {xs ys : List α} (h : E.Row p w ao xs) (hy : ∀ (i : Nat) y, ys[i]? = some y → xs[i]? = some y) : E.Row p w ao ys := fun i y hi => h i y (hy i y hi)

set_option maxRecDepth 100000 in
set_option maxHeartbeats 8000000 in
theorem tableFewer5 (ar : List Int) (cs : List (List Fc)) (sz : Int) (tb : List (List Int)) (k : Int) (p q r : Nat → Prop) (ao co to_ : Option Addr) (ca cp ct : Nat) (w : World) (ha : intE.Row q w ao ar) (h : claimE.Row p w co cs) (ht : intsE.Row r w to_ tb) (hna : ar.length ≤ maxLen) (hn : cs.length ≤ maxLen) (hnt : tb.length ≤ maxLen) :
    Calls Try.prog 5 #[.agg #[.slice ao ar.length ca, .slice co cs.length (cs.length + cp)], .agg #[.int .i64 sz, .slice to_ tb.length (tb.length + ct)], .int .i64 k] w fun e w' => e = .returned (.bool true) ∧ Below w.heap.size w w' := by
  have HC := Lib.hid h; have HA := Lib.hid ha; have HNA := Lib.hid hna; have HNC := Lib.hid hn; have HT := Lib.hid ht; have HNT := Lib.hid hnt
  have hn63 : cs.length ≤ 9223372036854775807 := by unfold maxLen at hn; omega
  obtain ⟨bx, hbx⟩ : ∃ b, b = w.heap.size := ⟨_, rfl⟩
  have S1 := ((St.start w).box hbx.symm #[.slice ao ar.length ca, .slice co cs.length (cs.length + cp)] 29).box (b := bx + 1) (by simp [hbx]) #[.int .i64 sz, .slice to_ tb.length (tb.length + ct)] 41
  have hsz1 : ((w.alloc (.cells #[.slice ao ar.length ca, .slice co cs.length (cs.length + cp)] 29)).alloc (.cells #[.int .i64 sz, .slice to_ tb.length (tb.length + ct)] 41)).heap.size = bx + 2 := by simp [hbx]
  clear h ha hn hna ht hnt
  go_enter Try.func5, Try.ntmps5
  go_wp2_with fail
  rw [← hbx]
  refine S1.gen (z := bx + 2) (by omega) ?_
  intro w1 z1 S
  have HBX := Lib.hid hbx
  clear S1 hbx hsz1
  refine (S.quiet (tableFact33 w1)).mono ?_
  rintro e w2 ⟨rfl, z2, S2⟩
  clear S
  obtain ⟨⟨x0, _⟩, x1, _⟩ := S2.two 0
  obtain ⟨⟨y0, _⟩, y1, _⟩ := S2.two 1
  go_wp2_with fail
  refine (S2.held (holds25 ar cs sz tb p q r ao co to_ ca _ ct w2 (HA.out.kept S2.bel) (HC.out.kept S2.bel) (HT.out.kept S2.bel) HNA.out HNC.out HNT.out)).mono ?_
  rintro e w3 ⟨ro, rsp, B, C, D, rfl, HB, z3, S3⟩
  obtain ⟨b9, hb9⟩ : ∃ b, b = w3.heap.size := ⟨_, rfl⟩
  have S4 := S3.box hb9.symm #[.int .i64 C, .int .i64 D] 32
  have z4 : b9 + 1 ≤ (w3.alloc (.cells #[.int .i64 C, .int .i64 D] 32)).heap.size := by simp [hb9]
  have HB9 := Lib.hid (show bx + 2 ≤ b9 by omega)
  clear S2 S3 x0 x1 y0 y1
  by_cases hC : C = 0
  · have hcb : (C != 0) = false := by simp [hC]
    have hcb2 : (C == 0) = true := by simp [hC]
    have HOK := Lib.hid (holdsF_ok (show (holdsF ar cs sz tb).2.1 = 0 by rw [HB.out]; exact hC))
    obtain ⟨rfl, rfl, rfl⟩ : B = cs.map (trueF sz.toNat tb) ∧ C = 0 ∧ D = 0 := by
      have h := HB.out.symm.trans HOK.out.2.2
      simpa using h
    have HCO := Lib.hid (loreF_zero (tabF_zero HOK.out.1).2.1)
    have hc60 : cs.length ≤ 60 := HCO.out.2.2.1
    obtain ⟨⟨x0, _⟩, x1, _⟩ := S4.two 0
    clear hC hcb hcb2
    have hw1 : IntKind.i64.wrap ((cs.length : Int) - 1) = (cs.length : Int) - 1 := IntWalk.i64_in _ (by omega)
    go_wp2_with fail
    rw [← hb9]
    refine S4.gen (z := b9 + 1) z4 ?_
    intro w4 z5 S
    clear S4 z4 hb9 x0 x1
    refine (in28 k 0 ((cs.length : Int) - 1) w4).mono ?_
    rintro e w5 ⟨rfl, hw5⟩
    have hw5 := hw5.symm
    subst hw5
    cases hin : decide (0 ≤ k ∧ k ≤ (cs.length : Int) - 1) with
    | false =>
      obtain ⟨⟨x0, _⟩, x1, _⟩ := S.two 3
      have SE := Lib.hid S.bel
      clear S hin
      go_wp2_with fail
      go_ret
      exact ⟨rfl, SE.out⟩
    | true =>
      have hin := of_decide_eq_true hin
      obtain ⟨m, hm⟩ : ∃ m : Nat, k = (m : Int) := ⟨k.toNat, by omega⟩
      subst hm
      have hlt : m < cs.length := by omega
      have hlti : (m : Int) < (cs.length : Int) := by omega
      have hlen : (cs.map (trueF sz.toNat tb)).length = cs.length := by simp
      clear hin
      obtain ⟨b, off, kc, sc, rfl, hpb, c0', h1', h2'⟩ := HC.out.claim hlt
      have HF0 := Lib.hid h1'; have HNF := Lib.hid h2'
      clear h1' h2'
      obtain ⟨⟨x0, _⟩, x1, _⟩ := S.two 0
      obtain ⟨X, hX⟩ : ∃ X, X = trueF sz.toNat tb cs[m] := ⟨_, rfl⟩
      have HCM := Lib.hid (HCO.out.2.2.2.2 cs[m] (List.getElem_mem hlt))
      have HWM := Lib.hid (HOK.out.2.1 cs[m] (List.getElem_mem hlt))
      have HONE := Lib.hid (show holdsF ar [cs[m]] sz tb = ([X], (0, 0)) by rw [hX]; exact holdsF_one HOK.out.1 HCM.out HWM.out)
      have HRC := Lib.hid (show claimE.Row p w (some ⟨b, off + m, none⟩) [cs[m]] by
        have h := HC.out.shift (k := m) (ys := [cs[m]]) (fun i y hy => by
          rcases i with _ | i
          · simp at hy; subst hy; exact List.getElem?_eq_getElem hlt
          · simp at hy)
        have e : m * claimE.n = m := Nat.mul_one m
        rw [e] at h; exact h)
      have HX := Lib.hid hX
      have hw2 : IntKind.i64.wrap ((m : Int) + 1) = (m : Int) + 1 := IntWalk.i64_in _ (by omega)
      have hsl1 : (m : Int) + 1 ≤ (cs.length : Int) + (cp : Int) := by omega
      have hsl0 : (0 : Int) ≤ (m : Int) + 1 := by omega
      have hsl2 : ¬ cs.length + cp = m := by omega
      clear hX
      go_wp2_with fail
      clear x0 x1
      have S := S.drew
      refine wpG_region 15 (fun W => (W.cell? ⟨bx, 0, none⟩ = some (.slice ao ar.length ca) ∧ W.cell? ⟨bx, 1, none⟩ = some (.slice (some ⟨b, off, none⟩) cs.length (cs.length + cp))) ∧ (W.cell? ⟨bx + 1, 0, none⟩ = some (.int .i64 sz) ∧ W.cell? ⟨bx + 1, 1, none⟩ = some (.slice to_ tb.length (tb.length + ct)))) (by kernel_rfl) ?_
      have HS := And.intro (And.intro (S.two 0).1.1 (S.two 0).2.1) (And.intro (S.two 1).1.1 (S.two 1).2.1)
      refine wpG.take (i := 0) (by kernel_rfl) (by kernel_rfl) (by kernel_rfl) (by kernel_rfl) (by kernel_rfl) HS ?_
      intro oi ho
      simp only [List.getElem?_toArray, List.getElem?_cons_zero, Option.some.injEq] at ho
      subst ho
      refine ⟨?_, Or.inl ⟨by rfl, ?_⟩, fun _ _ _ h => h, ?_⟩
      rotate_left 1
      · intro W hW
        try dsimp only at hW
        go_simp
        try with_reducible rfl
      simp only [Act.put, List.setIfInBounds_toArray, List.set_cons_zero, List.set_cons_succ]
      refine wpG.take (i := 1) (by kernel_rfl) (by kernel_rfl) (by kernel_rfl) (by kernel_rfl) (by kernel_rfl) HS ?_
      intro oi ho
      simp only [List.getElem?_toArray, List.getElem?_cons_succ, List.getElem?_cons_zero, Option.some.injEq] at ho
      subst ho
      refine ⟨?_, Or.inl ⟨by rfl, ?_⟩, fun _ _ _ h => h, ?_⟩
      rotate_left 1
      · intro W hW
        try dsimp only at hW
        go_simp
        try with_reducible rfl
      simp only [Act.put, List.setIfInBounds_toArray, List.set_cons_zero, List.set_cons_succ]
      refine wpG.take (i := 2) (by kernel_rfl) (by kernel_rfl) (by kernel_rfl) (by kernel_rfl) (by kernel_rfl) HS ?_
      intro oi ho
      simp only [List.getElem?_toArray, List.getElem?_cons_succ, List.getElem?_cons_zero, Option.some.injEq] at ho
      subst ho
      refine ⟨?_, Or.inl ⟨by rfl, ?_⟩, fun _ _ _ h => h, ?_⟩
      rotate_left 1
      · intro W hW
        try dsimp only at hW
        go_simp
        try with_reducible rfl
      simp only [Act.put, List.setIfInBounds_toArray, List.set_cons_zero, List.set_cons_succ]
      refine wpG.take (i := 3) (by kernel_rfl) (by kernel_rfl) (by kernel_rfl) (by kernel_rfl) (by kernel_rfl) HS ?_
      intro oi ho
      simp only [List.getElem?_toArray, List.getElem?_cons_succ, List.getElem?_cons_zero, Option.some.injEq] at ho
      subst ho
      refine ⟨?_, Or.inl ⟨by rfl, ?_⟩, fun _ _ _ h => h, ?_⟩
      rotate_left 1
      · intro W hW
        try dsimp only at hW
        go_simp
        try with_reducible rfl
      simp only [Act.put, List.setIfInBounds_toArray, List.set_cons_zero, List.set_cons_succ]
      refine wpG.take (i := 4) (by kernel_rfl) (by kernel_rfl) (by kernel_rfl) (by kernel_rfl) (by kernel_rfl) HS ?_
      intro oi ho
      simp only [List.getElem?_toArray, List.getElem?_cons_succ, List.getElem?_cons_zero, Option.some.injEq] at ho
      subst ho
      refine ⟨?_, Or.inl ⟨by rfl, ?_⟩, fun _ _ _ h => h, ?_⟩
      rotate_left 1
      · intro W hW
        try dsimp only at hW
        go_simp
        try with_reducible rfl
      simp only [Act.put, List.setIfInBounds_toArray, List.set_cons_zero, List.set_cons_succ]
      refine wpG.take (i := 5) (by kernel_rfl) (by kernel_rfl) (by kernel_rfl) (by kernel_rfl) (by kernel_rfl) HS ?_
      intro oi ho
      simp only [List.getElem?_toArray, List.getElem?_cons_succ, List.getElem?_cons_zero, Option.some.injEq] at ho
      subst ho
      refine ⟨?_, Or.inl ⟨by rfl, ?_⟩, fun _ _ _ h => h, ?_⟩
      rotate_left 1
      · intro W hW
        try dsimp only at hW
        go_simp
        try with_reducible rfl
      simp only [Act.put, List.setIfInBounds_toArray, List.set_cons_zero, List.set_cons_succ]
      refine wpG.take (i := 6) (by kernel_rfl) (by kernel_rfl) (by kernel_rfl) (by kernel_rfl) (by kernel_rfl) HS ?_
      intro oi ho
      simp only [List.getElem?_toArray, List.getElem?_cons_succ, List.getElem?_cons_zero, Option.some.injEq] at ho
      subst ho
      refine ⟨?_, Or.inl ⟨by rfl, ?_⟩, fun _ _ _ h => h, ?_⟩
      rotate_left 1
      · intro W hW
        try dsimp only at hW
        go_simp
        try with_reducible rfl
      simp only [Act.put, List.setIfInBounds_toArray, List.set_cons_zero, List.set_cons_succ]
      refine wpG.take (i := 7) (by kernel_rfl) (by kernel_rfl) (by kernel_rfl) (by kernel_rfl) (by kernel_rfl) HS ?_
      intro oi ho
      simp only [List.getElem?_toArray, List.getElem?_cons_succ, List.getElem?_cons_zero, Option.some.injEq] at ho
      subst ho
      refine ⟨?_, Or.inl ⟨by rfl, ?_⟩, fun _ _ _ h => h, ?_⟩
      rotate_left 1
      · intro W hW
        try dsimp only at hW
        go_simp
        try with_reducible rfl
      simp only [Act.put, List.setIfInBounds_toArray, List.set_cons_zero, List.set_cons_succ]
      refine wpG.take (i := 8) (by kernel_rfl) (by kernel_rfl) (by kernel_rfl) (by kernel_rfl) (by kernel_rfl) HS ?_
      intro oi ho
      simp only [List.getElem?_toArray, List.getElem?_cons_succ, List.getElem?_cons_zero, Option.some.injEq] at ho
      subst ho
      refine ⟨?_, Or.inl ⟨by rfl, ?_⟩, fun _ _ _ h => h, ?_⟩
      rotate_left 1
      · intro W hW
        try dsimp only at hW
        go_simp
        try with_reducible rfl
      simp only [Act.put, List.setIfInBounds_toArray, List.set_cons_zero, List.set_cons_succ]
      refine wpG.take (i := 9) (by kernel_rfl) (by kernel_rfl) (by kernel_rfl) (by kernel_rfl) (by kernel_rfl) HS ?_
      intro oi ho
      simp only [List.getElem?_toArray, List.getElem?_cons_succ, List.getElem?_cons_zero, Option.some.injEq] at ho
      subst ho
      refine ⟨?_, Or.inl ⟨by rfl, ?_⟩, fun _ _ _ h => h, ?_⟩
      rotate_left 1
      · intro W hW
        try dsimp only at hW
        go_simp
        try with_reducible rfl
      simp only [Act.put, List.setIfInBounds_toArray, List.set_cons_zero, List.set_cons_succ]
      refine wpG.one (i := 10) (by kernel_rfl) ?_
      intro oi ho
      simp only [List.getElem?_toArray, List.getElem?_cons_succ, List.getElem?_cons_zero, Option.some.injEq] at ho
      subst ho
      intro K hK
      have HK := Lib.hid hK
      have HSH := Lib.hid HS
      clear hK HS
      go_simp
      go_at_call 25
      refine (S.held (holds25 ar [cs[m]] sz tb p q r ao (some ⟨b, off + m, none⟩) to_ ca _ ct _ (HA.out.kept S.bel) (HRC.out.kept S.bel) (HT.out.kept S.bel) HNA.out (by unfold maxLen; simp) HNT.out)).mono ?_
      rintro e w6 ⟨ro2, rsp2, B2, C2, D2, rfl, HB2, z6, SA⟩
      obtain ⟨rfl, rfl, rfl⟩ : B2 = [X] ∧ C2 = 0 ∧ D2 = 0 := by have h := HB2.out.symm.trans HONE.out; simpa using h
      dsimp only
      refine HK.out _ _ (fun _ => And.intro (And.intro (SA.two 0).1.1 (SA.two 0).2.1) (And.intro (SA.two 1).1.1 (SA.two 1).2.1)) ?_
      have HS := And.intro (And.intro (SA.two 0).1.1 (SA.two 0).2.1) (And.intro (SA.two 1).1.1 (SA.two 1).2.1)
      try simp only [Act.put, List.setIfInBounds_toArray, List.set_cons_zero, List.set_cons_succ]
      refine wpG.take (i := 11) (by kernel_rfl) (by kernel_rfl) (by kernel_rfl) (by kernel_rfl) (by kernel_rfl) HS ?_
      intro oi ho
      simp only [List.getElem?_toArray, List.getElem?_cons_succ, List.getElem?_cons_zero, Option.some.injEq] at ho
      subst ho
      refine ⟨?_, Or.inl ⟨by rfl, ?_⟩, fun _ _ _ h => h, ?_⟩
      rotate_left 1
      · intro W hW
        try dsimp only at hW
        go_simp
        try with_reducible rfl
      simp only [Act.put, List.setIfInBounds_toArray, List.set_cons_zero, List.set_cons_succ]
      refine wpG.take (i := 12) (by kernel_rfl) (by kernel_rfl) (by kernel_rfl) (by kernel_rfl) (by kernel_rfl) HS ?_
      intro oi ho
      simp only [List.getElem?_toArray, List.getElem?_cons_succ, List.getElem?_cons_zero, Option.some.injEq] at ho
      subst ho
      refine ⟨?_, Or.inl ⟨by rfl, ?_⟩, fun _ _ _ h => h, ?_⟩
      rotate_left 1
      · intro W hW
        try dsimp only at hW
        go_simp
        try with_reducible rfl
      simp only [Act.put, List.setIfInBounds_toArray, List.set_cons_zero, List.set_cons_succ]
      refine wpG.take (i := 13) (by kernel_rfl) (by kernel_rfl) (by kernel_rfl) (by kernel_rfl) (by kernel_rfl) HS ?_
      intro oi ho
      simp only [List.getElem?_toArray, List.getElem?_cons_succ, List.getElem?_cons_zero, Option.some.injEq] at ho
      subst ho
      refine ⟨?_, Or.inl ⟨by rfl, ?_⟩, fun _ _ _ h => h, ?_⟩
      rotate_left 1
      · intro W hW
        try dsimp only at hW
        go_simp
        try with_reducible rfl
      simp only [Act.put, List.setIfInBounds_toArray, List.set_cons_zero, List.set_cons_succ]
      refine wpG.one (i := 14) (by kernel_rfl) ?_
      intro oi ho
      simp only [List.getElem?_toArray, List.getElem?_cons_succ, List.getElem?_cons_zero, Option.some.injEq] at ho
      subst ho
      intro K hK
      have HK := Lib.hid hK
      have HSH := Lib.hid HS
      clear hK HS
      go_simp
      refine HK.out _ _ (fun _ => HSH.out) ?_
      have HS := HSH.out
      try simp only [Act.put, List.setIfInBounds_toArray, List.set_cons_zero, List.set_cons_succ]
      refine wpG.one (i := 15) (by kernel_rfl) ?_
      intro oi ho
      simp only [List.getElem?_toArray, List.getElem?_cons_succ, List.getElem?_cons_zero, Option.some.injEq] at ho
      subst ho
      intro K hK
      have HK := Lib.hid hK
      have HSH := Lib.hid HS
      clear hK HS
      obtain ⟨⟨q0, q1⟩, q2, q3⟩ := SA.two 3
      have hlq := SA.lt 3
      go_simp
      refine HK.out _ _ (fun h => absurd rfl h) ?_
      try simp only [Act.put, List.setIfInBounds_toArray, List.set_cons_zero, List.set_cons_succ]
      refine wpG.done (by kernel_rfl) ?_
      rw [setCell_same (SA.block 3) rfl, setCell_same (SA.block 3) rfl]
      have hB := SA.rowE boolE 2
      obtain ⟨b3, off3, hro, _, hc3⟩ := hB.bool (i := m) (by rw [hlen]; exact hlt)
      rw [List.getElem_map, ← HX.out] at hc3
      subst hro
      obtain ⟨b2, off2, hro2, _, hc2⟩ := (SA.rowE boolE 4).bool (i := 0) (by simp)
      subst hro2
      have hc2 : w6.cell? ⟨b2, off2, none⟩ = some (.bool X) := hc2
      have SC := ((SA.pick [0, 1, 3]).add (.cellAt b3 (off3 + m) (.bool X)) hc3).add (.cellAt b2 off2 (.bool X)) hc2
      refine SC.genX (z := 0) (by omega) ?_
      intro w7 z7 S
      have hlen1 : (([X] : List Bool).length : Int) = 1 := rfl
      have hxx : (X != X) = false := by simp
      clear SA SC hB hc3 hc2 hsl0 hsl1 hsl2 hw2
      obtain ⟨⟨x0, _⟩, x1, _⟩ := S.two 2
      have c3 := S.cellAt 3
      have c2 := S.cellAt 4
      go_wp2_with fail
      have r0 := cell_regrown x0; have r1 := cell_regrown c3; have r2 := cell_regrown c2
      clear x0 x1 c3 c2
      refine wp_region_quiet_below (by kernel_rfl) (by kernel_rfl) ?_
      repeat (go_big_quiet_step (fail))
      refine wpQuiet_nil ?_
      intro _ hw'
      obtain ⟨⟨dq, osq⟩, hw''⟩ := hw'
      subst hw''
      refine (S.regrown dq osq).genX (z := 0) (by omega) ?_
      intro w8 z8 S8
      clear S r0 r1 r2
      obtain ⟨F, hF⟩ : ∃ F, F = cs[m] := ⟨_, rfl⟩
      have HFE := Lib.hid hF
      rw [← hF] at c0' HF0 HNF HCM HWM HX
      have hnf : F.length ≤ 6 := (codeF_zero.1 HCM.out).1
      have c0 := Below.cellOf S8.bel c0'
      obtain ⟨⟨x0, _⟩, x1, _⟩ := S8.two 0
      have c3 := S8.cellAt 3
      clear hF
      by_cases hz : F.length = 0
      · have hzb : ((F.length : Int) == 0) = true := by simp [hz]
        have hXf : X = false := by rw [HX.out, List.eq_nil_of_length_eq_zero hz]; exact trueF_nil
        subst hXf
        have SE := Lib.hid S8.bel
        clear S8
        go_wp2_with fail
        go_ret
        exact ⟨rfl, SE.out⟩
      · have hzb : ((F.length : Int) == 0) = false := by rw [beq_eq_false_iff_ne]; omega
        clear c3
        obtain ⟨fb, foff, _, _, _, _, hkc, _⟩ := HF0.out.fact (i := 0) (by omega)
        subst hkc
        obtain ⟨n1, hn1⟩ : ∃ n1, F.length = n1 + 1 := ⟨F.length - 1, by omega⟩
        have hw3 : IntKind.i64.wrap ((F.length : Int) - 1) = (n1 : Int) := by rw [IntWalk.i64_in _ (by omega)]; omega
        have hlt1 : (F.take n1).length = n1 := by simp; omega
        obtain ⟨Y, hY⟩ : ∃ Y, Y = trueF sz.toNat tb (F.take n1) := ⟨_, rfl⟩
        have hs1 : 1 ≤ sz.toNat := by
          obtain ⟨_, _, s', hs', ht'⟩ := tabF_zero HOK.out.1
          have := ht'.1; omega
        have HTWO := Lib.hid (show holdsF ar [F.take n1] sz tb = ([Y], (0, 0)) by rw [hY]; exact holdsF_one HOK.out.1 (codeF_take HCM.out) (wide_take hs1 HWM.out))
        have HXY := Lib.hid (show X = true ∨ Y = false by
          cases hX : X with
          | true => exact .inl rfl
          | false =>
            right
            cases hYv : Y with
            | false => rfl
            | true =>
              have h := trueF_more hs1 HWM.out (tb := tb) (m := n1) (by rw [← hY]; exact hYv)
              rw [← HX.out, hX] at h; cases h)
        have hsn1 : (n1 : Int) ≤ (F.length : Int) + (sc : Int) := by omega
        have hsn0 : (0 : Int) ≤ (n1 : Int) := by omega
        have HN1 := Lib.hid hn1; have HLT1 := Lib.hid hlt1
        clear hY hn1 hlt1
        go_wp2_with fail
        clear x0 x1
        have S := (S8.add (.cellAt b (off + m) (.slice (some ⟨fb, foff, none⟩) F.length (F.length + sc))) c0).drew
        refine wpG_region 20 (fun W => W.cell? ⟨b, off + m, none⟩ = some (.slice (some ⟨fb, foff, none⟩) F.length (F.length + sc)) ∧ (W.cell? ⟨bx, 0, none⟩ = some (.slice ao ar.length ca) ∧ W.cell? ⟨bx, 1, none⟩ = some (.slice (some ⟨b, off, none⟩) cs.length (cs.length + cp))) ∧ (W.cell? ⟨bx + 1, 0, none⟩ = some (.int .i64 sz) ∧ W.cell? ⟨bx + 1, 1, none⟩ = some (.slice to_ tb.length (tb.length + ct)))) (by kernel_rfl) ?_
        have HS := And.intro (S.cellAt 5) (And.intro (And.intro (S.two 0).1.1 (S.two 0).2.1) (And.intro (S.two 1).1.1 (S.two 1).2.1))
        refine wpG.take (i := 0) (by kernel_rfl) (by kernel_rfl) (by kernel_rfl) (by kernel_rfl) (by kernel_rfl) HS ?_
        intro oi ho
        simp only [List.getElem?_toArray, List.getElem?_cons_zero, Option.some.injEq] at ho
        subst ho
        refine ⟨?_, Or.inl ⟨by rfl, ?_⟩, fun _ _ _ h => h, ?_⟩
        rotate_left 1
        · intro W hW
          try dsimp only at hW
          go_simp
          try with_reducible rfl
        simp only [Act.put, List.setIfInBounds_toArray, List.set_cons_zero, List.set_cons_succ]
        refine wpG.take (i := 1) (by kernel_rfl) (by kernel_rfl) (by kernel_rfl) (by kernel_rfl) (by kernel_rfl) HS ?_
        intro oi ho
        simp only [List.getElem?_toArray, List.getElem?_cons_succ, List.getElem?_cons_zero, Option.some.injEq] at ho
        subst ho
        refine ⟨?_, Or.inl ⟨by rfl, ?_⟩, fun _ _ _ h => h, ?_⟩
        rotate_left 1
        · intro W hW
          try dsimp only at hW
          go_simp
          try with_reducible rfl
        simp only [Act.put, List.setIfInBounds_toArray, List.set_cons_zero, List.set_cons_succ]
        refine wpG.take (i := 2) (by kernel_rfl) (by kernel_rfl) (by kernel_rfl) (by kernel_rfl) (by kernel_rfl) HS ?_
        intro oi ho
        simp only [List.getElem?_toArray, List.getElem?_cons_succ, List.getElem?_cons_zero, Option.some.injEq] at ho
        subst ho
        refine ⟨?_, Or.inl ⟨by rfl, ?_⟩, fun _ _ _ h => h, ?_⟩
        rotate_left 1
        · intro W hW
          try dsimp only at hW
          go_simp
          try with_reducible rfl
        simp only [Act.put, List.setIfInBounds_toArray, List.set_cons_zero, List.set_cons_succ]
        refine wpG.take (i := 3) (by kernel_rfl) (by kernel_rfl) (by kernel_rfl) (by kernel_rfl) (by kernel_rfl) HS ?_
        intro oi ho
        simp only [List.getElem?_toArray, List.getElem?_cons_succ, List.getElem?_cons_zero, Option.some.injEq] at ho
        subst ho
        refine ⟨?_, Or.inl ⟨by rfl, ?_⟩, fun _ _ _ h => h, ?_⟩
        rotate_left 1
        · intro W hW
          try dsimp only at hW
          go_simp
          try with_reducible rfl
        simp only [Act.put, List.setIfInBounds_toArray, List.set_cons_zero, List.set_cons_succ]
        refine wpG.take (i := 4) (by kernel_rfl) (by kernel_rfl) (by kernel_rfl) (by kernel_rfl) (by kernel_rfl) HS ?_
        intro oi ho
        simp only [List.getElem?_toArray, List.getElem?_cons_succ, List.getElem?_cons_zero, Option.some.injEq] at ho
        subst ho
        refine ⟨?_, Or.inl ⟨by rfl, ?_⟩, fun _ _ _ h => h, ?_⟩
        rotate_left 1
        · intro W hW
          try dsimp only at hW
          go_simp
          try with_reducible rfl
        simp only [Act.put, List.setIfInBounds_toArray, List.set_cons_zero, List.set_cons_succ]
        refine wpG.take (i := 5) (by kernel_rfl) (by kernel_rfl) (by kernel_rfl) (by kernel_rfl) (by kernel_rfl) HS ?_
        intro oi ho
        simp only [List.getElem?_toArray, List.getElem?_cons_succ, List.getElem?_cons_zero, Option.some.injEq] at ho
        subst ho
        refine ⟨?_, Or.inl ⟨by rfl, ?_⟩, fun _ _ _ h => h, ?_⟩
        rotate_left 1
        · intro W hW
          try dsimp only at hW
          go_simp
          try with_reducible rfl
        simp only [Act.put, List.setIfInBounds_toArray, List.set_cons_zero, List.set_cons_succ]
        refine wpG.take (i := 6) (by kernel_rfl) (by kernel_rfl) (by kernel_rfl) (by kernel_rfl) (by kernel_rfl) HS ?_
        intro oi ho
        simp only [List.getElem?_toArray, List.getElem?_cons_succ, List.getElem?_cons_zero, Option.some.injEq] at ho
        subst ho
        refine ⟨?_, Or.inl ⟨by rfl, ?_⟩, fun _ _ _ h => h, ?_⟩
        rotate_left 1
        · intro W hW
          try dsimp only at hW
          go_simp
          try with_reducible rfl
        simp only [Act.put, List.setIfInBounds_toArray, List.set_cons_zero, List.set_cons_succ]
        refine wpG.take (i := 7) (by kernel_rfl) (by kernel_rfl) (by kernel_rfl) (by kernel_rfl) (by kernel_rfl) HS ?_
        intro oi ho
        simp only [List.getElem?_toArray, List.getElem?_cons_succ, List.getElem?_cons_zero, Option.some.injEq] at ho
        subst ho
        refine ⟨?_, Or.inl ⟨by rfl, ?_⟩, fun _ _ _ h => h, ?_⟩
        rotate_left 1
        · intro W hW
          try dsimp only at hW
          go_simp
          try with_reducible rfl
        simp only [Act.put, List.setIfInBounds_toArray, List.set_cons_zero, List.set_cons_succ]
        refine wpG.take (i := 8) (by kernel_rfl) (by kernel_rfl) (by kernel_rfl) (by kernel_rfl) (by kernel_rfl) HS ?_
        intro oi ho
        simp only [List.getElem?_toArray, List.getElem?_cons_succ, List.getElem?_cons_zero, Option.some.injEq] at ho
        subst ho
        refine ⟨?_, Or.inl ⟨by rfl, ?_⟩, fun _ _ _ h => h, ?_⟩
        rotate_left 1
        · intro W hW
          try dsimp only at hW
          go_simp
          try with_reducible rfl
        simp only [Act.put, List.setIfInBounds_toArray, List.set_cons_zero, List.set_cons_succ]
        refine wpG.take (i := 9) (by kernel_rfl) (by kernel_rfl) (by kernel_rfl) (by kernel_rfl) (by kernel_rfl) HS ?_
        intro oi ho
        simp only [List.getElem?_toArray, List.getElem?_cons_succ, List.getElem?_cons_zero, Option.some.injEq] at ho
        subst ho
        refine ⟨?_, Or.inl ⟨by rfl, ?_⟩, fun _ _ _ h => h, ?_⟩
        rotate_left 1
        · intro W hW
          try dsimp only at hW
          go_simp
          try with_reducible rfl
        simp only [Act.put, List.setIfInBounds_toArray, List.set_cons_zero, List.set_cons_succ]
        refine wpG.take (i := 10) (by kernel_rfl) (by kernel_rfl) (by kernel_rfl) (by kernel_rfl) (by kernel_rfl) HS ?_
        intro oi ho
        simp only [List.getElem?_toArray, List.getElem?_cons_succ, List.getElem?_cons_zero, Option.some.injEq] at ho
        subst ho
        refine ⟨?_, Or.inl ⟨by rfl, ?_⟩, fun _ _ _ h => h, ?_⟩
        rotate_left 1
        · intro W hW
          try dsimp only at hW
          go_simp
          try with_reducible rfl
        simp only [Act.put, List.setIfInBounds_toArray, List.set_cons_zero, List.set_cons_succ]
        refine wpG.take (i := 11) (by kernel_rfl) (by kernel_rfl) (by kernel_rfl) (by kernel_rfl) (by kernel_rfl) HS ?_
        intro oi ho
        simp only [List.getElem?_toArray, List.getElem?_cons_succ, List.getElem?_cons_zero, Option.some.injEq] at ho
        subst ho
        refine ⟨?_, Or.inl ⟨by rfl, ?_⟩, fun _ _ _ h => h, ?_⟩
        rotate_left 1
        · intro W hW
          try dsimp only at hW
          go_simp
          try with_reducible rfl
        simp only [Act.put, List.setIfInBounds_toArray, List.set_cons_zero, List.set_cons_succ]
        refine wpG.take (i := 14) (by kernel_rfl) (by kernel_rfl) (by kernel_rfl) (by kernel_rfl) (by kernel_rfl) HS ?_
        intro oi ho
        simp only [List.getElem?_toArray, List.getElem?_cons_succ, List.getElem?_cons_zero, Option.some.injEq] at ho
        subst ho
        refine ⟨?_, Or.inl ⟨by rfl, ?_⟩, fun _ _ _ h => h, ?_⟩
        rotate_left 1
        · intro W hW
          try dsimp only at hW
          go_simp
          try with_reducible rfl
        simp only [Act.put, List.setIfInBounds_toArray, List.set_cons_zero, List.set_cons_succ]
        refine wpG.one (i := 12) (by kernel_rfl) ?_
        intro oi ho
        simp only [List.getElem?_toArray, List.getElem?_cons_succ, List.getElem?_cons_zero, Option.some.injEq] at ho
        subst ho
        intro K hK
        have HK := Lib.hid hK
        have HSH := Lib.hid HS
        clear hK HS
        go_simp
        have SB : St w (w8.alloc (.cells #[.slice (some ⟨fb, foff, none⟩) n1 (F.length + sc)] 24)).drew _ := S.box (b := w8.heap.size) rfl #[.slice (some ⟨fb, foff, none⟩) n1 (F.length + sc)] 24
        refine HK.out _ _ (fun _ => And.intro (SB.cellAt 5) (And.intro (And.intro (SB.two 0).1.1 (SB.two 0).2.1) (And.intro (SB.two 1).1.1 (SB.two 1).2.1))) ?_
        have HS := And.intro (SB.cellAt 5) (And.intro (And.intro (SB.two 0).1.1 (SB.two 0).2.1) (And.intro (SB.two 1).1.1 (SB.two 1).2.1))
        try simp only [Act.put, List.setIfInBounds_toArray, List.set_cons_zero, List.set_cons_succ]
        refine wpG.take (i := 13) (by kernel_rfl) (by kernel_rfl) (by kernel_rfl) (by kernel_rfl) (by kernel_rfl) HS ?_
        intro oi ho
        simp only [List.getElem?_toArray, List.getElem?_cons_succ, List.getElem?_cons_zero, Option.some.injEq] at ho
        subst ho
        refine ⟨?_, Or.inl ⟨by rfl, ?_⟩, fun _ _ _ h => h, ?_⟩
        rotate_left 1
        · intro W hW
          try dsimp only at hW
          go_simp
          try with_reducible rfl
        simp only [Act.put, List.setIfInBounds_toArray, List.set_cons_zero, List.set_cons_succ]
        refine wpG.one (i := 15) (by kernel_rfl) ?_
        intro oi ho
        simp only [List.getElem?_toArray, List.getElem?_cons_succ, List.getElem?_cons_zero, Option.some.injEq] at ho
        subst ho
        intro K hK
        have HK := Lib.hid hK
        have HSH := Lib.hid HS
        clear hK HS
        go_simp
        go_at_call 25
        have hr1 : claimE.Row anyP (w8.alloc (.cells #[.slice (some ⟨fb, foff, none⟩) n1 (F.length + sc)] 24)).drew (some ⟨w8.heap.size, 0, none⟩) [F.take n1] := row_block claimE (SB.block 6) trivial [[.slice (some ⟨fb, foff, none⟩) n1 (F.length + sc)]] [F.take n1] rfl rfl (fun i c x hc hx => by
          rcases i with _ | i
          · simp at hc hx; subst hc hx
            exact ⟨some ⟨fb, foff, none⟩, sc + 1, by rw [HLT1.out, HN1.out, show n1 + 1 + sc = n1 + (sc + 1) by omega], ((HF0.out.kept SB.bel).pre (fun i y hy => by rw [List.getElem?_take] at hy; split at hy; exact hy; cases hy)).mono (fun _ _ _ => trivial), by have := HN1.out; rw [HLT1.out]; unfold maxLen; omega⟩
          · simp at hc)
        refine (SB.held (holds25 ar [F.take n1] sz tb anyP q r ao (some ⟨w8.heap.size, 0, none⟩) to_ ca 1 ct _ (HA.out.kept SB.bel) hr1 (HT.out.kept SB.bel) HNA.out (by unfold maxLen; simp) HNT.out)).mono ?_
        rintro e w9 ⟨ro4, rsp4, B4, C4, D4, rfl, HB4, z9, SA⟩
        obtain ⟨rfl, rfl, rfl⟩ : B4 = [Y] ∧ C4 = 0 ∧ D4 = 0 := by have h := HB4.out.symm.trans HTWO.out; simpa using h
        dsimp only
        refine HK.out _ _ (fun _ => And.intro (SA.cellAt 5) (And.intro (And.intro (SA.two 0).1.1 (SA.two 0).2.1) (And.intro (SA.two 1).1.1 (SA.two 1).2.1))) ?_
        have HS := And.intro (SA.cellAt 5) (And.intro (And.intro (SA.two 0).1.1 (SA.two 0).2.1) (And.intro (SA.two 1).1.1 (SA.two 1).2.1))
        try simp only [Act.put, List.setIfInBounds_toArray, List.set_cons_zero, List.set_cons_succ]
        refine wpG.take (i := 16) (by kernel_rfl) (by kernel_rfl) (by kernel_rfl) (by kernel_rfl) (by kernel_rfl) HS ?_
        intro oi ho
        simp only [List.getElem?_toArray, List.getElem?_cons_succ, List.getElem?_cons_zero, Option.some.injEq] at ho
        subst ho
        refine ⟨?_, Or.inl ⟨by rfl, ?_⟩, fun _ _ _ h => h, ?_⟩
        rotate_left 1
        · intro W hW
          try dsimp only at hW
          go_simp
          try with_reducible rfl
        simp only [Act.put, List.setIfInBounds_toArray, List.set_cons_zero, List.set_cons_succ]
        refine wpG.take (i := 17) (by kernel_rfl) (by kernel_rfl) (by kernel_rfl) (by kernel_rfl) (by kernel_rfl) HS ?_
        intro oi ho
        simp only [List.getElem?_toArray, List.getElem?_cons_succ, List.getElem?_cons_zero, Option.some.injEq] at ho
        subst ho
        refine ⟨?_, Or.inl ⟨by rfl, ?_⟩, fun _ _ _ h => h, ?_⟩
        rotate_left 1
        · intro W hW
          try dsimp only at hW
          go_simp
          try with_reducible rfl
        simp only [Act.put, List.setIfInBounds_toArray, List.set_cons_zero, List.set_cons_succ]
        refine wpG.take (i := 18) (by kernel_rfl) (by kernel_rfl) (by kernel_rfl) (by kernel_rfl) (by kernel_rfl) HS ?_
        intro oi ho
        simp only [List.getElem?_toArray, List.getElem?_cons_succ, List.getElem?_cons_zero, Option.some.injEq] at ho
        subst ho
        refine ⟨?_, Or.inl ⟨by rfl, ?_⟩, fun _ _ _ h => h, ?_⟩
        rotate_left 1
        · intro W hW
          try dsimp only at hW
          go_simp
          try with_reducible rfl
        simp only [Act.put, List.setIfInBounds_toArray, List.set_cons_zero, List.set_cons_succ]
        refine wpG.one (i := 19) (by kernel_rfl) ?_
        intro oi ho
        simp only [List.getElem?_toArray, List.getElem?_cons_succ, List.getElem?_cons_zero, Option.some.injEq] at ho
        subst ho
        intro K hK
        have HK := Lib.hid hK
        have HSH := Lib.hid HS
        clear hK HS
        go_simp
        refine HK.out _ _ (fun _ => HSH.out) ?_
        have HS := HSH.out
        try simp only [Act.put, List.setIfInBounds_toArray, List.set_cons_zero, List.set_cons_succ]
        refine wpG.one (i := 20) (by kernel_rfl) ?_
        intro oi ho
        simp only [List.getElem?_toArray, List.getElem?_cons_succ, List.getElem?_cons_zero, Option.some.injEq] at ho
        subst ho
        intro K hK
        have HK := Lib.hid hK
        have HSH := Lib.hid HS
        clear hK HS
        obtain ⟨⟨q0, q1⟩, q2, q3⟩ := SA.two 2
        have hlq := SA.lt 2
        go_simp
        refine HK.out _ _ (fun h => absurd rfl h) ?_
        try simp only [Act.put, List.setIfInBounds_toArray, List.set_cons_zero, List.set_cons_succ]
        refine wpG.done (by kernel_rfl) ?_
        rw [setCell_same (SA.block 2) rfl, setCell_same (SA.block 2) rfl]
        obtain ⟨b4, off4, hro4, _, hc4⟩ := (SA.rowE boolE 7).bool (i := 0) (by simp)
        subst hro4
        have hc4 : w9.cell? ⟨b4, off4, none⟩ = some (.bool Y) := hc4
        have hlen2 : (([Y] : List Bool).length : Int) = 1 := rfl
        have c3 := SA.cellAt 3
        obtain ⟨⟨x0, _⟩, x1, _⟩ := SA.two 2
        have SE := Lib.hid SA.bel
        clear SA S SB S8 hr1
        rcases HXY.out with rfl | rfl
        · go_wp2_with fail
          go_ret
          exact ⟨rfl, SE.out⟩
        · cases X with
          | true =>
            go_wp2_with fail
            go_ret
            exact ⟨rfl, SE.out⟩
          | false =>
            go_wp2_with fail
            go_ret
            exact ⟨rfl, SE.out⟩
  · have hcb : (C != 0) = true := by simp [hC]
    have hcb2 : (C == 0) = false := by simp [hC]
    have hB0 : B = [] := by
      have h := holdsF_bad (ar := ar) (cs := cs) (sz := sz) (tb := tb) (by rw [HB.out]; exact hC)
      rw [HB.out] at h; exact h
    subst hB0
    have SE := Lib.hid S4.bel
    obtain ⟨⟨x0, _⟩, x1, _⟩ := S4.two 3
    clear S4 hC
    go_wp2_with fail
    go_ret
    exact ⟨rfl, SE.out⟩
end Go.Proofs.Yteekoclfpehnpaa
