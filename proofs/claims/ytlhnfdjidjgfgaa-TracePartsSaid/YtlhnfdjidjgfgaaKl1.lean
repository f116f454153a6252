/-
  Walk: the law on a beginning of a derivation.
-/
import Derived.Test.YtlhnfdjidjgfgaaProg
import Derived.Test.YtlhnfdjidjgfgaaKf3
import Derived.Test.YtlhnfdjidjgfgaaE5
import Derived.Test.YtlhnfdjidjgfgaaG5
import Derived.Deep.DeepCutAuto
import Derived.BigQuiet
namespace Go.Proofs.Ytlhnfdjidjgfgaa
open Go.RowKit Go.Shelf
set_option linter.unusedVariables false
set_option maxHeartbeats 400000

theorem in24 (n lo hi : Int) (w : World) : Calls Try.prog 24 #[.int .i64 n, .int .i64 lo, .int .i64 hi] w fun e w' => e = .returned (.bool (decide (lo ≤ n ∧ n ≤ hi))) ∧ w' = w := by
  go_enter Try.func24, Try.ntmps24
  go_wp2
  all_goals (go_ret; exact ⟨ret_bool (by simp; try omega), rfl⟩)
theorem takeF_err {ar : List Int} {cs : List (List Fc)} {gs : List Gt} (h : (takeF ar cs gs).2.1 ≠ 0) : (takeF ar cs gs).1 = [] := by
  unfold takeF at h ⊢
  split
  · rfl
  · rename_i h1
    rw [if_neg h1] at h
    split
    · rfl
    · rename_i h2
      rw [if_neg h2] at h
      exact takeGo_err h
theorem takeF_code {ar : List Int} {cs : List (List Fc)} {gs : List Gt} : ∀ c ∈ (takeF ar cs gs).1, codeF ar c = 0 := by
  unfold takeF
  split
  · simp
  · rename_i h1
    split
    · simp
    · exact takeGo_code (loreF_zero (show (loreF ar cs).1 = 0 by simpa using h1)).2.2.2.2 (fun c h => by simp at h)
/-- the law: all is got, or the beginning is got or meets the same error, or there are too many -/
theorem takeF_part {ar : List Int} {cs : List (List Fc)} {gs : List Gt} (n : Nat) (hn : n ≤ gs.length) :
    ((takeF ar cs gs).2.1 ≠ 0 → (takeF ar cs (gs.take n)).2.1 = 0 ∨ (takeF ar cs gs).2 = (takeF ar cs (gs.take n)).2 ∨ 400 < gs.length) ∧
    ((takeF ar cs gs).2.1 = 0 → takeF ar cs (gs.take n) = ((takeF ar cs gs).1.take n, (0, 0)) ∧ (takeF ar cs gs).1.length = gs.length) := by
  unfold takeF
  by_cases h1 : (loreF ar cs).1 ≠ 0
  · rw [if_pos h1, if_pos h1]
    exact ⟨fun _ => .inr (.inl rfl), fun h => absurd h h1⟩
  · rw [if_neg h1, if_neg h1]
    by_cases h2 : 400 < gs.length
    · rw [if_pos h2]
      exact ⟨fun _ => .inr (.inr h2), fun h => by simp at h⟩
    · have hl : (gs.take n).length ≤ 400 := by simp; omega
      rw [if_neg h2, if_neg (by omega)]
      refine ⟨fun h => ?_, fun h => ?_⟩
      · rcases takeGo_bad n h with h3 | h3
        · exact .inl h3
        · exact .inr (.inl h3.symm)
      · have h3 := takeGo_part (known := []) n h hn
        obtain ⟨more, e, hm⟩ := takeGo_ok h
        refine ⟨by rw [h3]; simp, by rw [e]; simpa using hm⟩

set_option maxRecDepth 100000 in
set_option maxHeartbeats 8000000 in
theorem traceParts4 (ar : List Int) (cs : List (List Fc)) (gs : List Gt) (n : Int) (ao co go_ : Option Addr) (ca cc gcap : Nat) (w : World)
    (ha : intE.Row (fun b => b < w.heap.size) w ao ar) (hc : claimE.Row (fun b => b < w.heap.size) w co cs) (hg : gotE.Row (fun b => b < w.heap.size) w go_ gs) (har : ar.length ≤ maxLen) (hcn : cs.length ≤ maxLen) (hgc : gs.length ≤ gcap) (hgm : gcap ≤ maxLen) :
    Calls Try.prog 4 #[.agg #[.slice ao ar.length ca, .slice co cs.length cc], .slice go_ gs.length gcap, .int .i64 n] w fun e w' => e = .returned (.bool true) ∧ Below w.heap.size w w' := by
  have HA := Lib.hid ha; have HC := Lib.hid hc; have HG := Lib.hid hg; have HAR := Lib.hid har; have HCN := Lib.hid hcn
  have HGN := Lib.hid (show gs.length ≤ maxLen by omega)
  have hgm' : gcap ≤ 9223372036854775807 := by unfold maxLen at hgm; omega
  have hgn' : gs.length ≤ 9223372036854775807 := by omega
  obtain ⟨bx, hbx⟩ : ∃ b, b = w.heap.size := ⟨_, rfl⟩
  have S1 := (St.start w).box hbx.symm #[.slice ao ar.length ca, .slice co cs.length cc] 25
  have hsz1 : (w.alloc (.cells #[.slice ao ar.length ca, .slice co cs.length cc] 25)).heap.size = bx + 1 := by simp [hbx]
  have HBX := Lib.hid hbx
  clear ha hc hg har hcn hgm
  go_enter Try.func4, Try.ntmps4
  go_wp2_with fail
  rw [← hbx]
  refine S1.gen (z := bx + 1) (by omega) ?_
  intro w1 z1 S
  clear S1 hbx hsz1
  refine (S.quiet (traceFact23 w1)).mono ?_
  rintro e w2 ⟨rfl, z2, S2⟩
  clear S
  obtain ⟨⟨x0, _⟩, x1, _⟩ := S2.two 0
  go_wp2_with fail
  refine S2.gen (z := bx + 1) (by omega) ?_
  clear S2 x0 x1 z2
  intro w3 z3 S
  refine (take20 ar cs gs ao co go_ ca cc gcap w3 ((HA.out.kept S.bel).mono (fun b h h2 => h2)) ((HC.out.kept S.bel).mono (fun b h h2 => h2)) ((HG.out.kept S.bel).mono (fun b h h2 => h2)) HAR.out HCN.out HGN.out).mono ?_
  rintro e w4 ⟨ro, sp, rfl, hro, hb4⟩
  obtain ⟨R, hR⟩ : ∃ X, X = takeF ar cs gs := ⟨_, rfl⟩
  rw [← hR] at hro ⊢
  have HR := Lib.hid hR.symm
  clear hR
  obtain ⟨KK, C, D⟩ := R
  have S2 := S.step hb4
  have z4 := hb4.size
  obtain ⟨b9, hb9⟩ : ∃ b, b = w4.heap.size := ⟨_, rfl⟩
  have S3 := S2.box hb9.symm #[.int .i64 C, .int .i64 D] 29
  have HB9 := Lib.hid (show bx + 1 ≤ b9 by omega)
  have zz : b9 + 1 ≤ (w4.alloc (.cells #[.int .i64 C, .int .i64 D] 29)).heap.size := by simp [hb9]
  have HRO := Lib.hid ((hro.kept ((Below.refl _ w4).alloc (Nat.le_refl _) (.cells #[.int .i64 C, .int .i64 D] 29))).mono (q := fun b => b < (w4.alloc (.cells #[.int .i64 C, .int .i64 D] 29)).heap.size) (fun b h h2 => h2))
  clear S S2 hro hb4
  go_wp2_with fail
  rw [← hb9]
  clear hb9
  refine (in24 n 0 gs.length _).mono ?_
  rintro e w5 ⟨rfl, hw5⟩
  replace hw5 := hw5.symm
  subst hw5
  generalize (w4.alloc (.cells #[.int .i64 C, .int .i64 D] 29)) = w5 at *
  by_cases hin : 0 ≤ n ∧ n ≤ (gs.length : Int)
  · rw [decide_eq_true hin]
    obtain ⟨N, hN⟩ : ∃ N : Nat, (N : Int) = n := ⟨n.toNat, by omega⟩
    subst hN
    have hNg : N ≤ gs.length := by omega
    have hNgc : N ≤ gcap := by omega
    have hlN : (gs.take N).length = N := by simp; omega
    obtain ⟨R2, hR2⟩ : ∃ X, X = takeF ar cs (gs.take N) := ⟨_, rfl⟩
    have CT := Lib.hid (fun (W : World) (hb : Below w.heap.size w W) => show Calls Try.prog 20 #[.agg #[.slice ao ar.length ca, .slice co cs.length cc], .slice go_ N gcap] W (TakeP (takeF ar cs (gs.take N)) W) from by
      have h := take20 ar cs (gs.take N) ao co go_ ca cc gcap W ((HA.out.kept hb).mono (fun b h h2 => h2)) ((HC.out.kept hb).mono (fun b h h2 => h2)) (fun i x hi => ((HG.out.kept hb).mono (q := fun b => b < W.heap.size) (fun b h h2 => h2)) i x (by rw [List.getElem?_take] at hi; split at hi; exact hi; cases hi)) HAR.out HCN.out (by rw [hlN]; have := HGN.out; omega)
      rw [hlN] at h
      exact h)
    rw [← hR2] at CT
    have HR2e := Lib.hid hR2
    clear hR2
    obtain ⟨K2, C2, D2⟩ := R2
    obtain ⟨x0, x1⟩ := S3.two 0
    go_upto_region 7 with fail
    go_cut [10, 11] (fun t10 t11 W => ∃ b11 r2 sp2, t10 = .slice r2 K2.length (K2.length + sp2) ∧ t11 = .pointer (some ⟨b11, 0, none⟩) ∧ w5.heap.size ≤ b11 ∧ St w W [.box bx #[.slice ao ar.length ca, .slice co cs.length cc] 25, .box b9 #[.int .i64 C, .int .i64 D] 29, .box b11 #[.int .i64 C2, .int .i64 D2] 29] ∧ claimE.Row (fun _ => True) W r2 K2 ∧ Below w5.heap.size w5 W)
    case first =>
      have FC := Lib.hid (fun W (hb : Below w5.heap.size w5 W) => (⟨Below.cellOf hb x0.1, Below.cellOf hb x1.1⟩ : (fun W => W.cell? ⟨bx, 0, none⟩ = some (.slice ao ar.length ca) ∧ W.cell? ⟨bx, 1, none⟩ = some (.slice co cs.length cc)) W))
      have B0 := Lib.hid (Below.refl w5.heap.size w5).drew
      have SD := S3.drew
      have HZ5 := Lib.hid (show b9 + 1 ≤ w5.heap.size from zz)
      clear x0 x1 S3
      refine wpH_region [10] (fun W => W.cell? ⟨bx, 0, none⟩ = some (.slice ao ar.length ca) ∧ W.cell? ⟨bx, 1, none⟩ = some (.slice co cs.length cc)) (by kernel_rfl) ?_
      have HS := FC.out _ (Below.refl _ w5).drew
      refine wpH.take (i := 0) (by kernel_rfl) (by kernel_rfl) (by kernel_rfl) (by kernel_rfl) (by kernel_rfl) HS ?_
      intro oi ho
      simp only [List.getElem?_toArray, List.getElem?_cons_zero, Option.some.injEq] at ho
      subst ho
      refine ⟨?_, Or.inl ⟨by rfl, ?_⟩, fun _ _ _ h => h, ?_⟩
      rotate_left 1
      · intro W hW
        try dsimp only at hW
        go_simp
        try with_reducible rfl
      simp only [Act.put, List.setIfInBounds_toArray, List.set_cons_zero, List.set_cons_succ]
      refine wpH.take (i := 1) (by kernel_rfl) (by kernel_rfl) (by kernel_rfl) (by kernel_rfl) (by kernel_rfl) HS ?_
      intro oi ho
      simp only [List.getElem?_toArray, List.getElem?_cons_succ, List.getElem?_cons_zero, Option.some.injEq] at ho
      subst ho
      refine ⟨?_, Or.inl ⟨by rfl, ?_⟩, fun _ _ _ h => h, ?_⟩
      rotate_left 1
      · intro W hW
        try dsimp only at hW
        go_simp
        try with_reducible rfl
      simp only [Act.put, List.setIfInBounds_toArray, List.set_cons_zero, List.set_cons_succ]
      refine wpH.take (i := 2) (by kernel_rfl) (by kernel_rfl) (by kernel_rfl) (by kernel_rfl) (by kernel_rfl) HS ?_
      intro oi ho
      simp only [List.getElem?_toArray, List.getElem?_cons_succ, List.getElem?_cons_zero, Option.some.injEq] at ho
      subst ho
      refine ⟨?_, Or.inl ⟨by rfl, ?_⟩, fun _ _ _ h => h, ?_⟩
      rotate_left 1
      · intro W hW
        try dsimp only at hW
        go_simp
        try with_reducible rfl
      simp only [Act.put, List.setIfInBounds_toArray, List.set_cons_zero, List.set_cons_succ]
      refine wpH.take (i := 3) (by kernel_rfl) (by kernel_rfl) (by kernel_rfl) (by kernel_rfl) (by kernel_rfl) HS ?_
      intro oi ho
      simp only [List.getElem?_toArray, List.getElem?_cons_succ, List.getElem?_cons_zero, Option.some.injEq] at ho
      subst ho
      refine ⟨?_, Or.inl ⟨by rfl, ?_⟩, fun _ _ _ h => h, ?_⟩
      rotate_left 1
      · intro W hW
        try dsimp only at hW
        go_simp
        try with_reducible rfl
      simp only [Act.put, List.setIfInBounds_toArray, List.set_cons_zero, List.set_cons_succ]
      refine wpH.two (i := 4) (j := 8) (by kernel_rfl) ?_ ?_
      · intro oi ho
        simp only [List.getElem?_toArray, List.getElem?_cons_succ, List.getElem?_cons_zero, Option.some.injEq] at ho
        subst ho
        intro K hK
        have HK := Lib.hid hK
        clear hK
        go_simp
        go_at_call 20
        refine (CT.out w5.drew SD.bel).mono ?_
        rintro e w7 ⟨r2, sp2, rfl, hr2, hb⟩
        have S7 := SD.step hb
        have B7 := Lib.hid (Below.step B0.out hb)
        have zw7 : w5.heap.size ≤ w7.heap.size := hb.size
        have HR2 := Lib.hid (show claimE.Row (fun b => w5.drew.heap.size ≤ b) w7 r2 K2 from hr2)
        clear hr2 hb
        dsimp only
        refine HK.out _ _ (fun _ => FC.out _ B7.out) ?_
        have HS := FC.out _ B7.out
        try simp only [Act.put, List.setIfInBounds_toArray, List.set_cons_zero, List.set_cons_succ]
        refine wpH.take (i := 5) (by kernel_rfl) (by kernel_rfl) (by kernel_rfl) (by kernel_rfl) (by kernel_rfl) HS ?_
        intro oi ho
        simp only [List.getElem?_toArray, List.getElem?_cons_succ, List.getElem?_cons_zero, Option.some.injEq] at ho
        subst ho
        refine ⟨?_, Or.inl ⟨by rfl, ?_⟩, fun _ _ _ h => h, ?_⟩
        rotate_left 1
        · intro W hW
          try dsimp only at hW
          go_simp
          try with_reducible rfl
        simp only [Act.put, List.setIfInBounds_toArray, List.set_cons_zero, List.set_cons_succ]
        refine wpH.take (i := 6) (by kernel_rfl) (by kernel_rfl) (by kernel_rfl) (by kernel_rfl) (by kernel_rfl) HS ?_
        intro oi ho
        simp only [List.getElem?_toArray, List.getElem?_cons_succ, List.getElem?_cons_zero, Option.some.injEq] at ho
        subst ho
        refine ⟨?_, Or.inl ⟨by rfl, ?_⟩, fun _ _ _ h => h, ?_⟩
        rotate_left 1
        · intro W hW
          try dsimp only at hW
          go_simp
          try with_reducible rfl
        simp only [Act.put, List.setIfInBounds_toArray, List.set_cons_zero, List.set_cons_succ]
        refine wpH.take (i := 7) (by kernel_rfl) (by kernel_rfl) (by kernel_rfl) (by kernel_rfl) (by kernel_rfl) HS ?_
        intro oi ho
        simp only [List.getElem?_toArray, List.getElem?_cons_succ, List.getElem?_cons_zero, Option.some.injEq] at ho
        subst ho
        refine ⟨?_, Or.inl ⟨by rfl, ?_⟩, fun _ _ _ h => h, ?_⟩
        rotate_left 1
        · intro W hW
          try dsimp only at hW
          go_simp
          try with_reducible rfl
        simp only [Act.put, List.setIfInBounds_toArray, List.set_cons_zero, List.set_cons_succ]
        refine wpH.one (i := 8) (by kernel_rfl) ?_
        intro oi ho
        simp only [List.getElem?_toArray, List.getElem?_cons_succ, List.getElem?_cons_zero, Option.some.injEq] at ho
        subst ho
        intro K hK
        have HK := Lib.hid hK
        clear hK
        go_simp
        have S8 := S7.box (b := w7.heap.size) rfl #[.int .i64 0, .int .i64 0] 29
        have B8 := Lib.hid (B7.out.alloc B7.out.size (.cells #[.int .i64 0, .int .i64 0] 29))
        refine HK.out _ _ (fun _ => FC.out _ B8.out) ?_
        have HS := FC.out _ B8.out
        try simp only [Act.put, List.setIfInBounds_toArray, List.set_cons_zero, List.set_cons_succ]
        refine wpH.one (i := 9) (by kernel_rfl) ?_
        intro oi ho
        simp only [List.getElem?_toArray, List.getElem?_cons_succ, List.getElem?_cons_zero, Option.some.injEq] at ho
        subst ho
        intro K hK
        have HK := Lib.hid hK
        clear hK
        go_simp
        refine HK.out _ _ (fun _ => FC.out _ B8.out) ?_
        have HS := FC.out _ B8.out
        try simp only [Act.put, List.setIfInBounds_toArray, List.set_cons_zero, List.set_cons_succ]
        refine wpH.one (i := 10) (by kernel_rfl) ?_
        intro oi ho
        simp only [List.getElem?_toArray, List.getElem?_cons_succ, List.getElem?_cons_zero, Option.some.injEq] at ho
        subst ho
        intro K hK
        have HK := Lib.hid hK
        clear hK
        obtain ⟨⟨e0, e1⟩, e2, e3⟩ := S8.two 2
        have hl3 := S8.lt 2
        go_simp
        refine HK.out _ _ (fun h => absurd h (by decide)) ?_
        try simp only [Act.put, List.setIfInBounds_toArray, List.set_cons_zero, List.set_cons_succ]
        refine wpH.done (by kernel_rfl) ?_
        have SG := Lib.hid ((S7.box (b := w7.heap.size) rfl #[.int .i64 C2, .int .i64 D2] 29).pick [0, 1, 2])
        have HRR := Lib.hid (show claimE.Row (fun _ => True) (w7.alloc (.cells #[.int .i64 C2, .int .i64 D2] 29)) r2 K2 from (HR2.out.kept ((Below.refl _ w7).alloc (Nat.le_refl _) _)).mono (fun _ _ _ => trivial))
        have BB := Lib.hid (show Below w5.heap.size w5 (w7.alloc (.cells #[.int .i64 C2, .int .i64 D2] 29)) from B7.out.alloc B7.out.size _)
        have zz7 : w5.heap.size ≤ w7.heap.size := B7.out.size
        clear S7 S8 SD e0 e1 e2 e3
        try go_wp2_with fail
        go_meet
        case rel => exact ⟨w7.heap.size, r2, sp2, rfl, rfl, zz7, SG.out, HRR.out, BB.out⟩
      · intro oi ho
        simp only [List.getElem?_toArray, List.getElem?_cons_succ, List.getElem?_cons_zero, Option.some.injEq] at ho
        subst ho
        intro K hK
        have HK := Lib.hid hK
        clear hK
        go_simp
        have S6 := SD.box (b := w5.heap.size) rfl #[.int .i64 0, .int .i64 0] 29
        have B6 := Lib.hid (B0.out.alloc B0.out.size (.cells #[.int .i64 0, .int .i64 0] 29))
        refine HK.out _ _ (fun _ => FC.out _ B6.out) ?_
        have HS := FC.out _ B6.out
        try simp only [Act.put, List.setIfInBounds_toArray, List.set_cons_zero, List.set_cons_succ]
        refine wpH.one (i := 4) (by kernel_rfl) ?_
        intro oi ho
        simp only [List.getElem?_toArray, List.getElem?_cons_succ, List.getElem?_cons_zero, Option.some.injEq] at ho
        subst ho
        intro K hK
        have HK := Lib.hid hK
        clear hK
        go_simp
        go_at_call 20
        refine (CT.out (w5.alloc (.cells #[.int .i64 0, .int .i64 0] 29)).drew S6.bel).mono ?_
        rintro e w7 ⟨r2, sp2, rfl, hr2, hb⟩
        have S7 := S6.step hb
        have B7 := Lib.hid (Below.step B6.out hb)
        have zw7 : (w5.alloc (.cells #[.int .i64 0, .int .i64 0] 29)).heap.size ≤ w7.heap.size := hb.size
        have HR2 := Lib.hid (show claimE.Row (fun b => (w5.alloc (.cells #[.int .i64 0, .int .i64 0] 29)).drew.heap.size ≤ b) w7 r2 K2 from hr2)
        clear hr2 hb
        dsimp only
        refine HK.out _ _ (fun _ => FC.out _ B7.out) ?_
        have HS := FC.out _ B7.out
        try simp only [Act.put, List.setIfInBounds_toArray, List.set_cons_zero, List.set_cons_succ]
        refine wpH.take (i := 5) (by kernel_rfl) (by kernel_rfl) (by kernel_rfl) (by kernel_rfl) (by kernel_rfl) HS ?_
        intro oi ho
        simp only [List.getElem?_toArray, List.getElem?_cons_succ, List.getElem?_cons_zero, Option.some.injEq] at ho
        subst ho
        refine ⟨?_, Or.inl ⟨by rfl, ?_⟩, fun _ _ _ h => h, ?_⟩
        rotate_left 1
        · intro W hW
          try dsimp only at hW
          go_simp
          try with_reducible rfl
        simp only [Act.put, List.setIfInBounds_toArray, List.set_cons_zero, List.set_cons_succ]
        refine wpH.take (i := 6) (by kernel_rfl) (by kernel_rfl) (by kernel_rfl) (by kernel_rfl) (by kernel_rfl) HS ?_
        intro oi ho
        simp only [List.getElem?_toArray, List.getElem?_cons_succ, List.getElem?_cons_zero, Option.some.injEq] at ho
        subst ho
        refine ⟨?_, Or.inl ⟨by rfl, ?_⟩, fun _ _ _ h => h, ?_⟩
        rotate_left 1
        · intro W hW
          try dsimp only at hW
          go_simp
          try with_reducible rfl
        simp only [Act.put, List.setIfInBounds_toArray, List.set_cons_zero, List.set_cons_succ]
        refine wpH.take (i := 7) (by kernel_rfl) (by kernel_rfl) (by kernel_rfl) (by kernel_rfl) (by kernel_rfl) HS ?_
        intro oi ho
        simp only [List.getElem?_toArray, List.getElem?_cons_succ, List.getElem?_cons_zero, Option.some.injEq] at ho
        subst ho
        refine ⟨?_, Or.inl ⟨by rfl, ?_⟩, fun _ _ _ h => h, ?_⟩
        rotate_left 1
        · intro W hW
          try dsimp only at hW
          go_simp
          try with_reducible rfl
        simp only [Act.put, List.setIfInBounds_toArray, List.set_cons_zero, List.set_cons_succ]
        refine wpH.one (i := 9) (by kernel_rfl) ?_
        intro oi ho
        simp only [List.getElem?_toArray, List.getElem?_cons_succ, List.getElem?_cons_zero, Option.some.injEq] at ho
        subst ho
        intro K hK
        have HK := Lib.hid hK
        clear hK
        go_simp
        refine HK.out _ _ (fun _ => FC.out _ B7.out) ?_
        have HS := FC.out _ B7.out
        try simp only [Act.put, List.setIfInBounds_toArray, List.set_cons_zero, List.set_cons_succ]
        refine wpH.one (i := 10) (by kernel_rfl) ?_
        intro oi ho
        simp only [List.getElem?_toArray, List.getElem?_cons_succ, List.getElem?_cons_zero, Option.some.injEq] at ho
        subst ho
        intro K hK
        have HK := Lib.hid hK
        clear hK
        obtain ⟨⟨e0, e1⟩, e2, e3⟩ := S7.two 2
        have hl3 := S7.lt 2
        go_simp
        refine HK.out _ _ (fun h => absurd h (by decide)) ?_
        try simp only [Act.put, List.setIfInBounds_toArray, List.set_cons_zero, List.set_cons_succ]
        refine wpH.done (by kernel_rfl) ?_
        have SG := Lib.hid ((S7.set2 2 rfl (.int .i64 C2) (.int .i64 D2) (by have := HBX.out; have := HB9.out; have := HZ5.out; omega) (by have := HB9.out; have := HZ5.out; simp only [fsnoc, offs, offAll, Fct.box, and_true]; omega)).pick [0, 1, 2])
        have HRR := Lib.hid (show claimE.Row (fun _ => True) ((w7.setCell ⟨w5.heap.size, 0, none⟩ (.int .i64 C2)).setCell ⟨w5.heap.size, 1, none⟩ (.int .i64 D2)) r2 K2 from HR2.out.keep (fun b h1 h2 => ⟨(Below.heap_setCell _ _ _ _ (by show b ≠ w5.heap.size; have h1' : (w5.alloc (.cells #[.int .i64 0, .int .i64 0] 29)).heap.size ≤ b := h1; simp at h1'; omega)).trans (Below.heap_setCell _ _ _ _ (by show b ≠ w5.heap.size; have h1' : (w5.alloc (.cells #[.int .i64 0, .int .i64 0] 29)).heap.size ≤ b := h1; simp at h1'; omega)), trivial⟩))
        have BB := Lib.hid (show Below w5.heap.size w5 ((w7.setCell ⟨w5.heap.size, 0, none⟩ (.int .i64 C2)).setCell ⟨w5.heap.size, 1, none⟩ (.int .i64 D2)) from (B7.out.setCell (p := ⟨w5.heap.size, 0, none⟩) (Nat.le_refl _) _).setCell (p := ⟨w5.heap.size, 1, none⟩) (Nat.le_refl _) _)
        clear S6 S7 SD e0 e1 e2 e3
        try go_wp2_with fail
        go_meet
        case rel => exact ⟨w5.heap.size, r2, sp2, rfl, rfl, Nat.le_refl _, SG.out, HRR.out, BB.out⟩
    case rest =>
    obtain ⟨b11, r2, sp2, ht10, ht11, hb11, S, hr2, hbw⟩ := hcut
    subst ht10
    subst ht11
    have HRO2 := Lib.hid (HRO.out.kept hbw)
    have HR2 := Lib.hid hr2
    have HTP := Lib.hid (takeF_part (ar := ar) (cs := cs) (gs := gs) N hNg)
    rw [HR.out, ← HR2e.out] at HTP
    clear hr2 hbw x0 x1 S3
    obtain ⟨⟨x0, _⟩, x1, _⟩ := S.two 1
    obtain ⟨⟨y0, _⟩, y1, _⟩ := S.two 2
    by_cases hC : C = 0
    case neg =>
      have hcb : (C != 0) = true := by simp [hC]
      by_cases h2 : C2 = 0
      · have SB := Lib.hid S
        subst h2
        clear hC S
        go_wp2_with fail
        go_ret
        exact ⟨rfl, SB.out.bel⟩
      by_cases h3 : C = C2 ∧ D = D2
      · obtain ⟨rfl, rfl⟩ := h3
        have hcb2 : (C == 0) = false := by simp [hC]
        have SB := Lib.hid S
        clear hC S
        go_wp2_with fail
        go_ret
        exact ⟨rfl, SB.out.bel⟩
      have h4 : 400 < gs.length := by
        rcases HTP.out.1 hC with h | h | h
        · exact absurd h h2
        · simp only [Prod.mk.injEq] at h; exact absurd h h3
        · exact h
      have h4i : (400 : Int) < (gs.length : Int) := by omega
      have hcb2 : (C2 == 0) = false := by simp [h2]
      have SB := Lib.hid S
      by_cases h5 : C = C2
      · have h6 : D ≠ D2 := fun h => h3 ⟨h5, h⟩
        have h6b : (D == D2) = false := by simp [h6]
        subst h5
        clear hC S h2 h3 h6
        go_wp2_with fail
        go_ret
        exact ⟨rfl, SB.out.bel⟩
      · have h6b : (C == C2) = false := by simp [h5]
        clear hC S h2 h3 h5
        go_wp2_with fail
        go_ret
        exact ⟨rfl, SB.out.bel⟩
    case pos =>
    subst hC
    have HE := Lib.hid (HTP.out.2 rfl).1
    have hkk : KK.length = gs.length := (HTP.out.2 rfl).2
    have hk2 : K2.length = N := by have h := congrArg (fun x => x.1.length) HE.out; simp at h; omega
    have hc2 : C2 = 0 := congrArg (fun x => x.2.1) HE.out
    have HK2 := Lib.hid (show K2 = KK.take N from congrArg Prod.fst HE.out)
    have HKL := Lib.hid (show KK.length ≤ 400 by have h := takeF_len ar cs gs; rw [HR.out] at h; exact h)
    subst hc2
    have HSM := Lib.hid (show ∀ (i : Nat) (h1 : i < KK.length) (h2 : i < K2.length), KK[i] = K2[i] from fun i h1 h2 => by simp [HK2.out])
    have HKK := Lib.hid hkk
    have HCC := Lib.hid (show ∀ c ∈ KK, codeF ar c = 0 from fun c hc => takeF_code (ar := ar) (cs := cs) (gs := gs) c (by rw [HR.out]; exact hc))
    have hNi : N ≤ 9223372036854775807 := by omega
    go_wp2_with fail
    have S := S.pick [0]
    clear x0 x1 y0 y1
    go_loopw [12] (fun i wr => ∃ k : Nat, k ≤ N ∧ i = .int .i64 k ∧ Below wc.heap.size wc wr ∧ St w wr [.box bx #[.slice ao ar.length ca, .slice co cs.length cc] 25]) (fun i _ => N - (intOf i).toNat)
    case atStart => exact ⟨0, by omega, rfl, Below.refl _ _, S⟩
    case round =>
      clear S
      obtain ⟨k, hk, rfl, hbk, S⟩ := hrel
      by_cases hlt : k < N
      · have hlti : (k : Int) < (N : Int) := by omega
        have hK1 : k < KK.length := by omega
        have hK2 : k < K2.length := by omega
        obtain ⟨b1, off1, k1, s1, rfl, _, c1, r1, _⟩ := (HRO2.out.kept hbk).claim hK1
        obtain ⟨b2, off2, k2, s2, rfl, _, c2, r2', _⟩ := (HR2.out.kept hbk).claim hK2
        have hKe := HSM.out k hK1 hK2
        obtain ⟨F1, hF1⟩ : ∃ X, X = KK[k] := ⟨_, rfl⟩
        obtain ⟨F2, hF2⟩ : ∃ X, X = K2[k] := ⟨_, rfl⟩
        have HL1 := Lib.hid (show F1.length ≤ 6 by rw [hF1]; exact (code_small (HCC.out _ (List.getElem_mem hK1))).1)
        rw [← hF1] at c1 r1 hKe
        rw [← hF2] at c2 r2' hKe
        subst hKe
        have HX1 := Lib.hid r1; have HX2 := Lib.hid r2'
        have CN := Lib.hid (fun d os => Calls.regrown_of (sameClaim20 F1 F1 _ _ k1 k2 (F1.length + s1) (F1.length + s2) (Go.Sort.grow (redrawn wr d) os) (HX1.out.kept (below_regrown wr d os)) (HX2.out.kept (below_regrown wr d os)) (by have := HL1.out; omega) (by have := HL1.out; omega)))
        rw [decide_eq_true (rfl : F1 = F1)] at CN
        have q1 := cell_regrown c1; have q2 := cell_regrown c2
        have hK1i : (k : Int) < (KK.length : Int) := by omega
        have hK2i : (k : Int) < (K2.length : Int) := by omega
        clear r1 r2' c1 c2 hF1 hF2
        go_wp2_with fail
        refine wp_region_quiet_below (by kernel_rfl) (by kernel_rfl) ?_
        iterate 10 (go_big_quiet_step (exact CN.out _ _))
        refine wpQuiet_nil ?_
        intro _ hw'
        obtain ⟨⟨dq, osq⟩, hw''⟩ := hw'
        subst hw''
        have S2 := S.regrown dq osq
        have hb2 := Below.step hbk (below_regrown wr dq osq)
        clear q1 q2 S
        go_wp2_with fail
        go_roundw
        case rel => exact ⟨k + 1, by omega, by go_num, hb2, S2⟩
        case measure => simp [intOf] <;> omega
      · have SB := Lib.hid S
        clear S
        go_wp2_with fail
        go_ret
        exact ⟨rfl, SB.out.bel⟩
  · rw [decide_eq_false hin]
    obtain ⟨⟨x0, _⟩, x1, _⟩ := S3.two 1
    have SB := Lib.hid S3
    clear S3 hin
    by_cases hC : C = 0
    · subst hC
      go_wp2_with fail
      go_ret
      exact ⟨rfl, SB.out.bel⟩
    · have hcb : (C == 0) = false := by simp [hC]
      have hKn : KK = [] := by
        have h := takeF_err (ar := ar) (cs := cs) (gs := gs) (by rw [HR.out]; exact hC)
        rw [HR.out] at h; exact h
      subst hKn
      clear hC
      go_wp2_with fail
      go_ret
      exact ⟨rfl, SB.out.bel⟩
end Go.Proofs.Ytlhnfdjidjgfgaa
