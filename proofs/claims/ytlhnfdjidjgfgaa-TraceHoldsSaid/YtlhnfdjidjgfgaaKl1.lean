/-
  Plain: a derivation that ends, of one claim that is not so; what Ends answers.
  Walk: the lore of apart.
  Walks: trace.Ends, the closed fact of the law.
  Walk: the closed fact of the laws on derivations.
  Walk: the law on a beginning of a derivation.
-/
import Derived.Test.YtlhnfdjidjgfgaaTr0
import Derived.Test.YtlhnfdjidjgfgaaProg
import Derived.Test.YtlhnfdjidjgfgaaXb
import Derived.Test.YtlhnfdjidjgfgaaXd
import Derived.Test.YtlhnfdjidjgfgaaE6
import Derived.Test.YtlhnfdjidjgfgaaK61
import Derived.RegionTactic
import Derived.Test.YtlhnfdjidjgfgaaK9
import Derived.Test.YtlhnfdjidjgfgaaE5
import Derived.Test.YtlhnfdjidjgfgaaG5
import Derived.Deep.DeepCutAuto
import Derived.BigQuiet
namespace Go.Proofs.Ytlhnfdjidjgfgaa
open Go.RowKit Go.Shelf
set_option linter.unusedVariables false
set_option maxHeartbeats 400000

noncomputable def endsF (ar : List Int) (cs : List (List Fc)) (gs : List Gt) : Bool × (Int × Int) :=
  if (takeF ar cs gs).2.1 ≠ 0 then (false, (takeF ar cs gs).2) else (decide (∃ c, (takeF ar cs gs).1.getLast? = some c ∧ c = []), (0, 0))
def leaf1 : T := .node 1 []
def apartC : List (List Fc) := [[⟨true, leaf1, leaf1⟩]]
def gClaim : Gt := ⟨1, 0, 0, 0, 0, false, [], []⟩
def gOnce : Gt := ⟨4, 0, 0, 0, 0, false, [], []⟩
theorem apart_code : codeF [0] [⟨true, leaf1, leaf1⟩] = 0 := by decide +kernel
theorem apart_none : codeF [0] [] = 0 := by decide +kernel
theorem apart_lore : loreF [0] apartC = (0, 0) := by decide +kernel
theorem apart_step1 : stepF [0] apartC [] gClaim = ([⟨true, leaf1, leaf1⟩], 0) := by
  have ho : outF apartC [] gClaim = [⟨true, leaf1, leaf1⟩] := by unfold outF; rw [if_pos (show gClaim.kind = 1 from rfl)]; rfl
  unfold stepF
  rw [if_neg (by decide), if_neg (by decide), if_neg (fun h => absurd h.1 (by decide)), if_neg (fun h => absurd h.1 (by decide)), ho, if_neg (by rw [apart_code]; simp)]
theorem apart_once : onceF [⟨true, leaf1, leaf1⟩] = [] := by
  show onceL [] [⟨true, leaf1, leaf1⟩] = []
  rw [onceL, if_pos (show skipP [] ⟨true, leaf1, leaf1⟩ from Or.inl ⟨rfl, rfl⟩)]; rfl
theorem apart_step2 : stepF [0] apartC [[⟨true, leaf1, leaf1⟩]] gOnce = ([], 0) := by
  have ho : outF apartC [[⟨true, leaf1, leaf1⟩]] gOnce = [] := by
    unfold outF
    rw [if_neg (show ¬ gOnce.kind = 1 by decide), if_neg (show ¬ gOnce.kind = 2 by decide), if_neg (show ¬ gOnce.kind = 3 by decide)]
    exact apart_once
  unfold stepF
  rw [if_neg (by decide), if_neg (by decide), if_neg (fun h => absurd h.1 (by decide)), if_neg (fun h => absurd h.1 (by decide)), ho, if_neg (by rw [apart_none]; simp)]
theorem apart_take : takeF [0] apartC [gClaim, gOnce] = ([[⟨true, leaf1, leaf1⟩], []], (0, 0)) := by
  unfold takeF
  rw [apart_lore, if_neg (by simp), if_neg (by simp), takeGo, apart_step1, if_neg (by simp)]
  show takeGo [0] apartC [gOnce] [[⟨true, leaf1, leaf1⟩]] _ = _
  rw [takeGo, apart_step2, if_neg (by simp), takeGo]; rfl
theorem apart_take0 : takeF [0] apartC [] = ([], (0, 0)) := by
  unfold takeF
  rw [apart_lore, if_neg (by simp), if_neg (by simp), takeGo]
theorem apart_ends : endsF [0] apartC [gClaim, gOnce] = (true, (0, 0)) := by
  unfold endsF
  rw [apart_take, if_neg (by simp)]
  congr 1
theorem apart_ends0 : endsF [0] apartC [] = (false, (0, 0)) := by
  unfold endsF
  rw [apart_take0, if_neg (by simp)]
  congr 1
end Go.Proofs.Ytlhnfdjidjgfgaa
namespace Go.Proofs.Ytlhnfdjidjgfgaa
open Go.RowKit Go.Shelf
set_option linter.unusedVariables false
set_option maxHeartbeats 400000

set_option maxRecDepth 100000 in
set_option maxHeartbeats 4000000 in
theorem apart30 (w : World) : Calls Try.prog 30 #[] w fun e w' => ∃ ao co, e = .returned (.agg #[.slice ao 1 1, .slice co 1 1]) ∧ intE.Row (fun b => w.heap.size ≤ b) w' ao [0] ∧ claimE.Row (fun b => w.heap.size ≤ b) w' co apartC ∧ Below w.heap.size w w' := by
  obtain ⟨bx, hbx⟩ : ∃ b, b = w.heap.size := ⟨_, rfl⟩
  have S1 := ((St.start w).box hbx.symm #[.slice none 0 0, .slice none 0 0] 25).box (b := bx + 1) (by simp [hbx]) #[.int .i64 0] 3
  have HBX := Lib.hid hbx
  go_enter Try.func30, Try.ntmps30
  go_wp2_with fail
  rw [← hbx]
  refine S1.gen (z := bx + 2) (by simp [hbx]) ?_
  intro w1 z1 S
  clear S1 hbx
  refine (S.quiet (leaf25 1 w1)).mono ?_
  rintro e w2 ⟨rfl, z2, S2⟩
  clear S
  go_wp2_with fail
  refine (S2.quiet (leaf25 1 w2)).mono ?_
  rintro e w3 ⟨rfl, z3, S3⟩
  have S4 := (S3.box (b := w3.heap.size) rfl #[.bool true, .int .i64 1, .slice none 0 0, .int .i64 1, .slice none 0 0] 62).box (b := w3.heap.size + 1) (by simp) #[.slice (some ⟨w3.heap.size, 0, none⟩) 1 1] 41
  have hz4 : bx + 2 ≤ w3.heap.size := by omega
  obtain ⟨⟨x0, x1⟩, x2, x3⟩ := S4.two 0
  have hl := S4.lt 0
  have SG := Lib.hid (S4.set2 0 rfl (.slice (some ⟨bx + 1, 0, none⟩) 1 1) (.slice (some ⟨w3.heap.size + 1, 0, none⟩) 1 1) (by have := HBX.out; omega) (by simp only [fsnoc, offs, offAll, Fct.box, and_true]; omega))
  clear S2 S3 S4
  go_wp2_with fail
  refine bodyPost_ret (v := .agg #[.slice (some ⟨bx + 1, 0, none⟩) 1 1, .slice (some ⟨w3.heap.size + 1, 0, none⟩) 1 1]) ?_ rfl ?_
  · obtain ⟨⟨z0, _⟩, z2, _⟩ := SG.out.two 0
    simp [results, Try.results30, go_sem, z0, z2]
  · have hx := HBX.out
    have k1 := SG.out.block 1
    have k3 := SG.out.block 3
    have k2 := fact_row5 (L := ⟨true, leaf1, leaf1⟩) (k1 := none) (k2 := none) (s1 := 0) (s2 := 0) (q := fun b => w.heap.size ≤ b) (SG.out.block 2) (by show w.heap.size ≤ w3.heap.size; omega) (TreeP.leaf _ _ 1) (TreeP.leaf _ _ 1)
    refine ⟨_, _, rfl, fun i x hi => ?_, fun i x hi => ?_, SG.out.bel⟩
    · match i with
      | 0 =>
        simp at hi; subst hi
        refine ⟨bx + 1, 0, [.int .i64 0], rfl, by show w.heap.size ≤ bx + 1; omega, fun j u hu => ?_, rfl⟩
        simp only [World.cell?, k1, Option.isSome_none]
        simpa using hu
      | i + 1 => simp at hi
    · match i with
      | 0 =>
        simp [apartC] at hi; subst hi
        refine ⟨w3.heap.size + 1, 0, [.slice (some ⟨w3.heap.size, 0, none⟩) 1 1], rfl, by show w.heap.size ≤ w3.heap.size + 1; omega, fun j u hu => ?_, some ⟨w3.heap.size, 0, none⟩, 0, rfl, k2, by show 1 ≤ maxLen; unfold maxLen; omega⟩
        simp only [World.cell?, k3, Option.isSome_none]
        simpa using hu
      | i + 1 => simp [apartC] at hi
end Go.Proofs.Ytlhnfdjidjgfgaa
namespace Go.Proofs.Ytlhnfdjidjgfgaa
open Go.RowKit Go.Shelf
set_option linter.unusedVariables false
set_option maxHeartbeats 400000

theorem takeF_len (ar : List Int) (cs : List (List Fc)) (gs : List Gt) : (takeF ar cs gs).1.length ≤ 400 := by
  unfold takeF
  split
  · simp
  · split
    · simp
    · rename_i h
      by_cases h0 : (takeGo ar cs gs [] 0).2.1 = 0
      · obtain ⟨more, e, hl⟩ := takeGo_ok h0
        rw [e]; simp; omega
      · rw [takeGo_err h0]; simp
theorem endsF_bad {ar : List Int} {cs : List (List Fc)} {gs : List Gt} {K : List (List Fc)} {c d : Int} (h : takeF ar cs gs = (K, (c, d))) (hc : c ≠ 0) : endsF ar cs gs = (false, (c, d)) := by
  unfold endsF
  rw [h, if_pos hc]
theorem endsF_nil {ar : List Int} {cs : List (List Fc)} {gs : List Gt} {d : Int} (h : takeF ar cs gs = ([], (0, d))) : endsF ar cs gs = (false, (0, 0)) := by
  unfold endsF
  rw [h, if_neg (by simp)]
  congr 1
theorem endsF_last {ar : List Int} {cs : List (List Fc)} {gs : List Gt} {K : List (List Fc)} {d : Int} (h : takeF ar cs gs = (K, (0, d))) (hk : 0 < K.length) : endsF ar cs gs = (decide ((K[K.length - 1]'(by omega)).length = 0), (0, 0)) := by
  unfold endsF
  rw [h, if_neg (by simp)]
  congr 1
  have hl : K.getLast? = some (K[K.length - 1]'(by omega)) := by rw [List.getLast?_eq_getElem?, List.getElem?_eq_getElem (by omega)]
  simp only [hl, Option.some.injEq, exists_eq_left', List.length_eq_zero_iff]
def EndsP (r : Bool × (Int × Int)) (w : World) (e : Ending) (w' : World) : Prop :=
  e = .returned (.tuple #[.bool r.1, .agg #[.int .i64 r.2.1, .int .i64 r.2.2]]) ∧ Below w.heap.size w w'

set_option maxRecDepth 100000 in
set_option maxHeartbeats 8000000 in
theorem ends21 (ar : List Int) (cs : List (List Fc)) (gs : List Gt) (ao co go_ : Option Addr) (ca cc gcap : Nat) (w : World)
    (ha : intE.Row (fun b => b < w.heap.size) w ao ar) (hc : claimE.Row (fun b => b < w.heap.size) w co cs) (hg : gotE.Row (fun b => b < w.heap.size) w go_ gs) (har : ar.length ≤ maxLen) (hcn : cs.length ≤ maxLen) (hgn : gs.length ≤ maxLen) :
    Calls Try.prog 21 #[.agg #[.slice ao ar.length ca, .slice co cs.length cc], .slice go_ gs.length gcap] w (EndsP (endsF ar cs gs) w) := by
  have HA := Lib.hid ha; have HC := Lib.hid hc; have HG := Lib.hid hg; have HAR := Lib.hid har; have HCN := Lib.hid hcn; have HGN := Lib.hid hgn
  obtain ⟨bx, hbx⟩ : ∃ b, b = w.heap.size := ⟨_, rfl⟩
  have S1 := ((St.start w).box hbx.symm #[.slice ao ar.length ca, .slice co cs.length cc] 25).box (b := bx + 1) (by simp [hbx]) #[.int .i64 0, .int .i64 0] 29
  have hsz1 : ((w.alloc (.cells #[.slice ao ar.length ca, .slice co cs.length cc] 25)).alloc (.cells #[.int .i64 0, .int .i64 0] 29)).heap.size = bx + 2 := by simp [hbx]
  have HBX := Lib.hid hbx
  obtain ⟨⟨x0, _⟩, x1, _⟩ := S1.two 0
  clear ha hc hg har hcn hgn
  go_enter Try.func21, Try.ntmps21
  go_wp2_with fail
  rw [← hbx]
  refine S1.gen (z := bx + 2) (by omega) ?_
  intro w1 z1 S
  clear S1 hbx hsz1 x0 x1
  refine (take20 ar cs gs ao co go_ ca cc gcap w1 ((HA.out.kept S.bel).mono (fun b h h2 => h2)) ((HC.out.kept S.bel).mono (fun b h h2 => h2)) ((HG.out.kept S.bel).mono (fun b h h2 => h2)) HAR.out HCN.out HGN.out).mono ?_
  rintro e w2 ⟨ro, sp, rfl, hro, hb2⟩
  obtain ⟨R, hR⟩ : ∃ X, X = takeF ar cs gs := ⟨_, rfl⟩
  rw [← hR] at hro ⊢
  have HR := Lib.hid hR.symm
  clear hR
  obtain ⟨K, C, D⟩ := R
  have S2 := S.step hb2
  have z2 := hb2.size
  have HRO := Lib.hid hro
  obtain ⟨b6, hb6⟩ : ∃ b, b = w2.heap.size := ⟨_, rfl⟩
  have S3 := S2.box hb6.symm #[.int .i64 C, .int .i64 D] 29
  have HB6 := Lib.hid (show bx + 2 ≤ b6 by omega)
  have HAL := Lib.hid (show Below w2.heap.size w2 (w2.alloc (.cells #[.int .i64 C, .int .i64 D] 29)) from (Below.refl _ w2).alloc (Nat.le_refl _) _)
  clear S S2 hb2 hro
  obtain ⟨⟨x0, _⟩, x1, _⟩ := S3.two 2
  obtain ⟨⟨y0, y1⟩, y2, y3⟩ := S3.two 1
  have hl := S3.lt 1
  have SB := Lib.hid S3
  clear S3
  have HBL := Lib.hid (fun (v0 v1 : Value) => show Below w.heap.size w (((w2.alloc (.cells #[.int .i64 C, .int .i64 D] 29)).setCell ⟨bx + 1, 0, none⟩ v0).setCell ⟨bx + 1, 1, none⟩ v1) from
    (SB.out.bel.setCell (p := ⟨bx + 1, 0, none⟩) (by have hx := HBX.out; show w.heap.size ≤ bx + 1; omega) _).setCell (p := ⟨bx + 1, 1, none⟩) (by have hx := HBX.out; show w.heap.size ≤ bx + 1; omega) _)
  by_cases hC : C = 0
  · subst hC
    rcases Nat.eq_zero_or_pos K.length with hk | hk
    · have hKn : K = [] := List.eq_nil_of_length_eq_zero hk
      subst hKn
      have HF := Lib.hid (endsF_nil HR.out)
      clear hk
      go_wp2_with fail
      refine ret_zf' (.bool false) (.int .i64 0) (.int .i64 0) (bx + 1) 29 (box2_set (SB.out.block 1) _ _) (fun w' q0 q1 => by simp [results, Try.results21, go_sem, q0, q1]) rfl ?_
      unfold EndsP
      rw [HF.out]
      exact ⟨rfl, HBL.out _ _⟩
    · have HF := Lib.hid (endsF_last HR.out hk)
      have hki : (0 : Int) < (K.length : Int) := by omega
      have hkl : K.length - 1 < K.length := by omega
      obtain ⟨kb, koff, ka, sa, rfl, _, ca0, hra, hml⟩ := (HRO.out.kept HAL.out).claim hkl
      have hnat : K.length ≤ 400 := by have h := takeF_len ar cs gs; rw [HR.out] at h; exact h
      have hw1 : IntKind.i64.wrap ((K.length : Int) - 1) = ((K.length - 1 : Nat) : Int) := by rw [IntWalk.i64_in _ (by omega)]; omega
      have hkl2 : ((K.length - 1 : Nat) : Int) < (K.length : Int) := by omega
      go_wp2_with fail
      refine ret_zf' (.bool (((K[K.length - 1]'hkl).length : Int) == 0)) (.int .i64 0) (.int .i64 0) (bx + 1) 29 (box2_set (SB.out.block 1) _ _) (fun w' q0 q1 => by simp [results, Try.results21, go_sem, q0, q1]) rfl ?_
      unfold EndsP
      rw [HF.out]
      have he : (((K[K.length - 1]'hkl).length : Int) == 0) = decide ((K[K.length - 1]'hkl).length = 0) := by
        rw [Bool.eq_iff_iff, beq_iff_eq, decide_eq_true_iff]; omega
      rw [he]
      exact ⟨rfl, HBL.out _ _⟩
  · have hcb : (C != 0) = true := by simp [hC]
    have HF := Lib.hid (endsF_bad HR.out hC)
    clear hC
    go_wp2_with fail
    go_region
    go_wp2_with fail
    refine ret_zf' (.bool false) (.int .i64 C) (.int .i64 D) (bx + 1) 29 (box2_set (SB.out.block 1) _ _) (fun w' q0 q1 => by simp [results, Try.results21, go_sem, q0, q1]) rfl ?_
    unfold EndsP
    rw [HF.out]
    exact ⟨rfl, (HBL.out _ _).drew⟩
end Go.Proofs.Ytlhnfdjidjgfgaa
namespace Go.Proofs.Ytlhnfdjidjgfgaa
open Go.RowKit Go.Shelf
set_option linter.unusedVariables false
set_option maxHeartbeats 400000

theorem gotE_row2 {w : World} {b : Nat} {q : Nat → Prop} (h : w.heap[b]? = some (.cells #[.int .i64 1, .int .i64 0, .int .i64 0, .int .i64 0, .int .i64 0, .bool false, .slice none 0 0, .slice none 0 0, .int .i64 4, .int .i64 0, .int .i64 0, .int .i64 0, .int .i64 0, .bool false, .slice none 0 0, .slice none 0 0] 35 (0, 0))) (hb : q b) :
    gotE.Row q w (some ⟨b, 0, none⟩) [gClaim, gOnce] := fun i g hi => by
  match i with
  | 0 =>
    simp at hi; subst hi
    refine ⟨b, 0, gotV gClaim none 0 none 0, rfl, hb, fun j u hu => ?_, none, 0, none, 0, rfl, Elt.Row.nil, Elt.Row.nil, by simp [gClaim], by simp [gClaim]⟩
    match j with
    | 0 | 1 | 2 | 3 | 4 | 5 | 6 | 7 => simp [gotV, gClaim] at hu; subst hu; simp [World.cell?, h]
    | j + 8 => simp [gotV] at hu
  | 1 =>
    simp at hi; subst hi
    refine ⟨b, 0, gotV gOnce none 0 none 0, rfl, hb, fun j u hu => ?_, none, 0, none, 0, rfl, Elt.Row.nil, Elt.Row.nil, by simp [gOnce], by simp [gOnce]⟩
    match j with
    | 0 | 1 | 2 | 3 | 4 | 5 | 6 | 7 => simp [gotV, gOnce] at hu; subst hu; simp [World.cell?, h, gotE]
    | j + 8 => simp [gotV] at hu
  | i + 2 => simp at hi

set_option maxRecDepth 100000 in
set_option maxHeartbeats 8000000 in
theorem traceFact23 (w : World) : Calls Try.prog 23 #[] w fun e w' => e = .returned (.bool true) ∧ Below w.heap.size w w' := by
  have S := St.start w
  go_enter Try.func23, Try.ntmps23
  go_wp2_with fail
  refine (apart30 w).mono ?_
  rintro e w1 ⟨ao, co, rfl, ha, hc, hb1⟩
  have S1 := S.step hb1
  have HA := Lib.hid ha; have HC := Lib.hid hc
  clear S ha hc hb1
  go_wp2_with fail
  have S2 := S1.box (b := w1.heap.size) rfl #[.int .i64 1, .int .i64 0, .int .i64 0, .int .i64 0, .int .i64 0, .bool false, .slice none 0 0, .slice none 0 0, .int .i64 4, .int .i64 0, .int .i64 0, .int .i64 0, .int .i64 0, .bool false, .slice none 0 0, .slice none 0 0] 35
  have hl := S2.lt 0
  have HAL := Lib.hid (show Below w1.heap.size w1 (w1.alloc (.cells #[.int .i64 1, .int .i64 0, .int .i64 0, .int .i64 0, .int .i64 0, .bool false, .slice none 0 0, .slice none 0 0, .int .i64 4, .int .i64 0, .int .i64 0, .int .i64 0, .int .i64 0, .bool false, .slice none 0 0, .slice none 0 0] 35)) from (Below.refl _ w1).alloc (Nat.le_refl _) _)
  refine (ends21 [0] apartC [gClaim, gOnce] ao co (some ⟨w1.heap.size, 0, none⟩) 1 1 2 _ ((HA.out.kept HAL.out).mono (fun b h h2 => h2)) ((HC.out.kept HAL.out).mono (fun b h h2 => h2)) (gotE_row2 (S2.block 0) hl) (by unfold maxLen; simp) (by unfold maxLen; simp [apartC]) (by unfold maxLen; simp)).mono ?_
  rintro e w2 ⟨rfl, hb2⟩
  rw [apart_ends]
  have S3 := S2.step hb2
  have S4 := S3.box (b := w2.heap.size) rfl #[.int .i64 0, .int .i64 0] 29
  clear S1 S2 S3 hl hb2 HA HC HAL
  obtain ⟨b2, hb2⟩ : ∃ b, b = w2.heap.size := ⟨_, rfl⟩
  go_wp2_with fail
  rw [← hb2] at S4 ⊢
  refine S4.gen (z := b2 + 1) (by simp [hb2]) ?_
  clear S4 hb2
  intro w3 z3 S4
  refine (apart30 w3).mono ?_
  rintro e w4 ⟨ao2, co2, rfl, ha, hc, hb4⟩
  have S5 := S4.step hb4
  have z4 := hb4.size
  have HA := Lib.hid ha; have HC := Lib.hid hc
  clear S4 ha hc hb4
  go_wp2_with fail
  refine (ends21 [0] apartC [] ao2 co2 none 1 1 0 w4 (HA.out.mono (fun b h h2 => h2)) (HC.out.mono (fun b h h2 => h2)) Elt.Row.nil (by unfold maxLen; simp) (by unfold maxLen; simp [apartC]) (by unfold maxLen; simp)).mono ?_
  rintro e w5 ⟨rfl, hb5⟩
  rw [apart_ends0]
  have S6 := S5.step hb5
  obtain ⟨b6, hb6⟩ : ∃ b, b = w5.heap.size := ⟨_, rfl⟩
  have S7 := S6.box hb6.symm #[.int .i64 0, .int .i64 0] 29
  obtain ⟨⟨x0, _⟩, x1, _⟩ := S7.two 1
  obtain ⟨⟨y0, _⟩, y1, _⟩ := S7.two 2
  have SB := Lib.hid S7
  clear S5 S6 S7 hb5 HA HC
  go_wp2_with fail
  go_ret
  exact ⟨rfl, SB.out.bel⟩
end Go.Proofs.Ytlhnfdjidjgfgaa
namespace Go.Proofs.Ytlhnfdjidjgfgaa
open Go.RowKit Go.Shelf
set_option linter.unusedVariables false
set_option maxHeartbeats 400000

theorem in24 (n lo hi : Int) (w : World) : Calls Try.prog 24 #[.int .i64 n, .int .i64 lo, .int .i64 hi] w fun e w' => e = .returned (.bool (decide (lo ≤ n ∧ n ≤ hi))) ∧ w' = w := by
  go_enter Try.func24, Try.ntmps24
  go_wp2
  all_goals (go_ret; exact ⟨ret_bool (by simp; try omega), rfl⟩)
theorem takeF_err {ar : List Int} {cs : List (List Fc)} {gs : List Gt} (h : (takeF ar cs gs).2.1 ≠ 0) : (takeF ar cs gs).1 = [] := by
  unfold takeF at h ⊢
  split
  · rfl
  · rename_i h1
    rw [if_neg h1] at h
    split
    · rfl
    · rename_i h2
      rw [if_neg h2] at h
      exact takeGo_err h
theorem takeF_code {ar : List Int} {cs : List (List Fc)} {gs : List Gt} : ∀ c ∈ (takeF ar cs gs).1, codeF ar c = 0 := by
  unfold takeF
  split
  · simp
  · rename_i h1
    split
    · simp
    · exact takeGo_code (loreF_zero (show (loreF ar cs).1 = 0 by simpa using h1)).2.2.2.2 (fun c h => by simp at h)
/-- the law: all is got, or the beginning is got or meets the same error, or there are too many -/
theorem takeF_part {ar : List Int} {cs : List (List Fc)} {gs : List Gt} (n : Nat) (hn : n ≤ gs.length) :
    ((takeF ar cs gs).2.1 ≠ 0 → (takeF ar cs (gs.take n)).2.1 = 0 ∨ (takeF ar cs gs).2 = (takeF ar cs (gs.take n)).2 ∨ 400 < gs.length) ∧
    ((takeF ar cs gs).2.1 = 0 → takeF ar cs (gs.take n) = ((takeF ar cs gs).1.take n, (0, 0)) ∧ (takeF ar cs gs).1.length = gs.length) := by
  unfold takeF
  by_cases h1 : (loreF ar cs).1 ≠ 0
  · rw [if_pos h1, if_pos h1]
    exact ⟨fun _ => .inr (.inl rfl), fun h => absurd h h1⟩
  · rw [if_neg h1, if_neg h1]
    by_cases h2 : 400 < gs.length
    · rw [if_pos h2]
      exact ⟨fun _ => .inr (.inr h2), fun h => by simp at h⟩
    · have hl : (gs.take n).length ≤ 400 := by simp; omega
      rw [if_neg h2, if_neg (by omega)]
      refine ⟨fun h => ?_, fun h => ?_⟩
      · rcases takeGo_bad n h with h3 | h3
        · exact .inl h3
        · exact .inr (.inl h3.symm)
      · have h3 := takeGo_part (known := []) n h hn
        obtain ⟨more, e, hm⟩ := takeGo_ok h
        refine ⟨by rw [h3]; simp, by rw [e]; simpa using hm⟩

set_option maxRecDepth 100000 in
set_option maxHeartbeats 8000000 in
theorem traceParts4 (ar : List Int) (cs : List (List Fc)) (gs : List Gt) (n : Int) (ao co go_ : Option Addr) (ca cc gcap : Nat) (w : World)
    (ha : intE.Row (fun b => b < w.heap.size) w ao ar) (hc : claimE.Row (fun b => b < w.heap.size) w co cs) (hg : gotE.Row (fun b => b < w.heap.size) w go_ gs) (har : ar.length ≤ maxLen) (hcn : cs.length ≤ maxLen) (hgc : gs.length ≤ gcap) (hgm : gcap ≤ maxLen) :
    Calls Try.prog 4 #[.agg #[.slice ao ar.length ca, .slice co cs.length cc], .slice go_ gs.length gcap, .int .i64 n] w fun e w' => e = .returned (.bool true) ∧ Below w.heap.size w w' := by
  have HA := Lib.hid ha; have HC := Lib.hid hc; have HG := Lib.hid hg; have HAR := Lib.hid har; have HCN := Lib.hid hcn
  have HGN := Lib.hid (show gs.length ≤ maxLen by omega)
  have hgm' : gcap ≤ 9223372036854775807 := by unfold maxLen at hgm; omega
  have hgn' : gs.length ≤ 9223372036854775807 := by omega
  obtain ⟨bx, hbx⟩ : ∃ b, b = w.heap.size := ⟨_, rfl⟩
  have S1 := (St.start w).box hbx.symm #[.slice ao ar.length ca, .slice co cs.length cc] 25
  have hsz1 : (w.alloc (.cells #[.slice ao ar.length ca, .slice co cs.length cc] 25)).heap.size = bx + 1 := by simp [hbx]
  have HBX := Lib.hid hbx
  clear ha hc hg har hcn hgm
  go_enter Try.func4, Try.ntmps4
  go_wp2_with fail
  rw [← hbx]
  refine S1.gen (z := bx + 1) (by omega) ?_
  intro w1 z1 S
  clear S1 hbx hsz1
  refine (S.quiet (traceFact23 w1)).mono ?_
  rintro e w2 ⟨rfl, z2, S2⟩
  clear S
  obtain ⟨⟨x0, _⟩, x1, _⟩ := S2.two 0
  go_wp2_with fail
  refine S2.gen (z := bx + 1) (by omega) ?_
  clear S2 x0 x1 z2
  intro w3 z3 S
  refine (take20 ar cs gs ao co go_ ca cc gcap w3 ((HA.out.kept S.bel).mono (fun b h h2 => h2)) ((HC.out.kept S.bel).mono (fun b h h2 => h2)) ((HG.out.kept S.bel).mono (fun b h h2 => h2)) HAR.out HCN.out HGN.out).mono ?_
  rintro e w4 ⟨ro, sp, rfl, hro, hb4⟩
  obtain ⟨R, hR⟩ : ∃ X, X = takeF ar cs gs := ⟨_, rfl⟩
  rw [← hR] at hro ⊢
  have HR := Lib.hid hR.symm
  clear hR
  obtain ⟨KK, C, D⟩ := R
  have S2 := S.step hb4
  have z4 := hb4.size
  obtain ⟨b9, hb9⟩ : ∃ b, b = w4.heap.size := ⟨_, rfl⟩
  have S3 := S2.box hb9.symm #[.int .i64 C, .int .i64 D] 29
  have HB9 := Lib.hid (show bx + 1 ≤ b9 by omega)
  have zz : b9 + 1 ≤ (w4.alloc (.cells #[.int .i64 C, .int .i64 D] 29)).heap.size := by simp [hb9]
  have HRO := Lib.hid ((hro.kept ((Below.refl _ w4).alloc (Nat.le_refl _) (.cells #[.int .i64 C, .int .i64 D] 29))).mono (q := fun b => b < (w4.alloc (.cells #[.int .i64 C, .int .i64 D] 29)).heap.size) (fun b h h2 => h2))
  clear S S2 hro hb4
  go_wp2_with fail
  rw [← hb9]
  clear hb9
  refine (in24 n 0 gs.length _).mono ?_
  rintro e w5 ⟨rfl, hw5⟩
  replace hw5 := hw5.symm
  subst hw5
  generalize (w4.alloc (.cells #[.int .i64 C, .int .i64 D] 29)) = w5 at *
  by_cases hin : 0 ≤ n ∧ n ≤ (gs.length : Int)
  · rw [decide_eq_true hin]
    obtain ⟨N, hN⟩ : ∃ N : Nat, (N : Int) = n := ⟨n.toNat, by omega⟩
    subst hN
    have hNg : N ≤ gs.length := by omega
    have hNgc : N ≤ gcap := by omega
    have hlN : (gs.take N).length = N := by simp; omega
    obtain ⟨R2, hR2⟩ : ∃ X, X = takeF ar cs (gs.take N) := ⟨_, rfl⟩
    have CT := Lib.hid (fun (W : World) (hb : Below w.heap.size w W) => show Calls Try.prog 20 #[.agg #[.slice ao ar.length ca, .slice co cs.length cc], .slice go_ N gcap] W (TakeP (takeF ar cs (gs.take N)) W) from by
      have h := take20 ar cs (gs.take N) ao co go_ ca cc gcap W ((HA.out.kept hb).mono (fun b h h2 => h2)) ((HC.out.kept hb).mono (fun b h h2 => h2)) (fun i x hi => ((HG.out.kept hb).mono (q := fun b => b < W.heap.size) (fun b h h2 => h2)) i x (by rw [List.getElem?_take] at hi; split at hi; exact hi; cases hi)) HAR.out HCN.out (by rw [hlN]; have := HGN.out; omega)
      rw [hlN] at h
      exact h)
    rw [← hR2] at CT
    have HR2e := Lib.hid hR2
    clear hR2
    obtain ⟨K2, C2, D2⟩ := R2
    obtain ⟨x0, x1⟩ := S3.two 0
    go_upto_region 7 with fail
    go_cut [10, 11] (fun t10 t11 W => ∃ b11 r2 sp2, t10 = .slice r2 K2.length (K2.length + sp2) ∧ t11 = .pointer (some ⟨b11, 0, none⟩) ∧ w5.heap.size ≤ b11 ∧ St w W [.box bx #[.slice ao ar.length ca, .slice co cs.length cc] 25, .box b9 #[.int .i64 C, .int .i64 D] 29, .box b11 #[.int .i64 C2, .int .i64 D2] 29] ∧ claimE.Row (fun _ => True) W r2 K2 ∧ Below w5.heap.size w5 W)
    case first =>
      have FC := Lib.hid (fun W (hb : Below w5.heap.size w5 W) => (⟨Below.cellOf hb x0.1, Below.cellOf hb x1.1⟩ : (fun W => W.cell? ⟨bx, 0, none⟩ = some (.slice ao ar.length ca) ∧ W.cell? ⟨bx, 1, none⟩ = some (.slice co cs.length cc)) W))
      have B0 := Lib.hid (Below.refl w5.heap.size w5).drew
      have SD := S3.drew
      have HZ5 := Lib.hid (show b9 + 1 ≤ w5.heap.size from zz)
      clear x0 x1 S3
      refine wpH_region [10] (fun W => W.cell? ⟨bx, 0, none⟩ = some (.slice ao ar.length ca) ∧ W.cell? ⟨bx, 1, none⟩ = some (.slice co cs.length cc)) (by kernel_rfl) ?_
      have HS := FC.out _ (Below.refl _ w5).drew
      refine wpH.take (i := 0) (by kernel_rfl) (by kernel_rfl) (by kernel_rfl) (by kernel_rfl) (by kernel_rfl) HS ?_
      intro oi ho
      simp only [List.getElem?_toArray, List.getElem?_cons_zero, Option.some.injEq] at ho
      subst ho
      refine ⟨?_, Or.inl ⟨by rfl, ?_⟩, fun _ _ _ h => h, ?_⟩
      rotate_left 1
      · intro W hW
        try dsimp only at hW
        go_simp
        try with_reducible rfl
      simp only [Act.put, List.setIfInBounds_toArray, List.set_cons_zero, List.set_cons_succ]
      refine wpH.take (i := 1) (by kernel_rfl) (by kernel_rfl) (by kernel_rfl) (by kernel_rfl) (by kernel_rfl) HS ?_
      intro oi ho
      simp only [List.getElem?_toArray, List.getElem?_cons_succ, List.getElem?_cons_zero, Option.some.injEq] at ho
      subst ho
      refine ⟨?_, Or.inl ⟨by rfl, ?_⟩, fun _ _ _ h => h, ?_⟩
      rotate_left 1
      · intro W hW
        try dsimp only at hW
        go_simp
        try with_reducible rfl
      simp only [Act.put, List.setIfInBounds_toArray, List.set_cons_zero, List.set_cons_succ]
      refine wpH.take (i := 2) (by kernel_rfl) (by kernel_rfl) (by kernel_rfl) (by kernel_rfl) (by kernel_rfl) HS ?_
      intro oi ho
      simp only [List.getElem?_toArray, List.getElem?_cons_succ, List.getElem?_cons_zero, Option.some.injEq] at ho
      subst ho
      refine ⟨?_, Or.inl ⟨by rfl, ?_⟩, fun _ _ _ h => h, ?_⟩
      rotate_left 1
      · intro W hW
        try dsimp only at hW
        go_simp
        try with_reducible rfl
      simp only [Act.put, List.setIfInBounds_toArray, List.set_cons_zero, List.set_cons_succ]
      refine wpH.take (i := 3) (by kernel_rfl) (by kernel_rfl) (by kernel_rfl) (by kernel_rfl) (by kernel_rfl) HS ?_
      intro oi ho
      simp only [List.getElem?_toArray, List.getElem?_cons_succ, List.getElem?_cons_zero, Option.some.injEq] at ho
      subst ho
      refine ⟨?_, Or.inl ⟨by rfl, ?_⟩, fun _ _ _ h => h, ?_⟩
      rotate_left 1
      · intro W hW
        try dsimp only at hW
        go_simp
        try with_reducible rfl
      simp only [Act.put, List.setIfInBounds_toArray, List.set_cons_zero, List.set_cons_succ]
      refine wpH.two (i := 4) (j := 8) (by kernel_rfl) ?_ ?_
      · intro oi ho
        simp only [List.getElem?_toArray, List.getElem?_cons_succ, List.getElem?_cons_zero, Option.some.injEq] at ho
        subst ho
        intro K hK
        have HK := Lib.hid hK
        clear hK
        go_simp
        go_at_call 20
        refine (CT.out w5.drew SD.bel).mono ?_
        rintro e w7 ⟨r2, sp2, rfl, hr2, hb⟩
        have S7 := SD.step hb
        have B7 := Lib.hid (Below.step B0.out hb)
        have zw7 : w5.heap.size ≤ w7.heap.size := hb.size
        have HR2 := Lib.hid (show claimE.Row (fun b => w5.drew.heap.size ≤ b) w7 r2 K2 from hr2)
        clear hr2 hb
        dsimp only
        refine HK.out _ _ (fun _ => FC.out _ B7.out) ?_
        have HS := FC.out _ B7.out
        try simp only [Act.put, List.setIfInBounds_toArray, List.set_cons_zero, List.set_cons_succ]
        refine wpH.take (i := 5) (by kernel_rfl) (by kernel_rfl) (by kernel_rfl) (by kernel_rfl) (by kernel_rfl) HS ?_
        intro oi ho
        simp only [List.getElem?_toArray, List.getElem?_cons_succ, List.getElem?_cons_zero, Option.some.injEq] at ho
        subst ho
        refine ⟨?_, Or.inl ⟨by rfl, ?_⟩, fun _ _ _ h => h, ?_⟩
        rotate_left 1
        · intro W hW
          try dsimp only at hW
          go_simp
          try with_reducible rfl
        simp only [Act.put, List.setIfInBounds_toArray, List.set_cons_zero, List.set_cons_succ]
        refine wpH.take (i := 6) (by kernel_rfl) (by kernel_rfl) (by kernel_rfl) (by kernel_rfl) (by kernel_rfl) HS ?_
        intro oi ho
        simp only [List.getElem?_toArray, List.getElem?_cons_succ, List.getElem?_cons_zero, Option.some.injEq] at ho
        subst ho
        refine ⟨?_, Or.inl ⟨by rfl, ?_⟩, fun _ _ _ h => h, ?_⟩
        rotate_left 1
        · intro W hW
          try dsimp only at hW
          go_simp
          try with_reducible rfl
        simp only [Act.put, List.setIfInBounds_toArray, List.set_cons_zero, List.set_cons_succ]
        refine wpH.take (i := 7) (by kernel_rfl) (by kernel_rfl) (by kernel_rfl) (by kernel_rfl) (by kernel_rfl) HS ?_
        intro oi ho
        simp only [List.getElem?_toArray, List.getElem?_cons_succ, List.getElem?_cons_zero, Option.some.injEq] at ho
        subst ho
        refine ⟨?_, Or.inl ⟨by rfl, ?_⟩, fun _ _ _ h => h, ?_⟩
        rotate_left 1
        · intro W hW
          try dsimp only at hW
          go_simp
          try with_reducible rfl
        simp only [Act.put, List.setIfInBounds_toArray, List.set_cons_zero, List.set_cons_succ]
        refine wpH.one (i := 8) (by kernel_rfl) ?_
        intro oi ho
        simp only [List.getElem?_toArray, List.getElem?_cons_succ, List.getElem?_cons_zero, Option.some.injEq] at ho
        subst ho
        intro K hK
        have HK := Lib.hid hK
        clear hK
        go_simp
        have S8 := S7.box (b := w7.heap.size) rfl #[.int .i64 0, .int .i64 0] 29
        have B8 := Lib.hid (B7.out.alloc B7.out.size (.cells #[.int .i64 0, .int .i64 0] 29))
        refine HK.out _ _ (fun _ => FC.out _ B8.out) ?_
        have HS := FC.out _ B8.out
        try simp only [Act.put, List.setIfInBounds_toArray, List.set_cons_zero, List.set_cons_succ]
        refine wpH.one (i := 9) (by kernel_rfl) ?_
        intro oi ho
        simp only [List.getElem?_toArray, List.getElem?_cons_succ, List.getElem?_cons_zero, Option.some.injEq] at ho
        subst ho
        intro K hK
        have HK := Lib.hid hK
        clear hK
        go_simp
        refine HK.out _ _ (fun _ => FC.out _ B8.out) ?_
        have HS := FC.out _ B8.out
        try simp only [Act.put, List.setIfInBounds_toArray, List.set_cons_zero, List.set_cons_succ]
        refine wpH.one (i := 10) (by kernel_rfl) ?_
        intro oi ho
        simp only [List.getElem?_toArray, List.getElem?_cons_succ, List.getElem?_cons_zero, Option.some.injEq] at ho
        subst ho
        intro K hK
        have HK := Lib.hid hK
        clear hK
        obtain ⟨⟨e0, e1⟩, e2, e3⟩ := S8.two 2
        have hl3 := S8.lt 2
        go_simp
        refine HK.out _ _ (fun h => absurd h (by decide)) ?_
        try simp only [Act.put, List.setIfInBounds_toArray, List.set_cons_zero, List.set_cons_succ]
        refine wpH.done (by kernel_rfl) ?_
        have SG := Lib.hid ((S7.box (b := w7.heap.size) rfl #[.int .i64 C2, .int .i64 D2] 29).pick [0, 1, 2])
        have HRR := Lib.hid (show claimE.Row (fun _ => True) (w7.alloc (.cells #[.int .i64 C2, .int .i64 D2] 29)) r2 K2 from (HR2.out.kept ((Below.refl _ w7).alloc (Nat.le_refl _) _)).mono (fun _ _ _ => trivial))
        have BB := Lib.hid (show Below w5.heap.size w5 (w7.alloc (.cells #[.int .i64 C2, .int .i64 D2] 29)) from B7.out.alloc B7.out.size _)
        have zz7 : w5.heap.size ≤ w7.heap.size := B7.out.size
        clear S7 S8 SD e0 e1 e2 e3
        try go_wp2_with fail
        go_meet
        case rel => exact ⟨w7.heap.size, r2, sp2, rfl, rfl, zz7, SG.out, HRR.out, BB.out⟩
      · intro oi ho
        simp only [List.getElem?_toArray, List.getElem?_cons_succ, List.getElem?_cons_zero, Option.some.injEq] at ho
        subst ho
        intro K hK
        have HK := Lib.hid hK
        clear hK
        go_simp
        have S6 := SD.box (b := w5.heap.size) rfl #[.int .i64 0, .int .i64 0] 29
        have B6 := Lib.hid (B0.out.alloc B0.out.size (.cells #[.int .i64 0, .int .i64 0] 29))
        refine HK.out _ _ (fun _ => FC.out _ B6.out) ?_
        have HS := FC.out _ B6.out
        try simp only [Act.put, List.setIfInBounds_toArray, List.set_cons_zero, List.set_cons_succ]
        refine wpH.one (i := 4) (by kernel_rfl) ?_
        intro oi ho
        simp only [List.getElem?_toArray, List.getElem?_cons_succ, List.getElem?_cons_zero, Option.some.injEq] at ho
        subst ho
        intro K hK
        have HK := Lib.hid hK
        clear hK
        go_simp
        go_at_call 20
        refine (CT.out (w5.alloc (.cells #[.int .i64 0, .int .i64 0] 29)).drew S6.bel).mono ?_
        rintro e w7 ⟨r2, sp2, rfl, hr2, hb⟩
        have S7 := S6.step hb
        have B7 := Lib.hid (Below.step B6.out hb)
        have zw7 : (w5.alloc (.cells #[.int .i64 0, .int .i64 0] 29)).heap.size ≤ w7.heap.size := hb.size
        have HR2 := Lib.hid (show claimE.Row (fun b => (w5.alloc (.cells #[.int .i64 0, .int .i64 0] 29)).drew.heap.size ≤ b) w7 r2 K2 from hr2)
        clear hr2 hb
        dsimp only
        refine HK.out _ _ (fun _ => FC.out _ B7.out) ?_
        have HS := FC.out _ B7.out
        try simp only [Act.put, List.setIfInBounds_toArray, List.set_cons_zero, List.set_cons_succ]
        refine wpH.take (i := 5) (by kernel_rfl) (by kernel_rfl) (by kernel_rfl) (by kernel_rfl) (by kernel_rfl) HS ?_
        intro oi ho
        simp only [List.getElem?_toArray, List.getElem?_cons_succ, List.getElem?_cons_zero, Option.some.injEq] at ho
        subst ho
        refine ⟨?_, Or.inl ⟨by rfl, ?_⟩, fun _ _ _ h => h, ?_⟩
        rotate_left 1
        · intro W hW
          try dsimp only at hW
          go_simp
          try with_reducible rfl
        simp only [Act.put, List.setIfInBounds_toArray, List.set_cons_zero, List.set_cons_succ]
        refine wpH.take (i := 6) (by kernel_rfl) (by kernel_rfl) (by kernel_rfl) (by kernel_rfl) (by kernel_rfl) HS ?_
        intro oi ho
        simp only [List.getElem?_toArray, List.getElem?_cons_succ, List.getElem?_cons_zero, Option.some.injEq] at ho
        subst ho
        refine ⟨?_, Or.inl ⟨by rfl, ?_⟩, fun _ _ _ h => h, ?_⟩
        rotate_left 1
        · intro W hW
          try dsimp only at hW
          go_simp
          try with_reducible rfl
        simp only [Act.put, List.setIfInBounds_toArray, List.set_cons_zero, List.set_cons_succ]
        refine wpH.take (i := 7) (by kernel_rfl) (by kernel_rfl) (by kernel_rfl) (by kernel_rfl) (by kernel_rfl) HS ?_
        intro oi ho
        simp only [List.getElem?_toArray, List.getElem?_cons_succ, List.getElem?_cons_zero, Option.some.injEq] at ho
        subst ho
        refine ⟨?_, Or.inl ⟨by rfl, ?_⟩, fun _ _ _ h => h, ?_⟩
        rotate_left 1
        · intro W hW
          try dsimp only at hW
          go_simp
          try with_reducible rfl
        simp only [Act.put, List.setIfInBounds_toArray, List.set_cons_zero, List.set_cons_succ]
        refine wpH.one (i := 9) (by kernel_rfl) ?_
        intro oi ho
        simp only [List.getElem?_toArray, List.getElem?_cons_succ, List.getElem?_cons_zero, Option.some.injEq] at ho
        subst ho
        intro K hK
        have HK := Lib.hid hK
        clear hK
        go_simp
        refine HK.out _ _ (fun _ => FC.out _ B7.out) ?_
        have HS := FC.out _ B7.out
        try simp only [Act.put, List.setIfInBounds_toArray, List.set_cons_zero, List.set_cons_succ]
        refine wpH.one (i := 10) (by kernel_rfl) ?_
        intro oi ho
        simp only [List.getElem?_toArray, List.getElem?_cons_succ, List.getElem?_cons_zero, Option.some.injEq] at ho
        subst ho
        intro K hK
        have HK := Lib.hid hK
        clear hK
        obtain ⟨⟨e0, e1⟩, e2, e3⟩ := S7.two 2
        have hl3 := S7.lt 2
        go_simp
        refine HK.out _ _ (fun h => absurd h (by decide)) ?_
        try simp only [Act.put, List.setIfInBounds_toArray, List.set_cons_zero, List.set_cons_succ]
        refine wpH.done (by kernel_rfl) ?_
        have SG := Lib.hid ((S7.set2 2 rfl (.int .i64 C2) (.int .i64 D2) (by have := HBX.out; have := HB9.out; have := HZ5.out; omega) (by have := HB9.out; have := HZ5.out; simp only [fsnoc, offs, offAll, Fct.box, and_true]; omega)).pick [0, 1, 2])
        have HRR := Lib.hid (show claimE.Row (fun _ => True) ((w7.setCell ⟨w5.heap.size, 0, none⟩ (.int .i64 C2)).setCell ⟨w5.heap.size, 1, none⟩ (.int .i64 D2)) r2 K2 from HR2.out.keep (fun b h1 h2 => ⟨(Below.heap_setCell _ _ _ _ (by show b ≠ w5.heap.size; have h1' : (w5.alloc (.cells #[.int .i64 0, .int .i64 0] 29)).heap.size ≤ b := h1; simp at h1'; omega)).trans (Below.heap_setCell _ _ _ _ (by show b ≠ w5.heap.size; have h1' : (w5.alloc (.cells #[.int .i64 0, .int .i64 0] 29)).heap.size ≤ b := h1; simp at h1'; omega)), trivial⟩))
        have BB := Lib.hid (show Below w5.heap.size w5 ((w7.setCell ⟨w5.heap.size, 0, none⟩ (.int .i64 C2)).setCell ⟨w5.heap.size, 1, none⟩ (.int .i64 D2)) from (B7.out.setCell (p := ⟨w5.heap.size, 0, none⟩) (Nat.le_refl _) _).setCell (p := ⟨w5.heap.size, 1, none⟩) (Nat.le_refl _) _)
        clear S6 S7 SD e0 e1 e2 e3
        try go_wp2_with fail
        go_meet
        case rel => exact ⟨w5.heap.size, r2, sp2, rfl, rfl, Nat.le_refl _, SG.out, HRR.out, BB.out⟩
    case rest =>
    obtain ⟨b11, r2, sp2, ht10, ht11, hb11, S, hr2, hbw⟩ := hcut
    subst ht10
    subst ht11
    have HRO2 := Lib.hid (HRO.out.kept hbw)
    have HR2 := Lib.hid hr2
    have HTP := Lib.hid (takeF_part (ar := ar) (cs := cs) (gs := gs) N hNg)
    rw [HR.out, ← HR2e.out] at HTP
    clear hr2 hbw x0 x1 S3
    obtain ⟨⟨x0, _⟩, x1, _⟩ := S.two 1
    obtain ⟨⟨y0, _⟩, y1, _⟩ := S.two 2
    by_cases hC : C = 0
    case neg =>
      have hcb : (C != 0) = true := by simp [hC]
      by_cases h2 : C2 = 0
      · have SB := Lib.hid S
        subst h2
        clear hC S
        go_wp2_with fail
        go_ret
        exact ⟨rfl, SB.out.bel⟩
      by_cases h3 : C = C2 ∧ D = D2
      · obtain ⟨rfl, rfl⟩ := h3
        have hcb2 : (C == 0) = false := by simp [hC]
        have SB := Lib.hid S
        clear hC S
        go_wp2_with fail
        go_ret
        exact ⟨rfl, SB.out.bel⟩
      have h4 : 400 < gs.length := by
        rcases HTP.out.1 hC with h | h | h
        · exact absurd h h2
        · simp only [Prod.mk.injEq] at h; exact absurd h h3
        · exact h
      have h4i : (400 : Int) < (gs.length : Int) := by omega
      have hcb2 : (C2 == 0) = false := by simp [h2]
      have SB := Lib.hid S
      by_cases h5 : C = C2
      · have h6 : D ≠ D2 := fun h => h3 ⟨h5, h⟩
        have h6b : (D == D2) = false := by simp [h6]
        subst h5
        clear hC S h2 h3 h6
        go_wp2_with fail
        go_ret
        exact ⟨rfl, SB.out.bel⟩
      · have h6b : (C == C2) = false := by simp [h5]
        clear hC S h2 h3 h5
        go_wp2_with fail
        go_ret
        exact ⟨rfl, SB.out.bel⟩
    case pos =>
    subst hC
    have HE := Lib.hid (HTP.out.2 rfl).1
    have hkk : KK.length = gs.length := (HTP.out.2 rfl).2
    have hk2 : K2.length = N := by have h := congrArg (fun x => x.1.length) HE.out; simp at h; omega
    have hc2 : C2 = 0 := congrArg (fun x => x.2.1) HE.out
    have HK2 := Lib.hid (show K2 = KK.take N from congrArg Prod.fst HE.out)
    have HKL := Lib.hid (show KK.length ≤ 400 by have h := takeF_len ar cs gs; rw [HR.out] at h; exact h)
    subst hc2
    have HSM := Lib.hid (show ∀ (i : Nat) (h1 : i < KK.length) (h2 : i < K2.length), KK[i] = K2[i] from fun i h1 h2 => by simp [HK2.out])
    have HKK := Lib.hid hkk
    have HCC := Lib.hid (show ∀ c ∈ KK, codeF ar c = 0 from fun c hc => takeF_code (ar := ar) (cs := cs) (gs := gs) c (by rw [HR.out]; exact hc))
    have hNi : N ≤ 9223372036854775807 := by omega
    go_wp2_with fail
    have S := S.pick [0]
    clear x0 x1 y0 y1
    go_loopw [12] (fun i wr => ∃ k : Nat, k ≤ N ∧ i = .int .i64 k ∧ Below wc.heap.size wc wr ∧ St w wr [.box bx #[.slice ao ar.length ca, .slice co cs.length cc] 25]) (fun i _ => N - (intOf i).toNat)
    case atStart => exact ⟨0, by omega, rfl, Below.refl _ _, S⟩
    case round =>
      clear S
      obtain ⟨k, hk, rfl, hbk, S⟩ := hrel
      by_cases hlt : k < N
      · have hlti : (k : Int) < (N : Int) := by omega
        have hK1 : k < KK.length := by omega
        have hK2 : k < K2.length := by omega
        obtain ⟨b1, off1, k1, s1, rfl, _, c1, r1, _⟩ := (HRO2.out.kept hbk).claim hK1
        obtain ⟨b2, off2, k2, s2, rfl, _, c2, r2', _⟩ := (HR2.out.kept hbk).claim hK2
        have hKe := HSM.out k hK1 hK2
        obtain ⟨F1, hF1⟩ : ∃ X, X = KK[k] := ⟨_, rfl⟩
        obtain ⟨F2, hF2⟩ : ∃ X, X = K2[k] := ⟨_, rfl⟩
        have HL1 := Lib.hid (show F1.length ≤ 6 by rw [hF1]; exact (code_small (HCC.out _ (List.getElem_mem hK1))).1)
        rw [← hF1] at c1 r1 hKe
        rw [← hF2] at c2 r2' hKe
        subst hKe
        have HX1 := Lib.hid r1; have HX2 := Lib.hid r2'
        have CN := Lib.hid (fun d os => Calls.regrown_of (sameClaim20 F1 F1 _ _ k1 k2 (F1.length + s1) (F1.length + s2) (Go.Sort.grow (redrawn wr d) os) (HX1.out.kept (below_regrown wr d os)) (HX2.out.kept (below_regrown wr d os)) (by have := HL1.out; omega) (by have := HL1.out; omega)))
        rw [decide_eq_true (rfl : F1 = F1)] at CN
        have q1 := cell_regrown c1; have q2 := cell_regrown c2
        have hK1i : (k : Int) < (KK.length : Int) := by omega
        have hK2i : (k : Int) < (K2.length : Int) := by omega
        clear r1 r2' c1 c2 hF1 hF2
        go_wp2_with fail
        refine wp_region_quiet_below (by kernel_rfl) (by kernel_rfl) ?_
        iterate 10 (go_big_quiet_step (exact CN.out _ _))
        refine wpQuiet_nil ?_
        intro _ hw'
        obtain ⟨⟨dq, osq⟩, hw''⟩ := hw'
        subst hw''
        have S2 := S.regrown dq osq
        have hb2 := Below.step hbk (below_regrown wr dq osq)
        clear q1 q2 S
        go_wp2_with fail
        go_roundw
        case rel => exact ⟨k + 1, by omega, by go_num, hb2, S2⟩
        case measure => simp [intOf] <;> omega
      · have SB := Lib.hid S
        clear S
        go_wp2_with fail
        go_ret
        exact ⟨rfl, SB.out.bel⟩
  · rw [decide_eq_false hin]
    obtain ⟨⟨x0, _⟩, x1, _⟩ := S3.two 1
    have SB := Lib.hid S3
    clear S3 hin
    by_cases hC : C = 0
    · subst hC
      go_wp2_with fail
      go_ret
      exact ⟨rfl, SB.out.bel⟩
    · have hcb : (C == 0) = false := by simp [hC]
      have hKn : KK = [] := by
        have h := takeF_err (ar := ar) (cs := cs) (gs := gs) (by rw [HR.out]; exact hC)
        rw [HR.out] at h; exact h
      subst hKn
      clear hC
      go_wp2_with fail
      go_ret
      exact ⟨rfl, SB.out.bel⟩
end Go.Proofs.Ytlhnfdjidjgfgaa
