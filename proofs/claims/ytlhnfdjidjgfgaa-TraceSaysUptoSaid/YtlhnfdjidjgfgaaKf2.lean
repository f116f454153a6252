/-
  Plain: a derivation that ends, of one claim that is not so; what Ends answers.
  Walk: the lore of apart.
  Walks: trace.Ends, the closed fact of the law.
-/
import Derived.Test.YtlhnfdjidjgfgaaTr0
import Derived.Test.YtlhnfdjidjgfgaaProg
import Derived.Test.YtlhnfdjidjgfgaaXb
import Derived.Test.YtlhnfdjidjgfgaaXd
import Derived.Test.YtlhnfdjidjgfgaaE6
import Derived.Test.YtlhnfdjidjgfgaaK61
import Derived.RegionTactic
import Derived.Test.YtlhnfdjidjgfgaaK9
namespace Go.Proofs.Ytlhnfdjidjgfgaa
open Go.RowKit Go.Shelf
set_option linter.unusedVariables false
set_option maxHeartbeats 400000

noncomputable def endsF (ar : List Int) (cs : List (List Fc)) (gs : List Gt) : Bool × (Int × Int) :=
  if (takeF ar cs gs).2.1 ≠ 0 then (false, (takeF ar cs gs).2) else (decide (∃ c, (takeF ar cs gs).1.getLast? = some c ∧ c = []), (0, 0))
def leaf1 : T := .node 1 []
def apartC : List (List Fc) := [[⟨true, leaf1, leaf1⟩]]
def gClaim : Gt := ⟨1, 0, 0, 0, 0, false, [], []⟩
def gOnce : Gt := ⟨4, 0, 0, 0, 0, false, [], []⟩
theorem apart_code : codeF [0] [⟨true, leaf1, leaf1⟩] = 0 := by decide +kernel
theorem apart_none : codeF [0] [] = 0 := by decide +kernel
theorem apart_lore : loreF [0] apartC = (0, 0) := by decide +kernel
theorem apart_step1 : stepF [0] apartC [] gClaim = ([⟨true, leaf1, leaf1⟩], 0) := by
  have ho : outF apartC [] gClaim = [⟨true, leaf1, leaf1⟩] := by unfold outF; rw [if_pos (show gClaim.kind = 1 from rfl)]; rfl
  unfold stepF
  rw [if_neg (by decide), if_neg (by decide), if_neg (fun h => absurd h.1 (by decide)), if_neg (fun h => absurd h.1 (by decide)), ho, if_neg (by rw [apart_code]; simp)]
theorem apart_once : onceF [⟨true, leaf1, leaf1⟩] = [] := by
  show onceL [] [⟨true, leaf1, leaf1⟩] = []
  rw [onceL, if_pos (show skipP [] ⟨true, leaf1, leaf1⟩ from Or.inl ⟨rfl, rfl⟩)]; rfl
theorem apart_step2 : stepF [0] apartC [[⟨true, leaf1, leaf1⟩]] gOnce = ([], 0) := by
  have ho : outF apartC [[⟨true, leaf1, leaf1⟩]] gOnce = [] := by
    unfold outF
    rw [if_neg (show ¬ gOnce.kind = 1 by decide), if_neg (show ¬ gOnce.kind = 2 by decide), if_neg (show ¬ gOnce.kind = 3 by decide)]
    exact apart_once
  unfold stepF
  rw [if_neg (by decide), if_neg (by decide), if_neg (fun h => absurd h.1 (by decide)), if_neg (fun h => absurd h.1 (by decide)), ho, if_neg (by rw [apart_none]; simp)]
theorem apart_take : takeF [0] apartC [gClaim, gOnce] = ([[⟨true, leaf1, leaf1⟩], []], (0, 0)) := by
  unfold takeF
  rw [apart_lore, if_neg (by simp), if_neg (by simp), takeGo, apart_step1, if_neg (by simp)]
  show takeGo [0] apartC [gOnce] [[⟨true, leaf1, leaf1⟩]] _ = _
  rw [takeGo, apart_step2, if_neg (by simp), takeGo]; rfl
theorem apart_take0 : takeF [0] apartC [] = ([], (0, 0)) := by
  unfold takeF
  rw [apart_lore, if_neg (by simp), if_neg (by simp), takeGo]
theorem apart_ends : endsF [0] apartC [gClaim, gOnce] = (true, (0, 0)) := by
  unfold endsF
  rw [apart_take, if_neg (by simp)]
  congr 1
theorem apart_ends0 : endsF [0] apartC [] = (false, (0, 0)) := by
  unfold endsF
  rw [apart_take0, if_neg (by simp)]
  congr 1
end Go.Proofs.Ytlhnfdjidjgfgaa
namespace Go.Proofs.Ytlhnfdjidjgfgaa
open Go.RowKit Go.Shelf
set_option linter.unusedVariables false
set_option maxHeartbeats 400000

set_option maxRecDepth 100000 in
set_option maxHeartbeats 4000000 in
theorem apart30 (w : World) : Calls Try.prog 30 #[] w fun e w' => ∃ ao co, e = .returned (.agg #[.slice ao 1 1, .slice co 1 1]) ∧ intE.Row (fun b => w.heap.size ≤ b) w' ao [0] ∧ claimE.Row (fun b => w.heap.size ≤ b) w' co apartC ∧ Below w.heap.size w w' := by
  obtain ⟨bx, hbx⟩ : ∃ b, b = w.heap.size := ⟨_, rfl⟩
  have S1 := ((St.start w).box hbx.symm #[.slice none 0 0, .slice none 0 0] 25).box (b := bx + 1) (by simp [hbx]) #[.int .i64 0] 3
  have HBX := Lib.hid hbx
  go_enter Try.func30, Try.ntmps30
  go_wp2_with fail
  rw [← hbx]
  refine S1.gen (z := bx + 2) (by simp [hbx]) ?_
  intro w1 z1 S
  clear S1 hbx
  refine (S.quiet (leaf25 1 w1)).mono ?_
  rintro e w2 ⟨rfl, z2, S2⟩
  clear S
  go_wp2_with fail
  refine (S2.quiet (leaf25 1 w2)).mono ?_
  rintro e w3 ⟨rfl, z3, S3⟩
  have S4 := (S3.box (b := w3.heap.size) rfl #[.bool true, .int .i64 1, .slice none 0 0, .int .i64 1, .slice none 0 0] 62).box (b := w3.heap.size + 1) (by simp) #[.slice (some ⟨w3.heap.size, 0, none⟩) 1 1] 41
  have hz4 : bx + 2 ≤ w3.heap.size := by omega
  obtain ⟨⟨x0, x1⟩, x2, x3⟩ := S4.two 0
  have hl := S4.lt 0
  have SG := Lib.hid (S4.set2 0 rfl (.slice (some ⟨bx + 1, 0, none⟩) 1 1) (.slice (some ⟨w3.heap.size + 1, 0, none⟩) 1 1) (by have := HBX.out; omega) (by simp only [fsnoc, offs, offAll, Fct.box, and_true]; omega))
  clear S2 S3 S4
  go_wp2_with fail
  refine bodyPost_ret (v := .agg #[.slice (some ⟨bx + 1, 0, none⟩) 1 1, .slice (some ⟨w3.heap.size + 1, 0, none⟩) 1 1]) ?_ rfl ?_
  · obtain ⟨⟨z0, _⟩, z2, _⟩ := SG.out.two 0
    simp [results, Try.results30, go_sem, z0, z2]
  · have hx := HBX.out
    have k1 := SG.out.block 1
    have k3 := SG.out.block 3
    have k2 := fact_row5 (L := ⟨true, leaf1, leaf1⟩) (k1 := none) (k2 := none) (s1 := 0) (s2 := 0) (q := fun b => w.heap.size ≤ b) (SG.out.block 2) (by show w.heap.size ≤ w3.heap.size; omega) (TreeP.leaf _ _ 1) (TreeP.leaf _ _ 1)
    refine ⟨_, _, rfl, fun i x hi => ?_, fun i x hi => ?_, SG.out.bel⟩
    · match i with
      | 0 =>
        simp at hi; subst hi
        refine ⟨bx + 1, 0, [.int .i64 0], rfl, by show w.heap.size ≤ bx + 1; omega, fun j u hu => ?_, rfl⟩
        simp only [World.cell?, k1, Option.isSome_none]
        simpa using hu
      | i + 1 => simp at hi
    · match i with
      | 0 =>
        simp [apartC] at hi; subst hi
        refine ⟨w3.heap.size + 1, 0, [.slice (some ⟨w3.heap.size, 0, none⟩) 1 1], rfl, by show w.heap.size ≤ w3.heap.size + 1; omega, fun j u hu => ?_, some ⟨w3.heap.size, 0, none⟩, 0, rfl, k2, by show 1 ≤ maxLen; unfold maxLen; omega⟩
        simp only [World.cell?, k3, Option.isSome_none]
        simpa using hu
      | i + 1 => simp [apartC] at hi
end Go.Proofs.Ytlhnfdjidjgfgaa
namespace Go.Proofs.Ytlhnfdjidjgfgaa
open Go.RowKit Go.Shelf
set_option linter.unusedVariables false
set_option maxHeartbeats 400000

theorem takeF_len (ar : List Int) (cs : List (List Fc)) (gs : List Gt) : (takeF ar cs gs).1.length ≤ 400 := by
  unfold takeF
  split
  · simp
  · split
    · simp
    · rename_i h
      by_cases h0 : (takeGo ar cs gs [] 0).2.1 = 0
      · obtain ⟨more, e, hl⟩ := takeGo_ok h0
        rw [e]; simp; omega
      · rw [takeGo_err h0]; simp
theorem endsF_bad {ar : List Int} {cs : List (List Fc)} {gs : List Gt} {K : List (List Fc)} {c d : Int} (h : takeF ar cs gs = (K, (c, d))) (hc : c ≠ 0) : endsF ar cs gs = (false, (c, d)) := by
  unfold endsF
  rw [h, if_pos hc]
theorem endsF_nil {ar : List Int} {cs : List (List Fc)} {gs : List Gt} {d : Int} (h : takeF ar cs gs = ([], (0, d))) : endsF ar cs gs = (false, (0, 0)) := by
  unfold endsF
  rw [h, if_neg (by simp)]
  congr 1
theorem endsF_last {ar : List Int} {cs : List (List Fc)} {gs : List Gt} {K : List (List Fc)} {d : Int} (h : takeF ar cs gs = (K, (0, d))) (hk : 0 < K.length) : endsF ar cs gs = (decide ((K[K.length - 1]'(by omega)).length = 0), (0, 0)) := by
  unfold endsF
  rw [h, if_neg (by simp)]
  congr 1
  have hl : K.getLast? = some (K[K.length - 1]'(by omega)) := by rw [List.getLast?_eq_getElem?, List.getElem?_eq_getElem (by omega)]
  simp only [hl, Option.some.injEq, exists_eq_left', List.length_eq_zero_iff]
def EndsP (r : Bool × (Int × Int)) (w : World) (e : Ending) (w' : World) : Prop :=
  e = .returned (.tuple #[.bool r.1, .agg #[.int .i64 r.2.1, .int .i64 r.2.2]]) ∧ Below w.heap.size w w'

set_option maxRecDepth 100000 in
set_option maxHeartbeats 8000000 in
theorem ends21 (ar : List Int) (cs : List (List Fc)) (gs : List Gt) (ao co go_ : Option Addr) (ca cc gcap : Nat) (w : World)
    (ha : intE.Row (fun b => b < w.heap.size) w ao ar) (hc : claimE.Row (fun b => b < w.heap.size) w co cs) (hg : gotE.Row (fun b => b < w.heap.size) w go_ gs) (har : ar.length ≤ maxLen) (hcn : cs.length ≤ maxLen) (hgn : gs.length ≤ maxLen) :
    Calls Try.prog 21 #[.agg #[.slice ao ar.length ca, .slice co cs.length cc], .slice go_ gs.length gcap] w (EndsP (endsF ar cs gs) w) := by
  have HA := Lib.hid ha; have HC := Lib.hid hc; have HG := Lib.hid hg; have HAR := Lib.hid har; have HCN := Lib.hid hcn; have HGN := Lib.hid hgn
  obtain ⟨bx, hbx⟩ : ∃ b, b = w.heap.size := ⟨_, rfl⟩
  have S1 := ((St.start w).box hbx.symm #[.slice ao ar.length ca, .slice co cs.length cc] 25).box (b := bx + 1) (by simp [hbx]) #[.int .i64 0, .int .i64 0] 29
  have hsz1 : ((w.alloc (.cells #[.slice ao ar.length ca, .slice co cs.length cc] 25)).alloc (.cells #[.int .i64 0, .int .i64 0] 29)).heap.size = bx + 2 := by simp [hbx]
  have HBX := Lib.hid hbx
  obtain ⟨⟨x0, _⟩, x1, _⟩ := S1.two 0
  clear ha hc hg har hcn hgn
  go_enter Try.func21, Try.ntmps21
  go_wp2_with fail
  rw [← hbx]
  refine S1.gen (z := bx + 2) (by omega) ?_
  intro w1 z1 S
  clear S1 hbx hsz1 x0 x1
  refine (take20 ar cs gs ao co go_ ca cc gcap w1 ((HA.out.kept S.bel).mono (fun b h h2 => h2)) ((HC.out.kept S.bel).mono (fun b h h2 => h2)) ((HG.out.kept S.bel).mono (fun b h h2 => h2)) HAR.out HCN.out HGN.out).mono ?_
  rintro e w2 ⟨ro, sp, rfl, hro, hb2⟩
  obtain ⟨R, hR⟩ : ∃ X, X = takeF ar cs gs := ⟨_, rfl⟩
  rw [← hR] at hro ⊢
  have HR := Lib.hid hR.symm
  clear hR
  obtain ⟨K, C, D⟩ := R
  have S2 := S.step hb2
  have z2 := hb2.size
  have HRO := Lib.hid hro
  obtain ⟨b6, hb6⟩ : ∃ b, b = w2.heap.size := ⟨_, rfl⟩
  have S3 := S2.box hb6.symm #[.int .i64 C, .int .i64 D] 29
  have HB6 := Lib.hid (show bx + 2 ≤ b6 by omega)
  have HAL := Lib.hid (show Below w2.heap.size w2 (w2.alloc (.cells #[.int .i64 C, .int .i64 D] 29)) from (Below.refl _ w2).alloc (Nat.le_refl _) _)
  clear S S2 hb2 hro
  obtain ⟨⟨x0, _⟩, x1, _⟩ := S3.two 2
  obtain ⟨⟨y0, y1⟩, y2, y3⟩ := S3.two 1
  have hl := S3.lt 1
  have SB := Lib.hid S3
  clear S3
  have HBL := Lib.hid (fun (v0 v1 : Value) => show Below w.heap.size w (((w2.alloc (.cells #[.int .i64 C, .int .i64 D] 29)).setCell ⟨bx + 1, 0, none⟩ v0).setCell ⟨bx + 1, 1, none⟩ v1) from
    (SB.out.bel.setCell (p := ⟨bx + 1, 0, none⟩) (by have hx := HBX.out; show w.heap.size ≤ bx + 1; omega) _).setCell (p := ⟨bx + 1, 1, none⟩) (by have hx := HBX.out; show w.heap.size ≤ bx + 1; omega) _)
  by_cases hC : C = 0
  · subst hC
    rcases Nat.eq_zero_or_pos K.length with hk | hk
    · have hKn : K = [] := List.eq_nil_of_length_eq_zero hk
      subst hKn
      have HF := Lib.hid (endsF_nil HR.out)
      clear hk
      go_wp2_with fail
      refine ret_zf' (.bool false) (.int .i64 0) (.int .i64 0) (bx + 1) 29 (box2_set (SB.out.block 1) _ _) (fun w' q0 q1 => by simp [results, Try.results21, go_sem, q0, q1]) rfl ?_
      unfold EndsP
      rw [HF.out]
      exact ⟨rfl, HBL.out _ _⟩
    · have HF := Lib.hid (endsF_last HR.out hk)
      have hki : (0 : Int) < (K.length : Int) := by omega
      have hkl : K.length - 1 < K.length := by omega
      obtain ⟨kb, koff, ka, sa, rfl, _, ca0, hra, hml⟩ := (HRO.out.kept HAL.out).claim hkl
      have hnat : K.length ≤ 400 := by have h := takeF_len ar cs gs; rw [HR.out] at h; exact h
      have hw1 : IntKind.i64.wrap ((K.length : Int) - 1) = ((K.length - 1 : Nat) : Int) := by rw [IntWalk.i64_in _ (by omega)]; omega
      have hkl2 : ((K.length - 1 : Nat) : Int) < (K.length : Int) := by omega
      go_wp2_with fail
      refine ret_zf' (.bool (((K[K.length - 1]'hkl).length : Int) == 0)) (.int .i64 0) (.int .i64 0) (bx + 1) 29 (box2_set (SB.out.block 1) _ _) (fun w' q0 q1 => by simp [results, Try.results21, go_sem, q0, q1]) rfl ?_
      unfold EndsP
      rw [HF.out]
      have he : (((K[K.length - 1]'hkl).length : Int) == 0) = decide ((K[K.length - 1]'hkl).length = 0) := by
        rw [Bool.eq_iff_iff, beq_iff_eq, decide_eq_true_iff]; omega
      rw [he]
      exact ⟨rfl, HBL.out _ _⟩
  · have hcb : (C != 0) = true := by simp [hC]
    have HF := Lib.hid (endsF_bad HR.out hC)
    clear hC
    go_wp2_with fail
    go_region
    go_wp2_with fail
    refine ret_zf' (.bool false) (.int .i64 C) (.int .i64 D) (bx + 1) 29 (box2_set (SB.out.block 1) _ _) (fun w' q0 q1 => by simp [results, Try.results21, go_sem, q0, q1]) rfl ?_
    unfold EndsP
    rw [HF.out]
    exact ⟨rfl, (HBL.out _ _).drew⟩
end Go.Proofs.Ytlhnfdjidjgfgaa
