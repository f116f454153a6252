/-
  Walk: pat.check.
-/
import Derived.Test.YtlhnfdjidjgfgaaProg
import Derived.Test.YtlhnfdjidjgfgaaV5
import Derived.Test.YtlhnfdjidjgfgaaSt3
import Derived.RegionTactic
namespace Go.Proofs.Ytlhnfdjidjgfgaa
open Go.RowKit Go.Shelf
set_option linter.unusedVariables false
set_option maxHeartbeats 400000

/-- what is wrong with grounds -/
noncomputable def pchk (ar : List Int) : List T → Int → Int × Int
  | [], _ => (0, 0)
  | t :: r, i => if codeF ar [⟨false, t, t⟩] ≠ 0 then (codeF ar [⟨false, t, t⟩], -2 - i) else if 0 < t.most then (11, -2 - i) else pchk ar r (i + 1)
noncomputable def pchkF (ar : List Int) (cs : List (List Fc)) (ts : List T) : Int × Int :=
  if (loreF ar cs).1 ≠ 0 then loreF ar cs else if 60 < ts.length then (2, -1) else pchk ar ts 0

set_option maxRecDepth 100000 in
set_option maxHeartbeats 4000000 in
theorem check72 (ar : List Int) (cs : List (List Fc)) (ts : List T) (ao co to_ : Option Addr) (ca cc tc : Nat) (w : World) (ha : intE.Row (fun b => b < w.heap.size) w ao ar) (hc : claimE.Row (fun b => b < w.heap.size) w co cs) (ht : treeE.Row (fun b => b < w.heap.size) w to_ ts) (har : ar.length ≤ maxLen) (hcn : cs.length ≤ maxLen) (htn : ts.length ≤ maxLen) :
    Calls Try.prog 72 #[.agg #[.slice ao ar.length ca, .slice co cs.length cc], .slice to_ ts.length tc] w fun e w' => e = .returned (FV (pchkF ar cs ts)) ∧ Below w.heap.size w w' := by
  have HA := Lib.hid ha; have HC := Lib.hid hc; have HT := Lib.hid ht; have HAR := Lib.hid har; have HCN := Lib.hid hcn
  have htn' : ts.length ≤ 9223372036854775807 := by unfold maxLen at htn; omega
  obtain ⟨bx, hbx⟩ : ∃ b, b = w.heap.size := ⟨_, rfl⟩
  have S1 := ((St.start w).box hbx.symm #[.slice ao ar.length ca, .slice co cs.length cc] 25).box (b := bx + 1) (by simp [hbx]) #[.int .i64 0, .int .i64 0] 29
  have hsz1 : ((w.alloc (.cells #[.slice ao ar.length ca, .slice co cs.length cc] 25)).alloc (.cells #[.int .i64 0, .int .i64 0] 29)).heap.size = bx + 2 := by simp [hbx]
  have HBX := Lib.hid hbx
  obtain ⟨⟨x0, _⟩, x1, _⟩ := S1.two 0
  clear ha hc ht har hcn htn
  go_enter Try.func72, Try.ntmps72
  go_wp2_with fail
  rw [← hbx]
  refine S1.gen (z := bx + 2) (by omega) ?_
  intro w1 z1 S
  clear S1 hbx hsz1 x0 x1
  refine (S.faultF (lore79 ar cs _ _ ao co ca cc w1 (HA.out.kept S.bel) (HC.out.kept S.bel) HAR.out HCN.out)).mono ?_
  rintro e w2 ⟨C, D, rfl, HCD, z2, S2⟩
  clear S
  obtain ⟨b6, hb6⟩ : ∃ b, b = w2.heap.size := ⟨_, rfl⟩
  have S3 := S2.box hb6.symm #[.int .i64 C, .int .i64 D] 29
  have z3 : b6 + 1 ≤ (w2.alloc (.cells #[.int .i64 C, .int .i64 D] 29)).heap.size := by simp [hb6]
  have HB6 := Lib.hid (show bx + 2 ≤ b6 by omega)
  clear S2
  obtain ⟨⟨x0, _⟩, x1, _⟩ := S3.two 2
  obtain ⟨⟨y0, y1⟩, y2, y3⟩ := S3.two 1
  have hl := S3.lt 1
  have SB := Lib.hid S3
  have hx := HBX.out
  by_cases hC : C = 0
  case neg =>
    have hcb : (C != 0) = true := by simp [hC]
    have HF := Lib.hid (show pchkF ar cs ts = (C, D) by unfold pchkF; rw [if_pos (by rw [HCD.out]; exact hC), HCD.out])
    clear S3 hC hx
    go_wp2_with fail
    refine ret_box2 (.int .i64 C) (.int .i64 D) (bx + 1) 29 (box2_set (SB.out.block 1) _ _) (fun w' q0 q1 => by simp [results, Try.results72, go_sem, q0, q1]) rfl ?_
    have hx := HBX.out
    exact ⟨by rw [HF.out]; rfl, (SB.out.bel.setCell (p := ⟨bx + 1, 0, none⟩) (by show w.heap.size ≤ bx + 1; omega) _).setCell (p := ⟨bx + 1, 1, none⟩) (by show w.heap.size ≤ bx + 1; omega) _⟩
  case pos =>
    have hcb : (C != 0) = false := by simp [hC]
    have HLZ := Lib.hid (loreF_zero (show (loreF ar cs).1 = 0 by rw [HCD.out]; exact hC))
    by_cases h60 : (60 : Int) < (ts.length : Int)
    · have HF := Lib.hid (show pchkF ar cs ts = (2, -1) by unfold pchkF; rw [if_neg (by rw [HCD.out]; simp [hC]), if_pos (by omega)])
      clear S3 hC hx
      go_wp2_with fail
      refine ret_box2 (.int .i64 2) (.int .i64 (-1)) (bx + 1) 29 (box2_set (SB.out.block 1) _ _) (fun w' q0 q1 => by simp [results, Try.results72, go_sem, q0, q1]) rfl ?_
      have hx := HBX.out
      exact ⟨by rw [HF.out]; rfl, (SB.out.bel.setCell (p := ⟨bx + 1, 0, none⟩) (by show w.heap.size ≤ bx + 1; omega) _).setCell (p := ⟨bx + 1, 1, none⟩) (by show w.heap.size ≤ bx + 1; omega) _⟩
    · have HF := Lib.hid (show pchkF ar cs ts = pchk ar (ts.drop 0) 0 by unfold pchkF; rw [if_neg (by rw [HCD.out]; simp [hC]), if_neg (by omega), List.drop_zero])
      clear hC hx y0 y1 y2 y3
      go_wp2_with fail
      rw [← hb6]
      refine (S3.pick [0, 1]).genC (z := bx + 2) (by have := HB6.out; omega) ?_
      clear S3 z3 hb6 x0 x1 hl SB
      intro w4 z4 S
      go_loopw [21] (fun i wr => ∃ k : Nat, k ≤ ts.length ∧ i = .int .i64 k ∧ bx + 2 ≤ wr.heap.size ∧ St w wr [.box bx #[.slice ao ar.length ca, .slice co cs.length cc] 25, .box (bx + 1) #[.int .i64 0, .int .i64 0] 29] ∧ Hid (pchkF ar cs ts = pchk ar (ts.drop k) k)) (fun i _ => ts.length - (intOf i).toNat)
      case atStart => exact ⟨0, by omega, rfl, z4, S, HF⟩
      case round =>
        clear S z4 HF
        obtain ⟨k, hk, rfl, hz, S, HF⟩ := hrel
        by_cases hlt : k < ts.length
        · have hlti : (k : Int) < (ts.length : Int) := by omega
          obtain ⟨b, off, ka, sa, rfl, _, f0, f1, htt⟩ := HT.out.tree hlt
          have HDR := Lib.hid (List.drop_eq_getElem_cons hlt)
          obtain ⟨t, ht⟩ : ∃ z, z = ts[k] := ⟨_, rfl⟩
          rw [← ht] at f0 f1 htt HDR
          have c0 := Below.cellOf S.bel f0; have c1 := Below.cellOf S.bel f1
          have HTT := Lib.hid htt
          have HF2 := Lib.hid (show pchkF ar cs ts = if codeF ar [⟨false, t, t⟩] ≠ 0 then (codeF ar [⟨false, t, t⟩], -2 - (k : Int)) else if 0 < t.most then (11, -2 - (k : Int)) else pchk ar (ts.drop (k + 1)) ((k : Int) + 1) by rw [HF.out, HDR.out, pchk])
          have hk60 : (k : Int) ≤ 60 := by omega
          clear ht htt HF
          obtain ⟨bt, hbt⟩ : ∃ b, b = wr.heap.size := ⟨_, rfl⟩
          have S2 := S.box hbt.symm #[.int .i64 t.head, .slice ka t.kids.length (t.kids.length + sa)] 38
          have S3 := S2.box (b := bt + 1) (by simp [hbt]) #[.bool false, .int .i64 t.head, .slice ka t.kids.length (t.kids.length + sa), .int .i64 t.head, .slice ka t.kids.length (t.kids.length + sa)] 62
          have hz3 : bx + 2 ≤ ((wr.alloc (.cells #[.int .i64 t.head, .slice ka t.kids.length (t.kids.length + sa)] 38)).alloc (.cells #[.bool false, .int .i64 t.head, .slice ka t.kids.length (t.kids.length + sa), .int .i64 t.head, .slice ka t.kids.length (t.kids.length + sa)] 62)).heap.size := by simp; omega
          have HBT := Lib.hid (show bx + 2 ≤ bt by omega)
          obtain ⟨⟨x0, _⟩, x1, _⟩ := S2.two 0
          clear S S2
          go_wp2_with fail
          rw [← hbt]
          refine S3.gen (z := bx + 2) hz3 ?_
          clear S3 hz3 hbt c0 c1 f0 f1 x0 x1
          intro w5 hz5 S
          have HROW := Lib.hid (show factE.Row (fun _ => True) w5 (some ⟨bt + 1, 0, none⟩) [⟨false, t, t⟩] from fun i x hi => by
            have hh := S.block 3
            have hce : ∀ (j : Nat) u, (#[.bool false, .int .i64 t.head, .slice ka t.kids.length (t.kids.length + sa), .int .i64 t.head, .slice ka t.kids.length (t.kids.length + sa)] : Array Value)[j]? = some u → w5.cell? ⟨bt + 1, j, none⟩ = some u := fun j u hu => by
              simp only [World.cell?, hh, Option.isSome_none]
              rw [if_neg (by simp)]
              exact hu
            match i, hi with
            | 0, hi =>
              obtain rfl : (⟨false, t, t⟩ : Fc) = x := by simpa using hi
              refine ⟨bt + 1, 0, _, rfl, trivial, fun j u hu => ?_, ka, sa, ka, sa, rfl, (HTT.out.kept S.bel).mono (fun _ _ _ => trivial), (HTT.out.kept S.bel).mono (fun _ _ _ => trivial)⟩
              match j, hu with
              | 0, hu => simp at hu; subst hu; exact hce 0 _ rfl
              | 1, hu => simp at hu; subst hu; exact hce 1 _ rfl
              | 2, hu => simp at hu; subst hu; exact hce 2 _ rfl
              | 3, hu => simp at hu; subst hu; exact hce 3 _ rfl
              | 4, hu => simp at hu; subst hu; exact hce 4 _ rfl)
          refine (S.quiet (code73 ar [⟨false, t, t⟩] (fun _ => True) _ ao (some ⟨bt + 1, 0, none⟩) ca 0 w5 (HA.out.kept S.bel) HROW.out (by have := HLZ.out.2.1; omega) (by unfold maxLen; simp))).mono ?_
          rintro e w6 ⟨rfl, z6, S6⟩
          obtain ⟨CD, hCD⟩ : ∃ z, z = codeF ar [⟨false, t, t⟩] := ⟨_, rfl⟩
          rw [← hCD] at HF2 ⊢
          have HCD2 := Lib.hid hCD
          clear S hCD
          have hwk : IntKind.i64.wrap (-2 - (k : Int)) = -2 - (k : Int) := IntWalk.i64_in _ (by omega)
          by_cases hcd : CD = 0
          case neg =>
            have hcb2 : (CD != 0) = true := by simp [hcd]
            have HF3 := Lib.hid (show pchkF ar cs ts = (CD, -2 - (k : Int)) by rw [HF2.out, if_pos hcd])
            have SB := Lib.hid S6
            clear S6 hcd
            obtain ⟨⟨y0, y1⟩, y2, y3⟩ := SB.out.two 1
            have hl := SB.out.lt 1
            go_wp2_with fail
            refine ret_box2 (.int .i64 CD) (.int .i64 (-2 - (k : Int))) (bx + 1) 29 (box2_set (SB.out.block 1) _ _) (fun w' q0 q1 => by simp [results, Try.results72, go_sem, q0, q1]) rfl ?_
            have hx := HBX.out
            exact ⟨by rw [HF3.out]; rfl, (SB.out.bel.setCell (p := ⟨bx + 1, 0, none⟩) (by show w.heap.size ≤ bx + 1; omega) _).setCell (p := ⟨bx + 1, 1, none⟩) (by show w.heap.size ≤ bx + 1; omega) _⟩
          case pos =>
            have hcb2 : (CD != 0) = false := by simp [hcd]
            have HOK := Lib.hid (codeF_zero.1 (show codeF ar [⟨false, t, t⟩] = 0 by rw [← HCD2.out]; exact hcd)).2
            have hok := treeF_ok.1 (HOK.out t (List.mem_cons_self ..)).1
            have HTK := Lib.hid hok
            obtain ⟨⟨x0, _⟩, x1, _⟩ := S6.two 2
            go_wp2_with fail
            have S7 := S6.box rfl #[.int .i64 t.head, .slice ka t.kids.length (t.kids.length + sa)] 38
            have HRA := Lib.hid (show RowAt (w6.alloc (.cells #[.int .i64 t.head, .slice ka t.kids.length (t.kids.length + sa)] 38)) (some ⟨w6.heap.size, 0, none⟩) [t] from fun i hi => by
              match i, hi with
              | 0, _ => exact ⟨w6.heap.size, 0, ka, sa, rfl, (S7.cell 4 0 rfl).1, (S7.cell 4 1 rfl).1, (HTT.out.kept S7.bel).at⟩)
            have hmo : mostL [t] = t.most := by
              have := t.most_nonneg
              show max t.most 0 = t.most
              omega
            have HMX := Lib.hid (max47 [t] (some ⟨w6.heap.size, 0, none⟩) 1 (w6.alloc (.cells #[.int .i64 t.head, .slice ka t.kids.length (t.kids.length + sa)] 38)) HRA.out (by simp) (fun i hi => by
              match i, hi with
              | 0, _ => exact ⟨by have := HTK.out.1; show t.size ≤ _; omega, by have := HTK.out.2.1; show t.deep ≤ _; omega, HTK.out.2.2⟩))
            rw [hmo] at HMX
            refine (S7.quiet HMX.out).mono ?_
            rintro e w8 ⟨rfl, z8, S8⟩
            have hz8 : bx + 2 ≤ w8.heap.size := by simp at z8; omega
            clear S6 S7 x0 x1 hok hmo
            by_cases hm : 0 < t.most
            · have HF3 := Lib.hid (show pchkF ar cs ts = (11, -2 - (k : Int)) by rw [HF2.out, if_neg (by simp [hcd]), if_pos hm])
              have SB := Lib.hid S8
              clear S8 hcd
              obtain ⟨⟨y0, y1⟩, y2, y3⟩ := SB.out.two 1
              have hl := SB.out.lt 1
              go_wp2_with fail
              refine ret_box2 (.int .i64 11) (.int .i64 (-2 - (k : Int))) (bx + 1) 29 (box2_set (SB.out.block 1) _ _) (fun w' q0 q1 => by simp [results, Try.results72, go_sem, q0, q1]) rfl ?_
              have hx := HBX.out
              exact ⟨by rw [HF3.out]; rfl, (SB.out.bel.setCell (p := ⟨bx + 1, 0, none⟩) (by show w.heap.size ≤ bx + 1; omega) _).setCell (p := ⟨bx + 1, 1, none⟩) (by show w.heap.size ≤ bx + 1; omega) _⟩
            · have HF3 := Lib.hid (show pchkF ar cs ts = pchk ar (ts.drop (k + 1)) ((k + 1 : Nat) : Int) by rw [HF2.out, if_neg (by simp [hcd]), if_neg hm]; rfl)
              have SB := Lib.hid (S8.pick [0, 1])
              clear S8 hcd
              go_wp2_with fail
              go_roundw
              case rel => exact ⟨k + 1, by omega, by go_num, hz8, SB.out, HF3⟩
              case measure => simp [intOf] <;> omega
        · obtain rfl : k = ts.length := by omega
          have HF0 := Lib.hid (show pchkF ar cs ts = (0, 0) by rw [HF.out, List.drop_length, pchk])
          obtain ⟨⟨y0, y1⟩, y2, y3⟩ := S.two 1
          have hl := S.lt 1
          have SB := Lib.hid S
          clear S
          go_wp2_with fail
          refine ret_box2 (.int .i64 0) (.int .i64 0) (bx + 1) 29 (box2_set (SB.out.block 1) _ _) (fun w' q0 q1 => by simp [results, Try.results72, go_sem, q0, q1]) rfl ?_
          have hx := HBX.out
          exact ⟨by rw [HF0.out]; rfl, (SB.out.bel.setCell (p := ⟨bx + 1, 0, none⟩) (by show w.heap.size ≤ bx + 1; omega) _).setCell (p := ⟨bx + 1, 1, none⟩) (by show w.heap.size ≤ bx + 1; omega) _⟩
end Go.Proofs.Ytlhnfdjidjgfgaa
