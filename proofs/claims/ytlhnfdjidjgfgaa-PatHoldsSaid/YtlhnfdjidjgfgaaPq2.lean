/-
  Walk: the law that instances hold.
-/
import Derived.Test.YtlhnfdjidjgfgaaProg
import Derived.Test.YtlhnfdjidjgfgaaPb8
import Derived.Test.YtlhnfdjidjgfgaaKp
import Derived.Test.YtlhnfdjidjgfgaaKf1
import Derived.Test.YtlhnfdjidjgfgaaV11
import Derived.Test.YtlhnfdjidjgfgaaZ7
import Derived.RegionTactic
namespace Go.Proofs.Ytlhnfdjidjgfgaa
open Go.RowKit Go.Shelf
set_option linter.unusedVariables false
set_option maxHeartbeats 400000

theorem apart_pat : patDoF [0] apartC [] = ([[⟨true, leaf1, leaf1⟩]], (0, 0)) := by
  have h1 : pchkF [0] apartC [] = (0, 0) := by unfold pchkF; rw [apart_lore, if_neg (by simp), if_neg (by simp), pchk]
  unfold patDoF
  rw [h1, if_neg (by simp)]
  have h2 : instF [0] (subsF []) [⟨true, leaf1, leaf1⟩] [] = ([[⟨true, leaf1, leaf1⟩]], true) := by
    unfold instF
    rw [if_pos (by decide +kernel)]
    unfold addF
    rw [apart_code, if_neg (by simp), if_neg (by simp)]
    simp
  show doGo [0] (subsF []) [[⟨true, leaf1, leaf1⟩]] 0 [] = _
  rw [doGo, h2, if_pos rfl, doGo]

set_option maxRecDepth 100000 in
set_option maxHeartbeats 8000000 in
theorem patHolds7 (ar : List Int) (cs : List (List Fc)) (gs : List T) (sz : Int) (tb : List (List Int)) (ao co go_ to_ : Option Addr) (ca cc gcap ct : Nat) (w : World)
    (ha : intE.Row (fun b => b < w.heap.size) w ao ar) (hc : claimE.Row (fun b => b < w.heap.size) w co cs) (hg : treeE.Row (fun b => b < w.heap.size) w go_ gs) (ht : intsE.Row (fun b => b < w.heap.size) w to_ tb) (har : ar.length ≤ maxLen) (hcn : cs.length ≤ maxLen) (hgm : gs.length ≤ maxLen) (htn : tb.length ≤ maxLen) :
    Calls Try.prog 7 #[.agg #[.slice ao ar.length ca, .slice co cs.length cc], .slice go_ gs.length gcap, .agg #[.int .i64 sz, .slice to_ tb.length (tb.length + ct)]] w fun e w' => e = .returned (.bool true) ∧ Below w.heap.size w w' := by
  have HA := Lib.hid ha; have HC := Lib.hid hc; have HG := Lib.hid hg; have HT := Lib.hid ht; have HAR := Lib.hid har; have HCN := Lib.hid hcn; have HTN := Lib.hid htn; have HGN := Lib.hid hgm
  obtain ⟨bx, hbx⟩ : ∃ b, b = w.heap.size := ⟨_, rfl⟩
  have S1 := ((St.start w).box hbx.symm #[.slice ao ar.length ca, .slice co cs.length cc] 25).box (b := bx + 1) (by simp [hbx]) #[.int .i64 sz, .slice to_ tb.length (tb.length + ct)] 55
  have hsz1 : ((w.alloc (.cells #[.slice ao ar.length ca, .slice co cs.length cc] 25)).alloc (.cells #[.int .i64 sz, .slice to_ tb.length (tb.length + ct)] 55)).heap.size = bx + 2 := by simp [hbx]
  have HBX := Lib.hid hbx
  clear ha hc hg ht har hcn hgm htn
  go_enter Try.func7, Try.ntmps7
  go_wp2_with fail
  rw [← hbx]
  refine S1.gen (z := bx + 2) (by omega) ?_
  intro w1 z1 S
  clear S1 hbx hsz1
  refine (apart30 w1).mono ?_
  rintro e w2 ⟨aa, ac, rfl, haa, hac, hb2⟩
  have S2 := S.step hb2
  have z2 := hb2.size
  clear S hb2
  have HAA := Lib.hid haa; have HAC := Lib.hid hac
  clear haa hac
  go_wp2_with fail
  refine (patDo29 (fun b => b < w2.heap.size) [0] apartC [] aa ac none 1 1 0 w2 (fun b h => h) (HAA.out.mono (fun b h h2 => h2)) (HAC.out.mono (fun b h h2 => h2)) Elt.Row.nil (by unfold maxLen; simp) (by unfold maxLen; simp [apartC]) (by simp)).mono ?_
  rintro e w3 ⟨ro0, sp0, rfl, hro0, hb3⟩
  rw [apart_pat] at hro0 ⊢
  have S3 := S2.step hb3
  have z3 := hb3.size
  obtain ⟨b9, hb9⟩ : ∃ b, b = w3.heap.size := ⟨_, rfl⟩
  have S4 := S3.box hb9.symm #[.int .i64 0, .int .i64 0] 29
  have hsz4 : (w3.alloc (.cells #[.int .i64 0, .int .i64 0] 29)).heap.size = b9 + 1 := by simp [hb9]
  have HB9 := Lib.hid (show bx + 2 ≤ b9 by omega)
  clear S2 S3 hro0 hb3
  obtain ⟨⟨x0, _⟩, x1, _⟩ := S4.two 0
  go_wp2_with fail
  rw [← hb9]
  refine S4.gen (z := b9 + 1) (by omega) ?_
  clear S4 x0 x1 hb9 hsz4 z2 z3
  intro w4 z4 S
  refine (patDo29 (fun b => b < w.heap.size) ar cs gs ao co go_ ca cc gcap w4 (fun b h => by have := S.size; omega) (HA.out.kept S.bel) (HC.out.kept S.bel) (HG.out.kept S.bel) HAR.out HCN.out HGN.out).mono ?_
  rintro e w5 ⟨ro, sp, rfl, hro, hb5⟩
  obtain ⟨R, hR⟩ : ∃ X, X = patDoF ar cs gs := ⟨_, rfl⟩
  rw [← hR] at hro ⊢
  have HR := Lib.hid hR.symm
  clear hR
  obtain ⟨KK, C, D⟩ := R
  have S2 := S.step hb5
  have z5 := hb5.size
  have hz4 : w4.heap.size ≥ b9 + 1 := z4
  have HKR := Lib.hid (show claimE.Row (fun b => b < w.heap.size ∨ b9 < b) w5 ro KK from hro.mono (fun b h _ => h.imp id (fun h => by omega)))
  obtain ⟨⟨v0, v1⟩, v2, v3⟩ := S2.two 2
  have hl9 := S2.lt 2
  have SG := Lib.hid (S2.set2 2 rfl (.int .i64 C) (.int .i64 D) (by have := HBX.out; have := HB9.out; omega) (by have := HB9.out; simp only [fsnoc, offs, offAll, Fct.box, and_true]; omega))
  have HKS := Lib.hid (show claimE.Row (fun b => b < w.heap.size ∨ b9 < b) ((w5.setCell ⟨b9, 0, none⟩ (.int .i64 C)).setCell ⟨b9, 1, none⟩ (.int .i64 D)) ro KK from HKR.out.keep (fun b h1 h2 => ⟨(Below.heap_setCell _ _ _ _ (by have h3 : b < w.heap.size ∨ b9 < b := h1; have := HBX.out; have := HB9.out; show b ≠ b9; omega)).trans (Below.heap_setCell _ _ _ _ (by have h3 : b < w.heap.size ∨ b9 < b := h1; have := HBX.out; have := HB9.out; show b ≠ b9; omega)), h1⟩))
  clear S S2 hro hb5 HKR
  dsimp only
  go_upto_region 5 with fail
  clear v0 v1 v2 v3 hl9
  have z6 : b9 + 1 ≤ ((w5.setCell ⟨b9, 0, none⟩ (.int .i64 C)).setCell ⟨b9, 1, none⟩ (.int .i64 D)).heap.size := by simp; omega
  generalize ((w5.setCell ⟨b9, 0, none⟩ (.int .i64 C)).setCell ⟨b9, 1, none⟩ (.int .i64 D)) = w7 at *
  obtain ⟨⟨c0, _⟩, c1, _⟩ := SG.out.two 2
  by_cases hC : C = 0
  case neg =>
    have hcb : (C != 0) = true := by simp [hC]
    have hKn : KK = [] := by
      have h := patDoF_err (ar := ar) (cs := cs) (gs := gs) (by rw [HR.out]; exact hC)
      rw [HR.out] at h; exact h
    subst hKn
    clear hC
    go_wp2_with fail
    go_ret
    exact ⟨rfl, SG.out.bel⟩
  case pos =>
  subst hC
  have HKL := Lib.hid (show KK.length ≤ 60 by have h := patDoF_len ar cs gs; rw [HR.out] at h; exact h)
  have HGR := Lib.hid (patDo_ground HR.out)
  have hkl := HKL.out
  go_wp2_with fail
  clear c0 c1
  go_loopw [9] (fun i wr => ∃ k : Nat, k ≤ KK.length ∧ i = .int .i64 k ∧ Below w7.heap.size w7 wr) (fun i _ => KK.length - (intOf i).toNat)
  case atStart => exact ⟨0, by omega, by trivial, Below.refl _ _⟩
  case round =>
    obtain ⟨k, hk, rfl, hwr⟩ := hrel
    by_cases hlt : k < KK.length
    · have hlti : (k : Int) < (KK.length : Int) := by omega
      obtain ⟨bb, boff, kc, spc, rfl, _, c0, hcr, hcm⟩ := (HKS.out.kept hwr).claim hlt
      have HCG := Lib.hid (HGR.out _ (List.getElem_mem hlt))
      obtain ⟨c, hc⟩ : ∃ c, c = KK[k] := ⟨_, rfl⟩
      rw [← hc] at c0 hcr hcm HCG
      have HCR := Lib.hid hcr; have HWR := Lib.hid hwr
      have HCZ := Lib.hid (codeF_zero.1 HCG.out.1)
      have HV := Lib.hid (show ((varsC c : Nat) : Int) = 0 by rw [varsC_cast, HCG.out.2])
      clear hc hcr hwr
      go_wp2_with fail
      refine (claimMost31 c (fun b => b < wr.heap.size) kc spc wr (HCR.out.mono (fun b h h2 => h2)) (by have := HCZ.out.1; omega) (fun b h => h) (fun t ht => low_of_pre t (treeF_ok.1 (HCZ.out.2 t ht).1).2.2)).mono ?_
      rintro e w8 ⟨rfl, hb8⟩
      rw [HV.out]
      have HB8 := Lib.hid (Below.step HWR.out hb8)
      clear hb8 c0
      go_wp2_with fail
      go_roundw
      case rel => exact ⟨k + 1, by omega, by go_num, HB8.out⟩
      case measure => simp [intOf] <;> omega
    · obtain rfl : k = KK.length := by omega
      have SW := SG.out.step hwr
      have HKW := Lib.hid (HKS.out.kept hwr)
      have zw : b9 + 1 ≤ wr.heap.size := Nat.le_trans z6 hwr.size
      have SW := Lib.hid SW
      clear hwr
      obtain ⟨⟨x0, _⟩, x1, _⟩ := SW.out.two 0
      obtain ⟨⟨y0, _⟩, y1, _⟩ := SW.out.two 1
      go_wp2_with fail
      clear x0 x1 y0 y1
      refine (holds25 ar cs sz tb _ _ _ ao co to_ ca cc ct wr (HA.out.kept SW.out.bel) (HC.out.kept SW.out.bel) (HT.out.kept SW.out.bel) HAR.out HCN.out HTN.out).mono ?_
      rintro e w8 ⟨bo, bsp, rfl, hbo, hb6⟩
      obtain ⟨H1, hH1⟩ : ∃ X, X = holdsF ar cs sz tb := ⟨_, rfl⟩
      rw [← hH1] at hbo ⊢
      have HH1 := Lib.hid hH1
      clear hH1
      obtain ⟨BS, C2, D2⟩ := H1
      have S4 := SW.out.step hb6
      have HZ6 := Lib.hid (show b9 + 1 ≤ w8.heap.size from Nat.le_trans zw hb6.size)
      have HBO := Lib.hid (show boolE.Row (fun b => b9 + 1 ≤ b) w8 bo BS from hbo.mono (fun b h _ => Nat.le_trans zw h))
      have SG2 := Lib.hid (S4.set2 2 rfl (.int .i64 C2) (.int .i64 D2) (by have := HBX.out; have := HB9.out; omega) (by have := HB9.out; simp only [fset, fsnoc, offs, offAll, Fct.box, and_true]; omega))
      obtain ⟨⟨v0, v1⟩, v2, v3⟩ := S4.two 2
      have hl9 := S4.lt 2
      have HKX := Lib.hid (show claimE.Row (fun b => b < w.heap.size ∨ b9 < b) ((w8.setCell ⟨b9, 0, none⟩ (.int .i64 C2)).setCell ⟨b9, 1, none⟩ (.int .i64 D2)) ro KK from (HKW.out.kept hb6).keep (fun b h1 h2 => ⟨(Below.heap_setCell _ _ _ _ (by have h3 : b < w.heap.size ∨ b9 < b := h1; have := HBX.out; have := HB9.out; show b ≠ b9; omega)).trans (Below.heap_setCell _ _ _ _ (by have h3 : b < w.heap.size ∨ b9 < b := h1; have := HBX.out; have := HB9.out; show b ≠ b9; omega)), h1⟩))
      have HBO7 := Lib.hid (show boolE.Row (fun b => b9 + 1 ≤ b) ((w8.setCell ⟨b9, 0, none⟩ (.int .i64 C2)).setCell ⟨b9, 1, none⟩ (.int .i64 D2)) bo BS from HBO.out.keep (fun b h1 h2 => ⟨(Below.heap_setCell _ _ _ _ (by show b ≠ b9; omega)).trans (Below.heap_setCell _ _ _ _ (by show b ≠ b9; omega)), h1⟩))
      have z8 : b9 + 1 ≤ ((w8.setCell ⟨b9, 0, none⟩ (.int .i64 C2)).setCell ⟨b9, 1, none⟩ (.int .i64 D2)).heap.size := by have := HZ6.out; simp; omega
      clear S4 hbo hb6 HBO
      dsimp only [FV]
      go_upto_region 13 with fail
      clear v0 v1 v2 v3 hl9
      generalize ((w8.setCell ⟨b9, 0, none⟩ (.int .i64 C2)).setCell ⟨b9, 1, none⟩ (.int .i64 D2)) = w9 at *
      obtain ⟨⟨c0, _⟩, c1, _⟩ := SG2.out.two 2
      by_cases hC2 : C2 = 0
      case neg =>
        have hcb : (C2 != 0) = true := by simp [hC2]
        have hBn : BS = [] := by
          have h := holdsF_bad (ar := ar) (cs := cs) (sz := sz) (tb := tb) (by rw [← HH1.out]; exact hC2)
          rw [← HH1.out] at h; exact h
        subst hBn
        clear hC2
        go_wp2_with fail
        go_ret
        exact ⟨rfl, SG2.out.bel⟩
      case pos =>
      subst hC2
      have HH0 := Lib.hid (show (holdsF ar cs sz tb).2.1 = 0 by rw [← HH1.out])
      have hBl : BS.length ≤ 60 := by
        obtain ⟨h1, _, h2⟩ := holdsF_ok HH0.out
        rw [h2] at HH1
        have h3 := (loreF_zero (tabF_zero h1).2.1).2.2.1
        have h4 : BS = cs.map (trueF sz.toNat tb) := congrArg Prod.fst HH1.out
        rw [h4]; simp; exact h3
      go_wp2_with fail
      clear c0 c1
      go_loopw [11] (fun i wr => ∃ k : Nat, k ≤ BS.length ∧ i = .int .i64 k ∧ wr = w9 ∧ Hid (∀ (j : Nat) (h : j < BS.length), j < k → BS[j] = true)) (fun i _ => BS.length - (intOf i).toNat)
      case atStart => exact ⟨0, by omega, by trivial, by trivial, Lib.hid (fun j h h2 => by omega)⟩
      case round =>
        obtain ⟨k, hk, rfl, hwr, HAL⟩ := hrel
        subst hwr
        by_cases hlt : k < BS.length
        · have hlti : (k : Int) < (BS.length : Int) := by omega
          obtain ⟨bb, boff, rfl, _, c0⟩ := HBO7.out.bool hlt
          obtain ⟨v, hv⟩ : ∃ v, v = BS[k] := ⟨_, rfl⟩
          rw [← hv] at c0
          cases v with
          | false =>
            clear hv
            go_wp2_with fail
            go_ret
            exact ⟨rfl, SG2.out.bel⟩
          | true =>
            have HAL2 := Lib.hid (show ∀ (j : Nat) (h : j < BS.length), j < k + 1 → BS[j] = true from fun j h h2 => by
              rcases Nat.lt_succ_iff_lt_or_eq.1 h2 with h3 | rfl
              · exact HAL.out j h h3
              · exact hv.symm)
            clear hv
            go_wp2_with fail
            go_roundw
            case rel => exact ⟨k + 1, by omega, by go_num, by trivial, HAL2⟩
            case measure => simp [intOf] <;> omega
        · obtain rfl : k = BS.length := by omega
          have HALL := Lib.hid (show ∀ b ∈ (holdsF ar cs sz tb).1, b = true by
            rw [← HH1.out]
            intro b hb
            obtain ⟨j, hj, rfl⟩ := List.getElem_of_mem hb
            exact HAL.out j hj hj)
          have HLAW := Lib.hid (patHolds_law HR.out HH0.out HALL.out)
          obtain ⟨⟨x0, _⟩, x1, _⟩ := SG2.out.two 0
          obtain ⟨⟨y0, _⟩, y1, _⟩ := SG2.out.two 1
          go_wp2_with fail
          refine (holds25 ar KK sz tb _ _ _ ao ro to_ ca (KK.length + sp) ct wr (HA.out.kept SG2.out.bel) HKX.out (HT.out.kept SG2.out.bel) HAR.out (by have := HKL.out; unfold maxLen; omega) HTN.out).mono ?_
          rintro e w10 ⟨dro, dsp, rfl, hdo, hb8⟩
          obtain ⟨H2, hH2⟩ : ∃ X, X = holdsF ar KK sz tb := ⟨_, rfl⟩
          rw [← hH2] at hdo HLAW ⊢
          clear hH2 x0 x1 y0 y1
          obtain ⟨DS, C3, D3⟩ := H2
          have S8 := SG2.out.step hb8
          have HDO := Lib.hid (show boolE.Row (fun b => b9 + 1 ≤ b) w10 dro DS from hdo.mono (fun b h _ => Nat.le_trans z8 h))
          have SG3 := Lib.hid (S8.set2 2 rfl (.int .i64 C3) (.int .i64 D3) (by have := HBX.out; have := HB9.out; omega) (by have := HB9.out; simp only [fset, fsnoc, offs, offAll, Fct.box, and_true]; omega))
          obtain ⟨⟨v0, v1⟩, v2, v3⟩ := S8.two 2
          have hl9 := S8.lt 2
          have HDO9 := Lib.hid (show boolE.Row (fun b => b9 + 1 ≤ b) ((w10.setCell ⟨b9, 0, none⟩ (.int .i64 C3)).setCell ⟨b9, 1, none⟩ (.int .i64 D3)) dro DS from HDO.out.keep (fun b h1 h2 => ⟨(Below.heap_setCell _ _ _ _ (by show b ≠ b9; omega)).trans (Below.heap_setCell _ _ _ _ (by show b ≠ b9; omega)), h1⟩))
          have hC3 : C3 = 0 := HLAW.out.1
          subst hC3
          have hDl : DS.length = KK.length := HLAW.out.2.1
          have HDA := Lib.hid (show ∀ b ∈ DS, b = true from HLAW.out.2.2)
          have HDL := Lib.hid hDl
          have hD60 : DS.length ≤ 60 := by have := HKL.out; omega
          clear S8 hdo hb8 HDO hDl
          dsimp only [FV]
          go_upto_region 21 with fail
          clear v0 v1 v2 v3 hl9
          generalize ((w10.setCell ⟨b9, 0, none⟩ (.int .i64 0)).setCell ⟨b9, 1, none⟩ (.int .i64 D3)) = w11 at *
          obtain ⟨⟨c0, _⟩, c1, _⟩ := SG3.out.two 2
          go_wp2_with fail
          clear c0 c1
          go_loopw [13] (fun i wq => ∃ k : Nat, k ≤ DS.length ∧ i = .int .i64 k ∧ wq = w11) (fun i _ => DS.length - (intOf i).toNat)
          case atStart => exact ⟨0, by omega, by trivial, by trivial⟩
          case round =>
            obtain ⟨k, hk, rfl, hwq⟩ := hrel
            subst hwq
            by_cases hlt : k < DS.length
            · have hlti : (k : Int) < (DS.length : Int) := by omega
              obtain ⟨bb, boff, rfl, _, c0⟩ := HDO9.out.bool hlt
              rw [HDA.out _ (List.getElem_mem hlt)] at c0
              go_wp2_with fail
              go_roundw
              case rel => exact ⟨k + 1, by omega, by go_num, by trivial⟩
              case measure => simp [intOf] <;> omega
            · have hDl := HDL.out
              go_wp2_with fail
              go_ret
              exact ⟨rfl, SG3.out.bel⟩
end Go.Proofs.Ytlhnfdjidjgfgaa
