/-
  Walk: the law that what is got holds.
-/
import Derived.Test.YtlhnfdjidjgfgaaProg
import Derived.Test.YtlhnfdjidjgfgaaKl1
import Derived.Test.YtlhnfdjidjgfgaaKq
import Derived.Test.YtlhnfdjidjgfgaaV11
namespace Go.Proofs.Ytlhnfdjidjgfgaa
open Go.RowKit Go.Shelf
set_option linter.unusedVariables false
set_option maxHeartbeats 400000

theorem Elt.Row.drop {α : Type} {E : Elt α} {p : Nat → Prop} {w : World} {b off : Nat} {xs : List α} (h : E.Row p w (some ⟨b, off, none⟩) xs) (k : Nat) : E.Row p w (some ⟨b, off + k * E.n, none⟩) (xs.drop k) := fun i x hi => by
  rw [List.getElem?_drop] at hi
  obtain ⟨b2, off2, cs, e, hp, hc, he⟩ := h (k + i) x hi
  simp only [Option.some.injEq, Addr.mk.injEq] at e
  obtain ⟨rfl, rfl, _⟩ := e
  exact ⟨_, _, cs, rfl, hp, fun j u hu => by rw [Nat.add_assoc off, ← Nat.add_mul]; exact hc j u hu, he⟩

set_option maxRecDepth 100000 in
set_option maxHeartbeats 8000000 in
theorem traceHolds5 (ar : List Int) (cs : List (List Fc)) (gs : List Gt) (sz : Int) (tb : List (List Int)) (ao co go_ to_ : Option Addr) (ca cc gcap ct : Nat) (w : World)
    (ha : intE.Row (fun b => b < w.heap.size) w ao ar) (hc : claimE.Row (fun b => b < w.heap.size) w co cs) (hg : gotE.Row (fun b => b < w.heap.size) w go_ gs) (ht : intsE.Row (fun b => b < w.heap.size) w to_ tb) (har : ar.length ≤ maxLen) (hcn : cs.length ≤ maxLen) (hgc : gs.length ≤ gcap) (hgm : gcap ≤ maxLen) (htn : tb.length ≤ maxLen) :
    Calls Try.prog 5 #[.agg #[.slice ao ar.length ca, .slice co cs.length cc], .slice go_ gs.length gcap, .agg #[.int .i64 sz, .slice to_ tb.length (tb.length + ct)]] w fun e w' => e = .returned (.bool true) ∧ Below w.heap.size w w' := by
  have HA := Lib.hid ha; have HC := Lib.hid hc; have HG := Lib.hid hg; have HT := Lib.hid ht; have HAR := Lib.hid har; have HCN := Lib.hid hcn; have HTN := Lib.hid htn
  have HGN := Lib.hid (show gs.length ≤ maxLen by omega)
  obtain ⟨bx, hbx⟩ : ∃ b, b = w.heap.size := ⟨_, rfl⟩
  have S1 := ((St.start w).box hbx.symm #[.slice ao ar.length ca, .slice co cs.length cc] 25).box (b := bx + 1) (by simp [hbx]) #[.int .i64 sz, .slice to_ tb.length (tb.length + ct)] 55
  have hsz1 : ((w.alloc (.cells #[.slice ao ar.length ca, .slice co cs.length cc] 25)).alloc (.cells #[.int .i64 sz, .slice to_ tb.length (tb.length + ct)] 55)).heap.size = bx + 2 := by simp [hbx]
  have HBX := Lib.hid hbx
  clear ha hc hg ht har hcn hgm htn hgc
  go_enter Try.func5, Try.ntmps5
  go_wp2_with fail
  rw [← hbx]
  refine S1.gen (z := bx + 2) (by omega) ?_
  intro w1 z1 S
  clear S1 hbx hsz1
  refine (S.quiet (traceFact23 w1)).mono ?_
  rintro e w2 ⟨rfl, z2, S2⟩
  clear S
  obtain ⟨⟨x0, _⟩, x1, _⟩ := S2.two 0
  go_wp2_with fail
  refine S2.gen (z := bx + 2) (by omega) ?_
  clear S2 x0 x1 z2
  intro w3 z3 S
  refine (take20 ar cs gs ao co go_ ca cc gcap w3 ((HA.out.kept S.bel).mono (fun b h h2 => h2)) ((HC.out.kept S.bel).mono (fun b h h2 => h2)) ((HG.out.kept S.bel).mono (fun b h h2 => h2)) HAR.out HCN.out HGN.out).mono ?_
  rintro e w4 ⟨ro, sp, rfl, hro, hb4⟩
  obtain ⟨R, hR⟩ : ∃ X, X = takeF ar cs gs := ⟨_, rfl⟩
  rw [← hR] at hro ⊢
  have HR := Lib.hid hR.symm
  clear hR
  obtain ⟨KK, C, D⟩ := R
  have S2 := S.step hb4
  have z4 := hb4.size
  obtain ⟨b9, hb9⟩ : ∃ b, b = w4.heap.size := ⟨_, rfl⟩
  have S3 := S2.box hb9.symm #[.int .i64 C, .int .i64 D] 29
  have HB9 := Lib.hid (show bx + 2 ≤ b9 by omega)
  have zz : b9 + 1 ≤ (w4.alloc (.cells #[.int .i64 C, .int .i64 D] 29)).heap.size := by simp [hb9]
  have HRO := Lib.hid (show claimE.Row (fun b => b < b9) (w4.alloc (.cells #[.int .i64 C, .int .i64 D] 29)) ro KK from (hro.mono (q := fun b => b < b9) (fun b h h2 => by rw [hb9]; exact h2)).kept ((Below.refl _ w4).alloc (Nat.le_refl _) (.cells #[.int .i64 C, .int .i64 D] 29)))
  obtain ⟨⟨c0, _⟩, c1, _⟩ := S3.two 2
  clear S S2 hro hb4
  by_cases hC : C = 0
  case neg =>
    have hcb : (C != 0) = true := by simp [hC]
    have hKn : KK = [] := by
      have h := takeF_err (ar := ar) (cs := cs) (gs := gs) (by rw [HR.out]; exact hC)
      rw [HR.out] at h; exact h
    subst hKn
    have SB := Lib.hid S3
    clear hC S3
    go_wp2_with fail
    go_ret
    exact ⟨rfl, SB.out.bel⟩
  case pos =>
  subst hC
  have HKL := Lib.hid (show KK.length ≤ 400 by have h := takeF_len ar cs gs; rw [HR.out] at h; exact h)
  obtain ⟨⟨x0, _⟩, x1, _⟩ := S3.two 0
  obtain ⟨⟨y0, _⟩, y1, _⟩ := S3.two 1
  go_wp2_with fail
  rw [← hb9]
  clear hb9 x0 x1 y0 y1 c0 c1
  generalize (w4.alloc (.cells #[.int .i64 0, .int .i64 D] 29)) = w5 at *
  refine (holds25 ar cs sz tb _ _ _ ao co to_ ca cc ct w5 (HA.out.kept S3.bel) (HC.out.kept S3.bel) (HT.out.kept S3.bel) HAR.out HCN.out HTN.out).mono ?_
  rintro e w6 ⟨bo, bsp, rfl, hbo, hb6⟩
  obtain ⟨H1, hH1⟩ : ∃ X, X = holdsF ar cs sz tb := ⟨_, rfl⟩
  rw [← hH1] at hbo ⊢
  have HH1 := Lib.hid hH1
  clear hH1
  obtain ⟨BS, C2, D2⟩ := H1
  have S4 := S3.step hb6
  have HRO6 := Lib.hid (HRO.out.kept hb6)
  have HZ6 := Lib.hid (show b9 + 1 ≤ w6.heap.size from Nat.le_trans zz hb6.size)
  have HBO := Lib.hid (show boolE.Row (fun b => b9 + 1 ≤ b) w6 bo BS from hbo.mono (fun b h _ => Nat.le_trans zz h))
  have SG := Lib.hid (S4.set2 2 rfl (.int .i64 C2) (.int .i64 D2) (by have := HBX.out; have := HB9.out; omega) (by have := HB9.out; simp only [fsnoc, offs, offAll, Fct.box, and_true]; omega))
  obtain ⟨⟨v0, v1⟩, v2, v3⟩ := S4.two 2
  have hl9 := S4.lt 2
  have HB7 := Lib.hid (show Below w.heap.size w ((w6.setCell ⟨b9, 0, none⟩ (.int .i64 C2)).setCell ⟨b9, 1, none⟩ (.int .i64 D2)) from SG.out.bel)
  have HRO7 := Lib.hid (show claimE.Row (fun b => b < b9) ((w6.setCell ⟨b9, 0, none⟩ (.int .i64 C2)).setCell ⟨b9, 1, none⟩ (.int .i64 D2)) ro KK from HRO6.out.keep (fun b h1 h2 => ⟨(Below.heap_setCell _ _ _ _ (by show b ≠ b9; omega)).trans (Below.heap_setCell _ _ _ _ (by show b ≠ b9; omega)), h1⟩))
  have HBO7 := Lib.hid (show boolE.Row (fun b => b9 + 1 ≤ b) ((w6.setCell ⟨b9, 0, none⟩ (.int .i64 C2)).setCell ⟨b9, 1, none⟩ (.int .i64 D2)) bo BS from HBO.out.keep (fun b h1 h2 => ⟨(Below.heap_setCell _ _ _ _ (by show b ≠ b9; omega)).trans (Below.heap_setCell _ _ _ _ (by show b ≠ b9; omega)), h1⟩))
  have HZ7 := Lib.hid (show b9 + 1 ≤ ((w6.setCell ⟨b9, 0, none⟩ (.int .i64 C2)).setCell ⟨b9, 1, none⟩ (.int .i64 D2)).heap.size by have := HZ6.out; simp; omega)
  clear S3 S4 hbo hb6 HRO6 HBO HZ6
  dsimp only [FV]
  go_upto_region 8 with fail
  clear v0 v1 v2 v3 hl9
  generalize ((w6.setCell ⟨b9, 0, none⟩ (.int .i64 C2)).setCell ⟨b9, 1, none⟩ (.int .i64 D2)) = w7 at *
  obtain ⟨⟨c0, _⟩, c1, _⟩ := SG.out.two 2
  by_cases hC2 : C2 = 0
  case neg =>
    have hcb : (C2 != 0) = true := by simp [hC2]
    have hBn : BS = [] := by
      have h := holdsF_bad (ar := ar) (cs := cs) (sz := sz) (tb := tb) (by rw [← HH1.out]; exact hC2)
      rw [← HH1.out] at h; exact h
    subst hBn
    clear hC2
    go_wp2_with fail
    go_ret
    exact ⟨rfl, SG.out.bel⟩
  case pos =>
  subst hC2
  have HH0 := Lib.hid (show (holdsF ar cs sz tb).2.1 = 0 by rw [← HH1.out])
  have hBl : BS.length ≤ 60 := by
    obtain ⟨h1, _, h2⟩ := holdsF_ok HH0.out
    rw [h2] at HH1
    have h3 : BS = cs.map (trueF sz.toNat tb) := congrArg Prod.fst HH1.out
    have h4 := (loreF_zero (tabF_zero h1).2.1).2.2.1
    rw [h3]; simp; exact h4
  go_wp2_with fail
  clear c0 c1
  go_loopw [11] (fun i wr => ∃ k : Nat, k ≤ BS.length ∧ i = .int .i64 k ∧ wr = w7 ∧ Hid (∀ (j : Nat) (h : j < BS.length), j < k → BS[j] = true)) (fun i _ => BS.length - (intOf i).toNat)
  case atStart => exact ⟨0, by omega, by trivial, by trivial, Lib.hid (fun j h h2 => by omega)⟩
  case round =>
    obtain ⟨k, hk, rfl, hwr, HAL⟩ := hrel
    subst hwr
    by_cases hlt : k < BS.length
    · have hlti : (k : Int) < (BS.length : Int) := by omega
      obtain ⟨bb, boff, rfl, _, c0⟩ := HBO7.out.bool hlt
      obtain ⟨v, hv⟩ : ∃ v, v = BS[k] := ⟨_, rfl⟩
      rw [← hv] at c0
      cases v with
      | false =>
        clear hv
        go_wp2_with fail
        go_ret
        exact ⟨rfl, SG.out.bel⟩
      | true =>
        have HAL2 := Lib.hid (show ∀ (j : Nat) (h : j < BS.length), j < k + 1 → BS[j] = true from fun j h h2 => by
          rcases Nat.lt_succ_iff_lt_or_eq.1 h2 with h3 | rfl
          · exact HAL.out j h h3
          · exact hv.symm)
        clear hv
        go_wp2_with fail
        go_roundw
        case rel => exact ⟨k + 1, by omega, by go_num, by trivial, HAL2⟩
        case measure => simp [intOf] <;> omega
    · obtain rfl : k = BS.length := by omega
      have HALL := Lib.hid (show ∀ b ∈ (holdsF ar cs sz tb).1, b = true by
        rw [← HH1.out]
        intro b hb
        obtain ⟨j, hj, rfl⟩ := List.getElem_of_mem hb
        exact HAL.out j hj hj)
      have HLAW := Lib.hid (fun (ks : List (List Fc)) (hs : ∀ c ∈ ks, c ∈ KK) (hl : ks.length ≤ 60) => traceHolds_law HR.out HH0.out HALL.out hs hl)
      obtain ⟨d6, hd6⟩ : ∃ d, decide ((60 : Int) < (KK.length : Int)) = d := ⟨_, rfl⟩
      have hkl4 := HKL.out
      go_upto_if 54 with fail
      go_cut [8] (fun t8 W => (∃ ro2 sp2 ks, t8 = .slice ro2 (List.length ks) (List.length ks + sp2) ∧ claimE.Row (fun b => b < b9) wr ro2 ks ∧ Hid (∀ c ∈ ks, c ∈ KK) ∧ ks.length ≤ 60) ∧ W = wr)
      case first =>
        cases d6 with
        | true =>
          have h60 : 60 < KK.length := by have := of_decide_eq_true hd6; omega
          obtain ⟨rb, roff, _, _, rfl, _⟩ := HRO7.out.claim (show 0 < KK.length by omega)
          have hsub : IntKind.i64.wrap ((KK.length : Int) - 60) = ((KK.length - 60 : Nat) : Int) := by rw [IntWalk.i64_in _ (by omega)]; omega
          have HR8 := Lib.hid (HRO7.out.drop (KK.length - 60))
          have hlen : (KK.drop (KK.length - 60)).length = 60 := by simp; omega
          have hle1 : KK.length - 60 ≤ KK.length := by omega
          have hle2 : KK.length ≤ KK.length + sp := by omega
          go_wp2_with fail
          go_meet
          case rel => exact ⟨⟨some ⟨rb, roff + (KK.length - 60), none⟩, sp, KK.drop (KK.length - 60), by rw [hlen]; congr 1 <;> omega, by have h := HR8.out; rw [show (KK.length - 60) * claimE.n = KK.length - 60 from Nat.mul_one _] at h; exact h, Lib.hid (fun c hc => List.mem_of_mem_drop hc), by omega⟩, rfl⟩
        | false =>
          have h60 : KK.length ≤ 60 := by have := of_decide_eq_false hd6; omega
          go_wp2_with fail
          go_meet
          case rel => exact ⟨⟨ro, sp, KK, rfl, HRO7.out, Lib.hid (fun c hc => hc), h60⟩, rfl⟩
      case rest =>
      obtain ⟨⟨ro2, sp2, ks, ht8, hrk, hks, hkl⟩, hw⟩ := hcut
      replace hw := hw.symm
      subst hw
      subst ht8
      have HKS := Lib.hid (HLAW.out ks hks.out hkl)
      have HRK := Lib.hid hrk
      have HZW := HZ7.out
      obtain ⟨⟨x0, _⟩, x1, _⟩ := SG.out.two 0
      obtain ⟨⟨y0, _⟩, y1, _⟩ := SG.out.two 1
      clear hrk hks hd6
      go_wp2_with fail
      refine (holds25 ar ks sz tb _ _ _ ao ro2 to_ ca (ks.length + sp2) ct wr (HA.out.kept SG.out.bel) HRK.out (HT.out.kept SG.out.bel) HAR.out (by unfold maxLen; omega) HTN.out).mono ?_
      rintro e w8 ⟨dro, dsp, rfl, hdo, hb8⟩
      obtain ⟨H2, hH2⟩ : ∃ X, X = holdsF ar ks sz tb := ⟨_, rfl⟩
      rw [← hH2] at hdo ⊢
      rw [← hH2] at HKS
      clear hH2 x0 x1 y0 y1
      obtain ⟨DS, C3, D3⟩ := H2
      have S8 := SG.out.step hb8
      have HDO := Lib.hid (show boolE.Row (fun b => b9 + 1 ≤ b) w8 dro DS from hdo.mono (fun b h _ => Nat.le_trans HZW h))
      have SG2 := Lib.hid (S8.set2 2 rfl (.int .i64 C3) (.int .i64 D3) (by have := HBX.out; have := HB9.out; omega) (by have := HB9.out; simp only [fset, fsnoc, offs, offAll, Fct.box, and_true]; omega))
      obtain ⟨⟨v0, v1⟩, v2, v3⟩ := S8.two 2
      have hl9 := S8.lt 2
      have HDO9 := Lib.hid (show boolE.Row (fun b => b9 + 1 ≤ b) ((w8.setCell ⟨b9, 0, none⟩ (.int .i64 C3)).setCell ⟨b9, 1, none⟩ (.int .i64 D3)) dro DS from HDO.out.keep (fun b h1 h2 => ⟨(Below.heap_setCell _ _ _ _ (by show b ≠ b9; omega)).trans (Below.heap_setCell _ _ _ _ (by show b ≠ b9; omega)), h1⟩))
      clear S8 hdo hb8 HDO
      dsimp only [FV]
      go_upto_region 18 with fail
      clear v0 v1 v2 v3 hl9
      generalize ((w8.setCell ⟨b9, 0, none⟩ (.int .i64 C3)).setCell ⟨b9, 1, none⟩ (.int .i64 D3)) = w9 at *
      obtain ⟨⟨c0, _⟩, c1, _⟩ := SG2.out.two 2
      by_cases hC3 : C3 = 0
      case neg =>
        have hcb : (C3 != 0) = true := by simp [hC3]
        have h10 : C3 = 10 := HKS.out.1 hC3
        subst h10
        clear hC3
        go_wp2_with fail
        go_ret
        exact ⟨rfl, SG2.out.bel⟩
      case pos =>
      subst hC3
      have hDl : DS.length = ks.length := (HKS.out.2 rfl).1
      have HDA := Lib.hid (show ∀ b ∈ DS, b = true from (HKS.out.2 rfl).2)
      have HDL := Lib.hid hDl
      have hD60 : DS.length ≤ 60 := by omega
      clear hDl
      go_wp2_with fail
      clear c0 c1
      go_loopw [13] (fun i wq => ∃ k : Nat, k ≤ DS.length ∧ i = .int .i64 k ∧ wq = w9) (fun i _ => DS.length - (intOf i).toNat)
      case atStart => exact ⟨0, by omega, by trivial, by trivial⟩
      case round =>
        obtain ⟨k, hk, rfl, hwq⟩ := hrel
        subst hwq
        by_cases hlt : k < DS.length
        · have hlti : (k : Int) < (DS.length : Int) := by omega
          obtain ⟨bb, boff, rfl, _, c0⟩ := HDO9.out.bool hlt
          rw [HDA.out _ (List.getElem_mem hlt)] at c0
          go_wp2_with fail
          go_roundw
          case rel => exact ⟨k + 1, by omega, by go_num, by trivial⟩
          case measure => simp [intOf] <;> omega
        · have hDl := HDL.out
          go_wp2_with fail
          go_ret
          exact ⟨rfl, SG2.out.bel⟩
end Go.Proofs.Ytlhnfdjidjgfgaa
