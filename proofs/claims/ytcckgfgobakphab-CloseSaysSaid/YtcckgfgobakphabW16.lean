/-
  Walks: the law CloseSays.
-/
import Derived.Test.YtcckgfgobakphabProg
import Derived.Test.YtcckgfgobakphabBase
import Derived.Test.YtcckgfgobakphabCmath
import Derived.Test.YtcckgfgobakphabW14
namespace Go.Proofs.Ytcckgfgobakphab
open Go.RowKit Go.Shelf
set_option linter.unusedVariables false
set_option maxHeartbeats 400000

theorem listsF_two (n : Nat) (ps aps : List (Int × Int)) : listsF n [ps, aps] 0 = if (pairsF ps n 0).1 = 0 then pairsF aps n ps.length else pairsF ps n 0 := by
  simp only [listsF, pairsF]
  by_cases h1 : 120 < ps.length
  · simp [h1]
  · simp only [if_neg h1]
    cases hf : firstI (fun k => pBad n (gP ps k)) ps.length with
    | some k => simp
    | none =>
      simp only [if_true, Nat.zero_add]
      by_cases h2 : 120 < aps.length
      · simp [h2]
      · simp only [if_neg h2]
        cases hg : firstI (fun k => pBad n (gP aps k)) aps.length with
        | some k => simp
        | none => rfl

set_option maxRecDepth 100000 in
set_option maxHeartbeats 8000000 in
theorem closeSays_walk (ts : List Tm) (ps aps : List (Int × Int)) (tv pv av : Value) (w : World) (ht : TermsAt w tv ts) (hp : PairsAt w pv ps) (ha : PairsAt w av aps) :
    Calls Try.prog 3 #[tv, pv, av] w fun e w' => e = .returned (.bool true) ∧ Below w.heap.size w w' := by
  have HTA := Lib.hid ht; have HPA := Lib.hid hp; have HAA := Lib.hid ha
  obtain ⟨po, pcap, rfl, hpps⟩ := hp
  obtain ⟨to, tcap, rfl, htts⟩ := ht
  obtain ⟨ao, acap, rfl, haps⟩ := ha
  have HAP := Lib.hid haps
  clear hpps htts haps
  by_cases h80 : 80 < ts.length
  · go_enter Try.func3, Try.ntmps3
    go_wp2_with fail
    go_ret
    exact ⟨rfl, Below.refl _ _⟩
  · have h80' : (ts.length : Int) ≤ 80 := by omega
    have HW := Lib.hid (do_any ts ps aps (.slice to ts.length (ts.length + tcap)) (.slice po ps.length pcap) (.slice ao aps.length acap) w (by omega) HTA.out HPA.out HAA.out)
    have hck : checkF ts [ps, aps] = if (termsF ts).1 = 0 then (if (pairsF ps ts.length 0).1 = 0 then pairsF aps ts.length ps.length else pairsF ps ts.length 0) else termsF ts := by
      rw [checkF, listsF_two]
    by_cases hA : (termsF ts).1 = 0
    · have hA2 := termsF_zero2 hA
      rw [if_pos hA] at hck
      by_cases hB : (pairsF ps ts.length 0).1 = 0
      · obtain ⟨hB2, hp120, hpin⟩ := pairsF_zero hB
        rw [if_pos hB] at hck
        obtain ⟨_, hki⟩ := termsF_zero hA
        have HF := Lib.hid hB2; have HA2 := Lib.hid hA2; have HKI := Lib.hid hki; have HPL := Lib.hid hpin
        clear hA hA2 hB hB2 hki hpin
        by_cases hC : (pairsF aps ts.length ps.length).1 = 0
        · obtain ⟨hC2, ha120, hain⟩ := pairsF_zero hC
          have HF2 := Lib.hid hC2; have HAL := Lib.hid hain; clear hain
          rw [hC2] at hck
          have HRC0 := fun (W : World) h1 h2 => refClasses_any ts ps (.slice to ts.length (ts.length + tcap)) (.slice po ps.length pcap) W (by omega) (by omega) HKI.out HPL.out h1 h2
          have hgood := classes_good (ts := ts) HPL.out
          have hdr : doR ts ps aps = match firstI (hitP (classes ts ps) aps) aps.length with
            | some i => ⟨2, [], whyL ts ps (gP aps i).1.toNat (gP aps i).2.toNat, i⟩
            | none => ⟨1, classes ts ps, [], 0⟩ := by rw [doR, hck]; rfl
          rw [hck] at HW
          clear hck hC hC2
          generalize classes ts ps = CL at HRC0 hgood hdr
          have HRC := Lib.hid HRC0; have HGD := Lib.hid hgood; clear HRC0 hgood
          cases hfi : firstI (hitP CL aps) aps.length with
          | none =>
            rw [hfi] at hdr
            rw [hdr] at HW
            simp only [FV_mk] at HW
            have HNO := Lib.hid (firstI_none' hfi)
            clear hdr hfi
            go_enter Try.func3, Try.ntmps3
            go_wp2_with fail
            refine HW.out.mono ?_
            rintro e w1 ⟨u, v, rfl, hl1, hl2, hb1⟩
            obtain ⟨uo, uc, rfl, _⟩ := hl1.1
            obtain ⟨vo, vc, rfl, _⟩ := hl2.1
            have HL1 := Lib.hid hl1.1; have HL2 := Lib.hid hl2.1; clear hl1 hl2
            have hc0 := heap_alloc_old (o' := .cells #[.int .i64 0, .int .i64 0] 28) (heap_ofAlloc w1 (.cells #[.int .i64 1, .slice uo (CL).length uc, .slice vo (([] : List Nat)).length vc, .int .i64 0] 26))
            have hf0 := heap_ofAlloc (w1.alloc (.cells #[.int .i64 1, .slice uo (CL).length uc, .slice vo (([] : List Nat)).length vc, .int .i64 0] 26)) (.cells #[.int .i64 0, .int .i64 0] 28)
            rw [World.size_alloc] at hf0
            have hba := ((Below.refl w1.heap.size w1).alloc (Nat.le_refl _) (.cells #[.int .i64 1, .slice uo (CL).length uc, .slice vo (([] : List Nat)).length vc, .int .i64 0] 26)).alloc (by simp) (.cells #[.int .i64 0, .int .i64 0] 28)
            go_wp2_with fail
            refine (terms_any ts _ _ (by omega) ((HTA.out.below hb1).below hba)).mono ?_
            rintro e w2 ⟨rfl, hb2⟩
            have hb12 := Below.step hba hb2
            have hc2 := Below.heapAt hb2 hc0
            have hf2 := Below.heapAt hb2 hf0
            rw [HA2.out, FV_mk]
            have hg3 := heap_ofAlloc w2 (.cells #[.int .i64 0, .int .i64 0] 28)
            have hc3 := heap_alloc_old (o' := .cells #[.int .i64 0, .int .i64 0] 28) hc2
            have hf3 := heap_alloc_old (o' := .cells #[.int .i64 0, .int .i64 0] 28) hf2
            have hb13 := Below.step hb12 ((Below.refl w2.heap.size w2).alloc (Nat.le_refl _) (.cells #[.int .i64 0, .int .i64 0] 28))
            have hw2f := heap_lt hf2
            have hw2c := heap_lt hc2
            have hs13 := hb13.size
            generalize hWW3 : w2.alloc (.cells #[.int .i64 0, .int .i64 0] 28) = w3 at hg3 hf3 hc3 hb13 hs13
            have HWW3 := Lib.hid hWW3; clear hWW3
            clear hf0 hc0
            go_wp2_with fail
            rw [HWW3.out]
            refine (pairs_any ps ts.length 0 _ _ (by omega) (by omega) ((HPA.out.below hb1).below hb13)).mono ?_
            rintro e w4 ⟨rfl, hb4⟩
            have hb14 := Below.step hb13 hb4
            have hg4 := Below.heapAt hb4 hg3
            have hf4 := Below.heapAt hb4 hf3
            have hc4 := Below.heapAt hb4 hc3
            rw [HF.out, FV_mk]
            have hltg4 := heap_lt hg4
            have hltf4 := heap_lt hf4
            have hltc4 := heap_lt hc4
            have hs14 := hb14.size
            have hg5 := box2_set hg4 (.int .i64 0) (.int .i64 0)
            have hf5 := heap_set_other (heap_set_other (a := ⟨w2.heap.size, 0, none⟩) (u := .int .i64 0) hf4 (by simp; omega)) (a := ⟨w2.heap.size, 1, none⟩) (u := .int .i64 0) (by simp; omega)
            have hc5 := heap_set_other (heap_set_other (a := ⟨w2.heap.size, 0, none⟩) (u := .int .i64 0) hc4 (by simp; omega)) (a := ⟨w2.heap.size, 1, none⟩) (u := .int .i64 0) (by simp; omega)
            have hb15 := (hb14.setCell (p := ⟨w2.heap.size, 0, none⟩) (by simp; omega) (.int .i64 0)).setCell (p := ⟨w2.heap.size, 1, none⟩) (by simp; omega) (.int .i64 0)
            generalize hWW5 : (w4.setCell ⟨w2.heap.size, 0, none⟩ (.int .i64 0)).setCell ⟨w2.heap.size, 1, none⟩ (.int .i64 0) = w5 at hg5 hf5 hc5 hb15
            have HWW5 := Lib.hid hWW5; clear hWW5
            obtain ⟨⟨x0, x1⟩, x2, x3⟩ := box2 hg4
            go_wp2_with fail
            rw [HWW5.out]
            clear x0 x1 x2 x3
            obtain ⟨⟨y0, _⟩, y1, _⟩ := box2 hg5
            refine (pairs_any aps ts.length _ _ _ (by omega) (by omega) ((HAA.out.below hb1).below hb15)).mono ?_
            rintro e w6 ⟨rfl, hb6⟩
            have hb16 := Below.step hb15 hb6
            have hg6 := Below.heapAt hb6 hg5
            have hf6 := Below.heapAt hb6 hf5
            have hc6 := Below.heapAt hb6 hc5
            rw [HF2.out, FV_mk]
            have hltg6 := heap_lt hg6
            have hltf6 := heap_lt hf6
            have hltc6 := heap_lt hc6
            have hs16 := hb16.size
            have hg7 := box2_set hg6 (.int .i64 0) (.int .i64 0)
            have hf7 := heap_set_other (heap_set_other (a := ⟨w2.heap.size, 0, none⟩) (u := .int .i64 0) hf6 (by simp; omega)) (a := ⟨w2.heap.size, 1, none⟩) (u := .int .i64 0) (by simp; omega)
            have hc7 := heap_set_other (heap_set_other (a := ⟨w2.heap.size, 0, none⟩) (u := .int .i64 0) hc6 (by simp; omega)) (a := ⟨w2.heap.size, 1, none⟩) (u := .int .i64 0) (by simp; omega)
            have hb17 := (hb16.setCell (p := ⟨w2.heap.size, 0, none⟩) (by simp; omega) (.int .i64 0)).setCell (p := ⟨w2.heap.size, 1, none⟩) (by simp; omega) (.int .i64 0)
            generalize hWW7 : (w6.setCell ⟨w2.heap.size, 0, none⟩ (.int .i64 0)).setCell ⟨w2.heap.size, 1, none⟩ (.int .i64 0) = w7 at hg7 hf7 hc7 hb17
            have HWW7 := Lib.hid hWW7; clear hWW7
            obtain ⟨⟨x0, x1⟩, x2, x3⟩ := box2 hg6
            obtain ⟨⟨p0, _⟩, p1, _⟩ := box2 hf6
            go_wp2_with fail
            rw [HWW7.out]
            clear x0 x1 x2 x3
            have ez : w7.heap.size = w6.heap.size := by rw [← HWW7.out]; simp
            have hbw8 := (Below.refl w7.heap.size w7).alloc (Nat.le_refl _) (.cells #[.int .i64 0, .slice none 0 0, .slice none 0 0, .int .i64 0] 26)
            have hc8 := Below.heapAt hbw8 hc7
            have hf8 := Below.heapAt hbw8 hf7
            have hg8 := Below.heapAt hbw8 hg7
            have hq8 := heap_ofAlloc w7 (.cells #[.int .i64 0, .slice none 0 0, .slice none 0 0, .int .i64 0] 26)
            rw [ez] at hq8
            have hb18 := Below.step hb17 hbw8
            have hs8 : (w7.alloc (.cells #[.int .i64 0, .slice none 0 0, .slice none 0 0, .int .i64 0] 26)).heap.size = w6.heap.size + 1 := by simp [ez]
            generalize w7.alloc (.cells #[.int .i64 0, .slice none 0 0, .slice none 0 0, .int .i64 0] 26) = w8 at hc8 hf8 hg8 hq8 hb18 hs8 ⊢
            clear hc7 hf7 hg7 hb17 hbw8 ez
            refine (HRC.out w8 ((HTA.out.below hb1).below hb18) ((HPA.out.below hb1).below hb18)).mono ?_
            rintro e w9 ⟨kv, rfl, hcl, hb9⟩
            have HCL := Lib.hid (hcl.mono (B' := w6.heap.size + 1) (by omega))
            obtain ⟨ko, kc, rfl, _⟩ := hcl.1
            clear hcl
            have hb19 := Below.step hb18 hb9
            have hc9 := Below.heapAt hb9 hc8
            have hf9 := Below.heapAt hb9 hf8
            have hg9 := Below.heapAt hb9 hg8
            have hq9 := Below.heapAt hb9 hq8
            have hltq := heap_lt hq9
            obtain ⟨⟨x0, y0⟩, ⟨x1, y1⟩, ⟨x2, y2⟩, x3, y3⟩ := box4 hq9
            have hq10 := box4_set hq9 (.int .i64 1) (.slice ko CL.length kc) (.slice none 0 0) (.int .i64 0)
            have hc10 := (heap_set_other (a := ⟨w6.heap.size, 3, none⟩) (u := .int .i64 0) (heap_set_other (a := ⟨w6.heap.size, 2, none⟩) (u := .slice none 0 0) (heap_set_other (a := ⟨w6.heap.size, 1, none⟩) (u := .slice ko CL.length kc) (heap_set_other (a := ⟨w6.heap.size, 0, none⟩) (u := .int .i64 1) hc9 (by simp; omega)) (by simp; omega)) (by simp; omega)) (by simp; omega))
            have hf10 := (heap_set_other (a := ⟨w6.heap.size, 3, none⟩) (u := .int .i64 0) (heap_set_other (a := ⟨w6.heap.size, 2, none⟩) (u := .slice none 0 0) (heap_set_other (a := ⟨w6.heap.size, 1, none⟩) (u := .slice ko CL.length kc) (heap_set_other (a := ⟨w6.heap.size, 0, none⟩) (u := .int .i64 1) hf9 (by simp; omega)) (by simp; omega)) (by simp; omega)) (by simp; omega))
            have hg10 := (heap_set_other (a := ⟨w6.heap.size, 3, none⟩) (u := .int .i64 0) (heap_set_other (a := ⟨w6.heap.size, 2, none⟩) (u := .slice none 0 0) (heap_set_other (a := ⟨w6.heap.size, 1, none⟩) (u := .slice ko CL.length kc) (heap_set_other (a := ⟨w6.heap.size, 0, none⟩) (u := .int .i64 1) hg9 (by simp; omega)) (by simp; omega)) (by simp; omega)) (by simp; omega))
            have hb110 := ((((hb19.setCell (p := ⟨w6.heap.size, 0, none⟩) (by simp; omega) (.int .i64 1)).setCell (p := ⟨w6.heap.size, 1, none⟩) (by simp; omega) (.slice ko CL.length kc)).setCell (p := ⟨w6.heap.size, 2, none⟩) (by simp; omega) (.slice none 0 0)).setCell (p := ⟨w6.heap.size, 3, none⟩) (by simp; omega) (.int .i64 0))
            have HC10 := HCL.out
            have HC10 := HC10.setCell (a := ⟨w6.heap.size, 0, none⟩) (by simp) (.int .i64 1)
            have HC10 := HC10.setCell (a := ⟨w6.heap.size, 1, none⟩) (by simp) (.slice ko CL.length kc)
            have HC10 := HC10.setCell (a := ⟨w6.heap.size, 2, none⟩) (by simp) (.slice none 0 0)
            have HC10 := HC10.setCell (a := ⟨w6.heap.size, 3, none⟩) (by simp) (.int .i64 0)
            generalize hWW10 : ((((w9.setCell ⟨w6.heap.size, 0, none⟩ (.int .i64 1)).setCell ⟨w6.heap.size, 1, none⟩ (.slice ko CL.length kc)).setCell ⟨w6.heap.size, 2, none⟩ (.slice none 0 0)).setCell ⟨w6.heap.size, 3, none⟩ (.int .i64 0)) = w10 at hq10 hc10 hf10 hg10 hb110 HC10
            have HWW10 := Lib.hid hWW10; clear hWW10
            have HC10' := Lib.hid HC10
            clear HC10
            go_wp2_with fail
            rw [HWW10.out]
            clear x0 y0 x1 y1 x2 y2 x3 y3
            go_loopw [12, 13, 14] (fun i _ _ wr => ∃ k : Nat, k ≤ aps.length ∧ i = .int .i64 k ∧ Below w1.heap.size w1 wr ∧ (wr.heap[w1.heap.size]? = some (.cells #[.int .i64 1, .slice uo (CL).length uc, .slice vo (([] : List Nat)).length vc, .int .i64 0] 26 (0, 0)) ∧ wr.heap[w1.heap.size + 1]? = some (.cells #[.int .i64 0, .int .i64 0] 28 (0, 0)) ∧ wr.heap[w2.heap.size]? = some (.cells #[.int .i64 0, .int .i64 0] 28 (0, 0))) ∧ NatsFrom (w6.heap.size + 1) wr (.slice ko CL.length kc) CL ∧
                wr.heap[w6.heap.size]? = some (.cells #[.int .i64 1, .slice ko CL.length kc, .slice none 0 0, .int .i64 0] 26 (0, 0))) (fun i _ _ _ => aps.length - (intOf i).toNat)
            case atStart => exact ⟨0, by omega, rfl, hb110, ⟨hc10, hf10, hg10⟩, HC10'.out, hq10⟩
            case round =>
              obtain ⟨k, hk, rfl, hb, hboxes, hnk, hq⟩ := hrel
              have HNK := Lib.hid hnk; clear hnk
              obtain ⟨hc, hf, hg⟩ := hboxes
              have HC := Lib.hid hc; have HFB := Lib.hid hf; have HG := Lib.hid hg; clear hc hf hg
              obtain ⟨⟨k0, _⟩, ⟨k1, _⟩, ⟨k2, _⟩, k3, _⟩ := box4 HC.out
              obtain ⟨⟨l0, m0⟩, ⟨l1, m1⟩, ⟨l2, m2⟩, l3, m3⟩ := box4 hq
              have hltq := heap_lt hq
              have HQ := Lib.hid hq; clear hq
              by_cases hlt : k < aps.length
              · obtain ⟨b, off, rfl, t1, t2⟩ := HAP.out k hlt
                have s1 := Below.cellOf (Below.step hb1 hb) t1
                have s2 := Below.cellOf (Below.step hb1 hb) t2
                have r := HAL.out k hlt
                obtain ⟨x, hx⟩ := Int.eq_ofNat_of_zero_le r.1
                obtain ⟨y, hy⟩ := Int.eq_ofNat_of_zero_le r.2.2.1
                have hxn : x < CL.length := by rw [HGD.out.len]; omega
                have hyn : y < CL.length := by rw [HGD.out.len]; omega
                have hxt : x < ts.length := by omega
                have hyt : y < ts.length := by omega
                have HHIT := Lib.hid (show hitP CL aps k = ((gN CL x : Int) == (gN CL y : Int)) by
                  unfold hitP; rw [hx, hy, Bool.eq_iff_iff]; simp <;> omega)
                have HXX := Lib.hid (show (gP aps k).1.toNat = x ∧ (gP aps k).2.toNat = y by rw [hx, hy]; simp)
                simp only [hx, hy] at s1 s2
                clear t1 t2 r hx hy
                obtain ⟨ko', kc', e0, hcc⟩ := HNK.out.1
                simp only [Value.slice.injEq, true_and] at e0
                obtain ⟨rfl, rfl⟩ := e0
                obtain ⟨cb, cf, rfl, g1'⟩ := hcc.get hxn
                obtain ⟨cb', cf', e0, g2'⟩ := hcc.get hyn
                simp only [Option.some.injEq, Addr.mk.injEq] at e0
                obtain ⟨rfl, rfl, _⟩ := e0
                clear hcc
                have hno := HNO.out k hlt
                rw [HHIT.out] at hno
                have hht : ((gN CL x : Int) == (gN CL y : Int)) = false := hno
                clear hno
                have HH2 := Lib.hid hht
                go_wp2_with fail
                go_quiet (fail)
                go_wp2_with fail
                go_roundw
                case rel =>
                  have hbq : Below wr.heap.size wr (wr.drewN nq) := below_drewN (Below.refl _ _) nq
                  exact ⟨k + 1, by omega, by go_num, Below.step hb hbq, ⟨Below.heapAt hbq HC.out, Below.heapAt hbq HFB.out, Below.heapAt hbq HG.out⟩, HNK.out.below hbq, Below.heapAt hbq HQ.out⟩
                case measure => simp [intOf] <;> omega
              · obtain rfl : k = aps.length := by omega
                obtain ⟨⟨n0, _⟩, n1, _⟩ := box2 HFB.out
                obtain ⟨⟨o0, _⟩, o1, _⟩ := box2 HG.out
                go_wp2_with fail
                refine (ints_same (CL) _ _ _ (HL1.out.below hb) (HNK.out.1) (by rw [HGD.out.len]; omega)).mono ?_
                rintro e wa ⟨rfl, hba⟩
                have hca := Below.heapAt hba HC.out
                have hwa := Below.heapAt hba HQ.out
                clear k0 k1 k2 k3 l0 m0 l1 m1 l2 m2 l3 m3
                obtain ⟨⟨k0, _⟩, ⟨k1, _⟩, ⟨k2, _⟩, k3, _⟩ := box4 hca
                obtain ⟨⟨l0, _⟩, ⟨l1, _⟩, ⟨l2, _⟩, l3, _⟩ := box4 hwa
                go_wp2_with fail
                refine (ints_same ([]) _ _ _ (HL2.out.below (Below.step hb hba)) (NatsAt.nil _) (by simp)).mono ?_
                rintro e wb ⟨rfl, hbb⟩
                go_wp2_with fail
                go_ret
                exact ⟨rfl, Below.step (Below.step hb1 (Below.step hb hba)) hbb⟩
          | some i0 =>
            rw [hfi] at hdr
            rw [hdr] at HW
            simp only [FV_mk] at HW
            have HI0 := Lib.hid (firstI_some' hfi)
            have hi0 := HI0.out.1
            have hwle := whyL_le ts ps (gP aps i0).1.toNat (gP aps i0).2.toNat
            generalize hWL : whyL ts ps (gP aps i0).1.toNat (gP aps i0).2.toNat = WL at HW hwle
            have HWLE := Lib.hid hWL
            clear hdr hfi hWL
            go_enter Try.func3, Try.ntmps3
            go_wp2_with fail
            refine HW.out.mono ?_
            rintro e w1 ⟨u, v, rfl, hl1, hl2, hb1⟩
            obtain ⟨uo, uc, rfl, _⟩ := hl1.1
            obtain ⟨vo, vc, rfl, _⟩ := hl2.1
            have HL1 := Lib.hid hl1.1; have HL2 := Lib.hid hl2.1; clear hl1 hl2
            have hc0 := heap_alloc_old (o' := .cells #[.int .i64 0, .int .i64 0] 28) (heap_ofAlloc w1 (.cells #[.int .i64 2, .slice uo (([] : List Nat)).length uc, .slice vo (WL).length vc, .int .i64 i0] 26))
            have hf0 := heap_ofAlloc (w1.alloc (.cells #[.int .i64 2, .slice uo (([] : List Nat)).length uc, .slice vo (WL).length vc, .int .i64 i0] 26)) (.cells #[.int .i64 0, .int .i64 0] 28)
            rw [World.size_alloc] at hf0
            have hba := ((Below.refl w1.heap.size w1).alloc (Nat.le_refl _) (.cells #[.int .i64 2, .slice uo (([] : List Nat)).length uc, .slice vo (WL).length vc, .int .i64 i0] 26)).alloc (by simp) (.cells #[.int .i64 0, .int .i64 0] 28)
            go_wp2_with fail
            refine (terms_any ts _ _ (by omega) ((HTA.out.below hb1).below hba)).mono ?_
            rintro e w2 ⟨rfl, hb2⟩
            have hb12 := Below.step hba hb2
            have hc2 := Below.heapAt hb2 hc0
            have hf2 := Below.heapAt hb2 hf0
            rw [HA2.out, FV_mk]
            have hg3 := heap_ofAlloc w2 (.cells #[.int .i64 0, .int .i64 0] 28)
            have hc3 := heap_alloc_old (o' := .cells #[.int .i64 0, .int .i64 0] 28) hc2
            have hf3 := heap_alloc_old (o' := .cells #[.int .i64 0, .int .i64 0] 28) hf2
            have hb13 := Below.step hb12 ((Below.refl w2.heap.size w2).alloc (Nat.le_refl _) (.cells #[.int .i64 0, .int .i64 0] 28))
            have hw2f := heap_lt hf2
            have hw2c := heap_lt hc2
            have hs13 := hb13.size
            generalize hWW3 : w2.alloc (.cells #[.int .i64 0, .int .i64 0] 28) = w3 at hg3 hf3 hc3 hb13 hs13
            have HWW3 := Lib.hid hWW3; clear hWW3
            clear hf0 hc0
            go_wp2_with fail
            rw [HWW3.out]
            refine (pairs_any ps ts.length 0 _ _ (by omega) (by omega) ((HPA.out.below hb1).below hb13)).mono ?_
            rintro e w4 ⟨rfl, hb4⟩
            have hb14 := Below.step hb13 hb4
            have hg4 := Below.heapAt hb4 hg3
            have hf4 := Below.heapAt hb4 hf3
            have hc4 := Below.heapAt hb4 hc3
            rw [HF.out, FV_mk]
            have hltg4 := heap_lt hg4
            have hltf4 := heap_lt hf4
            have hltc4 := heap_lt hc4
            have hs14 := hb14.size
            have hg5 := box2_set hg4 (.int .i64 0) (.int .i64 0)
            have hf5 := heap_set_other (heap_set_other (a := ⟨w2.heap.size, 0, none⟩) (u := .int .i64 0) hf4 (by simp; omega)) (a := ⟨w2.heap.size, 1, none⟩) (u := .int .i64 0) (by simp; omega)
            have hc5 := heap_set_other (heap_set_other (a := ⟨w2.heap.size, 0, none⟩) (u := .int .i64 0) hc4 (by simp; omega)) (a := ⟨w2.heap.size, 1, none⟩) (u := .int .i64 0) (by simp; omega)
            have hb15 := (hb14.setCell (p := ⟨w2.heap.size, 0, none⟩) (by simp; omega) (.int .i64 0)).setCell (p := ⟨w2.heap.size, 1, none⟩) (by simp; omega) (.int .i64 0)
            generalize hWW5 : (w4.setCell ⟨w2.heap.size, 0, none⟩ (.int .i64 0)).setCell ⟨w2.heap.size, 1, none⟩ (.int .i64 0) = w5 at hg5 hf5 hc5 hb15
            have HWW5 := Lib.hid hWW5; clear hWW5
            obtain ⟨⟨x0, x1⟩, x2, x3⟩ := box2 hg4
            go_wp2_with fail
            rw [HWW5.out]
            clear x0 x1 x2 x3
            obtain ⟨⟨y0, _⟩, y1, _⟩ := box2 hg5
            refine (pairs_any aps ts.length _ _ _ (by omega) (by omega) ((HAA.out.below hb1).below hb15)).mono ?_
            rintro e w6 ⟨rfl, hb6⟩
            have hb16 := Below.step hb15 hb6
            have hg6 := Below.heapAt hb6 hg5
            have hf6 := Below.heapAt hb6 hf5
            have hc6 := Below.heapAt hb6 hc5
            rw [HF2.out, FV_mk]
            have hltg6 := heap_lt hg6
            have hltf6 := heap_lt hf6
            have hltc6 := heap_lt hc6
            have hs16 := hb16.size
            have hg7 := box2_set hg6 (.int .i64 0) (.int .i64 0)
            have hf7 := heap_set_other (heap_set_other (a := ⟨w2.heap.size, 0, none⟩) (u := .int .i64 0) hf6 (by simp; omega)) (a := ⟨w2.heap.size, 1, none⟩) (u := .int .i64 0) (by simp; omega)
            have hc7 := heap_set_other (heap_set_other (a := ⟨w2.heap.size, 0, none⟩) (u := .int .i64 0) hc6 (by simp; omega)) (a := ⟨w2.heap.size, 1, none⟩) (u := .int .i64 0) (by simp; omega)
            have hb17 := (hb16.setCell (p := ⟨w2.heap.size, 0, none⟩) (by simp; omega) (.int .i64 0)).setCell (p := ⟨w2.heap.size, 1, none⟩) (by simp; omega) (.int .i64 0)
            generalize hWW7 : (w6.setCell ⟨w2.heap.size, 0, none⟩ (.int .i64 0)).setCell ⟨w2.heap.size, 1, none⟩ (.int .i64 0) = w7 at hg7 hf7 hc7 hb17
            have HWW7 := Lib.hid hWW7; clear hWW7
            obtain ⟨⟨x0, x1⟩, x2, x3⟩ := box2 hg6
            obtain ⟨⟨p0, _⟩, p1, _⟩ := box2 hf6
            go_wp2_with fail
            rw [HWW7.out]
            clear x0 x1 x2 x3
            have ez : w7.heap.size = w6.heap.size := by rw [← HWW7.out]; simp
            have hbw8 := (Below.refl w7.heap.size w7).alloc (Nat.le_refl _) (.cells #[.int .i64 0, .slice none 0 0, .slice none 0 0, .int .i64 0] 26)
            have hc8 := Below.heapAt hbw8 hc7
            have hf8 := Below.heapAt hbw8 hf7
            have hg8 := Below.heapAt hbw8 hg7
            have hq8 := heap_ofAlloc w7 (.cells #[.int .i64 0, .slice none 0 0, .slice none 0 0, .int .i64 0] 26)
            rw [ez] at hq8
            have hb18 := Below.step hb17 hbw8
            have hs8 : (w7.alloc (.cells #[.int .i64 0, .slice none 0 0, .slice none 0 0, .int .i64 0] 26)).heap.size = w6.heap.size + 1 := by simp [ez]
            generalize w7.alloc (.cells #[.int .i64 0, .slice none 0 0, .slice none 0 0, .int .i64 0] 26) = w8 at hc8 hf8 hg8 hq8 hb18 hs8 ⊢
            clear hc7 hf7 hg7 hb17 hbw8 ez
            refine (HRC.out w8 ((HTA.out.below hb1).below hb18) ((HPA.out.below hb1).below hb18)).mono ?_
            rintro e w9 ⟨kv, rfl, hcl, hb9⟩
            have HCL := Lib.hid (hcl.mono (B' := w6.heap.size + 1) (by omega))
            obtain ⟨ko, kc, rfl, _⟩ := hcl.1
            clear hcl
            have hb19 := Below.step hb18 hb9
            have hc9 := Below.heapAt hb9 hc8
            have hf9 := Below.heapAt hb9 hf8
            have hg9 := Below.heapAt hb9 hg8
            have hq9 := Below.heapAt hb9 hq8
            have hltq := heap_lt hq9
            obtain ⟨⟨x0, y0⟩, ⟨x1, y1⟩, ⟨x2, y2⟩, x3, y3⟩ := box4 hq9
            have hq10 := box4_set hq9 (.int .i64 1) (.slice ko CL.length kc) (.slice none 0 0) (.int .i64 0)
            have hc10 := (heap_set_other (a := ⟨w6.heap.size, 3, none⟩) (u := .int .i64 0) (heap_set_other (a := ⟨w6.heap.size, 2, none⟩) (u := .slice none 0 0) (heap_set_other (a := ⟨w6.heap.size, 1, none⟩) (u := .slice ko CL.length kc) (heap_set_other (a := ⟨w6.heap.size, 0, none⟩) (u := .int .i64 1) hc9 (by simp; omega)) (by simp; omega)) (by simp; omega)) (by simp; omega))
            have hf10 := (heap_set_other (a := ⟨w6.heap.size, 3, none⟩) (u := .int .i64 0) (heap_set_other (a := ⟨w6.heap.size, 2, none⟩) (u := .slice none 0 0) (heap_set_other (a := ⟨w6.heap.size, 1, none⟩) (u := .slice ko CL.length kc) (heap_set_other (a := ⟨w6.heap.size, 0, none⟩) (u := .int .i64 1) hf9 (by simp; omega)) (by simp; omega)) (by simp; omega)) (by simp; omega))
            have hg10 := (heap_set_other (a := ⟨w6.heap.size, 3, none⟩) (u := .int .i64 0) (heap_set_other (a := ⟨w6.heap.size, 2, none⟩) (u := .slice none 0 0) (heap_set_other (a := ⟨w6.heap.size, 1, none⟩) (u := .slice ko CL.length kc) (heap_set_other (a := ⟨w6.heap.size, 0, none⟩) (u := .int .i64 1) hg9 (by simp; omega)) (by simp; omega)) (by simp; omega)) (by simp; omega))
            have hb110 := ((((hb19.setCell (p := ⟨w6.heap.size, 0, none⟩) (by simp; omega) (.int .i64 1)).setCell (p := ⟨w6.heap.size, 1, none⟩) (by simp; omega) (.slice ko CL.length kc)).setCell (p := ⟨w6.heap.size, 2, none⟩) (by simp; omega) (.slice none 0 0)).setCell (p := ⟨w6.heap.size, 3, none⟩) (by simp; omega) (.int .i64 0))
            have HC10 := HCL.out
            have HC10 := HC10.setCell (a := ⟨w6.heap.size, 0, none⟩) (by simp) (.int .i64 1)
            have HC10 := HC10.setCell (a := ⟨w6.heap.size, 1, none⟩) (by simp) (.slice ko CL.length kc)
            have HC10 := HC10.setCell (a := ⟨w6.heap.size, 2, none⟩) (by simp) (.slice none 0 0)
            have HC10 := HC10.setCell (a := ⟨w6.heap.size, 3, none⟩) (by simp) (.int .i64 0)
            generalize hWW10 : ((((w9.setCell ⟨w6.heap.size, 0, none⟩ (.int .i64 1)).setCell ⟨w6.heap.size, 1, none⟩ (.slice ko CL.length kc)).setCell ⟨w6.heap.size, 2, none⟩ (.slice none 0 0)).setCell ⟨w6.heap.size, 3, none⟩ (.int .i64 0)) = w10 at hq10 hc10 hf10 hg10 hb110 HC10
            have HWW10 := Lib.hid hWW10; clear hWW10
            have HC10' := Lib.hid HC10
            clear HC10
            go_wp2_with fail
            rw [HWW10.out]
            clear x0 y0 x1 y1 x2 y2 x3 y3
            go_loopw [12, 13, 14] (fun i _ _ wr => ∃ k : Nat, i = .int .i64 k ∧ Below w1.heap.size w1 wr ∧ (wr.heap[w1.heap.size]? = some (.cells #[.int .i64 2, .slice uo (([] : List Nat)).length uc, .slice vo (WL).length vc, .int .i64 i0] 26 (0, 0)) ∧ wr.heap[w1.heap.size + 1]? = some (.cells #[.int .i64 0, .int .i64 0] 28 (0, 0)) ∧ wr.heap[w2.heap.size]? = some (.cells #[.int .i64 0, .int .i64 0] 28 (0, 0))) ∧ NatsFrom (w6.heap.size + 1) wr (.slice ko CL.length kc) CL ∧
                ((k ≤ i0 ∧ wr.heap[w6.heap.size]? = some (.cells #[.int .i64 1, .slice ko CL.length kc, .slice none 0 0, .int .i64 0] 26 (0, 0))) ∨
                 (k = i0 + 1 ∧ ∃ no nc, NatsAt wr (.slice no WL.length nc) WL ∧ wr.heap[w6.heap.size]? = some (.cells #[.int .i64 2, .slice none 0 0, .slice no WL.length nc, .int .i64 i0] 26 (0, 0))))) (fun i _ _ _ => i0 + 1 - (intOf i).toNat)
            case atStart => exact ⟨0, rfl, hb110, ⟨hc10, hf10, hg10⟩, HC10'.out, .inl ⟨Nat.zero_le _, hq10⟩⟩
            case round =>
              obtain ⟨k, rfl, hb, hboxes, hnk, hmode⟩ := hrel
              have HNK := Lib.hid hnk; clear hnk
              rcases hmode with ⟨hki, hq⟩ | ⟨rfl, no, nc, hwl, hq⟩
              · obtain ⟨hc, hf, hg⟩ := hboxes
                have HC := Lib.hid hc; have HFB := Lib.hid hf; have HG := Lib.hid hg; clear hc hf hg
                obtain ⟨⟨k0, _⟩, ⟨k1, _⟩, ⟨k2, _⟩, k3, _⟩ := box4 HC.out
                obtain ⟨⟨l0, m0⟩, ⟨l1, m1⟩, ⟨l2, m2⟩, l3, m3⟩ := box4 hq
                have hltq := heap_lt hq
                have HQ := Lib.hid hq; clear hq
                have hlt : k < aps.length := by omega
                obtain ⟨b, off, rfl, t1, t2⟩ := HAP.out k hlt
                have s1 := Below.cellOf (Below.step hb1 hb) t1
                have s2 := Below.cellOf (Below.step hb1 hb) t2
                have r := HAL.out k hlt
                obtain ⟨x, hx⟩ := Int.eq_ofNat_of_zero_le r.1
                obtain ⟨y, hy⟩ := Int.eq_ofNat_of_zero_le r.2.2.1
                have hxn : x < CL.length := by rw [HGD.out.len]; omega
                have hyn : y < CL.length := by rw [HGD.out.len]; omega
                have hxt : x < ts.length := by omega
                have hyt : y < ts.length := by omega
                have HHIT := Lib.hid (show hitP CL aps k = ((gN CL x : Int) == (gN CL y : Int)) by
                  unfold hitP; rw [hx, hy, Bool.eq_iff_iff]; simp <;> omega)
                have HXX := Lib.hid (show (gP aps k).1.toNat = x ∧ (gP aps k).2.toNat = y by rw [hx, hy]; simp)
                simp only [hx, hy] at s1 s2
                clear t1 t2 r hx hy
                obtain ⟨ko', kc', e0, hcc⟩ := HNK.out.1
                simp only [Value.slice.injEq, true_and] at e0
                obtain ⟨rfl, rfl⟩ := e0
                obtain ⟨cb, cf, rfl, g1'⟩ := hcc.get hxn
                obtain ⟨cb', cf', e0, g2'⟩ := hcc.get hyn
                simp only [Option.some.injEq, Addr.mk.injEq] at e0
                obtain ⟨rfl, rfl, _⟩ := e0
                clear hcc
                cases hht : ((gN CL x : Int) == (gN CL y : Int)) with
                | false =>
                  have hkne : k ≠ i0 := by
                    rintro rfl
                    have := HI0.out.2.1
                    rw [HHIT.out, hht] at this
                    cases this
                  have HH2 := Lib.hid hht
                  go_wp2_with fail
                  go_quiet (fail)
                  go_wp2_with fail
                  go_roundw
                  case rel =>
                    have hbq : Below wr.heap.size wr (wr.drewN nq) := below_drewN (Below.refl _ _) nq
                    exact ⟨k + 1, by go_num, Below.step hb hbq, ⟨Below.heapAt hbq HC.out, Below.heapAt hbq HFB.out, Below.heapAt hbq HG.out⟩, HNK.out.below hbq, .inl ⟨by omega, Below.heapAt hbq HQ.out⟩⟩
                  case measure => simp [intOf] <;> omega
                | true =>
                  obtain rfl : k = i0 := by
                    by_cases e : k = i0
                    · exact e
                    · have := HI0.out.2.2 k (by omega)
                      rw [HHIT.out, hht] at this
                      cases this
                  have HH2 := Lib.hid hht
                  go_wp2_with fail
                  go_quiet (fail)
                  have hbq : Below wr.heap.size wr (wr.drewN nq) := below_drewN (Below.refl _ _) nq
                  have hbB := Below.step hb hbq
                  have hcB := Below.heapAt hbq HC.out
                  have hfB := Below.heapAt hbq HFB.out
                  have hgB := Below.heapAt hbq HG.out
                  have hqB := Below.heapAt hbq HQ.out
                  have hszB := hbq.size
                  have HNB := Lib.hid (HNK.out.below hbq)
                  clear g1' g2' s1 s2 k0 k1 k2 k3 l0 m0 l1 m1 l2 m2 l3 m3
                  go_wp2_with fail
                  have hea := enough_any ts ps x y (.slice to ts.length (ts.length + tcap)) (.slice po ps.length pcap) (wr.drewN nq) (by omega) (by omega) HKI.out HPL.out hxt hyt ((HTA.out.below hb1).below hbB) ((HPA.out.below hb1).below hbB)
                  rw [← HXX.out.1, ← HXX.out.2, HWLE.out, HXX.out.1, HXX.out.2] at hea
                  refine hea.mono ?_
                  rintro e w11 ⟨ev, rfl, hen, hb11⟩
                  have hltq2 : w6.heap.size < (wr.drewN nq).heap.size := by simpa using hltq
                  have HEN := Lib.hid (hen.mono (B' := w6.heap.size + 1) (by omega))
                  obtain ⟨eo, ec, rfl, _⟩ := hen.1
                  clear hen hea
                  have hb111 := Below.step hbB hb11
                  have hc11 := Below.heapAt hb11 hcB
                  have hf11 := Below.heapAt hb11 hfB
                  have hg11 := Below.heapAt hb11 hgB
                  have hq11 := Below.heapAt hb11 hqB
                  have HN11 := HNB.out.below hb11
                  have hltq3 := heap_lt hq11
                  obtain ⟨⟨x0, y0⟩, ⟨x1, y1⟩, ⟨x2, y2⟩, x3, y3⟩ := box4 hq11
                  have hq12 := box4_set hq11 (.int .i64 2) (.slice none 0 0) (.slice eo WL.length ec) (.int .i64 k)
                  have hc12 := (heap_set_other (a := ⟨w6.heap.size, 3, none⟩) (u := .int .i64 k) (heap_set_other (a := ⟨w6.heap.size, 2, none⟩) (u := .slice eo WL.length ec) (heap_set_other (a := ⟨w6.heap.size, 1, none⟩) (u := .slice none 0 0) (heap_set_other (a := ⟨w6.heap.size, 0, none⟩) (u := .int .i64 2) hc11 (by simp; omega)) (by simp; omega)) (by simp; omega)) (by simp; omega))
                  have hf12 := (heap_set_other (a := ⟨w6.heap.size, 3, none⟩) (u := .int .i64 k) (heap_set_other (a := ⟨w6.heap.size, 2, none⟩) (u := .slice eo WL.length ec) (heap_set_other (a := ⟨w6.heap.size, 1, none⟩) (u := .slice none 0 0) (heap_set_other (a := ⟨w6.heap.size, 0, none⟩) (u := .int .i64 2) hf11 (by simp; omega)) (by simp; omega)) (by simp; omega)) (by simp; omega))
                  have hg12 := (heap_set_other (a := ⟨w6.heap.size, 3, none⟩) (u := .int .i64 k) (heap_set_other (a := ⟨w6.heap.size, 2, none⟩) (u := .slice eo WL.length ec) (heap_set_other (a := ⟨w6.heap.size, 1, none⟩) (u := .slice none 0 0) (heap_set_other (a := ⟨w6.heap.size, 0, none⟩) (u := .int .i64 2) hg11 (by simp; omega)) (by simp; omega)) (by simp; omega)) (by simp; omega))
                  have hb112 := ((((hb111.setCell (p := ⟨w6.heap.size, 0, none⟩) (by simp; omega) (.int .i64 2)).setCell (p := ⟨w6.heap.size, 1, none⟩) (by simp; omega) (.slice none 0 0)).setCell (p := ⟨w6.heap.size, 2, none⟩) (by simp; omega) (.slice eo WL.length ec)).setCell (p := ⟨w6.heap.size, 3, none⟩) (by simp; omega) (.int .i64 k))
                  have HN12 := HN11
                  have HN12 := HN12.setCell (a := ⟨w6.heap.size, 0, none⟩) (by simp) (.int .i64 2)
                  have HN12 := HN12.setCell (a := ⟨w6.heap.size, 1, none⟩) (by simp) (.slice none 0 0)
                  have HN12 := HN12.setCell (a := ⟨w6.heap.size, 2, none⟩) (by simp) (.slice eo WL.length ec)
                  have HN12 := HN12.setCell (a := ⟨w6.heap.size, 3, none⟩) (by simp) (.int .i64 k)
                  have HE12 := HEN.out
                  have HE12 := HE12.setCell (a := ⟨w6.heap.size, 0, none⟩) (by simp) (.int .i64 2)
                  have HE12 := HE12.setCell (a := ⟨w6.heap.size, 1, none⟩) (by simp) (.slice none 0 0)
                  have HE12 := HE12.setCell (a := ⟨w6.heap.size, 2, none⟩) (by simp) (.slice eo WL.length ec)
                  have HE12 := HE12.setCell (a := ⟨w6.heap.size, 3, none⟩) (by simp) (.int .i64 k)
                  generalize hWW12 : ((((w11.setCell ⟨w6.heap.size, 0, none⟩ (.int .i64 2)).setCell ⟨w6.heap.size, 1, none⟩ (.slice none 0 0)).setCell ⟨w6.heap.size, 2, none⟩ (.slice eo WL.length ec)).setCell ⟨w6.heap.size, 3, none⟩ (.int .i64 k)) = w12 at hq12 hc12 hf12 hg12 hb112 HN12 HE12
                  have HWW12 := Lib.hid hWW12; have HN12' := Lib.hid HN12; have HE12' := Lib.hid HE12
                  clear hWW12 HN11 HN12 HE12
                  go_wp2_with fail
                  rw [HWW12.out]
                  go_roundw
                  case rel => exact ⟨k + 1, by go_num, hb112, ⟨hc12, hf12, hg12⟩, HN12'.out, .inr ⟨rfl, eo, ec, HE12'.out.1, hq12⟩⟩
                  case measure => simp [intOf] <;> omega
              · have HWLN := Lib.hid hwl; clear hwl
                obtain ⟨hc, hf, hg⟩ := hboxes
                have HC := Lib.hid hc; have HFB := Lib.hid hf; have HG := Lib.hid hg; clear hc hf hg
                obtain ⟨⟨k0, _⟩, ⟨k1, _⟩, ⟨k2, _⟩, k3, _⟩ := box4 HC.out
                obtain ⟨⟨l0, m0⟩, ⟨l1, m1⟩, ⟨l2, m2⟩, l3, m3⟩ := box4 hq
                have hltq := heap_lt hq
                have HQ := Lib.hid hq; clear hq
                obtain ⟨⟨n0, _⟩, n1, _⟩ := box2 HFB.out
                obtain ⟨⟨o0, _⟩, o1, _⟩ := box2 HG.out
                by_cases hlt : i0 + 1 < aps.length
                · go_wp2_with fail
                  refine (ints_same ([]) _ _ _ (HL1.out.below hb) (NatsAt.nil _) (by simp)).mono ?_
                  rintro e wa ⟨rfl, hba⟩
                  have hca := Below.heapAt hba HC.out
                  have hwa := Below.heapAt hba HQ.out
                  clear k0 k1 k2 k3 l0 m0 l1 m1 l2 m2 l3 m3
                  obtain ⟨⟨k0, _⟩, ⟨k1, _⟩, ⟨k2, _⟩, k3, _⟩ := box4 hca
                  obtain ⟨⟨l0, _⟩, ⟨l1, _⟩, ⟨l2, _⟩, l3, _⟩ := box4 hwa
                  go_wp2_with fail
                  refine (ints_same (WL) _ _ _ (HL2.out.below (Below.step hb hba)) (HWLN.out.below hba) (by omega)).mono ?_
                  rintro e wb ⟨rfl, hbb⟩
                  go_wp2_with fail
                  go_ret
                  exact ⟨rfl, Below.step (Below.step hb1 (Below.step hb hba)) hbb⟩
                · go_wp2_with fail
                  refine (ints_same ([]) _ _ _ (HL1.out.below hb) (NatsAt.nil _) (by simp)).mono ?_
                  rintro e wa ⟨rfl, hba⟩
                  have hca := Below.heapAt hba HC.out
                  have hwa := Below.heapAt hba HQ.out
                  clear k0 k1 k2 k3 l0 m0 l1 m1 l2 m2 l3 m3
                  obtain ⟨⟨k0, _⟩, ⟨k1, _⟩, ⟨k2, _⟩, k3, _⟩ := box4 hca
                  obtain ⟨⟨l0, _⟩, ⟨l1, _⟩, ⟨l2, _⟩, l3, _⟩ := box4 hwa
                  go_wp2_with fail
                  refine (ints_same (WL) _ _ _ (HL2.out.below (Below.step hb hba)) (HWLN.out.below hba) (by omega)).mono ?_
                  rintro e wb ⟨rfl, hbb⟩
                  go_wp2_with fail
                  go_ret
                  exact ⟨rfl, Below.step (Below.step hb1 (Below.step hb hba)) hbb⟩
        · have hdr : doR ts ps aps = ⟨0, [], [], 0⟩ := by rw [doR, hck, if_pos hC]
          rw [hdr, hck] at HW
          generalize hF2 : pairsF aps ts.length ps.length = F at HW hC
          obtain ⟨c1, c2⟩ := F
          simp only [FV_mk] at HW
          have HF2 := Lib.hid hF2; have HC := Lib.hid hC
          have hc1 : ((c1 : Int) == 0) = false := by simpa using hC
          clear hF2 hC hdr hck
          go_enter Try.func3, Try.ntmps3
          go_wp2_with fail
          refine HW.out.mono ?_
          rintro e w1 ⟨u, v, rfl, hl1, hl2, hb1⟩
          obtain ⟨uo, uc, rfl, _⟩ := hl1.1
          obtain ⟨vo, vc, rfl, _⟩ := hl2.1
          have HL1 := Lib.hid hl1.1; have HL2 := Lib.hid hl2.1; clear hl1 hl2
          have hc0 := heap_alloc_old (o' := .cells #[.int .i64 c1, .int .i64 c2] 28) (heap_ofAlloc w1 (.cells #[.int .i64 0, .slice uo ([] : List Nat).length uc, .slice vo ([] : List Nat).length vc, .int .i64 0] 26))
          have hf0 := heap_ofAlloc (w1.alloc (.cells #[.int .i64 0, .slice uo ([] : List Nat).length uc, .slice vo ([] : List Nat).length vc, .int .i64 0] 26)) (.cells #[.int .i64 c1, .int .i64 c2] 28)
          rw [World.size_alloc] at hf0
          have hba := ((Below.refl w1.heap.size w1).alloc (Nat.le_refl _) (.cells #[.int .i64 0, .slice uo ([] : List Nat).length uc, .slice vo ([] : List Nat).length vc, .int .i64 0] 26)).alloc (by simp) (.cells #[.int .i64 c1, .int .i64 c2] 28)
          go_wp2_with fail
          refine (terms_any ts _ _ (by omega) ((HTA.out.below hb1).below hba)).mono ?_
          rintro e w2 ⟨rfl, hb2⟩
          have hb12 := Below.step hba hb2
          have hc2 := Below.heapAt hb2 hc0
          have hf2 := Below.heapAt hb2 hf0
          rw [HA2.out, FV_mk]
          have hg3 := heap_ofAlloc w2 (.cells #[.int .i64 0, .int .i64 0] 28)
          have hc3 := heap_alloc_old (o' := .cells #[.int .i64 0, .int .i64 0] 28) hc2
          have hf3 := heap_alloc_old (o' := .cells #[.int .i64 0, .int .i64 0] 28) hf2
          have hb13 := Below.step hb12 ((Below.refl w2.heap.size w2).alloc (Nat.le_refl _) (.cells #[.int .i64 0, .int .i64 0] 28))
          have hw2f := heap_lt hf2
          have hw2c := heap_lt hc2
          have hs13 := hb13.size
          generalize hWW3 : w2.alloc (.cells #[.int .i64 0, .int .i64 0] 28) = w3 at hg3 hf3 hc3 hb13 hs13
          have HWW3 := Lib.hid hWW3; clear hWW3
          clear hf0 hc0
          go_wp2_with fail
          rw [HWW3.out]
          refine (pairs_any ps ts.length 0 _ _ (by omega) (by omega) ((HPA.out.below hb1).below hb13)).mono ?_
          rintro e w4 ⟨rfl, hb4⟩
          have hb14 := Below.step hb13 hb4
          have hg4 := Below.heapAt hb4 hg3
          have hf4 := Below.heapAt hb4 hf3
          have hc4 := Below.heapAt hb4 hc3
          rw [HF.out, FV_mk]
          have hltg4 := heap_lt hg4
          have hltf4 := heap_lt hf4
          have hltc4 := heap_lt hc4
          have hs14 := hb14.size
          have hg5 := box2_set hg4 (.int .i64 0) (.int .i64 0)
          have hf5 := heap_set_other (heap_set_other (a := ⟨w2.heap.size, 0, none⟩) (u := .int .i64 0) hf4 (by simp; omega)) (a := ⟨w2.heap.size, 1, none⟩) (u := .int .i64 0) (by simp; omega)
          have hc5 := heap_set_other (heap_set_other (a := ⟨w2.heap.size, 0, none⟩) (u := .int .i64 0) hc4 (by simp; omega)) (a := ⟨w2.heap.size, 1, none⟩) (u := .int .i64 0) (by simp; omega)
          have hb15 := (hb14.setCell (p := ⟨w2.heap.size, 0, none⟩) (by simp; omega) (.int .i64 0)).setCell (p := ⟨w2.heap.size, 1, none⟩) (by simp; omega) (.int .i64 0)
          generalize hWW5 : (w4.setCell ⟨w2.heap.size, 0, none⟩ (.int .i64 0)).setCell ⟨w2.heap.size, 1, none⟩ (.int .i64 0) = w5 at hg5 hf5 hc5 hb15
          have HWW5 := Lib.hid hWW5; clear hWW5
          obtain ⟨⟨x0, x1⟩, x2, x3⟩ := box2 hg4
          go_wp2_with fail
          rw [HWW5.out]
          clear x0 x1 x2 x3
          obtain ⟨⟨y0, _⟩, y1, _⟩ := box2 hg5
          refine (pairs_any aps ts.length _ _ _ (by omega) (by omega) ((HAA.out.below hb1).below hb15)).mono ?_
          rintro e w6 ⟨rfl, hb6⟩
          have hb16 := Below.step hb15 hb6
          have hg6 := Below.heapAt hb6 hg5
          have hf6 := Below.heapAt hb6 hf5
          have hc6 := Below.heapAt hb6 hc5
          rw [HF2.out, FV_mk]
          have hltg6 := heap_lt hg6
          have hltf6 := heap_lt hf6
          have hltc6 := heap_lt hc6
          have hs16 := hb16.size
          have hg7 := box2_set hg6 (.int .i64 c1) (.int .i64 c2)
          have hf7 := heap_set_other (heap_set_other (a := ⟨w2.heap.size, 0, none⟩) (u := .int .i64 c1) hf6 (by simp; omega)) (a := ⟨w2.heap.size, 1, none⟩) (u := .int .i64 c2) (by simp; omega)
          have hc7 := heap_set_other (heap_set_other (a := ⟨w2.heap.size, 0, none⟩) (u := .int .i64 c1) hc6 (by simp; omega)) (a := ⟨w2.heap.size, 1, none⟩) (u := .int .i64 c2) (by simp; omega)
          have hb17 := (hb16.setCell (p := ⟨w2.heap.size, 0, none⟩) (by simp; omega) (.int .i64 c1)).setCell (p := ⟨w2.heap.size, 1, none⟩) (by simp; omega) (.int .i64 c2)
          generalize hWW7 : (w6.setCell ⟨w2.heap.size, 0, none⟩ (.int .i64 c1)).setCell ⟨w2.heap.size, 1, none⟩ (.int .i64 c2) = w7 at hg7 hf7 hc7 hb17
          have HWW7 := Lib.hid hWW7; clear hWW7
          obtain ⟨⟨x0, x1⟩, x2, x3⟩ := box2 hg6
          have ez : w7.heap.size = w6.heap.size := by rw [← HWW7.out]; simp
          obtain ⟨⟨y0, _⟩, y1, _⟩ := box2 hf6
          obtain ⟨⟨k0, _⟩, ⟨k1, _⟩, ⟨k2, _⟩, k3, _⟩ := box4 hc6
          have hlc := heap_lt hc7
          have hbz := Below.step hb17 ((Below.refl w7.heap.size w7).alloc (Nat.le_refl _) (.cells #[.int .i64 0, .slice none 0 0, .slice none 0 0, .int .i64 0] 26))
          have hbz2 := (Below.refl w7.heap.size w7).alloc (Nat.le_refl _) (.cells #[.int .i64 0, .slice none 0 0, .slice none 0 0, .int .i64 0] 26)
          have hcz := Below.heapAt hbz2 hc7
          have hwz := heap_ofAlloc w7 (.cells #[.int .i64 0, .slice none 0 0, .slice none 0 0, .int .i64 0] 26)
          rw [ez] at hwz
          clear ez
          go_wp2_with fail
          rw [HWW7.out]
          refine (ints_same [] _ _ _ (HL1.out.below hbz) (NatsAt.nil _) (by simp)).mono ?_
          rintro e wa ⟨rfl, hba⟩
          have hca := Below.heapAt hba hcz
          have hwa := Below.heapAt hba hwz
          clear k0 k1 k2 k3
          obtain ⟨⟨k0, _⟩, ⟨k1, _⟩, ⟨k2, _⟩, k3, _⟩ := box4 hca
          obtain ⟨⟨l0, _⟩, ⟨l1, _⟩, ⟨l2, _⟩, l3, _⟩ := box4 hwa
          have hbza := Below.step hbz hba
          go_wp2_with fail
          refine (ints_same [] _ _ _ (HL2.out.below hbza) (NatsAt.nil _) (by simp)).mono ?_
          rintro e wb ⟨rfl, hbb⟩
          go_wp2_with fail
          go_ret
          exact ⟨rfl, Below.step (Below.step hb1 hbza) hbb⟩
      · rw [if_neg hB] at hck
        have hdr : doR ts ps aps = ⟨0, [], [], 0⟩ := by rw [doR, hck, if_pos hB]
        rw [hdr, hck] at HW
        generalize hF : pairsF ps ts.length 0 = F at HW hB
        obtain ⟨c1, c2⟩ := F
        simp only [FV_mk] at HW
        have HF := Lib.hid hF; have HA2 := Lib.hid hA2; have HB := Lib.hid hB
        have hc1 : ((c1 : Int) == 0) = false := by simpa using hB
        clear hA hA2 hF hB hdr hck
        go_enter Try.func3, Try.ntmps3
        go_wp2_with fail
        refine HW.out.mono ?_
        rintro e w1 ⟨u, v, rfl, hl1, hl2, hb1⟩
        obtain ⟨uo, uc, rfl, _⟩ := hl1.1
        obtain ⟨vo, vc, rfl, _⟩ := hl2.1
        have HL1 := Lib.hid hl1.1; have HL2 := Lib.hid hl2.1; clear hl1 hl2
        have hc0 := heap_alloc_old (o' := .cells #[.int .i64 c1, .int .i64 c2] 28) (heap_ofAlloc w1 (.cells #[.int .i64 0, .slice uo ([] : List Nat).length uc, .slice vo ([] : List Nat).length vc, .int .i64 0] 26))
        have hf0 := heap_ofAlloc (w1.alloc (.cells #[.int .i64 0, .slice uo ([] : List Nat).length uc, .slice vo ([] : List Nat).length vc, .int .i64 0] 26)) (.cells #[.int .i64 c1, .int .i64 c2] 28)
        rw [World.size_alloc] at hf0
        have hba := ((Below.refl w1.heap.size w1).alloc (Nat.le_refl _) (.cells #[.int .i64 0, .slice uo ([] : List Nat).length uc, .slice vo ([] : List Nat).length vc, .int .i64 0] 26)).alloc (by simp) (.cells #[.int .i64 c1, .int .i64 c2] 28)
        go_wp2_with fail
        refine (terms_any ts _ _ (by omega) ((HTA.out.below hb1).below hba)).mono ?_
        rintro e w2 ⟨rfl, hb2⟩
        have hb12 := Below.step hba hb2
        have hc2 := Below.heapAt hb2 hc0
        have hf2 := Below.heapAt hb2 hf0
        rw [HA2.out, FV_mk]
        have hg3 := heap_ofAlloc w2 (.cells #[.int .i64 0, .int .i64 0] 28)
        have hc3 := heap_alloc_old (o' := .cells #[.int .i64 0, .int .i64 0] 28) hc2
        have hf3 := heap_alloc_old (o' := .cells #[.int .i64 0, .int .i64 0] 28) hf2
        have hb13 := Below.step hb12 ((Below.refl w2.heap.size w2).alloc (Nat.le_refl _) (.cells #[.int .i64 0, .int .i64 0] 28))
        have hw2f := heap_lt hf2
        have hw2c := heap_lt hc2
        have hs13 := hb13.size
        generalize hWW3 : w2.alloc (.cells #[.int .i64 0, .int .i64 0] 28) = w3 at hg3 hf3 hc3 hb13 hs13
        have HWW3 := Lib.hid hWW3; clear hWW3
        clear hf0 hc0
        go_wp2_with fail
        rw [HWW3.out]
        refine (pairs_any ps ts.length 0 _ _ (by omega) (by omega) ((HPA.out.below hb1).below hb13)).mono ?_
        rintro e w4 ⟨rfl, hb4⟩
        have hb14 := Below.step hb13 hb4
        have hg4 := Below.heapAt hb4 hg3
        have hf4 := Below.heapAt hb4 hf3
        have hc4 := Below.heapAt hb4 hc3
        rw [HF.out, FV_mk]
        have hltg4 := heap_lt hg4
        have hltf4 := heap_lt hf4
        have hltc4 := heap_lt hc4
        have hs14 := hb14.size
        have hg5 := box2_set hg4 (.int .i64 c1) (.int .i64 c2)
        have hf5 := heap_set_other (heap_set_other (a := ⟨w2.heap.size, 0, none⟩) (u := .int .i64 c1) hf4 (by simp; omega)) (a := ⟨w2.heap.size, 1, none⟩) (u := .int .i64 c2) (by simp; omega)
        have hc5 := heap_set_other (heap_set_other (a := ⟨w2.heap.size, 0, none⟩) (u := .int .i64 c1) hc4 (by simp; omega)) (a := ⟨w2.heap.size, 1, none⟩) (u := .int .i64 c2) (by simp; omega)
        have hb15 := (hb14.setCell (p := ⟨w2.heap.size, 0, none⟩) (by simp; omega) (.int .i64 c1)).setCell (p := ⟨w2.heap.size, 1, none⟩) (by simp; omega) (.int .i64 c2)
        generalize hWW5 : (w4.setCell ⟨w2.heap.size, 0, none⟩ (.int .i64 c1)).setCell ⟨w2.heap.size, 1, none⟩ (.int .i64 c2) = w5 at hg5 hf5 hc5 hb15
        have HWW5 := Lib.hid hWW5; clear hWW5
        obtain ⟨⟨x0, x1⟩, x2, x3⟩ := box2 hg4
        have ez : w5.heap.size = w4.heap.size := by rw [← HWW5.out]; simp
        obtain ⟨⟨y0, _⟩, y1, _⟩ := box2 hf4
        obtain ⟨⟨k0, _⟩, ⟨k1, _⟩, ⟨k2, _⟩, k3, _⟩ := box4 hc4
        have hlc := heap_lt hc5
        have hbz := Below.step hb15 ((Below.refl w5.heap.size w5).alloc (Nat.le_refl _) (.cells #[.int .i64 0, .slice none 0 0, .slice none 0 0, .int .i64 0] 26))
        have hbz2 := (Below.refl w5.heap.size w5).alloc (Nat.le_refl _) (.cells #[.int .i64 0, .slice none 0 0, .slice none 0 0, .int .i64 0] 26)
        have hcz := Below.heapAt hbz2 hc5
        have hwz := heap_ofAlloc w5 (.cells #[.int .i64 0, .slice none 0 0, .slice none 0 0, .int .i64 0] 26)
        rw [ez] at hwz
        clear ez
        go_wp2_with fail
        rw [HWW5.out]
        refine (ints_same [] _ _ _ (HL1.out.below hbz) (NatsAt.nil _) (by simp)).mono ?_
        rintro e wa ⟨rfl, hba⟩
        have hca := Below.heapAt hba hcz
        have hwa := Below.heapAt hba hwz
        clear k0 k1 k2 k3
        obtain ⟨⟨k0, _⟩, ⟨k1, _⟩, ⟨k2, _⟩, k3, _⟩ := box4 hca
        obtain ⟨⟨l0, _⟩, ⟨l1, _⟩, ⟨l2, _⟩, l3, _⟩ := box4 hwa
        have hbza := Below.step hbz hba
        go_wp2_with fail
        refine (ints_same [] _ _ _ (HL2.out.below hbza) (NatsAt.nil _) (by simp)).mono ?_
        rintro e wb ⟨rfl, hbb⟩
        go_wp2_with fail
        go_ret
        exact ⟨rfl, Below.step (Below.step hb1 hbza) hbb⟩
    · have hcf : checkF ts [ps, aps] = termsF ts := by rw [hck, if_neg hA]
      have hdr : doR ts ps aps = ⟨0, [], [], 0⟩ := by rw [doR, hcf, if_pos hA]
      rw [hdr, hcf] at HW
      generalize hA2 : termsF ts = F at HW hA
      obtain ⟨c1, c2⟩ := F
      simp only [FV_mk] at HW
      have HA2 := Lib.hid hA2; have HA := Lib.hid hA
      have hc1 : ((c1 : Int) == 0) = false := by simpa using hA
      clear hA2 hA hdr hcf hck
      go_enter Try.func3, Try.ntmps3
      go_wp2_with fail
      refine HW.out.mono ?_
      rintro e w1 ⟨u, v, rfl, hl1, hl2, hb1⟩
      obtain ⟨uo, uc, rfl, _⟩ := hl1.1
      obtain ⟨vo, vc, rfl, _⟩ := hl2.1
      have HL1 := Lib.hid hl1.1; have HL2 := Lib.hid hl2.1; clear hl1 hl2
      have hc0 := heap_alloc_old (o' := .cells #[.int .i64 c1, .int .i64 c2] 28) (heap_ofAlloc w1 (.cells #[.int .i64 0, .slice uo ([] : List Nat).length uc, .slice vo ([] : List Nat).length vc, .int .i64 0] 26))
      have hf0 := heap_ofAlloc (w1.alloc (.cells #[.int .i64 0, .slice uo ([] : List Nat).length uc, .slice vo ([] : List Nat).length vc, .int .i64 0] 26)) (.cells #[.int .i64 c1, .int .i64 c2] 28)
      rw [World.size_alloc] at hf0
      have hba := ((Below.refl w1.heap.size w1).alloc (Nat.le_refl _) (.cells #[.int .i64 0, .slice uo ([] : List Nat).length uc, .slice vo ([] : List Nat).length vc, .int .i64 0] 26)).alloc (by simp) (.cells #[.int .i64 c1, .int .i64 c2] 28)
      go_wp2_with fail
      refine (terms_any ts _ _ (by omega) ((HTA.out.below hb1).below hba)).mono ?_
      rintro e w2 ⟨rfl, hb2⟩
      have hb12 := Below.step hba hb2
      have hc2 := Below.heapAt hb2 hc0
      have hf2 := Below.heapAt hb2 hf0
      rw [HA2.out, FV_mk]
      have hg3 := heap_ofAlloc w2 (.cells #[.int .i64 c1, .int .i64 c2] 28)
      have hc3 := heap_alloc_old (o' := .cells #[.int .i64 c1, .int .i64 c2] 28) hc2
      have hf3 := heap_alloc_old (o' := .cells #[.int .i64 c1, .int .i64 c2] 28) hf2
      have hb13 := Below.step hb12 ((Below.refl w2.heap.size w2).alloc (Nat.le_refl _) (.cells #[.int .i64 c1, .int .i64 c2] 28))
      have hw2f := heap_lt hf2
      have hw2c := heap_lt hc2
      have hs13 := hb13.size
      generalize hWW3 : w2.alloc (.cells #[.int .i64 c1, .int .i64 c2] 28) = w3 at hg3 hf3 hc3 hb13 hs13
      have HWW3 := Lib.hid hWW3; clear hWW3
      clear hf0 hc0
      have ez : w3.heap.size = w2.heap.size + 1 := by rw [← HWW3.out]; simp
      obtain ⟨⟨y0, _⟩, y1, _⟩ := box2 hf2
      obtain ⟨⟨k0, _⟩, ⟨k1, _⟩, ⟨k2, _⟩, k3, _⟩ := box4 hc2
      have hlc := heap_lt hc3
      have hbz := Below.step hb13 ((Below.refl w3.heap.size w3).alloc (Nat.le_refl _) (.cells #[.int .i64 0, .slice none 0 0, .slice none 0 0, .int .i64 0] 26))
      have hbz2 := (Below.refl w3.heap.size w3).alloc (Nat.le_refl _) (.cells #[.int .i64 0, .slice none 0 0, .slice none 0 0, .int .i64 0] 26)
      have hcz := Below.heapAt hbz2 hc3
      have hwz := heap_ofAlloc w3 (.cells #[.int .i64 0, .slice none 0 0, .slice none 0 0, .int .i64 0] 26)
      rw [ez] at hwz
      clear ez
      go_wp2_with fail
      rw [HWW3.out]
      refine (ints_same [] _ _ _ (HL1.out.below hbz) (NatsAt.nil _) (by simp)).mono ?_
      rintro e wa ⟨rfl, hba⟩
      have hca := Below.heapAt hba hcz
      have hwa := Below.heapAt hba hwz
      clear k0 k1 k2 k3
      obtain ⟨⟨k0, _⟩, ⟨k1, _⟩, ⟨k2, _⟩, k3, _⟩ := box4 hca
      obtain ⟨⟨l0, _⟩, ⟨l1, _⟩, ⟨l2, _⟩, l3, _⟩ := box4 hwa
      have hbza := Below.step hbz hba
      go_wp2_with fail
      refine (ints_same [] _ _ _ (HL2.out.below hbza) (NatsAt.nil _) (by simp)).mono ?_
      rintro e wb ⟨rfl, hbb⟩
      go_wp2_with fail
      go_ret
      exact ⟨rfl, Below.step (Below.step hb1 hbza) hbb⟩
end Go.Proofs.Ytcckgfgobakphab
