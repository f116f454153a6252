/-
  Walks: the law CloseWhy.
-/
import Derived.Test.YtcckgfgobakphabProg
import Derived.Test.YtcckgfgobakphabBase
import Derived.Test.YtcckgfgobakphabCmath
import Derived.Test.YtcckgfgobakphabW13
namespace Go.Proofs.Ytcckgfgobakphab
open Go.RowKit Go.Shelf
set_option linter.unusedVariables false
set_option maxHeartbeats 400000

theorem listsF_one (n : Nat) (ps : List (Int × Int)) : listsF n [ps] 0 = pairsF ps n 0 := by
  simp only [listsF, pairsF]
  split
  · rfl
  · split <;> rename_i h <;> simp [h]
theorem pairsF_zero {ps : List (Int × Int)} {n : Nat} {a : Int} (h : (pairsF ps n a).1 = 0) : pairsF ps n a = (0, 0) ∧ ps.length ≤ 120 ∧ pairsIn n ps := by
  unfold pairsF at h ⊢
  split at h
  · simp at h
  · rename_i hl
    rw [if_neg hl]
    split at h
    · rename_i hn; exact ⟨rfl, by omega, pairsIn_of (firstI_none' hn)⟩
    · simp at h
theorem termsF_zero2 {ts : List Tm} (h : (termsF ts).1 = 0) : termsF ts = (0, 0) := by
  unfold termsF at h ⊢
  split at h
  · simp at h
  · rename_i hl
    rw [if_neg hl]
    split at h
    · rfl
    · simp only at h; split at h <;> omega

theorem in16N (n : Nat) (i : Int) (w : World) : Calls Try.prog 16 #[.int .i64 i, .int .i64 0, .int .i64 ((n : Int) - 1)] w fun e w' => e = .returned (.bool (inN n i)) ∧ w = w' := in16 i 0 _ w

/-- lists of naturals are told apart as lists of integers are -/
theorem map_ofNat_inj {x y : List Nat} (h : x = y) : x.map Int.ofNat = y.map Int.ofNat := by rw [h]

theorem ints_same (l : List Nat) (u v : Value) (w : World) (h1 : NatsAt w u l) (h2 : NatsAt w v l) (hl : l.length ≤ 1000000) :
    Calls Try.prog 14 #[u, v] w fun e w' => e = .returned (.bool true) ∧ Below w.heap.size w w' :=
  (ints_any _ _ u v w h1.ints h2.ints (by simpa using Nat.le_trans hl (by omega)) (by simpa using Nat.le_trans hl (by omega))).mono fun e w' ⟨he, hw⟩ => ⟨by rw [he]; simp, hw⟩

theorem whyL_le (ts : List Tm) (ps : List (Int × Int)) (a b : Nat) : (whyL ts ps a b).length ≤ ps.length := Nat.le_trans (List.length_filter_le _ _) (by simp)

set_option maxRecDepth 100000 in
set_option maxHeartbeats 4000000 in
theorem closeWhy_walk (ts : List Tm) (ps : List (Int × Int)) (a b : Int) (tv pv : Value) (w : World) (ht : TermsAt w tv ts) (hp : PairsAt w pv ps) :
    Calls Try.prog 4 #[tv, pv, .int .i64 a, .int .i64 b] w fun e w' => e = .returned (.bool true) ∧ Below w.heap.size w w' := by
  have HTA := Lib.hid ht; have HPA := Lib.hid hp
  obtain ⟨po, pcap, rfl, hpps⟩ := hp
  obtain ⟨to, tcap, rfl, htts⟩ := ht
  clear hpps htts
  by_cases h80 : 80 < ts.length
  · go_enter Try.func4, Try.ntmps4
    go_wp2_with fail
    go_ret
    exact ⟨rfl, Below.refl _ _⟩
  · have h80' : (ts.length : Int) ≤ 80 := by omega
    have HW := Lib.hid (why15_any ts ps a b (.slice to ts.length (ts.length + tcap)) (.slice po ps.length pcap) w (by omega) HTA.out HPA.out)
    by_cases hA : (termsF ts).1 = 0
    · have hA2 := termsF_zero2 hA
      by_cases hB : (pairsF ps ts.length 0).1 = 0
      · obtain ⟨hB2, hp120, hpin⟩ := pairsF_zero hB
        have hck : checkF ts [ps] = (0, 0) := by rw [checkF, if_pos hA, listsF_one, hB2]
        obtain ⟨_, hki⟩ := termsF_zero hA
        have HF := Lib.hid hB2; have HA2 := Lib.hid hA2; have HKI := Lib.hid hki; have HPL := Lib.hid hpin
        have hwr : whyR ts ps a b = if inN ts.length a = false ∨ inN ts.length b = false then ([], (3, -1)) else
          if relD ts ps a.toNat b.toNat = false then ([], (6, 0)) else (whyL ts ps a.toNat b.toNat, (0, 0)) := by rw [whyR, hck]; simp
        clear hA hA2 hB hB2 hck hki hpin
        cases ha : inN ts.length a with
        | false =>
          rw [hwr, if_pos (.inl ha)] at HW
          simp only [FV_mk] at HW
          have HA := Lib.hid ha; clear ha hwr
          go_enter Try.func4, Try.ntmps4
          go_wp2_with fail
          refine HW.out.mono ?_
          rintro e w1 ⟨u, rfl, hl, hb1⟩
          obtain ⟨uo, uc, rfl, _⟩ := hl.1
          have HL := Lib.hid hl.1; clear hl
          have hf0 := heap_ofAlloc w1 (.cells #[.int .i64 3, .int .i64 (-1)] 28)
          have HBA := Lib.hid ((Below.refl w1.heap.size w1).alloc (Nat.le_refl _) (.cells #[.int .i64 3, .int .i64 (-1)] 28))
          go_wp2_with fail
          refine (terms_any ts _ _ (by omega) ((HTA.out.below hb1).below HBA.out)).mono ?_
          rintro e w2 ⟨rfl, hb2⟩
          have hb12 := Below.step HBA.out hb2
          have hf2 := Below.heapAt hb2 hf0
          rw [HA2.out, FV_mk]
          have hg0 := heap_ofAlloc w2 (.cells #[.int .i64 0, .int .i64 0] 28)
          have hf3 := heap_alloc_old (o' := .cells #[.int .i64 0, .int .i64 0] 28) hf2
          have hb13 := Below.step hb12 ((Below.refl w2.heap.size w2).alloc (Nat.le_refl _) (.cells #[.int .i64 0, .int .i64 0] 28))
          clear hf0 hf2
          go_wp2_with fail
          refine (pairs_any ps ts.length 0 _ _ (by omega) (by omega) ((HPA.out.below hb1).below hb13)).mono ?_
          rintro e w4 ⟨rfl, hb4⟩
          have hb14 := Below.step hb13 hb4
          have hg4 := Below.heapAt hb4 hg0
          have hf4 := Below.heapAt hb4 hf3
          have hlt1 := heap_lt hf4
          have hlt2 := heap_lt hg4
          have hw12 := hb12.size
          have hw12' := heap_lt hf3
          rw [HF.out, FV_mk]
          have hne : w2.heap.size ≠ w1.heap.size := by have := hb2.size; simp at this; omega
          have hg5 := box2_set hg4 (.int .i64 0) (.int .i64 0)
          have hf5 := heap_set_other (heap_set_other (a := ⟨w2.heap.size, 0, none⟩) (u := .int .i64 0) hf4 (by simp; omega)) (a := ⟨w2.heap.size, 1, none⟩) (u := .int .i64 0) (by simp; omega)
          have hb15 := (hb14.setCell (p := ⟨w2.heap.size, 0, none⟩) (by simp; omega) (.int .i64 0)).setCell (p := ⟨w2.heap.size, 1, none⟩) (by simp; omega) (.int .i64 0)
          obtain ⟨⟨x0, x1⟩, x2, x3⟩ := box2 hg4
          clear hf3 hg0
          go_wp2_with fail
          generalize hWW : (w4.setCell ⟨w2.heap.size, 0, none⟩ (.int .i64 0)).setCell ⟨w2.heap.size, 1, none⟩ (.int .i64 0) = w5 at hg5 hf5 hb15 ⊢
          clear hWW hg4 hf4 hb14 x0 x1 x2 x3 hlt1 hlt2
          obtain ⟨⟨x0, x1⟩, x2, x3⟩ := box2 hg5
          refine (in16N ts.length _ _).mono ?_
          rintro e wz ⟨rfl, rfl⟩
          rw [HA.out]
          go_wp2_with fail
          refine (fault17 _ _ _).mono ?_
          rintro e w6 ⟨rfl, hb6⟩
          have hb16 := Below.step hb15 hb6
          have hg6 := Below.heapAt hb6 hg5
          have hf6 := Below.heapAt hb6 hf5
          have hg7 := box2_set hg6 (.int .i64 (3)) (.int .i64 (-1))
          have hf7 := heap_set_other (heap_set_other (a := ⟨w2.heap.size, 0, none⟩) (u := .int .i64 (3)) hf6 (by simp; omega)) (a := ⟨w2.heap.size, 1, none⟩) (u := .int .i64 (-1)) (by simp; omega)
          have hb17 := (hb16.setCell (p := ⟨w2.heap.size, 0, none⟩) (by simp; omega) (.int .i64 (3))).setCell (p := ⟨w2.heap.size, 1, none⟩) (by simp; omega) (.int .i64 (-1))
          clear x0 x1 x2 x3
          obtain ⟨⟨x0, x1⟩, x2, x3⟩ := box2 hg6
          obtain ⟨⟨y0, _⟩, y1, _⟩ := box2 hf7
          obtain ⟨⟨z0, _⟩, z1, _⟩ := box2 hg7
          go_wp2_with fail
          refine (ints_same [] _ _ _ (HL.out.below hb17) (NatsAt.nil _) (by simp)).mono ?_
          rintro e w8 ⟨rfl, hb8⟩
          go_wp2_with fail
          go_ret
          exact ⟨rfl, Below.step (Below.step hb1 hb17) hb8⟩
        | true =>
          cases hb : inN ts.length b with
          | false =>
            rw [hwr, if_pos (.inr hb)] at HW
            simp only [FV_mk] at HW
            have HA := Lib.hid ha; have HB := Lib.hid hb; clear ha hb hwr
            go_enter Try.func4, Try.ntmps4
            go_wp2_with fail
            refine HW.out.mono ?_
            rintro e w1 ⟨u, rfl, hl, hb1⟩
            obtain ⟨uo, uc, rfl, _⟩ := hl.1
            have HL := Lib.hid hl.1; clear hl
            have hf0 := heap_ofAlloc w1 (.cells #[.int .i64 3, .int .i64 (-1)] 28)
            have HBA := Lib.hid ((Below.refl w1.heap.size w1).alloc (Nat.le_refl _) (.cells #[.int .i64 3, .int .i64 (-1)] 28))
            go_wp2_with fail
            refine (terms_any ts _ _ (by omega) ((HTA.out.below hb1).below HBA.out)).mono ?_
            rintro e w2 ⟨rfl, hb2⟩
            have hb12 := Below.step HBA.out hb2
            have hf2 := Below.heapAt hb2 hf0
            rw [HA2.out, FV_mk]
            have hg0 := heap_ofAlloc w2 (.cells #[.int .i64 0, .int .i64 0] 28)
            have hf3 := heap_alloc_old (o' := .cells #[.int .i64 0, .int .i64 0] 28) hf2
            have hb13 := Below.step hb12 ((Below.refl w2.heap.size w2).alloc (Nat.le_refl _) (.cells #[.int .i64 0, .int .i64 0] 28))
            clear hf0 hf2
            go_wp2_with fail
            refine (pairs_any ps ts.length 0 _ _ (by omega) (by omega) ((HPA.out.below hb1).below hb13)).mono ?_
            rintro e w4 ⟨rfl, hb4⟩
            have hb14 := Below.step hb13 hb4
            have hg4 := Below.heapAt hb4 hg0
            have hf4 := Below.heapAt hb4 hf3
            have hlt1 := heap_lt hf4
            have hlt2 := heap_lt hg4
            have hw12 := hb12.size
            have hw12' := heap_lt hf3
            rw [HF.out, FV_mk]
            have hne : w2.heap.size ≠ w1.heap.size := by have := hb2.size; simp at this; omega
            have hg5 := box2_set hg4 (.int .i64 0) (.int .i64 0)
            have hf5 := heap_set_other (heap_set_other (a := ⟨w2.heap.size, 0, none⟩) (u := .int .i64 0) hf4 (by simp; omega)) (a := ⟨w2.heap.size, 1, none⟩) (u := .int .i64 0) (by simp; omega)
            have hb15 := (hb14.setCell (p := ⟨w2.heap.size, 0, none⟩) (by simp; omega) (.int .i64 0)).setCell (p := ⟨w2.heap.size, 1, none⟩) (by simp; omega) (.int .i64 0)
            obtain ⟨⟨x0, x1⟩, x2, x3⟩ := box2 hg4
            clear hf3 hg0
            go_wp2_with fail
            generalize hWW : (w4.setCell ⟨w2.heap.size, 0, none⟩ (.int .i64 0)).setCell ⟨w2.heap.size, 1, none⟩ (.int .i64 0) = w5 at hg5 hf5 hb15 ⊢
            clear hWW hg4 hf4 hb14 x0 x1 x2 x3 hlt1 hlt2
            obtain ⟨⟨x0, x1⟩, x2, x3⟩ := box2 hg5
            refine (in16N ts.length _ _).mono ?_
            rintro e wz ⟨rfl, rfl⟩
            rw [HA.out]
            go_wp2_with fail
            refine (in16N ts.length _ _).mono ?_
            rintro e wz ⟨rfl, rfl⟩
            rw [HB.out]
            go_wp2_with fail
            refine (fault17 _ _ _).mono ?_
            rintro e w6 ⟨rfl, hb6⟩
            have hb16 := Below.step hb15 hb6
            have hg6 := Below.heapAt hb6 hg5
            have hf6 := Below.heapAt hb6 hf5
            have hg7 := box2_set hg6 (.int .i64 (3)) (.int .i64 (-1))
            have hf7 := heap_set_other (heap_set_other (a := ⟨w2.heap.size, 0, none⟩) (u := .int .i64 (3)) hf6 (by simp; omega)) (a := ⟨w2.heap.size, 1, none⟩) (u := .int .i64 (-1)) (by simp; omega)
            have hb17 := (hb16.setCell (p := ⟨w2.heap.size, 0, none⟩) (by simp; omega) (.int .i64 (3))).setCell (p := ⟨w2.heap.size, 1, none⟩) (by simp; omega) (.int .i64 (-1))
            clear x0 x1 x2 x3
            obtain ⟨⟨x0, x1⟩, x2, x3⟩ := box2 hg6
            obtain ⟨⟨y0, _⟩, y1, _⟩ := box2 hf7
            obtain ⟨⟨z0, _⟩, z1, _⟩ := box2 hg7
            go_wp2_with fail
            refine (ints_same [] _ _ _ (HL.out.below hb17) (NatsAt.nil _) (by simp)).mono ?_
            rintro e w8 ⟨rfl, hb8⟩
            go_wp2_with fail
            go_ret
            exact ⟨rfl, Below.step (Below.step hb1 hb17) hb8⟩
          | true =>
            rw [hwr, if_neg (by simp [ha, hb])] at HW
            have HA := Lib.hid ha; have HB := Lib.hid hb
            simp only [inN, decide_eq_true_eq] at ha hb
            obtain ⟨x, rfl⟩ := Int.eq_ofNat_of_zero_le ha.1
            obtain ⟨y, rfl⟩ := Int.eq_ofNat_of_zero_le hb.1
            have hx : x < ts.length := by omega
            have hy : y < ts.length := by omega
            simp only [Int.toNat_natCast] at HW
            clear ha hb hwr
            cases hr : relD ts ps x y with
            | false =>
              rw [if_pos hr] at HW
              simp only [FV_mk] at HW
              have HR := Lib.hid hr; clear hr
              go_enter Try.func4, Try.ntmps4
              go_wp2_with fail
              refine HW.out.mono ?_
              rintro e w1 ⟨u, rfl, hl, hb1⟩
              obtain ⟨uo, uc, rfl, _⟩ := hl.1
              have HL := Lib.hid hl.1; clear hl
              have hf0 := heap_ofAlloc w1 (.cells #[.int .i64 6, .int .i64 0] 28)
              have HBA := Lib.hid ((Below.refl w1.heap.size w1).alloc (Nat.le_refl _) (.cells #[.int .i64 6, .int .i64 0] 28))
              go_wp2_with fail
              refine (terms_any ts _ _ (by omega) ((HTA.out.below hb1).below HBA.out)).mono ?_
              rintro e w2 ⟨rfl, hb2⟩
              have hb12 := Below.step HBA.out hb2
              have hf2 := Below.heapAt hb2 hf0
              rw [HA2.out, FV_mk]
              have hg0 := heap_ofAlloc w2 (.cells #[.int .i64 0, .int .i64 0] 28)
              have hf3 := heap_alloc_old (o' := .cells #[.int .i64 0, .int .i64 0] 28) hf2
              have hb13 := Below.step hb12 ((Below.refl w2.heap.size w2).alloc (Nat.le_refl _) (.cells #[.int .i64 0, .int .i64 0] 28))
              clear hf0 hf2
              go_wp2_with fail
              refine (pairs_any ps ts.length 0 _ _ (by omega) (by omega) ((HPA.out.below hb1).below hb13)).mono ?_
              rintro e w4 ⟨rfl, hb4⟩
              have hb14 := Below.step hb13 hb4
              have hg4 := Below.heapAt hb4 hg0
              have hf4 := Below.heapAt hb4 hf3
              have hlt1 := heap_lt hf4
              have hlt2 := heap_lt hg4
              have hw12 := hb12.size
              have hw12' := heap_lt hf3
              rw [HF.out, FV_mk]
              have hne : w2.heap.size ≠ w1.heap.size := by have := hb2.size; simp at this; omega
              have hg5 := box2_set hg4 (.int .i64 0) (.int .i64 0)
              have hf5 := heap_set_other (heap_set_other (a := ⟨w2.heap.size, 0, none⟩) (u := .int .i64 0) hf4 (by simp; omega)) (a := ⟨w2.heap.size, 1, none⟩) (u := .int .i64 0) (by simp; omega)
              have hb15 := (hb14.setCell (p := ⟨w2.heap.size, 0, none⟩) (by simp; omega) (.int .i64 0)).setCell (p := ⟨w2.heap.size, 1, none⟩) (by simp; omega) (.int .i64 0)
              obtain ⟨⟨x0, x1⟩, x2, x3⟩ := box2 hg4
              clear hf3 hg0
              go_wp2_with fail
              generalize hWW : (w4.setCell ⟨w2.heap.size, 0, none⟩ (.int .i64 0)).setCell ⟨w2.heap.size, 1, none⟩ (.int .i64 0) = w5 at hg5 hf5 hb15 ⊢
              clear hWW hg4 hf4 hb14 x0 x1 x2 x3 hlt1 hlt2
              obtain ⟨⟨x0, x1⟩, x2, x3⟩ := box2 hg5
              refine (in16N ts.length _ _).mono ?_
              rintro e wz ⟨rfl, rfl⟩
              rw [HA.out]
              go_wp2_with fail
              refine (in16N ts.length _ _).mono ?_
              rintro e wz ⟨rfl, rfl⟩
              rw [HB.out]
              go_wp2_with fail
              refine (refClasses_any ts ps _ _ _ (by omega) (by omega) HKI.out HPL.out ((HTA.out.below hb1).below hb15) ((HPA.out.below hb1).below hb15)).mono ?_
              rintro e w6 ⟨v, rfl, hcl, hb6⟩
              have hb16 := Below.step hb15 hb6
              have hg6 := Below.heapAt hb6 hg5
              have hf6 := Below.heapAt hb6 hf5
              have hgood := classes_good (ts := ts) HPL.out
              obtain ⟨co, cc, rfl, hcc⟩ := hcl.1
              have hlen := hgood.len
              rw [hlen] at hcc ⊢
              obtain ⟨cb, cf, rfl, q1⟩ := hcc.get hx
              obtain ⟨cb', cf', e0, q2⟩ := hcc.get hy
              simp only [Option.some.injEq, Addr.mk.injEq] at e0
              obtain ⟨rfl, rfl, _⟩ := e0
              clear hcc hlen hgood x0 x1 x2 x3
              have hne2 : ((gN (classes ts ps) x : Int) != (gN (classes ts ps) y : Int)) = true := by
                have h := HR.out
                simp only [relD] at h
                simp at h ⊢
                omega
              obtain ⟨⟨x0, x1⟩, x2, x3⟩ := box2 hg6
              generalize classes ts ps = CL at q1 q2 hne2 ⊢
              go_wp2_with fail
              go_quiet (fail)
              have hb17 := Below.step hb16 (below_drewN (Below.refl w6.heap.size w6) nq)
              have hg7 := Below.heapAt (below_drewN (Below.refl w6.heap.size w6) nq) hg6
              have hf7 := Below.heapAt (below_drewN (Below.refl w6.heap.size w6) nq) hf6
              clear q1 q2 hne2
              go_wp2_with fail
              refine (fault17 _ _ _).mono ?_
              rintro e w9 ⟨rfl, hb9⟩
              have hb18 := Below.step hb17 hb9
              have hg8 := Below.heapAt hb9 hg7
              have hf8 := Below.heapAt hb9 hf7
              have hg9 := box2_set hg8 (.int .i64 (6)) (.int .i64 (0))
              have hf9 := heap_set_other (heap_set_other (a := ⟨w2.heap.size, 0, none⟩) (u := .int .i64 (6)) hf8 (by simp; omega)) (a := ⟨w2.heap.size, 1, none⟩) (u := .int .i64 (0)) (by simp; omega)
              have hb19 := (hb18.setCell (p := ⟨w2.heap.size, 0, none⟩) (by simp; omega) (.int .i64 (6))).setCell (p := ⟨w2.heap.size, 1, none⟩) (by simp; omega) (.int .i64 (0))
              clear x0 x1 x2 x3
              obtain ⟨⟨x0, x1⟩, x2, x3⟩ := box2 hg8
              obtain ⟨⟨y0, _⟩, y1, _⟩ := box2 hf9
              obtain ⟨⟨z0, _⟩, z1, _⟩ := box2 hg9
              go_wp2_with fail
              refine (ints_same [] _ _ _ (HL.out.below hb19) (NatsAt.nil _) (by simp)).mono ?_
              rintro e w10 ⟨rfl, hb10⟩
              go_wp2_with fail
              go_ret
              exact ⟨rfl, Below.step (Below.step hb1 hb19) hb10⟩
            | true =>
              rw [if_neg (by simp [hr])] at HW
              simp only [FV_mk] at HW
              have HR := Lib.hid hr; clear hr
              go_enter Try.func4, Try.ntmps4
              go_wp2_with fail
              refine HW.out.mono ?_
              rintro e w1 ⟨u, rfl, hl, hb1⟩
              obtain ⟨uo, uc, rfl, _⟩ := hl.1
              have HL := Lib.hid hl.1; clear hl
              have hf0 := heap_ofAlloc w1 (.cells #[.int .i64 0, .int .i64 0] 28)
              have HBA := Lib.hid ((Below.refl w1.heap.size w1).alloc (Nat.le_refl _) (.cells #[.int .i64 0, .int .i64 0] 28))
              go_wp2_with fail
              refine (terms_any ts _ _ (by omega) ((HTA.out.below hb1).below HBA.out)).mono ?_
              rintro e w2 ⟨rfl, hb2⟩
              have hb12 := Below.step HBA.out hb2
              have hf2 := Below.heapAt hb2 hf0
              rw [HA2.out, FV_mk]
              have hg0 := heap_ofAlloc w2 (.cells #[.int .i64 0, .int .i64 0] 28)
              have hf3 := heap_alloc_old (o' := .cells #[.int .i64 0, .int .i64 0] 28) hf2
              have hb13 := Below.step hb12 ((Below.refl w2.heap.size w2).alloc (Nat.le_refl _) (.cells #[.int .i64 0, .int .i64 0] 28))
              clear hf0 hf2
              go_wp2_with fail
              refine (pairs_any ps ts.length 0 _ _ (by omega) (by omega) ((HPA.out.below hb1).below hb13)).mono ?_
              rintro e w4 ⟨rfl, hb4⟩
              have hb14 := Below.step hb13 hb4
              have hg4 := Below.heapAt hb4 hg0
              have hf4 := Below.heapAt hb4 hf3
              have hlt1 := heap_lt hf4
              have hlt2 := heap_lt hg4
              have hw12 := hb12.size
              have hw12' := heap_lt hf3
              rw [HF.out, FV_mk]
              have hne : w2.heap.size ≠ w1.heap.size := by have := hb2.size; simp at this; omega
              have hg5 := box2_set hg4 (.int .i64 0) (.int .i64 0)
              have hf5 := heap_set_other (heap_set_other (a := ⟨w2.heap.size, 0, none⟩) (u := .int .i64 0) hf4 (by simp; omega)) (a := ⟨w2.heap.size, 1, none⟩) (u := .int .i64 0) (by simp; omega)
              have hb15 := (hb14.setCell (p := ⟨w2.heap.size, 0, none⟩) (by simp; omega) (.int .i64 0)).setCell (p := ⟨w2.heap.size, 1, none⟩) (by simp; omega) (.int .i64 0)
              obtain ⟨⟨x0, x1⟩, x2, x3⟩ := box2 hg4
              clear hf3 hg0
              go_wp2_with fail
              generalize hWW : (w4.setCell ⟨w2.heap.size, 0, none⟩ (.int .i64 0)).setCell ⟨w2.heap.size, 1, none⟩ (.int .i64 0) = w5 at hg5 hf5 hb15 ⊢
              clear hWW hg4 hf4 hb14 x0 x1 x2 x3 hlt1 hlt2
              obtain ⟨⟨x0, x1⟩, x2, x3⟩ := box2 hg5
              refine (in16N ts.length _ _).mono ?_
              rintro e wz ⟨rfl, rfl⟩
              rw [HA.out]
              go_wp2_with fail
              refine (in16N ts.length _ _).mono ?_
              rintro e wz ⟨rfl, rfl⟩
              rw [HB.out]
              go_wp2_with fail
              refine (refClasses_any ts ps _ _ _ (by omega) (by omega) HKI.out HPL.out ((HTA.out.below hb1).below hb15) ((HPA.out.below hb1).below hb15)).mono ?_
              rintro e w6 ⟨v, rfl, hcl, hb6⟩
              have hb16 := Below.step hb15 hb6
              have hg6 := Below.heapAt hb6 hg5
              have hf6 := Below.heapAt hb6 hf5
              have hgood := classes_good (ts := ts) HPL.out
              obtain ⟨co, cc, rfl, hcc⟩ := hcl.1
              have hlen := hgood.len
              rw [hlen] at hcc ⊢
              obtain ⟨cb, cf, rfl, q1⟩ := hcc.get hx
              obtain ⟨cb', cf', e0, q2⟩ := hcc.get hy
              simp only [Option.some.injEq, Addr.mk.injEq] at e0
              obtain ⟨rfl, rfl, _⟩ := e0
              clear hcc hlen hgood x0 x1 x2 x3
              have hne2 : ((gN (classes ts ps) x : Int) != (gN (classes ts ps) y : Int)) = false := by
                have h := HR.out
                simp only [relD] at h
                simp at h ⊢
                omega
              obtain ⟨⟨x0, x1⟩, x2, x3⟩ := box2 hg6
              generalize classes ts ps = CL at q1 q2 hne2 ⊢
              go_wp2_with fail
              go_quiet (fail)
              have hb17 := Below.step hb16 (below_drewN (Below.refl w6.heap.size w6) nq)
              have hg7 := Below.heapAt (below_drewN (Below.refl w6.heap.size w6) nq) hg6
              have hf7 := Below.heapAt (below_drewN (Below.refl w6.heap.size w6) nq) hf6
              clear q1 q2 hne2
              go_wp2_with fail
              refine (enough_any ts ps x y _ _ _ (by omega) (by omega) HKI.out HPL.out hx hy ((HTA.out.below hb1).below hb17) ((HPA.out.below hb1).below hb17)).mono ?_
              rintro e w9 ⟨v2, rfl, hen, hb9⟩
              have hb18 := Below.step hb17 hb9
              have hg8 := Below.heapAt hb9 hg7
              have hf8 := Below.heapAt hb9 hf7
              have HEN := Lib.hid hen.1
              obtain ⟨eo, ec, rfl, _⟩ := hen.1
              clear x0 x1 x2 x3
              obtain ⟨⟨y0, _⟩, y1, _⟩ := box2 hf8
              obtain ⟨⟨z0, _⟩, z1, _⟩ := box2 hg8
              go_wp2_with fail
              refine (ints_same (whyL ts ps x y) _ _ _ (HL.out.below hb18) HEN.out (by have := whyL_le ts ps x y; omega)).mono ?_
              rintro e w10 ⟨rfl, hb10⟩
              go_wp2_with fail
              go_ret
              exact ⟨rfl, Below.step (Below.step hb1 hb18) hb10⟩
      · have hr : whyR ts ps a b = ([], pairsF ps ts.length 0) := by
          have e : checkF ts [ps] = pairsF ps ts.length 0 := by rw [checkF, if_pos hA, listsF_one]
          rw [whyR, e, if_pos hB]
        rw [hr] at HW
        generalize hF : pairsF ps ts.length 0 = F at HW hB
        obtain ⟨c1, c2⟩ := F
        simp only [FV_mk] at HW
        have HF := Lib.hid hF; have HA2 := Lib.hid hA2; have HB := Lib.hid hB
        have hc1 : ((c1 : Int) == 0) = false := by simpa using hB
        clear hF hA2 hA hB hr
        go_enter Try.func4, Try.ntmps4
        go_wp2_with fail
        refine HW.out.mono ?_
        rintro e w1 ⟨u, rfl, hl, hb1⟩
        obtain ⟨uo, uc, rfl, _⟩ := hl.1
        have HL := Lib.hid hl.1; clear hl
        have hf0 := heap_ofAlloc w1 (.cells #[.int .i64 c1, .int .i64 c2] 28)
        have HBA := Lib.hid ((Below.refl w1.heap.size w1).alloc (Nat.le_refl _) (.cells #[.int .i64 c1, .int .i64 c2] 28))
        go_wp2_with fail
        refine (terms_any ts _ _ (by omega) ((HTA.out.below hb1).below HBA.out)).mono ?_
        rintro e w2 ⟨rfl, hb2⟩
        have hb12 := Below.step HBA.out hb2
        have hf2 := Below.heapAt hb2 hf0
        rw [HA2.out, FV_mk]
        have hg0 := heap_ofAlloc w2 (.cells #[.int .i64 0, .int .i64 0] 28)
        have hf3 := heap_alloc_old (o' := .cells #[.int .i64 0, .int .i64 0] 28) hf2
        have hb13 := Below.step hb12 ((Below.refl w2.heap.size w2).alloc (Nat.le_refl _) (.cells #[.int .i64 0, .int .i64 0] 28))
        clear hf0 hf2
        go_wp2_with fail
        refine (pairs_any ps ts.length 0 _ _ (by omega) (by omega) ((HPA.out.below hb1).below hb13)).mono ?_
        rintro e w4 ⟨rfl, hb4⟩
        have hb14 := Below.step hb13 hb4
        have hg4 := Below.heapAt hb4 hg0
        have hf4 := Below.heapAt hb4 hf3
        have hlt1 := heap_lt hf4
        have hlt2 := heap_lt hg4
        have hw12 := hb12.size
        have hw12' := heap_lt hf3
        rw [HF.out, FV_mk]
        have hne : w2.heap.size ≠ w1.heap.size := by have := hb2.size; simp at this; omega
        have hg5 := box2_set hg4 (.int .i64 c1) (.int .i64 c2)
        have hf5 := heap_set_other (heap_set_other (a := ⟨w2.heap.size, 0, none⟩) (u := .int .i64 c1) hf4 (by simp; omega)) (a := ⟨w2.heap.size, 1, none⟩) (u := .int .i64 c2) (by simp; omega)
        have hb15 := (hb14.setCell (p := ⟨w2.heap.size, 0, none⟩) (by simp; omega) (.int .i64 c1)).setCell (p := ⟨w2.heap.size, 1, none⟩) (by simp; omega) (.int .i64 c2)
        obtain ⟨⟨x0, x1⟩, x2, x3⟩ := box2 hg4
        clear hf3 hg0
        obtain ⟨⟨y0, _⟩, y1, _⟩ := box2 hf5
        obtain ⟨⟨z0, _⟩, z1, _⟩ := box2 hg5
        go_wp2_with fail
        refine (ints_same [] _ _ _ (HL.out.below hb15) (NatsAt.nil _) (by simp)).mono ?_
        rintro e w6 ⟨rfl, hb6⟩
        go_wp2_with fail
        go_ret
        exact ⟨rfl, Below.step (Below.step hb1 hb15) hb6⟩
    · have hr : whyR ts ps a b = ([], termsF ts) := by
        have e : checkF ts [ps] = termsF ts := by rw [checkF, if_neg hA]
        rw [whyR, e, if_pos hA]
      rw [hr] at HW
      generalize hA2 : termsF ts = F at HW hA
      obtain ⟨c1, c2⟩ := F
      simp only [FV_mk] at HW
      have HA2 := Lib.hid hA2; have HA := Lib.hid hA
      have hc1 : ((c1 : Int) == 0) = false := by simpa using hA
      clear hA2 hA hr
      go_enter Try.func4, Try.ntmps4
      go_wp2_with fail
      refine HW.out.mono ?_
      rintro e w1 ⟨u, rfl, hl, hb1⟩
      obtain ⟨uo, uc, rfl, _⟩ := hl.1
      have HL := Lib.hid hl.1; clear hl
      have hf0 := heap_ofAlloc w1 (.cells #[.int .i64 c1, .int .i64 c2] 28)
      have HBA := Lib.hid ((Below.refl w1.heap.size w1).alloc (Nat.le_refl _) (.cells #[.int .i64 c1, .int .i64 c2] 28))
      go_wp2_with fail
      refine (terms_any ts _ _ (by omega) ((HTA.out.below hb1).below HBA.out)).mono ?_
      rintro e w2 ⟨rfl, hb2⟩
      have hb12 := Below.step HBA.out hb2
      have hf2 := Below.heapAt hb2 hf0
      rw [HA2.out, FV_mk]
      have hg0 := heap_ofAlloc w2 (.cells #[.int .i64 c1, .int .i64 c2] 28)
      have hf3 := heap_alloc_old (o' := .cells #[.int .i64 c1, .int .i64 c2] 28) hf2
      have hb13 := Below.step hb12 ((Below.refl w2.heap.size w2).alloc (Nat.le_refl _) (.cells #[.int .i64 c1, .int .i64 c2] 28))
      clear hf0 hf2
      have hg5 := hg0
      have hf5 := hf3
      have hb15 := hb13
      obtain ⟨⟨y0, _⟩, y1, _⟩ := box2 hf5
      obtain ⟨⟨z0, _⟩, z1, _⟩ := box2 hg5
      go_wp2_with fail
      refine (ints_same [] _ _ _ (HL.out.below hb15) (NatsAt.nil _) (by simp)).mono ?_
      rintro e w6 ⟨rfl, hb6⟩
      go_wp2_with fail
      go_ret
      exact ⟨rfl, Below.step (Below.step hb1 hb15) hb6⟩
end Go.Proofs.Ytcckgfgobakphab
