/-
  Walks: Why.
-/
import Derived.Test.YtcckgfgobakphabProg
import Derived.Test.YtcckgfgobakphabBase
import Derived.Test.YtcckgfgobakphabCmath
import Derived.Test.YtcckgfgobakphabW12
namespace Go.Proofs.Ytcckgfgobakphab
open Go.RowKit Go.Shelf
set_option linter.unusedVariables false
set_option maxHeartbeats 400000

noncomputable def whyR (ts : List Tm) (ps : List (Int × Int)) (a b : Int) : List Nat × (Int × Int) :=
  if (checkF ts [ps]).1 ≠ 0 then ([], checkF ts [ps]) else
    if inN ts.length a = false ∨ inN ts.length b = false then ([], (3, -1)) else
      if relD ts ps a.toNat b.toNat = false then ([], (6, 0)) else (whyL ts ps a.toNat b.toNat, (0, 0))

/-- a function's end whose first result is in a slot, its second in a block of two cells -/
theorem ret_slot2 {P : Program} {fn : Func} {R : Ending → World → Prop} {a : Act} {w : World} (x : Value) (p q : Value) (c : Nat) (T' : TypeId)
    (hc : w.heap[c]? = some (.cells #[p, q] T' (0, 0)))
    (hres : ∀ w' : World, w'.cell? ⟨c, 0, none⟩ = some p → w'.cell? ⟨c, 1, none⟩ = some q → (results fn a.tmps).run P w' = .ok (.tuple #[x, .agg #[p, q]]) w') (hd : a.defers = [])
    (hR : R (.returned (.tuple #[x, .agg #[p, q]])) w) : bodyPost P fn R .ret a w :=
  bodyPost_ret (hres w (box2 hc).1.1 (box2 hc).2.1) hd hR

set_option maxRecDepth 100000 in
set_option maxHeartbeats 4000000 in
theorem why15_any (ts : List Tm) (ps : List (Int × Int)) (a b : Int) (tv pv : Value) (w : World) (hn : ts.length ≤ 80) (ht : TermsAt w tv ts) (hp : PairsAt w pv ps) :
    Calls Try.prog 15 #[tv, pv, .int .i64 a, .int .i64 b] w fun e w' => ∃ u, e = .returned (.tuple #[u, FV (whyR ts ps a b).2]) ∧ NatsFrom w.heap.size w' u (whyR ts ps a b).1 ∧ Below w.heap.size w w' := by
  have HTA := Lib.hid ht; have HPA := Lib.hid hp
  obtain ⟨po, pcap, rfl, hpps⟩ := hp
  obtain ⟨to, tcap, rfl, htts⟩ := ht
  clear hpps htts
  have HCZ := Lib.hid (fun h => checkF_zero (ts := ts) (ls := [ps]) h)
  have HCZ2 := Lib.hid (fun h => checkF_zero' (ts := ts) (ls := [ps]) h)
  have HWR := Lib.hid (show whyR ts ps a b = if (checkF ts [ps]).1 ≠ 0 then ([], checkF ts [ps]) else
    if inN ts.length a = false ∨ inN ts.length b = false then ([], (3, -1)) else
      if relD ts ps a.toNat b.toNat = false then ([], (6, 0)) else (whyL ts ps a.toNat b.toNat, (0, 0)) from rfl)
  have HCK := Lib.hid (fun (lv : Value) (W : World) h1 h2 => check_any ts [ps] (.slice to ts.length (ts.length + tcap)) lv W hn (by simp) h1 h2)
  generalize hcf : checkF ts [ps] = cf at HCZ HCZ2 HWR HCK
  obtain ⟨cc, ca⟩ := cf
  have HCF := Lib.hid hcf; clear hcf
  go_enter Try.func15, Try.ntmps15
  go_wp2_with fail
  have hR1 : ((w.alloc (.cells #[.int .i64 0, .int .i64 0] 28)).alloc (.cells #[.slice po ps.length pcap] 23)).heap[w.heap.size]? = some (.cells #[.int .i64 0, .int .i64 0] 28 (0, 0)) :=
    heap_alloc_old (heap_ofAlloc _ _)
  have hR2 : ((w.alloc (.cells #[.int .i64 0, .int .i64 0] 28)).alloc (.cells #[.slice po ps.length pcap] 23)).heap[w.heap.size + 1]? = some (.cells #[.slice po ps.length pcap] 23 (0, 0)) := by
    have := heap_ofAlloc (w.alloc (.cells #[.int .i64 0, .int .i64 0] 28)) (.cells #[.slice po ps.length pcap] 23)
    simpa using this
  have hbel : Below w.heap.size w ((w.alloc (.cells #[.int .i64 0, .int .i64 0] 28)).alloc (.cells #[.slice po ps.length pcap] 23)) :=
    ((Below.refl _ _).alloc (Nat.le_refl _) _).alloc (by simp) _
  generalize (w.alloc (.cells #[.int .i64 0, .int .i64 0] 28)).alloc (.cells #[.slice po ps.length pcap] 23) = W3 at hR1 hR2 hbel ⊢
  refine (HCK.out _ _ (HTA.out.below hbel) ⟨some ⟨w.heap.size + 1, 0, none⟩, 1, rfl, fun j hj => ?_⟩).mono ?_
  · match j, hj with
    | 0, _ => exact ⟨_, 0, _, rfl, (box1 hR2).1, HPA.out.below hbel⟩
  rintro e w1 ⟨rfl, hb1⟩
  have hbel1 := Below.step hbel hb1
  have hS1 := Below.heapAt hb1 hR1
  have hsz := hbel1.size
  have hl1 := heap_lt hS1
  clear hR1 hR2 hbel hb1
  rw [FV_mk]
  obtain ⟨⟨m0, g0⟩, m1, g1⟩ := box2 hS1
  have HS1 := Lib.hid hS1; have HB1 := Lib.hid hbel1; clear hS1 hbel1
  by_cases hc0 : cc = 0
  · obtain ⟨h60, hki, hall⟩ := HCZ.out hc0
    have hpl := hall ps (by simp)
    have HKI := Lib.hid hki; have HPL := Lib.hid hpl.2
    have hp120 := hpl.1
    have hca0 := HCZ2.out hc0
    (try simp only at hca0)
    have HWR2 := Lib.hid (show whyR ts ps a b = if inN ts.length a = false ∨ inN ts.length b = false then ([], (3, -1)) else
      if relD ts ps a.toNat b.toNat = false then ([], (6, 0)) else (whyL ts ps a.toNat b.toNat, (0, 0)) by rw [HWR.out]; simp [hc0])
    clear hki hpl hall
    subst hc0
    subst hca0
    have HBA := Lib.hid ((Below.refl w1.heap.size w1).alloc (Nat.le_refl _) (.cells #[.int .i64 0, .int .i64 0] 28))
    cases ha : inN ts.length a with
    | false =>
      have HW3 := Lib.hid (show whyR ts ps a b = ([], (3, -1)) by rw [HWR2.out, if_pos (.inl ha)])
      have HA := Lib.hid ha; clear ha
      go_wp2_with fail
      refine (term_any _ _ _ _ _ (by omega)).mono ?_
      rintro e w2 ⟨rfl, rfl⟩
      rw [HA.out]
      go_wp2_with fail
      refine ret_slot2 (.slice none 0 0) (.int .i64 3) (.int .i64 (-1)) w.heap.size 28 (heap_alloc_old (box2_set HS1.out _ _)) (fun w' q0 q1 => by simp [results, Try.results15, go_sem, q0, q1]) rfl ?_
      exact ⟨_, by rw [HW3.out]; rfl, by rw [HW3.out]; exact NatsFrom.nil _ _, ((HB1.out.setCell (Nat.le_refl _) _).setCell (Nat.le_refl _) _).alloc (by simp; omega) _⟩
    | true =>
      have HA := Lib.hid ha
      cases hb : inN ts.length b with
      | false =>
        have HW3 := Lib.hid (show whyR ts ps a b = ([], (3, -1)) by rw [HWR2.out, if_pos (.inr hb)])
        have HB := Lib.hid hb; clear ha hb
        go_wp2_with fail
        refine (term_any _ _ _ _ _ (by omega)).mono ?_
        rintro e w2 ⟨rfl, rfl⟩
        rw [HA.out]
        go_wp2_with fail
        refine (term_any _ _ _ _ _ (by omega)).mono ?_
        rintro e w2 ⟨rfl, rfl⟩
        rw [HB.out]
        go_wp2_with fail
        refine ret_slot2 (.slice none 0 0) (.int .i64 3) (.int .i64 (-1)) w.heap.size 28 (heap_alloc_old (box2_set HS1.out _ _)) (fun w' q0 q1 => by simp [results, Try.results15, go_sem, q0, q1]) rfl ?_
        exact ⟨_, by rw [HW3.out]; rfl, by rw [HW3.out]; exact NatsFrom.nil _ _, ((HB1.out.setCell (Nat.le_refl _) _).setCell (Nat.le_refl _) _).alloc (by simp; omega) _⟩
      | true =>
        have HB := Lib.hid hb
        have HWR3 := Lib.hid (show whyR ts ps a b = if relD ts ps a.toNat b.toNat = false then ([], (6, 0)) else (whyL ts ps a.toNat b.toNat, (0, 0)) by rw [HWR2.out, if_neg (by simp [ha, hb])])
        simp only [inN, decide_eq_true_eq] at ha hb
        obtain ⟨x, rfl⟩ := Int.eq_ofNat_of_zero_le ha.1
        obtain ⟨y, rfl⟩ := Int.eq_ofNat_of_zero_le hb.1
        have hx : x < ts.length := by omega
        have hy : y < ts.length := by omega
        simp only [Int.toNat_natCast] at HWR3
        clear ha hb
        go_wp2_with fail
        refine (term_any _ _ _ _ _ (by omega)).mono ?_
        rintro e w2 ⟨rfl, rfl⟩
        rw [HA.out]
        go_wp2_with fail
        refine (term_any _ _ _ _ _ (by omega)).mono ?_
        rintro e w2 ⟨rfl, rfl⟩
        rw [HB.out]
        go_wp2_with fail
        refine (related_any ts ps x y _ _ _ (by omega) (by omega) HKI.out HPL.out hx hy ((HTA.out.below HB1.out).below HBA.out) ((HPA.out.below HB1.out).below HBA.out)).mono ?_
        rintro e w2 ⟨rfl, hb2⟩
        have hbel2 := Below.step (Below.step HB1.out HBA.out) hb2
        have hT1 := Below.heapAt hb2 (Below.heapAt HBA.out HS1.out)
        clear m0 g0 m1 g1
        obtain ⟨⟨m0, g0⟩, m1, g1⟩ := box2 hT1
        have HT1 := Lib.hid hT1; clear hT1
        cases hr : relD ts ps x y with
        | false =>
          have HW3 := Lib.hid (show whyR ts ps x y = ([], (6, 0)) by rw [HWR3.out, if_pos hr])
          have HR := Lib.hid hr; clear hr
          go_wp2_with fail
          refine ret_slot2 (.slice none 0 0) (.int .i64 6) (.int .i64 0) w.heap.size 28 (box2_set HT1.out _ _) (fun w' q0 q1 => by simp [results, Try.results15, go_sem, q0, q1]) rfl ?_
          exact ⟨_, by rw [HW3.out]; rfl, by rw [HW3.out]; exact NatsFrom.nil _ _, (hbel2.setCell (Nat.le_refl _) _).setCell (Nat.le_refl _) _⟩
        | true =>
          have HW3 := Lib.hid (show whyR ts ps x y = (whyL ts ps x y, (0, 0)) by rw [HWR3.out, if_neg (by simp [hr])])
          have HR := Lib.hid hr; clear hr
          go_wp2_with fail
          refine (why_any ts ps x y _ _ _ (by omega) (by omega) HKI.out HPL.out hx hy (HTA.out.below hbel2) (HPA.out.below hbel2)).mono ?_
          rintro e w3 ⟨v, rfl, hwl, hb3⟩
          have hbel3 := Below.step hbel2 hb3
          have hV1 := Below.heapAt hb3 HT1.out
          have hlt := heap_lt HT1.out
          clear m0 g0 m1 g1
          have HWL := Lib.hid (hwl.mono (B' := w.heap.size + 1) (by omega))
          obtain ⟨wo, wc, rfl, _⟩ := hwl.1
          clear hwl
          obtain ⟨⟨m0, g0⟩, m1, g1⟩ := box2 hV1
          have HV1 := Lib.hid hV1; clear hV1
          go_wp2_with fail
          refine ret_slot2 (.slice wo (whyL ts ps x y).length wc) (.int .i64 0) (.int .i64 0) w.heap.size 28 (box2_set HV1.out _ _) (fun w' q0 q1 => by simp [results, Try.results15, go_sem, q0, q1]) rfl ?_
          exact ⟨_, by rw [HW3.out]; rfl, by rw [HW3.out]; exact ((HWL.out.setCell (by simp) _).setCell (by simp) _).mono (by omega), (hbel3.setCell (Nat.le_refl _) _).setCell (Nat.le_refl _) _⟩
  · have hc1 : (cc != 0) = true := by simp [hc0]
    have HC0 := Lib.hid hc0; clear hc0
    go_wp2_with fail
    go_region
    go_wp2_with fail
    have hd : whyR ts ps a b = ([], (cc, ca)) := by rw [HWR.out, if_pos (by exact HC0.out)]
    refine ret_slot2 (.slice none 0 0) (.int .i64 cc) (.int .i64 ca) w.heap.size 28 (heap_alloc_old (box2_set HS1.out _ _)) (fun w' q0 q1 => by simp [results, Try.results15, go_sem, q0, q1]) rfl ?_
    exact ⟨_, by rw [hd]; rfl, by rw [hd]; exact NatsFrom.nil _ _, Below.drew (((HB1.out.setCell (Nat.le_refl _) _).setCell (Nat.le_refl _) _).alloc (by simp; omega) _)⟩
end Go.Proofs.Ytcckgfgobakphab
