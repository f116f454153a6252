/-
  Walks: the law CloseSound.
-/
import Derived.Test.YtcckgfgobakphabProg
import Derived.Test.YtcckgfgobakphabBase
import Derived.Test.YtcckgfgobakphabW19
namespace Go.Proofs.Ytcckgfgobakphab
open Go.RowKit Go.Shelf
set_option linter.unusedVariables false
set_option linter.unusedSimpArgs false
set_option maxHeartbeats 400000

set_option maxRecDepth 100000 in
set_option maxHeartbeats 16000000 in
theorem closeSound_walk (ts : List Tm) (ps : List (Int × Int)) (L : List Int) (tv pv lv : Value) (w : World) (ht : TermsAt w tv ts) (hp : PairsAt w pv ps) (hL : IntsAt w lv L) :
    Calls Try.prog 6 #[tv, pv, lv] w fun e w' => e = .returned (.bool true) ∧ Below w.heap.size w w' := by
  have HTA := Lib.hid ht; have HPA := Lib.hid hp
  obtain ⟨po, pcap, rfl, hpps⟩ := hp
  obtain ⟨to, tcap, rfl, htts⟩ := ht
  obtain ⟨so, scap, rfl, hss⟩ := hL
  clear hpps htts
  by_cases h60 : 60 < ts.length
  · go_enter Try.func6, Try.ntmps6
    go_wp2_with fail
    refine (closeFact_any _).mono ?_
    rintro e w0 ⟨rfl, hb0⟩
    go_wp2_with fail
    go_ret
    exact ⟨rfl, hb0⟩
  by_cases h120 : 120 < ps.length
  · go_enter Try.func6, Try.ntmps6
    go_wp2_with fail
    refine (closeFact_any _).mono ?_
    rintro e w0 ⟨rfl, hb0⟩
    go_wp2_with fail
    go_ret
    exact ⟨rfl, hb0⟩
  by_cases hLn : L.length ≠ ts.length
  · have hne : ((L.length : Int) != (ts.length : Int)) = true := by simp; omega
    clear hss
    go_enter Try.func6, Try.ntmps6
    go_wp2_with fail
    refine (closeFact_any _).mono ?_
    rintro e w0 ⟨rfl, hb0⟩
    go_wp2_with fail
    go_ret
    exact ⟨rfl, hb0⟩
  have hLn' : L.length = ts.length := Classical.not_not.1 hLn
  rw [hLn'] at hss ⊢
  clear hLn hLn'
  have HIN := Lib.hid hss; clear hss
  by_cases hck : (checkF ts [ps, []]).1 = 0
  · obtain ⟨_, hki, hpl⟩ := checkF_zero hck
    have hpin := (hpl ps (by simp)).2
    have HCK := Lib.hid hck
    have HG := Lib.hid (classes_good (ts := ts) hpin)
    have HLS := Lib.hid (classes_least (ts := ts) hpin)
    have HMO := Lib.hid (classes_mod (ts := ts) hpin)
    have HSA := Lib.hid (classes_sat (ts := ts) hpin)
    have HRE := Lib.hid (fun f hm hs => classes_resp (ts := ts) (f := f) hm hki hs hpin)
    have HKI := Lib.hid hki; have HPL := Lib.hid hpin
    clear hck hki hpl hpin
    go_enter Try.func6, Try.ntmps6
    go_wp2_with fail
    refine (closeFact_any _).mono ?_
    rintro e w0 ⟨rfl, hb0⟩
    go_wp2_with fail
    refine (do_ok ts ps _ _ _ HCK.out (HTA.out.below hb0) (HPA.out.below hb0)).mono ?_
    rintro e w1 ⟨uo, uc, vo, vc, rfl, hl, hb1⟩
    have hb1 := Below.step hb0 hb1
    generalize classes ts ps = CL at HG HLS HMO HSA HRE hl
    have hC := heap_alloc_old (o' := .cells #[.int .i64 0, .int .i64 0] 28) (heap_ofAlloc w1 (.cells #[.int .i64 1, .slice uo ts.length uc, .slice vo 0 vc, .int .i64 0] 26))
    have hba := ((Below.refl w1.heap.size w1).alloc (Nat.le_refl _) (.cells #[.int .i64 1, .slice uo ts.length uc, .slice vo 0 vc, .int .i64 0] 26)).alloc (by simp) (.cells #[.int .i64 0, .int .i64 0] 28)
    have hl := hl.below hba
    have hb2 := Below.step hb1 hba
    have XT := Lib.hid (HTA.out.below hb2); have XP := Lib.hid (HPA.out.below hb2)
    have XS := Lib.hid (HIN.out.below hb2)
    have HL := Lib.hid hl; have XC := Lib.hid hC; have XB := Lib.hid hb2
    clear hl hC hb0 hb1 hb2 hba
    go_wp2_with fail
    generalize (w1.alloc (.cells #[.int .i64 1, .slice uo ts.length uc, .slice vo 0 vc, .int .i64 0] 26)).alloc (.cells #[.int .i64 0, .int .i64 0] 28) = W2 at HL XC XB XT XP XS ⊢
    generalize w1.heap.size = bx at XC ⊢
    have hb := Below.refl W2.heap.size W2
    obtain ⟨FF, hFF⟩ : ∃ FF : Nat → Int, FF = fun j => gI L j := ⟨_, rfl⟩
    have HFF := Lib.hid hFF; clear hFF
    go_loopw [10] (fun i wr => ∃ k : Nat, k ≤ ps.length ∧ i = .int .i64 k ∧ Below W2.heap.size W2 wr ∧ ∀ x, x < k → FF (gP ps x).1.toNat = FF (gP ps x).2.toNat) (fun i _ => ps.length - (intOf i).toNat)
    case atStart => exact ⟨0, by omega, rfl, hb, fun x hx => by omega⟩
    case round =>
      obtain ⟨k, hk, rfl, hb, hsf⟩ := hrel
      have HSF := Lib.hid hsf; clear hsf
      by_cases hlt : k < ps.length
      · have hpi := HPL.out k hlt
        obtain ⟨cb, cf, e0, hlc⟩ := (XS.out.below hb).open (by omega)
        subst e0
        obtain ⟨pb, pf, e0, hpc⟩ := (XP.out.below hb).open (by omega)
        subst e0
        obtain ⟨z1, z2⟩ := hpc k hlt
        obtain ⟨m1, hm1⟩ := Int.eq_ofNat_of_zero_le hpi.1
        obtain ⟨m2, hm2⟩ := Int.eq_ofNat_of_zero_le hpi.2.2.1
        have l1 : m1 < ts.length := by omega
        have l2 : m2 < ts.length := by omega
        have y1 := hlc m1 l1
        have y2 := hlc m2 l2
        have HST := Lib.hid (show FF (gP ps k).1.toNat = FF (gP ps k).2.toNat ↔ gI L m1 = gI L m2 by rw [hm1, hm2, HFF.out]; simp)
        simp only [hm1, hm2] at z1 z2
        clear hlc hpc hpi hm1 hm2
        cases hne : (gI L m1 != gI L m2) with
        | true =>
          go_wp2_with fail
          go_quiet (fail)
          go_wp2_with fail
          go_ret
          exact ⟨rfl, Below.step XB.out (Below.step hb (below_drewN (Below.refl _ _) _))⟩
        | false =>
          have HE := Lib.hid (show gI L m1 = gI L m2 by simpa using hne)
          go_wp2_with fail
          go_quiet (fail)
          go_wp2_with fail
          go_roundw
          case rel => exact ⟨k + 1, by omega, by go_num, Below.step hb (below_drewN (Below.refl _ _) _), fun x hx => by
            by_cases e : x = k
            · subst e; exact HST.out.2 HE.out
            · exact HSF.out x (by omega)⟩
          case measure => simp [intOf] <;> omega
      · obtain rfl : k = ps.length := by omega
        go_wp2_with fail
        obtain ⟨wa, rfl⟩ : ∃ wa : World, wa = wr := ⟨_, rfl⟩
        go_loopw [11, 12, 13, 14] (fun i _ _ _ wr => ∃ q : Nat, q ≤ ts.length ∧ i = .int .i64 q ∧ Below W2.heap.size W2 wr ∧ ∀ x y, x < q → y < x → KidsLike FF (gT ts x) (gT ts y) → FF x = FF y) (fun i _ _ _ _ => ts.length - (intOf i).toNat)
        case atStart => exact ⟨0, by omega, rfl, hb, fun x y hx => by omega⟩
        case round =>
          obtain ⟨q, hq, rfl, hb, hkx⟩ := hrel
          have HKX := Lib.hid hkx; clear hkx
          by_cases hlt : q < ts.length
          · go_wp2_with fail
            obtain ⟨wo, rfl⟩ : ∃ wo : World, wo = wr := ⟨_, rfl⟩
            go_loopw [12, 13, 14] (fun k _ _ wr => ∃ p : Nat, p ≤ q ∧ k = .int .i64 p ∧ Below W2.heap.size W2 wr ∧ ∀ y, y < p → KidsLike FF (gT ts q) (gT ts y) → FF q = FF y) (fun k _ _ _ => q - (intOf k).toNat)
            case atStart => exact ⟨0, by omega, rfl, hb, fun y hy => by omega⟩
            case round =>
              obtain ⟨p, hp, rfl, hb, hky⟩ := hrel
              have HKY := Lib.hid hky; clear hky
              by_cases hlt2 : p < q
              · obtain ⟨tb, tf, e0, htc⟩ := (XT.out.below hb).open (by omega)
                subst e0
                obtain ⟨k1, kc1, t1, t2, t3⟩ := htc q hlt
                obtain ⟨k2, kc2, t4, t5, t6⟩ := htc p (by omega)
                have HT3 := Lib.hid t3; have HT6 := Lib.hid t6; clear htc t3 t6
                cases hh : ((gT ts q).head == (gT ts p).head) with
                | false =>
                  have HNH := Lib.hid hh
                  go_wp2_with fail
                  go_quiet (fail)
                  go_wp2_with fail
                  have hb := Below.step hb (below_drewN (Below.refl _ _) nq)
                  generalize wr.drewN nq = wi at hb ⊢
                  clear t1 t2 t4 t5
                  obtain ⟨wo2, rfl⟩ : ∃ wo2 : World, wo2 = wi := ⟨_, rfl⟩
                  go_loopw [13, 14] (fun o j wr => o = .bool false ∧ j = .int .i64 0 ∧ Below W2.heap.size W2 wr) (fun _ _ _ => 0)
                  case atStart => exact ⟨rfl, rfl, hb⟩
                  case round =>
                    obtain ⟨rfl, rfl, hb⟩ := hrel
                    obtain ⟨k1, kc1, t1, t2, t3⟩ := ((XT.out.below hb).open' (by omega)) q hlt
                    clear t1 t3
                    by_cases h0 : 0 < (gT ts q).kids.length
                    · go_wp2_with fail
                      go_quiet (fail)
                      go_wp2_with fail
                      go_roundw
                      case rel => exact ⟨p + 1, by omega, by go_num, Below.step hb (below_drewN (Below.refl _ _) _), fun y hy h => by
                        by_cases e : y = p
                        · subst e; exact absurd h (fun hh => by have := HNH.out; simp [hh.1] at this)
                        · exact HKY.out y (by omega) h⟩
                      case measure => simp [intOf] <;> omega
                    · go_wp2_with fail
                      go_quiet (fail)
                      go_wp2_with fail
                      go_roundw
                      case rel => exact ⟨p + 1, by omega, by go_num, Below.step hb (below_drewN (Below.refl _ _) _), fun y hy h => by
                        by_cases e : y = p
                        · subst e; exact absurd h (fun hh => by have := HNH.out; simp [hh.1] at this)
                        · exact HKY.out y (by omega) h⟩
                      case measure => simp [intOf] <;> omega
                | true =>
                  have HHH := Lib.hid (eq_of_beq hh)
                  cases hl : (((gT ts q).kids.length : Int) == ((gT ts p).kids.length : Int)) with
                  | false =>
                    have HNL := Lib.hid hl
                    go_wp2_with fail
                    go_quiet (fail)
                    go_wp2_with fail
                    have hb := Below.step hb (below_drewN (Below.refl _ _) nq)
                    generalize wr.drewN nq = wi at hb ⊢
                    clear t1 t2 t4 t5
                    obtain ⟨wo2, rfl⟩ : ∃ wo2 : World, wo2 = wi := ⟨_, rfl⟩
                    go_loopw [13, 14] (fun o j wr => o = .bool false ∧ j = .int .i64 0 ∧ Below W2.heap.size W2 wr) (fun _ _ _ => 0)
                    case atStart => exact ⟨rfl, rfl, hb⟩
                    case round =>
                      obtain ⟨rfl, rfl, hb⟩ := hrel
                      obtain ⟨k1, kc1, t1, t2, t3⟩ := ((XT.out.below hb).open' (by omega)) q hlt
                      clear t1 t3
                      by_cases h0 : 0 < (gT ts q).kids.length
                      · go_wp2_with fail
                        go_quiet (fail)
                        go_wp2_with fail
                        go_roundw
                        case rel => exact ⟨p + 1, by omega, by go_num, Below.step hb (below_drewN (Below.refl _ _) _), fun y hy h => by
                          by_cases e : y = p
                          · subst e; exact absurd h (fun hh => by have := HNL.out; simp [hh.2.1] at this)
                          · exact HKY.out y (by omega) h⟩
                        case measure => simp [intOf] <;> omega
                      · go_wp2_with fail
                        go_quiet (fail)
                        go_wp2_with fail
                        go_roundw
                        case rel => exact ⟨p + 1, by omega, by go_num, Below.step hb (below_drewN (Below.refl _ _) _), fun y hy h => by
                          by_cases e : y = p
                          · subst e; exact absurd h (fun hh => by have := HNL.out; simp [hh.2.1] at this)
                          · exact HKY.out y (by omega) h⟩
                        case measure => simp [intOf] <;> omega
                  | true =>
                    have hlen : (gT ts q).kids.length = (gT ts p).kids.length := by have := eq_of_beq hl; omega
                    have HLE := Lib.hid hlen
                    go_wp2_with fail
                    go_quiet (fail)
                    go_wp2_with fail
                    have hb := Below.step hb (below_drewN (Below.refl _ _) nq)
                    have HT3 := Lib.hid (HT3.out.below (below_drewN (Below.refl _ _) nq)); have HT6 := Lib.hid (HT6.out.below (below_drewN (Below.refl _ _) nq))
                    generalize wr.drewN nq = wi at hb HT3 HT6 ⊢
                    clear t1 t2 t4 t5 hlen hl hh
                    obtain ⟨wo2, rfl⟩ : ∃ wo2 : World, wo2 = wi := ⟨_, rfl⟩
                    go_loopw [13, 14] (fun o jv wr => ∃ (j : Nat) (b : Bool), j ≤ (gT ts q).kids.length ∧ o = .bool b ∧ jv = .int .i64 j ∧ Below W2.heap.size W2 wr ∧ Below wo2.heap.size wo2 wr ∧
                      (b = true ↔ ∀ x, x < j → FF (gI (gT ts q).kids x).toNat = FF (gI (gT ts p).kids x).toNat)) (fun _ j _ => (gT ts q).kids.length - (intOf j).toNat)
                    case atStart => exact ⟨0, true, by omega, rfl, rfl, hb, Below.refl _ _, by simp⟩
                    case round =>
                      obtain ⟨j, b, hj, rfl, rfl, hb, hbo, hif⟩ := hrel
                      have HIF := Lib.hid hif; clear hif
                      have hk8 := (HKI.out q hlt).1
                      obtain ⟨k1', kc1', t1, t2, t3⟩ := ((XT.out.below hb).open' (by omega)) q hlt
                      obtain ⟨k2', kc2', t4, t5, t6⟩ := ((XT.out.below hb).open' (by omega)) p (by omega)
                      by_cases hjl : j < (gT ts q).kids.length
                      · cases b with
                        | false =>
                          clear t1 t3 t4 t5 t6
                          go_wp2_with fail
                          go_quiet (fail)
                          go_wp2_with fail
                          go_roundw
                          case rel => exact ⟨p + 1, by omega, by go_num, Below.step hb (below_drewN (Below.refl _ _) _), fun y hy h => by
                            by_cases e : y = p
                            · subst e; exact absurd h (fun hh => by have := HIF.out.2 (fun x hx => hh.2.2 x (by omega)); cases this)
                            · exact HKY.out y (by omega) h⟩
                          case measure => simp [intOf] <;> omega
                        | true =>
                          obtain ⟨n1b, n1o, rfl, hn1⟩ := t3.open (by omega)
                          obtain ⟨n2b, n2o, rfl, hn2⟩ := t6.open (by have := HLE.out; omega)
                          have hjl2 : j < (gT ts p).kids.length := by have := HLE.out; omega
                          have z1 := hn1 j hjl
                          have z2 := hn2 j hjl2
                          have r1 := (HKI.out q hlt).2 j hjl
                          have r2 := (HKI.out p (by omega)).2 j hjl2
                          obtain ⟨m1, hm1⟩ := Int.eq_ofNat_of_zero_le r1.1
                          obtain ⟨m2, hm2⟩ := Int.eq_ofNat_of_zero_le r2.1
                          have l1 : m1 < ts.length := by omega
                          have l2 : m2 < ts.length := by omega
                          obtain ⟨cb, cf, e0, hlc⟩ := (XS.out.below hb).open (by omega)
                          subst e0
                          have y1 := hlc m1 l1
                          have y2 := hlc m2 l2
                          simp only [hm1] at z1
                          simp only [hm2] at z2
                          have HST := Lib.hid (show (FF (gI (gT ts q).kids j).toNat = FF (gI (gT ts p).kids j).toNat) ↔ ((gI L m1) == (gI L m2)) = true by rw [hm1, hm2]; simp [HFF.out])
                          clear hlc hn1 hn2 t1 t3 t4 t6 hm1 hm2 r1 r2
                          go_wp2_with fail
                          go_quiet (fail)
                          go_wp2_with fail
                          go_roundw
                          case rel => exact ⟨j + 1, _, by omega, rfl, by go_num, Below.step hb (below_drewN (Below.refl _ _) _), Below.step hbo (below_drewN (Below.refl _ _) _), by
                            constructor
                            · intro h x hx
                              by_cases e : x = j
                              · subst e; exact HST.out.2 h
                              · exact HIF.out.1 (by trivial) x (by omega)
                            · intro h; exact HST.out.1 (h j (by omega))⟩
                          case measure => simp [intOf] <;> omega
                      · obtain rfl : j = (gT ts q).kids.length := by omega
                        cases b with
                        | false =>
                          clear t1 t3 t4 t5 t6
                          go_wp2_with fail
                          go_quiet (fail)
                          go_wp2_with fail
                          go_roundw
                          case rel => exact ⟨p + 1, by omega, by go_num, Below.step hb (below_drewN (Below.refl _ _) _), fun y hy h => by
                            by_cases e : y = p
                            · subst e; exact absurd h (fun hh => by have := HIF.out.2 (fun x hx => hh.2.2 x (by omega)); cases this)
                            · exact HKY.out y (by omega) h⟩
                          case measure => simp [intOf] <;> omega
                        | true =>
                          have HLIKE := Lib.hid (show KidsLike FF (gT ts q) (gT ts p) from ⟨HHH.out, HLE.out, HIF.out.1 (by trivial)⟩)
                          obtain ⟨cb, cf, e0, hlc⟩ := (XS.out.below hb).open (by omega)
                          subst e0
                          have y1 := hlc q hlt
                          have y2 := hlc p (by omega)
                          clear hlc t1 t3 t4 t5 t6
                          cases hne : (gI L q != gI L p) with
                          | true =>
                            go_wp2_with fail
                            go_quiet (fail)
                            go_wp2_with fail
                            go_ret
                            exact ⟨rfl, Below.step XB.out (Below.step hb (below_drewN (Below.refl _ _) _))⟩
                          | false =>
                            have HSAME := Lib.hid (show FF q = FF p by rw [HFF.out]; simpa using hne)
                            go_wp2_with fail
                            go_quiet (fail)
                            go_wp2_with fail
                            go_roundw
                            case rel => exact ⟨p + 1, by omega, by go_num, Below.step hb (below_drewN (Below.refl _ _) _), fun y hy h => by
                              by_cases e : y = p
                              · subst e; exact HSAME.out
                              · exact HKY.out y (by omega) h⟩
                            case measure => simp [intOf] <;> omega
              · obtain rfl : p = q := by omega
                go_wp2_with fail
                go_roundw
                case rel => exact ⟨p + 1, by omega, by go_num, hb, fun x y hx hy h => by
                  by_cases e : x = p
                  · subst e; exact HKY.out y hy h
                  · exact HKX.out x y (by omega) hy h⟩
                case measure => simp [intOf] <;> omega
          · obtain rfl : q = ts.length := by omega
            go_wp2_with fail
            have HMF := Lib.hid (show Mod ts FF from ⟨HKX.out⟩)
            have HR := Lib.hid (show ∀ j, j < ts.length → gI L (gN CL j) = gI L j by have h := HRE.out FF HMF.out HSF.out; intro j hj; have h2 := h j hj; rw [HFF.out] at h2; exact h2)
            go_loopw [15] (fun i wr => ∃ k : Nat, k ≤ ts.length ∧ i = .int .i64 k ∧ Below W2.heap.size W2 wr) (fun i _ => ts.length - (intOf i).toNat)
            case atStart => exact ⟨0, by omega, rfl, hb⟩
            case round =>
              obtain ⟨k, hk, rfl, hb⟩ := hrel
              by_cases hlt : k < ts.length
              · obtain ⟨cb, cf, e0, hlc⟩ := (HL.out.below hb).open (by omega)
                subst e0
                obtain ⟨⟨x0, _⟩, ⟨x1, _⟩, _⟩ := box4 (Below.heapAt hb XC.out)
                clear x0
                have c1 := hlc k hlt
                clear hlc
                obtain ⟨sb, sf, e0, hlc⟩ := (XS.out.below hb).open (by omega)
                subst e0
                have hle := HLS.out.le k hlt
                have hlt2 := HG.out.lt k hlt
                have y1 := hlc k hlt
                have y2 := hlc _ hlt2
                rw [HR.out k hlt] at y2
                have hne : (gI L k != gI L k) = false := by simp
                clear hlc
                generalize gN CL k = m at c1 hle hlt2 y2
                go_wp2_with fail
                go_quiet (exact Calls.quiet_of_same (in16_yes _ ⟨by omega, by omega⟩))
                go_wp2_with fail
                go_roundw
                case rel => exact ⟨k + 1, by omega, by go_num, Below.step hb (below_drewN (Below.refl _ _) _)⟩
                case measure => simp [intOf] <;> omega
              · obtain rfl : k = ts.length := by omega
                go_wp2_with fail
                go_ret
                exact ⟨rfl, Below.step XB.out hb⟩
    
  · have hne : ((checkF ts [ps, []]).1 != 0) = true := by simpa using hck
    have HBAD := Lib.hid hck
    clear hck
    go_enter Try.func6, Try.ntmps6
    go_wp2_with fail
    refine (closeFact_any _).mono ?_
    rintro e w0 ⟨rfl, hb0⟩
    go_wp2_with fail
    refine (do_bad ts ps _ _ _ (by omega) HBAD.out (HTA.out.below hb0) (HPA.out.below hb0)).mono ?_
    rintro e w1 ⟨uo, uc, vo, vc, rfl, hb1⟩
    have hb1 := Below.step hb0 hb1
    go_wp2_with fail
    go_ret
    exact ⟨rfl, (hb1.alloc (by have := hb1.size; omega) _).alloc (by simp; have := hb1.size; omega) _⟩
end Go.Proofs.Ytcckgfgobakphab
