/-
  Walks: the law CloseEnough.
-/
import Derived.Test.YtcckgfgobakphabProg
import Derived.Test.YtcckgfgobakphabBase
import Derived.Test.YtcckgfgobakphabCm3
namespace Go.Proofs.Ytcckgfgobakphab
open Go.RowKit Go.Shelf
set_option linter.unusedVariables false
set_option linter.unusedSimpArgs false
set_option maxHeartbeats 400000

set_option maxRecDepth 100000 in
set_option maxHeartbeats 16000000 in
theorem closeEnough_walk (ts : List Tm) (ps : List (Int × Int)) (a b : Int) (tv pv : Value) (w : World) (ht : TermsAt w tv ts) (hp : PairsAt w pv ps) :
    Calls Try.prog 5 #[tv, pv, .int .i64 a, .int .i64 b] w fun e w' => e = .returned (.bool true) ∧ Below w.heap.size w w' := by
  have HTA := Lib.hid ht; have HPA := Lib.hid hp
  obtain ⟨po, pcap, rfl, hpps⟩ := hp
  obtain ⟨to, tcap, rfl, htts⟩ := ht
  clear hpps htts
  by_cases h60 : 60 < ts.length
  · go_enter Try.func5, Try.ntmps5
    go_wp2_with fail
    refine (closeFact_any _).mono ?_
    rintro e w0 ⟨rfl, hb0⟩
    go_wp2_with fail
    go_ret
    exact ⟨rfl, hb0⟩
  by_cases h120 : 120 < ps.length
  · go_enter Try.func5, Try.ntmps5
    go_wp2_with fail
    refine (closeFact_any _).mono ?_
    rintro e w0 ⟨rfl, hb0⟩
    go_wp2_with fail
    go_ret
    exact ⟨rfl, hb0⟩
  have HWY := Lib.hid (fun (W : World) h1 h2 => why15_any ts ps a b (.slice to ts.length (ts.length + tcap)) (.slice po ps.length pcap) W (by omega) h1 h2)
  by_cases hck : (whyR ts ps a b).2.1 = 0
  · obtain ⟨hch, ⟨na, rfl, hal⟩, ⟨nb, rfl, hbl⟩, hrel, hwr⟩ := whyR_good hck
    simp only [Int.toNat_natCast] at hrel hwr
    obtain ⟨_, hki, hpl⟩ := checkF_zero hch
    have hpin := (hpl ps (by simp)).2
    have HTD := Lib.hid (told_of hki hpin hal hbl hrel)
    rw [hwr] at HWY
    generalize whyL ts ps na nb = L at HTD HWY
    have hslen := HTD.out.slen
    have hllen := HTD.out.len
    have HC1 := Lib.hid (check1_of (qs := toldOf ps L L.length) hch (by omega) HTD.out.inn)
    have HCI := Lib.hid (fun i => check1_of (qs := pairsOf (toldOf ps L L.length) (setP (fun _ => true) i false) (toldOf ps L L.length).length) hch (by have := pairsOf_le (toldOf ps L L.length) (setP (fun _ => true) i false) (toldOf ps L L.length).length; omega) (HTD.out.inn2 i))
    clear hch hrel hwr hki hpl hpin hck hslen
    go_enter Try.func5, Try.ntmps5
    go_wp2_with fail
    refine (closeFact_any _).mono ?_
    rintro e w0 ⟨rfl, hb0⟩
    go_wp2_with fail
    refine (HWY.out _ (HTA.out.below hb0) (HPA.out.below hb0)).mono ?_
    rintro e w1 ⟨u, rfl, hl, hb1⟩
    have hb1 := Below.step hb0 hb1
    obtain ⟨lo, lc, rfl, hlc⟩ := hl.1
    clear hl
    have hF := heap_ofAlloc w1 (.cells #[.int .i64 0, .int .i64 0] 28)
    have hba := (Below.refl w1.heap.size w1).alloc (Nat.le_refl _) (.cells #[.int .i64 0, .int .i64 0] 28)
    have hsz : (w1.alloc (.cells #[.int .i64 0, .int .i64 0] 28)).heap.size = w1.heap.size + 1 := by simp
    have HT1 := Lib.hid (HTA.out.below hb1)
    have XP := Lib.hid ((HPA.out.below hb1).below hba)
    have HFIN := Lib.hid (fun (W' : World) (h : Below w1.heap.size w1 W') => Below.step hb1 h)
    have XL := Lib.hid (hlc.below hba)
    simp only [FV_mk]
    go_wp2_with fail
    generalize w1.alloc (.cells #[.int .i64 0, .int .i64 0] 28) = W2 at hF hba hsz XP XL ⊢
    obtain ⟨bx, hbx⟩ : ∃ bx, bx = w1.heap.size := ⟨_, rfl⟩
    have HBX := Lib.hid hbx
    rw [← hbx] at hF hsz
    rw [← hbx]
    have XF := Lib.hid hF; have HSZ := Lib.hid hsz; have HBA := Lib.hid hba
    clear hbx hF hba hsz hb0 hb1 hlc
    obtain ⟨i34, li, lz0, lz1, lz2⟩ := info_parts info34
    go_loopw [12, 13] (fun o i wr => ∃ k : Nat, k ≤ L.length ∧ i = .int .i64 k ∧ Below W2.heap.size W2 wr ∧
      wr.ownsRow W2.heap.size 34 2 o (toldOf ps L k).length (flatP (toldOf ps L k))) (fun _ i _ => L.length - (intOf i).toNat)
    case atStart => exact ⟨0, by omega, rfl, Below.refl _ _, by simpa [toldOf, flatP] using World.ownsRow_nil _ _ _ _⟩
    case round =>
      obtain ⟨k, hk, rfl, hb, hown⟩ := hrel
      have hbs := hb.size
      by_cases hlt : k < L.length
      · obtain ⟨lb, lf, e0, hlc⟩ := (XL.out.below hb).open (by omega)
        subst e0
        obtain ⟨pb, pf, e0, hpc⟩ := (XP.out.below hb).open (by omega)
        subst e0
        have hll := HTD.out.lt k hlt
        have c1 := hlc k hlt
        have HLC := Lib.hid hlc; have HPC := Lib.hid hpc
        have HO := Lib.hid hown
        clear hown hlc hpc
        cases k with
        | zero =>
          have e0 : ((0 : Nat) : Int) = 0 := rfl
          obtain ⟨z1, z2⟩ := HPC.out _ hll
          simp only [Nat.add_zero] at c1
          simp only [e0]
          go_wp2_with fail
          go_quiet (exact Calls.quiet_of_same (in16_yes _ ⟨by omega, by omega⟩))
          have hb := Below.step hb (below_drewN (Below.refl _ _) nq)
          have hown := own_below HO.out (below_drewN (Below.refl wr.heap.size wr) nq)
          have y1 := Below.cellOf (below_drewN (Below.refl wr.heap.size wr) nq) z1
          have y2 := Below.cellOf (below_drewN (Below.refl wr.heap.size wr) nq) z2
          have c1 := Below.cellOf (below_drewN (Below.refl wr.heap.size wr) nq) c1
          have hbs := hb.size
          generalize wr.drewN nq = wi at hb hown y1 y2 c1 hbs ⊢
          have hle := Nat.le_of_eq (toldOf_len (ps := ps) (L := L) (k := 0) (by omega))
          go_wp2_with (at_builtin; refine wpList_append_own _ rfl _ _ 23 rfl W2.heap.size 34 i34 (.agg #[.int .i64 0, .int .i64 0]) 2 16 Try.underlying23 li lz0 lz1 lz2 rfl (by decide) _ _ _ rfl (hown.alloc _) ⟨wi.heap.size, 0, none⟩ 1 1 [.int .i64 (gP ps (gN L (0))).1, .int .i64 (gP ps (gN L (0))).2] rfl rfl ?c1 ?c2 ?c3 ?c4 ?c5 ?_)
          case c1 => exact cell_two_new _ _ _ _
          case c2 => intro u hu; simp at hu; rcases hu with rfl | rfl <;> rfl
          case c3 => unfold maxLen; omega
          case c4 => omega
          case c5 => simp; omega
          intro v' w3 hown' hgrow _
          have hb1 : Below W2.heap.size W2 w3 := (hb.alloc hb.size _).grown hgrow (by simp; have := hb.size; omega) (fun q hq => by have := (hown.lt q hq).1; omega)
          have HO := Lib.hid (own_pushP hown')
          have HI := Lib.hid (toldOf_succ (ps := ps) hlt)
          clear hown hgrow hown'
          go_wp2_with fail
          go_roundw
          case rel => exact ⟨0 + 1, by omega, by go_num, hb1, by rw [HI.out]; exact HO.out⟩
          case measure => simp [intOf] <;> omega
        | succ k =>
          have hup := HTD.out.up k hlt
          have c2 := HLC.out k (by omega)
          obtain ⟨z1, z2⟩ := HPC.out _ hll
          have hk1 : ((k + 1 : Nat) : Int) - 1 = (k : Int) := by omega
          have hne : decide ((gN L (k + 1) : Int) ≤ (gN L k : Int)) = false := by simp; omega
          go_wp2_with fail
          go_quiet (exact Calls.quiet_of_same (in16_yes _ ⟨by omega, by omega⟩))
          have hb := Below.step hb (below_drewN (Below.refl _ _) nq)
          have hown := own_below HO.out (below_drewN (Below.refl wr.heap.size wr) nq)
          have y1 := Below.cellOf (below_drewN (Below.refl wr.heap.size wr) nq) z1
          have y2 := Below.cellOf (below_drewN (Below.refl wr.heap.size wr) nq) z2
          have c1 := Below.cellOf (below_drewN (Below.refl wr.heap.size wr) nq) c1
          have hbs := hb.size
          generalize wr.drewN nq = wi at hb hown y1 y2 c1 hbs ⊢
          have hle := Nat.le_of_eq (toldOf_len (ps := ps) (L := L) (k := k + 1) (by omega))
          go_wp2_with (at_builtin; refine wpList_append_own _ rfl _ _ 23 rfl W2.heap.size 34 i34 (.agg #[.int .i64 0, .int .i64 0]) 2 16 Try.underlying23 li lz0 lz1 lz2 rfl (by decide) _ _ _ rfl (hown.alloc _) ⟨wi.heap.size, 0, none⟩ 1 1 [.int .i64 (gP ps (gN L (k + 1))).1, .int .i64 (gP ps (gN L (k + 1))).2] rfl rfl ?c1 ?c2 ?c3 ?c4 ?c5 ?_)
          case c1 => exact cell_two_new _ _ _ _
          case c2 => intro u hu; simp at hu; rcases hu with rfl | rfl <;> rfl
          case c3 => unfold maxLen; omega
          case c4 => omega
          case c5 => simp; omega
          intro v' w3 hown' hgrow _
          have hb1 : Below W2.heap.size W2 w3 := (hb.alloc hb.size _).grown hgrow (by simp; have := hb.size; omega) (fun q hq => by have := (hown.lt q hq).1; omega)
          have HO := Lib.hid (own_pushP hown')
          have HI := Lib.hid (toldOf_succ (ps := ps) hlt)
          clear hown hgrow hown'
          go_wp2_with fail
          go_roundw
          case rel => exact ⟨k + 1 + 1, by omega, by go_num, hb1, by rw [HI.out]; exact HO.out⟩
          case measure => simp [intOf] <;> omega
      · obtain rfl : k = L.length := by omega
        have hpm := PairsAt.ofOwn hown
        have HO := Lib.hid hown
        clear hown
        have hwr2 := whyR_yes HC1.out hal hbl HTD.out.rel
        generalize toldOf ps L L.length = S at HO hpm HC1 HCI HTD hwr2
        have hW := why15_any ts S na nb (.slice to ts.length (ts.length + tcap)) u12 wr (by omega) (HT1.out.below (Below.step HBA.out hb)) hpm
        rw [hwr2] at hW
        have HW := Lib.hid hW
        obtain ⟨so, sc, rfl, hsc⟩ := hpm
        clear hsc hwr2 hW
        have hS120 : S.length ≤ 120 := by have := HTD.out.slen; omega
        go_wp2_with fail
        refine HW.out.mono ?_
        rintro e w4 ⟨m, rfl, hm, hb4⟩
        obtain ⟨mo, mc, rfl, _⟩ := hm.1
        clear hm HW
        have hml := HTD.out.all
        simp only [FV_mk, hml]
        clear hml
        have hb24 := Below.step hb hb4
        have hs24 := hb24.size
        have hsz := HSZ.out
        have hf4 := Below.heapAt hb24 XF.out
        have ho4 := own_below HO.out hb4
        obtain ⟨⟨x0, x1⟩, x2, x3⟩ := box2 hf4
        have hlt4 := heap_lt hf4
        have hf5 := box2_set hf4 (.int .i64 0) (.int .i64 0)
        have ho5 := ownsRow_setCell_below (ownsRow_setCell_below ho4 (a := ⟨bx, 0, none⟩) (by simp; omega) (.int .i64 0)) (a := ⟨bx, 1, none⟩) (by simp; omega) (.int .i64 0)
        have hbx1 : w1.heap.size ≤ bx := by have := HBX.out; omega
        have hbw5 := ((Below.step HBA.out hb24).setCell (p := ⟨bx, 0, none⟩) hbx1 (.int .i64 0)).setCell (p := ⟨bx, 1, none⟩) hbx1 (.int .i64 0)
        have XP5 := Lib.hid (PairsAt.ofOwn ho5)
        have XB5 := Lib.hid hbw5
        clear ho4 hb24 hb4 hb ho5 hbw5
        go_wp2_with fail
        clear x0 x1 x2 x3 hf5 hf4 hlt4
        generalize (w4.setCell ⟨bx, 0, none⟩ (.int .i64 0)).setCell ⟨bx, 1, none⟩ (.int .i64 0) = W5 at XP5 XB5 ⊢
        go_loopw [15, 16, 17, 18, 19] (fun i _ _ _ _ wr => ∃ k : Nat, k ≤ S.length ∧ i = .int .i64 k ∧ Below W5.heap.size W5 wr) (fun i _ _ _ _ _ => S.length - (intOf i).toNat)
        case atStart => exact ⟨0, by omega, rfl, Below.refl _ _⟩
        case round =>
          obtain ⟨k, hk, rfl, hb⟩ := hrel
          by_cases hlt : k < S.length
          · go_wp2_with fail
            obtain ⟨wo, rfl⟩ : ∃ wo : World, wo = wr := ⟨_, rfl⟩
            go_loopw [16, 17] (fun o j wr => ∃ q : Nat, q ≤ S.length ∧ j = .int .i64 q ∧ Below W5.heap.size W5 wr ∧
              wr.ownsRow W5.heap.size 34 2 o (pairsOf S (setP (fun _ => true) k false) q).length (flatP (pairsOf S (setP (fun _ => true) k false) q))) (fun _ j _ => S.length - (intOf j).toNat)
            case atStart => exact ⟨0, by omega, rfl, hb, by simpa [pairsOf, flatP] using World.ownsRow_nil _ _ _ _⟩
            case round =>
              obtain ⟨q, hq, rfl, hb, hown⟩ := hrel
              have hbs := hb.size
              by_cases hql : q < S.length
              · by_cases hqk : q = k
                · have hne : ((q : Int) != (k : Int)) = false := by simp [hqk]
                  have HO := Lib.hid hown
                  have HI := Lib.hid (pairsOf_no (ps := S) (p := setP (fun _ => true) k false) (k := q) (by simp [setP, hqk]))
                  clear hown hqk
                  go_wp2_with fail
                  go_roundw
                  case rel => exact ⟨q + 1, by omega, by go_num, hb, by rw [HI.out]; exact HO.out⟩
                  case measure => simp [intOf] <;> omega
                · have hne : ((q : Int) != (k : Int)) = true := by simp; omega
                  obtain ⟨pb, pf, e0, hpc⟩ := (XP5.out.below hb).open (by omega)
                  subst e0
                  obtain ⟨z1, z2⟩ := hpc q hql
                  have hle := pairsOf_le S (setP (fun _ => true) k false) q
                  clear hpc
                  go_wp2_with (at_builtin; refine wpList_append_own _ rfl _ _ 23 rfl W5.heap.size 34 i34 (.agg #[.int .i64 0, .int .i64 0]) 2 16 Try.underlying23 li lz0 lz1 lz2 rfl (by decide) _ _ _ rfl (hown.alloc _) ⟨wr.heap.size, 0, none⟩ 1 1 [.int .i64 (gP S q).1, .int .i64 (gP S q).2] rfl rfl ?c1 ?c2 ?c3 ?c4 ?c5 ?_)
                  try (case c1 => exact cell_two_new _ _ _ _)
                  case c2 => first | exact ⟨rfl, rfl⟩ | (intro u hu; simp at hu; rcases hu with rfl | rfl <;> rfl)
                  case c3 => unfold maxLen; omega
                  case c4 => omega
                  case c5 => first | omega | (simp; omega)
                  intro v' w3 hown' hgrow _
                  have hb1 : Below W5.heap.size W5 w3 := (hb.alloc hb.size _).grown hgrow (by simp; have := hb.size; omega) (fun q hq => by have := (hown.lt q hq).1; omega)
                  have HO := Lib.hid (own_pushP hown')
                  have HI := Lib.hid (pairsOf_yes (ps := S) (p := setP (fun _ => true) k false) (k := q) (by simp [setP, hqk]))
                  clear hown hgrow hown'
                  go_wp2_with fail
                  go_roundw
                  case rel => exact ⟨q + 1, by omega, by go_num, hb1, by rw [HI.out]; exact HO.out⟩
                  case measure => simp [intOf] <;> omega
              · obtain rfl : q = S.length := by omega
                have hpm := PairsAt.ofOwn hown
                have hwr3 := whyR_no (HCI.out k) hal hbl (HTD.out.none k hlt)
                have hW := why15_any ts (pairsOf S (setP (fun _ => true) k false) S.length) na nb (.slice to ts.length (ts.length + tcap)) u16 wr (by omega) (HT1.out.below (Below.step XB5.out hb)) hpm
                rw [hwr3] at hW
                have HW := Lib.hid hW
                clear hown hpm hwr3 hW
                go_wp2_with fail
                refine HW.out.mono ?_
                rintro e w6 ⟨m6, rfl, hm, hb6⟩
                clear hm HW
                have hb56 := Below.step hb hb6
                simp only [FV_mk]
                have hg7 := heap_ofAlloc w6 (.cells #[.int .i64 6, .int .i64 0] 28)
                have hb57 := hb56.alloc (by have := hb56.size; omega) (.cells #[.int .i64 6, .int .i64 0] 28)
                go_wp2_with fail
                generalize w6.alloc (.cells #[.int .i64 6, .int .i64 0] 28) = W7 at hg7 hb57 ⊢
                obtain ⟨⟨x0, x1⟩, x2, x3⟩ := box2 hg7
                have r0 := cell_regrown x0
                have r2 := cell_regrown x2
                have CA := Lib.hid (fun d os => Calls.regrown_of (fault17 6 0 (Go.Sort.grow (redrawn W7 d) os)))
                refine wp_region_quiet_below (by kernel_rfl) (by kernel_rfl) ?_
                repeat (go_big_quiet_step (exact CA.out _ _))
                refine wpQuiet_nil ?_
                intro _ hw'
                obtain ⟨⟨dq, osq⟩, hw''⟩ := hw'
                subst hw''
                have hbq := Below.step hb57 (below_regrown W7 dq osq)
                clear r0 r2 x0 x1 x2 x3
                generalize Go.Sort.grow (redrawn W7 dq) osq = wq at hbq ⊢
                go_wp2_with fail
                go_roundw
                case rel => exact ⟨k + 1, by omega, by go_num, hbq⟩
                case measure => simp [intOf] <;> omega
          · obtain rfl : k = S.length := by omega
            go_wp2_with fail
            go_ret
            exact ⟨rfl, HFIN.out _ (Below.step XB5.out hb)⟩
  · have hne : ((whyR ts ps a b).2.1 != 0) = true := by simpa using hck
    have hnil := whyR_bad hck
    rw [hnil] at HWY
    clear hck hnil
    go_enter Try.func5, Try.ntmps5
    go_wp2_with fail
    refine (closeFact_any _).mono ?_
    rintro e w0 ⟨rfl, hb0⟩
    go_wp2_with fail
    refine (HWY.out _ (HTA.out.below hb0) (HPA.out.below hb0)).mono ?_
    rintro e w1 ⟨u, rfl, hl, hb1⟩
    obtain ⟨lo, lc, rfl, hlc⟩ := hl.1
    clear hlc hl
    have hb1 := Below.step hb0 hb1
    simp only [FV]
    go_wp2_with fail
    go_ret
    exact ⟨rfl, hb1.alloc (by have := hb1.size; omega) _⟩
end Go.Proofs.Ytcckgfgobakphab
