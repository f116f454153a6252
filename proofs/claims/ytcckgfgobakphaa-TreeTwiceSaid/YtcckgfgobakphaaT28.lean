/-
  Walk: the law TreeTwice.
-/
import Derived.Test.YtcckgfgobakphaaProg
import Derived.Test.YtcckgfgobakphaaBase
import Derived.Test.YtcckgfgobakphaaT27
import Derived.Test.YtcckgfgobakphaaP2
import Derived.Test.YtcckgfgobakphaaT29
namespace Go.Proofs.Ytcckgfgobakphaa
open Go.RowKit Go.Shelf
set_option linter.unusedVariables false
set_option maxHeartbeats 400000

theorem RowP.mono {p q : Nat → Prop} {w : World} {ao : Option Addr} {ks : List T} (h : RowP p w ao ks) (hpq : ∀ b, p b → b < w.heap.size → q b) : RowP q w ao ks := fun i hi => by
  obtain ⟨b, off, k, sp, e, hp, h1, h2, h3⟩ := h i hi
  exact ⟨b, off, k, sp, e, hpq b hp (block_lt_of_cell h1), h1, h2, h3.mono hpq⟩

set_option maxRecDepth 100000 in
set_option maxHeartbeats 8000000 in
theorem treeTwice4 (t : T) (bs cs : List T) (v : Value) (bo : Option Addr) (bc : Nat) (co : Option Addr) (cc : Nat) (w : World) (ht : TreeAt w v t) (hb : RowAt w bo bs) (hc : RowAt w co cs) :
    Calls Try.prog 4 #[v, .slice bo bs.length bc, .slice co cs.length cc] w fun e w' => e = .returned (.bool true) ∧ Below w.heap.size w w' := by
  obtain ⟨k, sp, rfl⟩ := ht.form
  have HT := Lib.hid ht; have HB := Lib.hid hb; have HC := Lib.hid hc; clear ht hb hc
  have h3 := heap_ofAlloc w (.cells #[.int .i64 t.head, .slice k t.kids.length (t.kids.length + sp)] 24)
  have hb0 : Below w.heap.size w (w.alloc (.cells #[.int .i64 t.head, .slice k t.kids.length (t.kids.length + sp)] 24)) := (Below.refl w.heap.size w).alloc (Nat.le_refl _) _
  go_enter Try.func4, Try.ntmps4
  go_wp2_with fail
  refine (treeFact23 _).mono ?_
  rintro e w1 ⟨rfl, hb1⟩
  have h31 := Below.heapAt hb1 h3
  have hbw := Below.step hb0 hb1
  obtain ⟨⟨x0, _⟩, x1, _⟩ := box2 h31
  clear hb0 h3 hb1
  go_wp2_with fail
  refine (do21P (fun b => b < w.heap.size) t bs _ bo bc w1 (fun b h => Nat.lt_of_lt_of_le h hbw.size) (HT.out.foot.kept hbw) (HB.out.foot.kept hbw)).mono ?_
  rintro e w2 ⟨u, rfl, hu, hb2⟩
  obtain ⟨uk, usp, rfl⟩ := hu.at.form
  have h32 := Below.heapAt hb2 h31
  have hbw2 := Below.step hbw hb2
  obtain ⟨⟨fc, fa⟩, hF⟩ : ∃ f, (doF t bs).2 = f := ⟨_, rfl⟩
  rw [hF]
  have HF := Lib.hid hF
  have HU := Lib.hid hu
  clear hbw h31 hb2 hF hu x0 x1
  obtain ⟨S, hS⟩ : ∃ S, S = (doF t bs).1 := ⟨_, rfl⟩
  rw [← hS] at HU ⊢
  have HS := Lib.hid hS
  clear hS
  simp only [FV]
  have hs8 : w2.heap.size < ((w2.alloc (.cells #[.int .i64 S.head, .slice uk S.kids.length (S.kids.length + usp)] 24)).alloc (.cells #[.int .i64 fc, .int .i64 fa] 28)).heap.size := by simp; omega
  have hbz := below_two w2 (.cells #[.int .i64 S.head, .slice uk S.kids.length (S.kids.length + usp)] 24) (.cells #[.int .i64 fc, .int .i64 fa] 28)
  have h83 := heap_alloc_old (o' := .cells #[.int .i64 fc, .int .i64 fa] 28) (heap_ofAlloc w2 (.cells #[.int .i64 S.head, .slice uk S.kids.length (S.kids.length + usp)] 24))
  have h93 := heap_ofAlloc2 w2 (.cells #[.int .i64 S.head, .slice uk S.kids.length (S.kids.length + usp)] 24) (.cells #[.int .i64 fc, .int .i64 fa] 28)
  have h33 := Below.heapAt hbz h32
  have hbw3 := Below.step hbw2 hbz
  cases hfc : (fc != 0) with
  | true =>
    have HZ := Lib.hid (show S = zeroT by rw [HS.out]; exact doF_err (by rw [HF.out]; simpa using hfc))
    go_wp2_with fail
    generalize (w2.alloc (.cells #[.int .i64 S.head, .slice uk S.kids.length (S.kids.length + usp)] 24)).alloc (.cells #[.int .i64 fc, .int .i64 fa] 28) = w3 at hs8 hbz h83 h93 h33 hbw3 ⊢
    refine (none24 S _ w3 (HU.out.at.kept hbz)).mono ?_
    rintro e w4 ⟨rfl, hb4⟩
    have hbw4 := Below.step hbw3 hb4
    go_wp2_with fail
    go_ret
    exact ⟨ret_bool (by rw [HZ.out]; simp [zeroT, T.head, T.kids]), hbw4⟩
  | false =>
    have HD1 := Lib.hid (doF_ok (t := t) (bs := bs) (by rw [HF.out]; simpa using hfc))
    go_wp2_with fail
    generalize (w2.alloc (.cells #[.int .i64 S.head, .slice uk S.kids.length (S.kids.length + usp)] 24)).alloc (.cells #[.int .i64 fc, .int .i64 fa] 28) = w3 at hs8 hbz h83 h93 h33 hbw3 ⊢
    obtain ⟨b8, hb8⟩ : ∃ b, b = w2.heap.size := ⟨_, rfl⟩
    obtain ⟨b9, hb9⟩ : ∃ b, b = w2.heap.size + 1 := ⟨_, rfl⟩
    rw [← hb9] at h93 ⊢
    rw [← hb8] at h83 ⊢
    have g9 : w.heap.size ≤ b9 := by have := hbw2.size; omega
    have g9' : ¬ b9 < w2.heap.size := by omega
    have g93 : b9 < w3.heap.size := heap_lt h93
    have g2w : w.heap.size ≤ w2.heap.size := hbw2.size
    have g23 : w2.heap.size ≤ w3.heap.size := by omega
    have g89 : b8 ≠ b9 := by omega
    have g29 : w.heap.size ≠ b9 := by have := heap_lt h32; omega
    have HU2 := Lib.hid (HU.out.mono (q := fun b => b < w2.heap.size) (fun b _ h => h))
    clear hb8 hb9 h32 hs8 HU
    refine (do21P (fun b => b < w2.heap.size) S cs _ co cc w3 (fun b h => Nat.lt_of_lt_of_le h g23) (HU2.out.kept hbz) ((HC.out.foot.kept hbw3).mono (fun b h _ => Nat.lt_of_lt_of_le h g2w))).mono ?_
    rintro e w4 ⟨u2, rfl, hu2, hb4⟩
    obtain ⟨uk2, usp2, rfl⟩ := hu2.at.form
    have h34 := Below.heapAt hb4 h33; have h84 := Below.heapAt hb4 h83; have h94 := Below.heapAt hb4 h93
    have hbw4 := Below.step hbw3 hb4
    obtain ⟨⟨gc, ga⟩, hG⟩ : ∃ f, (doF S cs).2 = f := ⟨_, rfl⟩
    rw [hG]
    have HG := Lib.hid hG
    obtain ⟨U, hU⟩ : ∃ U, U = (doF S cs).1 := ⟨_, rfl⟩
    rw [← hU] at hu2 ⊢
    have HUE := Lib.hid hU
    have e9 : ¬ (b9 < w2.heap.size ∨ w3.heap.size ≤ b9) := by omega
    have hu3 := (hu2.setCell (a := ⟨b9, 0, none⟩) e9 (.int .i64 gc)).setCell (a := ⟨b9, 1, none⟩) e9 (.int .i64 ga)
    have h35 := heap_set_other (a := ⟨b9, 1, none⟩) (u := .int .i64 ga) (heap_set_other (a := ⟨b9, 0, none⟩) (u := .int .i64 gc) h34 g29) g29
    have h95 := box2_set h94 (.int .i64 gc) (.int .i64 ga)
    have hbw5 := (hbw4.setCell (p := ⟨b9, 0, none⟩) g9 (.int .i64 gc)).setCell (p := ⟨b9, 1, none⟩) g9 (.int .i64 ga)
    obtain ⟨⟨y0, y1⟩, y2, y3⟩ := box2 h94
    have hl94 := heap_lt h94
    simp only [FV]
    have HU3 := Lib.hid hu3
    have hs45 : ((w4.setCell ⟨b9, 0, none⟩ (.int .i64 gc)).setCell ⟨b9, 1, none⟩ (.int .i64 ga)).heap.size = w4.heap.size := by simp
    clear hG hU hu2 hu3 hb4 h33 h83 h93 hbz hbw3 h34 h84 HU2 hbw2 hbw4
    cases hgc : (gc != 0) with
    | true =>
      have HZ := Lib.hid (show U = zeroT by rw [HUE.out]; exact doF_err (by rw [HG.out]; simpa using hgc))
      go_wp2_with fail
      have hba := (Below.refl ((w4.setCell ⟨b9, 0, none⟩ (.int .i64 gc)).setCell ⟨b9, 1, none⟩ (.int .i64 ga)).heap.size ((w4.setCell ⟨b9, 0, none⟩ (.int .i64 gc)).setCell ⟨b9, 1, none⟩ (.int .i64 ga))).alloc (Nat.le_refl _) (.cells #[.int .i64 U.head, .slice uk2 U.kids.length (U.kids.length + usp2)] 24)
      refine (none24 U _ _ (HU3.out.at.kept hba)).mono ?_
      rintro e w6 ⟨rfl, hb6⟩
      have hbw6 := Below.step (Below.step hbw5 hba) hb6
      go_wp2_with fail
      go_ret
      exact ⟨ret_bool (by rw [HZ.out]; simp [zeroT, T.head, T.kids]), hbw6⟩
    | false =>
      have HD2 := Lib.hid (doF_ok (t := S) (bs := cs) (by rw [HG.out]; simpa using hgc))
      --LOOP
      obtain ⟨i24, gi, gz0, gz1, gz2⟩ := info_parts info24
      have gw4 : w.heap.size ≤ w4.heap.size := by have := hbw5.size; rw [hs45] at this; exact this
      go_wp2_with (at_make; refine wpList_make_full _ rfl (.const (.int .i64 8)) (.const (.int .i64 8)) 25 rfl w.heap.size 24 i24 (.agg #[.int .i64 0, .slice none 0 0]) 2 Try.underlying25 gi gz0 gz1 .i64 .i64 _ _ 8 rfl rfl rfl rfl ?m1 ?m2 ?m3 ?_)
      case m2 => unfold maxLen; omega
      case m3 => omega
      intro w6 hown hgrow
      generalize (w4.setCell ⟨b9, 0, none⟩ (.int .i64 gc)).setCell ⟨b9, 1, none⟩ (.int .i64 ga) = w5 at HU3 h35 h95 hbw5 hs45 hgrow ⊢
      have h36 := heap_alloc_old (o' := (.cells #[.int .i64 U.head, .slice uk2 U.kids.length (U.kids.length + usp2)] 24)) h35
      have h96 := heap_alloc_old (o' := (.cells #[.int .i64 U.head, .slice uk2 U.kids.length (U.kids.length + usp2)] 24)) h95
      have h106 := heap_ofAlloc w5 (.cells #[.int .i64 U.head, .slice uk2 U.kids.length (U.kids.length + usp2)] 24)
      have hb56 := (Below.refl w5.heap.size w5).alloc (Nat.le_refl _) (.cells #[.int .i64 U.head, .slice uk2 U.kids.length (U.kids.length + usp2)] 24)
      have hs56 : (w5.alloc (.cells #[.int .i64 U.head, .slice uk2 U.kids.length (U.kids.length + usp2)] 24)).heap.size = w4.heap.size + 1 := by simp; omega
      rw [hs45] at h106
      generalize w5.alloc (.cells #[.int .i64 U.head, .slice uk2 U.kids.length (U.kids.length + usp2)] 24) = w55 at h36 h96 h106 hb56 hs56 hgrow ⊢
      have hb6 : Below w55.heap.size w55 w6 := (Below.refl _ _).grown hgrow (Nat.le_refl _) (fun q hq => by cases hq)
      have h37 := Below.heapAt hb6 h36; have h97 := Below.heapAt hb6 h96; have h107 := Below.heapAt hb6 h106
      have hb57 := Below.step hb56 hb6
      have hrow := RowSet.made (w := w) (n := 8) hown (fun b => b < w.heap.size ∨ w6.heap.size ≤ b)
      have hg2 := hrow.lt.2
      obtain ⟨g, hg⟩ : ∃ g, g = w4.heap.size + 1 := ⟨_, rfl⟩
      obtain ⟨b10, hb10⟩ : ∃ b, b = w4.heap.size := ⟨_, rfl⟩
      rw [← hg] at hrow hg2 ⊢
      rw [← hb10] at h107 ⊢
      have HROW := Lib.hid hrow
      have hbw7 := Below.step hbw5 hb57
      clear h36 h96 h106 hb56 hs56 hown hgrow hb6 hrow h35 h95 hbw5
      have g1 : w.heap.size ≤ g := by omega
      have g2 : w.heap.size < w6.heap.size := by omega
      have g3 : b10 ≠ g := by omega
      have g4 : b9 ≠ g := by omega
      have g5 : w.heap.size ≠ g := by omega
      have g6 : b10 < w6.heap.size := by omega
      have g7 : b9 < w6.heap.size := by omega
      have g8 : w5.heap.size ≤ g := by omega
      have g9a : b9 < b10 := by omega
      have hg6 : g < w6.heap.size := hg2
      have HX7 := Lib.hid h37; have H97 := Lib.hid h97; have H107 := Lib.hid h107; have HB57 := Lib.hid hb57; have HBW7 := Lib.hid hbw7
      clear h37 h97 h107 hb57 hbw7 hg hb10 hs45
      go_wp2_with fail
      go_loopw [12, 13, 14, 15] (fun i _ _ _ wr => ∃ kk : Nat, kk ≤ 8 ∧ i = .int .i64 kk ∧ (∃ ks, RowSet (fun b => b < w.heap.size ∨ w6.heap.size ≤ b) w.heap.size wr g 8 ks ∧ ∀ j, j < kk → ks j = (standF bs j).sub cs ∧ (treeF (ks j)).1 = 0) ∧ (∀ b, b < w6.heap.size → b ≠ g → wr.heap[b]? = w6.heap[b]?) ∧ Below w5.heap.size w5 wr ∧ Below w.heap.size w wr ∧ w6.heap.size ≤ wr.heap.size) (fun i _ _ _ _ => 8 - (intOf i).toNat)
      case atStart => exact ⟨0, by omega, rfl, ⟨_, HROW.out, fun j hj => by omega⟩, fun _ _ _ => rfl, HB57.out, HBW7.out, Nat.le_refl _⟩
      case round =>
        obtain ⟨kk, hk, rfl, ⟨ks, hrow, hks⟩, hfr, hb5, hbw, hsz⟩ := hrel
        have HR := Lib.hid hrow; have HKS := Lib.hid hks; have HFR := Lib.hid hfr; have HB5 := Lib.hid hb5; have HBW := Lib.hid hbw
        clear hrow hks hfr hb5 hbw
        by_cases hlt : kk < 8
        · have hlt8 : (kk : Int) < 8 := by omega
          go_wp2_with fail
          refine (leaf25 _ _).mono ?_
          rintro e w7 ⟨rfl, hb7⟩
          have HB7 := Lib.hid hb7
          have hsz7 : w6.heap.size ≤ w7.heap.size := Nat.le_trans hsz hb7.size
          clear hb7
          have hbx := (Below.refl w7.heap.size w7).alloc (Nat.le_refl _) (.cells #[.int .i64 (-(kk : Int) - 1), .slice none 0 0] 24)
          cases hbd : boundB bs kk with
          | true =>
            have HST := Lib.hid (show standF bs kk = gK bs kk by unfold standF; rw [if_pos hbd])
            have HBD := Lib.hid hbd
            simp only [boundB, Bool.and_eq_true, decide_eq_true_eq, bne_iff_ne, ne_eq] at hbd
            obtain ⟨hml2, hhd⟩ := hbd
            obtain ⟨bb, boff, bk, bsp, rfl, _, c1, c2, c3⟩ := (HB.out.foot.kept HBW.out) kk hml2
            have hne : ((gK bs kk).head != 0) = true := by simpa using hhd
            have d1 := Below.cellOf hbx (Below.cellOf HB7.out c1)
            have d2 := Below.cellOf hbx (Below.cellOf HB7.out c2)
            have HC3 := Lib.hid c3
            clear c1 c2 c3 hhd hbx
            have hmlt : (kk : Int) < (bs.length : Int) := by omega
            go_wp2_with fail
            have hbz := (Below.refl w7.heap.size w7).alloc (Nat.le_refl _) (.cells #[.int .i64 (gK bs kk).head, .slice bk (gK bs kk).kids.length ((gK bs kk).kids.length + bsp)] 24)
            have hs8 : w7.heap.size < (w7.alloc (.cells #[.int .i64 (gK bs kk).head, .slice bk (gK bs kk).kids.length ((gK bs kk).kids.length + bsp)] 24)).heap.size := by simp
            generalize w7.alloc (.cells #[.int .i64 (gK bs kk).head, .slice bk (gK bs kk).kids.length ((gK bs kk).kids.length + bsp)] 24) = w8 at hbz hs8 ⊢
            have hb78 := Below.step HB7.out hbz
            have hbw8 := Below.step HBW.out hb78
            refine (do21P (fun b => b < w.heap.size) (standF bs kk) cs _ co cc w8 (fun b h => by omega) (by rw [HST.out]; exact HC3.out.kept hb78) (HC.out.foot.kept hbw8)).mono ?_
            rintro e w9 ⟨y, rfl, hy, hb9⟩
            obtain ⟨yk, ysp, rfl⟩ := hy.at.form
            have hb79 := Below.step hb78 hb9
            have hbw9 := Below.step hbw8 hb9
            have hsz9 := hb79.size
            have hg9 : g < w9.heap.size := by omega
            obtain ⟨⟨rc, ra⟩, hR⟩ : ∃ f, (doF (standF bs kk) cs).2 = f := ⟨_, rfl⟩
            rw [hR]
            have HR2 := Lib.hid hR
            obtain ⟨Y, hY⟩ : ∃ Y, Y = (doF (standF bs kk) cs).1 := ⟨_, rfl⟩
            rw [← hY] at hy ⊢
            have HY := Lib.hid hY
            have HYP := Lib.hid (hy.mono (q := fun b => (b < w.heap.size ∨ w6.heap.size ≤ b) ∧ b ≠ g) (fun b h _ => by omega))
            have HBW9 := Lib.hid hbw9; have HB79 := Lib.hid hb79
            clear hY hR hy hb9 hb78 hbz hbw8 hbw9 hb79
            simp only [FV]
            cases hrc : (rc != 0) with
            | true =>
              go_wp2_with fail
              refine bodyPost_ret (v := .bool true) (by simp [results, Try.results4, go_sem]) rfl ⟨rfl, (HBW9.out.alloc HBW9.out.size _).alloc (by simp; have := HBW9.out.size; omega) _⟩
            | false =>
              have HD3 := Lib.hid (doF_ok (t := standF bs kk) (bs := cs) (by rw [HR2.out]; simpa using hrc))
              have hrow9 := HR.out.below HB79.out
              obtain ⟨k9, sp9, r1, r2, r3, r4, _⟩ := hrow9.get hlt
              have HR9 := Lib.hid hrow9
              clear hrow9
              go_wp2_with fail
              have HB5' := Lib.hid (Below.step HB5.out HB79.out)
              have HST2 := Lib.hid (HR9.out.set hlt HYP.out)
              go_roundw
              case rel =>
                refine ⟨kk + 1, by omega, by go_num, ⟨setT ks kk Y, HST2.out.below (below_two _ _ _), fun j hj => ?_⟩, fun b h1 h2 => ?_, ?_, ?_, ?_⟩
                · by_cases e : j = kk
                  · subst e
                    have e1 : Y = (standF bs j).sub cs := by rw [HY.out, HD3.out.1]
                    simp only [setT, if_pos]
                    exact ⟨e1, by rw [e1]; exact HD3.out.2.2.2⟩
                  · simp only [setT, if_neg e]; exact HKS.out j (by omega)
                · rw [(below_two _ _ _).block b (by simp only [World.size_setCell]; omega), Below.heap_setCell _ _ _ _ h2, Below.heap_setCell _ _ _ _ h2, HB79.out.block b (by omega)]
                  exact HFR.out b h1 h2
                · exact Below.step ((HB5'.out.setCell (p := ⟨g, kk * 2, none⟩) g8 _).setCell (p := ⟨g, kk * 2 + 1, none⟩) g8 _) (below_two _ _ _)
                · exact Below.step ((HBW9.out.setCell (p := ⟨g, kk * 2, none⟩) g1 _).setCell (p := ⟨g, kk * 2 + 1, none⟩) g1 _) (below_two _ _ _)
                · simp; omega
              case measure => simp [intOf] <;> omega
          | false =>
            have HST := Lib.hid (show standF bs kk = .node (-(kk : Int) - 1) [] by unfold standF; rw [if_neg (by simp [hbd])])
            have HBD := Lib.hid hbd
            by_cases hml2 : kk < bs.length
            · obtain ⟨bb, boff, bk, bsp, rfl, _, c1, c2, c3⟩ := (HB.out.foot.kept HBW.out) kk hml2
              have hne : ((gK bs kk).head != 0) = false := by simp only [boundB, decide_eq_true hml2, Bool.true_and] at hbd; exact hbd
              have d1 := Below.cellOf hbx (Below.cellOf HB7.out c1)
              clear c1 c2 c3 hbx hbd
              have hmlt : (kk : Int) < (bs.length : Int) := by omega
              go_wp2_with fail
              have hbz := (Below.refl w7.heap.size w7).alloc (Nat.le_refl _) (.cells #[.int .i64 (-(kk : Int) - 1), .slice none 0 0] 24)
              have hs8 : w7.heap.size < (w7.alloc (.cells #[.int .i64 (-(kk : Int) - 1), .slice none 0 0] 24)).heap.size := by simp
              generalize w7.alloc (.cells #[.int .i64 (-(kk : Int) - 1), .slice none 0 0] 24) = w8 at hbz hs8 ⊢
              have hb78 := Below.step HB7.out hbz
              have hbw8 := Below.step HBW.out hb78
              refine (do21P (fun b => b < w.heap.size) (standF bs kk) cs _ co cc w8 (fun b h => by omega) (by rw [HST.out]; exact TreeP.leaf _ _ _) (HC.out.foot.kept hbw8)).mono ?_
              rintro e w9 ⟨y, rfl, hy, hb9⟩
              obtain ⟨yk, ysp, rfl⟩ := hy.at.form
              have hb79 := Below.step hb78 hb9
              have hbw9 := Below.step hbw8 hb9
              have hsz9 := hb79.size
              have hg9 : g < w9.heap.size := by omega
              obtain ⟨⟨rc, ra⟩, hR⟩ : ∃ f, (doF (standF bs kk) cs).2 = f := ⟨_, rfl⟩
              rw [hR]
              have HR2 := Lib.hid hR
              obtain ⟨Y, hY⟩ : ∃ Y, Y = (doF (standF bs kk) cs).1 := ⟨_, rfl⟩
              rw [← hY] at hy ⊢
              have HY := Lib.hid hY
              have HYP := Lib.hid (hy.mono (q := fun b => (b < w.heap.size ∨ w6.heap.size ≤ b) ∧ b ≠ g) (fun b h _ => by omega))
              have HBW9 := Lib.hid hbw9; have HB79 := Lib.hid hb79
              clear hY hR hy hb9 hb78 hbz hbw8 hbw9 hb79
              simp only [FV]
              cases hrc : (rc != 0) with
              | true =>
                go_wp2_with fail
                refine bodyPost_ret (v := .bool true) (by simp [results, Try.results4, go_sem]) rfl ⟨rfl, (HBW9.out.alloc HBW9.out.size _).alloc (by simp; have := HBW9.out.size; omega) _⟩
              | false =>
                have HD3 := Lib.hid (doF_ok (t := standF bs kk) (bs := cs) (by rw [HR2.out]; simpa using hrc))
                have hrow9 := HR.out.below HB79.out
                obtain ⟨k9, sp9, r1, r2, r3, r4, _⟩ := hrow9.get hlt
                have HR9 := Lib.hid hrow9
                clear hrow9
                go_wp2_with fail
                have HB5' := Lib.hid (Below.step HB5.out HB79.out)
                have HST2 := Lib.hid (HR9.out.set hlt HYP.out)
                go_roundw
                case rel =>
                  refine ⟨kk + 1, by omega, by go_num, ⟨setT ks kk Y, HST2.out.below (below_two _ _ _), fun j hj => ?_⟩, fun b h1 h2 => ?_, ?_, ?_, ?_⟩
                  · by_cases e : j = kk
                    · subst e
                      have e1 : Y = (standF bs j).sub cs := by rw [HY.out, HD3.out.1]
                      simp only [setT, if_pos]
                      exact ⟨e1, by rw [e1]; exact HD3.out.2.2.2⟩
                    · simp only [setT, if_neg e]; exact HKS.out j (by omega)
                  · rw [(below_two _ _ _).block b (by simp only [World.size_setCell]; omega), Below.heap_setCell _ _ _ _ h2, Below.heap_setCell _ _ _ _ h2, HB79.out.block b (by omega)]
                    exact HFR.out b h1 h2
                  · exact Below.step ((HB5'.out.setCell (p := ⟨g, kk * 2, none⟩) g8 _).setCell (p := ⟨g, kk * 2 + 1, none⟩) g8 _) (below_two _ _ _)
                  · exact Below.step ((HBW9.out.setCell (p := ⟨g, kk * 2, none⟩) g1 _).setCell (p := ⟨g, kk * 2 + 1, none⟩) g1 _) (below_two _ _ _)
                  · simp; omega
                case measure => simp [intOf] <;> omega
            · have hmlt : ¬ (kk : Int) < (bs.length : Int) := by omega
              clear hbx hbd
              go_wp2_with fail
              have hbz := (Below.refl w7.heap.size w7).alloc (Nat.le_refl _) (.cells #[.int .i64 (-(kk : Int) - 1), .slice none 0 0] 24)
              have hs8 : w7.heap.size < (w7.alloc (.cells #[.int .i64 (-(kk : Int) - 1), .slice none 0 0] 24)).heap.size := by simp
              generalize w7.alloc (.cells #[.int .i64 (-(kk : Int) - 1), .slice none 0 0] 24) = w8 at hbz hs8 ⊢
              have hb78 := Below.step HB7.out hbz
              have hbw8 := Below.step HBW.out hb78
              refine (do21P (fun b => b < w.heap.size) (standF bs kk) cs _ co cc w8 (fun b h => by omega) (by rw [HST.out]; exact TreeP.leaf _ _ _) (HC.out.foot.kept hbw8)).mono ?_
              rintro e w9 ⟨y, rfl, hy, hb9⟩
              obtain ⟨yk, ysp, rfl⟩ := hy.at.form
              have hb79 := Below.step hb78 hb9
              have hbw9 := Below.step hbw8 hb9
              have hsz9 := hb79.size
              have hg9 : g < w9.heap.size := by omega
              obtain ⟨⟨rc, ra⟩, hR⟩ : ∃ f, (doF (standF bs kk) cs).2 = f := ⟨_, rfl⟩
              rw [hR]
              have HR2 := Lib.hid hR
              obtain ⟨Y, hY⟩ : ∃ Y, Y = (doF (standF bs kk) cs).1 := ⟨_, rfl⟩
              rw [← hY] at hy ⊢
              have HY := Lib.hid hY
              have HYP := Lib.hid (hy.mono (q := fun b => (b < w.heap.size ∨ w6.heap.size ≤ b) ∧ b ≠ g) (fun b h _ => by omega))
              have HBW9 := Lib.hid hbw9; have HB79 := Lib.hid hb79
              clear hY hR hy hb9 hb78 hbz hbw8 hbw9 hb79
              simp only [FV]
              cases hrc : (rc != 0) with
              | true =>
                go_wp2_with fail
                refine bodyPost_ret (v := .bool true) (by simp [results, Try.results4, go_sem]) rfl ⟨rfl, (HBW9.out.alloc HBW9.out.size _).alloc (by simp; have := HBW9.out.size; omega) _⟩
              | false =>
                have HD3 := Lib.hid (doF_ok (t := standF bs kk) (bs := cs) (by rw [HR2.out]; simpa using hrc))
                have hrow9 := HR.out.below HB79.out
                obtain ⟨k9, sp9, r1, r2, r3, r4, _⟩ := hrow9.get hlt
                have HR9 := Lib.hid hrow9
                clear hrow9
                go_wp2_with fail
                have HB5' := Lib.hid (Below.step HB5.out HB79.out)
                have HST2 := Lib.hid (HR9.out.set hlt HYP.out)
                go_roundw
                case rel =>
                  refine ⟨kk + 1, by omega, by go_num, ⟨setT ks kk Y, HST2.out.below (below_two _ _ _), fun j hj => ?_⟩, fun b h1 h2 => ?_, ?_, ?_, ?_⟩
                  · by_cases e : j = kk
                    · subst e
                      have e1 : Y = (standF bs j).sub cs := by rw [HY.out, HD3.out.1]
                      simp only [setT, if_pos]
                      exact ⟨e1, by rw [e1]; exact HD3.out.2.2.2⟩
                    · simp only [setT, if_neg e]; exact HKS.out j (by omega)
                  · rw [(below_two _ _ _).block b (by simp only [World.size_setCell]; omega), Below.heap_setCell _ _ _ _ h2, Below.heap_setCell _ _ _ _ h2, HB79.out.block b (by omega)]
                    exact HFR.out b h1 h2
                  · exact Below.step ((HB5'.out.setCell (p := ⟨g, kk * 2, none⟩) g8 _).setCell (p := ⟨g, kk * 2 + 1, none⟩) g8 _) (below_two _ _ _)
                  · exact Below.step ((HBW9.out.setCell (p := ⟨g, kk * 2, none⟩) g1 _).setCell (p := ⟨g, kk * 2 + 1, none⟩) g1 _) (below_two _ _ _)
                  · simp; omega
                case measure => simp [intOf] <;> omega
        · have hlt8 : ¬ (kk : Int) < 8 := by omega
          have hk8 : kk = 8 := by omega
          have h38 := (HFR.out _ g2 g5).trans HX7.out
          have h98 := (HFR.out _ g7 g4).trans H97.out
          have h108 := (HFR.out _ g6 g3).trans H107.out
          obtain ⟨⟨z0, _⟩, z1, _⟩ := box2 h38
          have HU8 := Lib.hid (HU3.out.kept HB5.out)
          have HE := Lib.hid (show doF t (listT 8 ks) = (U, (0, 0)) by
            have hS : S = t.sub bs := by rw [HS.out, HD1.out.1]
            have hU : U = (t.sub bs).sub cs := by rw [HUE.out, HD2.out.1, hS]
            have hg : ∀ i, i < 8 → gK (listT 8 ks) i = (standF bs i).sub cs ∧ (treeF (gK (listT 8 ks) i)).1 = 0 := fun i hi => by
              rw [listT_gK hi]; exact HKS.out i (by omega)
            have hsub : t.sub (listT 8 ks) = U := by
              rw [hU]
              exact sub_sub t bs cs _ (treeF_ok.1 HD1.out.2.1).2.2 (listT_length _ _) (fun k hk => ⟨(hg k hk).1, ok_head (hg k hk).2⟩)
            have := doF_of (t := t) (bs := listT 8 ks) HD1.out.2.1 (bindF_of (by rw [listT_length]; omega) (fun i hi => (hg i (by rw [listT_length] at hi; exact hi)).2)) (by rw [hsub, hU, ← hS]; exact HD2.out.2.2.2)
            rw [this, hsub])
          have hdo := do21P (fun b => b < wr.heap.size ∧ b ≠ b9) t (listT 8 ks) _ (some ⟨g, 0, none⟩) 8 wr (fun b h => h.1) ((HT.out.foot.kept HBW.out).mono (fun b h h2 => ⟨h2, by omega⟩)) (HR.out.row.mono (fun b h h2 => ⟨h2, by omega⟩))
          rw [listT_length, HE.out] at hdo
          have HDO := Lib.hid hdo
          clear h38 hdo
          go_wp2_with fail
          refine HDO.out.mono ?_
          rintro e wa ⟨y, rfl, hy, hba⟩
          obtain ⟨yk, ysp, rfl⟩ := hy.at.form
          have h9a := Below.heapAt hba h98; have h10a := Below.heapAt hba h108
          have HUA := Lib.hid (HU8.out.kept hba)
          have n9 : ¬ ((b9 < wr.heap.size ∧ b9 ≠ b9) ∨ wr.heap.size ≤ b9) := by omega
          have HYA := Lib.hid hy
          have hbwa := Below.step HBW.out hba
          obtain ⟨⟨x0, x1⟩, x2, x3⟩ := box2 h9a
          obtain ⟨⟨q0, q1⟩, q2, q3⟩ := box2 h10a
          have hl9 := heap_lt h9a; have hl10 := heap_lt h10a
          clear hy h98 h108 z0 z1
          simp only [FV]
          go_wp2_with fail
          have hbz := (Below.refl ((wa.setCell ⟨b9, 0, none⟩ (.int .i64 0)).setCell ⟨b9, 1, none⟩ (.int .i64 0)).heap.size ((wa.setCell ⟨b9, 0, none⟩ (.int .i64 0)).setCell ⟨b9, 1, none⟩ (.int .i64 0))).alloc (Nat.le_refl _) (.cells #[.int .i64 U.head, .slice yk U.kids.length (U.kids.length + ysp)] 24)
          refine (same22 U U _ _ _ ((((HUA.out.setCell (a := ⟨b9, 0, none⟩) e9 _).setCell (a := ⟨b9, 1, none⟩) e9 _).kept hbz).at) ((((HYA.out.setCell (a := ⟨b9, 0, none⟩) n9 _).setCell (a := ⟨b9, 1, none⟩) n9 _).kept hbz).at)).mono ?_
          rintro e wb ⟨rfl, hbb⟩
          have hbwb := Below.step (Below.step ((hbwa.setCell (p := ⟨b9, 0, none⟩) g9 _).setCell (p := ⟨b9, 1, none⟩) g9 _) hbz) hbb
          go_wp2_with fail
          refine bodyPost_ret (v := .bool true) (by simp [results, Try.results4, go_sem]) rfl ⟨rfl, hbwb⟩
end Go.Proofs.Ytcckgfgobakphaa
