/-
  Walk: the law TreeBinds.
-/
import Derived.Test.YtcckgfgobakphaaProg
import Derived.Test.YtcckgfgobakphaaBase
import Derived.Test.YtcckgfgobakphaaT6
import Derived.Test.YtcckgfgobakphaaT10
import Derived.Test.YtcckgfgobakphaaT20
namespace Go.Proofs.Ytcckgfgobakphaa
open Go.RowKit Go.Shelf
set_option linter.unusedVariables false
set_option maxHeartbeats 400000

theorem bindL_ok0 : ∀ (bs : List T) (k : Int), (bindL bs k).1 = 0 → bindL bs k = (0, 0)
  | [], _, _ => rfl
  | t :: r, k, h => by
    rw [bindL] at h ⊢
    by_cases h0 : t.head = 0
    · rw [if_pos h0] at h ⊢
      by_cases hk : 0 < t.kids.length
      · rw [if_pos hk] at h; simp at h
      · rw [if_neg hk] at h ⊢; exact bindL_ok0 r _ h
    · rw [if_neg h0] at h ⊢
      by_cases hk : (treeF t).1 ≠ 0
      · rw [if_pos hk] at h; exact absurd h hk
      · rw [if_neg hk] at h ⊢; exact bindL_ok0 r _ h
theorem bindF_ok0 {bs : List T} (h : (bindF bs).1 = 0) : bindF bs = (0, 0) := by
  rw [bindF] at h ⊢
  by_cases h8 : 8 < bs.length
  · rw [if_pos h8] at h; simp at h
  · rw [if_neg h8] at h ⊢; exact bindL_ok0 bs 0 h
theorem sub_size_le (bs : List T) (m : Nat) (hm : 1 ≤ m) (hb : ∀ i, i < bs.length → (gK bs i).size ≤ m) (t : T) : (t.sub bs).size ≤ t.size * m := by
  induction t using T.ind with
  | h t ih =>
    by_cases hn : t.head < 0
    · have h1 := t.size_pos
      by_cases hbd : boundB bs (-t.head - 1).toNat = true
      · rw [T.sub_var hn hbd]
        have h2 : (-t.head - 1).toNat < bs.length := by simp [boundB] at hbd; have := hbd.1; omega
        have := hb _ h2
        calc (gK bs (-t.head - 1).toNat).size ≤ 1 * m := by omega
          _ ≤ t.size * m := Nat.mul_le_mul_right _ h1
      · rw [T.sub_free hn (by simpa using hbd)]
        calc t.size = t.size * 1 := by omega
          _ ≤ t.size * m := Nat.mul_le_mul_left _ hm
    · rw [T.sub_pos hn, T.size_eq, T.size_eq t]
      have key : ∀ l : List T, (∀ i, i < l.length → ((gK l i).sub bs).size ≤ (gK l i).size * m) → sizeL (l.map (T.sub bs)) ≤ sizeL l * m := by
        intro l
        induction l with
        | nil => intro _; simp [sizeL]
        | cons x r ihr =>
          intro h
          have h0 := h 0 (by simp)
          simp only [gK, List.getD_cons_zero] at h0
          have h1 := ihr (fun i hi => by have := h (i + 1) (by simpa using hi); simpa only [gK, List.getD_cons_succ] using this)
          simp only [List.map_cons, sizeL, Nat.add_mul]; omega
      have := key t.kids ih
      have e : (T.node t.head (t.kids.map (T.sub bs))).kids = t.kids.map (T.sub bs) := rfl
      rw [e]; simp only [Nat.add_mul]; omega
theorem sub_size_small (t : T) (bs : List T) (ht : t.size ≤ 40) (hb : ∀ i, i < bs.length → (gK bs i).size ≤ 40) : (t.sub bs).size ≤ 1000000 := by
  have h1 := sub_size_le bs 40 (by omega) hb t
  have h2 : t.size * 40 ≤ 40 * 40 := Nat.mul_le_mul_right _ ht
  omega

set_option maxRecDepth 100000 in
set_option maxHeartbeats 4000000 in
theorem treeBinds3 (t : T) (bs : List T) (v : Value) (bo : Option Addr) (bc : Nat) (w : World) (ht : TreeAt w v t) (hb : RowAt w bo bs) (hs : t.size ≤ 1048576) (hbs : sizeL bs ≤ 1048576) :
    Calls Try.prog 3 #[v, .slice bo bs.length bc] w fun e w' => e = .returned (.bool true) ∧ Below w.heap.size w w' := by
  obtain ⟨k, sp, rfl⟩ := ht.form
  have hbl0 : bs.length ≤ 1048576 := by have := length_le_sizeL bs; omega
  have HT := Lib.hid ht; have HB := Lib.hid hb; clear ht hb
  have h2 := heap_ofAlloc w (.cells #[.int .i64 t.head, .slice k t.kids.length (t.kids.length + sp)] 24)
  have hb0 : Below w.heap.size w (w.alloc (.cells #[.int .i64 t.head, .slice k t.kids.length (t.kids.length + sp)] 24)) := (Below.refl w.heap.size w).alloc (Nat.le_refl _) _
  have HV := Lib.hid (fun W h => vast15 t (.agg #[.int .i64 t.head, .slice k t.kids.length (t.kids.length + sp)]) W (by omega) h)
  by_cases hv : (200 : Int) < t.size
  · have hd : decide ((200 : Int) < t.size) = true := by simpa using hv
    rw [hd] at HV
    clear hd hv
    go_enter Try.func3, Try.ntmps3
    go_wp2_with fail
    refine (HV.out _ (HT.out.kept hb0)).mono ?_
    rintro e w1 ⟨rfl, hb1⟩
    have hbw := Below.step hb0 hb1
    go_wp2_with fail
    go_ret
    exact ⟨rfl, hbw⟩
  · have hd : decide ((200 : Int) < t.size) = false := by simpa using hv
    rw [hd] at HV
    have hts : t.size ≤ 200 := by omega
    clear hd hv
    by_cases h20 : (20 : Int) < bs.length
    · go_enter Try.func3, Try.ntmps3
      go_wp2_with fail
      refine (HV.out _ (HT.out.kept hb0)).mono ?_
      rintro e w1 ⟨rfl, hb1⟩
      have hbw := Below.step hb0 hb1
      go_wp2_with fail
      go_ret
      exact ⟨rfl, hbw⟩
    · have h20' : bs.length ≤ 20 := by omega
      have hd20 : decide ((20 : Int) < bs.length) = false := by simpa using h20
      go_enter Try.func3, Try.ntmps3
      go_wp2_with fail
      refine (HV.out _ (HT.out.kept hb0)).mono ?_
      rintro e w1 ⟨rfl, hb1⟩
      have hbw := Below.step hb0 hb1
      have h2w := Below.heapAt hb1 h2
      clear hb0 h2 hb1 HV
      go_wp2_with fail
      have HBW := Lib.hid hbw; have H2W := Lib.hid h2w
      clear hbw h2w
      go_loopw [5] (fun i wr => ∃ q : Nat, q ≤ bs.length ∧ i = .int .i64 q ∧ (∀ j, j < q → (gK bs j).size ≤ 200) ∧ Below w1.heap.size w1 wr) (fun i _ => bs.length - (intOf i).toNat)
      case atStart => exact ⟨0, by omega, rfl, by simp, Below.refl _ _⟩
      case round =>
        obtain ⟨q, hq, rfl, hall, hb⟩ := hrel
        have HALL := Lib.hid hall
        clear hall
        by_cases hlt : q < bs.length
        · obtain ⟨b, off, ko, ksp, rfl, c1, c2, c3⟩ := (HB.out.below (Below.step HBW.out hb)) q hlt
          have HC := Lib.hid c3
          have HSZ := Lib.hid (show (gK bs q).size ≤ 1000000000 by have := kid_size hlt; omega)
          clear c3
          go_wp2_with fail
          refine (vast15 (gK bs q) _ _ HSZ.out HC.out).mono ?_
          rintro e w2 ⟨rfl, hb2⟩
          have hb12 := Below.step hb hb2
          clear hb2
          by_cases hbig : (200 : Int) < (gK bs q).size
          · have hd : decide ((200 : Int) < (gK bs q).size) = true := by simpa using hbig
            rw [hd]
            clear hd hbig
            go_wp2_with fail
            go_ret
            exact ⟨rfl, Below.step HBW.out hb12⟩
          · have HSM := Lib.hid (show (gK bs q).size ≤ 200 by omega)
            have hd : decide ((200 : Int) < (gK bs q).size) = false := by simpa using hbig
            rw [hd]
            clear hd hbig
            go_wp2_with fail
            go_roundw
            case rel => exact ⟨q + 1, by omega, by go_num, fun j hj => (by rcases Nat.lt_succ_iff_lt_or_eq.1 hj with h | rfl; exact HALL.out j h; exact HSM.out), hb12⟩
            case measure => simp [intOf] <;> omega
        · obtain rfl : q = bs.length := by omega
          have h2r := Below.heapAt hb H2W.out
          have hbr := Below.step HBW.out hb
          clear hb hlt
          go_wp2_with fail
          refine (bind16 bs bo bs.length bc wr rfl (fun i hi => by have := HALL.out i hi; omega) (HB.out.below hbr)).mono ?_
          rintro e w2 ⟨rfl, hb2⟩
          have h22 := Below.heapAt hb2 h2r
          have hbw2 := Below.step hbr hb2
          clear hb2 h2r hbr
          obtain ⟨⟨sc, sa⟩, hS⟩ : ∃ r, bindF bs = r := ⟨_, rfl⟩
          rw [hS]
          simp only [FV]
          have HS := Lib.hid hS
          clear hS
          go_wp2_with fail
          have h23 := heap_alloc_old (o' := .cells #[.int .i64 sc, .int .i64 sa] 28) h22
          have h63 := heap_ofAlloc w2 (.cells #[.int .i64 sc, .int .i64 sa] 28)
          have hb3 := hbw2.alloc hbw2.size (.cells #[.int .i64 sc, .int .i64 sa] 28)
          generalize hb6 : w2.heap.size = b6 at h63 ⊢
          clear hb6
          generalize w2.alloc (.cells #[.int .i64 sc, .int .i64 sa] 28) = w3 at h23 h63 hb3 ⊢
          clear h22 hbw2
          have hcA : ∀ d os, Calls Try.prog 17 #[.slice bo bs.length bc] (Go.Sort.grow (redrawn w3 d) os) fun e w'' => e = .returned (.agg #[.int .i64 sc, .int .i64 sa]) ∧ ∃ p : Regrown, w'' = Go.Sort.grow (redrawn w3 p.d) p.os := fun d os =>
            Calls.regrown_of ((bind17 bs bo bs.length bc _ rfl ((HB.out.below hb3).below (below_regrown w3 d os))).mono (fun e w'' h => ⟨by rw [h.1, HS.out]; rfl, h.2⟩))
          have CA := Lib.hid hcA
          obtain ⟨⟨x0, _⟩, x1, _⟩ := box2 h63
          have r0 := cell_regrown x0; have r1 := cell_regrown x1
          clear hcA x0 x1
          refine wp_region_quiet_below (by kernel_rfl) (by kernel_rfl) ?_
          repeat (go_big_quiet_step (exact CA.out _ _))
          refine wpQuiet_nil ?_
          intro _ hw'
          obtain ⟨⟨dq, osq⟩, hw''⟩ := hw'
          subst hw''
          have hbq := below_regrown w3 dq osq
          have h24 := Below.heapAt hbq h23; have h64 := Below.heapAt hbq h63
          have hb4 := Below.step hb3 hbq
          clear r0 r1 h23 h63 hb3 CA
          generalize Go.Sort.grow (redrawn w3 dq) osq = w4 at hbq h24 h64 hb4 ⊢
          clear hbq
          obtain ⟨⟨x0, _⟩, x1, _⟩ := box2 h24
          go_wp2_with fail
          refine (tree18 t _ _ (by omega) (HT.out.kept hb4)).mono ?_
          rintro e w5 ⟨rfl, hb5⟩
          have h25 := Below.heapAt hb5 h24; have h65 := Below.heapAt hb5 h64
          have hb45 := Below.step hb4 hb5
          clear hb5 h24 h64 hb4 x0 x1
          obtain ⟨⟨tc, ta⟩, hR⟩ : ∃ r, treeF t = r := ⟨_, rfl⟩
          rw [hR]
          simp only [FV]
          have HR := Lib.hid hR
          clear hR
          cases htc : (tc == 0) with
          | false =>
            have HD := Lib.hid (show doF t bs = (zeroT, (tc, ta)) by rw [doF, if_pos (by rw [HR.out]; simpa using htc), HR.out])
            obtain ⟨⟨x0, _⟩, x1, _⟩ := box2 h25
            have hl25 := heap_lt h25
            go_wp2_with fail
            have h2 := heap_alloc_old (o' := .cells #[.int .i64 0, .slice none 0 0] 24) (heap_alloc_old (o' := .cells #[.int .i64 tc, .int .i64 ta] 28) h25)
            have h7 := heap_alloc_old (o' := .cells #[.int .i64 0, .slice none 0 0] 24) (heap_ofAlloc w5 (.cells #[.int .i64 tc, .int .i64 ta] 28))
            have h8 := heap_ofAlloc (w5.alloc (.cells #[.int .i64 tc, .int .i64 ta] 28)) (.cells #[.int .i64 0, .slice none 0 0] 24)
            have hbw := (hb45.alloc hb45.size (.cells #[.int .i64 tc, .int .i64 ta] 28)).alloc (by simp; have := hb45.size; omega) (.cells #[.int .i64 0, .slice none 0 0] 24)
            rw [World.size_alloc] at h8
            generalize (w5.alloc (.cells #[.int .i64 tc, .int .i64 ta] 28)).alloc (.cells #[.int .i64 0, .slice none 0 0] 24) = W at h2 h7 h8 hbw ⊢
            have HS8 := Lib.hid (TreeAt.zero W)
            refine (do21 t bs _ bo bc _ (HT.out.kept hbw) (HB.out.below hbw)).mono ?_
            rw [HD.out]
            rintro e wd ⟨u, rfl, hu, hbd⟩
            obtain ⟨uk, usp, rfl⟩ := hu.form
            have hbwd := Below.step hbw hbd
            have h7d := Below.heapAt hbd h7; have h8d := Below.heapAt hbd h8
            have HS8d := Lib.hid (HS8.out.kept hbd); have HUD := Lib.hid hu
            clear hu hbd hbw h7 h8 h2
            obtain ⟨⟨x0, _⟩, x1, _⟩ := box2 h7d
            obtain ⟨⟨y0, _⟩, y1, _⟩ := box2 h8d
            have hl7 := heap_lt h7d; have hl8 := heap_lt h8d
            simp only [FV]
            go_wp2_with fail
            have hbe := (Below.refl wd.heap.size wd).alloc (Nat.le_refl _) (.cells #[.int .i64 zeroT.head, .slice uk zeroT.kids.length (zeroT.kids.length + usp)] 24)
            have hbe2 := hbe.alloc hbe.size (.cells #[.int .i64 tc, .int .i64 ta] 28)
            refine (same22 zeroT zeroT _ _ _ (HUD.out.kept hbe2) (HS8d.out.kept hbe2)).mono ?_
            rintro e we ⟨rfl, hbz⟩
            have hbw' := Below.step (Below.step hbwd hbe2) hbz
            clear hbe hbe2 hbz
            go_wp2_with fail
            go_ret
            exact ⟨ret_bool (by simp), hbw'⟩
          | true =>
            have HTC := Lib.hid (show (treeF t).1 = 0 by rw [HR.out]; simpa using htc)
            obtain ⟨⟨x0, _⟩, x1, _⟩ := box2 h25
            have hl25 := heap_lt h25
            obtain ⟨⟨y0, _⟩, y1, _⟩ := box2 h65
            have hl65 := heap_lt h65
            have hfld := field28_0
            cases hsc : (sc == 0) with
            | false =>
              have HD := Lib.hid (show doF t bs = (zeroT, (sc, sa)) by rw [doF, if_neg (by simp [HTC.out]), if_pos (by rw [HS.out]; simpa using hsc), HS.out])
              go_wp2_with fail
              have h2 := heap_alloc_old (o' := .cells #[.int .i64 0, .slice none 0 0] 24) (heap_alloc_old (o' := .cells #[.int .i64 sc, .int .i64 sa] 28) h25)
              have h7 := heap_alloc_old (o' := .cells #[.int .i64 0, .slice none 0 0] 24) (heap_ofAlloc w5 (.cells #[.int .i64 sc, .int .i64 sa] 28))
              have h8 := heap_ofAlloc (w5.alloc (.cells #[.int .i64 sc, .int .i64 sa] 28)) (.cells #[.int .i64 0, .slice none 0 0] 24)
              have hbw := (hb45.alloc hb45.size (.cells #[.int .i64 sc, .int .i64 sa] 28)).alloc (by simp; have := hb45.size; omega) (.cells #[.int .i64 0, .slice none 0 0] 24)
              rw [World.size_alloc] at h8
              generalize (w5.alloc (.cells #[.int .i64 sc, .int .i64 sa] 28)).alloc (.cells #[.int .i64 0, .slice none 0 0] 24) = W at h2 h7 h8 hbw ⊢
              have HS8 := Lib.hid (TreeAt.zero W)
              clear y0 y1
              refine (do21 t bs _ bo bc _ (HT.out.kept hbw) (HB.out.below hbw)).mono ?_
              rw [HD.out]
              rintro e wd ⟨u, rfl, hu, hbd⟩
              obtain ⟨uk, usp, rfl⟩ := hu.form
              have hbwd := Below.step hbw hbd
              have h7d := Below.heapAt hbd h7; have h8d := Below.heapAt hbd h8
              have HS8d := Lib.hid (HS8.out.kept hbd); have HUD := Lib.hid hu
              clear hu hbd hbw h7 h8 h2
              obtain ⟨⟨x0, _⟩, x1, _⟩ := box2 h7d
              obtain ⟨⟨y0, _⟩, y1, _⟩ := box2 h8d
              have hl7 := heap_lt h7d; have hl8 := heap_lt h8d
              simp only [FV]
              go_wp2_with fail
              have hbe := (Below.refl wd.heap.size wd).alloc (Nat.le_refl _) (.cells #[.int .i64 zeroT.head, .slice uk zeroT.kids.length (zeroT.kids.length + usp)] 24)
              have hbe2 := hbe.alloc hbe.size (.cells #[.int .i64 sc, .int .i64 sa] 28)
              refine (same22 zeroT zeroT _ _ _ (HUD.out.kept hbe2) (HS8d.out.kept hbe2)).mono ?_
              rintro e we ⟨rfl, hbz⟩
              have hbw' := Below.step (Below.step hbwd hbe2) hbz
              clear hbe hbe2 hbz
              go_wp2_with fail
              go_ret
              exact ⟨ret_bool (by simp), hbw'⟩
            | true =>
              have HSC := Lib.hid (show (bindF bs).1 = 0 by rw [HS.out]; simpa using hsc)
              obtain ⟨rfl, rfl⟩ : sc = 0 ∧ sa = 0 := by have h := bindF_ok0 HSC.out; rw [HS.out] at h; simpa using h
              clear hsc
              go_wp2_with fail
              have h2 := heap_alloc_old (o' := .cells #[.int .i64 0, .slice none 0 0] 24) (heap_alloc_old (o' := .cells #[.int .i64 0, .int .i64 0] 28) h25)
              have h7 := heap_alloc_old (o' := .cells #[.int .i64 0, .slice none 0 0] 24) (heap_ofAlloc w5 (.cells #[.int .i64 0, .int .i64 0] 28))
              have h8 := heap_ofAlloc (w5.alloc (.cells #[.int .i64 0, .int .i64 0] 28)) (.cells #[.int .i64 0, .slice none 0 0] 24)
              have hbw := (hb45.alloc hb45.size (.cells #[.int .i64 0, .int .i64 0] 28)).alloc (by simp; have := hb45.size; omega) (.cells #[.int .i64 0, .slice none 0 0] 24)
              rw [World.size_alloc] at h8
              have hsz7 : w.heap.size ≤ w5.heap.size := hb45.size
              obtain ⟨b7, hb7⟩ : ∃ b, b = w5.heap.size := ⟨_, rfl⟩
              obtain ⟨b8, hb8⟩ : ∃ b, b = w5.heap.size + 1 := ⟨_, rfl⟩
              generalize (w5.alloc (.cells #[.int .i64 0, .int .i64 0] 28)).alloc (.cells #[.int .i64 0, .slice none 0 0] 24) = W at h2 h7 h8 hbw ⊢
              rw [← hb8] at h8 ⊢
              rw [← hb7] at h7 ⊢
              have g7 : w.heap.size ≤ b7 := by omega
              have g8 : w.heap.size ≤ b8 := by omega
              have g78 : b7 < b8 := by omega
              have g27 : w.heap.size < b7 := by omega
              clear hb7 hb8 x0 x1 y0 y1 hl25 hl65 h25 h65 hb45 hsz7
              have htr := HT.out.foot.kept hbw
              have hro := HB.out.foot.kept hbw
              have hok := treeF_ok.1 HTC.out
              refine (with19 bs t (fun b => b < w.heap.size) _ bo bc W (fun b h => Nat.lt_of_lt_of_le h hbw.size) (by omega) htr hro (low_of_pre t hok.2.2) (by have := hok.1; omega)).mono ?_
              rintro e w6 ⟨u, rfl, hu, hb6'⟩
              obtain ⟨uk, usp, rfl⟩ := hu.at.form
              have g8W := heap_lt h8
              have hU := Lib.hid (hu.mono (q := fun b => b < w.heap.size ∨ W.heap.size ≤ b) (fun b h _ => h))
              clear htr hro hok hu
              have h26 := Below.heapAt hb6' h2; have h76 := Below.heapAt hb6' h7; have h86 := Below.heapAt hb6' h8
              have hb06 := Below.step hbw hb6'
              clear h2 h7 h8 hbw hb6'
              generalize hTS : t.sub bs = ts at hU ⊢
              have HTS := Lib.hid hTS
              clear hTS
              obtain ⟨⟨x0, x1⟩, x2, x3⟩ := box2 h86
              go_wp2_with fail
              have e8 : ¬ (b8 < w.heap.size ∨ W.heap.size ≤ b8) := by omega
              have hU7 := (hU.out.setCell (a := ⟨b8, 0, none⟩) e8 (.int .i64 ts.head)).setCell (a := ⟨b8, 1, none⟩) e8 (.slice uk ts.kids.length (ts.kids.length + usp))
              have h27 := heap_set_other (a := ⟨b8, 1, none⟩) (u := .slice uk ts.kids.length (ts.kids.length + usp)) (heap_set_other (a := ⟨b8, 0, none⟩) (u := .int .i64 ts.head) h26 (by simp; omega)) (by simp; omega)
              have h77 := heap_set_other (a := ⟨b8, 1, none⟩) (u := .slice uk ts.kids.length (ts.kids.length + usp)) (heap_set_other (a := ⟨b8, 0, none⟩) (u := .int .i64 ts.head) h76 (by simp; omega)) (by simp; omega)
              have h87 := box2_set h86 (.int .i64 ts.head) (.slice uk ts.kids.length (ts.kids.length + usp))
              have hb07 := (hb06.setCell (p := ⟨b8, 0, none⟩) g8 (.int .i64 ts.head)).setCell (p := ⟨b8, 1, none⟩) g8 (.slice uk ts.kids.length (ts.kids.length + usp))
              generalize (w6.setCell ⟨b8, 0, none⟩ (.int .i64 ts.head)).setCell ⟨b8, 1, none⟩ (.slice uk ts.kids.length (ts.kids.length + usp)) = w7 at hU7 h27 h77 h87 hb07 ⊢
              have HU7 := Lib.hid hU7
              clear x0 x1 x2 x3 h26 h76 h86 hb06 hU7
              have hsub := Lib.hid (show ts.size ≤ 1000000 by rw [← HTS.out]; exact sub_size_small t bs (treeF_ok.1 HTC.out).1 (bind_size HSC.out))
              refine (tree18 ts _ _ hsub.out HU7.out.at).mono ?_
              rintro e w8 ⟨rfl, hb8'⟩
              have h28 := Below.heapAt hb8' h27; have h78 := Below.heapAt hb8' h77; have h88 := Below.heapAt hb8' h87
              have hb08 := Below.step hb07 hb8'
              have HU8 := Lib.hid (HU7.out.kept hb8')
              clear h27 h77 h87 hb07 hb8'
              obtain ⟨⟨vc, va⟩, hV⟩ : ∃ r, treeF ts = r := ⟨_, rfl⟩
              rw [hV]
              simp only [FV]
              have HV2 := Lib.hid hV
              clear hV
              cases hvc : (vc != 0) with
              | true =>
                have HD := Lib.hid (show doF t bs = (zeroT, (10, 0)) by rw [doF, if_neg (by simp [HTC.out]), if_neg (by simp [HSC.out]), if_pos (by rw [HTS.out, HV2.out]; simpa using hvc)])
                go_wp2_with fail
                refine (fault20 10 0 _).mono ?_
                rintro e w9 ⟨rfl, hb9⟩
                have h29 := Below.heapAt hb9 h28; have h79 := Below.heapAt hb9 h78; have h89 := Below.heapAt hb9 h88
                have hb09 := Below.step hb08 hb9
                clear h28 h78 h88 hb08 hb9
                obtain ⟨⟨x0, x1⟩, x2, x3⟩ := box2 h79
                obtain ⟨⟨y0, y1⟩, y2, y3⟩ := box2 h89
                obtain ⟨⟨z0, _⟩, z1, _⟩ := box2 h29
                have hn1 : ¬ w.heap.size = b7 := by omega
                have hn2 : ¬ w.heap.size = b8 := by omega
                go_wp2_with fail
                obtain ⟨h7, h8⟩ := two22 h79 h89 g78 (.int .i64 10) (.int .i64 0) (.int .i64 0) (.slice none 0 0)
                have h2 := heap_set_other (a := ⟨b8, 1, none⟩) (u := .slice none 0 0) (heap_set_other (a := ⟨b8, 0, none⟩) (u := .int .i64 0) (heap_set_other (a := ⟨b7, 1, none⟩) (u := .int .i64 0) (heap_set_other (a := ⟨b7, 0, none⟩) (u := .int .i64 10) h29 hn1) hn1) hn2) hn2
                have hbw := below22 hb09 g7 g8 (.int .i64 10) (.int .i64 0) (.int .i64 0) (.slice none 0 0)
                generalize (((w9.setCell ⟨b7, 0, none⟩ (.int .i64 10)).setCell ⟨b7, 1, none⟩ (.int .i64 0)).setCell ⟨b8, 0, none⟩ (.int .i64 0)).setCell ⟨b8, 1, none⟩ (.slice none 0 0) = W' at h2 h7 h8 hbw ⊢
                have HS8 := Lib.hid (TreeAt.zero W')
                clear x0 x1 x2 x3 y0 y1 y2 y3 z0 z1 h29 h79 h89 hb09
                refine (do21 t bs _ bo bc _ (HT.out.kept hbw) (HB.out.below hbw)).mono ?_
                rw [HD.out]
                rintro e wd ⟨u, rfl, hu, hbd⟩
                obtain ⟨uk, usp, rfl⟩ := hu.form
                have hbwd := Below.step hbw hbd
                have h7d := Below.heapAt hbd h7; have h8d := Below.heapAt hbd h8
                have HS8d := Lib.hid (HS8.out.kept hbd); have HUD := Lib.hid hu
                clear hu hbd hbw h7 h8 h2
                obtain ⟨⟨x0, _⟩, x1, _⟩ := box2 h7d
                obtain ⟨⟨y0, _⟩, y1, _⟩ := box2 h8d
                have hl7 := heap_lt h7d; have hl8 := heap_lt h8d
                simp only [FV]
                go_wp2_with fail
                have hbe := (Below.refl wd.heap.size wd).alloc (Nat.le_refl _) (.cells #[.int .i64 zeroT.head, .slice uk zeroT.kids.length (zeroT.kids.length + usp)] 24)
                have hbe2 := hbe.alloc hbe.size (.cells #[.int .i64 10, .int .i64 0] 28)
                refine (same22 zeroT zeroT _ _ _ (HUD.out.kept hbe2) (HS8d.out.kept hbe2)).mono ?_
                rintro e we ⟨rfl, hbz⟩
                have hbw' := Below.step (Below.step hbwd hbe2) hbz
                clear hbe hbe2 hbz
                go_wp2_with fail
                go_ret
                exact ⟨ret_bool (by simp), hbw'⟩
              | false =>
                have HD := Lib.hid (show doF t bs = (ts, (0, 0)) by rw [doF, if_neg (by simp [HTC.out]), if_neg (by simp [HSC.out]), if_neg (by rw [HTS.out, HV2.out]; simpa using hvc), HTS.out])
                obtain ⟨⟨z0, _⟩, z1, _⟩ := box2 h28
                go_wp2_with fail
                have h2 := h28; have h7 := h78; have h8 := h88; have hbw := hb08
                have HS8 := Lib.hid HU8.out.at
                clear z0 z1 h28 h78 h88 hb08
                refine (do21 t bs _ bo bc _ (HT.out.kept hbw) (HB.out.below hbw)).mono ?_
                rw [HD.out]
                rintro e wd ⟨u, rfl, hu, hbd⟩
                obtain ⟨uk, usp, rfl⟩ := hu.form
                have hbwd := Below.step hbw hbd
                have h7d := Below.heapAt hbd h7; have h8d := Below.heapAt hbd h8
                have HS8d := Lib.hid (HS8.out.kept hbd); have HUD := Lib.hid hu
                clear hu hbd hbw h7 h8 h2
                obtain ⟨⟨x0, _⟩, x1, _⟩ := box2 h7d
                obtain ⟨⟨y0, _⟩, y1, _⟩ := box2 h8d
                have hl7 := heap_lt h7d; have hl8 := heap_lt h8d
                simp only [FV]
                go_wp2_with fail
                have hbe := (Below.refl wd.heap.size wd).alloc (Nat.le_refl _) (.cells #[.int .i64 ts.head, .slice uk ts.kids.length (ts.kids.length + usp)] 24)
                have hbe2 := hbe.alloc hbe.size (.cells #[.int .i64 0, .int .i64 0] 28)
                refine (same22 ts ts _ _ _ (HUD.out.kept hbe2) (HS8d.out.kept hbe2)).mono ?_
                rintro e we ⟨rfl, hbz⟩
                have hbw' := Below.step (Below.step hbwd hbe2) hbz
                clear hbe hbe2 hbz
                go_wp2_with fail
                go_ret
                exact ⟨ret_bool (by simp), hbw'⟩
end Go.Proofs.Ytcckgfgobakphaa
