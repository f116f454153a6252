/-
  Walks: the law CloseMore.
-/
import Derived.Test.YtcckgfgobakphabProg
import Derived.Test.YtcckgfgobakphabBase
import Derived.Test.YtcckgfgobakphabW19
namespace Go.Proofs.Ytcckgfgobakphab
open Go.RowKit Go.Shelf
set_option linter.unusedVariables false
set_option linter.unusedSimpArgs false
set_option maxHeartbeats 400000

theorem own_below {base : Nat} {e : TypeId} {k : Nat} {v : Value} {n : Nat} {xs : List Value} {w w' : World} (h : w.ownsRow base e k v n xs) (hb : Below w.heap.size w w') : w'.ownsRow base e k v n xs :=
  World.ownsRow.kept h (row := none) ⟨hb.os, hb.tape, hb.output, hb.size, fun k hk _ => hb.block k hk⟩ (by cases h : v.ownBlock with | none => exact .inl rfl | some x => exact .inr (by simp))
theorem do_ok' (ts : List Tm) (ps : List (Int × Int)) (tv pv : Value) (w : World) (hck : (checkF ts [ps, []]).1 = 0) (ht : TermsAt w tv ts) (hp : PairsAt w pv ps) :
    Calls Try.prog 9 #[tv, pv, .slice none 0 0] w fun e w' => ∃ uo uc vo vc, e = .returned (.tuple #[.agg #[.int .i64 1, .slice uo ts.length uc, .slice vo 0 vc, .int .i64 0], .agg #[.int .i64 0, .int .i64 0]]) ∧
      NatsFrom w.heap.size w' (.slice uo ts.length uc) (classes ts ps) ∧ Below w.heap.size w w' := by
  obtain ⟨h60, hk, hl⟩ := checkF_zero hck
  have hpin := (hl ps (by simp)).2
  have h := do_any ts ps [] tv pv (.slice none 0 0) w (by omega) ht hp ⟨none, 0, rfl, fun j hj => by simp at hj⟩
  have e1 : doR ts ps [] = ⟨1, classes ts ps, [], 0⟩ := by rw [doR, if_neg (by rw [hck]; simp)]; rfl
  have e2 : checkF ts [ps, []] = (0, 0) := Prod.ext hck (checkF_zero' hck)
  rw [e1, e2] at h
  refine h.mono fun e w' ⟨u, v, he, hu, hv, hb⟩ => ?_
  have hlen := (classes_good (ts := ts) hpin).len
  have hu' := hu
  obtain ⟨uo, uc, rfl, hc⟩ := hu.1
  obtain ⟨vo, vc, rfl, _⟩ := hv.1
  simp only [hlen] at he hu'
  exact ⟨uo, uc, vo, vc, he, hu', hb⟩
theorem NatsFrom.open {B : Nat} {w : World} {ao : Option Addr} {n c : Nat} {l : List Nat} (h : NatsFrom B w (.slice ao n c) l) (hn : l.length = n) (h0 : 0 < n) : ∃ b off, ao = some ⟨b, off, none⟩ ∧ ∀ j, j < n → w.cell? ⟨b, off + j, none⟩ = some (.int .i64 (gN l j : Nat)) := by
  obtain ⟨ao', c', e, hc⟩ := h.1
  simp only [Value.slice.injEq] at e
  obtain ⟨rfl, _, _⟩ := e
  rw [hn] at hc
  exact hc.open h0
theorem check_of {ts : List Tm} {ps qs : List (Int × Int)} (h : (checkF ts [ps, []]).1 = 0) (hl : qs.length ≤ 120) (hq : pairsIn ts.length qs) : (checkF ts [qs, []]).1 = 0 := by
  have ht : (termsF ts).1 = 0 := by
    by_cases h0 : (termsF ts).1 = 0
    · exact h0
    · rw [checkF, if_neg h0] at h; exact absurd h h0
  rw [checkF, if_pos ht, listsF_ok (by omega) (fun j hj => ?_), listsF_ok (by simp) (fun j hj => by simp at hj)]
  · rfl
  · have := hq j hj
    simp only [pBad, inN, Bool.or_eq_false_iff, Bool.not_eq_false', decide_eq_true_eq]; omega
/-- a and b ahead, the pairs behind them from the last on -/
def moreTo (ps : List (Int × Int)) (x : Int × Int) (k : Nat) : List (Int × Int) := x :: (ps.drop k).reverse
theorem moreTo_succ {ps : List (Int × Int)} {x : Int × Int} {k : Nat} (h : k < ps.length) : moreTo ps x k = moreTo ps x (k + 1) ++ [gP ps k] := by
  simp only [moreTo]
  rw [List.drop_eq_getElem_cons h]
  simp [gP, h]
theorem moreTo_end (ps : List (Int × Int)) (x : Int × Int) : moreTo ps x ps.length = [x] := by simp [moreTo]
theorem moreTo_len (ps : List (Int × Int)) (x : Int × Int) (k : Nat) : (moreTo ps x k).length ≤ ps.length + 1 := by simp [moreTo]
theorem pairsIn_mem {n : Nat} {ps : List (Int × Int)} : pairsIn n ps ↔ ∀ x ∈ ps, 0 ≤ x.1 ∧ x.1 < n ∧ 0 ≤ x.2 ∧ x.2 < n := by
  constructor
  · intro h x hx
    obtain ⟨m, h1, h2⟩ := List.getElem_of_mem hx
    have := h m h1
    have e : gP ps m = x := by simp [gP, h1] at h2 ⊢; exact h2
    rw [e] at this; exact this
  · intro h j hj; exact h _ (gP_mem hj)
theorem tailOwn {w : World} {base g cap c : Nat} {x : Int × Int} {l : List (Int × Int)} {n : Nat} (h : w.ownsRow base 34 2 (.slice (some ⟨g, 0, none⟩) n cap) (x :: l).length (flatP (x :: l))) (m : Nat) (hm : m = l.length) :
    PairsAt w (.slice (some ⟨g, 2, none⟩) m c) l := by
  have hn : n = (x :: l).length := by
    rcases h.2 with ⟨h', _⟩ | ⟨_, _, _, h', _⟩
    · simp at h'
    · simp only [Value.slice.injEq] at h'; exact h'.2.1
  subst hn hm
  refine ⟨some ⟨g, 2, none⟩, c, rfl, fun j hj => ⟨g, 2, rfl, ?_, ?_⟩⟩
  · have e : 2 + j * 2 = (j + 1) * 2 := by omega
    rw [e, h.cellAt _ (by simp; omega), (flatP_get (x :: l) (j + 1) (by simpa using hj)).1]
    simp [gP]
  · have e : 2 + j * 2 + 1 = (j + 1) * 2 + 1 := by omega
    rw [e, h.cellAt _ (by simp; omega), (flatP_get (x :: l) (j + 1) (by simpa using hj)).2]
    simp [gP]

theorem own_cap {w : World} {base e k g cap n m : Nat} {xs : List Value} (h : w.ownsRow base e k (.slice (some ⟨g, 0, none⟩) n cap) m xs) : n ≤ cap := by
  rcases h.2 with ⟨h', _⟩ | ⟨g', cap', cur, h', _, _, hn, _⟩
  · simp at h'
  · simp only [Value.slice.injEq] at h'
    obtain ⟨_, rfl, rfl⟩ := h'
    exact hn
set_option maxRecDepth 100000 in
set_option maxHeartbeats 16000000 in
theorem closeMore_walk (ts : List Tm) (ps : List (Int × Int)) (a b : Int) (tv pv : Value) (w : World) (ht : TermsAt w tv ts) (hp : PairsAt w pv ps) :
    Calls Try.prog 8 #[tv, pv, .int .i64 a, .int .i64 b] w fun e w' => e = .returned (.bool true) ∧ Below w.heap.size w w' := by
  have HTA := Lib.hid ht; have HPA := Lib.hid hp
  obtain ⟨po, pcap, rfl, hpps⟩ := hp
  obtain ⟨to, tcap, rfl, htts⟩ := ht
  clear hpps htts
  by_cases h60 : 60 < ts.length
  · go_enter Try.func8, Try.ntmps8
    go_wp2_with fail
    refine (closeFact_any _).mono ?_
    rintro e w0 ⟨rfl, hb0⟩
    go_wp2_with fail
    go_ret
    exact ⟨rfl, hb0⟩
  by_cases h100 : 100 < ps.length
  · go_enter Try.func8, Try.ntmps8
    go_wp2_with fail
    refine (closeFact_any _).mono ?_
    rintro e w0 ⟨rfl, hb0⟩
    go_wp2_with fail
    go_ret
    exact ⟨rfl, hb0⟩
  by_cases hck : (checkF ts [ps, []]).1 = 0
  · cases ha : inN ts.length a with
    | false =>
      have HA := Lib.hid (ha ▸ in16N ts.length a)
      have HCK := Lib.hid hck; clear hck ha
      go_enter Try.func8, Try.ntmps8
      go_wp2_with fail
      refine (closeFact_any _).mono ?_
      rintro e w0 ⟨rfl, hb0⟩
      go_wp2_with fail
      refine (do_ok' ts ps _ _ _ HCK.out (HTA.out.below hb0) (HPA.out.below hb0)).mono ?_
      rintro e w1 ⟨uo, uc, vo, vc, rfl, hl, hb1⟩
      have hb1 := Below.step hb0 hb1
      clear hl
      go_wp2_with fail
      refine (HA.out _).mono ?_
      rintro e w2 ⟨rfl, rfl⟩
      go_wp2_with fail
      go_ret
      exact ⟨rfl, (hb1.alloc (by have := hb1.size; omega) _).alloc (by simp; have := hb1.size; omega) _⟩
    | true =>
      cases hbn : inN ts.length b with
      | false =>
        have HA := Lib.hid (ha ▸ in16N ts.length a)
        have HB := Lib.hid (hbn ▸ in16N ts.length b)
        have HCK := Lib.hid hck; clear hck ha hbn
        go_enter Try.func8, Try.ntmps8
        go_wp2_with fail
        refine (closeFact_any _).mono ?_
        rintro e w0 ⟨rfl, hb0⟩
        go_wp2_with fail
        refine (do_ok' ts ps _ _ _ HCK.out (HTA.out.below hb0) (HPA.out.below hb0)).mono ?_
        rintro e w1 ⟨uo, uc, vo, vc, rfl, hl, hb1⟩
        have hb1 := Below.step hb0 hb1
        clear hl
        go_wp2_with fail
        refine (HA.out _).mono ?_
        rintro e w2 ⟨rfl, rfl⟩
        go_wp2_with fail
        refine (HB.out _).mono ?_
        rintro e w2 ⟨rfl, rfl⟩
        go_wp2_with fail
        go_ret
        exact ⟨rfl, (hb1.alloc (by have := hb1.size; omega) _).alloc (by simp; have := hb1.size; omega) _⟩
      | true =>
        have HA := Lib.hid (ha ▸ in16N ts.length a)
        have HB := Lib.hid (hbn ▸ in16N ts.length b)
        simp only [inN, decide_eq_true_eq] at ha hbn
        obtain ⟨na, hna⟩ := Int.eq_ofNat_of_zero_le ha.1
        obtain ⟨nb, hnb⟩ := Int.eq_ofNat_of_zero_le hbn.1
        subst hna hnb
        have hal : na < ts.length := by omega
        have hbl : nb < ts.length := by omega
        obtain ⟨_, hki, hpl⟩ := checkF_zero hck
        have hpin := (hpl ps (by simp)).2
        have hps := pairsIn_mem.1 hpin
        have hp1 : pairsIn ts.length (moreTo ps ((na : Int), (nb : Int)) 0) := pairsIn_mem.2 fun x hx => by
          simp only [moreTo, List.drop_zero, List.mem_cons, List.mem_reverse] at hx
          rcases hx with rfl | hx
          · exact ⟨by simp, by simpa using hal, by simp, by simpa using hbl⟩
          · exact hps x hx
        have hp2 : pairsIn ts.length ps.reverse := pairsIn_mem.2 fun x hx => hps x (by simpa using hx)
        have HC1 := Lib.hid (check_of (qs := moreTo ps ((na : Int), (nb : Int)) 0) hck (by have := moreTo_len ps ((na : Int), (nb : Int)) 0; omega) hp1)
        have HC2 := Lib.hid (check_of (qs := ps.reverse) hck (by simp; omega) hp2)
        have HEQ := Lib.hid (classes_perm (ts := ts) hki hp2 hpin (fun x hx => by simpa using hx) (fun x hx => by simpa using hx))
        have HMR := Lib.hid (classes_more (ts := ts) (ps := ps) hki hp1 (fun x hx => by simp only [moreTo, List.drop_zero, List.mem_cons, List.mem_reverse]; exact .inr hx) hpin)
        have HAB := Lib.hid (show gN (classes ts (moreTo ps ((na : Int), (nb : Int)) 0)) na = gN (classes ts (moreTo ps ((na : Int), (nb : Int)) 0)) nb from Int.ofNat.inj (classes_sat hp1 0 (by simp [moreTo])))
        have HG := Lib.hid (classes_good (ts := ts) hpin)
        have HG1 := Lib.hid (classes_good (ts := ts) hp1)
        have HCK := Lib.hid hck
        clear hck ha hbn hki hpl hpin hps hp1 hp2
        go_enter Try.func8, Try.ntmps8
        go_wp2_with fail
        refine (closeFact_any _).mono ?_
        rintro e w0 ⟨rfl, hb0⟩
        go_wp2_with fail
        refine (do_ok' ts ps _ _ _ HCK.out (HTA.out.below hb0) (HPA.out.below hb0)).mono ?_
        rintro e w1 ⟨uo, uc, vo, vc, rfl, hl, hb1⟩
        have hb1 := Below.step hb0 hb1
        have hC := heap_alloc_old (o' := .cells #[.int .i64 0, .int .i64 0] 28) (heap_ofAlloc w1 (.cells #[.int .i64 1, .slice uo ts.length uc, .slice vo 0 vc, .int .i64 0] 26))
        have hF := heap_ofAlloc (w1.alloc (.cells #[.int .i64 1, .slice uo ts.length uc, .slice vo 0 vc, .int .i64 0] 26)) (.cells #[.int .i64 0, .int .i64 0] 28)
        rw [World.size_alloc] at hF
        have hba := ((Below.refl w1.heap.size w1).alloc (Nat.le_refl _) (.cells #[.int .i64 1, .slice uo ts.length uc, .slice vo 0 vc, .int .i64 0] 26)).alloc (by simp) (.cells #[.int .i64 0, .int .i64 0] 28)
        have hl2 := hl.below hba
        have hb2 := Below.step hb1 hba
        go_wp2_with fail
        refine (HA.out _).mono ?_
        rintro e w2 ⟨rfl, rfl⟩
        go_wp2_with fail
        refine (HB.out _).mono ?_
        rintro e w2 ⟨rfl, rfl⟩
        have hsz : ((w1.alloc (.cells #[.int .i64 1, .slice uo ts.length uc, .slice vo 0 vc, .int .i64 0] 26)).alloc (.cells #[.int .i64 0, .int .i64 0] 28)).heap.size = w1.heap.size + 2 := by simp
        have XT := Lib.hid (HTA.out.below hb2); have XP := Lib.hid (HPA.out.below hb2)
        have HSZ := Lib.hid hsz
        have HT1 := Lib.hid (HTA.out.below hb1)
        have HFIN := Lib.hid (fun (W' : World) (h : Below w1.heap.size w1 W') => Below.step hb1 h)
        have HL1 := Lib.hid (hl); have HBA := Lib.hid hba
        have HW1 := Lib.hid (show w.heap.size ≤ w1.heap.size from hb1.size)
        generalize hW2 : (w1.alloc (.cells #[.int .i64 1, .slice uo ts.length uc, .slice vo 0 vc, .int .i64 0] 26)).alloc (.cells #[.int .i64 0, .int .i64 0] 28) = W2 at hC hF hba hl2 hb2 XT XP HSZ HBA ⊢
        have XC := Lib.hid hC; have XF := Lib.hid hF; have XB := Lib.hid hb2
        clear hC hF hba hl hl2 hb0 hb1 hb2 hW2 hsz
        have hown0 := World.ownsRow_lit (base := W2.heap.size) (size := 2) (e := 34) W2 #[.int .i64 (na : Int), .int .i64 (nb : Int)] 1 (Nat.le_refl _) (by unfold maxLen; omega) rfl
        have HO0 := Lib.hid hown0; clear hown0
        obtain ⟨x1, x2⟩ := (box2 XF.out).1
        go_wp2_with fail
        obtain ⟨i34, li, lz0, lz1, lz2⟩ := info_parts info34
        obtain ⟨bx, hbx⟩ : ∃ bx, bx = w1.heap.size := ⟨_, rfl⟩
        have HBX := Lib.hid hbx
        rw [← hbx] at XC XF x1 x2 HSZ
        rw [← hbx]
        clear hbx
        go_loopw [12, 13] (fun o i wr => ∃ q : Nat, q ≤ ps.length ∧ i = .int .i64 ((q : Int) - 1) ∧ Below W2.heap.size W2 wr ∧
          wr.ownsRow W2.heap.size 34 2 o (moreTo ps ((na : Int), (nb : Int)) q).length (flatP (moreTo ps ((na : Int), (nb : Int)) q))) (fun _ i _ => (intOf i + 1).toNat)
        case atStart => exact ⟨ps.length, Nat.le_refl _, rfl, (Below.refl _ _).alloc (Nat.le_refl _) _, by rw [moreTo_end]; exact HO0.out⟩
        case round =>
          obtain ⟨q, hq, rfl, hb, hown⟩ := hrel
          have hle := moreTo_len ps ((na : Int), (nb : Int)) q
          have hbs := hb.size
          cases q with
          | succ q =>
            have hql : q < ps.length := by omega
            have hq1 : ((q + 1 : Nat) : Int) - 1 = (q : Int) := by omega
            simp only [hq1]
            obtain ⟨pb, pf, e0, hpc⟩ := (XP.out.below hb).open (by omega)
            subst e0
            obtain ⟨z1, z2⟩ := hpc q hql
            clear hpc hq1
            have hle := moreTo_len ps ((na : Int), (nb : Int)) (q + 1)
            go_wp2_with (at_builtin; refine wpList_append_own _ rfl _ _ 23 rfl W2.heap.size 34 i34 (.agg #[.int .i64 0, .int .i64 0]) 2 16 Try.underlying23 li lz0 lz1 lz2 rfl (by decide) _ _ _ rfl (hown.alloc _) ⟨wr.heap.size, 0, none⟩ 1 1 [.int .i64 (gP ps q).1, .int .i64 (gP ps q).2] rfl rfl ?c1 ?c2 ?c3 ?c4 ?c5 ?_)
            case c1 => exact cell_two_new _ _ _ _
            case c2 => intro u hu; simp at hu; rcases hu with rfl | rfl <;> rfl
            case c3 => unfold maxLen; omega
            case c4 => omega
            case c5 => simp; omega
            intro v' w3 hown' hgrow _
            have hb1 : Below W2.heap.size W2 w3 := (hb.alloc hb.size _).grown hgrow (by simp; have := hb.size; omega) (fun q hq => by have := (hown.lt q hq).1; omega)
            have HO := Lib.hid (own_pushP hown')
            have HI := Lib.hid (moreTo_succ (x := ((na : Int), (nb : Int))) hql)
            clear hown hgrow hown'
            go_wp2_with fail
            go_roundw
            case rel => exact ⟨q, by omega, by go_num, hb1, by rw [HI.out]; exact HO.out⟩
            case measure => simp [intOf] <;> omega
          | zero =>
            have e0 : (((0 : Nat) : Int) - 1) = -1 := rfl
            simp only [e0]
            clear e0
            have HO := Lib.hid hown
            obtain ⟨g, gc, rfl⟩ : ∃ g c, u12 = .slice (some ⟨g, 0, none⟩) (ps.length + 1) c := by
              obtain ⟨g, c, h⟩ := ownsRow_succ (k := ps.length) (by simpa [moreTo] using hown)
              exact ⟨g, c, h⟩
            have HPM := Lib.hid (PairsAt.ofOwn hown)
            clear hown
            generalize hMM : moreTo ps ((na : Int), (nb : Int)) 0 = MM at HC1 HMR HAB HG1 HO HPM
            have HMM := Lib.hid hMM; clear hMM
            go_wp2_with fail
            refine (do_ok' ts MM _ _ _ HC1.out (XT.out.below hb) HPM.out).mono ?_
            rintro e w4 ⟨do_, dc, dvo, dvc, rfl, hd, hb4⟩
            have hb24 : Below W2.heap.size W2 w4 := Below.step hb hb4
            have hs24 := hb24.size
            have hsz := HSZ.out
            have hc4 := Below.heapAt hb24 XC.out
            have hf4 := Below.heapAt hb24 XF.out
            have ho4 := own_below HO.out hb4
            have hd := hd.mono (B' := W2.heap.size) hb.size
            obtain ⟨⟨x0, x1⟩, x2, x3⟩ := box2 hf4
            have hlt := heap_lt hf4
            have hd5 := (hd.setCell (a := ⟨bx + 1, 0, none⟩) (by simp; omega) (.int .i64 0)).setCell (a := ⟨bx + 1, 1, none⟩) (by simp; omega) (.int .i64 0)
            have ho5 := ownsRow_setCell_below (ownsRow_setCell_below ho4 (a := ⟨bx + 1, 0, none⟩) (by simp; omega) (.int .i64 0)) (a := ⟨bx + 1, 1, none⟩) (by simp; omega) (.int .i64 0)
            have hc5 := heap_set_other (heap_set_other (a := ⟨bx + 1, 0, none⟩) (u := .int .i64 0) hc4 (by simp)) (a := ⟨bx + 1, 1, none⟩) (u := .int .i64 0) (by simp)
            have hf5 := box2_set hf4 (.int .i64 0) (.int .i64 0)
            have hbx1 : w1.heap.size ≤ bx + 1 := by have := HBX.out; omega
            have hbw4 := Below.step HBA.out hb24
            have hbw5 := (hbw4.setCell (p := ⟨bx + 1, 0, none⟩) hbx1 (.int .i64 0)).setCell (p := ⟨bx + 1, 1, none⟩) hbx1 (.int .i64 0)
            have hs5 : ((w4.setCell ⟨bx + 1, 0, none⟩ (.int .i64 0)).setCell ⟨bx + 1, 1, none⟩ (.int .i64 0)).heap.size = w4.heap.size := by simp
            have hd6 := heap_ofAlloc ((w4.setCell ⟨bx + 1, 0, none⟩ (.int .i64 0)).setCell ⟨bx + 1, 1, none⟩ (.int .i64 0)) (.cells #[.int .i64 1, .slice do_ ts.length dc, .slice dvo 0 dvc, .int .i64 0] 26)
            rw [hs5] at hd6
            have hc6 := heap_alloc_old (o' := .cells #[.int .i64 1, .slice do_ ts.length dc, .slice dvo 0 dvc, .int .i64 0] 26) hc5
            have hf6 := heap_alloc_old (o' := .cells #[.int .i64 1, .slice do_ ts.length dc, .slice dvo 0 dvc, .int .i64 0] 26) hf5
            have ho6 := ho5.alloc (.cells #[.int .i64 1, .slice do_ ts.length dc, .slice dvo 0 dvc, .int .i64 0] 26)
            have hba5 := (Below.refl ((w4.setCell ⟨bx + 1, 0, none⟩ (.int .i64 0)).setCell ⟨bx + 1, 1, none⟩ (.int .i64 0)).heap.size ((w4.setCell ⟨bx + 1, 0, none⟩ (.int .i64 0)).setCell ⟨bx + 1, 1, none⟩ (.int .i64 0))).alloc (Nat.le_refl _) (.cells #[.int .i64 1, .slice do_ ts.length dc, .slice dvo 0 dvc, .int .i64 0] 26)
            have hdn6 := hd5.below hba5
            have hbw6 := Below.step hbw5 hba5
            have XT5 := HT1.out.below hbw6
            have hcap : ps.length + 1 ≤ gc := own_cap ho6
            have HS2 := Lib.hid (show PairsAt _ (.slice (some ⟨g, 2, none⟩) ps.length (gc - 1)) ps.reverse from tailOwn (x := ((na : Int), (nb : Int))) (by rw [← HMM.out] at ho6; simpa [moreTo] using ho6) ps.length (by simp))
            clear hc5 hf5 ho5 hba5 hd5 hd hbw5 hbw4 hb24 hs5 hc4 hf4 ho4
            by_cases hgc : gc = 1
            · subst hgc
              have hp0 : ps.length = 0 := by omega
              have HSP := Lib.hid (show PairsAt (((w4.setCell ⟨bx + 1, 0, none⟩ (.int .i64 0)).setCell ⟨bx + 1, 1, none⟩ (.int .i64 0)).alloc (.cells #[.int .i64 1, .slice do_ ts.length dc, .slice dvo 0 dvc, .int .i64 0] 26)) (.slice (some ⟨g, 0, none⟩) ps.length 0) ps.reverse from ⟨some ⟨g, 0, none⟩, 0, by simp, fun j hj => by simp at hj; omega⟩)
              clear HS2 hp0 hcap
              go_wp2_with fail
              refine (do_ok' ts ps.reverse _ _ _ HC2.out XT5 HSP.out).mono ?_
              rintro e w7 ⟨eo, ec, evo, evc, rfl, he, hb7⟩
              rw [HEQ.out] at he
              have hc7 := Below.heapAt hb7 hc6
              have hf7 := Below.heapAt hb7 hf6
              have hd7 := Below.heapAt hb7 hd6
              have hdn7 := hdn6.below hb7
              have hbw7 := Below.step hbw6 hb7
              have hl7 := HL1.out.below hbw7
              have l1 := heap_lt hc7; have l2 := heap_lt hf7; have l3 := heap_lt hd7
              clear hc6 hf6 hd6 hdn6 hbw6 hb7 ho6 XT5
              have hba7 := ((Below.refl w7.heap.size w7).alloc (Nat.le_refl _) (.cells #[.int .i64 1, .slice eo ts.length ec, .slice evo 0 evc, .int .i64 0] 26)).alloc (by simp) (.cells #[.int .i64 0, .int .i64 0] 28)
              obtain ⟨⟨x0, _⟩, ⟨x1, _⟩, _⟩ := box4 hc7
              obtain ⟨⟨x2, _⟩, x3, _⟩ := box2 hf7
              obtain ⟨⟨x4, _⟩, ⟨x5, _⟩, _⟩ := box4 hd7
              go_wp2_with fail
              refine (ints_same (classes ts ps) _ _ _ (hl7.below hba7).1 (he.below hba7).1 (by rw [HG.out.len]; omega)).mono ?_
              rintro e w9 ⟨rfl, hb9⟩
              have hb79 := Below.step hba7 hb9
              have HC9 := Lib.hid (Below.heapAt hb79 hc7)
              have HD9 := Lib.hid (Below.heapAt hb79 hd7)
              have HL9 := Lib.hid (hl7.below hb79)
              have HDN9 := Lib.hid (hdn7.below hb79)
              have HBW9 := Lib.hid (Below.step hbw7 hb79)
              clear hc7 hf7 hd7 hdn7 hbw7 hl7 he hba7 hb9 hb79 x0 x1 x2 x3 x4 x5 l1 l2 l3
              generalize classes ts MM = DL at *
              generalize classes ts ps = CL at *
              generalize w4.heap.size = dx at *
              go_wp2_with fail
              go_loopw [17] (fun i wr => ∃ k : Nat, k ≤ ts.length ∧ i = .int .i64 k ∧ Below w9.heap.size w9 wr) (fun i _ => ts.length - (intOf i).toNat)
              case atStart => exact ⟨0, by omega, rfl, Below.refl _ _⟩
              case round =>
                obtain ⟨k, hk, rfl, hb⟩ := hrel
                obtain ⟨cb, cf, e0, hlc⟩ := (HL9.out.below hb).open HG.out.len (by omega)
                subst e0
                obtain ⟨db, df, e0, hld⟩ := (HDN9.out.below hb).open HG1.out.len (by omega)
                subst e0
                obtain ⟨⟨x0, _⟩, ⟨x1, _⟩, _⟩ := box4 (Below.heapAt hb HC9.out)
                obtain ⟨⟨x4, _⟩, ⟨x5, _⟩, _⟩ := box4 (Below.heapAt hb HD9.out)
                clear x0 x4
                by_cases hlt : k < ts.length
                · have c1 := hlc k hlt
                  have hlt2 := HG.out.lt k hlt
                  have d1 := hld k hlt
                  have d2 := hld _ hlt2
                  rw [HMR.out k hlt] at d2
                  have hne : ((gN DL k : Int) != (gN DL k : Int)) = false := by simp
                  clear hlc hld
                  generalize gN CL k = m at c1 hlt2 d2
                  go_wp2_with fail
                  go_quiet (exact Calls.quiet_of_same (in16_yes _ ⟨by omega, by omega⟩))
                  go_wp2_with fail
                  go_roundw
                  case rel => exact ⟨k + 1, by omega, by go_num, Below.step hb (below_drewN (Below.refl _ _) _)⟩
                  case measure => simp [intOf] <;> omega
                · obtain rfl : k = ts.length := by omega
                  have d1 := hld na hal
                  have d2 := hld nb hbl
                  have heq : ((gN DL na : Int) == (gN DL nb : Int)) = true := by rw [HAB.out]; simp
                  clear hlc hld
                  go_wp2_with fail
                  go_quiet (fail)
                  go_wp2_with fail
                  go_ret
                  exact ⟨rfl, HFIN.out _ (Below.step HBW9.out (Below.step hb (below_drewN (Below.refl _ _) _)))⟩
            · have HSP := HS2
              clear hcap
              go_wp2_with fail
              refine (do_ok' ts ps.reverse _ _ _ HC2.out XT5 HSP.out).mono ?_
              rintro e w7 ⟨eo, ec, evo, evc, rfl, he, hb7⟩
              rw [HEQ.out] at he
              have hc7 := Below.heapAt hb7 hc6
              have hf7 := Below.heapAt hb7 hf6
              have hd7 := Below.heapAt hb7 hd6
              have hdn7 := hdn6.below hb7
              have hbw7 := Below.step hbw6 hb7
              have hl7 := HL1.out.below hbw7
              have l1 := heap_lt hc7; have l2 := heap_lt hf7; have l3 := heap_lt hd7
              clear hc6 hf6 hd6 hdn6 hbw6 hb7 ho6 XT5
              have hba7 := ((Below.refl w7.heap.size w7).alloc (Nat.le_refl _) (.cells #[.int .i64 1, .slice eo ts.length ec, .slice evo 0 evc, .int .i64 0] 26)).alloc (by simp) (.cells #[.int .i64 0, .int .i64 0] 28)
              obtain ⟨⟨x0, _⟩, ⟨x1, _⟩, _⟩ := box4 hc7
              obtain ⟨⟨x2, _⟩, x3, _⟩ := box2 hf7
              obtain ⟨⟨x4, _⟩, ⟨x5, _⟩, _⟩ := box4 hd7
              go_wp2_with fail
              refine (ints_same (classes ts ps) _ _ _ (hl7.below hba7).1 (he.below hba7).1 (by rw [HG.out.len]; omega)).mono ?_
              rintro e w9 ⟨rfl, hb9⟩
              have hb79 := Below.step hba7 hb9
              have HC9 := Lib.hid (Below.heapAt hb79 hc7)
              have HD9 := Lib.hid (Below.heapAt hb79 hd7)
              have HL9 := Lib.hid (hl7.below hb79)
              have HDN9 := Lib.hid (hdn7.below hb79)
              have HBW9 := Lib.hid (Below.step hbw7 hb79)
              clear hc7 hf7 hd7 hdn7 hbw7 hl7 he hba7 hb9 hb79 x0 x1 x2 x3 x4 x5 l1 l2 l3
              generalize classes ts MM = DL at *
              generalize classes ts ps = CL at *
              generalize w4.heap.size = dx at *
              go_wp2_with fail
              go_loopw [17] (fun i wr => ∃ k : Nat, k ≤ ts.length ∧ i = .int .i64 k ∧ Below w9.heap.size w9 wr) (fun i _ => ts.length - (intOf i).toNat)
              case atStart => exact ⟨0, by omega, rfl, Below.refl _ _⟩
              case round =>
                obtain ⟨k, hk, rfl, hb⟩ := hrel
                obtain ⟨cb, cf, e0, hlc⟩ := (HL9.out.below hb).open HG.out.len (by omega)
                subst e0
                obtain ⟨db, df, e0, hld⟩ := (HDN9.out.below hb).open HG1.out.len (by omega)
                subst e0
                obtain ⟨⟨x0, _⟩, ⟨x1, _⟩, _⟩ := box4 (Below.heapAt hb HC9.out)
                obtain ⟨⟨x4, _⟩, ⟨x5, _⟩, _⟩ := box4 (Below.heapAt hb HD9.out)
                clear x0 x4
                by_cases hlt : k < ts.length
                · have c1 := hlc k hlt
                  have hlt2 := HG.out.lt k hlt
                  have d1 := hld k hlt
                  have d2 := hld _ hlt2
                  rw [HMR.out k hlt] at d2
                  have hne : ((gN DL k : Int) != (gN DL k : Int)) = false := by simp
                  clear hlc hld
                  generalize gN CL k = m at c1 hlt2 d2
                  go_wp2_with fail
                  go_quiet (exact Calls.quiet_of_same (in16_yes _ ⟨by omega, by omega⟩))
                  go_wp2_with fail
                  go_roundw
                  case rel => exact ⟨k + 1, by omega, by go_num, Below.step hb (below_drewN (Below.refl _ _) _)⟩
                  case measure => simp [intOf] <;> omega
                · obtain rfl : k = ts.length := by omega
                  have d1 := hld na hal
                  have d2 := hld nb hbl
                  have heq : ((gN DL na : Int) == (gN DL nb : Int)) = true := by rw [HAB.out]; simp
                  clear hlc hld
                  go_wp2_with fail
                  go_quiet (fail)
                  go_wp2_with fail
                  go_ret
                  exact ⟨rfl, HFIN.out _ (Below.step HBW9.out (Below.step hb (below_drewN (Below.refl _ _) _)))⟩
  · have hne : ((checkF ts [ps, []]).1 != 0) = true := by simpa using hck
    have hne2 : ((checkF ts [ps, []]).1 == 0) = false := by simpa using hck
    have HBAD := Lib.hid hck
    clear hck
    go_enter Try.func8, Try.ntmps8
    go_wp2_with fail
    refine (closeFact_any _).mono ?_
    rintro e w0 ⟨rfl, hb0⟩
    go_wp2_with fail
    refine (do_bad ts ps _ _ _ (by omega) HBAD.out (HTA.out.below hb0) (HPA.out.below hb0)).mono ?_
    rintro e w1 ⟨uo, uc, vo, vc, rfl, hb1⟩
    have hb1 := Below.step hb0 hb1
    go_wp2_with fail
    go_ret
    exact ⟨rfl, (hb1.alloc (by have := hb1.size; omega) _).alloc (by simp; have := hb1.size; omega) _⟩
end Go.Proofs.Ytcckgfgobakphab
