/-
  Walk: the law TreeSays.
-/
import Derived.Test.YtcckgfgobakphaaProg
import Derived.Test.YtcckgfgobakphaaBase
import Derived.Test.YtcckgfgobakphaaT12
import Derived.Test.YtcckgfgobakphaaT13
import Derived.Test.YtcckgfgobakphaaT24
import Derived.Test.YtcckgfgobakphaaT32
import Derived.Test.YtcckgfgobakphaaT35
import Derived.Test.YtcckgfgobakphaaT36
import Derived.Test.YtcckgfgobakphaaP6
import Derived.Deep.DeepCutAuto
import Derived.IntWalk
namespace Go.Proofs.Ytcckgfgobakphaa
open Go.RowKit Go.Shelf
set_option linter.unusedVariables false
set_option maxHeartbeats 400000

theorem St.vars {P : Program} {n : Nat} {a : Array Value} {w0 w : World} {l : List Fct} (S : St w0 w l) {t : T} (h : Calls P n a w (VarsPost t w)) :
    Calls P n a w fun e w' => ∃ lo lc c d, e = .returned (.tuple #[.slice lo (varsF t).length lc, .agg #[.int .i64 c, .int .i64 d]]) ∧ Hid (treeF t = (c, d)) ∧ CellsAt w' lo (varsF t).length (fun j => .int .i64 (gI (varsF t) j)) ∧ w.heap.size ≤ w'.heap.size ∧ St w0 w' l :=
  h.mono fun e w' ⟨v, h1, h2, h3⟩ => by
    obtain ⟨ao, cap, rfl, hc⟩ := h2
    exact ⟨ao, cap, (treeF t).1, (treeF t).2, h1, rfl, hc, h3.size, S.step h3⟩

set_option maxRecDepth 100000 in
set_option maxHeartbeats 8000000 in
theorem treeSays5 (t : T) (place : List Int) (s : T) (v : Value) (po : Option Addr) (pc : Nat) (sv : Value) (w : World) (ht : TreeAt w v t) (hp : CellsAt w po place.length (fun j => .int .i64 (gI place j))) (hs : TreeAt w sv s)
    (hts : t.size ≤ 1048576) (hss : s.size ≤ 1048576) (hpl : place.length ≤ pc) (hpc : pc ≤ 9223372036854775807) (hpn : po = none → place.length = 0 ∧ pc = 0) :
    Calls Try.prog 5 #[v, .slice po place.length pc, sv] w fun e w' => e = .returned (.bool true) ∧ Below w.heap.size w w' := by
  obtain ⟨k, sp, rfl⟩ := ht.form
  obtain ⟨so, ssp, rfl⟩ := hs.form
  have HT := Lib.hid ht; have HP := Lib.hid hp; have HS := Lib.hid hs; clear ht hp hs
  have S0 := ((St.start w).box rfl #[.int .i64 t.head, .slice k t.kids.length (t.kids.length + sp)] 24).box (b := w.heap.size + 1) (by simp) #[.int .i64 s.head, .slice so s.kids.length (s.kids.length + ssp)] 24
  obtain ⟨⟨x0, _⟩, x1, _⟩ := S0.two 0
  go_enter Try.func5, Try.ntmps5
  go_wp2_with fail
  refine St.gen S0 (z := w.heap.size + 2) (by simp) ?_
  intro w1 z1 S1
  refine (S1.quiet (vast15 t _ w1 (by omega) (HT.out.kept S1.bel))).mono ?_
  rintro e w2 ⟨rfl, z2, S2⟩
  clear S0 S1 x0 x1
  by_cases hv : (200 : Int) < t.size
  · have hvd : decide ((200 : Int) < t.size) = true := decide_eq_true hv
    rw [hvd]
    go_wp2_with fail
    refine bodyPost_ret (v := .bool true) (by simp [results, Try.results5, go_sem]) rfl ⟨rfl, S2.bel⟩
  have hvd : decide ((200 : Int) < t.size) = false := decide_eq_false hv
  rw [hvd]
  have hts : t.size ≤ 200 := by omega
  clear hv hvd
  obtain ⟨⟨x0, _⟩, x1, _⟩ := S2.two 1
  have hl := S2.lt 1
  go_wp2_with fail
  refine (S2.quiet (vast15 s _ w2 (by omega) (HS.out.kept S2.bel))).mono ?_
  rintro e w3 ⟨rfl, z3, S3⟩
  clear S2 x0 x1 hl
  by_cases hv : (200 : Int) < s.size
  · have hvd : decide ((200 : Int) < s.size) = true := decide_eq_true hv
    rw [hvd]
    go_wp2_with fail
    refine bodyPost_ret (v := .bool true) (by simp [results, Try.results5, go_sem]) rfl ⟨rfl, S3.bel⟩
  have hvd : decide ((200 : Int) < s.size) = false := decide_eq_false hv
  rw [hvd]
  have hss : s.size ≤ 200 := by omega
  clear hv hvd
  obtain ⟨⟨x0, _⟩, x1, _⟩ := S3.two 0
  have hl := S3.lt 0
  go_wp2_with fail
  refine (S3.fault (f := treeF t) (tree18 t _ w3 (by omega) (HT.out.kept S3.bel))).mono ?_
  rintro e w4 ⟨wc, wa, rfl, HW, z4, S4⟩
  have S5 := S4.box rfl #[.int .i64 wc, .int .i64 wa] 28
  clear S3 S4 x0 x1 hl
  obtain ⟨⟨x0, _⟩, x1, _⟩ := S5.two 0
  have hl := S5.lt 0
  go_wp2_with fail
  refine St.gen S5 (z := w4.heap.size + 1) (by simp) ?_
  intro w5 z5 S6
  refine (S6.vars (vars26 t _ w5 (HT.out.kept S6.bel))).mono ?_
  rintro e w6 ⟨lo, lc, c, d, rfl, HC, hcl, z6, S7⟩
  obtain ⟨rfl, rfl⟩ : wc = c ∧ wa = d := by have := HC.out; rw [HW.out] at this; simpa using this
  have S7 := S7.add (.ints 0 w6.heap.size (.slice lo (varsF t).length lc) (varsF t)) ⟨lo, lc, rfl, fun j hj => by obtain ⟨b, off, e, h⟩ := hcl j hj; exact ⟨b, off, e, ⟨Nat.zero_le _, block_lt_of_cell h⟩, h⟩⟩
  clear S5 S6 x0 x1 hl hcl HC
  have S8 := S7.box rfl #[.int .i64 wc, .int .i64 wa] 28
  obtain ⟨⟨x0, _⟩, x1, _⟩ := S8.two 0
  have hl := S8.lt 0
  go_wp2_with fail
  refine St.gen S8 (z := w6.heap.size + 1) (by simp) ?_
  intro w7 z7 S9
  refine (S9.madeF (r := atF t place) (at27N t place _ po pc w7 (HT.out.kept S9.bel) (HP.out.below S9.bel) (Nat.le_trans hpl hpc))).mono ?_
  rintro e w8 ⟨A, gc, ga, ak, asp, rfl, HA, z8, S10⟩
  have S11 := (S10.box rfl #[.int .i64 A.head, .slice ak A.kids.length (A.kids.length + asp)] 24).box (b := w8.heap.size + 1) (by simp) #[.int .i64 gc, .int .i64 ga] 28
  clear S7 S8 S9 S10 x0 x1 hl
  obtain ⟨⟨x0, _⟩, x1, _⟩ := S11.two 0
  obtain ⟨⟨y0, _⟩, y1, _⟩ := S11.two 1
  have hl := S11.lt 0
  have hl1 := S11.lt 1
  go_wp2_with fail
  refine St.gen S11 (z := w8.heap.size + 2) (by simp) ?_
  intro w9 z9 S12
  refine (S12.madeF (r := putF t place s) (put28 t place s _ po pc _ w9 (HT.out.kept S12.bel) (HP.out.below S12.bel) (HS.out.kept S12.bel) hpl hpc)).mono ?_
  rintro e w10 ⟨B, hc, ha, bk, bsp, rfl, HB, z10, S13⟩
  have S14 := (S13.box rfl #[.int .i64 B.head, .slice bk B.kids.length (B.kids.length + bsp)] 24).box (b := w10.heap.size + 1) (by simp) #[.int .i64 hc, .int .i64 ha] 28
  clear S11 S12 S13 x0 x1 hl y0 y1 hl1
  go_upto_region 7 with fail
  refine S14.genC (z := w10.heap.size + 2) (by simp) ?_
  intro w11 z11 S15
  have hcA : ∀ d os, Calls Try.prog 29 #[.agg #[.int .i64 t.head, .slice k t.kids.length (t.kids.length + sp)]] (Go.Sort.grow (redrawn w11 d) os) fun e w'' => e = .returned (.agg #[.int .i64 wc, .int .i64 wa]) ∧ ∃ p : Regrown, w'' = Go.Sort.grow (redrawn w11 p.d) p.os := fun d os =>
    Calls.regrown_of ((check29 t _ _ (HT.out.kept (S15.regrown d os).bel)).mono (fun e w'' h => ⟨by rw [h.1, HW.out]; rfl, h.2⟩))
  have CA := Lib.hid hcA
  obtain ⟨⟨x0, _⟩, x1, _⟩ := S15.two 0
  obtain ⟨⟨x2, _⟩, x3, _⟩ := S15.two 2
  obtain ⟨⟨x4, _⟩, x5, _⟩ := S15.two 4
  have r0 := cell_regrown x0; have r1 := cell_regrown x1; have r2 := cell_regrown x2; have r3 := cell_regrown x3; have r4 := cell_regrown x4; have r5 := cell_regrown x5
  clear hcA x0 x1 x2 x3 x4 x5 S14
  refine wp_region_quiet_below (by kernel_rfl) (by kernel_rfl) ?_
  repeat (go_big_quiet_step (exact CA.out _ _))
  refine wpQuiet_nil ?_
  intro _ hw'
  obtain ⟨⟨dq, osq⟩, hw''⟩ := hw'
  subst hw''
  refine (S15.regrown dq osq).genX (z := w10.heap.size + 2) (Nat.le_trans z11 (below_regrown w11 dq osq).size) ?_
  intro w12 z12 S16
  clear r0 r1 r2 r3 r4 r5 CA S15
  obtain ⟨⟨x0, _⟩, x1, _⟩ := S16.two 2
  have hl2 := S16.lt 2
  cases hwc : (wc != 0) with
  | true =>
    have hne : (treeF t).1 ≠ 0 := by rw [HW.out]; simpa using hwc
    obtain ⟨rfl, rfl, rfl⟩ : zeroT = A ∧ wc = gc ∧ wa = ga := by have := HA.out; rw [atF, if_pos hne, HW.out] at this; simpa using this
    obtain ⟨rfl, rfl, rfl⟩ : zeroT = B ∧ wc = hc ∧ wa = ha := by have := HB.out; rw [putF, if_pos hne, HW.out] at this; simpa using this
    have hvl : (((varsF t).length : Int) == 0) = true := by rw [varsF, if_neg hne]; rfl
    obtain ⟨⟨x2, _⟩, x3, _⟩ := S16.two 7
    obtain ⟨⟨x4, _⟩, x5, _⟩ := S16.two 10
    obtain ⟨⟨x6, _⟩, x7, _⟩ := S16.two 6
    have hl7 := S16.lt 7; have hl10 := S16.lt 10; have hl6 := S16.lt 6
    clear hne
    go_wp2_with fail
    refine (S16.quiet (none24 zeroT _ w12 (S16.tree 5).at)).mono ?_
    rintro e w13 ⟨rfl, z13, S17⟩
    rw [show decide (zeroT.head = 0 ∧ zeroT.kids.length = 0) = true by decide]
    clear x0 x1 x2 x3 x4 x5 x6 x7 S16
    obtain ⟨⟨x0, _⟩, x1, _⟩ := S17.two 9
    have hl9 := S17.lt 9
    go_wp2_with fail
    refine (S17.quiet (none24 zeroT _ w13 (S17.tree 8).at)).mono ?_
    rintro e w14 ⟨rfl, z14, S18⟩
    rw [show decide (zeroT.head = 0 ∧ zeroT.kids.length = 0) = true by decide]
    go_wp2_with fail
    refine bodyPost_ret (v := .bool true) (by simp [results, Try.results5, go_sem]) rfl ⟨rfl, S18.bel⟩
  | false =>
    have hok : (treeF t).1 = 0 := by rw [HW.out]; simpa using hwc
    obtain ⟨rfl, rfl⟩ : 0 = wc ∧ 0 = wa := by have := treeF_ok0 hok; rw [HW.out] at this; simpa using this.symm
    have hok3 := treeF_ok.1 hok
    have HOK := Lib.hid hok
    have hvf : varsF t = countsOf t := by rw [varsF, if_pos hok]
    have hvm : ((varsF t).length : Int) = t.most := by rw [hvf, countsOf]; have := t.most_nonneg; simp; omega
    have hm8 := most_le t hok3.2.2
    have hvb : (((varsF t).length : Int) != t.most) = false := by rw [hvm]; simp
    have HVF := Lib.hid hvf
    have hv8 : (varsF t).length ≤ 8 := by omega
    have HLOW := Lib.hid (low_of_pre t hok3.2.2)
    obtain ⟨⟨x2, _⟩, x3, _⟩ := S16.two 0
    have hl0 := S16.lt 0
    clear hok hok3 hvf hvm
    go_wp2_with fail
    refine (S16.quiet (most30 t _ w12 HLOW.out (HT.out.kept S16.bel))).mono ?_
    rintro e w13 ⟨rfl, z13, S17⟩
    clear x0 x1 x2 x3 S16
    go_wp2_with fail
    clear hvb
    go_loopw [14] (fun i wr => ∃ q : Nat, q ≤ (varsF t).length ∧ i = .int .i64 q ∧ Below w13.heap.size w13 wr) (fun i _ => (varsF t).length - (intOf i).toNat)
    case atStart => exact ⟨0, by omega, rfl, Below.refl _ _⟩
    case round =>
      obtain ⟨q, hq, rfl, hb⟩ := hrel
      by_cases hlt : q < (varsF t).length
      · have hlti : (q : Int) < ((varsF t).length : Int) := by omega
        have S := S17.step hb
        have zr := hb.size
        obtain ⟨b, off, rfl, c0⟩ : ∃ b off, lo = some ⟨b, off, none⟩ ∧ wr.cell? ⟨b, off + q, none⟩ = some (.int .i64 (t.times (-(q : Int) - 1) : Int)) := by
          obtain ⟨ao, cap, e, hc⟩ := S.ints 3
          obtain ⟨b, off, e2, _, h⟩ := hc q hlt
          obtain ⟨rfl, _⟩ : lo = ao ∧ lc = cap := by simpa using e
          refine ⟨b, off, e2, ?_⟩
          rw [h, gI_get hlt]
          have h2 := hlt
          simp only [HVF.out, countsOf, List.getElem_map, List.getElem_range]
        have hcA : ∀ d os, Calls Try.prog 31 #[.agg #[.int .i64 t.head, .slice k t.kids.length (t.kids.length + sp)], .int .i64 (-(q : Int) - 1)] (Go.Sort.grow (redrawn wr d) os) fun e w'' => e = .returned (.int .i64 (t.times (-(q : Int) - 1) : Int)) ∧ ∃ p : Regrown, w'' = Go.Sort.grow (redrawn wr p.d) p.os := fun d os =>
          Calls.regrown_of (times31 (-(q : Int) - 1) t _ _ (by omega) (HT.out.kept (S.regrown d os).bel))
        have CA := Lib.hid hcA
        obtain ⟨⟨x0, _⟩, x1, _⟩ := S.two 0
        have r0 := cell_regrown x0; have r1 := cell_regrown x1; have r2 := cell_regrown c0
        have hw10 : IntKind.i64.wrap (-(q : Int)) = -(q : Int) := IntWalk.i64_in _ (by omega)
        have hw11 : IntKind.i64.wrap (-(q : Int) - 1) = -(q : Int) - 1 := IntWalk.i64_in _ (by omega)
        clear hcA x0 x1 c0
        go_wp2_with fail
        refine wp_region_quiet_below (by kernel_rfl) (by kernel_rfl) ?_
        repeat (go_big_quiet_step (exact CA.out _ _))
        refine wpQuiet_nil ?_
        intro _ hw'
        obtain ⟨⟨dq, osq⟩, hw''⟩ := hw'
        subst hw''
        have hb2 : Below w13.heap.size w13 (Go.Sort.grow (redrawn wr dq) osq) := hb.trans ((below_regrown wr dq osq).mono hb.size)
        clear r0 r1 r2 CA S hw10 hw11
        generalize Go.Sort.grow (redrawn wr dq) osq = wq at hb2 ⊢
        go_wp2_with fail
        go_roundw
        case rel => exact ⟨q + 1, by omega, by go_num, hb2⟩
        case measure => simp [intOf] <;> omega
      · obtain rfl : q = (varsF t).length := by omega
        have S18 := S17.step hb
        have z18 := hb.size
        clear S17 hb
        obtain ⟨wd, rfl⟩ : ∃ W : World, W = wr := ⟨_, rfl⟩
        have S19 := S18.pick [0, 1, 2, 5, 6, 7, 8, 9, 10]
        clear S18
        obtain ⟨⟨x0, _⟩, x1, _⟩ := S19.two 0
        have hl0 := S19.lt 0
        go_wp2_with fail
        refine (down32 (fun b => b < w.heap.size) t place _ po pc wd (HT.out.foot.kept S19.bel) (HP.out.below S19.bel) (Nat.le_trans hpl hpc)).mono ?_
        rintro e w19 ⟨xk, xsp, rfl, hx, hb19⟩
        obtain ⟨⟨X, bad⟩, hG⟩ : ∃ r, t.get place 0 = r := ⟨_, rfl⟩
        rw [hG] at hx ⊢
        dsimp only at hx ⊢
        have HG := Lib.hid hG
        have S20 := ((S19.step hb19).add (.treeP (fun b => b < w.heap.size) _ X) (hx.kept hb19)).box rfl #[.int .i64 X.head, .slice xk X.kids.length (X.kids.length + xsp)] 24
        have z19 := hb19.size
        clear x0 x1 hl0 S19 hG hx hb19
        obtain ⟨⟨x0, x1⟩, x2, x3⟩ := S20.two 2
        have hl2 := S20.lt 2
        go_upto_if 106 with fail
        refine S20.genC (z := w19.heap.size + 1) (by simp) ?_
        intro w20 z20 S21
        clear x0 x1 x2 x3 hl2 S20
        go_cut [] (fun wx => w20.heap.size ≤ wx.heap.size ∧ St w wx [.box w.heap.size #[.int .i64 t.head, .slice k t.kids.length (t.kids.length + sp)] 24, .box (w.heap.size + 1) #[.int .i64 s.head, .slice so s.kids.length (s.kids.length + ssp)] 24, .box w4.heap.size #[.int .i64 gc, .int .i64 ga] 28, .tree w7.heap.size w8.heap.size (.agg #[.int .i64 A.head, .slice ak A.kids.length (A.kids.length + asp)]) A, .box w8.heap.size #[.int .i64 A.head, .slice ak A.kids.length (A.kids.length + asp)] 24, .box (w8.heap.size + 1) #[.int .i64 gc, .int .i64 ga] 28,
          .tree w9.heap.size w10.heap.size (.agg #[.int .i64 B.head, .slice bk B.kids.length (B.kids.length + bsp)]) B, .box w10.heap.size #[.int .i64 B.head, .slice bk B.kids.length (B.kids.length + bsp)] 24, .box (w10.heap.size + 1) #[.int .i64 hc, .int .i64 ha] 28, .treeP (fun b => b < w.heap.size) (.agg #[.int .i64 X.head, .slice xk X.kids.length (X.kids.length + xsp)]) X, .box w19.heap.size #[.int .i64 X.head, .slice xk X.kids.length (X.kids.length + xsp)] 24])
        case first =>
          have HAT := HA.out
          rw [atF, if_neg (by rw [HOK.out]; simp), HG.out] at HAT
          dsimp only at HAT
          by_cases hbad : 0 ≤ bad
          · rw [if_pos hbad] at HAT
            obtain ⟨rfl, rfl, rfl⟩ : zeroT = A ∧ 6 = gc ∧ bad = ga := by simpa using HAT
            clear HAT
            go_wp2_with fail
            refine (S21.quiet (fault20 6 bad w20)).mono ?_
            rintro e w21 ⟨rfl, z21, S22⟩
            obtain ⟨⟨x0, x1⟩, x2, x3⟩ := S22.two 2
            have hl2 := S22.lt 2
            have S23 := S22.set2 2 rfl (.int .i64 6) (.int .i64 bad) (by omega) (by simp only [List.map, Fct.at, fsnoc, offs, offAll, Fct.box, Fct.tree, Fct.treeP, and_true]; omega)
            have z22 : w20.heap.size ≤ ((w21.setCell ⟨w4.heap.size, 0, none⟩ (.int .i64 6)).setCell ⟨w4.heap.size, 1, none⟩ (.int .i64 bad)).heap.size := by simp; omega
            go_wp2_with fail
            go_meet
            exact ⟨z22, S23⟩
          · rw [if_neg hbad] at HAT
            obtain ⟨rfl, rfl, rfl⟩ : X = A ∧ 0 = gc ∧ 0 = ga := by simpa using HAT
            clear HAT
            go_wp2_with fail
            go_meet
            exact ⟨Nat.le_refl _, S21⟩
        case rest =>
          obtain ⟨zwx, S22⟩ := hcut
          obtain ⟨we, rfl⟩ : ∃ W : World, W = wc := ⟨_, rfl⟩
          clear S21
          go_upto_region 21 with fail
          go_cut [132] (fun s132 wx => w20.heap.size ≤ wx.heap.size ∧ s132 = .bool false ∧ St w wx [.box w.heap.size #[.int .i64 t.head, .slice k t.kids.length (t.kids.length + sp)] 24, .box (w.heap.size + 1) #[.int .i64 s.head, .slice so s.kids.length (s.kids.length + ssp)] 24, .box w4.heap.size #[.int .i64 gc, .int .i64 ga] 28, .tree w9.heap.size w10.heap.size (.agg #[.int .i64 B.head, .slice bk B.kids.length (B.kids.length + bsp)]) B, .box w10.heap.size #[.int .i64 B.head, .slice bk B.kids.length (B.kids.length + bsp)] 24, .box (w10.heap.size + 1) #[.int .i64 hc, .int .i64 ha] 28])
          case first =>
            have HAT := HA.out
            rw [atF, if_neg (by rw [HOK.out]; simp), HG.out] at HAT
            dsimp only at HAT
            obtain ⟨⟨x0, _⟩, x1, _⟩ := S22.two 5
            obtain ⟨⟨x2, _⟩, x3, _⟩ := S22.two 2
            obtain ⟨⟨x4, _⟩, x5, _⟩ := S22.two 4
            have hl5 := S22.lt 5; have hl2 := S22.lt 2; have hl4 := S22.lt 4
            by_cases hbad : 0 ≤ bad
            · rw [if_pos hbad] at HAT
              obtain ⟨rfl, rfl, rfl⟩ : zeroT = A ∧ 6 = gc ∧ bad = ga := by simpa using HAT
              clear HAT
              go_wp2_with fail
              refine (S22.quiet (none24 zeroT _ we (S22.tree 3).at)).mono ?_
              rintro e w23 ⟨rfl, z23, S23⟩
              rw [show decide (zeroT.head = 0 ∧ zeroT.kids.length = 0) = true by decide]
              go_wp2_with fail
              go_meet
              exact ⟨by omega, rfl, S23.pick [0, 1, 2, 6, 7, 8]⟩
            · rw [if_neg hbad] at HAT
              obtain ⟨rfl, rfl, rfl⟩ : X = A ∧ 0 = gc ∧ 0 = ga := by simpa using HAT
              clear HAT
              obtain ⟨⟨x6, _⟩, x7, _⟩ := S22.two 10
              have hl10 := S22.lt 10
              go_wp2_with fail
              refine (S22.quiet (same22 X X _ _ we (S22.tree 3).at (S22.treeP 9).at)).mono ?_
              rintro e w23 ⟨rfl, z23, S23⟩
              simp only [decide_true]
              clear x0 x1 x2 x3 x4 x5 x6 x7 hl5 hl2 hl4 hl10
              obtain ⟨⟨x2, _⟩, x3, _⟩ := S23.two 2
              have hl2 := S23.lt 2
              go_wp2_with fail
              go_meet
              exact ⟨by omega, rfl, S23.pick [0, 1, 2, 6, 7, 8]⟩
          case rest =>
            obtain ⟨zwy, rfl, S23⟩ := hcut
            clear S22
            obtain ⟨⟨x0, _⟩, x1, _⟩ := S23.two 1
            have hl1 := S23.lt 1
            go_wp2_with fail
            refine (S23.fault (f := treeF s) (tree18 s _ wc (by omega) (HS.out.kept S23.bel))).mono ?_
            rintro e w24 ⟨vc, va, rfl, HV, z24, S24⟩
            have S25 := S24.box rfl #[.int .i64 vc, .int .i64 va] 28
            clear S23 S24 x0 x1 hl1
            go_upto_if 137 with fail
            go_cut [] (fun wx => w20.heap.size ≤ wx.heap.size ∧ ∃ dc da, Hid ((if vc ≠ 0 then (vc, -1) else (gc, ga)) = (dc, da)) ∧ St w wx [.box w.heap.size #[.int .i64 t.head, .slice k t.kids.length (t.kids.length + sp)] 24, .box (w.heap.size + 1) #[.int .i64 s.head, .slice so s.kids.length (s.kids.length + ssp)] 24, .box w4.heap.size #[.int .i64 dc, .int .i64 da] 28, .tree w9.heap.size w10.heap.size (.agg #[.int .i64 B.head, .slice bk B.kids.length (B.kids.length + bsp)]) B, .box w10.heap.size #[.int .i64 B.head, .slice bk B.kids.length (B.kids.length + bsp)] 24, .box (w10.heap.size + 1) #[.int .i64 hc, .int .i64 ha] 28])
            case first =>
              have hzz : w20.heap.size ≤ w24.heap.size := by omega
              cases hvc : (vc != 0) with
              | true =>
                have hvn : vc ≠ 0 := by simpa using hvc
                have HVN := Lib.hid hvn
                obtain ⟨⟨x0, _⟩, x1, _⟩ := S25.two 6
                have hl6 := S25.lt 6
                clear hvn
                go_wp2_with fail
                refine St.gen S25 (z := w24.heap.size + 1) (by simp) ?_
                intro w25 z25 S26
                clear x0 x1 hl6 S25
                refine (S26.quiet (fault20 vc (-1) w25)).mono ?_
                rintro e w26 ⟨rfl, z26, S27⟩
                obtain ⟨⟨x0, x1⟩, x2, x3⟩ := S27.two 2
                have hl2 := S27.lt 2
                have S28 := S27.set2 2 rfl (.int .i64 vc) (.int .i64 (-1)) (by omega) (by simp only [fsnoc, offs, offAll, Fct.box, Fct.tree, and_true]; omega)
                have z28 : w20.heap.size ≤ ((w26.setCell ⟨w4.heap.size, 0, none⟩ (.int .i64 vc)).setCell ⟨w4.heap.size, 1, none⟩ (.int .i64 (-1))).heap.size := by simp; omega
                go_wp2_with fail
                go_meet
                exact ⟨z28, vc, -1, by rw [if_pos HVN.out]; rfl, S28.pick [0, 1, 2, 3, 4, 5]⟩
              | false =>
                have hvn : ¬ vc ≠ 0 := by simpa using hvc
                have HVN := Lib.hid hvn
                clear hvn
                have z28 : w20.heap.size ≤ (w24.alloc (.cells #[.int .i64 vc, .int .i64 va] 28)).heap.size := by simp; omega
                go_wp2_with fail
                go_meet
                exact ⟨z28, gc, ga, by rw [if_neg HVN.out]; rfl, S25.pick [0, 1, 2, 3, 4, 5]⟩
            case rest =>
              obtain ⟨zwz, dc, da, HD, S26⟩ := hcut
              clear S25
              obtain ⟨wf, rfl⟩ : ∃ W : World, W = wc := ⟨_, rfl⟩
              have S27 := S26.box rfl #[.int .i64 0, .slice none 0 0] 24
              clear S26
              have HPF := Lib.hid (show putF t place s = if vc ≠ 0 then (zeroT, (vc, -1)) else if 0 ≤ bad then (zeroT, (6, bad)) else if (treeF (T.withAt place t s)).1 ≠ 0 then (zeroT, (10, 0)) else (T.withAt place t s, (0, 0)) by
                rw [putF, if_neg (by rw [HOK.out]; simp), HV.out, HG.out])
              have HAF := Lib.hid (show (gc, ga) = if 0 ≤ bad then (6, bad) else (0, 0) by
                have h := HA.out
                rw [atF, if_neg (by rw [HOK.out]; simp), HG.out] at h
                dsimp only at h
                by_cases hb : 0 ≤ bad
                · rw [if_pos hb] at h ⊢; exact (congrArg Prod.snd h).symm
                · rw [if_neg hb] at h ⊢; exact (congrArg Prod.snd h).symm)
              cases hdc : (dc == 0) with
              | false =>
                obtain ⟨rfl, rfl, rfl⟩ : zeroT = B ∧ dc = hc ∧ da = ha := by
                  have h := HB.out; have h2 := HD.out; have h3 := HAF.out
                  have h4 : dc ≠ 0 := by simpa using hdc
                  rw [HPF.out] at h
                  by_cases hv : vc ≠ 0
                  · rw [if_pos hv] at h h2; simp at h h2; simp [h, ← h2]
                  · rw [if_neg hv] at h h2
                    rw [h3] at h2
                    by_cases hb : 0 ≤ bad
                    · rw [if_pos hb] at h h2; simp at h h2; simp [h, ← h2]
                    · rw [if_neg hb] at h2; simp at h2; omega
                obtain ⟨⟨x0, _⟩, x1, _⟩ := S27.two 2
                obtain ⟨⟨x2, _⟩, x3, _⟩ := S27.two 5
                obtain ⟨⟨x4, _⟩, x5, _⟩ := S27.two 4
                have hl2 := S27.lt 2; have hl5 := S27.lt 5; have hl4 := S27.lt 4
                go_wp2_with fail
                refine St.gen S27 (z := w20.heap.size) (by simp; omega) ?_
                intro wg zg S28
                refine (S28.quiet (same22 zeroT zeroT _ _ wg (S28.tree 3).at (TreeAt.zero _))).mono ?_
                rintro e wh ⟨rfl, zh, S29⟩
                simp only [decide_true]
                go_wp2_with fail
                refine bodyPost_ret (v := .bool true) (by simp [results, Try.results5, go_sem]) rfl ⟨rfl, S29.bel⟩
              | true =>
                obtain rfl : 0 = dc := (show dc = 0 by simpa using hdc).symm
                obtain ⟨hv0, hb0, rfl⟩ : ¬ vc ≠ 0 ∧ ¬ 0 ≤ bad ∧ 0 = da := by
                  have h2 := HD.out; have h3 := HAF.out
                  by_cases hv : vc ≠ 0
                  · rw [if_pos hv] at h2; simp at h2; exact absurd h2.1 hv
                  · rw [if_neg hv, h3] at h2
                    by_cases hb : 0 ≤ bad
                    · rw [if_pos hb] at h2; simp at h2
                    · rw [if_neg hb] at h2; simp at h2; exact ⟨hv, hb, h2⟩
                have HPG := Lib.hid (show putF t place s = if (treeF (T.withAt place t s)).1 ≠ 0 then (zeroT, (10, 0)) else (T.withAt place t s, (0, 0)) by rw [HPF.out, if_neg hv0, if_neg hb0])
                have hval := get_valid place t 0 (Int.le_refl 0) (by rw [HG.out]; simp only; omega)
                have HVAL := Lib.hid (show ∀ z ∈ place, 1 ≤ z ∧ z ≤ 100000000 from fun z hz => by have := hval z hz; omega)
                have hL : (T.withAt place t s).size ≤ 1000000 := by have := withAt_size s place t; omega
                obtain ⟨L, hLL⟩ : ∃ L, T.withAt place t s = L := ⟨_, rfl⟩
                rw [hLL] at HPG hL
                have HLL := Lib.hid hLL
                clear hLL hval hv0 hb0
                obtain ⟨⟨x0, _⟩, x1, _⟩ := S27.two 2
                obtain ⟨⟨x2, _⟩, x3, _⟩ := S27.two 0
                obtain ⟨⟨x4, _⟩, x5, _⟩ := S27.two 1
                have hl2 := S27.lt 2; have hl0 := S27.lt 0; have hl1 := S27.lt 1
                go_wp2_with fail
                refine St.gen S27 (z := wf.heap.size + 1) (by simp) ?_
                intro wg zg S28
                clear x0 x1 x2 x3 x4 x5 hl2 hl0 hl1 S27
                have hsz := S28.size
                refine (laid33 s place t (fun b => b < w.heap.size) _ po pc _ wg (fun b h => Nat.lt_of_lt_of_le h hsz) (HT.out.foot.kept S28.bel) (HS.out.foot.kept S28.bel) (HP.out.below S28.bel) hpl hpc (by omega) HVAL.out).mono ?_
                rintro e wh ⟨u, rfl, hu, hbh⟩
                rw [HLL.out] at hu
                obtain ⟨uk, usp, rfl⟩ := hu.at.form
                have S29 := (S28.step hbh).add (.treeP (fun b => b < w.heap.size ∨ wg.heap.size ≤ b) _ L) hu
                have zh := hbh.size
                clear hu hbh S28
                obtain ⟨⟨x0, x1⟩, x2, x3⟩ := S29.two 6
                have hl6 := S29.lt 6
                have S30 := S29.set2 6 rfl (.int .i64 L.head) (.slice uk L.kids.length (L.kids.length + usp)) (by omega) (by simp only [fsnoc, offs, offAll, Fct.box, Fct.tree, Fct.treeP, and_true]; omega)
                go_wp2_with fail
                refine St.gen S30 (z := wg.heap.size) (by simp; omega) ?_
                intro wi zi S31
                clear x0 x1 x2 x3 hl6 S29 S30
                refine (S31.fault (f := treeF L) (tree18 L _ wi hL (S31.treeP 7).at)).mono ?_
                rintro e wj ⟨ec, ea, rfl, HE, zj, S32⟩
                have hfld := field28_0
                cases hec : (ec != 0) with
                | true =>
                  obtain ⟨rfl, rfl, rfl⟩ : zeroT = B ∧ 10 = hc ∧ 0 = ha := by have h := HB.out; rw [HPG.out, HE.out, if_pos (by simpa using hec)] at h; simpa using h
                  go_wp2_with fail
                  refine (S32.quiet (fault20 10 0 wj)).mono ?_
                  rintro e wk ⟨rfl, zk, S33⟩
                  obtain ⟨⟨x0, x1⟩, x2, x3⟩ := S33.two 2
                  obtain ⟨⟨y0, y1⟩, y2, y3⟩ := S33.two 6
                  have hl2 := S33.lt 2; have hl6 := S33.lt 6
                  have S34 := (S33.set2 2 rfl (.int .i64 10) (.int .i64 0) (by omega) (by simp only [fset, fsnoc, offs, offAll, Fct.box, Fct.tree, Fct.treeP, and_true]; omega)).set2 6 rfl (.int .i64 0) (.slice none 0 0) (by omega) (by simp only [fset, fsnoc, offs, offAll, Fct.box, Fct.tree, Fct.treeP, and_true]; omega)
                  obtain ⟨⟨x4, _⟩, x5, _⟩ := S33.two 5
                  obtain ⟨⟨x6, _⟩, x7, _⟩ := S33.two 4
                  have hl5 := S33.lt 5; have hl4 := S33.lt 4
                  go_wp2_with fail
                  refine St.gen S34 (z := wj.heap.size) (by simp; omega) ?_
                  intro wl zl S35
                  refine (S35.quiet (same22 zeroT zeroT _ _ wl (S35.tree 3).at (TreeAt.zero _))).mono ?_
                  rintro e wm ⟨rfl, zm, S36⟩
                  simp only [decide_true]
                  go_wp2_with fail
                  refine bodyPost_ret (v := .bool true) (by simp [results, Try.results5, go_sem]) rfl ⟨rfl, S36.bel⟩
                | false =>
                  obtain ⟨rfl, rfl, rfl⟩ : L = B ∧ 0 = hc ∧ 0 = ha := by have h := HB.out; rw [HPG.out, HE.out, if_neg (by simpa using hec)] at h; simpa using h
                  obtain ⟨⟨x0, x1⟩, x2, x3⟩ := S32.two 2
                  obtain ⟨⟨y0, y1⟩, y2, y3⟩ := S32.two 6
                  obtain ⟨⟨x4, _⟩, x5, _⟩ := S32.two 5
                  obtain ⟨⟨x6, _⟩, x7, _⟩ := S32.two 4
                  have hl2 := S32.lt 2; have hl6 := S32.lt 6
                  have hl5 := S32.lt 5; have hl4 := S32.lt 4
                  go_wp2_with fail
                  refine (S32.quiet (same22 L L _ _ wj (S32.tree 3).at (S32.treeP 7).at)).mono ?_
                  rintro e wk ⟨rfl, zk, S33⟩
                  simp only [decide_true]
                  go_wp2_with fail
                  refine bodyPost_ret (v := .bool true) (by simp [results, Try.results5, go_sem]) rfl ⟨rfl, S33.bel⟩
end Go.Proofs.Ytcckgfgobakphaa
