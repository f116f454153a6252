/-
  Walk: the law FitMakes.
-/
import Derived.Test.YtcckgfgobakphaaProg
import Derived.Test.YtcckgfgobakphaaBase
import Derived.Test.YtcckgfgobakphaaT44
import Derived.Test.YtcckgfgobakphaaP10
import Derived.Deep.DeepCutAuto
import Derived.IntWalk
namespace Go.Proofs.Ytcckgfgobakphaa
open Go.RowKit Go.Shelf
set_option linter.unusedVariables false
set_option maxHeartbeats 400000

theorem St.doP {P : Program} {n : Nat} {a : Array Value} {w0 w : World} {l : List Fct} (S : St w0 w l) {p0 : Nat → Prop} {r : T × (Int × Int)} (h : Calls P n a w (DoPostP p0 r w)) :
    Calls P n a w fun e w' => ∃ A c d k sp, e = .returned (.tuple #[.agg #[.int .i64 A.head, .slice k A.kids.length (A.kids.length + sp)], .agg #[.int .i64 c, .int .i64 d]]) ∧ Hid (r = (A, c, d)) ∧ w.heap.size ≤ w'.heap.size ∧
      St w0 w' (fsnoc l (.treeP (fun b => p0 b ∨ (w.heap.size ≤ b ∧ b < w'.heap.size)) (.agg #[.int .i64 A.head, .slice k A.kids.length (A.kids.length + sp)]) A)) :=
  h.mono fun e w' ⟨u, h1, h2, h3⟩ => by
    obtain ⟨k, sp, rfl⟩ := h2.at.form
    exact ⟨r.1, r.2.1, r.2.2, k, sp, h1, rfl, h3.size, (S.step h3).add (.treeP _ _ _) (h2.mono fun b h hlt => by rcases h with h | h; exact .inl h; exact .inr ⟨h, hlt⟩)⟩

set_option maxRecDepth 100000 in
set_option maxHeartbeats 8000000 in
theorem fitMakes10 (p t : T) (cs : List T) (v u : Value) (bo : Option Addr) (bc : Nat) (w : World) (hp : TreeAt w v p) (ht : TreeAt w u t) (hc : RowAt w bo cs) :
    Calls Try.prog 10 #[v, u, .slice bo cs.length bc] w fun e w' => e = .returned (.bool true) ∧ Below w.heap.size w w' := by
  obtain ⟨po, psp, rfl⟩ := hp.form
  obtain ⟨tq, tsp, rfl⟩ := ht.form
  have HP := Lib.hid hp; have HT := Lib.hid ht; have HC := Lib.hid hc
  clear hp ht hc
  have S0 := ((St.start w).box rfl #[.int .i64 p.head, .slice po p.kids.length (p.kids.length + psp)] 24).box (b := w.heap.size + 1) (by simp) #[.int .i64 t.head, .slice tq t.kids.length (t.kids.length + tsp)] 24
  go_enter Try.func10, Try.ntmps10
  go_wp2_with fail
  refine St.gen S0 (z := w.heap.size + 2) (by simp) ?_
  intro w1 z1 S1
  refine (S1.quiet (fitFact37 w1)).mono ?_
  rintro e w2 ⟨rfl, z2, S2⟩
  clear S0 S1
  obtain ⟨⟨x0, _⟩, x1, _⟩ := S2.two 0
  obtain ⟨⟨x2, _⟩, x3, _⟩ := S2.two 1
  have hl0 := S2.lt 0; have hl1 := S2.lt 1
  go_wp2_with fail
  refine (S2.fitted (do34 p t _ _ w2 (HP.out.kept S2.bel) (HT.out.kept S2.bel))).mono ?_
  rintro e w3 ⟨L, ok, c, d, ro, rc, rfl, HD, z3, S3⟩
  have S4 := S3.box rfl #[.int .i64 c, .int .i64 d] 28
  clear S2 S3 x0 x1 x2 x3 hl0 hl1
  cases hcc : (c != 0) with
  | true =>
    obtain ⟨rfl, rfl⟩ := fitD_bad HD.out (by simpa using hcc)
    go_wp2_with fail
    refine bodyPost_ret (v := .bool true) (by simp [results, Try.results10, go_sem]) rfl ⟨rfl, S4.bel⟩
  | false =>
  obtain rfl : c = 0 := by simpa using hcc
  go_upto_if 33 with fail
  refine S4.genC (z := w3.heap.size + 1) (by simp) ?_
  intro w4 z4 S5
  clear S4 hcc
  go_cut [] (fun wx => w4.heap.size ≤ wx.heap.size ∧ St w wx [.box w.heap.size #[.int .i64 p.head, .slice po p.kids.length (p.kids.length + psp)] 24, .box (w.heap.size + 1) #[.int .i64 t.head, .slice tq t.kids.length (t.kids.length + tsp)] 24, .box w3.heap.size #[.int .i64 0, .int .i64 d] 28])
  case first =>
    cases ok with
    | false =>
      go_wp2_with fail
      go_meet
      exact ⟨Nat.le_refl _, S5.pick [0, 1, 3]⟩
    | true =>
      have HL1 := Lib.hid (makes_law1 HD.out)
      obtain ⟨⟨x0, _⟩, x1, _⟩ := S5.two 0
      have hl0 := S5.lt 0
      have hrow := S5.row 2
      go_wp2_with fail
      refine (S5.doP (p0 := fun b => b < w4.heap.size) (r := doF p L) (do21P _ p L _ ro rc w4 (fun b h => h) ((HP.out.kept S5.bel).foot) (hrow.at.foot))).mono ?_
      rintro e w5 ⟨A, gc, ga, ak, asp, rfl, HA, z5, S6⟩
      obtain ⟨rfl, rfl, rfl⟩ : t = A ∧ 0 = gc ∧ 0 = ga := by have h := HA.out; rw [HL1.out] at h; simpa using h
      have S7 := (S6.box rfl #[.int .i64 t.head, .slice ak t.kids.length (t.kids.length + asp)] 24).box (b := w5.heap.size + 1) (by simp) #[.int .i64 0, .int .i64 0] 28
      clear x0 x1 hl0 S5 S6 hrow
      obtain ⟨⟨x0, _⟩, x1, _⟩ := S7.two 1
      have hl1 := S7.lt 1
      go_wp2_with fail
      refine St.gen S7 (z := w5.heap.size + 2) (by simp) ?_
      intro w6 z6 S8
      clear x0 x1 hl1 S7
      refine (S8.quiet (same22 t t _ _ w6 (S8.treeP 4).at (HT.out.kept S8.bel))).mono ?_
      rintro e w7 ⟨rfl, z7, S9⟩
      simp only [decide_true]
      go_wp2_with fail
      go_meet
      exact ⟨by omega, S9.pick [0, 1, 3]⟩
  case rest =>
    obtain ⟨zwc, S6⟩ := hcut
    obtain ⟨wd, rfl⟩ : ∃ W : World, W = wc := ⟨_, rfl⟩
    clear S5
    obtain ⟨⟨x0, _⟩, x1, _⟩ := S6.two 0
    have hl0 := S6.lt 0
    go_wp2_with fail
    have hsz := S6.size
    refine (S6.doP (p0 := fun b => b < w.heap.size) (r := doF p cs) (do21P _ p cs _ bo bc wd (fun b h => by omega) ((HP.out.foot).kept S6.bel) ((HC.out.foot).kept S6.bel))).mono ?_
    rintro e w7 ⟨U, uc, ua, uk, usp, rfl, HU, z7, S7⟩
    obtain ⟨⟨y0, y1⟩, y2, y3⟩ := S7.two 2
    have hl2 := S7.lt 2
    have S8 := (S7.set2 2 rfl (.int .i64 uc) (.int .i64 ua) (by omega) (by simp only [fsnoc, offs, offAll, Fct.box, Fct.treeP, and_true]; omega)).box (b := w7.heap.size) (by simp) #[.int .i64 U.head, .slice uk U.kids.length (U.kids.length + usp)] 24
    clear x0 x1 hl0 S6 S7
    cases huc : (uc != 0) with
    | true =>
      have HZ := Lib.hid (show U = zeroT by have := doF_err (t := p) (bs := cs) (by rw [HU.out]; simpa using huc); rw [HU.out] at this; exact this)
      go_wp2_with fail
      refine St.gen S8 (z := w7.heap.size) (by simp) ?_
      intro w8 z8 S9
      refine (S9.quiet (none24 U _ w8 (S9.treeP 3).at)).mono ?_
      rintro e w9 ⟨rfl, z9, S10⟩
      go_wp2_with fail
      refine bodyPost_ret (v := .bool (decide (U.head = 0 ∧ U.kids.length = 0))) (by simp [results, Try.results10, go_sem]) rfl ⟨ret_bool (by rw [HZ.out]; simp [zeroT, T.head, T.kids]), S10.bel⟩
    | false =>
      obtain rfl : uc = 0 := by simpa using huc
      obtain ⟨L2, hf2, hlen2, hst2⟩ := makes_law2 HU.out
      have HF2 := Lib.hid hf2; have HLEN := Lib.hid hlen2; have HST := Lib.hid hst2
      have HPOK := Lib.hid (show (treeF p).1 = 0 from (fitD_ok hf2).1)
      clear hf2 hlen2 hst2
      obtain ⟨⟨x0, _⟩, x1, _⟩ := S8.two 0
      have hl0 := S8.lt 0
      go_wp2_with fail
      refine St.gen S8 (z := w7.heap.size) (by simp) ?_
      intro w8 z8 S9
      clear x0 x1 hl0 y0 y1 y2 y3 hl2 S8
      refine (S9.fitted (do34 p U _ _ w8 (HP.out.kept S9.bel) (S9.treeP 3).at)).mono ?_
      rintro e w9 ⟨L3, ok3, c3, d3, ro3, rc3, rfl, HD3, z9, S10⟩
      obtain ⟨rfl, rfl, rfl, rfl⟩ : L2 = L3 ∧ true = ok3 ∧ 0 = c3 ∧ 0 = d3 := by have h := HD3.out; rw [HF2.out] at h; simpa using h
      obtain ⟨⟨y0, y1⟩, y2, y3⟩ := S10.two 2
      have hl2 := S10.lt 2
      have S11 := S10.set2 2 rfl (.int .i64 0) (.int .i64 0) (by omega) (by simp only [fset, fsnoc, offs, offAll, Fct.box, Fct.treeP, Fct.row, and_true]; omega)
      obtain ⟨⟨x0, _⟩, x1, _⟩ := S10.two 0
      have hl0 := S10.lt 0
      go_upto_region 15 with fail
      refine S11.genC (z := w9.heap.size) (by simp) ?_
      intro w10 z10 S12
      clear x0 x1 hl0 y0 y1 y2 y3 hl2 S9 S10 S11
      obtain ⟨⟨x0, _⟩, x1, _⟩ := S12.two 0
      obtain ⟨⟨y0, _⟩, y1, _⟩ := S12.two 2
      have hl0 := S12.lt 0; have hl2 := S12.lt 2
      have hne : ((L2.length : Int) != p.most) = false := by rw [HLEN.out]; simp
      go_wp2_with fail
      refine (S12.quiet (most30 p _ w10 (low_of_pre p (ok_okA HPOK.out)) (HP.out.kept S12.bel))).mono ?_
      rintro e w11 ⟨rfl, z11, S13⟩
      clear x0 x1 y0 y1 hl0 hl2 S12
      go_wp2_with fail
      clear hne
      have hL8 : L2.length ≤ 8 := by have h1 := most_ok HPOK.out; have h2 := HLEN.out; omega
      have hps : p.size ≤ 1000000000 := by have h1 := (treeF_ok.1 HPOK.out).1; omega
      have hfin := Lib.hid (S13.pick [0, 5])
      have z11' : w9.heap.size ≤ w11.heap.size := by omega
      go_loopw [15, 16] (fun i _ wr => ∃ q : Nat, q ≤ L2.length ∧ i = .int .i64 q ∧ w9.heap.size ≤ wr.heap.size ∧ St w wr [.box w.heap.size #[.int .i64 p.head, .slice po p.kids.length (p.kids.length + psp)] 24, .row w8.heap.size w9.heap.size ro3 L2]) (fun i _ _ => L2.length - (intOf i).toNat)
      case atStart => exact ⟨0, by omega, rfl, z11', hfin.out⟩
      case round =>
        obtain ⟨q, hq, rfl, zr, S⟩ := hrel
        obtain ⟨wv, rfl⟩ : ∃ W : World, W = wr := ⟨_, rfl⟩
        by_cases hlt : q < L2.length
        · have hlti : (q : Int) < (L2.length : Int) := by omega
          have hw10 : IntKind.i64.wrap (-(q : Int)) = -(q : Int) := IntWalk.i64_in _ (by omega)
          have hw11 : IntKind.i64.wrap (-(q : Int) - 1) = -(q : Int) - 1 := IntWalk.i64_in _ (by omega)
          go_wp2_with fail
          refine (S.quiet (leaf25 (-(q : Int) - 1) wv)).mono ?_
          rintro e w12 ⟨rfl, z12, S14⟩
          have S15 := S14.box rfl #[.int .i64 (-(q : Int) - 1), .slice none 0 0] 24
          clear S S14
          go_upto_region 21 with fail
          refine S15.genC (z := w12.heap.size + 1) (by simp) ?_
          intro w13 z13 S16
          clear S15
          have HWR := Lib.hid hw10; have HWR2 := Lib.hid hw11
          clear hw10 hw11
          go_cut [102] (fun s102 wx => s102 = .bool (boundB cs q) ∧ w12.heap.size + 1 ≤ wx.heap.size ∧ St w wx [.box w.heap.size #[.int .i64 p.head, .slice po p.kids.length (p.kids.length + psp)] 24, .row w8.heap.size w9.heap.size ro3 L2, .box w12.heap.size #[.int .i64 (-(q : Int) - 1), .slice none 0 0] 24])
          case first =>
            by_cases hq2 : q < cs.length
            · have hq2i : (q : Int) < (cs.length : Int) := by omega
              obtain ⟨b, off, ko, ksp, rfl, c1, c2, c3⟩ := (HC.out.below S16.bel) q hq2
              have hbo := Lib.hid (show boundB cs q = ((gK cs q).head != 0) by simp [boundB, hq2])
              cases hz : ((gK cs q).head != 0) with
              | true =>
                rw [hz] at hbo
                go_wp2_with fail
                go_meet
                exact ⟨by rw [hbo.out], z13, S16⟩
              | false =>
                rw [hz] at hbo
                go_wp2_with fail
                go_meet
                exact ⟨by rw [hbo.out], z13, S16⟩
            · have hq2i : ¬ (q : Int) < (cs.length : Int) := by omega
              have hbo := Lib.hid (show boundB cs q = false by simp [boundB, hq2])
              go_wp2_with fail
              go_meet
              exact ⟨by rw [hbo.out], z13, S16⟩
          case rest =>
            obtain ⟨rfl, zx, S17⟩ := hcut
            obtain ⟨we, rfl⟩ : ∃ W : World, W = wc := ⟨_, rfl⟩
            clear S16
            go_upto_if 102 with fail
            go_cut [] (fun wx => ∃ k sp, w12.heap.size + 1 ≤ wx.heap.size ∧ St w wx [.box w.heap.size #[.int .i64 p.head, .slice po p.kids.length (p.kids.length + psp)] 24, .row w8.heap.size w9.heap.size ro3 L2, .box w12.heap.size #[.int .i64 (standF cs q).head, .slice k (standF cs q).kids.length ((standF cs q).kids.length + sp)] 24, .treeP (fun b => b < wx.heap.size) (.agg #[.int .i64 (standF cs q).head, .slice k (standF cs q).kids.length ((standF cs q).kids.length + sp)]) (standF cs q)])
            case first =>
              cases hbd : boundB cs q with
              | true =>
                have hq2 : q < cs.length := by simp [boundB] at hbd; exact hbd.1
                have HST2 := Lib.hid (show standF cs q = gK cs q by rw [standF, if_pos hbd])
                have hq2i : (q : Int) < (cs.length : Int) := by omega
                obtain ⟨b, off, ko, ksp, rfl, c1, c2, c3⟩ := (HC.out.below S17.bel) q hq2
                obtain ⟨⟨x0, x1⟩, x2, x3⟩ := S17.two 2
                have hl2 := S17.lt 2
                have S18 := S17.set2 2 rfl (.int .i64 (gK cs q).head) (.slice ko (gK cs q).kids.length ((gK cs q).kids.length + ksp)) (by omega) (by simp only [offs, offAll, Fct.box, Fct.row, and_true]; omega)
                have z18 : w12.heap.size + 1 ≤ ((we.setCell ⟨w12.heap.size, 0, none⟩ (.int .i64 (gK cs q).head)).setCell ⟨w12.heap.size, 1, none⟩ (.slice ko (gK cs q).kids.length ((gK cs q).kids.length + ksp))).heap.size := by simp; omega
                have hlb2 : b < w.heap.size ∨ True := .inr trivial
                have HT3 := Lib.hid (show TreeAt ((we.setCell ⟨w12.heap.size, 0, none⟩ (.int .i64 (gK cs q).head)).setCell ⟨w12.heap.size, 1, none⟩ (.slice ko (gK cs q).kids.length ((gK cs q).kids.length + ksp))) (.agg #[.int .i64 (gK cs q).head, .slice ko (gK cs q).kids.length ((gK cs q).kids.length + ksp)]) (gK cs q) from by
                  obtain ⟨b', off', ko', ksp', e', d1, d2, d3⟩ := (HC.out.below S18.bel) q hq2
                  have hbl : b < w.heap.size := by
                    obtain ⟨b4, off4, ko4, ksp4, e4, f1, _, _⟩ := HC.out q hq2
                    have h5 := block_lt_of_cell f1
                    simp at e4; rw [e4.1]; exact h5
                  have e5 : b = b' ∧ off = off' := by simpa using e'
                  have h6 : ((we.setCell ⟨w12.heap.size, 0, none⟩ (.int .i64 (gK cs q).head)).setCell ⟨w12.heap.size, 1, none⟩ (.slice ko (gK cs q).kids.length ((gK cs q).kids.length + ksp))).cell? ⟨b, off + q * 2 + 1, none⟩ = we.cell? ⟨b, off + q * 2 + 1, none⟩ := by
                    rw [World.cell?_setCell_other _ _ _ _ (by first | (simp; done) | (simp; omega)), World.cell?_setCell_other _ _ _ _ (by first | (simp; done) | (simp; omega))]
                  rw [← e5.1, ← e5.2, h6, c2] at d2
                  have e7 := Option.some.inj d2
                  simp at e7
                  obtain ⟨rfl, e8⟩ := e7
                  obtain rfl : ksp = ksp' := by omega
                  exact d3)
                clear c3
                go_wp2_with fail
                go_meet
                rw [HST2.out]
                exact ⟨ko, ksp, z18, S18.add (.treeP _ _ (gK cs q)) HT3.out.foot⟩
              | false =>
                have HST2 := Lib.hid (show standF cs q = .node (-(q : Int) - 1) [] by rw [standF, if_neg (by rw [hbd]; simp)])
                go_wp2_with fail
                go_meet
                rw [HST2.out]
                exact ⟨none, 0, zx, S17.add (.treeP _ _ (.node (-(q : Int) - 1) [])) (TreeP.leaf _ _ _)⟩
            case rest =>
              obtain ⟨ks, kp, zy, S18⟩ := hcut
              obtain ⟨wf, rfl⟩ : ∃ W : World, W = wc := ⟨_, rfl⟩
              clear S17
              go_upto_region 23 with fail
              have hw10 := HWR.out
              have hw11 := HWR2.out
              obtain ⟨b, off, ko, ksp, rfl, _, c1, c2, c3⟩ := (S18.row 1) q hlt
              obtain ⟨⟨x0, _⟩, x1, _⟩ := S18.two 0
              obtain ⟨⟨y0, _⟩, y1, _⟩ := S18.two 2
              obtain ⟨m, hm⟩ : ∃ m : Nat, p.times (-(q : Int) - 1) = m := ⟨_, rfl⟩
              have hcA : ∀ d os, Calls Try.prog 31 #[.agg #[.int .i64 p.head, .slice po p.kids.length (p.kids.length + psp)], .int .i64 (-(q : Int) - 1)] (Go.Sort.grow (redrawn wf d) os) fun e w'' => e = .returned (.int .i64 (m : Int)) ∧ ∃ p : Regrown, w'' = Go.Sort.grow (redrawn wf p.d) p.os := fun d os =>
                Calls.regrown_of ((times31 (-(q : Int) - 1) p _ _ hps (HP.out.kept (S18.regrown d os).bel)).mono (fun e w'' h => ⟨by rw [h.1, hm], h.2⟩))
              have hcB : ∀ d os, Calls Try.prog 22 #[.agg #[.int .i64 (gK L2 q).head, .slice ko (gK L2 q).kids.length ((gK L2 q).kids.length + ksp)], .agg #[.int .i64 (standF cs q).head, .slice ks (standF cs q).kids.length ((standF cs q).kids.length + kp)]] (Go.Sort.grow (redrawn wf d) os) fun e w'' => e = .returned (.bool (decide (gK L2 q = standF cs q))) ∧ ∃ p : Regrown, w'' = Go.Sort.grow (redrawn wf p.d) p.os := fun d os =>
                Calls.regrown_of (same22 (gK L2 q) (standF cs q) _ _ _ (c3.at.kept (below_regrown wf d os)) (((S18.treeP 3).at).kept (below_regrown wf d os)))
              have CA := Lib.hid hcA
              have CB := Lib.hid hcB
              have HMM := Lib.hid hm
              have r0 := cell_regrown x0; have r1 := cell_regrown x1; have r2 := cell_regrown y0; have r3 := cell_regrown y1; have r4 := cell_regrown c1; have r5 := cell_regrown c2
              clear hcA hcB x0 x1 y0 y1 c1 c2 c3 hm
              by_cases hm0 : 0 < m
              · have hgt : decide ((0 : Int) < (m : Int)) = true := decide_eq_true (by omega)
                have HE := Lib.hid (show decide (gK L2 q = standF cs q) = true from decide_eq_true (HST.out q hlt (by rw [HMM.out]; exact hm0)))
                rw [HE.out] at CB
                refine wp_region_quiet_below (by kernel_rfl) (by kernel_rfl) ?_
                repeat (go_big_quiet_step (first | exact CA.out _ _ | exact CB.out _ _))
                refine wpQuiet_nil ?_
                intro _ hw'
                obtain ⟨⟨dq, osq⟩, hw''⟩ := hw'
                subst hw''
                have S19 := (S18.regrown dq osq).pick [0, 1]
                have z19 : w9.heap.size ≤ (Go.Sort.grow (redrawn wf dq) osq).heap.size := by have h1 := (below_regrown wf dq osq).size; omega
                clear r0 r1 r2 r3 r4 r5 CA CB S18 hw10 hw11
                go_wp2_with fail
                go_roundw
                case rel => exact ⟨q + 1, by omega, by go_num, z19, S19⟩
                case measure => simp [intOf] <;> omega
              · have hgt : decide ((0 : Int) < (m : Int)) = false := decide_eq_false (by omega)
                refine wp_region_quiet_below (by kernel_rfl) (by kernel_rfl) ?_
                repeat (go_big_quiet_step (first | exact CA.out _ _ | exact CB.out _ _))
                refine wpQuiet_nil ?_
                intro _ hw'
                obtain ⟨⟨dq, osq⟩, hw''⟩ := hw'
                subst hw''
                have S19 := (S18.regrown dq osq).pick [0, 1]
                have z19 : w9.heap.size ≤ (Go.Sort.grow (redrawn wf dq) osq).heap.size := by have h1 := (below_regrown wf dq osq).size; omega
                clear r0 r1 r2 r3 r4 r5 CA CB S18 hw10 hw11
                go_wp2_with fail
                go_roundw
                case rel => exact ⟨q + 1, by omega, by go_num, z19, S19⟩
                case measure => simp [intOf] <;> omega
        · obtain rfl : q = L2.length := by omega
          go_wp2_with fail
          refine bodyPost_ret (v := .bool true) (by simp [results, Try.results10, go_sem]) rfl ⟨rfl, S.bel⟩
end Go.Proofs.Ytcckgfgobakphaa
