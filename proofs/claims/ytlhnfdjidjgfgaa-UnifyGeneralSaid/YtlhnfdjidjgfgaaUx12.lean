/-
  Walks: UnifyGeneral.
-/
import Derived.Test.YtlhnfdjidjgfgaaProg
import Derived.Test.YtlhnfdjidjgfgaaUx11
import Derived.Test.YtlhnfdjidjgfgaaUn5
namespace Go.Proofs.Ytlhnfdjidjgfgaa
open Go.RowKit Go.Shelf
set_option linter.unusedVariables false
set_option maxHeartbeats 400000

set_option maxRecDepth 100000 in
set_option maxHeartbeats 8000000 in
theorem general10 (A B : T) (D : List T) (va vb : Value) (dO : Option Addr) (dc : Nat) (w : World) (hA : TreeAt w va A) (hB : TreeAt w vb B) (hD : RowAt w dO D) :
    Calls Try.prog 10 #[va, vb, .slice dO D.length dc] w fun e w' => e = .returned (.bool true) ∧ Below w.heap.size w w' := by
  obtain ⟨ka, sa, rfl⟩ := hA.form
  obtain ⟨kb, sb, rfl⟩ := hB.form
  have TA := Lib.hid hA; have TB := Lib.hid hB; have TD := Lib.hid hD
  obtain ⟨bx, hbx⟩ : ∃ b, b = w.heap.size := ⟨_, rfl⟩
  have S1 := ((St.start w).box hbx.symm #[.int .i64 A.head, .slice ka A.kids.length (A.kids.length + sa)] 38).box (b := bx + 1) (by simp [hbx]) #[.int .i64 B.head, .slice kb B.kids.length (B.kids.length + sb)] 38
  have hsz2 : ((w.alloc (.cells #[.int .i64 A.head, .slice ka A.kids.length (A.kids.length + sa)] 38)).alloc (.cells #[.int .i64 B.head, .slice kb B.kids.length (B.kids.length + sb)] 38)).heap.size = bx + 2 := by simp [hbx]
  clear hA hB hD
  go_enter Try.func10, Try.ntmps10
  go_wp2_with fail
  rw [← hbx]
  refine S1.gen (z := bx + 2) (by omega) ?_
  intro w1 z1 S
  have HBX := Lib.hid (show w.heap.size ≤ bx ∧ bx ≤ w.heap.size by omega)
  clear S1 hsz2 hbx
  refine (S.quiet (fact36 w1)).mono ?_
  rintro e w2 ⟨rfl, z2, S2⟩
  clear S
  obtain ⟨⟨x0, _⟩, x1, _⟩ := S2.two 1
  obtain ⟨⟨y0, _⟩, y1, _⟩ := S2.two 0
  go_wp2_with fail
  refine (S2.did9 (p0 := fun b => b < w.heap.size) (do21P _ A D _ dO dc w2 (fun b h => by have := HBX.out; omega) (TA.out.foot.kept S2.bel) (TD.out.foot.kept S2.bel))).mono ?_
  rintro e w3 ⟨X, kx, sx, c, d, rfl, HX, z3, S3⟩
  obtain ⟨bX, hbX⟩ : ∃ b, b = w3.heap.size := ⟨_, rfl⟩
  have S4 := (S3.box (b := bX) hbX.symm #[.int .i64 X.head, .slice kx X.kids.length (X.kids.length + sx)] 38).box (b := bX + 1) (by simp [hbX]) #[.int .i64 c, .int .i64 d] 29
  clear S2 S3 x0 x1 y0 y1
  go_upto_region 5 with fail
  rw [← hbX]
  refine S4.genC (z := bX + 2) (by simp [hbX]) ?_
  intro w4 z4 S
  have HB1 := Lib.hid (show bx + 2 ≤ w2.heap.size ∧ w2.heap.size ≤ w3.heap.size ∧ w3.heap.size ≤ bX ∧ bX + 2 ≤ w4.heap.size by omega)
  clear S4 hbX z4 z3 z2 z1
  obtain ⟨⟨x0, _⟩, x1, _⟩ := S.two 1
  go_wp2_with fail
  refine (S.did9 (p0 := fun b => b < w.heap.size) (do21P _ B D _ dO dc w4 (fun b h => by have := HBX.out; have := HB1.out; omega) (TB.out.foot.kept S.bel) (TD.out.foot.kept S.bel))).mono ?_
  rintro e w5 ⟨Y, ky, sy, c', d', rfl, HY, z5, S3⟩
  obtain ⟨bY, hbY⟩ : ∃ b, b = w5.heap.size := ⟨_, rfl⟩
  have S4 := (S3.box (b := bY) hbY.symm #[.int .i64 Y.head, .slice ky Y.kids.length (Y.kids.length + sy)] 38).box (b := bY + 1) (by simp [hbY]) #[.int .i64 c', .int .i64 d'] 29
  clear S S3 x0 x1
  go_upto_region 6 with fail
  rw [← hbY]
  refine S4.genC (z := bY + 2) (by simp [hbY]) ?_
  intro w6 z6 S
  have HB2 := Lib.hid (show w4.heap.size ≤ w5.heap.size ∧ w5.heap.size ≤ bY ∧ bY + 2 ≤ w6.heap.size by omega)
  clear S4 hbY z6 z5
  -- S: 0 bx 1 bx+1 2 treeP X 3 bX 4 bX+1 5 treeP Y 6 bY 7 bY+1
  obtain ⟨⟨x0, _⟩, x1, _⟩ := S.two 4
  obtain ⟨⟨y0, _⟩, y1, _⟩ := S.two 7
  obtain ⟨⟨u0, _⟩, u1, _⟩ := S.two 3
  obtain ⟨⟨v0, _⟩, v1, _⟩ := S.two 6
  cases hc : (c != 0) with
  | true =>
    have HXZ := Lib.hid (show X.head = 0 ∧ X.kids.length = 0 by
      have h := doF_err (t := A) (bs := D) (by rw [HX.out]; simpa using hc)
      rw [HX.out] at h
      have h : X = zeroT := h
      rw [h]; exact ⟨rfl, rfl⟩)
    have hc2 : (c == 0) = false := by simpa using hc
    clear y0 y1 v0 v1 HY
    go_upto_region 7 with fail
    go_wp2_with fail
    refine (S.quiet (none24 X _ w6 (S.treeP 2).at)).mono ?_
    rintro e w7 ⟨rfl, z7, S7⟩
    rw [show decide (X.head = 0 ∧ X.kids.length = 0) = true from decide_eq_true HXZ.out]
    have HB := Lib.hid S7.bel
    clear S S7 x0 x1 u0 u1
    go_wp2_with fail
    go_ret
    exact ⟨rfl, HB.out⟩
  | false =>
    have hc0 : c = 0 := by simpa using hc
    subst hc0
    clear hc
    cases hc' : (c' != 0) with
    | true =>
      have HB := Lib.hid S.bel
      clear S u0 u1 v0 v1
      go_wp2_with fail
      go_ret
      exact ⟨rfl, HB.out⟩
    | false =>
      have hc0 : c' = 0 := by simpa using hc'
      subst hc0
      clear hc'
      go_wp2_with fail
      refine (S.quiet (same22 X Y _ _ w6 (S.treeP 2).at (S.treeP 5).at)).mono ?_
      rintro e w7 ⟨rfl, z7, S7⟩
      clear S x0 x1 y0 y1 u0 u1 v0 v1
      cases hq : decide (X = Y) with
      | false =>
        obtain ⟨⟨x0, _⟩, x1, _⟩ := S7.two 4
        have HB := Lib.hid S7.bel
        clear S7
        go_wp2_with fail
        go_ret
        exact ⟨rfl, HB.out⟩
      | true =>
        have hXY : X = Y := of_decide_eq_true hq
        subst hXY
        clear hq
        have HDA := Lib.hid (show doF A D = (X, (0, 0)) by
          have h := doF_ok (t := A) (bs := D) (by rw [HX.out])
          have h2 := h.1.symm.trans HX.out
          simp only [Prod.mk.injEq] at h2
          rw [h.1, h2.1])
        have HDB := Lib.hid (show doF B D = (X, (0, 0)) by
          have h := doF_ok (t := B) (bs := D) (by rw [HY.out])
          have h2 := h.1.symm.trans HY.out
          simp only [Prod.mk.injEq] at h2
          rw [h.1, h2.1])
        clear HX HY
        obtain ⟨⟨x0, _⟩, x1, _⟩ := S7.two 0
        obtain ⟨⟨y0, _⟩, y1, _⟩ := S7.two 1
        go_wp2_with fail
        refine (S7.did33 (unify33 A B _ _ w7 (TA.out.kept S7.bel) (TB.out.kept S7.bel))).mono ?_
        rintro e w8 ⟨L, ok, f, ro, rc, rfl, HU, z8, S8⟩
        have S9 := (S8.pick [4, 8]).set2 0 rfl (.int .i64 f.1) (.int .i64 f.2) (by have := HBX.out; have := HB1.out; omega) (by
          simp only [List.map, Fct.at, fsnoc, offs, offAll, Fct.box, Fct.row, Fct.treeP, and_true]; have := HB1.out; have := HB2.out; omega)
        obtain ⟨⟨q0, q0f⟩, q1, q1f⟩ := S8.two 4
        have hlf := S8.lt 4
        clear S7 S8 x0 x1 y0 y1
        go_upto_region 9 with fail
        refine S9.genC (z := w8.heap.size) (by simp) ?_
        intro w9 z9 S
        clear S9 q0 q0f q1 q1f hlf
        rcases general_law HDA.out HDB.out HU.out with rfl | ⟨rfl, rfl, hgen⟩
        · obtain ⟨⟨x0, _⟩, x1, _⟩ := S.two 0
          go_upto_region 10 with fail
          have CA := Lib.hid (fun d os => Calls.regrown_of (fault20 10 0 (Go.Sort.grow (redrawn w9 d) os)))
          have r0 := cell_regrown x0; have r1 := cell_regrown x1
          clear x0 x1
          refine wp_region_quiet_below (by kernel_rfl) (by kernel_rfl) ?_
          repeat (go_big_quiet_step (exact CA.out _ _))
          refine wpQuiet_nil ?_
          intro _ hw'
          obtain ⟨⟨dq, osq⟩, hw''⟩ := hw'
          subst hw''
          have SE := Lib.hid (S.regrown dq osq).bel
          clear r0 r1 CA S
          go_wp2_with fail
          go_ret
          exact ⟨rfl, SE.out⟩
        · have HG := Lib.hid hgen
          obtain ⟨⟨x0, _⟩, x1, _⟩ := S.two 0
          have hl8 := hgen.low
          clear hgen HU HDA HDB
          go_wp2_with fail
          clear x0 x1
          have S := S.pick [1]
          go_loopw [14] (fun i wr => ∃ k : Nat, k ≤ L.length ∧ i = .int .i64 k ∧ w8.heap.size ≤ wr.heap.size ∧ St w wr [.row w7.heap.size w8.heap.size ro L]) (fun i _ => L.length - (intOf i).toNat)
          case atStart => exact ⟨0, by omega, rfl, z9, S⟩
          case round =>
            clear S
            obtain ⟨k, hk, rfl, hz, S⟩ := hrel
            by_cases hlt : k < L.length
            · have hlti : (k : Int) < (L.length : Int) := by omega
              obtain ⟨b, off, ko, ksp, rfl, hp, c0, c1, c2⟩ := (S.row 0) k hlt
              by_cases hh : (gK L k).head = 0
              · have hhb : ((gK L k).head == 0) = true := by simpa using hh
                clear c1 c2
                go_wp2_with fail
                go_roundw
                case rel => exact ⟨k + 1, by omega, by go_num, hz, S⟩
                case measure => simp [intOf] <;> omega
              · have hhb : ((gK L k).head == 0) = false := by simpa using hh
                have HE := Lib.hid (HG.out.eq k hlt hh)
                obtain ⟨R, hR⟩ : ∃ R, R = thD D k := ⟨_, rfl⟩
                rw [← hR] at HE
                clear hR
                have c2' := Lib.hid c2.at
                clear c2 hp
                go_upto_region 17 with fail
                go_wp2_with fail
                refine (S.did9 (p0 := fun b => b < wr.heap.size) (do21P _ (gK L k) D _ dO dc wr (fun b h => h) c2'.out.foot (TD.out.below S.bel).foot)).mono ?_
                rintro e w10 ⟨X1, k1, s1, c3, d3, rfl, H1, z10, S10⟩
                obtain ⟨rfl, rfl, rfl⟩ : R = X1 ∧ 0 = c3 ∧ 0 = d3 := by
                  have h := HE.out.1.symm.trans H1.out
                  simp only [Prod.mk.injEq] at h
                  exact ⟨h.1, h.2.1, h.2.2⟩
                obtain ⟨b1, hb1⟩ : ∃ b, b = w10.heap.size := ⟨_, rfl⟩
                have S11 := (S10.box (b := b1) hb1.symm #[.int .i64 R.head, .slice k1 R.kids.length (R.kids.length + s1)] 38).box (b := b1 + 1) (by simp [hb1]) #[.int .i64 0, .int .i64 0] 29
                clear S S10 c0 c1
                go_upto_region 18 with fail
                rw [← hb1]
                refine S11.genC (z := b1 + 2) (by simp [hb1]) ?_
                intro w11 z11 S
                have hz11 : w8.heap.size ≤ w11.heap.size := by omega
                clear S11 hb1 z10 z11
                go_wp2_with fail
                refine (S.quiet (leaf25 (-(k : Int) - 1) w11)).mono ?_
                rintro e w12 ⟨rfl, z12, S12⟩
                clear S
                go_wp2_with fail
                refine (S12.did9 (p0 := fun b => b < w12.heap.size) (do21P _ (vT k) D _ dO dc w12 (fun b h => h) (TreeP.leaf _ _ _) (TD.out.below S12.bel).foot)).mono ?_
                rintro e w13 ⟨X2, k2, s2, c4, d4, rfl, H2, z13, S13⟩
                obtain ⟨rfl, rfl, rfl⟩ : R = X2 ∧ 0 = c4 ∧ 0 = d4 := by
                  have h := HE.out.2.symm.trans H2.out
                  simp only [Prod.mk.injEq] at h
                  exact ⟨h.1, h.2.1, h.2.2⟩
                obtain ⟨b2, hb2⟩ : ∃ b, b = w13.heap.size := ⟨_, rfl⟩
                have S14 := (S13.box (b := b2) hb2.symm #[.int .i64 R.head, .slice k2 R.kids.length (R.kids.length + s2)] 38).box (b := b2 + 1) (by simp [hb2]) #[.int .i64 0, .int .i64 0] 29
                clear S12 S13
                go_upto_region 19 with fail
                rw [← hb2]
                refine S14.genC (z := b2 + 2) (by simp [hb2]) ?_
                intro w14 z14 S
                have hz14 : w8.heap.size ≤ w14.heap.size := by omega
                clear S14 hb2 z12 z13 z14 hz11 H1 H2 HE
                obtain ⟨⟨x0, _⟩, x1, _⟩ := S.two 2
                obtain ⟨⟨y0, _⟩, y1, _⟩ := S.two 3
                obtain ⟨⟨u0, _⟩, u1, _⟩ := S.two 5
                obtain ⟨⟨v0, _⟩, v1, _⟩ := S.two 6
                go_wp2_with fail
                refine (S.quiet (same22 R R _ _ w14 (S.treeP 1).at (S.treeP 4).at)).mono ?_
                rintro e w15 ⟨rfl, z15, S15⟩
                rw [show decide (R = R) = true by simp]
                have S16 := S15.pick [0]
                have hz15 : w8.heap.size ≤ w15.heap.size := by omega
                clear S S15 x0 x1 y0 y1 u0 u1 v0 v1
                go_wp2_with fail
                go_roundw
                case rel => exact ⟨k + 1, by omega, by go_num, hz15, S16⟩
                case measure => simp [intOf] <;> omega
            · obtain rfl : k = L.length := by omega
              have hnl : ¬ ((L.length : Int) < (L.length : Int)) := by omega
              have HB := Lib.hid S.bel
              clear S
              go_wp2_with fail
              go_ret
              exact ⟨rfl, HB.out⟩
end Go.Proofs.Ytlhnfdjidjgfgaa
