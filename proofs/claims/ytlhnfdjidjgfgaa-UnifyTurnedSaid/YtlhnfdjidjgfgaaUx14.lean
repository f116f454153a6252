/-
  Walks: UnifyTurned.
-/
import Derived.Test.YtlhnfdjidjgfgaaProg
import Derived.Test.YtlhnfdjidjgfgaaUx11
import Derived.Test.YtlhnfdjidjgfgaaUx13
import Derived.Test.YtlhnfdjidjgfgaaUn6
namespace Go.Proofs.Ytlhnfdjidjgfgaa
open Go.RowKit Go.Shelf
set_option linter.unusedVariables false
set_option maxHeartbeats 400000

set_option maxRecDepth 100000 in
set_option maxHeartbeats 8000000 in
theorem turned11 (A B : T) (va vb : Value) (w : World) (hA : TreeAt w va A) (hB : TreeAt w vb B) :
    Calls Try.prog 11 #[va, vb] w fun e w' => e = .returned (.bool true) ∧ Below w.heap.size w w' := by
  obtain ⟨ka, sa, rfl⟩ := hA.form
  obtain ⟨kb, sb, rfl⟩ := hB.form
  have TA := Lib.hid hA; have TB := Lib.hid hB
  obtain ⟨bx, hbx⟩ : ∃ b, b = w.heap.size := ⟨_, rfl⟩
  have S1 := ((St.start w).box hbx.symm #[.int .i64 A.head, .slice ka A.kids.length (A.kids.length + sa)] 38).box (b := bx + 1) (by simp [hbx]) #[.int .i64 B.head, .slice kb B.kids.length (B.kids.length + sb)] 38
  have hsz2 : ((w.alloc (.cells #[.int .i64 A.head, .slice ka A.kids.length (A.kids.length + sa)] 38)).alloc (.cells #[.int .i64 B.head, .slice kb B.kids.length (B.kids.length + sb)] 38)).heap.size = bx + 2 := by simp [hbx]
  clear hA hB
  go_enter Try.func11, Try.ntmps11
  go_wp2_with fail
  rw [← hbx]
  refine S1.gen (z := bx + 2) (by omega) ?_
  intro w1 z1 S
  have HBX := Lib.hid (show w.heap.size ≤ bx ∧ bx ≤ w.heap.size by omega)
  clear S1 hsz2 hbx
  refine (S.quiet (fact36 w1)).mono ?_
  rintro e w2 ⟨rfl, z2, S2⟩
  clear S
  obtain ⟨⟨x0, _⟩, x1, _⟩ := S2.two 0
  obtain ⟨⟨y0, _⟩, y1, _⟩ := S2.two 1
  go_wp2_with fail
  refine (S2.did33 (unify33 A B _ _ w2 (TA.out.kept S2.bel) (TB.out.kept S2.bel))).mono ?_
  rintro e w3 ⟨L, ok, f, ro, rc, rfl, HU, z3, S3⟩
  clear S2 x0 x1 y0 y1
  obtain ⟨bf, hbf⟩ : ∃ b, b = w3.heap.size := ⟨_, rfl⟩
  have S4 := S3.box (b := bf) hbf.symm #[.int .i64 f.1, .int .i64 f.2] 29
  clear S3
  go_upto_region 5 with fail
  rw [← hbf]
  refine S4.genC (z := bf + 1) (by simp [hbf]) ?_
  intro w4 z4 S
  have HBF := Lib.hid (show bx + 2 ≤ bf ∧ bf + 1 ≤ w4.heap.size ∧ w3.heap.size ≤ bf by omega)
  clear S4 hbf z4 z3 z2 z1
  obtain ⟨⟨x0, _⟩, x1, _⟩ := S.two 0
  obtain ⟨⟨y0, _⟩, y1, _⟩ := S.two 1
  go_wp2_with fail
  refine (S.did33 (unify33 B A _ _ w4 (TB.out.kept S.bel) (TA.out.kept S.bel))).mono ?_
  rintro e w5 ⟨M, is, g, mo, mc, rfl, HV, z5, S5⟩
  clear S x0 x1 y0 y1
  obtain ⟨bg, hbg⟩ : ∃ b, b = w5.heap.size := ⟨_, rfl⟩
  have S6 := S5.box (b := bg) hbg.symm #[.int .i64 g.1, .int .i64 g.2] 29
  clear S5
  go_upto_region 6 with fail
  rw [← hbg]
  refine S6.genC (z := bg + 1) (by simp [hbg]) ?_
  intro w6 z6 S
  have HBG := Lib.hid (show w4.heap.size ≤ bg ∧ w5.heap.size ≤ bg ∧ bg + 1 ≤ w6.heap.size by omega)
  clear S6 hbg z6 z5
  obtain ⟨⟨x0, _⟩, x1, _⟩ := S.two 3
  obtain ⟨⟨y0, _⟩, y1, _⟩ := S.two 5
  have HL := Lib.hid (turned_law HU.out HV.out)
  have HLL := Lib.hid HU.out.len
  have HML := Lib.hid HV.out.len
  cases hc : (f.1 != 0) with
  | true =>
    have h1 : (f.1 == 0) = false := by simpa using hc
    have h2 : (g.1 == 0) = false := by
      have h3 : ¬ f.1 = 0 := by simpa using hc
      have h4 : ¬ g.1 = 0 := fun h => h3 (HL.out.1.2 h)
      simpa using h4
    have HB := Lib.hid S.bel
    clear S HU HV
    go_wp2_with fail
    go_ret
    exact ⟨rfl, HB.out⟩
  | false =>
    have h0 : f.1 = 0 := by simpa using hc
    have h0g : (g.1 != 0) = false := by simpa using HL.out.1.1 h0
    obtain ⟨rfl, rfl, hA, hB, hfit⟩ := HL.out.2 h0
    have HFA := Lib.hid hA; have HFB := Lib.hid hB; have HFIT := Lib.hid hfit
    clear hA hB hfit HU HV HL h0
    go_wp2_with fail
    refine (S.quiet (binds35 L L ro mo rc mc w6 (S.row 2).at (S.row 4).at (by have := HLL.out; omega) (by have := HLL.out; omega))).mono ?_
    rintro e w7 ⟨rfl, z7, S7⟩
    rw [show decide (L = L) = true by simp]
    clear S x0 x1 y0 y1 hc h0g
    obtain ⟨⟨y0, _⟩, y1, _⟩ := S7.two 1
    go_wp2_with fail
    have hlow : B.low := low_of_pre B (treeF_ok.1 HFB.out).2.2
    refine (S7.quiet (most30 B _ w7 hlow (TB.out.kept S7.bel))).mono ?_
    rintro e w8 ⟨rfl, z8, S8⟩
    have hm8 := most_le B (treeF_ok.1 HFB.out).2.2
    clear S7 y0 y1 hlow
    by_cases hm : 0 < B.most
    · have HB := Lib.hid S8.bel
      clear S8
      go_wp2_with fail
      go_ret
      exact ⟨rfl, HB.out⟩
    · have HOK := Lib.hid (HFIT.out (by omega))
      obtain ⟨⟨x0, _⟩, x1, _⟩ := S8.two 0
      obtain ⟨⟨y0, _⟩, y1, _⟩ := S8.two 1
      go_wp2_with fail
      refine (S8.fitted (fit41 A B _ _ w8 (TA.out.kept S8.bel) (TB.out.kept S8.bel))).mono ?_
      rintro e w9 ⟨K, fk, c, d, ko, kc, rfl, HK, z9, S9⟩
      have hk : K = fitLst A B ∧ fk = (fitF A B).isSome ∧ c = 0 ∧ d = 0 := by
        have h : fitD A B = (fitLst A B, (fitF A B).isSome, 0, 0) := by
          rw [fitD, if_neg (by simpa using HFA.out), if_neg (by simpa using HFB.out)]
        rw [HK.out] at h
        simp only [Prod.mk.injEq] at h
        exact ⟨h.1, h.2.1, h.2.2.1, h.2.2.2⟩
      obtain ⟨-, hfk, rfl, rfl⟩ := hk
      obtain rfl : fk = ok := hfk.trans HOK.out.symm
      clear hfk
      have S10 := (S9.pick [3]).set2 0 rfl (.int .i64 0) (.int .i64 0) (by have := HBX.out; have := HBF.out; omega) trivial
      obtain ⟨⟨q0, q0f⟩, q1, q1f⟩ := S9.two 3
      have hlf := S9.lt 3
      clear S8 S9 x0 x1 y0 y1
      go_upto_region 13 with fail
      refine S10.genC (z := w9.heap.size) (by simp) ?_
      intro w10 z10 S
      clear S10 q0 q0f q1 q1f hlf
      obtain ⟨⟨u0, _⟩, u1, _⟩ := S.two 0
      have HB := Lib.hid S.bel
      clear S
      cases fk with
      | true =>
        go_wp2_with fail
        go_ret
        exact ⟨rfl, HB.out⟩
      | false =>
        go_wp2_with fail
        go_ret
        exact ⟨rfl, HB.out⟩
end Go.Proofs.Ytlhnfdjidjgfgaa
