/-
  Walks: UnifyMakes.
-/
import Derived.Test.YtlhnfdjidjgfgaaProg
import Derived.Test.YtlhnfdjidjgfgaaUx10
import Derived.Test.YtlhnfdjidjgfgaaUn4
namespace Go.Proofs.Ytlhnfdjidjgfgaa
open Go.RowKit Go.Shelf
set_option linter.unusedVariables false
set_option maxHeartbeats 400000

theorem St.did9 {P : Program} {n : Nat} {a : Array Value} {w0 w : World} {l : List Fct} (S : St w0 w l) {p0 : Nat → Prop} {r : T × (Int × Int)} (h : Calls P n a w (DoPostP p0 r w)) :
    Calls P n a w fun e w' => ∃ y k sp c d, e = .returned (.tuple #[.agg #[.int .i64 y.head, .slice k y.kids.length (y.kids.length + sp)], .agg #[.int .i64 c, .int .i64 d]]) ∧ Hid (r = (y, (c, d))) ∧ w.heap.size ≤ w'.heap.size ∧
      St w0 w' (fsnoc l (.treeP (fun b => (p0 b ∨ w.heap.size ≤ b) ∧ b < w'.heap.size) (.agg #[.int .i64 y.head, .slice k y.kids.length (y.kids.length + sp)]) y)) :=
  h.mono fun e w' ⟨u, h1, h2, h3⟩ => by
    obtain ⟨k, sp, rfl⟩ := h2.at.form
    exact ⟨r.1, k, sp, r.2.1, r.2.2, h1, rfl, h3.size, (S.step h3).add (.treeP _ _ _) (h2.mono fun b h1 h2 => ⟨h1, h2⟩)⟩
theorem UAns.split {A B : T} {L : List T} {ok : Bool} {f : Int × Int} (h : UAns A B L ok f) : (L = [] ∧ ok = false) ∨ ∃ σ, (treeF A).1 = 0 ∧ (treeF B).1 = 0 ∧ FitU A B σ ∧ L = listT (uN A B) (bnd σ) ∧ ok = true ∧ f = (0, 0) := by
  rcases h with ⟨_, h1, h2, _⟩ | ⟨_, _, h1, h2, _⟩ | ⟨hA, hB, h⟩
  · exact .inl ⟨h1, h2⟩
  · exact .inl ⟨h1, h2⟩
  · rcases h with ⟨h1, h2, _⟩ | ⟨h1, h2, _⟩ | ⟨σ, h, hL, h2, h3⟩
    · exact .inl ⟨h1, h2⟩
    · exact .inl ⟨h1, h2⟩
    · exact .inr ⟨σ, hA, hB, h, hL, h2, h3⟩

set_option maxRecDepth 100000 in
set_option maxHeartbeats 8000000 in
theorem makes9 (A B : T) (va vb : Value) (w : World) (hA : TreeAt w va A) (hB : TreeAt w vb B) :
    Calls Try.prog 9 #[va, vb] w fun e w' => e = .returned (.bool true) ∧ Below w.heap.size w w' := by
  obtain ⟨ka, sa, rfl⟩ := hA.form
  obtain ⟨kb, sb, rfl⟩ := hB.form
  have TA := Lib.hid hA; have TB := Lib.hid hB
  obtain ⟨bx, hbx⟩ : ∃ b, b = w.heap.size := ⟨_, rfl⟩
  have S1 := ((St.start w).box hbx.symm #[.int .i64 A.head, .slice ka A.kids.length (A.kids.length + sa)] 38).box (b := bx + 1) (by simp [hbx]) #[.int .i64 B.head, .slice kb B.kids.length (B.kids.length + sb)] 38
  have hsz2 : ((w.alloc (.cells #[.int .i64 A.head, .slice ka A.kids.length (A.kids.length + sa)] 38)).alloc (.cells #[.int .i64 B.head, .slice kb B.kids.length (B.kids.length + sb)] 38)).heap.size = bx + 2 := by simp [hbx]
  clear hA hB
  go_enter Try.func9, Try.ntmps9
  go_wp2_with fail
  rw [← hbx]
  refine S1.gen (z := bx + 2) (by omega) ?_
  intro w1 z1 S
  have HBX := Lib.hid (show w.heap.size ≤ bx ∧ bx ≤ w.heap.size by omega)
  clear S1 hsz2 hbx
  refine (S.quiet (fact36 w1)).mono ?_
  rintro e w2 ⟨rfl, z2, S2⟩
  clear S
  obtain ⟨⟨x0, _⟩, x1, _⟩ := S2.two 0
  obtain ⟨⟨y0, _⟩, y1, _⟩ := S2.two 1
  go_wp2_with fail
  refine (S2.did33 (unify33 A B _ _ w2 (TA.out.kept S2.bel) (TB.out.kept S2.bel))).mono ?_
  rintro e w3 ⟨L, ok, f, ro, rc, rfl, HU, z3, S3⟩
  clear S2 x0 x1 y0 y1
  obtain ⟨bf, hbf⟩ : ∃ b, b = w3.heap.size := ⟨_, rfl⟩
  have S4 := S3.box (b := bf) hbf.symm #[.int .i64 f.1, .int .i64 f.2] 29
  clear S3
  go_upto_region 5 with fail
  rw [← hbf]
  refine S4.genC (z := bf + 1) (by simp [hbf]) ?_
  intro w4 z4 S
  have HBF := Lib.hid (show w.heap.size ≤ bx ∧ bx + 2 ≤ w2.heap.size ∧ w2.heap.size ≤ w3.heap.size ∧ w3.heap.size ≤ bf ∧ bf + 1 ≤ w4.heap.size by have := HBX.out; omega)
  clear S4 hbf z3 z2 z1 z4
  obtain ⟨⟨x0, _⟩, x1, _⟩ := S.two 3
  rcases HU.out.split with ⟨rfl, rfl⟩ | ⟨σ, hfA, hfB, hfit, hL, rfl, rfl⟩
  · have HB := Lib.hid S.bel
    clear S HU
    cases hc : (f.1 != 0) with
    | true =>
      go_wp2_with fail
      go_ret
      exact ⟨rfl, HB.out⟩
    | false =>
      go_wp2_with fail
      go_ret
      exact ⟨rfl, HB.out⟩
  · have HMK := Lib.hid (hfit.makes hfA hfB)
    rw [← hL] at HMK
    clear HU hfA hfB hfit hL
    go_upto_region 7 with fail
    clear x0 x1
    obtain ⟨⟨x0, _⟩, x1, _⟩ := S.two 0
    go_wp2_with fail
    refine (S.did9 (p0 := fun b => b < w.heap.size ∨ (w2.heap.size ≤ b ∧ b < w3.heap.size)) (do21P _ A L _ ro rc w4 (fun b h => by have := HBF.out; omega) ((TA.out.foot.kept S.bel).mono (fun b h _ => .inl h)) ((S.row 2).mono (fun b h _ => .inr h)))).mono ?_
    rintro e w5 ⟨X, kx, sx, c, d, rfl, HX, z5, S5⟩
    obtain ⟨bX, hbX⟩ : ∃ b, b = w5.heap.size := ⟨_, rfl⟩
    have S6 := S5.box (b := bX) hbX.symm #[.int .i64 X.head, .slice kx X.kids.length (X.kids.length + sx)] 38
    have S7 := S6.set2 3 rfl (.int .i64 c) (.int .i64 d) (by have := HBF.out; omega) (by simp only [fsnoc, offs, offAll, Fct.box, Fct.row, Fct.treeP, and_true]; have := HBF.out; omega)
    obtain ⟨⟨q0, q0f⟩, q1, q1f⟩ := S6.two 3
    have hlf := S6.lt 3
    clear S x0 x1 S5
    have hneX : ¬ bf = bX := by have := HBF.out; omega
    have hneX2 : ¬ bX = bf := by have := HBF.out; omega
    go_upto_region 8 with fail
    rw [← hbX]
    refine S7.genC (z := bX + 1) (by simp [hbX]) ?_
    intro w6 z6 S
    have HBF2 := Lib.hid (show w4.heap.size ≤ w5.heap.size ∧ w5.heap.size ≤ bX ∧ bX ≤ w5.heap.size ∧ bX + 1 ≤ w6.heap.size by omega)
    clear S7 S6 hbX z5 z6 q0 q0f q1 q1f hlf hneX hneX2
    obtain ⟨⟨x0, _⟩, x1, _⟩ := S.two 1
    go_wp2_with fail
    refine (S.did9 (p0 := fun b => b < w.heap.size ∨ (w2.heap.size ≤ b ∧ b < w3.heap.size)) (do21P _ B L _ ro rc w6 (fun b h => by have := HBF.out; have := HBF2.out; omega) ((TB.out.foot.kept S.bel).mono (fun b h _ => .inl h)) ((S.row 2).mono (fun b h _ => .inr h)))).mono ?_
    rintro e w7 ⟨Y, ky, sy, c', d', rfl, HY, z7, S5⟩
    obtain ⟨rfl, rfl, rfl⟩ : X = Y ∧ c = c' ∧ d = d' := by
      have h := HX.out.symm.trans (HMK.out.1.trans HY.out)
      simp only [Prod.mk.injEq] at h
      exact ⟨h.1, h.2.1, h.2.2⟩
    obtain ⟨bY, hbY⟩ : ∃ b, b = w7.heap.size := ⟨_, rfl⟩
    have S6 := (S5.box (b := bY) hbY.symm #[.int .i64 X.head, .slice ky X.kids.length (X.kids.length + sy)] 38).box (b := bY + 1) (by simp [hbY]) #[.int .i64 c, .int .i64 d] 29
    clear S x0 x1 S5
    go_upto_region 9 with fail
    rw [← hbY]
    refine S6.genC (z := bY + 2) (by simp [hbY]) ?_
    intro w8 z8 S
    have HBF3 := Lib.hid (show w6.heap.size ≤ w7.heap.size ∧ w7.heap.size ≤ bY ∧ bY ≤ w7.heap.size ∧ bY + 2 ≤ w8.heap.size by omega)
    clear S6 hbY z7 z8
    obtain ⟨⟨x0, _⟩, x1, _⟩ := S.two 3
    obtain ⟨⟨y0, _⟩, y1, _⟩ := S.two 8
    have HK := Lib.hid (HMK.out.2)
    rw [HX.out] at HK
    by_cases hc : c = 0
    · subst hc
      have HD := Lib.hid (show d = 0 ∧ doF X L = (X, (0, 0)) by
        rcases HK.out with h | ⟨h1, h2⟩
        · simp at h
        · exact ⟨by simpa using h1, h2⟩)
      obtain rfl := HD.out.1
      clear HMK
      go_upto_region 11 with fail
      clear x0 x1 y0 y1
      obtain ⟨⟨x0, _⟩, x1, _⟩ := S.two 5
      go_wp2_with fail
      refine (S.did9 (p0 := fun b => b < w.heap.size ∨ (w2.heap.size ≤ b ∧ b < w3.heap.size) ∨ (w4.heap.size ≤ b ∧ b < w5.heap.size)) (do21P _ X L _ ro rc w8 (fun b h => by have := HBF.out; have := HBF2.out; have := HBF3.out; omega) ((S.treeP 4).mono (fun b h _ => by omega)) ((S.row 2).mono (fun b h _ => .inr (.inl h))))).mono ?_
      rintro e w9 ⟨Z, kz, sz, c1, d1, rfl, HZ, z9, S5⟩
      obtain ⟨rfl, rfl, rfl⟩ : X = Z ∧ 0 = c1 ∧ 0 = d1 := by
        have h := HD.out.2.symm.trans HZ.out
        simp only [Prod.mk.injEq] at h
        exact ⟨h.1, h.2.1, h.2.2⟩
      obtain ⟨bZ, hbZ⟩ : ∃ b, b = w9.heap.size := ⟨_, rfl⟩
      have S6 := S5.box (b := bZ) hbZ.symm #[.int .i64 X.head, .slice kz X.kids.length (X.kids.length + sz)] 38
      have S7 := S6.set2 3 rfl (.int .i64 0) (.int .i64 0) (by have := HBF.out; omega) (by simp only [fset, fsnoc, offs, offAll, Fct.box, Fct.row, Fct.treeP, and_true]; have := HBF.out; have := HBF2.out; have := HBF3.out; omega)
      obtain ⟨⟨q0, q0f⟩, q1, q1f⟩ := S6.two 3
      have hlf := S6.lt 3
      clear S x0 x1 S5
      go_upto_region 12 with fail
      rw [← hbZ]
      refine S7.genC (z := bZ + 1) (by simp [hbZ]) ?_
      intro w10 z10 S
      clear S7 S6 hbZ z9 q0 q0f q1 q1f hlf HZ HX HY HK
      obtain ⟨⟨x0, _⟩, x1, _⟩ := S.two 3
      obtain ⟨⟨y0, _⟩, y1, _⟩ := S.two 5
      obtain ⟨⟨u0, _⟩, u1, _⟩ := S.two 7
      go_wp2_with fail
      refine (S.quiet (same22 X X _ _ w10 (S.treeP 4).at (S.treeP 6).at)).mono ?_
      rintro e w11 ⟨rfl, z11, S8⟩
      clear S x0 x1 y0 y1 u0 u1
      obtain ⟨⟨y0, _⟩, y1, _⟩ := S8.two 5
      obtain ⟨⟨u0, _⟩, u1, _⟩ := S8.two 10
      rw [show decide (X = X) = true by simp]
      go_wp2_with fail
      refine (S8.quiet (same22 X X _ _ w11 (S8.treeP 4).at (S8.treeP 9).at)).mono ?_
      rintro e w12 ⟨rfl, z12, S9⟩
      have SE := Lib.hid S9.bel
      clear S8 S9 y0 y1 u0 u1
      rw [show decide (X = X) = true by simp]
      go_wp2_with fail
      go_ret
      exact ⟨rfl, SE.out⟩
    · obtain ⟨rfl, rfl⟩ : c = 10 ∧ d = 0 := by
        rcases HK.out with h | ⟨h1, h2⟩
        · simpa using h
        · simp at h1; exact absurd h1.1 hc
      clear hc HK HMK HX HY
      go_upto_region 10 with fail
      have CA := Lib.hid (fun d os => Calls.regrown_of (fault20 10 0 (Go.Sort.grow (redrawn w8 d) os)))
      have r0 := cell_regrown x0; have r1 := cell_regrown x1
      clear x0 x1 y0 y1
      refine wp_region_quiet_below (by kernel_rfl) (by kernel_rfl) ?_
      repeat (go_big_quiet_step (exact CA.out _ _))
      refine wpQuiet_nil ?_
      intro _ hw'
      obtain ⟨⟨dq, osq⟩, hw''⟩ := hw'
      subst hw''
      have SE := Lib.hid (S.regrown dq osq).bel
      clear r0 r1 CA S
      go_wp2_with fail
      go_ret
      exact ⟨rfl, SE.out⟩
end Go.Proofs.Ytlhnfdjidjgfgaa
