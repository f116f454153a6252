/-
  Walk: the document's putRight.
-/
import Derived.Test.YtlhnfdjidjgfgaaProg
import Derived.Test.YtlhnfdjidjgfgaaK6
import Derived.Test.YtlhnfdjidjgfgaaT35
import Derived.Test.YtlhnfdjidjgfgaaP4
import Derived.Deep.DeepCutAuto
namespace Go.Proofs.Ytlhnfdjidjgfgaa
open Go.RowKit Go.Shelf
set_option linter.unusedVariables false
set_option maxHeartbeats 400000

theorem get_validR : ∀ (p : List Int) (t : T) (i : Int), 0 ≤ i → (t.get p i).2 < 0 → ∀ z ∈ p, 1 ≤ z ∧ z ≤ t.size
  | [], _, _, _, _, z, hz => by cases hz
  | k :: r, t, i, hi, h, z, hz => by
    rw [T.get_cons] at h
    by_cases hb : k < 1 ∨ (t.kids.length : Int) < k
    · rw [if_pos hb] at h; simp only at h; omega
    · rw [if_neg hb] at h
      have hl := length_le_sizeL t.kids
      have hs := t.size_eq
      rcases List.mem_cons.1 hz with rfl | hz
      · omega
      · have h1 := get_validR r _ (i + 1) (by omega) h z hz
        have h2 := kid_size (show (k - 1).toNat < t.kids.length by omega)
        omega

set_option maxRecDepth 100000 in
set_option maxHeartbeats 8000000 in
theorem putRight61 (A B : List Fc) (g : Gt) (p : Nat → Prop) (ao co po bo : Option Addr) (sa sb pc bc : Nat) (w : World) (hp : ∀ c, p c → c < w.heap.size) (hA : factE.Row p w ao A) (hB : factE.Row p w co B) (hpl : CellsAt w po g.pl.length (fun j => .int .i64 (gI g.pl j))) (hplc : g.pl.length ≤ pc) (hpc : pc ≤ 9223372036854775807)
    (hnA : A.length ≤ 100) (hnB : B.length ≤ 100) (hsA : ∀ t, t ∈ treesF A → t.size ≤ 1000) (hsB : ∀ t, t ∈ treesF B → t.size ≤ 1000) :
    Calls Try.prog 61 #[.agg #[.int .i64 g.kind, .int .i64 g.a, .int .i64 g.b, .int .i64 g.i, .int .i64 g.j, .bool g.turn, .slice po g.pl.length pc, .slice bo g.bs.length bc], .agg #[.slice ao A.length (A.length + sa)], .agg #[.slice co B.length (B.length + sb)]] w (RightP A B g p w) := by
  obtain ⟨tb, htb⟩ : ∃ tb, tb = g.turn := ⟨_, rfl⟩
  rw [← htb]
  have HTB := Lib.hid htb
  clear htb
  have HA := Lib.hid hA; have HB := Lib.hid hB; have HP := Lib.hid hp; have HPL := Lib.hid hpl
  obtain ⟨bx, hbx⟩ : ∃ b, b = w.heap.size := ⟨_, rfl⟩
  have S1 := ((((St.start w).box hbx.symm #[.int .i64 g.kind, .int .i64 g.a, .int .i64 g.b, .int .i64 g.i, .int .i64 g.j, .bool tb, .slice po g.pl.length pc, .slice bo g.bs.length bc] 35).box (b := bx + 1) (by simp [hbx]) #[.slice ao A.length (A.length + sa)] 41).box (b := bx + 2) (by simp [hbx]) #[.slice co B.length (B.length + sb)] 41).box (b := bx + 3) (by simp [hbx]) #[.slice none 0 0] 41
  have HBX := Lib.hid hbx
  clear hA hB hp hpl
  go_enter Try.func61, Try.ntmps61
  go_upto_region 1 with fail
  rw [← hbx]
  refine S1.genC (z := bx + 4) (by simp [hbx]) ?_
  intro w1 z1 S
  clear S1 hbx
  change St w w1 [.box bx #[.int .i64 g.kind, .int .i64 g.a, .int .i64 g.b, .int .i64 g.i, .int .i64 g.j, .bool tb, .slice po g.pl.length pc, .slice bo g.bs.length bc] 35, .box (bx + 1) #[.slice ao A.length (A.length + sa)] 41, .box (bx + 2) #[.slice co B.length (B.length + sb)] 41, .box (bx + 3) #[.slice none 0 0] 41] at S
  obtain ⟨g3, _⟩ := S.cell 0 3 rfl
  obtain ⟨g4, _⟩ := S.cell 0 4 rfl
  obtain ⟨g5, _⟩ := S.cell 0 5 rfl
  obtain ⟨g6, _⟩ := S.cell 0 6 rfl
  obtain ⟨a0, _⟩ := S.one 1
  obtain ⟨b0, _⟩ := S.one 2
  have hwA : IntKind.i64.wrap ((A.length : Int) - 1) = (A.length : Int) - 1 := IntWalk.i64_in _ (by omega)
  have hwB : IntKind.i64.wrap ((B.length : Int) - 1) = (B.length : Int) - 1 := IntWalk.i64_in _ (by omega)
  go_cut [32] (fun t32 W => t32 = .bool (decide (¬ (inL g.i A.length ∧ inL g.j B.length))) ∧ W = w1)
  case first =>
    have C1 := in54 g.i 0 ((A.length : Int) - 1) w1
    have C2 := in54 g.j 0 ((B.length : Int) - 1) w1
    by_cases h1 : 0 ≤ g.i ∧ g.i ≤ (A.length : Int) - 1
    · rw [decide_eq_true h1] at C1
      have HC1 := Lib.hid C1
      by_cases h2 : 0 ≤ g.j ∧ g.j ≤ (B.length : Int) - 1
      · rw [decide_eq_true h2] at C2
        have HC2 := Lib.hid C2
        have HD := Lib.hid (show decide (¬ (inL g.i A.length ∧ inL g.j B.length)) = false from decide_eq_false (fun h => h ⟨⟨h1.1, by omega⟩, ⟨h2.1, by omega⟩⟩))
        clear C1 C2 h1 h2
        go_wp2_with fail
        refine HC1.out.mono ?_
        rintro e W ⟨rfl, hW⟩
        replace hW := hW.symm
        subst hW
        go_wp2_with fail
        refine HC2.out.mono ?_
        rintro e W ⟨rfl, hW⟩
        replace hW := hW.symm
        subst hW
        go_wp2_with fail
        go_meet
        case rel => exact ⟨congrArg Value.bool HD.out.symm, rfl⟩
      · rw [decide_eq_false h2] at C2
        have HC2 := Lib.hid C2
        have HD := Lib.hid (show decide (¬ (inL g.i A.length ∧ inL g.j B.length)) = true from decide_eq_true (fun h => h2 ⟨h.2.1, by have := h.2.2; omega⟩))
        clear C1 C2 h1 h2
        go_wp2_with fail
        refine HC1.out.mono ?_
        rintro e W ⟨rfl, hW⟩
        replace hW := hW.symm
        subst hW
        go_wp2_with fail
        refine HC2.out.mono ?_
        rintro e W ⟨rfl, hW⟩
        replace hW := hW.symm
        subst hW
        go_wp2_with fail
        go_meet
        case rel => exact ⟨congrArg Value.bool HD.out.symm, rfl⟩
    · rw [decide_eq_false h1] at C1
      have HC1 := Lib.hid C1
      have HD := Lib.hid (show decide (¬ (inL g.i A.length ∧ inL g.j B.length)) = true from decide_eq_true (fun h => h1 ⟨h.1.1, by have := h.1.2; omega⟩))
      clear C1 C2 h1
      go_wp2_with fail
      refine HC1.out.mono ?_
      rintro e W ⟨rfl, hW⟩
      replace hW := hW.symm
      subst hW
      go_wp2_with fail
      go_meet
      case rel => exact ⟨congrArg Value.bool HD.out.symm, rfl⟩
  case rest =>
  obtain ⟨ht32, hw⟩ := hcut
  replace hw := hw.symm
  subst hw
  subst ht32
  by_cases hin : ¬ (inL g.i A.length ∧ inL g.j B.length)
  · have HD := Lib.hid (show rightF A B g = ([], 3) by rw [rightF, if_pos hin])
    have hd : decide (¬ (inL g.i A.length ∧ inL g.j B.length)) = true := decide_eq_true hin
    rw [hd]
    clear hin
    obtain ⟨r0, r1⟩ := S.one 3
    have SG := Lib.hid (S.set1 3 rfl (.slice none 0 0) (by have := HBX.out; omega) (by simp only [offs, offAll, Fct.box, and_true]; omega))
    have hl3 := S.lt 3
    clear S
    go_wp2_with fail
    refine bodyPost_ret (v := .tuple #[.agg #[.slice none 0 0], .int .i64 3]) ?_ rfl ?_
    · obtain ⟨q0, _⟩ := SG.out.one 3
      simp [results, Try.results61, go_sem, q0]
    · exact RightP.bad HD.out SG.out.bel
  have hd : decide (¬ (inL g.i A.length ∧ inL g.j B.length)) = false := decide_eq_false hin
  rw [hd]
  have hin := Decidable.not_not.1 hin
  have HIN := Lib.hid hin
  obtain ⟨⟨hi0, hi1⟩, ⟨hj0, hj1⟩⟩ := hin
  obtain ⟨I, hI⟩ : ∃ I : Nat, (I : Int) = g.i := ⟨g.i.toNat, by omega⟩
  obtain ⟨J, hJ⟩ : ∃ J : Nat, (J : Int) = g.j := ⟨g.j.toNat, by omega⟩
  have hIA : I < A.length := by omega
  have hJB : J < B.length := by omega
  have hfa : gF A g.i = A[I] := by unfold gF; rw [show g.i.toNat = I by omega, List.getD_eq_getElem?_getD, List.getElem?_eq_getElem hIA]; rfl
  have hfb : gF B g.j = B[J] := by unfold gF; rw [show g.j.toNat = J by omega, List.getD_eq_getElem?_getD, List.getElem?_eq_getElem hJB]; rfl
  obtain ⟨ab, aoff, ka, sa1, kb, sb1, rfl, hpa, c0, c1, c2, c3, c4, tx, ty⟩ := HA.out.fact hIA
  obtain ⟨cb, coff, kc, sc1, kd, sd1, rfl, hpb, d0, d1, d2, d3, d4, tu, tv⟩ := HB.out.fact hJB
  obtain ⟨fa, hfa2⟩ : ∃ f, f = A[I] := ⟨_, rfl⟩
  obtain ⟨fb, hfb2⟩ : ∃ f, f = B[J] := ⟨_, rfl⟩
  have hmA := treesF_mem2 hIA
  have hmB := treesF_mem2 hJB
  rw [← hfa2] at hfa c0 c1 c2 c3 c4 tx ty hmA
  rw [← hfb2] at hfb d0 d1 d2 d3 d4 tu tv hmB
  have HR1 := Lib.hid (show rightF A B g = (if fa.neg = true then ([], 5) else if g.pl = [] ∨ (gI g.pl 0 ≠ 1 ∧ gI g.pl 0 ≠ 2) then ([], 6)
    else if 0 ≤ ((sideF g fb).get g.pl.tail 0).2 then ([], 6) else if ((sideF g fb).get g.pl.tail 0).1 ≠ fromF g fa then ([], 11)
    else (A.eraseIdx I ++ B.eraseIdx J ++ [lastF g fb (T.withAt g.pl.tail (sideF g fb) (toF g fa))], 0)) by
    rw [rightF, if_neg (fun h => h HIN.out), hfa, hfb, show g.i.toNat = I by omega, show g.j.toNat = J by omega])
  have HSZ := Lib.hid (And.intro (hsA _ hmA.1) (And.intro (hsA _ hmA.2) (And.intro (hsB _ hmB.1) (hsB _ hmB.2))))
  have TX := Lib.hid tx; have TY := Lib.hid ty; have TU := Lib.hid tu; have TV := Lib.hid tv
  rw [← hI] at g3
  rw [← hJ] at g4
  have HI := Lib.hid hI; have HJ := Lib.hid hJ
  have HDC := Lib.hid (And.intro d0 (And.intro d1 (And.intro d2 (And.intro d3 d4))))
  have HDA := Lib.hid (And.intro c0 (And.intro c1 (And.intro c2 (And.intro c3 c4))))
  replace c0 := Below.cellOf S.bel c0
  replace c1 := Below.cellOf S.bel c1
  replace c2 := Below.cellOf S.bel c2
  replace c3 := Below.cellOf S.bel c3
  replace c4 := Below.cellOf S.bel c4
  clear d0 d1 d2 d3 d4
  clear hI hJ hfa hfb hfa2 hfb2 tx ty tu tv hmA hmB hin hd hi0 hi1 hj0 hj1 hsA hsB hwA hwB
  have hIi : (I : Int) < (A.length : Int) := by omega
  have hJi : (J : Int) < (B.length : Int) := by omega
  cases hna : fa.neg with
  | true =>
    have HD := Lib.hid (show rightF A B g = ([], 5) by rw [HR1.out, if_pos hna])
    rw [hna] at c0
    clear hna
    obtain ⟨r0, r1⟩ := S.one 3
    have SG := Lib.hid (S.set1 3 rfl (.slice none 0 0) (by have := HBX.out; omega) (by simp only [offs, offAll, Fct.box, and_true]; omega))
    have hl3 := S.lt 3
    clear S
    go_wp2_with fail
    refine bodyPost_ret (v := .tuple #[.agg #[.slice none 0 0], .int .i64 5]) ?_ rfl ?_
    · obtain ⟨q0, _⟩ := SG.out.one 3
      simp [results, Try.results61, go_sem, q0]
    · exact RightP.bad HD.out SG.out.bel
  | false =>
  have HR2 := Lib.hid (show rightF A B g = (if g.pl = [] ∨ (gI g.pl 0 ≠ 1 ∧ gI g.pl 0 ≠ 2) then ([], 6)
    else if 0 ≤ ((sideF g fb).get g.pl.tail 0).2 then ([], 6) else if ((sideF g fb).get g.pl.tail 0).1 ≠ fromF g fa then ([], 11)
    else (A.eraseIdx I ++ B.eraseIdx J ++ [lastF g fb (T.withAt g.pl.tail (sideF g fb) (toF g fa))], 0)) by rw [HR1.out, if_neg (by simp [hna])])
  rw [hna] at c0
  clear hna
  obtain ⟨b8, hb8⟩ : ∃ b, b = w1.heap.size := ⟨_, rfl⟩
  have HB8 := Lib.hid (show bx + 4 ≤ b8 by omega)
  have S5 := S.box hb8.symm #[.int .i64 fa.l.head, .slice ka fa.l.kids.length (fa.l.kids.length + sa1)] 38
  have z5 : b8 + 1 ≤ (w1.alloc (.cells #[.int .i64 fa.l.head, .slice ka fa.l.kids.length (fa.l.kids.length + sa1)] 38)).heap.size := by simp [hb8]
  go_upto_region 6 with fail
  rw [← hb8]
  refine S5.genC (z := b8 + 1) z5 ?_
  clear S S5 z5 hb8 c0 c1 c2 c3 c4 g3 g4 g5 g6 a0 b0
  intro w2 z2 S
  obtain ⟨b9, hb9⟩ : ∃ b, b = w2.heap.size := ⟨_, rfl⟩
  have HB9 := Lib.hid (show b8 + 1 ≤ b9 by omega)
  have S6 := S.box hb9.symm #[.int .i64 fa.r.head, .slice kb fa.r.kids.length (fa.r.kids.length + sb1)] 38
  have z6 : b9 + 1 ≤ (w2.alloc (.cells #[.int .i64 fa.r.head, .slice kb fa.r.kids.length (fa.r.kids.length + sb1)] 38)).heap.size := by simp [hb9]
  obtain ⟨g3, _⟩ := S.cell 0 3 rfl
  rw [← HI.out] at g3
  obtain ⟨a0, _⟩ := S.one 1
  have c3 := Below.cellOf S.bel HDA.out.2.2.2.1
  have c4 := Below.cellOf S.bel HDA.out.2.2.2.2
  go_upto_region 7 with fail
  rw [← hb9]
  refine S6.genC (z := b9 + 1) z6 ?_
  clear S S6 z6 hb9 c3 c4 g3 a0 z2
  intro w3 z3 S
  change St w w3 [.box bx #[.int .i64 g.kind, .int .i64 g.a, .int .i64 g.b, .int .i64 g.i, .int .i64 g.j, .bool tb, .slice po g.pl.length pc, .slice bo g.bs.length bc] 35, .box (bx + 1) #[.slice (some ⟨ab, aoff, none⟩) A.length (A.length + sa)] 41, .box (bx + 2) #[.slice (some ⟨cb, coff, none⟩) B.length (B.length + sb)] 41, .box (bx + 3) #[.slice none 0 0] 41, .box b8 #[.int .i64 fa.l.head, .slice ka fa.l.kids.length (fa.l.kids.length + sa1)] 38, .box b9 #[.int .i64 fa.r.head, .slice kb fa.r.kids.length (fa.r.kids.length + sb1)] 38] at S
  obtain ⟨g5, _⟩ := S.cell 0 5 rfl
  go_upto_if 57 with fail
  go_cut [8, 9] (fun t8 t9 W => ∃ (X Y : T) (kx ky : Option Addr) (sx sy : Nat), t8 = .pointer (some ⟨b8, 0, none⟩) ∧ t9 = .pointer (some ⟨b9, 0, none⟩) ∧ b9 + 1 ≤ W.heap.size ∧ St w W [.box bx #[.int .i64 g.kind, .int .i64 g.a, .int .i64 g.b, .int .i64 g.i, .int .i64 g.j, .bool tb, .slice po g.pl.length pc, .slice bo g.bs.length bc] 35, .box (bx + 1) #[.slice (some ⟨ab, aoff, none⟩) A.length (A.length + sa)] 41, .box (bx + 2) #[.slice (some ⟨cb, coff, none⟩) B.length (B.length + sb)] 41, .box (bx + 3) #[.slice none 0 0] 41, .box b8 #[.int .i64 X.head, .slice kx X.kids.length (X.kids.length + sx)] 38, .box b9 #[.int .i64 Y.head, .slice ky Y.kids.length (Y.kids.length + sy)] 38] ∧
    Hid (X = fromF g fa) ∧ Hid (Y = toF g fa) ∧ Hid (TreeP p w (.agg #[.int .i64 X.head, .slice kx X.kids.length (X.kids.length + sx)]) X) ∧ Hid (TreeP p w (.agg #[.int .i64 Y.head, .slice ky Y.kids.length (Y.kids.length + sy)]) Y) ∧ Hid (X.size ≤ 1000 ∧ Y.size ≤ 1000))
  case first =>
    cases tb with
    | false =>
      have HX := Lib.hid (show fa.l = fromF g fa by unfold fromF; rw [if_neg (by rw [← HTB.out]; simp)])
      have HY := Lib.hid (show fa.r = toF g fa by unfold toF; rw [if_neg (by rw [← HTB.out]; simp)])
      have SB := Lib.hid S
      clear S
      go_wp2_with fail
      go_meet
      case rel => exact ⟨fa.l, fa.r, ka, kb, sa1, sb1, rfl, rfl, z3, SB.out, HX, HY, TX, TY, Lib.hid ⟨HSZ.out.1, HSZ.out.2.1⟩⟩
    | true =>
      have HX := Lib.hid (show fa.r = fromF g fa by unfold fromF; rw [if_pos (by rw [← HTB.out])])
      have HY := Lib.hid (show fa.l = toF g fa by unfold toF; rw [if_pos (by rw [← HTB.out])])
      have h8 := HB8.out; have h9 := HB9.out; have hx := HBX.out
      have S4 := S.set2 4 rfl (.int .i64 fa.r.head) (.slice kb fa.r.kids.length (fa.r.kids.length + sb1)) (by omega) (by simp only [offs, offAll, Fct.box, and_true]; omega)
      have hl4 := S.lt 4
      obtain ⟨⟨e0, e1⟩, e2, e3⟩ := S.two 4
      obtain ⟨g3, _⟩ := S.cell 0 3 rfl
      rw [← HI.out] at g3
      obtain ⟨a0, _⟩ := S.one 1
      have c3 := Below.cellOf S.bel HDA.out.2.2.2.1
      have c4 := Below.cellOf S.bel HDA.out.2.2.2.2
      have z4 : b9 + 1 ≤ ((w3.setCell ⟨b8, 0, none⟩ (.int .i64 fa.r.head)).setCell ⟨b8, 1, none⟩ (.slice kb fa.r.kids.length (fa.r.kids.length + sb1))).heap.size := by simp; exact z3
      clear hx h8 h9
      go_upto_region 9 with fail
      refine S4.genC (z := b9 + 1) z4 ?_
      clear S S4 g5 g3 a0 c3 c4 e0 e1 e2 e3 z4 hl4
      intro w4 z4 S
      have h8 := HB8.out; have h9 := HB9.out; have hx := HBX.out
      have S5 := S.set2 5 rfl (.int .i64 fa.l.head) (.slice ka fa.l.kids.length (fa.l.kids.length + sa1)) (by omega) (by simp only [fset, offs, offAll, Fct.box, and_true]; omega)
      have hl5 := S.lt 5
      obtain ⟨⟨e0, e1⟩, e2, e3⟩ := S.two 5
      obtain ⟨g3, _⟩ := S.cell 0 3 rfl
      rw [← HI.out] at g3
      obtain ⟨a0, _⟩ := S.one 1
      have c1 := Below.cellOf S.bel HDA.out.2.1
      have c2 := Below.cellOf S.bel HDA.out.2.2.1
      have SB := Lib.hid S5
      have z5 : b9 + 1 ≤ ((w4.setCell ⟨b9, 0, none⟩ (.int .i64 fa.l.head)).setCell ⟨b9, 1, none⟩ (.slice ka fa.l.kids.length (fa.l.kids.length + sa1))).heap.size := by simp; exact z4
      clear S S5 hx h8 h9
      go_wp2_with fail
      go_meet
      case rel => exact ⟨fa.r, fa.l, kb, ka, sb1, sa1, rfl, rfl, z5, SB.out, HX, HY, TY, TX, Lib.hid ⟨HSZ.out.2.1, HSZ.out.1⟩⟩
  case rest =>
  obtain ⟨X, Y, kx, ky, sx, sy, ht8, ht9, zc, SC, HX, HY, TXX, TYY, HXS⟩ := hcut
  subst ht8
  subst ht9
  clear S g5 z3
  obtain ⟨g6, _⟩ := SC.cell 0 6 rfl
  have HCELL := Lib.hid (fun (h : g.pl ≠ []) => (HPL.out.below SC.bel).get (j := 0) (by cases hh : g.pl with | nil => exact absurd hh h | cons x r => simp))
  go_upto_region 10 with fail
  go_cut [83] (fun t83 W => t83 = .bool (decide (g.pl = [] ∨ (gI g.pl 0 ≠ 1 ∧ gI g.pl 0 ≠ 2))) ∧ W = wc)
  case first =>
    by_cases h0 : g.pl = []
    · have hb : ((g.pl.length : Int) == 0) = true := by simp [h0]
      have HD := Lib.hid (show decide (g.pl = [] ∨ (gI g.pl 0 ≠ 1 ∧ gI g.pl 0 ≠ 2)) = true from decide_eq_true (.inl h0))
      clear h0
      go_wp2_with fail
      go_meet
      case rel => exact ⟨congrArg Value.bool HD.out.symm, rfl⟩
    · obtain ⟨pb, poff, rfl, q0⟩ := HCELL.out h0
      rw [Nat.add_zero] at q0
      have hlp : 0 < g.pl.length := by cases hh : g.pl with | nil => exact absurd hh h0 | cons x r => simp
      have hb : ((g.pl.length : Int) == 0) = false := by simp [h0]
      have hlpi : (0 : Int) < (g.pl.length : Int) := by omega
      have C1 := in54 (gI g.pl 0) 1 2 wc
      obtain ⟨z, hz⟩ : ∃ z, z = gI g.pl 0 := ⟨_, rfl⟩
      have HDZ := Lib.hid (show (decide (g.pl = [] ∨ (gI g.pl 0 ≠ 1 ∧ gI g.pl 0 ≠ 2))) = decide (z ≠ 1 ∧ z ≠ 2) by rw [← hz]; simp [h0])
      rw [← hz] at C1 q0
      by_cases h1 : 1 ≤ z ∧ z ≤ 2
      · rw [decide_eq_true h1] at C1
        have HC1 := Lib.hid C1
        have HD := Lib.hid (show (decide (g.pl = [] ∨ (gI g.pl 0 ≠ 1 ∧ gI g.pl 0 ≠ 2))) = false by rw [HDZ.out]; exact decide_eq_false (by omega))
        clear C1 h1 h0 hz
        go_wp2_with fail
        refine HC1.out.mono ?_
        rintro e W ⟨rfl, hW⟩
        replace hW := hW.symm
        subst hW
        go_wp2_with fail
        go_meet
        case rel => exact ⟨congrArg Value.bool HD.out.symm, rfl⟩
      · rw [decide_eq_false h1] at C1
        have HC1 := Lib.hid C1
        have HD := Lib.hid (show (decide (g.pl = [] ∨ (gI g.pl 0 ≠ 1 ∧ gI g.pl 0 ≠ 2))) = true by rw [HDZ.out]; exact decide_eq_true (by omega))
        clear C1 h1 h0 hz
        go_wp2_with fail
        refine HC1.out.mono ?_
        rintro e W ⟨rfl, hW⟩
        replace hW := hW.symm
        subst hW
        go_wp2_with fail
        go_meet
        case rel => exact ⟨congrArg Value.bool HD.out.symm, rfl⟩
  case rest =>
  obtain ⟨ht83, hw⟩ := hcut
  replace hw := hw.symm
  subst hw
  subst ht83
  have h8 := HB8.out
  have h9 := HB9.out
  by_cases hpl : g.pl = [] ∨ (gI g.pl 0 ≠ 1 ∧ gI g.pl 0 ≠ 2)
  · have HD := Lib.hid (show rightF A B g = ([], 6) by rw [HR2.out, if_pos hpl])
    have hd : decide (g.pl = [] ∨ (gI g.pl 0 ≠ 1 ∧ gI g.pl 0 ≠ 2)) = true := decide_eq_true hpl
    rw [hd]
    clear hpl
    obtain ⟨r0, r1⟩ := SC.one 3
    have SG := Lib.hid (SC.set1 3 rfl (.slice none 0 0) (by have := HBX.out; omega) (by simp only [offs, offAll, Fct.box, and_true]; omega))
    have hl3 := SC.lt 3
    clear SC
    go_wp2_with fail
    refine bodyPost_ret (v := .tuple #[.agg #[.slice none 0 0], .int .i64 6]) ?_ rfl ?_
    · obtain ⟨q0, _⟩ := SG.out.one 3
      simp [results, Try.results61, go_sem, q0]
    · exact RightP.bad HD.out SG.out.bel
  have hd : decide (g.pl = [] ∨ (gI g.pl 0 ≠ 1 ∧ gI g.pl 0 ≠ 2)) = false := decide_eq_false hpl
  rw [hd]
  have HR3 := Lib.hid (HR2.out.trans (if_neg hpl))
  obtain ⟨pb, poff, rfl, q0⟩ := HCELL.out (fun h => hpl (.inl h))
  rw [Nat.add_zero] at q0
  have hlp : 0 < g.pl.length := by cases hh : g.pl with | nil => exact absurd (.inl hh) hpl | cons x r => simp
  have HLP := Lib.hid hlp
  have hlpi : (0 : Int) < (g.pl.length : Int) := by omega
  obtain ⟨z, hz⟩ : ∃ z, z = gI g.pl 0 := ⟨_, rfl⟩
  have HZ := Lib.hid hz
  have hz12 : z = 1 ∨ z = 2 := Classical.byContradiction fun h => hpl (.inr (by rw [← hz]; omega))
  have HZ12 := Lib.hid hz12
  rw [← hz] at q0
  have HQ0 := Lib.hid (show w.cell? ⟨pb, poff, none⟩ = some (.int .i64 z) from by
    obtain ⟨b, o, e, hc⟩ := HPL.out 0 hlp
    simp only [Option.some.injEq, Addr.mk.injEq] at e
    obtain ⟨rfl, rfl, _⟩ := e
    rw [hz]; exact hc)
  obtain ⟨g4, _⟩ := SC.cell 0 4 rfl
  rw [← HJ.out] at g4
  obtain ⟨v0, _⟩ := SC.one 2
  have d0 := Below.cellOf SC.bel HDC.out.1
  have d1 := Below.cellOf SC.bel HDC.out.2.1
  have d2 := Below.cellOf SC.bel HDC.out.2.2.1
  have d3 := Below.cellOf SC.bel HDC.out.2.2.2.1
  have d4 := Below.cellOf SC.bel HDC.out.2.2.2.2
  obtain ⟨b10, hb10⟩ : ∃ b, b = wc.heap.size := ⟨_, rfl⟩
  have HB10 := Lib.hid (show b9 + 1 ≤ b10 by omega)
  have S7 := SC.box hb10.symm #[.bool fb.neg, .int .i64 fb.l.head, .slice kc fb.l.kids.length (fb.l.kids.length + sc1), .int .i64 fb.r.head, .slice kd fb.r.kids.length (fb.r.kids.length + sd1)] 62
  have z7 : b10 + 1 ≤ (wc.alloc (.cells #[.bool fb.neg, .int .i64 fb.l.head, .slice kc fb.l.kids.length (fb.l.kids.length + sc1), .int .i64 fb.r.head, .slice kd fb.r.kids.length (fb.r.kids.length + sd1)] 62)).heap.size := by simp [hb10]
  clear hpl hd hz hz12
  go_upto_region 13 with fail
  rw [← hb10]
  refine S7.genC (z := b10 + 1) z7 ?_
  clear SC S7 z7 hb10 d0 d1 d2 d3 d4 g4 g6 v0 q0 h8 h9
  intro w5 z5 S
  obtain ⟨b11, hb11⟩ : ∃ b, b = w5.heap.size := ⟨_, rfl⟩
  have HB11 := Lib.hid (show b10 + 1 ≤ b11 by omega)
  obtain ⟨f1, _⟩ := S.cell 6 1 rfl
  obtain ⟨f2, _⟩ := S.cell 6 2 rfl
  have S8 := S.box hb11.symm #[.int .i64 fb.l.head, .slice kc fb.l.kids.length (fb.l.kids.length + sc1)] 38
  have z8 : b11 + 1 ≤ (w5.alloc (.cells #[.int .i64 fb.l.head, .slice kc fb.l.kids.length (fb.l.kids.length + sc1)] 38)).heap.size := by simp [hb11]
  go_upto_region 14 with fail
  rw [← hb11]
  refine S8.genC (z := b11 + 1) z8 ?_
  clear S S8 z8 hb11 f1 f2 z5
  intro w6 z6 S
  change St w w6 [.box bx #[.int .i64 g.kind, .int .i64 g.a, .int .i64 g.b, .int .i64 g.i, .int .i64 g.j, .bool tb, .slice (some ⟨pb, poff, none⟩) g.pl.length pc, .slice bo g.bs.length bc] 35, .box (bx + 1) #[.slice (some ⟨ab, aoff, none⟩) A.length (A.length + sa)] 41, .box (bx + 2) #[.slice (some ⟨cb, coff, none⟩) B.length (B.length + sb)] 41, .box (bx + 3) #[.slice none 0 0] 41, .box b8 #[.int .i64 X.head, .slice kx X.kids.length (X.kids.length + sx)] 38, .box b9 #[.int .i64 Y.head, .slice ky Y.kids.length (Y.kids.length + sy)] 38, .box b10 #[.bool fb.neg, .int .i64 fb.l.head, .slice kc fb.l.kids.length (fb.l.kids.length + sc1), .int .i64 fb.r.head, .slice kd fb.r.kids.length (fb.r.kids.length + sd1)] 62, .box b11 #[.int .i64 fb.l.head, .slice kc fb.l.kids.length (fb.l.kids.length + sc1)] 38] at S
  obtain ⟨g6, _⟩ := S.cell 0 6 rfl
  have q0 := Below.cellOf S.bel HQ0.out
  obtain ⟨dz, hdz⟩ : ∃ d, (z == 2) = d := ⟨_, rfl⟩
  go_upto_if 97 with fail
  go_cut [11] (fun t11 W => ∃ (Z : T) (kz : Option Addr) (sz : Nat), t11 = .pointer (some ⟨b11, 0, none⟩) ∧ b11 + 1 ≤ W.heap.size ∧ St w W [.box bx #[.int .i64 g.kind, .int .i64 g.a, .int .i64 g.b, .int .i64 g.i, .int .i64 g.j, .bool tb, .slice (some ⟨pb, poff, none⟩) g.pl.length pc, .slice bo g.bs.length bc] 35, .box (bx + 1) #[.slice (some ⟨ab, aoff, none⟩) A.length (A.length + sa)] 41, .box (bx + 2) #[.slice (some ⟨cb, coff, none⟩) B.length (B.length + sb)] 41, .box (bx + 3) #[.slice none 0 0] 41, .box b8 #[.int .i64 X.head, .slice kx X.kids.length (X.kids.length + sx)] 38, .box b9 #[.int .i64 Y.head, .slice ky Y.kids.length (Y.kids.length + sy)] 38, .box b10 #[.bool fb.neg, .int .i64 fb.l.head, .slice kc fb.l.kids.length (fb.l.kids.length + sc1), .int .i64 fb.r.head, .slice kd fb.r.kids.length (fb.r.kids.length + sd1)] 62, .box b11 #[.int .i64 Z.head, .slice kz Z.kids.length (Z.kids.length + sz)] 38] ∧ Hid (Z = sideF g fb) ∧ Hid (TreeP p w (.agg #[.int .i64 Z.head, .slice kz Z.kids.length (Z.kids.length + sz)]) Z) ∧ Hid (Z.size ≤ 1000))
  case first =>
    cases dz with
    | false =>
      have hz2 : ¬ z = 2 := by simpa using hdz
      have HZZ := Lib.hid (show fb.l = sideF g fb by unfold sideF; rw [if_neg (by rw [← HZ.out]; exact hz2)])
      have SB := Lib.hid S
      clear S hz2
      go_wp2_with fail
      go_meet
      case rel => exact ⟨fb.l, kc, sc1, rfl, z6, SB.out, HZZ, TU, Lib.hid HSZ.out.2.2.1⟩
    | true =>
      have hz2 : z = 2 := by simpa using hdz
      have HZZ := Lib.hid (show fb.r = sideF g fb by unfold sideF; rw [if_pos (by rw [← HZ.out]; exact hz2)])
      have h8 := HB8.out; have h9 := HB9.out; have h10 := HB10.out; have h11 := HB11.out; have hx := HBX.out
      have SB := Lib.hid (S.set2 7 rfl (.int .i64 fb.r.head) (.slice kd fb.r.kids.length (fb.r.kids.length + sd1)) (by omega) (by simp only [offs, offAll, Fct.box, and_true]; omega))
      have hl7 := S.lt 7
      obtain ⟨⟨e0, e1⟩, e2, e3⟩ := S.two 7
      obtain ⟨f3, _⟩ := S.cell 6 3 rfl
      obtain ⟨f4, _⟩ := S.cell 6 4 rfl
      have zz : b11 + 1 ≤ ((w6.setCell ⟨b11, 0, none⟩ (.int .i64 fb.r.head)).setCell ⟨b11, 1, none⟩ (.slice kd fb.r.kids.length (fb.r.kids.length + sd1))).heap.size := by simp; exact z6
      clear S hz2 h8 h9 h10 h11 hx
      go_wp2_with fail
      go_meet
      case rel => exact ⟨fb.r, kd, sd1, rfl, zz, SB.out, HZZ, TV, Lib.hid HSZ.out.2.2.2⟩
  case rest =>
  obtain ⟨Z, kz, sz, ht11, zd, SE, HZZ, TZ, HZS⟩ := hcut
  subst ht11
  clear S q0 g6 hdz z6
  obtain ⟨⟨x0, _⟩, x1, _⟩ := SE.two 7
  obtain ⟨g6, _⟩ := SE.cell 0 6 rfl
  obtain ⟨GX, GN, hG⟩ : ∃ GX GN, Z.get g.pl.tail 0 = (GX, GN) := ⟨_, _, rfl⟩
  have HG := Lib.hid hG
  have hl1 : 1 ≤ g.pl.length := by omega
  have hl1i : (1 : Int) ≤ (g.pl.length : Int) := by omega
  have HTAIL := Lib.hid (fun (W : World) (hW : CellsAt W (some ⟨pb, poff, none⟩) g.pl.length (fun j => .int .i64 (gI g.pl j))) => show CellsAt W (if pc = 1 then some ⟨pb, poff, none⟩ else some ⟨pb, poff + 1, none⟩) g.pl.tail.length (fun j => .int .i64 (gI g.pl.tail j)) from cells_tail hW hplc)
  clear hG
  go_upto_region 16 with fail
  go_cut [12, 13] (fun t12 t13 W => ∃ (b12 : Nat) (ku : Option Addr) (su : Nat), t12 = .pointer (some ⟨b12, 0, none⟩) ∧ t13 = .int .i64 GN ∧ b11 + 1 ≤ b12 ∧ Hid (TreeP p w (.agg #[.int .i64 GX.head, .slice ku GX.kids.length (GX.kids.length + su)]) GX) ∧ St w W [.box bx #[.int .i64 g.kind, .int .i64 g.a, .int .i64 g.b, .int .i64 g.i, .int .i64 g.j, .bool tb, .slice (some ⟨pb, poff, none⟩) g.pl.length pc, .slice bo g.bs.length bc] 35, .box (bx + 1) #[.slice (some ⟨ab, aoff, none⟩) A.length (A.length + sa)] 41, .box (bx + 2) #[.slice (some ⟨cb, coff, none⟩) B.length (B.length + sb)] 41, .box (bx + 3) #[.slice none 0 0] 41, .box b8 #[.int .i64 X.head, .slice kx X.kids.length (X.kids.length + sx)] 38, .box b9 #[.int .i64 Y.head, .slice ky Y.kids.length (Y.kids.length + sy)] 38, .box b10 #[.bool fb.neg, .int .i64 fb.l.head, .slice kc fb.l.kids.length (fb.l.kids.length + sc1), .int .i64 fb.r.head, .slice kd fb.r.kids.length (fb.r.kids.length + sd1)] 62, .box b11 #[.int .i64 Z.head, .slice kz Z.kids.length (Z.kids.length + sz)] 38, .box b12 #[.int .i64 GX.head, .slice ku GX.kids.length (GX.kids.length + su)] 38])
  case first =>
    have SD := SE.drew
    have FC := Lib.hid (fun W (hb : Below wc.heap.size wc W) => (⟨Below.cellOf hb x0, Below.cellOf hb x1, Below.cellOf hb g6⟩ : (fun W => W.cell? ⟨b11, 0, none⟩ = some (.int .i64 Z.head) ∧ W.cell? ⟨b11, 1, none⟩ = some (.slice kz Z.kids.length (Z.kids.length + sz)) ∧ W.cell? ⟨bx, 6, none⟩ = some (.slice (some ⟨pb, poff, none⟩) g.pl.length pc)) W))
    clear SE x0 x1 g6
    refine wpH_region [10] (fun W => W.cell? ⟨b11, 0, none⟩ = some (.int .i64 Z.head) ∧ W.cell? ⟨b11, 1, none⟩ = some (.slice kz Z.kids.length (Z.kids.length + sz)) ∧ W.cell? ⟨bx, 6, none⟩ = some (.slice (some ⟨pb, poff, none⟩) g.pl.length pc)) (by kernel_rfl) ?_
    have HS := FC.out _ (Below.refl _ wc).drew
    refine wpH.take (i := 0) (by kernel_rfl) (by kernel_rfl) (by kernel_rfl) (by kernel_rfl) (by kernel_rfl) HS ?_
    intro oi ho
    simp only [List.getElem?_toArray, List.getElem?_cons_zero, Option.some.injEq] at ho
    subst ho
    refine ⟨?_, Or.inl ⟨by rfl, ?_⟩, fun _ _ _ h => h, ?_⟩
    rotate_left 1
    · intro W hW
      try dsimp only at hW
      go_simp
      try with_reducible rfl
    simp only [Act.put, List.setIfInBounds_toArray, List.set_cons_zero, List.set_cons_succ]
    refine wpH.take (i := 1) (by kernel_rfl) (by kernel_rfl) (by kernel_rfl) (by kernel_rfl) (by kernel_rfl) HS ?_
    intro oi ho
    simp only [List.getElem?_toArray, List.getElem?_cons_succ, List.getElem?_cons_zero, Option.some.injEq] at ho
    subst ho
    refine ⟨?_, Or.inl ⟨by rfl, ?_⟩, fun _ _ _ h => h, ?_⟩
    rotate_left 1
    · intro W hW
      try dsimp only at hW
      go_simp
      try with_reducible rfl
    simp only [Act.put, List.setIfInBounds_toArray, List.set_cons_zero, List.set_cons_succ]
    refine wpH.take (i := 2) (by kernel_rfl) (by kernel_rfl) (by kernel_rfl) (by kernel_rfl) (by kernel_rfl) HS ?_
    intro oi ho
    simp only [List.getElem?_toArray, List.getElem?_cons_succ, List.getElem?_cons_zero, Option.some.injEq] at ho
    subst ho
    refine ⟨?_, Or.inl ⟨by rfl, ?_⟩, fun _ _ _ h => h, ?_⟩
    rotate_left 1
    · intro W hW
      try dsimp only at hW
      go_simp
      try with_reducible rfl
    simp only [Act.put, List.setIfInBounds_toArray, List.set_cons_zero, List.set_cons_succ]
    refine wpH.take (i := 3) (by kernel_rfl) (by kernel_rfl) (by kernel_rfl) (by kernel_rfl) (by kernel_rfl) HS ?_
    intro oi ho
    simp only [List.getElem?_toArray, List.getElem?_cons_succ, List.getElem?_cons_zero, Option.some.injEq] at ho
    subst ho
    refine ⟨?_, Or.inl ⟨by rfl, ?_⟩, fun _ _ _ h => h, ?_⟩
    rotate_left 1
    · intro W hW
      try dsimp only at hW
      go_simp
      try with_reducible rfl
    simp only [Act.put, List.setIfInBounds_toArray, List.set_cons_zero, List.set_cons_succ]
    refine wpH.two (i := 4) (j := 8) (by kernel_rfl) ?_ ?_
    · intro oi ho
      simp only [List.getElem?_toArray, List.getElem?_cons_succ, List.getElem?_cons_zero, Option.some.injEq] at ho
      subst ho
      intro K hK
      have HK := Lib.hid hK
      clear hK
      go_simp
      go_at_call 103
      rw [show g.pl.length - 1 = g.pl.tail.length by simp]
      refine (down32 p Z g.pl.tail _ _ _ _ (TZ.out.kept SD.bel) (HTAIL.out _ (HPL.out.below SD.bel)) (by simp; omega)).mono ?_
      rintro e wn ⟨ku, su, rfl, hu, hbn⟩
      rw [HG.out] at hu ⊢
      have GT := Lib.hid (TreeP.carry (w' := w) (fun b hb _ => (SD.bel.block b (HP.out b hb)).symm) hu)
      have S9 := SD.step hbn
      have HB9' := Lib.hid (Below.step (Below.refl _ wc).drew hbn)
      have zn := hbn.size
      clear hbn hu
      dsimp only
      refine HK.out _ _ (fun _ => FC.out _ HB9'.out) ?_
      have HS := FC.out _ HB9'.out
      try simp only [Act.put, List.setIfInBounds_toArray, List.set_cons_zero, List.set_cons_succ]
      refine wpH.take (i := 5) (by kernel_rfl) (by kernel_rfl) (by kernel_rfl) (by kernel_rfl) (by kernel_rfl) HS ?_
      intro oi ho
      simp only [List.getElem?_toArray, List.getElem?_cons_succ, List.getElem?_cons_zero, Option.some.injEq] at ho
      subst ho
      refine ⟨?_, Or.inl ⟨by rfl, ?_⟩, fun _ _ _ h => h, ?_⟩
      rotate_left 1
      · intro W hW
        try dsimp only at hW
        go_simp
        try with_reducible rfl
      simp only [Act.put, List.setIfInBounds_toArray, List.set_cons_zero, List.set_cons_succ]
      refine wpH.take (i := 6) (by kernel_rfl) (by kernel_rfl) (by kernel_rfl) (by kernel_rfl) (by kernel_rfl) HS ?_
      intro oi ho
      simp only [List.getElem?_toArray, List.getElem?_cons_succ, List.getElem?_cons_zero, Option.some.injEq] at ho
      subst ho
      refine ⟨?_, Or.inl ⟨by rfl, ?_⟩, fun _ _ _ h => h, ?_⟩
      rotate_left 1
      · intro W hW
        try dsimp only at hW
        go_simp
        try with_reducible rfl
      simp only [Act.put, List.setIfInBounds_toArray, List.set_cons_zero, List.set_cons_succ]
      refine wpH.take (i := 7) (by kernel_rfl) (by kernel_rfl) (by kernel_rfl) (by kernel_rfl) (by kernel_rfl) HS ?_
      intro oi ho
      simp only [List.getElem?_toArray, List.getElem?_cons_succ, List.getElem?_cons_zero, Option.some.injEq] at ho
      subst ho
      refine ⟨?_, Or.inl ⟨by rfl, ?_⟩, fun _ _ _ h => h, ?_⟩
      rotate_left 1
      · intro W hW
        try dsimp only at hW
        go_simp
        try with_reducible rfl
      simp only [Act.put, List.setIfInBounds_toArray, List.set_cons_zero, List.set_cons_succ]
      refine wpH.one (i := 8) (by kernel_rfl) ?_
      intro oi ho
      simp only [List.getElem?_toArray, List.getElem?_cons_succ, List.getElem?_cons_zero, Option.some.injEq] at ho
      subst ho
      intro K hK
      have HK := Lib.hid hK
      clear hK
      go_simp
      have S10 := S9.box (b := wn.heap.size) rfl #[.int .i64 0, .slice none 0 0] 38
      have HB10' := Lib.hid (HB9'.out.alloc (HB9'.out.size) (.cells #[.int .i64 0, .slice none 0 0] 38))
      refine HK.out _ _ (fun _ => FC.out _ HB10'.out) ?_
      have HS := FC.out _ HB10'.out
      try simp only [Act.put, List.setIfInBounds_toArray, List.set_cons_zero, List.set_cons_succ]
      generalize hW3 : wn.alloc (.cells #[.int .i64 0, .slice none 0 0] 38) = W3 at S10 HB10' HS ⊢
      clear hW3
      refine wpH.one (i := 9) (by kernel_rfl) ?_
      intro oi ho
      simp only [List.getElem?_toArray, List.getElem?_cons_succ, List.getElem?_cons_zero, Option.some.injEq] at ho
      subst ho
      intro K hK
      have HK := Lib.hid hK
      clear hK
      obtain ⟨⟨e0, e1⟩, e2, e3⟩ := S10.two 8
      have hlb := S10.lt 8
      have hw12 : wc.heap.size ≤ wn.heap.size := by first | exact Nat.le_refl _ | (have h := zn; (try simp at h); omega)
      go_simp
      have SF := S10.set2 8 rfl (.int .i64 GX.head) (.slice ku GX.kids.length (GX.kids.length + su)) (by have h8 := HB8.out; have h9 := HB9.out; have h10 := HB10.out; have h11 := HB11.out; have hx := HBX.out; omega) (by have h8 := HB8.out; have h9 := HB9.out; have h10 := HB10.out; have h11 := HB11.out; have hx := HBX.out; simp only [fsnoc, offs, offAll, Fct.box, and_true]; omega)
      have HBF := Lib.hid ((HB10'.out.setCell (p := ⟨wn.heap.size, 0, none⟩) (by show wc.heap.size ≤ wn.heap.size; omega) (.int .i64 GX.head)).setCell (p := ⟨wn.heap.size, 1, none⟩) (by show wc.heap.size ≤ wn.heap.size; omega) (.slice ku GX.kids.length (GX.kids.length + su)))
      clear e0 e1 e2 e3
      refine HK.out _ _ (fun _ => FC.out _ HBF.out) ?_
      have HS := FC.out _ HBF.out
      try simp only [Act.put, List.setIfInBounds_toArray, List.set_cons_zero, List.set_cons_succ]
      refine wpH.one (i := 10) (by kernel_rfl) ?_
      intro oi ho
      simp only [List.getElem?_toArray, List.getElem?_cons_succ, List.getElem?_cons_zero, Option.some.injEq] at ho
      subst ho
      intro K hK
      have HK := Lib.hid hK
      clear hK
      go_simp
      refine HK.out _ _ (fun h => absurd h (by decide)) ?_
      try simp only [Act.put, List.setIfInBounds_toArray, List.set_cons_zero, List.set_cons_succ]
      refine wpH.done (by kernel_rfl) ?_
      have SH := Lib.hid (SF.pick [0, 1, 2, 3, 4, 5, 6, 7, 8])
      clear SF HS
      generalize (if pc = 1 then (some ⟨pb, poff, none⟩ : Option Addr) else some ⟨pb, poff + 1, none⟩) = tlv
      try go_wp2_with fail
      go_meet
      case rel => exact ⟨wn.heap.size, ku, su, rfl, rfl, by omega, GT, SH.out⟩
    · intro oi ho
      simp only [List.getElem?_toArray, List.getElem?_cons_succ, List.getElem?_cons_zero, Option.some.injEq] at ho
      subst ho
      intro K hK
      have HK := Lib.hid hK
      clear hK
      go_simp
      have S9 : St w ((wc.alloc (.cells #[.int .i64 0, .slice none 0 0] 38)).drew) _ := SD.box (b := wc.heap.size) rfl #[.int .i64 0, .slice none 0 0] 38
      have HB9' : Hid (Below wc.heap.size wc ((wc.alloc (.cells #[.int .i64 0, .slice none 0 0] 38)).drew)) := Lib.hid (((Below.refl _ wc).alloc (Nat.le_refl _) _).drew)
      refine HK.out _ _ (fun _ => FC.out _ HB9'.out) ?_
      try simp only [Act.put, List.setIfInBounds_toArray, List.set_cons_zero, List.set_cons_succ]
      generalize hW9 : (wc.alloc (.cells #[.int .i64 0, .slice none 0 0] 38)).drew = W9 at S9 HB9' ⊢
      clear hW9
      have HS := FC.out _ HB9'.out
      refine wpH.one (i := 4) (by kernel_rfl) ?_
      intro oi ho
      simp only [List.getElem?_toArray, List.getElem?_cons_succ, List.getElem?_cons_zero, Option.some.injEq] at ho
      subst ho
      intro K hK
      have HK := Lib.hid hK
      clear hK
      go_simp
      go_at_call 103
      rw [show g.pl.length - 1 = g.pl.tail.length by simp]
      refine (down32 p Z g.pl.tail _ _ _ _ (TZ.out.kept S9.bel) (HTAIL.out _ (HPL.out.below S9.bel)) (by simp; omega)).mono ?_
      rintro e wn ⟨ku, su, rfl, hu, hbn⟩
      rw [HG.out] at hu ⊢
      have GT := Lib.hid (TreeP.carry (w' := w) (fun b hb _ => (S9.bel.block b (HP.out b hb)).symm) hu)
      have S10 := S9.step hbn
      have HB10' := Lib.hid (Below.step HB9'.out hbn)
      have zn := hbn.size
      clear hbn hu
      dsimp only
      refine HK.out _ _ (fun _ => FC.out _ HB10'.out) ?_
      have HS := FC.out _ HB10'.out
      try simp only [Act.put, List.setIfInBounds_toArray, List.set_cons_zero, List.set_cons_succ]
      refine wpH.take (i := 5) (by kernel_rfl) (by kernel_rfl) (by kernel_rfl) (by kernel_rfl) (by kernel_rfl) HS ?_
      intro oi ho
      simp only [List.getElem?_toArray, List.getElem?_cons_succ, List.getElem?_cons_zero, Option.some.injEq] at ho
      subst ho
      refine ⟨?_, Or.inl ⟨by rfl, ?_⟩, fun _ _ _ h => h, ?_⟩
      rotate_left 1
      · intro W hW
        try dsimp only at hW
        go_simp
        try with_reducible rfl
      simp only [Act.put, List.setIfInBounds_toArray, List.set_cons_zero, List.set_cons_succ]
      refine wpH.take (i := 6) (by kernel_rfl) (by kernel_rfl) (by kernel_rfl) (by kernel_rfl) (by kernel_rfl) HS ?_
      intro oi ho
      simp only [List.getElem?_toArray, List.getElem?_cons_succ, List.getElem?_cons_zero, Option.some.injEq] at ho
      subst ho
      refine ⟨?_, Or.inl ⟨by rfl, ?_⟩, fun _ _ _ h => h, ?_⟩
      rotate_left 1
      · intro W hW
        try dsimp only at hW
        go_simp
        try with_reducible rfl
      simp only [Act.put, List.setIfInBounds_toArray, List.set_cons_zero, List.set_cons_succ]
      refine wpH.take (i := 7) (by kernel_rfl) (by kernel_rfl) (by kernel_rfl) (by kernel_rfl) (by kernel_rfl) HS ?_
      intro oi ho
      simp only [List.getElem?_toArray, List.getElem?_cons_succ, List.getElem?_cons_zero, Option.some.injEq] at ho
      subst ho
      refine ⟨?_, Or.inl ⟨by rfl, ?_⟩, fun _ _ _ h => h, ?_⟩
      rotate_left 1
      · intro W hW
        try dsimp only at hW
        go_simp
        try with_reducible rfl
      simp only [Act.put, List.setIfInBounds_toArray, List.set_cons_zero, List.set_cons_succ]
      refine wpH.one (i := 9) (by kernel_rfl) ?_
      intro oi ho
      simp only [List.getElem?_toArray, List.getElem?_cons_succ, List.getElem?_cons_zero, Option.some.injEq] at ho
      subst ho
      intro K hK
      have HK := Lib.hid hK
      clear hK
      obtain ⟨⟨e0, e1⟩, e2, e3⟩ := S10.two 8
      have hlb := S10.lt 8
      have hw12 : wc.heap.size ≤ wc.heap.size := by first | exact Nat.le_refl _ | (have h := zn; (try simp at h); omega)
      go_simp
      have SF := S10.set2 8 rfl (.int .i64 GX.head) (.slice ku GX.kids.length (GX.kids.length + su)) (by have h8 := HB8.out; have h9 := HB9.out; have h10 := HB10.out; have h11 := HB11.out; have hx := HBX.out; omega) (by have h8 := HB8.out; have h9 := HB9.out; have h10 := HB10.out; have h11 := HB11.out; have hx := HBX.out; simp only [fsnoc, offs, offAll, Fct.box, and_true]; omega)
      have HBF := Lib.hid ((HB10'.out.setCell (p := ⟨wc.heap.size, 0, none⟩) (by show wc.heap.size ≤ wc.heap.size; omega) (.int .i64 GX.head)).setCell (p := ⟨wc.heap.size, 1, none⟩) (by show wc.heap.size ≤ wc.heap.size; omega) (.slice ku GX.kids.length (GX.kids.length + su)))
      clear e0 e1 e2 e3
      refine HK.out _ _ (fun _ => FC.out _ HBF.out) ?_
      have HS := FC.out _ HBF.out
      try simp only [Act.put, List.setIfInBounds_toArray, List.set_cons_zero, List.set_cons_succ]
      refine wpH.one (i := 10) (by kernel_rfl) ?_
      intro oi ho
      simp only [List.getElem?_toArray, List.getElem?_cons_succ, List.getElem?_cons_zero, Option.some.injEq] at ho
      subst ho
      intro K hK
      have HK := Lib.hid hK
      clear hK
      go_simp
      refine HK.out _ _ (fun h => absurd h (by decide)) ?_
      try simp only [Act.put, List.setIfInBounds_toArray, List.set_cons_zero, List.set_cons_succ]
      refine wpH.done (by kernel_rfl) ?_
      have SH := Lib.hid (SF.pick [0, 1, 2, 3, 4, 5, 6, 7, 8])
      clear SF HS
      generalize (if pc = 1 then (some ⟨pb, poff, none⟩ : Option Addr) else some ⟨pb, poff + 1, none⟩) = tlv
      try go_wp2_with fail
      go_meet
      case rel => exact ⟨wc.heap.size, ku, su, rfl, rfl, by omega, GT, SH.out⟩
  case rest =>
  obtain ⟨b12, ku, su, ht12, ht13, hz12, GT, S⟩ := hcut
  subst ht12
  subst ht13
  have HB12 := Lib.hid hz12
  clear SE x0 x1 g6
  by_cases hgn : 0 ≤ GN
  · have HD := Lib.hid (show rightF A B g = ([], 6) by rw [HR3.out, if_pos (by rw [← HZZ.out, HG.out]; exact hgn)])
    have h8 := HB8.out
    have h9 := HB9.out
    have h10 := HB10.out
    have h11 := HB11.out
    clear GT HR3
    obtain ⟨r0, r1⟩ := S.one 3
    have SG := Lib.hid (S.set1 3 rfl (.slice none 0 0) (by have := HBX.out; omega) (by simp only [offs, offAll, Fct.box, and_true]; omega))
    have hl3 := S.lt 3
    clear S
    go_wp2_with fail
    refine bodyPost_ret (v := .tuple #[.agg #[.slice none 0 0], .int .i64 6]) ?_ rfl ?_
    · obtain ⟨q0, _⟩ := SG.out.one 3
      simp [results, Try.results61, go_sem, q0]
    · exact RightP.bad HD.out SG.out.bel
  have HR4 := Lib.hid (HR3.out.trans (if_neg (by rw [← HZZ.out, HG.out]; exact hgn)))
  have HGN := Lib.hid (show GN < 0 by omega)
  clear HR3
  obtain ⟨⟨v0, _⟩, v1, _⟩ := S.two 8
  obtain ⟨⟨y0, _⟩, y1, _⟩ := S.two 4
  go_wp2_with fail
  refine (same22 GX X _ _ wc ((GT.out.kept S.bel).at) ((TXX.out.kept S.bel).at)).mono ?_
  rintro e w7 ⟨rfl, hb7⟩
  have S7 := S.step hb7
  clear S hb7 v0 v1 y0 y1
  by_cases hsx : GX = X
  case neg =>
    have HD := Lib.hid (show rightF A B g = ([], 11) by rw [HR4.out, if_pos (by rw [← HZZ.out, HG.out, ← HX.out]; exact hsx)])
    rw [decide_eq_false hsx]
    have h8 := HB8.out
    have h9 := HB9.out
    have h10 := HB10.out
    have h11 := HB11.out
    have h12 := HB12.out
    clear hsx HR4
    obtain ⟨r0, r1⟩ := S7.one 3
    have SG := Lib.hid (S7.set1 3 rfl (.slice none 0 0) (by have := HBX.out; omega) (by simp only [offs, offAll, Fct.box, and_true]; omega))
    have hl3 := S7.lt 3
    clear S7
    go_wp2_with fail
    refine bodyPost_ret (v := .tuple #[.agg #[.slice none 0 0], .int .i64 11]) ?_ rfl ?_
    · obtain ⟨q0, _⟩ := SG.out.one 3
      simp [results, Try.results61, go_sem, q0]
    · exact RightP.bad HD.out SG.out.bel
  case pos =>
  have HR5 := Lib.hid (HR4.out.trans (if_neg (by rw [← HZZ.out, HG.out, ← HX.out]; exact fun h => h hsx)))
  rw [decide_eq_true hsx]
  clear hsx HR4 hgn
  obtain ⟨NT, hNT⟩ : ∃ N, N = T.withAt g.pl.tail (sideF g fb) (toF g fa) := ⟨_, rfl⟩
  have HNZ := Lib.hid (show T.withAt g.pl.tail Z Y = NT by rw [HZZ.out, HY.out, hNT])
  rw [← hNT] at HR5
  clear hNT
  have HVAL := Lib.hid (show ∀ v ∈ g.pl.tail, 1 ≤ v ∧ v ≤ 100000000 from fun v hv => by
    have h1 := get_validR g.pl.tail Z 0 (Int.le_refl _) (by rw [HG.out]; exact HGN.out) v hv
    have h2 := HZS.out
    omega)
  have HZ7 := Lib.hid (show b12 + 1 ≤ w7.heap.size from S7.lt 8)
  obtain ⟨g6, _⟩ := S7.cell 0 6 rfl
  have q0 := Below.cellOf S7.bel HQ0.out
  obtain ⟨dz, hdz⟩ : ∃ d, (z == 1) = d := ⟨_, rfl⟩
  go_upto_if 120 with fail
  go_cut [] (fun W => ∃ (k1 k2 : Option Addr) (s1 s2 : Nat), Hid (TreeP (fun c => p c ∨ b12 < c) W (.agg #[.int .i64 (lastF g fb NT).l.head, .slice k1 (lastF g fb NT).l.kids.length ((lastF g fb NT).l.kids.length + s1)]) (lastF g fb NT).l) ∧ Hid (TreeP (fun c => p c ∨ b12 < c) W (.agg #[.int .i64 (lastF g fb NT).r.head, .slice k2 (lastF g fb NT).r.kids.length ((lastF g fb NT).r.kids.length + s2)]) (lastF g fb NT).r) ∧ b12 + 1 ≤ W.heap.size ∧ St w W [.box bx #[.int .i64 g.kind, .int .i64 g.a, .int .i64 g.b, .int .i64 g.i, .int .i64 g.j, .bool tb, .slice (some ⟨pb, poff, none⟩) g.pl.length pc, .slice bo g.bs.length bc] 35, .box (bx + 1) #[.slice (some ⟨ab, aoff, none⟩) A.length (A.length + sa)] 41, .box (bx + 2) #[.slice (some ⟨cb, coff, none⟩) B.length (B.length + sb)] 41, .box (bx + 3) #[.slice none 0 0] 41, .box b8 #[.int .i64 X.head, .slice kx X.kids.length (X.kids.length + sx)] 38, .box b9 #[.int .i64 Y.head, .slice ky Y.kids.length (Y.kids.length + sy)] 38, .box b10 #[.bool (lastF g fb NT).neg, .int .i64 (lastF g fb NT).l.head, .slice k1 (lastF g fb NT).l.kids.length ((lastF g fb NT).l.kids.length + s1), .int .i64 (lastF g fb NT).r.head, .slice k2 (lastF g fb NT).r.kids.length ((lastF g fb NT).r.kids.length + s2)] 62])
  case first =>
    obtain ⟨⟨x0, _⟩, x1, _⟩ := S7.two 7
    obtain ⟨⟨y0, _⟩, y1, _⟩ := S7.two 5
    have FC := Lib.hid (fun W (hb : Below w7.heap.size w7 W) => (⟨Below.cellOf hb x0, Below.cellOf hb x1, Below.cellOf hb g6, Below.cellOf hb y0, Below.cellOf hb y1⟩ : (fun W => W.cell? ⟨b11, 0, none⟩ = some (.int .i64 Z.head) ∧ W.cell? ⟨b11, 1, none⟩ = some (.slice kz Z.kids.length (Z.kids.length + sz)) ∧ W.cell? ⟨bx, 6, none⟩ = some (.slice (some ⟨pb, poff, none⟩) g.pl.length pc) ∧ W.cell? ⟨b9, 0, none⟩ = some (.int .i64 Y.head) ∧ W.cell? ⟨b9, 1, none⟩ = some (.slice ky Y.kids.length (Y.kids.length + sy))) W))
    have SD := S7.drew
    clear S7 x0 x1 y0 y1 g6 q0
    cases dz with
    | true =>
      have hz1 : z = 1 := by simpa using hdz
      have HLS := Lib.hid (show lastF g fb NT = ⟨fb.neg, NT, fb.r⟩ by unfold lastF; rw [if_neg (by rw [← HZ.out]; omega)])
      clear hdz hz1
      go_upto_region 22 with fail
      refine wpH_region [7] (fun W => W.cell? ⟨b11, 0, none⟩ = some (.int .i64 Z.head) ∧ W.cell? ⟨b11, 1, none⟩ = some (.slice kz Z.kids.length (Z.kids.length + sz)) ∧ W.cell? ⟨bx, 6, none⟩ = some (.slice (some ⟨pb, poff, none⟩) g.pl.length pc) ∧ W.cell? ⟨b9, 0, none⟩ = some (.int .i64 Y.head) ∧ W.cell? ⟨b9, 1, none⟩ = some (.slice ky Y.kids.length (Y.kids.length + sy))) (by kernel_rfl) ?_
      have HS := FC.out _ (Below.refl _ w7).drew
      refine wpH.take (i := 0) (by kernel_rfl) (by kernel_rfl) (by kernel_rfl) (by kernel_rfl) (by kernel_rfl) HS ?_
      intro oi ho
      simp only [List.getElem?_toArray, List.getElem?_cons_zero, Option.some.injEq] at ho
      subst ho
      refine ⟨?_, Or.inl ⟨by rfl, ?_⟩, fun _ _ _ h => h, ?_⟩
      rotate_left 1
      · intro W hW
        try dsimp only at hW
        go_simp
        try with_reducible rfl
      simp only [Act.put, List.setIfInBounds_toArray, List.set_cons_zero, List.set_cons_succ]
      refine wpH.take (i := 1) (by kernel_rfl) (by kernel_rfl) (by kernel_rfl) (by kernel_rfl) (by kernel_rfl) HS ?_
      intro oi ho
      simp only [List.getElem?_toArray, List.getElem?_cons_succ, List.getElem?_cons_zero, Option.some.injEq] at ho
      subst ho
      refine ⟨?_, Or.inl ⟨by rfl, ?_⟩, fun _ _ _ h => h, ?_⟩
      rotate_left 1
      · intro W hW
        try dsimp only at hW
        go_simp
        try with_reducible rfl
      simp only [Act.put, List.setIfInBounds_toArray, List.set_cons_zero, List.set_cons_succ]
      refine wpH.take (i := 2) (by kernel_rfl) (by kernel_rfl) (by kernel_rfl) (by kernel_rfl) (by kernel_rfl) HS ?_
      intro oi ho
      simp only [List.getElem?_toArray, List.getElem?_cons_succ, List.getElem?_cons_zero, Option.some.injEq] at ho
      subst ho
      refine ⟨?_, Or.inl ⟨by rfl, ?_⟩, fun _ _ _ h => h, ?_⟩
      rotate_left 1
      · intro W hW
        try dsimp only at hW
        go_simp
        try with_reducible rfl
      simp only [Act.put, List.setIfInBounds_toArray, List.set_cons_zero, List.set_cons_succ]
      refine wpH.take (i := 3) (by kernel_rfl) (by kernel_rfl) (by kernel_rfl) (by kernel_rfl) (by kernel_rfl) HS ?_
      intro oi ho
      simp only [List.getElem?_toArray, List.getElem?_cons_succ, List.getElem?_cons_zero, Option.some.injEq] at ho
      subst ho
      refine ⟨?_, Or.inl ⟨by rfl, ?_⟩, fun _ _ _ h => h, ?_⟩
      rotate_left 1
      · intro W hW
        try dsimp only at hW
        go_simp
        try with_reducible rfl
      simp only [Act.put, List.setIfInBounds_toArray, List.set_cons_zero, List.set_cons_succ]
      refine wpH.take (i := 4) (by kernel_rfl) (by kernel_rfl) (by kernel_rfl) (by kernel_rfl) (by kernel_rfl) HS ?_
      intro oi ho
      simp only [List.getElem?_toArray, List.getElem?_cons_succ, List.getElem?_cons_zero, Option.some.injEq] at ho
      subst ho
      refine ⟨?_, Or.inl ⟨by rfl, ?_⟩, fun _ _ _ h => h, ?_⟩
      rotate_left 1
      · intro W hW
        try dsimp only at hW
        go_simp
        try with_reducible rfl
      simp only [Act.put, List.setIfInBounds_toArray, List.set_cons_zero, List.set_cons_succ]
      refine wpH.one (i := 5) (by kernel_rfl) ?_
      intro oi ho
      simp only [List.getElem?_toArray, List.getElem?_cons_succ, List.getElem?_cons_zero, Option.some.injEq] at ho
      subst ho
      intro K hK
      have HK := Lib.hid hK
      clear hK
      go_simp
      go_at_call 104
      rw [show g.pl.length - 1 = g.pl.tail.length by simp]
      refine (laid33 Y g.pl.tail Z p _ _ _ _ _ (fun b h => Nat.lt_of_lt_of_le (HP.out b h) SD.bel.size) (TZ.out.kept SD.bel) (TYY.out.kept SD.bel) (HTAIL.out _ (HPL.out.below SD.bel)) (by simp; omega) (by omega) (by have := HZS.out; omega) HVAL.out).mono ?_
      rintro e wn ⟨u, rfl, hu, hbn⟩
      rw [HNZ.out] at hu
      obtain ⟨kn, sn, rfl⟩ := hu.at.form
      have UT := Lib.hid hu
      have S9 := SD.step hbn
      have HB9x := Lib.hid (Below.step (Below.refl _ w7).drew hbn)
      have zn : w7.heap.size ≤ wn.heap.size := hbn.size
      clear hbn hu
      dsimp only
      refine HK.out _ _ (fun _ => FC.out _ HB9x.out) ?_
      have HS := FC.out _ HB9x.out
      try simp only [Act.put, List.setIfInBounds_toArray, List.set_cons_zero, List.set_cons_succ]
      refine wpH.take (i := 6) (by kernel_rfl) (by kernel_rfl) (by kernel_rfl) (by kernel_rfl) (by kernel_rfl) HS ?_
      intro oi ho
      simp only [List.getElem?_toArray, List.getElem?_cons_succ, List.getElem?_cons_zero, Option.some.injEq] at ho
      subst ho
      refine ⟨?_, Or.inl ⟨by rfl, ?_⟩, fun _ _ _ h => h, ?_⟩
      rotate_left 1
      · intro W hW
        try dsimp only at hW
        go_simp
        try with_reducible rfl
      simp only [Act.put, List.setIfInBounds_toArray, List.set_cons_zero, List.set_cons_succ]
      refine wpH.one (i := 7) (by kernel_rfl) ?_
      intro oi ho
      simp only [List.getElem?_toArray, List.getElem?_cons_succ, List.getElem?_cons_zero, Option.some.injEq] at ho
      subst ho
      intro K hK
      have HK := Lib.hid hK
      clear hK
      obtain ⟨e0, e1⟩ := S9.cell 6 1 rfl
      obtain ⟨e2, e3⟩ := S9.cell 6 2 rfl
      have hlb := S9.lt 6
      go_simp
      have SF := S9.put 6 (b := b10) (cs' := #[.bool fb.neg, .int .i64 NT.head, .slice kn NT.kids.length (NT.kids.length + sn), .int .i64 fb.r.head, .slice kd fb.r.kids.length (fb.r.kids.length + sd1)]) rfl (by have h8 := HB8.out; have h9 := HB9.out; have h10 := HB10.out; have h11 := HB11.out; have hx := HBX.out; omega) (by have h8 := HB8.out; have h9 := HB9.out; have h10 := HB10.out; have h11 := HB11.out; have hx := HBX.out; simp only [offs, offAll, Fct.box, and_true]; omega) (w' := ((wn.setCell ⟨b10, 1, none⟩ (.int .i64 NT.head)).setCell ⟨b10, 2, none⟩ (.slice kn NT.kids.length (NT.kids.length + sn)))) (fun h => (h.setCell (p := ⟨b10, 1, none⟩) (by have h8 := HB8.out; have h9 := HB9.out; have h10 := HB10.out; have h11 := HB11.out; have hx := HBX.out; show w.heap.size ≤ b10; omega) _).setCell (p := ⟨b10, 2, none⟩) (by have h8 := HB8.out; have h9 := HB9.out; have h10 := HB10.out; have h11 := HB11.out; have hx := HBX.out; show w.heap.size ≤ b10; omega) _) (fun c hc => (Below.heap_setCell _ _ _ _ hc).trans (Below.heap_setCell _ _ _ _ hc)) (fun h => by simp [World.setCell, Array.getElem?_modify, h])
      clear e0 e1 e2 e3
      refine HK.out _ _ (fun h => absurd h (by decide)) ?_
      try simp only [Act.put, List.setIfInBounds_toArray, List.set_cons_zero, List.set_cons_succ]
      refine wpH.done (by kernel_rfl) ?_
      generalize (if pc = 1 then (some ⟨pb, poff, none⟩ : Option Addr) else some ⟨pb, poff + 1, none⟩) = tlv
      have SH := Lib.hid (SF.pick [0, 1, 2, 3, 4, 5, 6])
      have hz7 : b12 + 1 ≤ w7.heap.size := HZ7.out
      have UT2 := Lib.hid (show TreeP (fun c => p c ∨ b12 < c) ((wn.setCell ⟨b10, 1, none⟩ (.int .i64 NT.head)).setCell ⟨b10, 2, none⟩ (.slice kn NT.kids.length (NT.kids.length + sn))) (.agg #[.int .i64 NT.head, .slice kn NT.kids.length (NT.kids.length + sn)]) NT from ((UT.out.setCell (a := ⟨b10, 1, none⟩) (by have h8 := HB8.out; have h9 := HB9.out; have h10 := HB10.out; have h11 := HB11.out; have hx := HBX.out; have h12 := HB12.out; show ¬ (p b10 ∨ w7.heap.size ≤ b10); rintro (h | h); have := HP.out b10 h; omega; omega) _).setCell (a := ⟨b10, 2, none⟩) (by have h8 := HB8.out; have h9 := HB9.out; have h10 := HB10.out; have h11 := HB11.out; have hx := HBX.out; have h12 := HB12.out; show ¬ (p b10 ∨ w7.heap.size ≤ b10); rintro (h | h); have := HP.out b10 h; omega; omega) _).mono (fun b h _ => h.elim .inl (fun h => .inr (by have h2 : w7.heap.size ≤ b := h; omega))))
      have hz19 : b12 + 1 ≤ ((wn.setCell ⟨b10, 1, none⟩ (.int .i64 NT.head)).setCell ⟨b10, 2, none⟩ (.slice kn NT.kids.length (NT.kids.length + sn))).heap.size := by simp; omega
      have OT := Lib.hid (((TV.out.kept SF.bel)).mono (q := (fun c => p c ∨ b12 < c)) (by intro b h _; exact .inl h))
      clear SF HS S9 HB9x
      try go_wp2_with fail
      go_meet
      case rel => exact ⟨kn, kd, sn, sd1, by rw [HLS.out]; exact UT2, by rw [HLS.out]; exact OT, hz19, by rw [HLS.out]; exact SH.out⟩
    | false =>
      have hz2 : z = 2 := by have h1 : ¬ z = 1 := by simpa using hdz
                             have h2 := HZ12.out
                             omega
      have HLS := Lib.hid (show lastF g fb NT = ⟨fb.neg, fb.l, NT⟩ by unfold lastF; rw [if_pos (by rw [← HZ.out]; exact hz2)])
      clear hdz hz2
      go_upto_region 23 with fail
      refine wpH_region [7] (fun W => W.cell? ⟨b11, 0, none⟩ = some (.int .i64 Z.head) ∧ W.cell? ⟨b11, 1, none⟩ = some (.slice kz Z.kids.length (Z.kids.length + sz)) ∧ W.cell? ⟨bx, 6, none⟩ = some (.slice (some ⟨pb, poff, none⟩) g.pl.length pc) ∧ W.cell? ⟨b9, 0, none⟩ = some (.int .i64 Y.head) ∧ W.cell? ⟨b9, 1, none⟩ = some (.slice ky Y.kids.length (Y.kids.length + sy))) (by kernel_rfl) ?_
      have HS := FC.out _ (Below.refl _ w7).drew
      refine wpH.take (i := 0) (by kernel_rfl) (by kernel_rfl) (by kernel_rfl) (by kernel_rfl) (by kernel_rfl) HS ?_
      intro oi ho
      simp only [List.getElem?_toArray, List.getElem?_cons_zero, Option.some.injEq] at ho
      subst ho
      refine ⟨?_, Or.inl ⟨by rfl, ?_⟩, fun _ _ _ h => h, ?_⟩
      rotate_left 1
      · intro W hW
        try dsimp only at hW
        go_simp
        try with_reducible rfl
      simp only [Act.put, List.setIfInBounds_toArray, List.set_cons_zero, List.set_cons_succ]
      refine wpH.take (i := 1) (by kernel_rfl) (by kernel_rfl) (by kernel_rfl) (by kernel_rfl) (by kernel_rfl) HS ?_
      intro oi ho
      simp only [List.getElem?_toArray, List.getElem?_cons_succ, List.getElem?_cons_zero, Option.some.injEq] at ho
      subst ho
      refine ⟨?_, Or.inl ⟨by rfl, ?_⟩, fun _ _ _ h => h, ?_⟩
      rotate_left 1
      · intro W hW
        try dsimp only at hW
        go_simp
        try with_reducible rfl
      simp only [Act.put, List.setIfInBounds_toArray, List.set_cons_zero, List.set_cons_succ]
      refine wpH.take (i := 2) (by kernel_rfl) (by kernel_rfl) (by kernel_rfl) (by kernel_rfl) (by kernel_rfl) HS ?_
      intro oi ho
      simp only [List.getElem?_toArray, List.getElem?_cons_succ, List.getElem?_cons_zero, Option.some.injEq] at ho
      subst ho
      refine ⟨?_, Or.inl ⟨by rfl, ?_⟩, fun _ _ _ h => h, ?_⟩
      rotate_left 1
      · intro W hW
        try dsimp only at hW
        go_simp
        try with_reducible rfl
      simp only [Act.put, List.setIfInBounds_toArray, List.set_cons_zero, List.set_cons_succ]
      refine wpH.take (i := 3) (by kernel_rfl) (by kernel_rfl) (by kernel_rfl) (by kernel_rfl) (by kernel_rfl) HS ?_
      intro oi ho
      simp only [List.getElem?_toArray, List.getElem?_cons_succ, List.getElem?_cons_zero, Option.some.injEq] at ho
      subst ho
      refine ⟨?_, Or.inl ⟨by rfl, ?_⟩, fun _ _ _ h => h, ?_⟩
      rotate_left 1
      · intro W hW
        try dsimp only at hW
        go_simp
        try with_reducible rfl
      simp only [Act.put, List.setIfInBounds_toArray, List.set_cons_zero, List.set_cons_succ]
      refine wpH.take (i := 4) (by kernel_rfl) (by kernel_rfl) (by kernel_rfl) (by kernel_rfl) (by kernel_rfl) HS ?_
      intro oi ho
      simp only [List.getElem?_toArray, List.getElem?_cons_succ, List.getElem?_cons_zero, Option.some.injEq] at ho
      subst ho
      refine ⟨?_, Or.inl ⟨by rfl, ?_⟩, fun _ _ _ h => h, ?_⟩
      rotate_left 1
      · intro W hW
        try dsimp only at hW
        go_simp
        try with_reducible rfl
      simp only [Act.put, List.setIfInBounds_toArray, List.set_cons_zero, List.set_cons_succ]
      refine wpH.one (i := 5) (by kernel_rfl) ?_
      intro oi ho
      simp only [List.getElem?_toArray, List.getElem?_cons_succ, List.getElem?_cons_zero, Option.some.injEq] at ho
      subst ho
      intro K hK
      have HK := Lib.hid hK
      clear hK
      go_simp
      go_at_call 104
      rw [show g.pl.length - 1 = g.pl.tail.length by simp]
      refine (laid33 Y g.pl.tail Z p _ _ _ _ _ (fun b h => Nat.lt_of_lt_of_le (HP.out b h) SD.bel.size) (TZ.out.kept SD.bel) (TYY.out.kept SD.bel) (HTAIL.out _ (HPL.out.below SD.bel)) (by simp; omega) (by omega) (by have := HZS.out; omega) HVAL.out).mono ?_
      rintro e wn ⟨u, rfl, hu, hbn⟩
      rw [HNZ.out] at hu
      obtain ⟨kn, sn, rfl⟩ := hu.at.form
      have UT := Lib.hid hu
      have S9 := SD.step hbn
      have HB9x := Lib.hid (Below.step (Below.refl _ w7).drew hbn)
      have zn : w7.heap.size ≤ wn.heap.size := hbn.size
      clear hbn hu
      dsimp only
      refine HK.out _ _ (fun _ => FC.out _ HB9x.out) ?_
      have HS := FC.out _ HB9x.out
      try simp only [Act.put, List.setIfInBounds_toArray, List.set_cons_zero, List.set_cons_succ]
      refine wpH.take (i := 6) (by kernel_rfl) (by kernel_rfl) (by kernel_rfl) (by kernel_rfl) (by kernel_rfl) HS ?_
      intro oi ho
      simp only [List.getElem?_toArray, List.getElem?_cons_succ, List.getElem?_cons_zero, Option.some.injEq] at ho
      subst ho
      refine ⟨?_, Or.inl ⟨by rfl, ?_⟩, fun _ _ _ h => h, ?_⟩
      rotate_left 1
      · intro W hW
        try dsimp only at hW
        go_simp
        try with_reducible rfl
      simp only [Act.put, List.setIfInBounds_toArray, List.set_cons_zero, List.set_cons_succ]
      refine wpH.one (i := 7) (by kernel_rfl) ?_
      intro oi ho
      simp only [List.getElem?_toArray, List.getElem?_cons_succ, List.getElem?_cons_zero, Option.some.injEq] at ho
      subst ho
      intro K hK
      have HK := Lib.hid hK
      clear hK
      obtain ⟨e0, e1⟩ := S9.cell 6 3 rfl
      obtain ⟨e2, e3⟩ := S9.cell 6 4 rfl
      have hlb := S9.lt 6
      go_simp
      have SF := S9.put 6 (b := b10) (cs' := #[.bool fb.neg, .int .i64 fb.l.head, .slice kc fb.l.kids.length (fb.l.kids.length + sc1), .int .i64 NT.head, .slice kn NT.kids.length (NT.kids.length + sn)]) rfl (by have h8 := HB8.out; have h9 := HB9.out; have h10 := HB10.out; have h11 := HB11.out; have hx := HBX.out; omega) (by have h8 := HB8.out; have h9 := HB9.out; have h10 := HB10.out; have h11 := HB11.out; have hx := HBX.out; simp only [offs, offAll, Fct.box, and_true]; omega) (w' := ((wn.setCell ⟨b10, 3, none⟩ (.int .i64 NT.head)).setCell ⟨b10, 4, none⟩ (.slice kn NT.kids.length (NT.kids.length + sn)))) (fun h => (h.setCell (p := ⟨b10, 3, none⟩) (by have h8 := HB8.out; have h9 := HB9.out; have h10 := HB10.out; have h11 := HB11.out; have hx := HBX.out; show w.heap.size ≤ b10; omega) _).setCell (p := ⟨b10, 4, none⟩) (by have h8 := HB8.out; have h9 := HB9.out; have h10 := HB10.out; have h11 := HB11.out; have hx := HBX.out; show w.heap.size ≤ b10; omega) _) (fun c hc => (Below.heap_setCell _ _ _ _ hc).trans (Below.heap_setCell _ _ _ _ hc)) (fun h => by simp [World.setCell, Array.getElem?_modify, h])
      clear e0 e1 e2 e3
      refine HK.out _ _ (fun h => absurd h (by decide)) ?_
      try simp only [Act.put, List.setIfInBounds_toArray, List.set_cons_zero, List.set_cons_succ]
      refine wpH.done (by kernel_rfl) ?_
      generalize (if pc = 1 then (some ⟨pb, poff, none⟩ : Option Addr) else some ⟨pb, poff + 1, none⟩) = tlv
      have SH := Lib.hid (SF.pick [0, 1, 2, 3, 4, 5, 6])
      have hz7 : b12 + 1 ≤ w7.heap.size := HZ7.out
      have UT2 := Lib.hid (show TreeP (fun c => p c ∨ b12 < c) ((wn.setCell ⟨b10, 3, none⟩ (.int .i64 NT.head)).setCell ⟨b10, 4, none⟩ (.slice kn NT.kids.length (NT.kids.length + sn))) (.agg #[.int .i64 NT.head, .slice kn NT.kids.length (NT.kids.length + sn)]) NT from ((UT.out.setCell (a := ⟨b10, 3, none⟩) (by have h8 := HB8.out; have h9 := HB9.out; have h10 := HB10.out; have h11 := HB11.out; have hx := HBX.out; have h12 := HB12.out; show ¬ (p b10 ∨ w7.heap.size ≤ b10); rintro (h | h); have := HP.out b10 h; omega; omega) _).setCell (a := ⟨b10, 4, none⟩) (by have h8 := HB8.out; have h9 := HB9.out; have h10 := HB10.out; have h11 := HB11.out; have hx := HBX.out; have h12 := HB12.out; show ¬ (p b10 ∨ w7.heap.size ≤ b10); rintro (h | h); have := HP.out b10 h; omega; omega) _).mono (fun b h _ => h.elim .inl (fun h => .inr (by have h2 : w7.heap.size ≤ b := h; omega))))
      have hz19 : b12 + 1 ≤ ((wn.setCell ⟨b10, 3, none⟩ (.int .i64 NT.head)).setCell ⟨b10, 4, none⟩ (.slice kn NT.kids.length (NT.kids.length + sn))).heap.size := by simp; omega
      have OT := Lib.hid (((TU.out.kept SF.bel)).mono (q := (fun c => p c ∨ b12 < c)) (by intro b h _; exact .inl h))
      clear SF HS S9 HB9x
      try go_wp2_with fail
      go_meet
      case rel => exact ⟨kc, kn, sc1, sn, by rw [HLS.out]; exact OT, by rw [HLS.out]; exact UT2, hz19, by rw [HLS.out]; exact SH.out⟩
  case rest =>
  obtain ⟨k1, k2, s1, s2, TL, TR, ze, SL⟩ := hcut
  clear S7 g6 q0 hdz
  obtain ⟨a0, _⟩ := SL.one 1
  obtain ⟨g3, _⟩ := SL.cell 0 3 rfl
  rw [← HI.out] at g3
  have ze0 : bx + 4 ≤ wc.heap.size := by have h8 := HB8.out; have h9 := HB9.out; have h10 := HB10.out; have h11 := HB11.out; have h12 := HB12.out; omega
  have h10x : b10 < wc.heap.size := by have h10 := HB10.out; have h11 := HB11.out; have h12 := HB12.out; omega
  obtain ⟨s0, hs0⟩ : ∃ s, s = wc.heap.size := ⟨_, rfl⟩
  have HS0 := Lib.hid hs0
  have HXL := Lib.hid (show factE.is (fun b => (p b ∨ b12 < b) ∧ b < s0) wc [.bool (lastF g fb NT).neg, .int .i64 (lastF g fb NT).l.head, .slice k1 (lastF g fb NT).l.kids.length ((lastF g fb NT).l.kids.length + s1), .int .i64 (lastF g fb NT).r.head, .slice k2 (lastF g fb NT).r.kids.length ((lastF g fb NT).r.kids.length + s2)] (lastF g fb NT) from
    ⟨k1, s1, k2, s2, rfl, TL.out.mono (fun b h h2 => ⟨h, by rw [hs0]; exact h2⟩), TR.out.mono (fun b h h2 => ⟨h, by rw [hs0]; exact h2⟩)⟩)
  obtain ⟨LL, hLL⟩ : ∃ L, L = lastF g fb NT := ⟨_, rfl⟩
  rw [← hLL] at HXL SL HR5
  clear hLL TL TR
  have hnA' := hnA
  go_wp2_with fail
  refine (without105 A I p _ (A.length + sa) wc (fun c h => Nat.lt_of_lt_of_le (HP.out c h) SL.bel.size) (HA.out.kept SL.bel) (by omega)).mono ?_
  rintro e w8 ⟨o1, rfl, ho1, hb8'⟩
  have S8 := (SL.step hb8').add (.owns factE s0 (fun c => p c ∨ s0 ≤ c) o1 (A.eraseIdx I)) (by rw [hs0]; exact ho1)
  have HX8 := Lib.hid (factE.keep (w' := w8) (q := fun b => (p b ∨ b12 < b) ∧ b < s0) (fun b h h2 => ⟨hb8'.block b h2, h⟩) HXL.out)
  have z8 : s0 ≤ w8.heap.size := by rw [hs0]; exact hb8'.size
  clear SL ho1 hb8' a0 g3
  obtain ⟨iI, gi, gz0, gz1, gz2⟩ := info_parts info54
  have hlA : (A.eraseIdx I).length ≤ 100 := by have := List.length_eraseIdx_le A I; omega
  have hlB : (B.eraseIdx J).length ≤ 100 := by have := List.length_eraseIdx_le B J; omega
  obtain ⟨PA, hPA⟩ : ∃ X, X = A.eraseIdx I := ⟨_, rfl⟩
  obtain ⟨PB, hPB⟩ : ∃ X, X = B.eraseIdx J := ⟨_, rfl⟩
  rw [← hPA] at S8 hlA HR5
  rw [← hPB] at hlB HR5
  have HPB := Lib.hid hPB
  clear hPA hPB
  have HS0x := Lib.hid (show bx + 4 ≤ s0 ∧ b10 < s0 ∧ b12 + 1 ≤ s0 by rw [hs0]; exact ⟨ze0, h10x, ze⟩)
  clear ze0 h10x hs0 ze
  go_upto_region 25 with fail
  go_cut [14] (fun t14 W => ∃ o14 : Value, t14 = o14 ∧ s0 ≤ W.heap.size ∧ St w W [.box bx #[.int .i64 g.kind, .int .i64 g.a, .int .i64 g.b, .int .i64 g.i, .int .i64 g.j, .bool tb, .slice (some ⟨pb, poff, none⟩) g.pl.length pc, .slice bo g.bs.length bc] 35, .box (bx + 1) #[.slice (some ⟨ab, aoff, none⟩) A.length (A.length + sa)] 41, .box (bx + 2) #[.slice (some ⟨cb, coff, none⟩) B.length (B.length + sb)] 41, .box (bx + 3) #[.slice none 0 0] 41, .box b8 #[.int .i64 X.head, .slice kx X.kids.length (X.kids.length + sx)] 38, .box b9 #[.int .i64 Y.head, .slice ky Y.kids.length (Y.kids.length + sy)] 38, .box b10 #[.bool LL.neg, .int .i64 LL.l.head, .slice k1 LL.l.kids.length (LL.l.kids.length + s1), .int .i64 LL.r.head, .slice k2 LL.r.kids.length (LL.r.kids.length + s2)] 62, .owns factE s0 (fun c => p c ∨ s0 ≤ c) o14 (PA ++ PB)] ∧ Hid (factE.is (fun b => (p b ∨ b12 < b) ∧ b < s0) W [.bool LL.neg, .int .i64 LL.l.head, .slice k1 LL.l.kids.length (LL.l.kids.length + s1), .int .i64 LL.r.head, .slice k2 LL.r.kids.length (LL.r.kids.length + s2)] LL))
  case first =>
    obtain ⟨b0, _⟩ := S8.one 2
    obtain ⟨g4, _⟩ := S8.cell 0 4 rfl
    rw [← HJ.out] at g4
    go_wp2_with fail
    refine (without105 B J p _ (B.length + sb) w8 (fun c h => Nat.lt_of_lt_of_le (HP.out c h) S8.bel.size) (HB.out.kept S8.bel) (by omega)).mono ?_
    rintro e w9 ⟨o2, rfl, ho2, hb9'⟩
    rw [← HPB.out] at ho2
    have S9 := S8.step hb9'
    obtain ⟨ro2, sp2, rfl, hr2, _⟩ := ho2.row (fun b h => .inr h)
    have HX9 := Lib.hid (factE.keep (w' := w9) (q := fun b => (p b ∨ b12 < b) ∧ b < s0) (fun b h h2 => ⟨hb9'.block b h2, h⟩) HX8.out)
    have HOW := Lib.hid (show ∀ c, o1.ownBlock = some c → s0 ≤ c ∧ c < w8.heap.size from fun c hc => S8.ownlt factE 7 rfl c hc)
    have S9 := S9.add (.elt factE (fun b => (p b ∨ b12 < b) ∧ b < s0) [.bool LL.neg, .int .i64 LL.l.head, .slice k1 LL.l.kids.length (LL.l.kids.length + s1), .int .i64 LL.r.head, .slice k2 LL.r.kids.length (LL.r.kids.length + s2)] LL) HX9.out
    have z9 : w8.heap.size ≤ w9.heap.size := hb9'.size
    clear S8 ho2 hb9' b0 g4
    by_cases hm : 0 < PB.length
    · obtain ⟨bb, boff, _, rfl, _⟩ := hr2 0 PB[0] (List.getElem?_eq_getElem hm)
      have HR9 := Lib.hid hr2
      clear hr2
      go_wp2_with (at_builtin; refine wpList_appRow rfl (.tmp 140) (.tmp 145) 39 rfl factE S9 7 rfl (q := fun c => p c ∨ w8.heap.size ≤ c) (p' := fun c => p c ∨ s0 ≤ c) (ad := ⟨bb, boff, none⟩) (c := PB.length + sp2) HR9.out hm Try.underlying39 gi gz0 gz1 gz2 rfl rfl ?v1 ?v2 ?c1 ?c2 ?c3 ?c4 ?c5 ?c6 ?c7 ?_)
      case v1 => rfl
      case v2 => rfl
      case c1 => unfold maxLen; omega
      case c2 => omega
      case c3 => omega
      case c4 => have h1 := HS0x.out.1; have hx := HBX.out; omega
      case c5 => intro b h1 h2 h3; have h4 := (HOW.out b h1).1; have h5 := HS0x.out; have h8 := HB8.out; have h9 := HB9.out; have h10 := HB10.out; have h11 := HB11.out; have hx := HBX.out; have h12 := HB12.out; simp only [fsnoc, offs, offAll, Fct.box, Fct.elt, and_true]; refine ⟨by omega, by omega, by omega, by omega, by omega, by omega, by omega, fun e => ?_⟩; have := e.2; omega
      case c6 => intro b h1 h2; have h3 := HOW.out b h2; rcases h1 with h1 | h1; have h4 := HP.out b h1; have h5 := HS0x.out.1; have hx := HBX.out; omega; omega
      case c7 => intro b h1; rcases h1 with h1 | h1; exact h1; rcases h1 with h1 | h1; exact .inl h1; exact .inr (by omega)
      intro gg cap2 w3 S2 hs3 hgg hat
      have hlen : PA.length + PB.length = (PA ++ PB).length := by simp
      rw [hlen] at S2 ⊢
      have HX3 := Lib.hid (show factE.is (fun b => (p b ∨ b12 < b) ∧ b < s0) w3 [.bool LL.neg, .int .i64 LL.l.head, .slice k1 LL.l.kids.length (LL.l.kids.length + s1), .int .i64 LL.r.head, .slice k2 LL.r.kids.length (LL.r.kids.length + s2)] LL from S2.2 8)
      have S3 := Lib.hid (S2.pick [0, 1, 2, 3, 4, 5, 6, 7])
      have zz3 : s0 ≤ w3.heap.size := by omega
      clear S2 S9 hat hlen
      go_wp2_with fail
      go_meet
      case rel => exact ⟨_, rfl, zz3, S3.out, HX3⟩
    · have he : PB = [] := List.eq_nil_of_length_eq_zero (by omega)
      subst he
      clear hm hr2
      obtain ⟨ao1, sp1, rfl, _, _⟩ := (show factE.Own (fun c => p c ∨ s0 ≤ c) s0 w9 o1 PA from S9.owns factE 7).row (fun b h => Or.inr h)
      have hsrc : ∀ c, Src Try.prog iI.size 39 (.slice ro2 0 c) 0 [] w9 := by
        intro c
        cases ro2 with
        | none => exact Src.ofNil _ Try.underlying39 _
        | some ad => exact src_none Try.underlying39 iI.size ad _
      have HRUN := Lib.hid (fun ty c => run_append_nothing (P := Try.prog) w9 39 39 ty 62 iI Try.underlying39 gi ao1 PA.length (PA.length + sp1) (by omega) _ (hsrc c))
      have S10 := Lib.hid S9
      clear hsrc S9
      go_wp2_with (at_builtin; refine Lib.wpList_append_run _ rfl (.tmp 140) (.tmp 145) 39 39 rfl (.slice ao1 PA.length (PA.length + sp1)) (.slice ro2 0 _) rfl rfl _ _ (HRUN.out _ _) ?_)
      go_meet
      case rel => exact ⟨_, rfl, by omega, by rw [List.append_nil]; exact S10.out.pick [0, 1, 2, 3, 4, 5, 6, 7], HX9⟩
  case rest =>
  obtain ⟨o14, ht14, zw, SQ, HXQ⟩ := hcut
  replace ht14 := ht14.symm
  subst ht14
  clear S8 HX8 z8
  have HOW := Lib.hid (show ∀ c, o14.ownBlock = some c → s0 ≤ c ∧ c < wc.heap.size from fun c hc => SQ.ownlt factE 7 rfl c hc)
  obtain ⟨y0, y1, y2, y3, y4⟩ := boxF5 (SQ.block 6)
  have hlQ : (PA ++ PB).length ≤ 200 := by simp; omega
  obtain ⟨LQ, hLQ⟩ : ∃ X, X = PA ++ PB := ⟨_, rfl⟩
  rw [← hLQ] at SQ hlQ HR5
  clear hLQ
  go_wp2_with (at_builtin; refine wpList_app rfl (.tmp 147) (.tmp 149) 39 rfl factE SQ 7 rfl (x := LL) (q := fun b => (p b ∨ b12 < b) ∧ b < s0) (p' := fun c => p c ∨ b12 < c) HXQ.out Try.underlying39 gi gz0 gz1 gz2 rfl rfl ?v1 ?v2 ?c1 ?c2 ?c3 ?c4 ?c5 ?c6 ?c7 ?_)
  case v1 => rfl
  case v2 => rfl
  case c1 => unfold maxLen; omega
  case c2 => omega
  case c3 => omega
  case c4 => have h1 := HS0x.out.1; have hx := HBX.out; omega
  case c5 => intro b h1 h2 h3; have h4 := (HOW.out b h1).1; have h5 := HS0x.out; have h8 := HB8.out; have h9 := HB9.out; have h10 := HB10.out; have h11 := HB11.out; have hx := HBX.out; simp only [offs, offAll, Fct.box, and_true]; omega
  case c6 => intro b h1 h2; have h3 := HOW.out b h2; have h4 := h1.2; omega
  case c7 => intro b h1; have h5 := HS0x.out; rcases h1 with h1 | h1; rcases h1 with h1 | h1; exact .inl h1; exact .inr (by omega); exact h1.1
  intro gg cap2 w3 S2 hs3 hgg hat
  have hgs := (S2.ownlt factE 7 rfl gg rfl).1
  have HOF := Lib.hid (own_rowQ (s := b12 + 1) (S2.owns factE 7) (by have h5 := HS0x.out; omega))
  have hl3 := S2.lt 3
  obtain ⟨r0, r1⟩ := S2.one 3
  have SG := Lib.hid (S2.set1 3 rfl (.slice (some ⟨gg, 0, none⟩) (LQ.length + 1) cap2) (by have := HBX.out; omega) (by
    have h5 := HS0x.out
    have h8 := HB8.out; have h9 := HB9.out; have h10 := HB10.out; have h11 := HB11.out; have hx := HBX.out
    have hgb : gg ≠ bx + 3 := by omega
    simp only [fset, offs, offAll, Fct.box, and_true]
    refine ⟨by omega, by omega, by omega, by omega, by omega, by omega, fun e => ?_⟩
    rcases e with e | e
    · have e' : gg = bx + 3 := by simpa [Value.ownBlock] using e
      exact hgb e'
    · have h12 := HB12.out
      rcases e with e | e
      · have := HP.out _ e
        omega
      · omega))
  clear SQ S2 hat y0 y1 y2 y3 y4
  go_wp2_with fail
  refine bodyPost_ret (v := .tuple #[.agg #[.slice (some ⟨gg, 0, none⟩) (LQ.length + 1) cap2], .int .i64 0]) ?_ rfl ?_
  · obtain ⟨q0, _⟩ := SG.out.one 3
    simp [results, Try.results61, go_sem, q0]
  · unfold RightP
    rw [HR5.out]
    refine ⟨some ⟨gg, 0, none⟩, cap2 - (LQ ++ [LL]).length, by show Ending.returned (Value.tuple #[.agg #[.slice _ (LQ.length + 1) cap2], _]) = Ending.returned (Value.tuple #[.agg #[.slice _ (LQ ++ [LL]).length ((LQ ++ [LL]).length + (cap2 - (LQ ++ [LL]).length))], _]); rw [Nat.add_sub_cancel' HOF.out.2.2, ← HOF.out.2.1], HOF.out.1.keep (fun b h1 h2 => ⟨Below.heap_setCell _ _ _ _ (by show b ≠ bx + 3; intro e; have h8 := HB8.out; have h9 := HB9.out; have h10 := HB10.out; have h11 := HB11.out; have hx := HBX.out; have h12 := HB12.out; rcases h1 with (h1 | h1) | h1; have := HP.out b h1; omega; omega; omega), by have h8 := HB8.out; have h9 := HB9.out; have h10 := HB10.out; have h11 := HB11.out; have hx := HBX.out; have h12 := HB12.out; rcases h1 with (h1 | h1) | h1; exact .inl h1; exact .inr (by omega); exact .inr (by omega)⟩), SG.out.bel⟩
end Go.Proofs.Ytlhnfdjidjgfgaa
