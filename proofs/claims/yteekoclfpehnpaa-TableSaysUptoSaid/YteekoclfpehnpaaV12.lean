/-
  Walks: table.Value.
-/
import Derived.Test.YteekoclfpehnpaaProg
import Derived.Test.YteekoclfpehnpaaV11
import Derived.RegionTactic
namespace Go.Proofs.Yteekoclfpehnpaa
open Go.RowKit Go.Shelf
set_option linter.unusedVariables false
set_option maxHeartbeats 400000

def factX (x : T) : Fc := ⟨false, x, x⟩
noncomputable def valueF (ar : List Int) (cs : List (List Fc)) (sz : Int) (tb : List (List Int)) (x : T) (th : List Int) : Int × (Int × Int) :=
  if (tabF ar cs sz tb).1 ≠ 0 then (0, tabF ar cs sz tb) else if codeF ar [factX x] ≠ 0 then (0, (codeF ar [factX x], -2)) else if th.any (outS sz.toNat) = true then (0, (3, -3)) else (x.ev sz.toNat tb th, (0, 0))
theorem codeF_one {ar : List Int} {x : T} : codeF ar [factX x] = 0 ↔ (treeF x).1 = 0 ∧ x.sig ar := by
  rw [codeF_zero]
  constructor
  · intro h; exact h.2 x (by simp [treesF, factX])
  · intro h
    refine ⟨by simp, fun t ht => ?_⟩
    simp [treesF, factX] at ht
    subst ht; exact h

set_option maxRecDepth 100000 in
set_option maxHeartbeats 8000000 in
theorem value24 (ar : List Int) (cs : List (List Fc)) (sz : Int) (tb : List (List Int)) (x : T) (th : List Int) (p q r u : Nat → Prop) (ao co to_ tho : Option Addr) (ca cc ct cth : Nat) (v : Value) (w : World) (ha : intE.Row q w ao ar) (h : claimE.Row p w co cs) (ht : intsE.Row r w to_ tb) (hx : TreeAt w v x) (hth : intE.Row u w tho th)
    (hna : ar.length ≤ maxLen) (hn : cs.length ≤ maxLen) (hnt : tb.length ≤ maxLen) (hnh : th.length ≤ maxLen) (hnh2 : th.length ≤ 1000000000) :
    Calls Try.prog 24 #[.agg #[.slice ao ar.length ca, .slice co cs.length cc], .agg #[.int .i64 sz, .slice to_ tb.length (tb.length + ct)], v, .slice tho th.length cth] w fun e w' => e = .returned (.tuple #[.int .i64 (valueF ar cs sz tb x th).1, FV (valueF ar cs sz tb x th).2]) ∧ Below w.heap.size w w' := by
  obtain ⟨xk, xs, rfl⟩ := hx.form
  have HC := Lib.hid h; have HA := Lib.hid ha; have HNA := Lib.hid hna; have HNC := Lib.hid hn; have HT := Lib.hid ht; have HNT := Lib.hid hnt; have HTH := Lib.hid hth; have HNH := Lib.hid hnh; have HX := Lib.hid hx
  obtain ⟨bx, hbx⟩ : ∃ b, b = w.heap.size := ⟨_, rfl⟩
  have S1 := ((((St.start w).box hbx.symm #[.slice ao ar.length ca, .slice co cs.length cc] 29).box (b := bx + 1) (by simp [hbx]) #[.int .i64 sz, .slice to_ tb.length (tb.length + ct)] 41).box (b := bx + 2) (by simp [hbx]) #[.int .i64 x.head, .slice xk x.kids.length (x.kids.length + xs)] 44).box (b := bx + 3) (by simp [hbx]) #[.int .i64 0, .int .i64 0] 32
  have hsz1 : ((((w.alloc (.cells #[.slice ao ar.length ca, .slice co cs.length cc] 29)).alloc (.cells #[.int .i64 sz, .slice to_ tb.length (tb.length + ct)] 41)).alloc (.cells #[.int .i64 x.head, .slice xk x.kids.length (x.kids.length + xs)] 44)).alloc (.cells #[.int .i64 0, .int .i64 0] 32)).heap.size = bx + 4 := by simp [hbx]
  clear h ha hn hna ht hnt hx hth hnh
  obtain ⟨⟨x0, _⟩, x1, _⟩ := S1.two 0
  obtain ⟨⟨y0, _⟩, y1, _⟩ := S1.two 1
  go_enter Try.func24, Try.ntmps24
  go_wp2_with fail
  rw [← hbx]
  refine S1.gen (z := bx + 4) (by omega) ?_
  intro w1 z1 S
  have HBX := Lib.hid hbx
  clear S1 hbx hsz1 x0 x1 y0 y1
  refine (S.faultF (tab26 ar cs sz tb p q r ao co to_ ca cc ct w1 (HA.out.kept S.bel) (HC.out.kept S.bel) (HT.out.kept S.bel) HNA.out HNC.out HNT.out)).mono ?_
  rintro e w2 ⟨C, D, rfl, HCD, z2, S2⟩
  clear S
  obtain ⟨b6, hb6⟩ : ∃ b, b = w2.heap.size := ⟨_, rfl⟩
  have S3 := S2.box hb6.symm #[.int .i64 C, .int .i64 D] 32
  have z3 : b6 + 1 ≤ (w2.alloc (.cells #[.int .i64 C, .int .i64 D] 32)).heap.size := by simp [hb6]
  have HB6 := Lib.hid (show bx + 4 ≤ b6 by omega)
  clear S2
  by_cases hC : C = 0
  · have hcb : (C != 0) = false := by simp [hC]
    have HZ := Lib.hid (tabF_zero (show (tabF ar cs sz tb).1 = 0 by rw [HCD.out]; exact hC))
    obtain ⟨s, hs, hT⟩ := HZ.out.2.2
    subst hs
    have HTT := Lib.hid hT
    have hs4 : s ≤ 4 := hT.2.1
    have HAL := Lib.hid ((loreF_zero HZ.out.2.1).2.1)
    have HF := Lib.hid (show valueF ar cs s tb x th = if codeF ar [factX x] ≠ 0 then (0, (codeF ar [factX x], -2)) else if th.any (outS s) = true then (0, (3, -3)) else (x.ev s tb th, (0, 0)) by unfold valueF; rw [if_neg (by rw [HCD.out]; simpa using hC)]; rfl)
    have S4 := S3.box (b := b6 + 1) (by simp [hb6]) #[.bool false, .int .i64 x.head, .slice xk x.kids.length (x.kids.length + xs), .int .i64 x.head, .slice xk x.kids.length (x.kids.length + xs)] 54
    have z4 : b6 + 2 ≤ ((w2.alloc (.cells #[.int .i64 C, .int .i64 D] 32)).alloc (.cells #[.bool false, .int .i64 x.head, .slice xk x.kids.length (x.kids.length + xs), .int .i64 x.head, .slice xk x.kids.length (x.kids.length + xs)] 54)).heap.size := by simp [hb6]
    obtain ⟨⟨x0, _⟩, x1, _⟩ := S3.two 0
    obtain ⟨⟨y0, _⟩, y1, _⟩ := S3.two 2
    clear hC hT S3
    go_wp2_with fail
    rw [← hb6]
    refine S4.gen (z := b6 + 2) z4 ?_
    intro w4 z5 S
    clear S4 z3 z4 hb6 x0 x1 y0 y1
    have HXF := Lib.hid ((HX.out.foot.kept S.bel).mono (q := fun b => b < w4.heap.size) (fun b _ h => h))
    have hrx : factE.Row (fun b => b < w4.heap.size) w4 (some ⟨b6 + 1, 0, none⟩) [factX x] := by
      intro i f hi
      rcases i with _ | i
      · simp at hi; subst hi
        refine ⟨b6 + 1, 0, [.bool false, .int .i64 x.head, .slice xk x.kids.length (x.kids.length + xs), .int .i64 x.head, .slice xk x.kids.length (x.kids.length + xs)], rfl, S.lt 5, fun j u hu => ?_, xk, xs, xk, xs, rfl, HXF.out, HXF.out⟩
        have hj : (#[.bool false, .int .i64 x.head, .slice xk x.kids.length (x.kids.length + xs), .int .i64 x.head, .slice xk x.kids.length (x.kids.length + xs)] : Array Value)[j]? = some u := by simpa using hu
        have := (S.cell 5 j hj rfl).1
        simpa using this
      · simp at hi
    refine (S.quiet (code73 ar [factX x] (fun b => b < w4.heap.size) q ao (some ⟨b6 + 1, 0, none⟩) ca 0 w4 (HA.out.kept S.bel) hrx (by have := HAL.out; omega) (by unfold maxLen; simp))).mono ?_
    rintro e w5 ⟨rfl, z6, S5⟩
    clear S hrx HXF
    obtain ⟨K, hK⟩ : ∃ K, K = codeF ar [factX x] := ⟨_, rfl⟩
    rw [← hK]
    rw [← hK] at HF
    by_cases h0 : K = 0
    · have hkb : (K != 0) = false := by simp [h0]
      have HSG := Lib.hid (codeF_one.1 (show codeF ar [factX x] = 0 by rw [← hK]; exact h0)).2
      have HF2 := Lib.hid (show valueF ar cs s tb x th = if th.any (outS s) = true then (0, (3, -3)) else (x.ev s tb th, (0, 0)) by rw [HF.out, if_neg (by simpa using h0)])
      obtain ⟨⟨x0, _⟩, x1, _⟩ := S5.two 1
      have HX0 := Lib.hid x0
      clear hK h0 x0 x1
      go_wp2_with fail
      refine (S5.quiet (contI 75 #[.pointer (some ⟨bx + 1, 0, none⟩)] (enters_of Try.func75 (by kernel_rfl) rfl) u tho th cth (outS s) w5 HNH.out (HTH.out.kept S5.bel) (fun i y w7 _ hb => out75 s y (bx + 1) w7 (Below.cellOf hb HX0.out)))).mono ?_
      rintro e w6 ⟨rfl, z7, S6⟩
      clear S5 HX0
      cases hany : th.any (outS s) with
      | true =>
        have HF3 := Lib.hid (show valueF ar cs s tb x th = (0, (3, -3)) by rw [HF2.out, if_pos hany])
        clear hany
        obtain ⟨⟨y0, y1⟩, y2, y3⟩ := S6.two 3
        have hl := S6.lt 3
        have SB := Lib.hid S6
        clear S6
        go_wp2_with fail
        refine ret_zf (.int .i64 0) (.int .i64 3) (.int .i64 (-3)) (bx + 3) 32 (box2_set (SB.out.block 3) _ _) (fun w' q0 q1 => by simp [results, Try.results24, go_sem, q0, q1]) rfl ?_
        have hx := HBX.out
        rw [HF3.out]
        exact ⟨rfl, (SB.out.bel.setCell (p := ⟨bx + 3, 0, none⟩) (by show w.heap.size ≤ bx + 3; omega) _).setCell (p := ⟨bx + 3, 1, none⟩) (by show w.heap.size ≤ bx + 3; omega) _⟩
      | false =>
        have HF3 := Lib.hid (show valueF ar cs s tb x th = (x.ev s tb th, (0, 0)) by rw [HF2.out, hany]; rfl)
        have HTO := Lib.hid (show ThOK s th from fun y hy => by
          have h1 : ¬ outS s y = true := fun e => by rw [List.any_eq_true.2 ⟨y, hy, e⟩] at hany; cases hany
          unfold outS at h1
          simp only [Bool.or_eq_true, decide_eq_true_eq, not_or] at h1
          omega)
        obtain ⟨⟨x0, _⟩, x1, _⟩ := S6.two 1
        obtain ⟨⟨y0, _⟩, y1, _⟩ := S6.two 2
        clear hany
        go_wp2_with fail
        refine (S6.quiet (eval76 ar s tb th HTT.out HTO.out hnh2 x HSG.out r u _ to_ tho ct cth w6 (HT.out.kept S6.bel) (HTH.out.kept S6.bel) (HX.out.kept S6.bel))).mono ?_
        rintro e w7 ⟨rfl, z8, S7⟩
        obtain ⟨V, hV⟩ : ∃ V, V = x.ev s tb th := ⟨_, rfl⟩
        rw [← hV]
        rw [← hV] at HF3
        clear S6 x0 x1 y0 y1 hV
        obtain ⟨⟨y0, y1⟩, y2, y3⟩ := S7.two 3
        have hl := S7.lt 3
        have SB := Lib.hid S7
        clear S7
        go_wp2_with fail
        refine ret_zf (.int .i64 V) (.int .i64 0) (.int .i64 0) (bx + 3) 32 (box2_set (SB.out.block 3) _ _) (fun w' q0 q1 => by simp [results, Try.results24, go_sem, q0, q1]) rfl ?_
        have hx := HBX.out
        rw [HF3.out]
        exact ⟨rfl, (SB.out.bel.setCell (p := ⟨bx + 3, 0, none⟩) (by show w.heap.size ≤ bx + 3; omega) _).setCell (p := ⟨bx + 3, 1, none⟩) (by show w.heap.size ≤ bx + 3; omega) _⟩
    · have hkb : (K != 0) = true := by simp [h0]
      have HF2 := Lib.hid (show valueF ar cs s tb x th = (0, (K, -2)) by rw [HF.out, if_pos h0])
      clear hK h0
      obtain ⟨⟨y0, y1⟩, y2, y3⟩ := S5.two 3
      have hl := S5.lt 3
      have SB := Lib.hid S5
      clear S5
      go_wp2_with fail
      refine ret_zf (.int .i64 0) (.int .i64 K) (.int .i64 (-2)) (bx + 3) 32 (box2_set (SB.out.block 3) _ _) (fun w' q0 q1 => by simp [results, Try.results24, go_sem, q0, q1]) rfl ?_
      have hx := HBX.out
      rw [HF2.out]
      exact ⟨rfl, (SB.out.bel.setCell (p := ⟨bx + 3, 0, none⟩) (by show w.heap.size ≤ bx + 3; omega) _).setCell (p := ⟨bx + 3, 1, none⟩) (by show w.heap.size ≤ bx + 3; omega) _⟩
  · have hcb : (C != 0) = true := by simp [hC]
    have HF := Lib.hid (show valueF ar cs sz tb x th = (0, (C, D)) by unfold valueF; rw [if_pos (by rw [HCD.out]; exact hC), HCD.out])
    obtain ⟨⟨x0, _⟩, x1, _⟩ := S3.two 4
    have hl3 := S3.lt 4
    clear hC
    go_wp2_with fail
    rw [← hb6]
    refine S3.genC (z := b6 + 1) z3 ?_
    intro w3 z4 S
    clear S3 x0 x1 hl3 z3 hb6
    obtain ⟨⟨y0, y1⟩, y2, y3⟩ := S.two 3
    have hl2 := S.lt 3
    obtain ⟨⟨x0, _⟩, x1, _⟩ := S.two 4
    have SD := S.drew
    obtain ⟨⟨y4, y5⟩, y6, y7⟩ := SD.two 3
    obtain ⟨⟨x4, _⟩, x5, _⟩ := SD.two 4
    have hl5 := SD.lt 3
    have n1 : ¬ b6 = bx + 3 := by have := HB6.out; omega
    have n3 : ¬ bx + 3 = b6 := by have := HB6.out; omega
    have SB := Lib.hid SD
    clear S SD
    go_region
    all_goals
      go_wp2_with fail
      refine ret_zf (.int .i64 0) (.int .i64 C) (.int .i64 D) (bx + 3) 32 (box2_set (SB.out.block 3) _ _) (fun w' q0 q1 => by simp [results, Try.results24, go_sem, q0, q1]) rfl ?_
      have hx := HBX.out
      rw [HF.out]
      exact ⟨rfl, (SB.out.bel.setCell (p := ⟨bx + 3, 0, none⟩) (by show w.heap.size ≤ bx + 3; omega) _).setCell (p := ⟨bx + 3, 1, none⟩) (by show w.heap.size ≤ bx + 3; omega) _⟩
end Go.Proofs.Yteekoclfpehnpaa
