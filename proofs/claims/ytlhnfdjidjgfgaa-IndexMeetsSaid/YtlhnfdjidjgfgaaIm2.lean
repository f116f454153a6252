/-
  Walk: the law IndexMeets.
-/
import Derived.Test.YtlhnfdjidjgfgaaProg
import Derived.Test.YtlhnfdjidjgfgaaIm1
import Derived.Test.YtlhnfdjidjgfgaaIw
import Derived.Test.YtlhnfdjidjgfgaaE8
import Derived.Test.YtlhnfdjidjgfgaaE5
import Derived.Test.YtlhnfdjidjgfgaaG2
import Derived.Test.YtlhnfdjidjgfgaaG5
import Derived.Deep.DeepCutAuto
import Derived.RegionTactic
namespace Go.Proofs.Ytlhnfdjidjgfgaa
open Go.RowKit Go.Shelf
set_option linter.unusedVariables false
set_option maxHeartbeats 400000

theorem has49b {a : List Int} {x : Int} {B : Bool} {p : Nat → Prop} {ao : Option Addr} {ca : Nat} (w : World) (ha : intE.Row p w ao a) (hla : a.length ≤ 60) (hB : decide (x ∈ a) = B) :
    Calls Try.prog 49 #[.slice ao a.length ca, .int .i64 x] w fun e w' => e = .returned (.bool B) ∧ Below w.heap.size w w' := by
  subst hB; exact has49 a x p ao ca w ha (by omega)
theorem sameClaim20b {x t : T} {B : Bool} (hB : B = decide (normF [⟨false, x, x⟩] = normF [⟨false, t, t⟩])) (w : World) {p q : Nat → Prop} {ao bo : Option Addr} {ca cb : Nat} (h : factE.Row p w ao (normF [⟨false, x, x⟩])) (h2 : factE.Row q w bo (normF [⟨false, t, t⟩])) :
    Calls Try.prog 22 #[.agg #[.slice ao (normF [⟨false, x, x⟩]).length ca], .agg #[.slice bo (normF [⟨false, t, t⟩]).length cb]] w fun e w' => e = .returned (.bool B) ∧ Below w.heap.size w w' := by
  subst hB; exact sameClaim20 _ _ p q ao bo ca cb w h h2 (by simp [normF]) (by simp [normF])
/-- a fact of one tree in a box is a row of one fact -/
theorem fact_row {w : World} {b : Nat} {x : T} {k : Option Addr} {sp : Nat} (h : w.heap[b]? = some (.cells #[.bool false, .int .i64 x.head, .slice k x.kids.length (x.kids.length + sp), .int .i64 x.head, .slice k x.kids.length (x.kids.length + sp)] 62 (0, 0))) (hx : TreeAt w (.agg #[.int .i64 x.head, .slice k x.kids.length (x.kids.length + sp)]) x) :
    factE.Row (fun b => b < w.heap.size) w (some ⟨b, 0, none⟩) [⟨false, x, x⟩] := fun i f hi => by
  match i with
  | 0 =>
    simp at hi; subst hi
    refine ⟨b, 0, [.bool false, .int .i64 x.head, .slice k x.kids.length (x.kids.length + sp), .int .i64 x.head, .slice k x.kids.length (x.kids.length + sp)], rfl, heap_lt h, fun j u hu => ?_, ?_⟩
    · simp only [World.cell?, h, Option.isSome_none]
      simpa using hu
    · exact ⟨k, sp, k, sp, rfl, hx.foot, hx.foot⟩
  | i + 1 => simp at hi
def lf1 : T := .node 1 []
theorem lf1_ok : (treeF lf1).1 = 0 := by rfl
theorem lf1_find : findF [lf1] lf1 = (0, 0) := by rfl
theorem lf1_at (w : World) : TreeAt w (.agg #[.int .i64 1, .slice none 0 0]) lf1 := (TreeP.leaf (fun _ => True) w 1).at
theorem St.found {P : Program} {n : Nat} {a : Array Value} {w0 w : World} {l : List Fct} (S : St w0 w l) {ks : List T} {t : T} {p : Nat → Bool} (h : Calls P n a w (FindP ks t p w)) :
    Calls P n a w fun e w' => ∃ (L : List Int) (f1 f2 : Int) (ro : Option Addr) (rc : Nat), e = .returned (.tuple #[.slice ro L.length rc, .agg #[.int .i64 f1, .int .i64 f2]]) ∧ Hid ((f1, f2) = findF ks t ∧ L = (if f1 = 0 then idxs p ks.length else [])) ∧ w.heap.size ≤ w'.heap.size ∧ St w0 w' (fsnoc l (.rowE intE (fun b => w.heap.size ≤ b ∧ b < w'.heap.size) ro L)) :=
  h.mono fun e w' ⟨L, f, ro, rc, h1, h2, h3, h4, h5⟩ => ⟨L, f.1, f.2, ro, rc, h1, ⟨h2, h3⟩, h5.size, (S.step h5).add (.rowE intE _ ro L) (h4.mono (fun b h6 h7 => ⟨h6, h7⟩))⟩
open Classical in
theorem lf1_meet : idxs (fun i => decide (Meets (gK [lf1] i) lf1)) 1 = [0] := by
  have h : Meets lf1 lf1 := (meets_closed lf1_ok lf1_ok (by decide) (by decide)).2 rfl
  unfold idxs
  have : List.filter (fun i => decide (Meets (gK [lf1] i) lf1)) (List.range 1) = [0] := by
    rw [show List.range 1 = [0] from rfl, List.filter_cons, if_pos (decide_eq_true (show Meets (gK [lf1] 0) lf1 from h))]; rfl
  show List.map _ (List.filter (fun i => decide (Meets (gK [lf1] i) lf1)) (List.range 1)) = [0]
  rw [this]; rfl

open Classical in
set_option maxRecDepth 100000 in
set_option maxHeartbeats 8000000 in
theorem meets13 (ao : Option Addr) (ks : List T) (c : Nat) (t : T) (v : Value) (w : World) (hn : ks.length ≤ 9223372036854775807) (hr : RowAt w ao ks) (ht : TreeAt w v t) :
    Calls Try.prog 13 #[.slice ao ks.length c, v] w fun e w' => e = .returned (.bool true) ∧ Below w.heap.size w w' := by
  obtain ⟨tk, ts, rfl⟩ := ht.form
  have HR := Lib.hid hr; have TT := Lib.hid ht
  obtain ⟨bx, hbx⟩ : ∃ b, b = w.heap.size := ⟨_, rfl⟩
  have S1 := (St.start w).box hbx.symm #[.int .i64 t.head, .slice tk t.kids.length (t.kids.length + ts)] 38
  have HBX := Lib.hid hbx
  clear hr ht
  go_enter Try.func13, Try.ntmps13
  go_wp2_with fail
  rw [← hbx]
  refine S1.gen (z := bx + 1) (by simp [hbx]) ?_
  intro w1 z1 S
  clear S1 hbx
  refine (S.quiet (leaf25 1 w1)).mono ?_
  rintro e w2 ⟨rfl, z2, S2⟩
  clear S
  obtain ⟨bl, hbl⟩ : ∃ b, b = w2.heap.size := ⟨_, rfl⟩
  have S3 := S2.box (b := bl) hbl.symm #[.int .i64 1, .slice none 0 0] 38
  go_wp2_with fail
  rw [← hbl]
  refine S3.gen (z := bl + 1) (by simp [hbl]) ?_
  intro w3 z3 S
  have HBL := Lib.hid (show bx + 1 ≤ bl by omega)
  clear S2 S3 hbl z1 z2
  refine (S.quiet (leaf25 1 w3)).mono ?_
  rintro e w4 ⟨rfl, z4, S4⟩
  clear S
  have hrow : RowAt w4 (some ⟨bl, 0, none⟩) [lf1] := fun i hi => by
    obtain rfl : i = 0 := by simp at hi; omega
    obtain ⟨⟨y0, _⟩, y1, _⟩ := S4.two 1
    exact ⟨bl, 0, none, 0, rfl, by simpa [gK, lf1, T.head] using y0, by simpa [gK, lf1, T.kids] using y1, by simpa [gK, lf1, T.kids, T.head] using lf1_at w4⟩
  go_wp2_with fail
  refine (S4.found (over43 (some ⟨bl, 0, none⟩) [lf1] 1 lf1 _ w4 (by simp) hrow (lf1_at w4))).mono ?_
  rintro e w5 ⟨L5, f5, g5, ro5, rc5, rfl, HF5, z5, S5⟩
  have hf5 : f5 = 0 ∧ g5 = 0 := by have := HF5.out.1; rw [lf1_find] at this; simpa using this
  obtain ⟨rfl, rfl⟩ := hf5
  obtain ⟨bf, hbf⟩ : ∃ b, b = w5.heap.size := ⟨_, rfl⟩
  have S6 := (S5.pick [0, 1]).box (b := bf) hbf.symm #[.int .i64 0, .int .i64 0] 29
  clear S4 S5 hrow HF5
  go_upto_region 2 with fail
  rw [← hbf]
  refine S6.genC (z := bf + 1) (by simp [hbf]) ?_
  intro w6 z6 S
  have HBF := Lib.hid (show bl + 1 ≤ bf by omega)
  clear S6 hbf z3 z4 z5
  go_wp2_with fail
  refine (S.quiet (leaf25 1 w6)).mono ?_
  rintro e w7 ⟨rfl, z7, S7⟩
  clear S
  obtain ⟨bk, hbk⟩ : ∃ b, b = w7.heap.size := ⟨_, rfl⟩
  have S8 := S7.box (b := bk) hbk.symm #[.int .i64 1, .slice none 0 0] 38
  go_wp2_with fail
  rw [← hbk]
  refine S8.gen (z := bk + 1) (by simp [hbk]) ?_
  intro w8 z8 S
  have HBK := Lib.hid (show bf + 1 ≤ bk by omega)
  clear S7 S8 hbk z6 z7
  refine (S.quiet (leaf25 1 w8)).mono ?_
  rintro e w9 ⟨rfl, z9, S9⟩
  clear S
  have hrow : RowAt w9 (some ⟨bk, 0, none⟩) [lf1] := fun i hi => by
    obtain rfl : i = 0 := by simp at hi; omega
    obtain ⟨⟨y0, _⟩, y1, _⟩ := S9.two 3
    exact ⟨bk, 0, none, 0, rfl, by simpa [gK, lf1, T.head] using y0, by simpa [gK, lf1, T.kids] using y1, by simpa [gK, lf1, T.kids, T.head] using lf1_at w9⟩
  go_wp2_with fail
  refine (S9.found (meet45 (some ⟨bk, 0, none⟩) [lf1] 1 lf1 _ w9 (by simp) hrow (lf1_at w9))).mono ?_
  rintro e w10 ⟨L10, f10, g10, ro10, rc10, rfl, HF10, z10, S10⟩
  have hf10 : f10 = 0 ∧ g10 = 0 := by have := HF10.out.1; rw [lf1_find] at this; simpa using this
  obtain ⟨rfl, rfl⟩ := hf10
  have hl10 : L10 = [0] := by have := HF10.out.2; rw [if_pos rfl] at this; rw [this]; exact lf1_meet
  subst hl10
  obtain ⟨be, hbe⟩ : ∃ b, b = w10.heap.size := ⟨_, rfl⟩
  have S11 := (S10.pick [0, 2, 4]).box (b := be) hbe.symm #[.int .i64 0, .int .i64 0] 29
  clear S9 S10 hrow HF10
  go_upto_region 3 with fail
  rw [← hbe]
  refine S11.genC (z := be + 1) (by simp [hbe]) ?_
  intro w11 z11 S
  have HBE := Lib.hid (show bk + 1 ≤ be by omega)
  clear S11 hbe z8 z9 z10
  change St w w11 [.box bx _ 38, .box bf #[.int .i64 0, .int .i64 0] 29, .rowE intE _ ro10 [0], .box be #[.int .i64 0, .int .i64 0] 29] at S
  obtain ⟨⟨x0, _⟩, x1, _⟩ := S.two 1
  obtain ⟨⟨y0, _⟩, y1, _⟩ := S.two 3
  obtain ⟨bi, hbi⟩ : ∃ b, b = w11.heap.size := ⟨_, rfl⟩
  have S12 := S.box (b := bi) hbi.symm #[.int .i64 0] 3
  go_wp2_with fail
  rw [← hbi]
  refine S12.gen (z := bi + 1) (by simp [hbi]) ?_
  intro w12 z12 S13
  have HBI := Lib.hid (show be + 1 ≤ bi by omega)
  clear S S12 hbi x0 x1 y0 y1 z11
  have hr0 : intE.Row (fun b => b = bi) w12 (some ⟨bi, 0, none⟩) [(0 : Int)] := fun i x hi => by
    match i with
    | 0 =>
      simp at hi; subst hi
      have h1 := (S13.one 4).1
      refine ⟨bi, 0, [.int .i64 0], rfl, rfl, fun j u hu => ?_, rfl⟩
      match j with
      | 0 => simp at hu; subst hu; simpa [intE] using h1
      | j + 1 => simp at hu
    | i + 1 => simp at hi
  refine (S13.quiet (ints56 [0] [0] _ _ ro10 (some ⟨bi, 0, none⟩) rc10 1 w12 (St.rowE S13 intE 2 rfl) hr0 (by simp) (by simp))).mono ?_
  rintro e w13 ⟨rfl, z13, S14⟩
  clear S13 hr0
  have S := S14.pick [0]
  change St w w13 [.box bx #[.int .i64 t.head, .slice tk t.kids.length (t.kids.length + ts)] 38] at S
  have z13' : bi + 1 ≤ w13.heap.size := by omega
  clear S14 z12 z13
  obtain ⟨⟨x0, _⟩, x1, _⟩ := S.two 0
  rw [show decide ([(0 : Int)] = [0]) = true by simp]
  go_wp2_with fail
  obtain ⟨F1, F2, hFF⟩ : ∃ F1 F2, findF ks t = (F1, F2) := ⟨_, _, rfl⟩
  have HFF := Lib.hid hFF
  clear hFF
  refine (S.found (over43 ao ks c t _ w13 hn (HR.out.below S.bel) (TT.out.kept S.bel))).mono ?_
  rintro e w20 ⟨LA, fa, ga, roa, rca, rfl, HFA, z20, S20⟩
  obtain ⟨hf, hg⟩ : F1 = fa ∧ F2 = ga := by have := HFA.out.1; rw [HFF.out] at this; simpa [eq_comm] using this
  subst hf hg
  obtain ⟨b1, hb1⟩ : ∃ b, b = w20.heap.size := ⟨_, rfl⟩
  have S21 := S20.box (b := b1) hb1.symm #[.int .i64 F1, .int .i64 F2] 29
  clear S S20 x0 x1
  go_upto_region 6 with fail
  rw [← hb1]
  refine S21.genC (z := b1 + 1) (by simp [hb1]) ?_
  intro w21 z21 S
  have HB1 := Lib.hid (show bi + 1 ≤ w13.heap.size ∧ w13.heap.size ≤ b1 ∧ b1 = w20.heap.size by omega)
  clear S21 hb1 z20 z13'
  obtain ⟨⟨x0, _⟩, x1, _⟩ := S.two 0
  go_wp2_with fail
  refine (S.found (under44 ao ks c t _ w21 hn (HR.out.below S.bel) (TT.out.kept S.bel))).mono ?_
  rintro e w22 ⟨LB, fb, gb, rob, rcb, rfl, HFB, z22, S22⟩
  obtain ⟨hf, hg⟩ : fb = F1 ∧ gb = F2 := by have := HFB.out.1; rw [HFF.out] at this; simpa using this
  subst hf hg
  obtain ⟨b2, hb2⟩ : ∃ b, b = w22.heap.size := ⟨_, rfl⟩
  have S23 := S22.box (b := b2) hb2.symm #[.int .i64 fb, .int .i64 gb] 29
  clear S S22 x0 x1
  go_upto_region 7 with fail
  rw [← hb2]
  refine S23.genC (z := b2 + 1) (by simp [hb2]) ?_
  intro w23 z23 S
  have HB2 := Lib.hid (show b1 + 1 ≤ w21.heap.size ∧ w21.heap.size ≤ b2 ∧ b2 = w22.heap.size by omega)
  clear S23 hb2 z22 z21
  obtain ⟨⟨x0, _⟩, x1, _⟩ := S.two 0
  go_wp2_with fail
  refine (S.found (meet45 ao ks c t _ w23 hn (HR.out.below S.bel) (TT.out.kept S.bel))).mono ?_
  rintro e w24 ⟨LC, fc, gc, roc, rcc, rfl, HFC, z24, S24⟩
  obtain ⟨hf, hg⟩ : fc = fb ∧ gc = gb := by have := HFC.out.1; rw [HFF.out] at this; simpa using this
  subst hf hg
  obtain ⟨b3, hb3⟩ : ∃ b, b = w24.heap.size := ⟨_, rfl⟩
  have S25 := S24.box (b := b3) hb3.symm #[.int .i64 fc, .int .i64 gc] 29
  clear S S24 x0 x1
  go_upto_region 8 with fail
  rw [← hb3]
  refine S25.genC (z := b3 + 1) (by simp [hb3]) ?_
  intro w25 z25 S
  have HB3 := Lib.hid (show b2 + 1 ≤ w23.heap.size ∧ w23.heap.size ≤ b3 ∧ b3 = w24.heap.size by omega)
  clear S25 hb3 z24 z23
  obtain ⟨⟨x0, _⟩, x1, _⟩ := S.two 2
  obtain ⟨⟨y0, _⟩, y1, _⟩ := S.two 4
  obtain ⟨⟨u0, _⟩, u1, _⟩ := S.two 6
  by_cases hc : fc = 0
  · subst hc
    obtain ⟨h60, hoks, hokt⟩ := findF_ok (ks := ks) (t := t) (by rw [HFF.out])
    have HOKS := Lib.hid hoks; have HOKT := Lib.hid hokt
    clear hoks hokt
    go_wp2_with fail
    have S := S.pick [0, 1, 3, 5]
    change St w w25 [.box bx #[.int .i64 t.head, .slice tk t.kids.length (t.kids.length + ts)] 38, .rowE intE (fun b => w13.heap.size ≤ b ∧ b < w20.heap.size) roa LA, .rowE intE (fun b => w21.heap.size ≤ b ∧ b < w22.heap.size) rob LB, .rowE intE (fun b => w23.heap.size ≤ b ∧ b < w24.heap.size) roc LC] at S
    have HLA := Lib.hid (show LA = idxs (fun i => (fitF (gK ks i) t).isSome) ks.length by simpa using HFA.out.2)
    have HLB := Lib.hid (show LB = idxs (fun i => (fitF t (gK ks i)).isSome) ks.length by simpa using HFB.out.2)
    have HLC := Lib.hid (show LC = idxs (fun i => decide (Meets (gK ks i) t)) ks.length by simpa using HFC.out.2)
    have hla : LA.length ≤ 60 := by have := HLA.out; have := idxs_len (fun i => (fitF (gK ks i) t).isSome) ks.length; rw [HLA.out]; omega
    have hlb : LB.length ≤ 60 := by have := idxs_len (fun i => (fitF t (gK ks i)).isSome) ks.length; rw [HLB.out]; omega
    have hlc : LC.length ≤ 60 := by have := idxs_len (fun i => decide (Meets (gK ks i) t)) ks.length; rw [HLC.out]; omega
    clear x0 x1 y0 y1 u0 u1 HFA HFB HFC
    go_loopw [15] (fun i wr => ∃ k : Nat, k ≤ ks.length ∧ i = .int .i64 k ∧ b3 + 1 ≤ wr.heap.size ∧ St w wr [.box bx #[.int .i64 t.head, .slice tk t.kids.length (t.kids.length + ts)] 38, .rowE intE (fun b => w13.heap.size ≤ b ∧ b < w20.heap.size) roa LA, .rowE intE (fun b => w21.heap.size ≤ b ∧ b < w22.heap.size) rob LB, .rowE intE (fun b => w23.heap.size ≤ b ∧ b < w24.heap.size) roc LC]) (fun i _ => ks.length - (intOf i).toNat)
    case atStart => exact ⟨0, by omega, rfl, z25, S⟩
    case round =>
      clear S z25
      obtain ⟨k, hk, rfl, z1, S⟩ := hrel
      by_cases hlt : k < ks.length
      · have hlti : (k : Int) < (ks.length : Int) := by omega
        obtain ⟨x, hx⟩ : ∃ x, x = gK ks k := ⟨_, rfl⟩
        have HOX := Lib.hid (show (treeF x).1 = 0 by rw [hx]; exact HOKS.out k hlt)
        obtain ⟨A, hA⟩ : ∃ A, A = (fitF x t).isSome := ⟨_, rfl⟩
        obtain ⟨B, hB⟩ : ∃ B, B = (fitF t x).isSome := ⟨_, rfl⟩
        obtain ⟨C, hC⟩ : ∃ C, C = decide (Meets x t) := ⟨_, rfl⟩
        have HHA := Lib.hid (fun W (h : intE.Row (fun b => w13.heap.size ≤ b ∧ b < w20.heap.size) W roa LA) => has49b (x := (k : Int)) (B := A) (ca := rca) W h (by omega) (by rw [HLA.out, idxs_mem hlt, hA, hx]))
        have HHB := Lib.hid (fun W (h : intE.Row (fun b => w21.heap.size ≤ b ∧ b < w22.heap.size) W rob LB) => has49b (x := (k : Int)) (B := B) (ca := rcb) W h (by omega) (by rw [HLB.out, idxs_mem hlt, hB, hx]))
        have HHC := Lib.hid (fun W (h : intE.Row (fun b => w23.heap.size ≤ b ∧ b < w24.heap.size) W roc LC) => has49b (x := (k : Int)) (B := C) (ca := rcc) W h (by omega) (by rw [HLC.out, idxs_mem hlt, hC, hx]))
        have HABC := Lib.hid (show (A = true ∨ B = true) → C = true from fun h => by
          rw [hC]
          refine decide_eq_true ?_
          rcases h with h | h
          · exact over_meets HOX.out HOKT.out (by rw [← hA]; exact h)
          · exact under_meets HOX.out HOKT.out (by rw [← hB]; exact h))
        have HNM := Lib.hid (show (A && B) = decide (normF [⟨false, x, x⟩] = normF [⟨false, t, t⟩]) by
          rw [Bool.eq_iff_iff, Bool.and_eq_true, decide_eq_true_eq, ← names_iff HOX.out HOKT.out, hA, hB])
        have HCL := Lib.hid (show x.most ≤ 0 → t.most ≤ 0 → C = decide (x = t) from fun h1 h2 => by
          rw [hC]; exact decide_eq_decide.2 (meets_closed HOX.out HOKT.out h1 h2))
        have HX := Lib.hid hx
        clear hx hA hB hC
        go_upto_region 13 with fail
        go_cut [104] (fun t104 W => t104 = .bool false ∧ b3 + 1 ≤ W.heap.size ∧ St w W [.box bx #[.int .i64 t.head, .slice tk t.kids.length (t.kids.length + ts)] 38, .rowE intE (fun b => w13.heap.size ≤ b ∧ b < w20.heap.size) roa LA, .rowE intE (fun b => w21.heap.size ≤ b ∧ b < w22.heap.size) rob LB, .rowE intE (fun b => w23.heap.size ≤ b ∧ b < w24.heap.size) roc LC])
        case first =>
          cases A with
          | true =>
            have hCt := HABC.out (.inl rfl)
            subst hCt
            go_wp2_with fail
            refine (S.quiet (HHA.out wr (S.rowE intE 1))).mono ?_
            rintro e wa ⟨rfl, za, Sa⟩
            go_wp2_with fail
            refine (Sa.quiet (HHC.out wa (Sa.rowE intE 3))).mono ?_
            rintro e wb ⟨rfl, zb, Sb⟩
            clear S Sa
            go_wp2_with fail
            go_meet
            case rel => exact ⟨rfl, by omega, Sb⟩
          | false =>
            go_wp2_with fail
            refine (S.quiet (HHA.out wr (S.rowE intE 1))).mono ?_
            rintro e wa ⟨rfl, za, Sa⟩
            cases B with
            | true =>
              have hCt := HABC.out (.inr rfl)
              subst hCt
              go_wp2_with fail
              refine (Sa.quiet (HHB.out wa (Sa.rowE intE 2))).mono ?_
              rintro e wb ⟨rfl, zb, Sb⟩
              go_wp2_with fail
              refine (Sb.quiet (HHC.out wb (Sb.rowE intE 3))).mono ?_
              rintro e wd ⟨rfl, zd, Sd⟩
              clear S Sa Sb
              go_wp2_with fail
              go_meet
              case rel => exact ⟨rfl, by omega, Sd⟩
            | false =>
              go_wp2_with fail
              refine (Sa.quiet (HHB.out wa (Sa.rowE intE 2))).mono ?_
              rintro e wb ⟨rfl, zb, Sb⟩
              clear S Sa
              go_wp2_with fail
              go_meet
              case rel => exact ⟨rfl, by omega, Sb⟩
        case rest =>
        clear S z1
        obtain ⟨ht104, z1, S⟩ := hcut
        subst ht104
        go_step
        obtain ⟨b, off, xk, xs, rfl, c0, c1, c2⟩ := (HR.out.below S.bel) k hlt
        rw [← HX.out] at c0 c1 c2
        have HTX := Lib.hid c2
        clear c2
        have HBB := Lib.hid (show bx + 1 ≤ b3 ∧ w13.heap.size ≤ b3 ∧ w20.heap.size ≤ b3 ∧ w22.heap.size ≤ b3 ∧ w24.heap.size ≤ b3 ∧ w.heap.size ≤ b3 by have := HBX.out; have := HBL.out; have := HBF.out; have := HBK.out; have := HBE.out; have := HBI.out; have := HB1.out; have := HB2.out; have := HB3.out; omega)
        go_upto_region 15 with fail
        go_cut [16] (fun t16 W => ∃ (b16 : Nat) (ro : Option Addr) (rp : Nat), t16 = .pointer (some ⟨b16, 0, none⟩) ∧ b3 + 1 ≤ W.heap.size ∧ b3 + 1 ≤ b16 ∧ St w W [.box bx #[.int .i64 t.head, .slice tk t.kids.length (t.kids.length + ts)] 38, .rowE intE (fun b => w13.heap.size ≤ b ∧ b < w20.heap.size) roa LA, .rowE intE (fun b => w21.heap.size ≤ b ∧ b < w22.heap.size) rob LB, .rowE intE (fun b => w23.heap.size ≤ b ∧ b < w24.heap.size) roc LC, .box b16 #[.slice ro (normF [⟨false, x, x⟩]).length ((normF [⟨false, x, x⟩]).length + rp)] 41, .rowE factE (fun q => b3 + 1 ≤ q ∧ q ≠ b16) ro (normF [⟨false, x, x⟩])])
        case first =>
          have SD : St w wc.drew [.box bx #[.int .i64 t.head, .slice tk t.kids.length (t.kids.length + ts)] 38, .rowE intE (fun b => w13.heap.size ≤ b ∧ b < w20.heap.size) roa LA, .rowE intE (fun b => w21.heap.size ≤ b ∧ b < w22.heap.size) rob LB, .rowE intE (fun b => w23.heap.size ≤ b ∧ b < w24.heap.size) roc LC] := S.drew
          have FC := Lib.hid (fun W (hb : Below wc.heap.size wc W) => (⟨Below.cellOf hb c0, Below.cellOf hb c1⟩ : _ ∧ _))
          have HTD := Lib.hid (HTX.out.kept (w' := wc.drew) (Below.refl _ _).drew)
          have zd : b3 + 1 ≤ wc.drew.heap.size := z1
          clear S c0 c1
          refine wpH_region [13] (fun W => W.cell? ⟨b, off + k * 2, none⟩ = some (.int .i64 x.head) ∧ W.cell? ⟨b, off + k * 2 + 1, none⟩ = some (.slice xk x.kids.length (x.kids.length + xs))) (by kernel_rfl) ?_
          have HS := FC.out _ (Below.refl _ wc).drew
          refine wpH.take (i := 0) (by kernel_rfl) (by kernel_rfl) (by kernel_rfl) (by kernel_rfl) (by kernel_rfl) HS ?_
          intro oi ho
          simp only [List.getElem?_toArray, List.getElem?_cons_zero, Option.some.injEq] at ho
          subst ho
          refine ⟨?_, Or.inl ⟨by rfl, ?_⟩, fun _ _ _ h => h, ?_⟩
          rotate_left 1
          · intro W hW
            try dsimp only at hW
            go_simp
            try with_reducible rfl
          simp only [Act.put, List.setIfInBounds_toArray, List.set_cons_zero, List.set_cons_succ]
          refine wpH.take (i := 1) (by kernel_rfl) (by kernel_rfl) (by kernel_rfl) (by kernel_rfl) (by kernel_rfl) HS ?_
          intro oi ho
          simp only [List.getElem?_toArray, List.getElem?_cons_succ, List.getElem?_cons_zero, Option.some.injEq] at ho
          subst ho
          refine ⟨?_, Or.inl ⟨by rfl, ?_⟩, fun _ _ _ h => h, ?_⟩
          rotate_left 1
          · intro W hW
            try dsimp only at hW
            go_simp
            try with_reducible rfl
          simp only [Act.put, List.setIfInBounds_toArray, List.set_cons_zero, List.set_cons_succ]
          refine wpH.take (i := 2) (by kernel_rfl) (by kernel_rfl) (by kernel_rfl) (by kernel_rfl) (by kernel_rfl) HS ?_
          intro oi ho
          simp only [List.getElem?_toArray, List.getElem?_cons_succ, List.getElem?_cons_zero, Option.some.injEq] at ho
          subst ho
          refine ⟨?_, Or.inl ⟨by rfl, ?_⟩, fun _ _ _ h => h, ?_⟩
          rotate_left 1
          · intro W hW
            try dsimp only at hW
            go_simp
            try with_reducible rfl
          simp only [Act.put, List.setIfInBounds_toArray, List.set_cons_zero, List.set_cons_succ]
          refine wpH.take (i := 3) (by kernel_rfl) (by kernel_rfl) (by kernel_rfl) (by kernel_rfl) (by kernel_rfl) HS ?_
          intro oi ho
          simp only [List.getElem?_toArray, List.getElem?_cons_succ, List.getElem?_cons_zero, Option.some.injEq] at ho
          subst ho
          refine ⟨?_, Or.inl ⟨by rfl, ?_⟩, fun _ _ _ h => h, ?_⟩
          rotate_left 1
          · intro W hW
            try dsimp only at hW
            go_simp
            try with_reducible rfl
          simp only [Act.put, List.setIfInBounds_toArray, List.set_cons_zero, List.set_cons_succ]
          refine wpH.take (i := 4) (by kernel_rfl) (by kernel_rfl) (by kernel_rfl) (by kernel_rfl) (by kernel_rfl) HS ?_
          intro oi ho
          simp only [List.getElem?_toArray, List.getElem?_cons_succ, List.getElem?_cons_zero, Option.some.injEq] at ho
          subst ho
          refine ⟨?_, Or.inl ⟨by rfl, ?_⟩, fun _ _ _ h => h, ?_⟩
          rotate_left 1
          · intro W hW
            try dsimp only at hW
            go_simp
            try with_reducible rfl
          simp only [Act.put, List.setIfInBounds_toArray, List.set_cons_zero, List.set_cons_succ]
          refine wpH.take (i := 5) (by kernel_rfl) (by kernel_rfl) (by kernel_rfl) (by kernel_rfl) (by kernel_rfl) HS ?_
          intro oi ho
          simp only [List.getElem?_toArray, List.getElem?_cons_succ, List.getElem?_cons_zero, Option.some.injEq] at ho
          subst ho
          refine ⟨?_, Or.inl ⟨by rfl, ?_⟩, fun _ _ _ h => h, ?_⟩
          rotate_left 1
          · intro W hW
            try dsimp only at hW
            go_simp
            try with_reducible rfl
          simp only [Act.put, List.setIfInBounds_toArray, List.set_cons_zero, List.set_cons_succ]
          refine wpH.take (i := 6) (by kernel_rfl) (by kernel_rfl) (by kernel_rfl) (by kernel_rfl) (by kernel_rfl) HS ?_
          intro oi ho
          simp only [List.getElem?_toArray, List.getElem?_cons_succ, List.getElem?_cons_zero, Option.some.injEq] at ho
          subst ho
          refine ⟨?_, Or.inl ⟨by rfl, ?_⟩, fun _ _ _ h => h, ?_⟩
          rotate_left 1
          · intro W hW
            try dsimp only at hW
            go_simp
            try with_reducible rfl
          simp only [Act.put, List.setIfInBounds_toArray, List.set_cons_zero, List.set_cons_succ]
          refine wpH.take (i := 7) (by kernel_rfl) (by kernel_rfl) (by kernel_rfl) (by kernel_rfl) (by kernel_rfl) HS ?_
          intro oi ho
          simp only [List.getElem?_toArray, List.getElem?_cons_succ, List.getElem?_cons_zero, Option.some.injEq] at ho
          subst ho
          refine ⟨?_, Or.inl ⟨by rfl, ?_⟩, fun _ _ _ h => h, ?_⟩
          rotate_left 1
          · intro W hW
            try dsimp only at hW
            go_simp
            try with_reducible rfl
          simp only [Act.put, List.setIfInBounds_toArray, List.set_cons_zero, List.set_cons_succ]
          refine wpH.take (i := 8) (by kernel_rfl) (by kernel_rfl) (by kernel_rfl) (by kernel_rfl) (by kernel_rfl) HS ?_
          intro oi ho
          simp only [List.getElem?_toArray, List.getElem?_cons_succ, List.getElem?_cons_zero, Option.some.injEq] at ho
          subst ho
          refine ⟨?_, Or.inl ⟨by rfl, ?_⟩, fun _ _ _ h => h, ?_⟩
          rotate_left 1
          · intro W hW
            try dsimp only at hW
            go_simp
            try with_reducible rfl
          simp only [Act.put, List.setIfInBounds_toArray, List.set_cons_zero, List.set_cons_succ]
          refine wpH.two (i := 9) (j := 12) (by kernel_rfl) ?_ ?_
          · intro oi ho
            simp only [List.getElem?_toArray, List.getElem?_cons_succ, List.getElem?_cons_zero, Option.some.injEq] at ho
            subst ho
            intro K hK
            have HK := Lib.hid hK
            clear hK
            have S9 := SD.box (b := wc.heap.size) rfl #[.bool false, .int .i64 x.head, .slice xk x.kids.length (x.kids.length + xs), .int .i64 x.head, .slice xk x.kids.length (x.kids.length + xs)] 62
            go_simp
            have HB9 := Lib.hid ((Below.refl _ wc).drew.alloc (by show wc.heap.size ≤ _; simp) (.cells #[.bool false, .int .i64 x.head, .slice xk x.kids.length (x.kids.length + xs), .int .i64 x.head, .slice xk x.kids.length (x.kids.length + xs)] 62))
            refine HK.out _ _ (fun _ => FC.out _ HB9.out) ?_
            have HS := FC.out _ HB9.out
            try simp only [Act.put, List.setIfInBounds_toArray, List.set_cons_zero, List.set_cons_succ]
            refine wpH.take (i := 10) (by kernel_rfl) (by kernel_rfl) (by kernel_rfl) (by kernel_rfl) (by kernel_rfl) HS ?_
            intro oi ho
            simp only [List.getElem?_toArray, List.getElem?_cons_succ, List.getElem?_cons_zero, Option.some.injEq] at ho
            subst ho
            refine ⟨?_, Or.inl ⟨by rfl, ?_⟩, fun _ _ _ h => h, ?_⟩
            rotate_left 1
            · intro W hW
              try dsimp only at hW
              go_simp
              try with_reducible rfl
            simp only [Act.put, List.setIfInBounds_toArray, List.set_cons_zero, List.set_cons_succ]
            refine wpH.two (i := 11) (j := 12) (by kernel_rfl) ?_ ?_
            · intro oi ho
              simp only [List.getElem?_toArray, List.getElem?_cons_succ, List.getElem?_cons_zero, Option.some.injEq] at ho
              subst ho
              intro K hK
              have HK := Lib.hid hK
              clear hK
              go_simp
              go_at_call 50
              refine (norm21 [⟨false, x, x⟩] _ (some ⟨wc.heap.size, 0, none⟩) 0 _ (fact_row (S9.block 4) (HTX.out.kept HB9.out)) (by simp) (fun q h => h) (fun i u hu => by have h9 := (ok_parts HOX.out).2.1; have h8 := List.mem_of_getElem? hu; simp [treesF] at h8; subst h8; omega)).mono ?_
              rintro e wn ⟨ro, rp, rfl, hro, hbn⟩
              have S10 := (S9.step hbn).add (.rowE factE (fun q => wc.heap.size + 1 ≤ q ∧ q < wn.heap.size) ro (normF [⟨false, x, x⟩])) (hro.mono (fun q h h2 => ⟨by simpa using h, h2⟩))
              have HB10 := Lib.hid (Below.step HB9.out hbn)
              have zn : _ ≤ wn.heap.size := hbn.size
              clear hro hbn
              dsimp only
              refine HK.out _ _ (fun _ => FC.out _ HB10.out) ?_
              have HS := FC.out _ HB10.out
              try simp only [Act.put, List.setIfInBounds_toArray, List.set_cons_zero, List.set_cons_succ]
              refine wpH.one (i := 12) (by kernel_rfl) ?_
              intro oi ho
              simp only [List.getElem?_toArray, List.getElem?_cons_succ, List.getElem?_cons_zero, Option.some.injEq] at ho
              subst ho
              intro K hK
              have HK := Lib.hid hK
              clear hK
              have S11 := S10.box (b := wn.heap.size) rfl #[.slice none 0 0] 41
              go_simp
              have HB11 := Lib.hid (HB10.out.alloc (by have h9 := HB10.out.size; exact h9) (.cells #[.slice none 0 0] 41))
              refine HK.out _ _ (fun _ => FC.out _ HB11.out) ?_
              have HS := FC.out _ HB11.out
              try simp only [Act.put, List.setIfInBounds_toArray, List.set_cons_zero, List.set_cons_succ]
              refine wpH.one (i := 13) (by kernel_rfl) ?_
              intro oi ho
              simp only [List.getElem?_toArray, List.getElem?_cons_succ, List.getElem?_cons_zero, Option.some.injEq] at ho
              subst ho
              intro K hK
              have HK := Lib.hid hK
              clear hK
              obtain ⟨e0, e1⟩ := S11.one 6
              have hl16 := S11.lt 6
              go_simp
              refine HK.out _ _ (fun h => absurd h (by decide)) ?_
              try simp only [Act.put, List.setIfInBounds_toArray, List.set_cons_zero, List.set_cons_succ]
              refine wpH.done (by kernel_rfl) ?_
              have zf : wc.heap.size + 1 ≤ wn.heap.size := by have h := zn; simp at h; omega
              have hw0 := HBB.out
              have z1c : b3 + 1 ≤ wc.heap.size := z1
              have SF := S11.set1 6 rfl (.slice ro (normF [⟨false, x, x⟩]).length ((normF [⟨false, x, x⟩]).length + rp)) (by have := HBB.out; have : b3 + 1 ≤ wc.heap.size := z1; omega) (by
                have h7 : b3 + 1 ≤ wc.heap.size := z1
                have h9 := HBB.out
                simp only [fsnoc, offs, offAll, Fct.box, Fct.rowE, and_true]
                omega)
              have SG := (SF.pick [0, 1, 2, 3, 6]).add (.rowE factE (fun q => b3 + 1 ≤ q ∧ q ≠ wn.heap.size) ro (normF [⟨false, x, x⟩])) ((St.rowE SF factE 5 rfl).mono (fun q h _ => by have h7 : b3 + 1 ≤ wc.heap.size := z1; have h8 := h.1; omega))
              have SH := Lib.hid SG
              clear SF SG S11 SD HS e0 e1
              try go_wp2_with fail
              go_meet
              case rel => exact ⟨wn.heap.size, ro, rp, rfl, by simp; omega, by have h7 : b3 + 1 ≤ wc.heap.size := z1; omega, by have h := SH.out; first | exact h | (rw [World.setCell_alloc_at _ _ _ _ _ rfl] at h; exact h)⟩
            · intro oi ho
              simp only [List.getElem?_toArray, List.getElem?_cons_succ, List.getElem?_cons_zero, Option.some.injEq] at ho
              subst ho
              intro K hK
              have HK := Lib.hid hK
              clear hK
              have S10 := S9.box (b := wc.heap.size + 1) (by simp) #[.slice none 0 0] 41
              go_simp
              have HB10 := Lib.hid (HB9.out.alloc (by have h9 := HB9.out.size; exact h9) (.cells #[.slice none 0 0] 41))
              refine HK.out _ _ (fun _ => FC.out _ HB10.out) ?_
              have HS := FC.out _ HB10.out
              try simp only [Act.put, List.setIfInBounds_toArray, List.set_cons_zero, List.set_cons_succ]
              refine wpH.one (i := 11) (by kernel_rfl) ?_
              intro oi ho
              simp only [List.getElem?_toArray, List.getElem?_cons_succ, List.getElem?_cons_zero, Option.some.injEq] at ho
              subst ho
              intro K hK
              have HK := Lib.hid hK
              clear hK
              go_simp
              go_at_call 50
              refine (norm21 [⟨false, x, x⟩] _ (some ⟨wc.heap.size, 0, none⟩) 0 _ (fact_row (S10.block 4) (HTX.out.kept HB10.out)) (by simp) (fun q h => h) (fun i u hu => by have h9 := (ok_parts HOX.out).2.1; have h8 := List.mem_of_getElem? hu; simp [treesF] at h8; subst h8; omega)).mono ?_
              rintro e wn ⟨ro, rp, rfl, hro, hbn⟩
              have S11 := (S10.step hbn).add (.rowE factE (fun q => wc.heap.size + 2 ≤ q ∧ q < wn.heap.size) ro (normF [⟨false, x, x⟩])) (hro.mono (fun q h h2 => ⟨by simpa using h, h2⟩))
              have HB11 := Lib.hid (Below.step HB10.out hbn)
              have zn : _ ≤ wn.heap.size := hbn.size
              clear hro hbn
              dsimp only
              refine HK.out _ _ (fun _ => FC.out _ HB11.out) ?_
              have HS := FC.out _ HB11.out
              try simp only [Act.put, List.setIfInBounds_toArray, List.set_cons_zero, List.set_cons_succ]
              refine wpH.one (i := 13) (by kernel_rfl) ?_
              intro oi ho
              simp only [List.getElem?_toArray, List.getElem?_cons_succ, List.getElem?_cons_zero, Option.some.injEq] at ho
              subst ho
              intro K hK
              have HK := Lib.hid hK
              clear hK
              obtain ⟨e0, e1⟩ := S11.one 5
              have hl16 := S11.lt 5
              go_simp
              refine HK.out _ _ (fun h => absurd h (by decide)) ?_
              try simp only [Act.put, List.setIfInBounds_toArray, List.set_cons_zero, List.set_cons_succ]
              refine wpH.done (by kernel_rfl) ?_
              have zf : wc.heap.size + 1 ≤ wn.heap.size := by have h := zn; simp at h; omega
              have hw0 := HBB.out
              have z1c : b3 + 1 ≤ wc.heap.size := z1
              have SF := S11.set1 5 rfl (.slice ro (normF [⟨false, x, x⟩]).length ((normF [⟨false, x, x⟩]).length + rp)) (by have := HBB.out; have : b3 + 1 ≤ wc.heap.size := z1; omega) (by
                have h7 : b3 + 1 ≤ wc.heap.size := z1
                have h9 := HBB.out
                simp only [fsnoc, offs, offAll, Fct.box, Fct.rowE, and_true]
                omega)
              have SG := (SF.pick [0, 1, 2, 3, 5]).add (.rowE factE (fun q => b3 + 1 ≤ q ∧ q ≠ (wc.heap.size + 1)) ro (normF [⟨false, x, x⟩])) ((St.rowE SF factE 6 rfl).mono (fun q h _ => by have h7 : b3 + 1 ≤ wc.heap.size := z1; have h8 := h.1; omega))
              have SH := Lib.hid SG
              clear SF SG S11 SD HS e0 e1
              try go_wp2_with fail
              go_meet
              case rel => exact ⟨(wc.heap.size + 1), ro, rp, rfl, by simp; omega, by have h7 : b3 + 1 ≤ wc.heap.size := z1; omega, by have h := SH.out; first | exact h | (rw [World.setCell_alloc_at _ _ _ _ _ rfl] at h; exact h)⟩
          · intro oi ho
            simp only [List.getElem?_toArray, List.getElem?_cons_succ, List.getElem?_cons_zero, Option.some.injEq] at ho
            subst ho
            intro K hK
            have HK := Lib.hid hK
            clear hK
            have S9 := SD.box (b := wc.heap.size) rfl #[.slice none 0 0] 41
            go_simp
            have HB9 := Lib.hid ((Below.refl _ wc).drew.alloc (by show wc.heap.size ≤ _; simp) (.cells #[.slice none 0 0] 41))
            refine HK.out _ _ (fun _ => FC.out _ HB9.out) ?_
            have HS := FC.out _ HB9.out
            try simp only [Act.put, List.setIfInBounds_toArray, List.set_cons_zero, List.set_cons_succ]
            refine wpH.one (i := 9) (by kernel_rfl) ?_
            intro oi ho
            simp only [List.getElem?_toArray, List.getElem?_cons_succ, List.getElem?_cons_zero, Option.some.injEq] at ho
            subst ho
            intro K hK
            have HK := Lib.hid hK
            clear hK
            have S10 := S9.box (b := wc.heap.size + 1) (by simp) #[.bool false, .int .i64 x.head, .slice xk x.kids.length (x.kids.length + xs), .int .i64 x.head, .slice xk x.kids.length (x.kids.length + xs)] 62
            go_simp
            have HB10 := Lib.hid (HB9.out.alloc (by show wc.heap.size ≤ _; simp) (.cells #[.bool false, .int .i64 x.head, .slice xk x.kids.length (x.kids.length + xs), .int .i64 x.head, .slice xk x.kids.length (x.kids.length + xs)] 62))
            refine HK.out _ _ (fun _ => FC.out _ HB10.out) ?_
            have HS := FC.out _ HB10.out
            try simp only [Act.put, List.setIfInBounds_toArray, List.set_cons_zero, List.set_cons_succ]
            refine wpH.take (i := 10) (by kernel_rfl) (by kernel_rfl) (by kernel_rfl) (by kernel_rfl) (by kernel_rfl) HS ?_
            intro oi ho
            simp only [List.getElem?_toArray, List.getElem?_cons_succ, List.getElem?_cons_zero, Option.some.injEq] at ho
            subst ho
            refine ⟨?_, Or.inl ⟨by rfl, ?_⟩, fun _ _ _ h => h, ?_⟩
            rotate_left 1
            · intro W hW
              try dsimp only at hW
              go_simp
              try with_reducible rfl
            simp only [Act.put, List.setIfInBounds_toArray, List.set_cons_zero, List.set_cons_succ]
            refine wpH.one (i := 11) (by kernel_rfl) ?_
            intro oi ho
            simp only [List.getElem?_toArray, List.getElem?_cons_succ, List.getElem?_cons_zero, Option.some.injEq] at ho
            subst ho
            intro K hK
            have HK := Lib.hid hK
            clear hK
            go_simp
            go_at_call 50
            refine (norm21 [⟨false, x, x⟩] _ (some ⟨wc.heap.size + 1, 0, none⟩) 0 _ (fact_row (S10.block 5) (HTX.out.kept HB10.out)) (by simp) (fun q h => h) (fun i u hu => by have h9 := (ok_parts HOX.out).2.1; have h8 := List.mem_of_getElem? hu; simp [treesF] at h8; subst h8; omega)).mono ?_
            rintro e wn ⟨ro, rp, rfl, hro, hbn⟩
            have S11 := (S10.step hbn).add (.rowE factE (fun q => wc.heap.size + 2 ≤ q ∧ q < wn.heap.size) ro (normF [⟨false, x, x⟩])) (hro.mono (fun q h h2 => ⟨by simpa using h, h2⟩))
            have HB11 := Lib.hid (Below.step HB10.out hbn)
            have zn : _ ≤ wn.heap.size := hbn.size
            clear hro hbn
            dsimp only
            refine HK.out _ _ (fun _ => FC.out _ HB11.out) ?_
            have HS := FC.out _ HB11.out
            try simp only [Act.put, List.setIfInBounds_toArray, List.set_cons_zero, List.set_cons_succ]
            refine wpH.one (i := 13) (by kernel_rfl) ?_
            intro oi ho
            simp only [List.getElem?_toArray, List.getElem?_cons_succ, List.getElem?_cons_zero, Option.some.injEq] at ho
            subst ho
            intro K hK
            have HK := Lib.hid hK
            clear hK
            obtain ⟨e0, e1⟩ := S11.one 4
            have hl16 := S11.lt 4
            go_simp
            refine HK.out _ _ (fun h => absurd h (by decide)) ?_
            try simp only [Act.put, List.setIfInBounds_toArray, List.set_cons_zero, List.set_cons_succ]
            refine wpH.done (by kernel_rfl) ?_
            have zf : wc.heap.size + 1 ≤ wn.heap.size := by have h := zn; simp at h; omega
            have hw0 := HBB.out
            have z1c : b3 + 1 ≤ wc.heap.size := z1
            have SF := S11.set1 4 rfl (.slice ro (normF [⟨false, x, x⟩]).length ((normF [⟨false, x, x⟩]).length + rp)) (by have := HBB.out; have : b3 + 1 ≤ wc.heap.size := z1; omega) (by
              have h7 : b3 + 1 ≤ wc.heap.size := z1
              have h9 := HBB.out
              simp only [fsnoc, offs, offAll, Fct.box, Fct.rowE, and_true]
              omega)
            have SG := (SF.pick [0, 1, 2, 3, 4]).add (.rowE factE (fun q => b3 + 1 ≤ q ∧ q ≠ wc.heap.size) ro (normF [⟨false, x, x⟩])) ((St.rowE SF factE 6 rfl).mono (fun q h _ => by have h7 : b3 + 1 ≤ wc.heap.size := z1; have h8 := h.1; omega))
            have SH := Lib.hid SG
            clear SF SG S11 SD HS e0 e1
            try go_wp2_with fail
            go_meet
            case rel => exact ⟨wc.heap.size, ro, rp, rfl, by simp; omega, by have h7 : b3 + 1 ≤ wc.heap.size := z1; omega, by have h := SH.out; first | exact h | (rw [World.setCell_alloc_at _ _ _ _ _ rfl] at h; exact h)⟩
        case rest =>
        clear S z1 c0 c1
        obtain ⟨b16, ro, rp, rfl, z1, hb16, S⟩ := hcut
        go_step
        go_upto_region 16 with fail
        go_cut [17] (fun t17 W => ∃ (b17 : Nat) (r2 : Option Addr) (rp2 : Nat), t17 = .pointer (some ⟨b17, 0, none⟩) ∧ b3 + 1 ≤ W.heap.size ∧ St w W [.box bx #[.int .i64 t.head, .slice tk t.kids.length (t.kids.length + ts)] 38, .rowE intE (fun b => w13.heap.size ≤ b ∧ b < w20.heap.size) roa LA, .rowE intE (fun b => w21.heap.size ≤ b ∧ b < w22.heap.size) rob LB, .rowE intE (fun b => w23.heap.size ≤ b ∧ b < w24.heap.size) roc LC, .box b16 #[.slice ro (normF [⟨false, x, x⟩]).length ((normF [⟨false, x, x⟩]).length + rp)] 41, .box b17 #[.slice r2 (normF [⟨false, t, t⟩]).length ((normF [⟨false, t, t⟩]).length + rp2)] 41, .rowE factE (fun _ => True) ro (normF [⟨false, x, x⟩]), .rowE factE (fun _ => True) r2 (normF [⟨false, t, t⟩])])
        case first =>
          obtain ⟨⟨x0, _⟩, x1, _⟩ := S.two 0
          have hl16 := S.lt 4
          have S := (S.pick [0, 1, 2, 3, 4]).add (.rowE factE (fun q => b3 + 1 ≤ q ∧ q < wc.heap.size) ro (normF [⟨false, x, x⟩])) ((St.rowE S factE 5 rfl).mono (fun q h h2 => ⟨h.1, h2⟩))
          have S1 := S.box (b := wc.heap.size) rfl #[.bool false, .int .i64 t.head, .slice tk t.kids.length (t.kids.length + ts), .int .i64 t.head, .slice tk t.kids.length (t.kids.length + ts)] 62
          go_wp2_with fail
          go_simp
          go_at_call 50
          refine (norm21 [⟨false, t, t⟩] _ (some ⟨wc.heap.size, 0, none⟩) 0 _ (fact_row (S1.block 6) (TT.out.kept S1.bel)) (by simp) (fun q h => h) (fun i u hu => by have h9 := (ok_parts HOKT.out).2.1; have h8 := List.mem_of_getElem? hu; simp [treesF] at h8; subst h8; omega)).mono ?_
          rintro e wn ⟨r2, rp2, rfl, hro, hbn⟩
          have zn : wc.heap.size + 1 ≤ wn.heap.size := by have h := hbn.size; simp at h; omega
          have S2 := (S1.step hbn).add (.rowE factE (fun q => wc.heap.size + 1 ≤ q ∧ q < wn.heap.size) r2 (normF [⟨false, t, t⟩])) (hro.mono (fun q h h2 => ⟨by simpa using h, h2⟩))
          have S3 := S2.box (b := wn.heap.size) rfl #[.slice none 0 0] 41
          obtain ⟨e0, e1⟩ := S3.one 8
          have hl17 := S3.lt 8
          clear hro hbn x0 x1 S S1
          go_wp2_with fail
          have SF := S3.set1 8 rfl (.slice r2 (normF [⟨false, t, t⟩]).length ((normF [⟨false, t, t⟩]).length + rp2)) (by have := HBB.out; omega) (by
            have h9 := HBB.out
            simp only [fsnoc, offs, offAll, List.map, Fct.at, Fct.box, Fct.rowE, and_true]
            omega)
          have SG := ((SF.pick [0, 1, 2, 3, 4, 8]).add (.rowE factE (fun _ => True) ro (normF [⟨false, x, x⟩])) ((St.rowE SF factE 5 rfl).mono (fun q h _ => trivial))).add (.rowE factE (fun _ => True) r2 (normF [⟨false, t, t⟩])) ((St.rowE SF factE 7 rfl).mono (fun q h _ => trivial))
          have SH := Lib.hid SG
          clear SF SG S3 S2 e0 e1
          try go_wp2_with fail
          go_meet
          case rel => exact ⟨wn.heap.size, r2, rp2, rfl, by simp; omega, by have h := SH.out; first | exact h | (rw [World.setCell_alloc_at _ _ _ _ _ rfl] at h; exact h)⟩
        case rest =>
        clear S z1 hb16
        obtain ⟨b17, r2, rp2, rfl, z1, S⟩ := hcut
        go_step
        go_upto_region 17 with fail
        go_cut [134] (fun t134 W => t134 = .bool false ∧ b3 + 1 ≤ W.heap.size ∧ St w W [.box bx #[.int .i64 t.head, .slice tk t.kids.length (t.kids.length + ts)] 38, .rowE intE (fun b => w13.heap.size ≤ b ∧ b < w20.heap.size) roa LA, .rowE intE (fun b => w21.heap.size ≤ b ∧ b < w22.heap.size) rob LB, .rowE intE (fun b => w23.heap.size ≤ b ∧ b < w24.heap.size) roc LC])
        case first =>
          obtain ⟨y0, _⟩ := S.one 4
          obtain ⟨y1, _⟩ := S.one 5
          have ry := cell_regrown y0; have rz := cell_regrown y1
          have CA := Lib.hid (fun d os => Calls.regrown_of (HHA.out (Go.Sort.grow (redrawn wc d) os) ((S.regrown d os).rowE intE 1)))
          have CB := Lib.hid (fun d os => Calls.regrown_of (HHB.out (Go.Sort.grow (redrawn wc d) os) ((S.regrown d os).rowE intE 2)))
          have CN := Lib.hid (fun d os => Calls.regrown_of (sameClaim20b HNM.out (Go.Sort.grow (redrawn wc d) os) ((S.regrown d os).rowE factE 6) ((S.regrown d os).rowE factE 7) (ca := (normF [⟨false, x, x⟩]).length + rp) (cb := (normF [⟨false, t, t⟩]).length + rp2)))
          cases A with
          | true =>
            rw [Bool.true_and] at CN
            refine wp_region_quiet_below (by kernel_rfl) (by kernel_rfl) ?_
            iterate 3 (go_big_quiet_step (exact CA.out _ _))
            iterate 4 (go_big_quiet_step (exact CB.out _ _))
            iterate 5 (go_big_quiet_step (exact CN.out _ _))
            refine wpQuiet_nil ?_
            intro _ hw'
            obtain ⟨⟨dq, osq⟩, hw''⟩ := hw'
            subst hw''
            have S2 := (S.pick [0, 1, 2, 3]).regrown dq osq
            have z2 := Nat.le_trans z1 (below_regrown wc dq osq).size
            go_wp2_with fail
            go_meet
            case rel => exact ⟨by simp, z2, S2⟩
          | false =>
            rw [Bool.false_and] at CN
            refine wp_region_quiet_below (by kernel_rfl) (by kernel_rfl) ?_
            iterate 3 (go_big_quiet_step (exact CA.out _ _))
            iterate 4 (go_big_quiet_step (exact CB.out _ _))
            iterate 5 (go_big_quiet_step (exact CN.out _ _))
            refine wpQuiet_nil ?_
            intro _ hw'
            obtain ⟨⟨dq, osq⟩, hw''⟩ := hw'
            subst hw''
            have S2 := (S.pick [0, 1, 2, 3]).regrown dq osq
            have z2 := Nat.le_trans z1 (below_regrown wc dq osq).size
            go_wp2_with fail
            go_meet
            case rel => exact ⟨by simp, z2, S2⟩
        case rest =>
        clear S z1
        obtain ⟨ht134, z1, S⟩ := hcut
        subst ht134
        go_step
        go_upto_region 19 with fail
        go_cut [157] (fun t157 W => t157 = .bool false ∧ b3 + 1 ≤ W.heap.size ∧ St w W [.box bx #[.int .i64 t.head, .slice tk t.kids.length (t.kids.length + ts)] 38, .rowE intE (fun b => w13.heap.size ≤ b ∧ b < w20.heap.size) roa LA, .rowE intE (fun b => w21.heap.size ≤ b ∧ b < w22.heap.size) rob LB, .rowE intE (fun b => w23.heap.size ≤ b ∧ b < w24.heap.size) roc LC])
        case first =>
          obtain ⟨b', off', xk', xs', heq, c0, c1, c2⟩ := (HR.out.below S.bel) k hlt
          obtain ⟨rfl, rfl⟩ : b = b' ∧ off = off' := by simpa using heq
          clear heq
          rw [← HX.out] at c0 c1 c2
          obtain ⟨⟨x0, _⟩, x1, _⟩ := S.two 0
          have r0 := cell_regrown c0; have r1 := cell_regrown c1; have q0 := cell_regrown x0; have q1 := cell_regrown x1
          have CT := Lib.hid (TT.out.kept S.bel)
          have CX := Lib.hid c2
          have CA := Lib.hid (fun d os => Calls.regrown_of (most30 x _ (Go.Sort.grow (redrawn wc d) os) (low_of_pre x (treeF_ok.1 HOX.out).2.2) (CX.out.kept (below_regrown _ d os))))
          have CB := Lib.hid (fun d os => Calls.regrown_of (most30 t _ (Go.Sort.grow (redrawn wc d) os) (low_of_pre t (treeF_ok.1 HOKT.out).2.2) (CT.out.kept (below_regrown _ d os))))
          have CC := Lib.hid (fun d os => Calls.regrown_of (HHC.out (Go.Sort.grow (redrawn wc d) os) ((S.regrown d os).rowE intE 3)))
          have CD := Lib.hid (fun d os => Calls.regrown_of (same22 x t _ _ (Go.Sort.grow (redrawn wc d) os) (CX.out.kept (below_regrown _ d os)) (CT.out.kept (below_regrown _ d os))))
          clear c2
          by_cases hm : x.most = 0
          · by_cases hm2 : t.most = 0
            · have hC := HCL.out (by omega) (by omega)
              rw [hm] at CA
              rw [hm2] at CB
              rw [← hC] at CD
              clear hC hm hm2
              refine wp_region_quiet_below (by kernel_rfl) (by kernel_rfl) ?_
              iterate 5 (go_big_quiet_step (exact CA.out _ _))
              iterate 4 (go_big_quiet_step (exact CB.out _ _))
              iterate 6 (go_big_quiet_step (exact CC.out _ _))
              iterate 8 (go_big_quiet_step (exact CD.out _ _))
              refine wpQuiet_nil ?_
              intro _ hw'
              obtain ⟨⟨dq, osq⟩, hw''⟩ := hw'
              subst hw''
              have S2 := (S.pick [0, 1, 2, 3]).regrown dq osq
              have z2 := Nat.le_trans z1 (below_regrown wc dq osq).size
              go_wp2_with fail
              go_meet
              case rel => exact ⟨by simp, z2, S2⟩
            · have hmb : (t.most == 0) = false := by simp [hm2]
              rw [hm] at CA
              clear hm hm2
              refine wp_region_quiet_below (by kernel_rfl) (by kernel_rfl) ?_
              iterate 5 (go_big_quiet_step (exact CA.out _ _))
              iterate 18 (go_big_quiet_step (exact CB.out _ _))
              refine wpQuiet_nil ?_
              intro _ hw'
              obtain ⟨⟨dq, osq⟩, hw''⟩ := hw'
              subst hw''
              have S2 := (S.pick [0, 1, 2, 3]).regrown dq osq
              have z2 := Nat.le_trans z1 (below_regrown wc dq osq).size
              go_wp2_with fail
              go_meet
              case rel => exact ⟨by simp, z2, S2⟩
          · have hmb : (x.most == 0) = false := by simp [hm]
            clear hm
            refine wp_region_quiet_below (by kernel_rfl) (by kernel_rfl) ?_
            iterate 23 (go_big_quiet_step (exact CA.out _ _))
            refine wpQuiet_nil ?_
            intro _ hw'
            obtain ⟨⟨dq, osq⟩, hw''⟩ := hw'
            subst hw''
            have S2 := (S.pick [0, 1, 2, 3]).regrown dq osq
            have z2 := Nat.le_trans z1 (below_regrown wc dq osq).size
            go_wp2_with fail
            go_meet
            case rel => exact ⟨by simp, z2, S2⟩
        case rest =>
        clear S z1
        obtain ⟨ht157, z1, S⟩ := hcut
        subst ht157
        go_wp2_with fail
        go_roundw
        case rel => exact ⟨k + 1, by omega, by go_num, z1, S⟩
        case measure => simp [intOf] <;> omega
      · obtain rfl : k = ks.length := by omega
        have hlac : (LA.length : Int) ≤ (LC.length : Int) := by
          have h := idxs_le (p := fun i => (fitF (gK ks i) t).isSome) (q := fun i => decide (Meets (gK ks i) t)) (n := ks.length) (fun i hi h => decide_eq_true (over_meets (HOKS.out i hi) HOKT.out h))
          rw [HLA.out, HLC.out]; omega
        have hlbc : (LB.length : Int) ≤ (LC.length : Int) := by
          have h := idxs_le (p := fun i => (fitF t (gK ks i)).isSome) (q := fun i => decide (Meets (gK ks i) t)) (n := ks.length) (fun i hi h => decide_eq_true (under_meets (HOKS.out i hi) HOKT.out h))
          rw [HLB.out, HLC.out]; omega
        have SE := Lib.hid S.bel
        clear S z1
        go_wp2_with fail
        go_ret
        exact ⟨rfl, SE.out⟩
  · have hcb : (fc != 0) = true := by simp [hc]
    have SE := Lib.hid S.bel
    clear S hc
    go_wp2_with fail
    go_ret
    exact ⟨rfl, SE.out⟩
end Go.Proofs.Ytlhnfdjidjgfgaa
