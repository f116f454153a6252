/-
  Walk: unify.Solve, for terms with any variables.
-/
import Derived.Test.YtlhnfdjidjgfgaaProg
import Derived.Test.YtlhnfdjidjgfgaaMx
namespace Go.Proofs.Ytlhnfdjidjgfgaa
open Go.RowKit Go.Shelf Go.Maps
set_option linter.unusedVariables false
set_option maxHeartbeats 400000

structure OkG (t : T) : Prop where
  hd : ∀ x ∈ t.pre, -1000000 ≤ x.head ∧ x.head ≤ 1000000
  size : t.size ≤ 100000
  deep : t.deep ≤ 100000

set_option maxRecDepth 100000 in
set_option maxHeartbeats 8000000 in
theorem solve84g (N : Nat) (A B : T) (va vb : Value) (w : World) (hA : TreeAt w va A) (hB : TreeAt w vb B) (oA : OkG A) (oB : OkG B) (hvA : VA N A) (hvB : VA N B) (hN8 : N ≤ 100) (hN : (N : Int) = mostL [A, B]) :
    Calls Try.prog 84 #[va, vb] w (SolveP N A B w) := by
  obtain ⟨ka, sa, rfl⟩ := hA.form
  obtain ⟨kb, sb, rfl⟩ := hB.form
  have TA := Lib.hid hA; have TB := Lib.hid hB; have HOA := Lib.hid oA; have HOB := Lib.hid oB; have HVA := Lib.hid hvA; have HVB := Lib.hid hvB; have HN := Lib.hid hN
  obtain ⟨i24, gi, gz0, gz1, gz2⟩ := info_parts info24
  obtain ⟨bx, hbx⟩ : ∃ b, b = w.heap.size := ⟨_, rfl⟩
  have S1 := ((St.start w).box hbx.symm #[.int .i64 A.head, .slice ka A.kids.length (A.kids.length + sa)] 38).box (b := bx + 1) (by simp [hbx]) #[.int .i64 B.head, .slice kb B.kids.length (B.kids.length + sb)] 38
  have hsz2 : ((w.alloc (.cells #[.int .i64 A.head, .slice ka A.kids.length (A.kids.length + sa)] 38)).alloc (.cells #[.int .i64 B.head, .slice kb B.kids.length (B.kids.length + sb)] 38)).heap.size = bx + 2 := by simp [hbx]
  clear hA hB oA oB hN hvA hvB
  go_enter Try.func84, Try.ntmps84
  go_wp2_with fail
  rw [← hbx]
  refine S1.gen (z := bx + 2) (by omega) ?_
  intro w1 z1 S
  have HBX := Lib.hid (show w.heap.size ≤ bx ∧ bx ≤ w.heap.size by omega)
  clear S1 hsz2 hbx
  have HB := Lib.hid S.bel
  have HS := Lib.hid S
  refine (solved134 N A B _ _ w1 (TA.out.kept HB.out) (TB.out.kept HB.out) HVA.out HVB.out (by omega)).mono ?_
  rintro e w2 ⟨s, b, M, r, rfl, hr⟩
  have HR := Lib.hid hr
  clear hr S
  cases r with
  | false =>
    have HBE := Lib.hid (Below.step HB.out HR.out.bel)
    go_wp2_with fail
    go_ret3
    exact ⟨HBE.out, .inl ⟨rfl, HR.out.no rfl⟩⟩
  | true =>
    obtain ⟨hac, hsol⟩ := HR.out.yes rfl
    obtain ⟨σ, hcan, hfree⟩ := canon_of HR.out.good hac
    have HCAN := Lib.hid (show Canon (fun θ => A.inst θ = B.inst θ) σ from ⟨(hsol σ).1 hcan.sol, fun θ h => hcan.gen θ ((hsol θ).2 h), hcan.lv, hcan.low⟩)
    have HSOL := Lib.hid hcan.sol
    have HFR := Lib.hid hfree
    have HAC := Lib.hid hac
    have HB1 := Lib.hid (show w1.heap.size ≤ b ∧ w1.heap.size ≤ s from ⟨HR.out.hb, HR.out.hbs⟩)
    clear hac hsol hcan hfree
    have S := (((St.start w1).step HR.out.bel).add (.mapT N (fun c => c < w1.heap.size) b M) HR.out.map).add (.box s #[.map (some b)] 165) HR.out.box
    have S : St w1 w2 [.mapT N (fun c => c < w1.heap.size) b M, .box s #[.map (some b)] 165] := S
    obtain ⟨bq, hbq⟩ : ∃ b, b = w2.heap.size := ⟨_, rfl⟩
    obtain ⟨⟨x0', _⟩, x1', _⟩ := HS.out.two 0
    obtain ⟨⟨y0', _⟩, y1', _⟩ := HS.out.two 1
    have x0 := Below.cellOf S.bel x0'; have x1 := Below.cellOf S.bel x1'
    have y0 := Below.cellOf S.bel y0'; have y1 := Below.cellOf S.bel y1'
    have S2 := S.box hbq.symm #[.int .i64 A.head, .slice ka A.kids.length (A.kids.length + sa), .int .i64 B.head, .slice kb B.kids.length (B.kids.length + sb)] 38
    have hz2 := S.size
    clear x0' x1' y0' y1' S
    go_wp2_with fail
    rw [← hbq]
    refine S2.gen (z := bq + 1) (by simp [hbq]) ?_
    intro w3 z3 S
    have HBQ := Lib.hid (show w1.heap.size ≤ bq ∧ w2.heap.size ≤ bq by omega)
    clear S2 hbq x0 x1 y0 y1
    have HB3 := Lib.hid (Below.step HB.out S.bel)
    have hra : RowAt w3 (some ⟨bq, 0, none⟩) [A, B] := by
      intro i hi
      rcases (show i = 0 ∨ i = 1 by simp at hi; omega) with rfl | rfl
      · exact ⟨bq, 0, ka, sa, rfl, (S.cell 2 0 rfl).1, (S.cell 2 1 rfl).1, TA.out.kept HB3.out⟩
      · exact ⟨bq, 0, kb, sb, rfl, (S.cell 2 2 rfl).1, (S.cell 2 3 rfl).1, TB.out.kept HB3.out⟩
    refine (S.quiet (max47g [A, B] (some ⟨bq, 0, none⟩) 2 w3 hra (by simp) (fun i hi => by
      rcases (show i = 0 ∨ i = 1 by simp at hi; omega) with rfl | rfl
      · exact ⟨by have h1 := HOA.out.size; show A.size ≤ _; omega, by have h1 := HOA.out.deep; show A.deep ≤ _; omega, HOA.out.hd⟩
      · exact ⟨by have h1 := HOB.out.size; show B.size ≤ _; omega, by have h1 := HOB.out.deep; show B.deep ≤ _; omega, HOB.out.hd⟩))).mono ?_
    rintro e w4 ⟨rfl, z4, S4⟩
    rw [← HN.out]
    clear hra S
    go_wp2_with (at_make; refine wpList_make_full _ rfl (.tmp 25) (.tmp 25) 33 rfl w4.heap.size 38 i24 (.agg #[.int .i64 0, .slice none 0 0]) 2 Try.underlying33 gi gz0 gz1 .i64 .i64 _ _ N rfl rfl rfl rfl ?m1 ?m2 ?m3 ?_)
    case m1 => rw [gz2]; omega
    case m2 => unfold maxLen; omega
    case m3 => exact Nat.le_refl _
    intro w5 hown hgrow
    have hb5 : Below w4.heap.size w4 w5 := (Below.refl _ _).grown hgrow (Nat.le_refl _) (fun q hq => by cases hq)
    have z5 := hb5.size
    obtain ⟨g, hg⟩ : ∃ g, g = w4.heap.size := ⟨_, rfl⟩
    have S5 := ((S4.pick [0, 1]).step hb5).cons (.rset (fun b => False) w4.heap.size w4.heap.size N (fun _ => zeroT)) (RowSet.made (w := w5) hown _)
    rw [← hg] at S5
    have hgl := (S5.rset 0).lt.2
    have HG1 := Lib.hid (show bq + 1 ≤ g by omega)
    have S5 : St w1 w5 [.rset (fun b => False) g g N (fun _ => zeroT), .mapT N (fun c => c < w1.heap.size) b M, .box s #[.map (some b)] 165] := S5
    clear hown hgrow S4 hb5
    obtain ⟨D, n, hown, hnN, hdom, hkey⟩ := (S5.mapT 1).open
    have HDOM := Lib.hid hdom; have HKEY := Lib.hid hkey
    have HLB := Lib.hid (show b < g ∧ s < g from ⟨Nat.lt_of_lt_of_le HR.out.map.lt (by have := HG1.out; have := HBQ.out; omega), by have := HG1.out; have := HBQ.out; have := heap_lt HR.out.box; omega⟩)
    obtain ⟨x0, x0f⟩ := S5.one 2
    have HZ5 := Lib.hid z5
    clear hdom hkey hnN
    go_wp2_with (first | (at_range; refine wpList_range_own _ rfl _ 163 rfl 3 38 law3 Try.underlying163 treeR b n D rfl hown ?_; intro w6 hrg6 hg6 hs6))
    go_frame
    have HRG := Lib.hid hrg6
    have S6 : St w1 w6 [.rset (fun b => False) g g N (fun _ => zeroT), .mapT N (fun c => c < w1.heap.size) b M, .box s #[.map (some b)] 165] := S5.carry (S5.bel.grown hg6 S5.bel.size (fun c hc => by cases hc)) (fun i c hc hl => hg6.block c hl (by simp))
    obtain ⟨br, hbr⟩ : ∃ r, r = w5.heap.size := ⟨_, rfl⟩
    rw [← hbr] at HRG ⊢
    subst hg
    have hbr2 : w4.heap.size + 1 ≤ br := by omega
    have hz6 : br + 1 ≤ w6.heap.size := by omega
    have S6' : St w1 w6 [.rset (fun c => br < c ∧ c < br + 1) w4.heap.size w4.heap.size N (fun _ => zeroT), .mapT N (fun c => c < w1.heap.size) b M, .box s #[.map (some b)] 165] := (S6.pick [1, 2]).cons (.rset (fun c => br < c ∧ c < br + 1) w4.heap.size w4.heap.size N (fun _ => zeroT)) ((S6.rset 0).mono (fun b h _ => False.elim h))
    have HS6 := Lib.hid S6'
    have HFULL := Lib.hid (fun bn (h : w1.heap.size ≤ bn) => full135 N (fun c => c < w1.heap.size) b s bn M σ w1 HB1.out.1 HB1.out.2 h (fun c h => h) (by omega) HR.out.good HAC.out HSOL.out (fun x h => (HFR.out x).1 h) 12)
    have HBB := Lib.hid S6.bel.size
    have HBR := Lib.hid (show w4.heap.size + 1 ≤ br ∧ w1.heap.size ≤ w4.heap.size by have := HBQ.out; have := HG1.out; omega)
    clear hrg6 S6 S6' S5 hg6 hs6 hown x0 x0f hbr z5 hbr2 hgl
    go_loopw [10] (fun _ wr => ∃ (left : Lit → Bool) (cnt : Nat) (bs : Nat → T) (z : Nat), wr.ranges Try.prog 3 treeR b br n D left cnt ∧ WroteM M σ left bs ∧ br + 1 ≤ wr.heap.size ∧ z ≤ wr.heap.size ∧ St w1 wr [.rset (fun c => br < c ∧ c < z) w4.heap.size w4.heap.size N bs, .mapT N (fun c => c < w1.heap.size) b M, .box s #[.map (some b)] 165]) (fun _ wr => wr.rangeLeft b br)
    case atStart => exact ⟨_, _, _, br + 1, HRG.out, ⟨fun x t ht => .inl (HDOM.out x t ht), fun x h => rfl⟩, hz6, hz6, HS6.out⟩
    case round =>
      clear HRG HS6 hz6
      obtain ⟨left, cnt, bs, z, hrg, hwr, hzb, hzz, S⟩ := hrel
      have HW := Lib.hid hwr; have HRG := Lib.hid hrg
      have HLE := Lib.hid hrg.left_eq
      clear hwr
      go_wp2_with (first | (at_next; refine wpList_next_T _ rfl _ rfl b br n D left cnt rfl hrg ?_ ?_))
      · intro hl0
        have HL0 := Lib.hid hl0
        have HBE := Lib.hid (Below.step HB.out S.bel)
        have HROW := Lib.hid (S.rset 0).row
        clear hl0 hrg S
        go_wp2_with fail
        go_ret3
        have hall : ∀ x t, M x = some t → bs x = σ x ∧ fitN 0 1 (σ x) := fun x t h => by
          rcases HW.out.has x t h with h1 | h1
          · rw [HL0.out (kV x)] at h1; cases h1
          · exact h1
        refine ⟨HBE.out, .inr ⟨σ, HCAN.out, fun x hx => (HFR.out x).1 ?_, .inr ⟨fun x hx => ?_, w4.heap.size, rfl, ?_⟩⟩⟩
        · cases hm : M x with
          | none => rfl
          | some t => have := (HR.out.good x t hm).1; omega
        · cases hm : M x with
          | none => exact absurd ((HFR.out x).1 hm) hx
          | some t => exact (hall x t hm).2
        · have he : bs = bnd σ := by
            funext x
            unfold bnd
            cases hm : M x with
            | none => rw [if_pos ((HFR.out x).1 hm)]; exact HW.out.low x hm
            | some t => rw [if_neg (fun h => by have := (HFR.out x).2 h; rw [hm] at this; cases this)]; exact (hall x t hm).1
          rw [← he]
          exact HROW.out.mono (fun c h _ => by have := HBR.out; have := HB.out.size; rcases h with h | h <;> omega)
      · intro x v w7 cnt7 hnx hen
        obtain ⟨hwf, hlk, ⟨c, hvc, hat⟩, hrg7, hlt7, hg7, hs7⟩ := hnx
        obtain ⟨hneg, t, hMx⟩ := HKEY.out x (.held (treeV c), []) (treeV c) (treeR_mk c) hat
        have hgx := HR.out.good _ _ hMx
        obtain ⟨i, hi⟩ : ∃ i : Nat, i = (-x - 1).toNat := ⟨_, rfl⟩
        rw [← hi] at hMx hgx
        obtain rfl : x = -(i : Int) - 1 := by omega
        have HIN := Lib.hid hgx.1
        have hin := hgx.1
        have S7 : St w1 w7 [.rset (fun c => br < c ∧ c < z) w4.heap.size w4.heap.size N bs, .mapT N (fun c => c < w1.heap.size) b M, .box s #[.map (some b)] 165] := S.carry (S.bel.grown hg7 S.bel.size (fun c hc => by cases hc; have := HBR.out; omega)) (fun j c hc hl => hg7.block c hl (fun e => by
          cases e
          have h1 := HBR.out; have h2 := HLB.out
          match j, hc with
          | 0, hc => have hc : br = w4.heap.size ∨ (br < br ∧ br < z) := hc; omega
          | 1, hc => have hc : br = b ∨ br < w1.heap.size := hc; omega
          | 2, hc => have hc : br = s := hc; omega
          | j + 3, hc => exact hc.elim))
        have HLT7 := Lib.hid hlt7; have HRG7 := Lib.hid hrg7; have HMX := Lib.hid hMx
        obtain ⟨bn, hbn⟩ : ∃ b, b = wr.heap.size := ⟨_, rfl⟩
        have S8 := S7.box (b := bn) (by omega) #[.int .i64 0] 3
        have HR8 := HRG7.out.alloc (.cells #[.int .i64 0] 3)
        have HZ8 : bn + 1 ≤ (w7.alloc (.cells #[.int .i64 0] 3)).heap.size := by simp; omega
        clear hvc hlk hat hrg7 hlt7 hgx hMx S S7 hrg hwf hi
        go_upto_region 9 with fail
        rw [← hbn]
        generalize w7.alloc (.cells #[.int .i64 0] 3) = w8 at S8 HR8 HZ8 ⊢
        have HBN := Lib.hid (show br + 1 ≤ bn ∧ z ≤ bn by omega)
        have S : St w1 w8 [.rset (fun c => br < c ∧ c < z) w4.heap.size w4.heap.size N bs, .mapT N (fun c => c < w1.heap.size) b M, .box s #[.map (some b)] 165, .box bn #[.int .i64 ((0 : Nat) : Int)] 3] := S8
        clear S8
        have HNE := Lib.hid (show σ i ≠ vT i from fun h => by have := (HFR.out i).2 h; rw [HMX.out] at this; cases this)
        have hlow : 0 ≤ -(-(i : Int) - 1) - 1 := by omega
        have hin2 : (i : Int) < (N : Int) := by omega
        have HCALL := Lib.hid (S.fulled2 3 rfl (by simp only [offs, offAll, Fct.box, Fct.mapT, Fct.rset, and_true]; have h1 := HLB.out; have h2 := HBN.out; have h3 := HBR.out; refine ⟨fun e => ?_, fun e => ?_, by omega⟩ <;> omega) (HFULL.out bn (by have := HBN.out; have := HBR.out; omega) (vT i) _ w8 1 0 (by omega) (by omega) (by omega) (by omega) (S.pick [1, 2, 3]) (TreeP.leaf _ _ _) (VA.var hin)))
        rw [vT_inst, show ((1 : Nat) : Int) = 1 from rfl] at HCALL

        have HS8 := Lib.hid S
        have HR8' := Lib.hid HR8
        have HBNE := Lib.hid hbn
        clear S HR8 hbn hs7 hg7 hen
        by_cases hfit : fitN 0 1 (σ i)
        · have HFIT := Lib.hid hfit
          clear hfit
          go_upto_region 12 with (go_simp; go_at_call 135; refine HCALL.out.mono ?_; rintro e w9 ⟨ok, kq, sq, R, m2, rfl, HQ, z9, S9⟩
                                  have hok : ok = true := by
                                    cases ok
                                    · exact absurd HFIT.out (HQ.out.2.1 rfl).2
                                    · rfl
                                  have HR1 := Lib.hid (HQ.out.1 hok)
                                  subst hok
                                  obtain rfl : R = σ i := HR1.out.1
                                  have S10 := S9.box (b := w9.heap.size) rfl #[.int .i64 (σ i).head, .slice kq (σ i).kids.length ((σ i).kids.length + sq)] 38)
          have hgr : w8.grownBy w9 (some bn) := frame_grown HS8.out.bel S9.bel (fun c h1 h2 => HQ.out.2.2 c h1 h2) z9
          have HR9 := HR8'.out.kept hgr (fun e => by cases e; have := HLB.out; have := HBN.out; have := HBR.out; omega) (fun e => by cases e; have := HBN.out; omega)
          have HR10 := HR9.alloc (.cells #[.int .i64 (σ i).head, .slice kq (σ i).kids.length ((σ i).kids.length + sq)] 38)
          have z10 : w9.heap.size + 1 ≤ (w9.alloc (.cells #[.int .i64 (σ i).head, .slice kq (σ i).kids.length ((σ i).kids.length + sq)] 38)).heap.size := by simp
          generalize w9.alloc (.cells #[.int .i64 (σ i).head, .slice kq (σ i).kids.length ((σ i).kids.length + sq)] 38) = w10 at S10 HR10 z10 ⊢
          have S10 : St w1 w10 [.rset (fun c => br < c ∧ c < z) w4.heap.size w4.heap.size N bs, .mapT N (fun c => c < w1.heap.size) b M, .box s #[.map (some b)] 165, .box bn #[.int .i64 (m2 : Nat)] 3, .treeP (fun c => w8.heap.size ≤ c ∧ c < w9.heap.size) (.agg #[.int .i64 (σ i).head, .slice kq (σ i).kids.length ((σ i).kids.length + sq)]) (σ i), .box w9.heap.size #[.int .i64 (σ i).head, .slice kq (σ i).kids.length ((σ i).kids.length + sq)] 38] := S10
          obtain ⟨ko, ksp, c1, c2, f1, f2, c3⟩ := (S10.rset 0).get hin
          obtain ⟨⟨q0, _⟩, q1, _⟩ := S10.two 5
          have S11 := (show St w1 w10 [.rset (fun c => br < c ∧ c < z) w4.heap.size w4.heap.size N bs, .mapT N (fun c => c < w1.heap.size) b M, .box s #[.map (some b)] 165] from S10.pick [0, 1, 2]).rput (p' := fun c => br < c ∧ c < w9.heap.size) hin ((S10.treeP 4).mono (q := fun c => br < c ∧ c < w9.heap.size) (fun c (h : w8.heap.size ≤ c ∧ c < w9.heap.size) _ => ⟨by have := h.1; have := HBN.out; omega, h.2⟩)) (fun c h => ⟨h.1, by have := h.2; have := HBN.out; omega⟩) (fun h => by have := h.1; have := HBR.out; omega) HBR.out.2 (by
            simp only [offAll, Fct.box, Fct.mapT, and_true]
            have h1 := HLB.out; have h2 := HBR.out
            refine ⟨fun e => ?_, by omega⟩
            rcases e with e | e <;> omega)
          have HR11 := Lib.hid (HR10.kept (frame_grown (bm := w4.heap.size) S10.bel S11.bel (fun c h1 h2 => (Below.heap_setCell _ _ _ _ (by show c ≠ w4.heap.size; exact h2)).trans (Below.heap_setCell _ _ _ _ (by show c ≠ w4.heap.size; exact h2))) (by simp)) (fun e => by cases e; have := HLB.out; omega) (fun e => by cases e; have := HBR.out; omega))
          have HS11 := Lib.hid S11
          have hidx : -(-(i : Int) - 1) - 1 = (i : Int) := by omega
          clear S9 S10 S11 HR9 HR10 hgr c3
          go_wp2_with fail
          go_roundw
          case rel =>
            refine ⟨_, _, setT bs i (σ i), w9.heap.size, HR11.out, ⟨fun y t hy => ?_, fun y hy => ?_⟩, by have := HBN.out; simp; omega, by simp; omega, HS11.out⟩
            · by_cases e : y = i
              · subst e; exact .inr ⟨by simp [setT], HFIT.out⟩
              · rcases HW.out.has y t hy with h | h
                · refine .inl ?_
                  rw [h, Bool.true_and]
                  unfold kV
                  simp only [Lit.sameKey, Bool.not_eq_true', decide_eq_false_iff_not]
                  exact fun e2 => e (by have := e2.2; omega)
                · exact .inr (by unfold setT; rw [if_neg e]; exact h)
            · by_cases e : y = i
              · subst e; rw [HMX.out] at hy; cases hy
              · unfold setT; rw [if_neg e]; exact HW.out.low y hy
          case measure =>
            rw [HLE.out, HR11.out.left_eq]
            exact HLT7.out
        · have HFIT := Lib.hid hfit
          clear hfit
          go_wp2_with (go_simp; go_at_call 135; refine HCALL.out.mono ?_; rintro e w9 ⟨ok, kq, sq, R, m2, rfl, HQ, z9, S9⟩
                       have hok : ok = false := by
                         cases ok
                         · rfl
                         · have h := HQ.out.1 rfl; rw [h.1] at h; exact absurd h.2.2 HFIT.out
                       subst hok
                       have S10 := S9.box (b := w9.heap.size) rfl #[.int .i64 R.head, .slice kq R.kids.length (R.kids.length + sq)] 38)
          go_ret3
          refine ⟨Below.step HB.out S10.bel, .inr ⟨σ, HCAN.out, fun x hx => (HFR.out x).1 ?_, .inl ⟨rfl, i, HIN.out, HNE.out, HFIT.out⟩⟩⟩
          cases hm : M x with
          | none => rfl
          | some t => have := (HR.out.good x t hm).1; omega
end Go.Proofs.Ytlhnfdjidjgfgaa
