/-
  Walk: the law TreeVars.
-/
import Derived.Test.YtcckgfgobakphaaProg
import Derived.Test.YtcckgfgobakphaaBase
import Derived.Test.YtcckgfgobakphaaT27
import Derived.Test.YtcckgfgobakphaaP3
namespace Go.Proofs.Ytcckgfgobakphaa
open Go.RowKit Go.Shelf
set_option linter.unusedVariables false
set_option maxHeartbeats 400000

theorem CellsAt.same {w : World} {a : Addr} {u : Value} (hc : w.cell? a = some u) {ao : Option Addr} {n : Nat} {f : Nat → Value} (h : CellsAt w ao n f) : CellsAt (w.setCell a u) ao n f := fun j hj => by
  obtain ⟨b, off, e, h1⟩ := h j hj
  refine ⟨b, off, e, ?_⟩
  by_cases ha : a = ⟨b, off + j, none⟩
  · rw [← ha, World.cell?_setCell_same _ _ _ hc]
    rw [← ha, hc] at h1; exact h1
  · rw [World.cell?_setCell_other _ _ _ _ ha]; exact h1
theorem bsum_le (f : Nat → Nat) (bs : List T) (h : Int) : ∀ n, (∀ i, i < n → f i ≤ 40) → (∀ i, i < n → boundB bs i = true → (gK bs i).times h ≤ 40) → bsum f bs h n ≤ n * 1600
  | 0, _, _ => by simp [bsum]
  | n + 1, h1, h2 => by
    have ih := bsum_le f bs h n (fun i hi => h1 i (by omega)) (fun i hi => h2 i (by omega))
    have hp : (if boundB bs n = true then f n * (gK bs n).times h else 0) ≤ 1600 := by
      split
      · rename_i hb
        exact Nat.le_trans (Nat.mul_le_mul (h1 n (Nat.lt_succ_self n)) (h2 n (Nat.lt_succ_self n) hb)) (by decide)
      · exact Nat.zero_le _
    rw [bsum, Nat.succ_mul]
    exact Nat.add_le_add ih hp
def touchF (t : T) (bs : List T) : Nat → Bool
  | 0 => false
  | k + 1 => touchF t bs k || (decide (0 < t.times (-(k : Int) - 1)) && boundB bs k)
theorem touchF_false {t : T} {bs : List T} : ∀ {n : Nat}, touchF t bs n = false → ∀ k, k < n → 0 < t.times (-(k : Int) - 1) → boundB bs k = false
  | 0, _, k, hk, _ => by omega
  | n + 1, h, k, hk, hp => by
    rw [touchF, Bool.or_eq_false_iff] at h
    by_cases e : k = n
    · subst e; have := h.2; rw [decide_eq_true hp] at this; simpa using this
    · exact touchF_false h.1 k (by omega) hp

structure TimesR (w7 : World) (lb loff kk : Nat) (lc : Nat) (bb boff bl bc ii k2 sv C Q : Nat) (tv : Value) (c0 c1 c2 c3 c4 c5 c6 c7 c8 c9 c10 c11 c12 c13 c14 c15 : Bool) (s129 s130 s131 s132 s133 s134 s135 s136 s137 s138 s139 s140 s141 s142 s143 s14 : Value) (W : World) : Prop where
  bel : Below w7.heap.size w7 W
  l0 : c0 = true → s129 = .int .i64 (sv : Int)
  l1 : c1 = true → s130 = .slice (some ⟨lb, loff, none⟩) kk lc
  l2 : c2 = true → s131 = .int .i64 (ii : Int)
  l3 : c3 = true → s132 = .pointer (some ⟨lb, loff + ii, none⟩)
  l4 : c4 = true → s133 = .int .i64 (C : Int)
  l5 : c5 = true → s134 = .slice (some ⟨bb, boff, none⟩) bl bc
  l6 : c6 = true → s135 = .int .i64 (ii : Int)
  l7 : c7 = true → s136 = .pointer (some ⟨bb, boff + ii * 2, none⟩)
  l8 : c8 = true → s137 = tv
  l9 : c9 = true → s138 = .int .i64 (k2 : Int)
  l10 : c10 = true → s139 = .int .i64 (-(k2 : Int) : Int)
  l11 : c11 = true → s140 = .int .i64 (-(k2 : Int) - 1 : Int)
  l12 : c12 = true → s141 = .int .i64 (Q : Int)
  l13 : c13 = true → s142 = .int .i64 ((C : Int) * (Q : Int) : Int)
  l14 : c14 = true → s143 = .int .i64 ((sv : Int) + (C : Int) * (Q : Int) : Int)
  l15 : c15 = true → s14 = .int .i64 ((sv : Int) + (C : Int) * (Q : Int) : Int)
  k0 : c15 = false → s14 = .int .i64 (sv : Int)
  k1 : c15 = true → c0 = true
theorem TimesR.mono {w7 : World} {lb loff kk : Nat} {lc : Nat} {bb boff bl bc ii k2 sv C Q : Nat} {tv : Value} {c0 c1 c2 c3 c4 c5 c6 c7 c8 c9 c10 c11 c12 c13 c14 c15 : Bool} {s129 s130 s131 s132 s133 s134 s135 s136 s137 s138 s139 s140 s141 s142 s143 s14 : Value} {W W' : World} (h : TimesR w7 lb loff kk lc bb boff bl bc ii k2 sv C Q tv c0 c1 c2 c3 c4 c5 c6 c7 c8 c9 c10 c11 c12 c13 c14 c15 s129 s130 s131 s132 s133 s134 s135 s136 s137 s138 s139 s140 s141 s142 s143 s14 W) (hb : Below W.heap.size W W') : TimesR w7 lb loff kk lc bb boff bl bc ii k2 sv C Q tv c0 c1 c2 c3 c4 c5 c6 c7 c8 c9 c10 c11 c12 c13 c14 c15 s129 s130 s131 s132 s133 s134 s135 s136 s137 s138 s139 s140 s141 s142 s143 s14 W' where
  bel := Below.step h.bel hb
  l0 := h.l0
  l1 := h.l1
  l2 := h.l2
  l3 := h.l3
  l4 := h.l4
  l5 := h.l5
  l6 := h.l6
  l7 := h.l7
  l8 := h.l8
  l9 := h.l9
  l10 := h.l10
  l11 := h.l11
  l12 := h.l12
  l13 := h.l13
  l14 := h.l14
  l15 := h.l15
  k0 := h.k0
  k1 := h.k1

set_option maxRecDepth 100000 in
set_option maxHeartbeats 8000000 in
theorem treeVars6 (t : T) (bs : List T) (v : Value) (bo : Option Addr) (bc : Nat) (w : World) (ht : TreeAt w v t) (hb : RowAt w bo bs) :
    Calls Try.prog 6 #[v, .slice bo bs.length bc] w fun e w' => e = .returned (.bool true) ∧ Below w.heap.size w w' := by
  obtain ⟨k, sp, rfl⟩ := ht.form
  have HT := Lib.hid ht; have HB := Lib.hid hb; clear ht hb
  have h3 := heap_ofAlloc w (.cells #[.int .i64 t.head, .slice k t.kids.length (t.kids.length + sp)] 24)
  have hb0 : Below w.heap.size w (w.alloc (.cells #[.int .i64 t.head, .slice k t.kids.length (t.kids.length + sp)] 24)) := (Below.refl w.heap.size w).alloc (Nat.le_refl _) _
  go_enter Try.func6, Try.ntmps6
  go_wp2_with fail
  refine (treeFact23 _).mono ?_
  rintro e w1 ⟨rfl, hb1⟩
  have h31 := Below.heapAt hb1 h3
  have hbw := Below.step hb0 hb1
  obtain ⟨⟨x0, _⟩, x1, _⟩ := box2 h31
  clear hb0 h3 hb1
  go_wp2_with fail
  refine (vars26 t _ w1 (HT.out.kept hbw)).mono ?_
  rintro e w2 ⟨lv, rfl, hl, hb2⟩
  have h32 := Below.heapAt hb2 h31
  have hbw2 := Below.step hbw hb2
  have HL := Lib.hid hl
  obtain ⟨⟨fc, fa⟩, hF⟩ : ∃ f, treeF t = f := ⟨_, rfl⟩
  rw [hF]
  have HF := Lib.hid hF
  have hs2 : w.heap.size < w2.heap.size := heap_lt h32
  clear hl hb2 h31 hbw hF x0 x1
  obtain ⟨⟨x0, _⟩, x1, _⟩ := box2 h32
  simp only [FV]
  go_wp2_with fail
  have h72 := heap_ofAlloc w2 (.cells #[.int .i64 fc, .int .i64 fa] 28)
  have h22 := heap_alloc_old (o' := .cells #[.int .i64 fc, .int .i64 fa] 28) h32
  have hb20 := (Below.refl w2.heap.size w2).alloc (Nat.le_refl _) (.cells #[.int .i64 fc, .int .i64 fa] 28)
  have hs20 : w2.heap.size < (w2.alloc (.cells #[.int .i64 fc, .int .i64 fa] 28)).heap.size := by simp
  have HL2 := Lib.hid (HL.out.below hb20)
  have hbw3 := Below.step hbw2 hb20
  generalize w2.alloc (.cells #[.int .i64 fc, .int .i64 fa] 28) = W2 at h72 h22 hb20 hs20 HL2 hbw3 ⊢
  obtain ⟨b7, hb7⟩ : ∃ b, b = w2.heap.size := ⟨_, rfl⟩
  rw [← hb7] at h72 ⊢
  have g7 : w.heap.size < b7 := by omega
  have g7' : b7 < W2.heap.size := by omega
  refine (do21P (fun b => b < w.heap.size) t bs _ bo bc W2 (fun b h => by omega) (HT.out.foot.kept hbw3) (HB.out.foot.kept hbw3)).mono ?_
  rintro e w3 ⟨u, rfl, hu, hb3⟩
  obtain ⟨uk, usp, rfl⟩ := hu.at.form
  have h33 := Below.heapAt hb3 h22; have h73 := Below.heapAt hb3 h72
  have hbw4 := Below.step hbw3 hb3
  have HL3 := Lib.hid (HL2.out.below hb3)
  obtain ⟨⟨gc, ga⟩, hG⟩ : ∃ f, (doF t bs).2 = f := ⟨_, rfl⟩
  rw [hG]
  have HG := Lib.hid hG
  obtain ⟨S, hS⟩ : ∃ S, S = (doF t bs).1 := ⟨_, rfl⟩
  rw [← hS] at hu ⊢
  have HS := Lib.hid hS
  have HU := Lib.hid hu
  have hbz := below_two w3 (.cells #[.int .i64 S.head, .slice uk S.kids.length (S.kids.length + usp)] 24) (.cells #[.int .i64 gc, .int .i64 ga] 28)
  have hbw5 := Below.step hbw4 hbz
  obtain ⟨⟨y0, y1⟩, y2, y3⟩ := box2 h73
  have hl7 := heap_lt h73
  clear h32 hbw2 hb20 hs20 hbw3 h72 h22 hb3 hG hS hu hb7 x0 x1
  simp only [FV]
  cases hfc : (fc != 0) with
  | true =>
    have hfe : (fc == 0) = false := by simpa using hfc
    have HZ := Lib.hid (show S = zeroT by rw [HS.out, doF, if_pos (by rw [HF.out]; simpa using hfc)])
    go_wp2_with fail
    generalize (w3.alloc (.cells #[.int .i64 S.head, .slice uk S.kids.length (S.kids.length + usp)] 24)).alloc (.cells #[.int .i64 gc, .int .i64 ga] 28) = w4 at hbz hbw5 ⊢
    refine (none24 S _ w4 (HU.out.at.kept hbz)).mono ?_
    rintro e w6 ⟨rfl, hb6⟩
    have hbw6 := Below.step hbw5 hb6
    go_wp2_with fail
    refine bodyPost_ret (v := .bool (decide (S.head = 0 ∧ S.kids.length = 0))) (by simp [results, Try.results6, go_sem]) rfl ⟨ret_bool (by rw [HZ.out]; simp [zeroT, T.head, T.kids]), hbw6⟩
  | false =>
    have hfe : (fc == 0) = true := by simpa using hfc
    cases hgc : (gc != 0) with
    | true =>
      go_wp2_with fail
      refine bodyPost_ret (v := .bool true) (by simp [results, Try.results6, go_sem]) rfl ⟨rfl, hbw5⟩
    | false =>
      have HD := Lib.hid (doF_ok (t := t) (bs := bs) (by rw [HG.out]; simpa using hgc))
      go_wp2_with fail
      have h84 := heap_alloc_old (o' := .cells #[.int .i64 gc, .int .i64 ga] 28) (heap_ofAlloc w3 (.cells #[.int .i64 S.head, .slice uk S.kids.length (S.kids.length + usp)] 24))
      generalize (w3.alloc (.cells #[.int .i64 S.head, .slice uk S.kids.length (S.kids.length + usp)] 24)).alloc (.cells #[.int .i64 gc, .int .i64 ga] 28) = w4 at hbz hbw5 h84 ⊢
      obtain ⟨b8, hb8⟩ : ∃ b, b = w3.heap.size := ⟨_, rfl⟩
      rw [← hb8] at h84 ⊢
      have HSE := Lib.hid (show S = t.sub bs by rw [HS.out, HD.out.1])
      have HTS := Lib.hid (show treeF S = (0, 0) from treeF_ok0 (by rw [HSE.out]; exact HD.out.2.2.2))
      have HTT := Lib.hid (show treeF t = (0, 0) from treeF_ok0 HD.out.2.1)
      have HVL := Lib.hid (show varsF t = countsOf t by unfold varsF; rw [if_pos HD.out.2.1])
      have HVM := Lib.hid (show varsF S = countsOf S by unfold varsF; rw [if_pos (by rw [HTS.out])])
      refine (vars26 S _ w4 (HU.out.at.kept hbz)).mono ?_
      rintro e w5 ⟨mv, rfl, hm, hb5⟩
      rw [HTS.out]
      have h74 := Below.heapAt hb5 (Below.heapAt hbz h73); have h34 := Below.heapAt hb5 (Below.heapAt hbz h33)
      have HL5 := Lib.hid ((HL3.out.below hbz).below hb5)
      have hbw6 := Below.step hbw5 hb5
      have HU5 := Lib.hid ((HU.out.kept hbz).kept hb5)
      have e7 : ¬ (b7 < w.heap.size ∨ W2.heap.size ≤ b7) := by omega
      have e3 : b7 ≠ w.heap.size := by omega
      have HM5 := Lib.hid hm
      have h85 := Below.heapAt hb5 h84
      have e8 : b7 ≠ b8 := by omega
      obtain ⟨n, hn⟩ : ∃ n, n = t.most.toNat := ⟨_, rfl⟩
      obtain ⟨m, hm'⟩ : ∃ n, n = S.most.toNat := ⟨_, rfl⟩
      obtain ⟨lo, lc, rfl, hL⟩ := HL5.out
      rw [HVL.out, show (countsOf t).length = n by simp [countsOf, hn]] at hL ⊢
      obtain ⟨mo, mc, rfl, hM⟩ := hm
      rw [HVM.out, show (countsOf S).length = m by simp [countsOf, hm']] at hM ⊢
      have HCL := Lib.hid hL; have HCM := Lib.hid hM
      have HN := Lib.hid hn; have HMM := Lib.hid hm'
      have HOK := Lib.hid (treeF_ok.1 HD.out.2.1)
      have HOKS := Lib.hid (treeF_ok.1 (show (treeF S).1 = 0 by rw [HTS.out]))
      have hn8 : n ≤ 8 := by have := most_le t HOK.out.2.2; omega
      have hm8 : m ≤ 8 := by have := most_le S HOKS.out.2.2; omega
      clear y0 y1 y2 y3 hb5 hbz h33 h73 hbw4 hbw5 h84 hb8 HL HL2 HL3 HL5 hL hM hn hm'
      obtain ⟨⟨y0, y1⟩, y2, y3⟩ := box2 h74
      have hl75 := heap_lt h74
      have hff : fc = 0 ∧ fa = 0 := by have := HF.out; rw [HTT.out] at this; simpa [eq_comm] using this
      obtain ⟨rfl, rfl⟩ := hff
      have y2' : (w5.setCell ⟨b7, 0, none⟩ (.int .i64 0)).cell? ⟨b7, 1, none⟩ = some (.int .i64 0) := by rw [World.cell?_setCell_other _ _ _ _ (by simp)]; exact y2
      have HCL := Lib.hid ((HCL.out.same y0).same y2')
      have HCM := Lib.hid ((HCM.out.same y0).same y2')
      clear y2'
      have hs6 : ((w5.setCell ⟨b7, 0, none⟩ (.int .i64 0)).setCell ⟨b7, 1, none⟩ (.int .i64 0)).heap.size = w5.heap.size := by simp
      simp only [FV]
      go_wp2_with fail
      have g70 : w.heap.size ≤ b7 := Nat.le_of_lt g7
      have HU6 := Lib.hid ((HU5.out.setCell (a := ⟨b7, 0, none⟩) e7 (.int .i64 0)).setCell (a := ⟨b7, 1, none⟩) e7 (.int .i64 0))
      have h36 := heap_set_other (a := ⟨b7, 1, none⟩) (u := .int .i64 0) (heap_set_other (a := ⟨b7, 0, none⟩) (u := .int .i64 0) h34 e3.symm) e3.symm
      have h86 := heap_set_other (a := ⟨b7, 1, none⟩) (u := .int .i64 0) (heap_set_other (a := ⟨b7, 0, none⟩) (u := .int .i64 0) h85 e8.symm) e8.symm
      have hbw7 := (hbw6.setCell (p := ⟨b7, 0, none⟩) g70 (.int .i64 0)).setCell (p := ⟨b7, 1, none⟩) g70 (.int .i64 0)
      generalize (w5.setCell ⟨b7, 0, none⟩ (.int .i64 0)).setCell ⟨b7, 1, none⟩ (.int .i64 0) = w6 at HCL HCM HU6 h36 h86 hbw7 hs6 ⊢
      have HRB := Lib.hid (HB.out.below hbw7)
      go_loopw [11, 12] (fun q i wr => ∃ kk : Nat, kk ≤ n ∧ q = .bool (touchF t bs kk) ∧ i = .int .i64 kk ∧ w6 = wr) (fun _ i _ => n - (intOf i).toNat)
      case atStart => exact ⟨0, by omega, rfl, rfl, rfl⟩
      case round =>
        obtain ⟨kk, hk, rfl, rfl, rfl⟩ := hrel
        by_cases hlt : kk < n
        · have hltn : (kk : Int) < (n : Int) := by omega
          obtain ⟨lb, loff, rfl, c0⟩ := HCL.out.get hlt
          rw [show gI (countsOf t) kk = ((t.times (-(kk : Int) - 1) : Nat) : Int) by simp [gI, countsOf, ← HN.out, hlt]] at c0
          have HTO := Lib.hid (show touchF t bs (kk + 1) = (touchF t bs kk || (decide (0 < t.times (-(kk : Int) - 1)) && boundB bs kk)) from rfl)
          generalize t.times (-(kk : Int) - 1) = C at c0 HTO ⊢
          by_cases hC : 0 < C
          · have hC' : (0 : Int) < (C : Int) := by omega
            by_cases hml : kk < bs.length
            · have hml' : (kk : Int) < (bs.length : Int) := by omega
              obtain ⟨bb, boff, bk, bsp, rfl, d1, d2, _⟩ := HRB.out kk hml
              cases hne : ((gK bs kk).head != 0) with
              | true =>
                go_wp2_with fail
                go_roundw
                case rel => exact ⟨kk + 1, by omega, by rw [HTO.out, decide_eq_true hC, boundB, decide_eq_true hml, hne]; simp, by go_num, trivial⟩
                case measure => simp [intOf] <;> omega
              | false =>
                go_wp2_with fail
                go_roundw
                case rel => exact ⟨kk + 1, by omega, by rw [HTO.out, decide_eq_true hC, boundB, decide_eq_true hml, hne]; simp, by go_num, trivial⟩
                case measure => simp [intOf] <;> omega
            · have hml' : ¬ (kk : Int) < (bs.length : Int) := by omega
              go_wp2_with fail
              go_roundw
              case rel => exact ⟨kk + 1, by omega, by rw [HTO.out, boundB, decide_eq_false hml]; simp, by go_num, trivial⟩
              case measure => simp [intOf] <;> omega
          · have hC' : ¬ (0 : Int) < (C : Int) := by omega
            go_wp2_with fail
            go_roundw
            case rel => exact ⟨kk + 1, by omega, by rw [HTO.out, decide_eq_false hC]; simp, by go_num, trivial⟩
            case measure => simp [intOf] <;> omega
        · have hltn : ¬ (kk : Int) < (n : Int) := by omega
          obtain rfl : kk = n := by omega
          cases htc : touchF t bs kk with
          | false =>
            have HEQ := Lib.hid (show S = t by
              rw [HSE.out]
              exact sub_same t HOK.out.2.2 (fun q hq => touchF_false htc q (by
                by_cases hq2 : q < kk
                · exact hq2
                · have := times_most (t := t) (i := q) (by have := HN.out; omega); omega) hq))
            obtain ⟨⟨z0, _⟩, z1, _⟩ := box2 h86
            obtain ⟨⟨x0, _⟩, x1, _⟩ := box2 h36
            go_wp2_with fail
            refine (same22 S t _ _ w6 HU6.out.at (HT.out.kept hbw7)).mono ?_
            rintro e w7 ⟨rfl, hb7⟩
            have hbw8 := Below.step hbw7 hb7
            go_wp2_with fail
            refine bodyPost_ret (v := .bool (decide (S = t))) (by simp [results, Try.results6, go_sem]) rfl ⟨ret_bool (by rw [HEQ.out]; simp), hbw8⟩
          | true =>
            have HT40 := Lib.hid (fun (x : Int) => show t.times x ≤ 40 from Nat.le_trans (times_le x t) HOK.out.1)
            have HB40 := Lib.hid (fun (x : Int) (i : Nat) (hi : boundB bs i = true) => show (gK bs i).times x ≤ 40 from Nat.le_trans (times_le x _) (bind_size HD.out.2.2.1 i (bound_lt hi)))
            have HBL := Lib.hid (show bs.length ≤ 8 from (bindF_ok HD.out.2.2.1).1)
            have hbl : bs.length ≤ 8 := HBL.out
            go_wp2_with fail
            go_loopw [13, 14, 15] (fun i _ _ wv => ∃ kk : Nat, kk ≤ m ∧ i = .int .i64 kk ∧ Below w6.heap.size w6 wv) (fun i _ _ _ => m - (intOf i).toNat)
            case atStart => exact ⟨0, by omega, rfl, Below.refl _ _⟩
            case round =>
              obtain ⟨k2, hk2, rfl, hbv⟩ := hrel
              obtain ⟨wv, hwv⟩ : ∃ W : World, W = wr := ⟨_, rfl⟩
              subst hwv
              by_cases hlt2 : k2 < m
              · have hltm : (k2 : Int) < (m : Int) := by omega
                obtain ⟨mb, moff, rfl, m0⟩ := (HCM.out.below hbv).get hlt2
                rw [show gI (countsOf S) k2 = ((S.times (-(k2 : Int) - 1) : Nat) : Int) by simp [gI, countsOf, ← HMM.out, hlt2]] at m0
                have HBV := Lib.hid hbv
                have HM0 := Lib.hid m0
                clear hbv m0
                --INNER
                obtain ⟨B0, hB0⟩ : ∃ B, B = (if boundB bs k2 = true then 0 else t.times (-(k2 : Int) - 1)) := ⟨_, rfl⟩
                have HBE := Lib.hid hB0
                clear hB0
                by_cases hkn : k2 < kk
                · have hkn' : (k2 : Int) < (kk : Int) := by omega
                  obtain ⟨lb, loff, rfl, c0⟩ := (HCL.out.below HBV.out).get hkn
                  rw [show gI (countsOf t) k2 = ((t.times (-(k2 : Int) - 1) : Nat) : Int) by simp [gI, countsOf, ← HN.out, hkn]] at c0
                  by_cases hml : k2 < bs.length
                  · have hml' : (k2 : Int) < (bs.length : Int) := by omega
                    obtain ⟨bb, boff, bk, bsp, rfl, d1, d2, _⟩ := (HRB.out.below HBV.out) k2 hml
                    cases hne : ((gK bs k2).head == 0) with
                    | true =>
                      have HB0 := Lib.hid (show B0 = t.times (-(k2 : Int) - 1) by rw [HBE.out, if_neg]; simp [boundB, hml, bne, hne])
                      go_wp2_with fail
                      go_loopw [14, 15] (fun q i wx => ∃ (ii : Nat) (sv : Nat), ii ≤ kk ∧ ii ≤ bs.length ∧ q = .int .i64 sv ∧ i = .int .i64 ii ∧ sv = B0 + bsum (fun i => t.times (-(i : Int) - 1)) bs (-(k2 : Int) - 1) ii ∧ Below wv.heap.size wv wx) (fun _ i _ => kk - (intOf i).toNat)
                      case atStart => exact ⟨0, t.times (-(k2 : Int) - 1), by omega, by omega, rfl, rfl, by rw [HB0.out]; rfl, Below.refl _ _⟩
                      case round =>
                        obtain ⟨ii, sv, hi1, hi2, rfl, rfl, hsv, hbx⟩ := hrel
                        obtain ⟨wx, hwx⟩ : ∃ W : World, W = wr := ⟨_, rfl⟩
                        subst hwx
                        have hb8 := bsum_le (fun i => t.times (-(i : Int) - 1)) bs (-(k2 : Int) - 1) ii (fun i _ => HT40.out _) (fun i _ hi => HB40.out _ i hi)
                        have hsvle : sv ≤ 20000 := by have := HT40.out (-(k2 : Int) - 1); have hB := HBE.out; split at hB <;> omega
                        have HSV := Lib.hid hsv
                        have HBX := Lib.hid hbx
                        have HBVX := Lib.hid (Below.step HBV.out hbx)
                        clear hsv hb8
                        by_cases h1 : ii < kk
                        · have h1' : (ii : Int) < (kk : Int) := by omega
                          by_cases h2 : ii < bs.length
                          · have h2' : (ii : Int) < (bs.length : Int) := by omega
                            obtain ⟨lb', loff', hlo, c0⟩ := (HCL.out.below HBVX.out).get h1
                            rw [show gI (countsOf t) ii = ((t.times (-(ii : Int) - 1) : Nat) : Int) by simp [gI, countsOf, ← HN.out, h1]] at c0
                            obtain ⟨bb', boff', bk, bsp, hbo, d1, d2, d3⟩ := (HRB.out.below HBVX.out) ii h2
                            obtain ⟨rfl, rfl⟩ : lb = lb' ∧ loff = loff' := by simpa using hlo
                            obtain ⟨rfl, rfl⟩ : bb = bb' ∧ boff = boff' := by simpa using hbo
                            have HST := Lib.hid (show bsum (fun i => t.times (-(i : Int) - 1)) bs (-(k2 : Int) - 1) (ii + 1) = bsum (fun i => t.times (-(i : Int) - 1)) bs (-(k2 : Int) - 1) ii + if boundB bs ii = true then t.times (-(ii : Int) - 1) * (gK bs ii).times (-(k2 : Int) - 1) else 0 from rfl)
                            cases hne : ((gK bs ii).head != 0) with
                            | true =>
                              have HBD := Lib.hid (show boundB bs ii = true by rw [boundB, decide_eq_true h2, hne]; rfl)
                              have hC40 := HT40.out (-(ii : Int) - 1)
                              have hQ40 := HB40.out (-(k2 : Int) - 1) ii HBD.out
                              have hs40 : (gK bs ii).size ≤ 1000000000 := by have := bind_size HD.out.2.2.1 ii h2; omega
                              go_wp2_with fail
                              have HD3 := Lib.hid d3
                              clear d3
                              generalize t.times (-(ii : Int) - 1) = C at c0 hC40 HST ⊢
                              obtain ⟨Q, hQ⟩ : ∃ Q, (gK bs ii).times (-(k2 : Int) - 1) = Q := ⟨_, rfl⟩
                              rw [hQ] at hQ40 HST
                              have hCQ : (C : Int) * (Q : Int) ≤ 1600 ∧ 0 ≤ (C : Int) * (Q : Int) := by
                                have := Nat.mul_le_mul hC40 hQ40
                                constructor
                                · exact_mod_cast this
                                · exact Int.mul_nonneg (by omega) (by omega)
                              have hw10 : IntKind.i64.wrap (-(k2 : Int)) = -(k2 : Int) := IntWalk.i64_in _ (by omega)
                              have hw11 : IntKind.i64.wrap (-(k2 : Int) - 1) = -(k2 : Int) - 1 := IntWalk.i64_in _ (by omega)
                              have hw13 : IntKind.i64.wrap ((C : Int) * (Q : Int)) = (C : Int) * (Q : Int) := IntWalk.i64_in _ (by omega)
                              have hw14 : IntKind.i64.wrap ((sv : Int) + (C : Int) * (Q : Int)) = (sv : Int) + (C : Int) * (Q : Int) := IntWalk.i64_in _ (by omega)
                              refine wp_region_inv (by kernel_rfl) (by kernel_rfl) (fun L a W => ∃ s129 s130 s131 s132 s133 s134 s135 s136 s137 s138 s139 s140 s141 s142 s143 s14 : Value, a = { tmps := #[.agg #[Value.int IntKind.i64 t.head, Value.slice k t.kids.length (t.kids.length + sp)], .slice (some ⟨bb, boff, none⟩) bs.length bc, .pointer (some ⟨w.heap.size, 0, none⟩), undef, u4, .bool true, .slice (some ⟨lb, loff, none⟩) kk lc, .pointer (some ⟨b7, 0, none⟩), .pointer (some ⟨b8, 0, none⟩), .pointer (some ⟨b8 + 1, 0, none⟩), .slice (some ⟨mb, moff, none⟩) m mc, .bool true, .int IntKind.i64 (kk : Int), .int IntKind.i64 (k2 : Int), s14, .int IntKind.i64 (ii : Int), .bool true, .bool true, .bool false, .tuple #[Value.slice (some ⟨lb, loff, none⟩) kk lc, Value.agg #[Value.int IntKind.i64 0, Value.int IntKind.i64 0]], .agg #[Value.int IntKind.i64 t.head, Value.slice k t.kids.length (t.kids.length + sp)], .tuple #[Value.slice (some ⟨lb, loff, none⟩) kk lc, Value.agg #[Value.int IntKind.i64 0, Value.int IntKind.i64 0]], .slice (some ⟨lb, loff, none⟩) kk lc, .agg #[Value.int IntKind.i64 0, Value.int IntKind.i64 0], .tuple #[Value.agg #[Value.int IntKind.i64 S.head, Value.slice uk S.kids.length (S.kids.length + usp)], Value.agg #[Value.int IntKind.i64 gc, Value.int IntKind.i64 ga]], .agg #[Value.int IntKind.i64 t.head, Value.slice k t.kids.length (t.kids.length + sp)], .slice (some ⟨bb, boff, none⟩) bs.length bc, .tuple #[Value.agg #[Value.int IntKind.i64 S.head, Value.slice uk S.kids.length (S.kids.length + usp)], Value.agg #[Value.int IntKind.i64 gc, Value.int IntKind.i64 ga]], .agg #[Value.int IntKind.i64 S.head, Value.slice uk S.kids.length (S.kids.length + usp)], .agg #[Value.int IntKind.i64 gc, Value.int IntKind.i64 ga], .pointer (some ⟨b7, 0, none⟩), .int IntKind.i64 0, .bool false, .bool false, .pointer (some ⟨b8 + 1, 0, none⟩), .int IntKind.i64 gc, .bool false, .bool false, undef, undef, undef, undef, undef, undef, undef, .tuple #[Value.slice (some ⟨mb, moff, none⟩) m mc, Value.agg #[Value.int IntKind.i64 0, Value.int IntKind.i64 0]], .agg #[Value.int IntKind.i64 S.head, Value.slice uk S.kids.length (S.kids.length + usp)], .tuple #[Value.slice (some ⟨mb, moff, none⟩) m mc, Value.agg #[Value.int IntKind.i64 0, Value.int IntKind.i64 0]], .slice (some ⟨mb, moff, none⟩) m mc, .agg #[Value.int IntKind.i64 0, Value.int IntKind.i64 0], .pointer (some ⟨b7, 0, none⟩), .int IntKind.i64 0, .bool false, .int IntKind.i64 (kk : Int), .slice (some ⟨lb, loff, none⟩) kk lc, .int IntKind.i64 (kk : Int), .bool false, u57, u58, u59, u60, u61, u62, u63, u64, u65, u66, u67, u68, u69, u70, u71, u72, u73, u74, u75, u76, u77, .bool true, .bool false, undef, undef, undef, .int IntKind.i64 (k2 : Int), .slice (some ⟨mb, moff, none⟩) m mc, .int IntKind.i64 (m : Int), .bool true, u87, u88, .int IntKind.i64 (k2 : Int), .slice (some ⟨lb, loff, none⟩) kk lc, .int IntKind.i64 (kk : Int), .bool true, .bool true, .int IntKind.i64 (k2 : Int), .slice (some ⟨bb, boff, none⟩) bs.length bc, .int IntKind.i64 (bs.length : Int), .bool (decide (bs.length ≤ k2)), .bool (decide (bs.length ≤ k2)), .slice (some ⟨bb, boff, none⟩) bs.length bc, .int IntKind.i64 (k2 : Int), .pointer (some ⟨bb, boff + k2 * 2, none⟩), .pointer (some ⟨bb, boff + k2 * 2, none⟩), .int IntKind.i64 (gK bs k2).head, .bool true, .bool true, .bool true, .slice (some ⟨lb, loff, none⟩) kk lc, .int IntKind.i64 (k2 : Int), .pointer (some ⟨lb, loff + k2, none⟩), .int IntKind.i64 ↑(T.times (-(k2 : Int) - 1) t), .int IntKind.i64 (ii : Int), .slice (some ⟨lb, loff, none⟩) kk lc, .int IntKind.i64 (kk : Int), .bool true, .bool true, .int IntKind.i64 (ii : Int), .slice (some ⟨bb, boff, none⟩) bs.length bc, .int IntKind.i64 (bs.length : Int), .bool true, .bool true, u121, u122, .slice (some ⟨bb, boff, none⟩) bs.length bc, .int IntKind.i64 (ii : Int), .pointer (some ⟨bb, boff + ii * 2, none⟩), .pointer (some ⟨bb, boff + ii * 2, none⟩), .int IntKind.i64 (gK bs ii).head, .bool true, s129, s130, s131, s132, s133, s134, s135, s136, s137, s138, s139, s140, s141, s142, s143, u144, u145, u146, u147, u148, u149], defers := [] } ∧ TimesR wx lb loff kk lc bb boff bs.length bc ii k2 sv C Q (.agg #[.int .i64 (gK bs ii).head, .slice bk (gK bs ii).kids.length ((gK bs ii).kids.length + bsp)]) (L 0) (L 1) (L 2) (L 3) (L 4) (L 5) (L 6) (L 7) (L 8) (L 9) (L 10) (L 11) (L 12) (L 13) (L 14) (L 15) s129 s130 s131 s132 s133 s134 s135 s136 s137 s138 s139 s140 s141 s142 s143 s14 W) ?h0 ?step ?fin
                              case h0 =>
                                refine ⟨_, _, _, _, _, _, _, _, _, _, _, _, _, _, _, _, rfl, ⟨(Below.refl _ _).drew, ?_, ?_, ?_, ?_, ?_, ?_, ?_, ?_, ?_, ?_, ?_, ?_, ?_, ?_, ?_, ?_, fun _ => rfl, fun h => by cases h⟩⟩
                                all_goals (intro h; cases h)
                              case step =>
                                rintro L a W i o ho ⟨s129, s130, s131, s132, s133, s134, s135, s136, s137, s138, s139, s140, s141, s142, s143, s14, rfl, hM⟩ hLi hdep K hK
                                have hi : i < 16 := by
                                  have := (Array.getElem?_eq_some_iff.1 ho).1
                                  simpa using this
                                rcases (show i = 0 ∨ i = 1 ∨ i = 2 ∨ i = 3 ∨ i = 4 ∨ i = 5 ∨ i = 6 ∨ i = 7 ∨ i = 8 ∨ i = 9 ∨ i = 10 ∨ i = 11 ∨ i = 12 ∨ i = 13 ∨ i = 14 ∨ i = 15 by omega) with rfl | rfl | rfl | rfl | rfl | rfl | rfl | rfl | rfl | rfl | rfl | rfl | rfl | rfl | rfl | rfl
                                all_goals
                                  simp only [List.getElem?_toArray, List.getElem?_cons_succ, List.getElem?_cons_zero, Option.some.injEq] at ho
                                  subst ho
                                  simp [Region.binds] at hdep
                                · obtain rfl := hM.k0 (by
                                    cases h15 : L 15 with
                                    | false => rfl
                                    | true => have := hM.k1 h15; rw [hLi] at this; cases this)
                                  have HM := Lib.hid hM
                                  clear hM hdep hLi
                                  go_simp
                                  refine hK _ _ ?_
                                  exact ⟨_, s130, s131, s132, s133, s134, s135, s136, s137, s138, s139, s140, s141, s142, s143, _, rfl, { HM.out with l0 := fun _ => rfl, k0 := fun _ => rfl, k1 := fun _ => rfl }⟩
                                · have HM := Lib.hid hM
                                  clear hM hdep hLi
                                  go_simp
                                  refine hK _ _ ?_
                                  exact ⟨s129, _, s131, s132, s133, s134, s135, s136, s137, s138, s139, s140, s141, s142, s143, s14, rfl, { HM.out with l1 := fun _ => rfl }⟩
                                · have HM := Lib.hid hM
                                  clear hM hdep hLi
                                  go_simp
                                  refine hK _ _ ?_
                                  exact ⟨s129, s130, _, s132, s133, s134, s135, s136, s137, s138, s139, s140, s141, s142, s143, s14, rfl, { HM.out with l2 := fun _ => rfl }⟩
                                · obtain rfl := hM.l1 (by first | exact hdep | simp [hdep])
                                  obtain rfl := hM.l2 (by first | exact hdep | simp [hdep])
                                  have HM := Lib.hid hM
                                  clear hM hdep hLi
                                  go_simp
                                  refine hK _ _ ?_
                                  exact ⟨s129, _, _, _, s133, s134, s135, s136, s137, s138, s139, s140, s141, s142, s143, s14, rfl, { HM.out with l3 := fun _ => rfl }⟩
                                · obtain rfl := hM.l3 (by first | exact hdep | simp [hdep])
                                  have HM := Lib.hid hM
                                  have z0 := Below.cellOf HM.out.bel c0
                                  clear hM hdep hLi
                                  go_simp
                                  refine hK _ _ ?_
                                  exact ⟨s129, s130, s131, _, _, s134, s135, s136, s137, s138, s139, s140, s141, s142, s143, s14, rfl, { HM.out with l4 := fun _ => rfl }⟩
                                · have HM := Lib.hid hM
                                  clear hM hdep hLi
                                  go_simp
                                  refine hK _ _ ?_
                                  exact ⟨s129, s130, s131, s132, s133, _, s135, s136, s137, s138, s139, s140, s141, s142, s143, s14, rfl, { HM.out with l5 := fun _ => rfl }⟩
                                · have HM := Lib.hid hM
                                  clear hM hdep hLi
                                  go_simp
                                  refine hK _ _ ?_
                                  exact ⟨s129, s130, s131, s132, s133, s134, _, s136, s137, s138, s139, s140, s141, s142, s143, s14, rfl, { HM.out with l6 := fun _ => rfl }⟩
                                · obtain rfl := hM.l5 (by first | exact hdep | simp [hdep])
                                  obtain rfl := hM.l6 (by first | exact hdep | simp [hdep])
                                  have HM := Lib.hid hM
                                  clear hM hdep hLi
                                  go_simp
                                  refine hK _ _ ?_
                                  exact ⟨s129, s130, s131, s132, s133, _, _, _, s137, s138, s139, s140, s141, s142, s143, s14, rfl, { HM.out with l7 := fun _ => rfl }⟩
                                · obtain rfl := hM.l7 (by first | exact hdep | simp [hdep])
                                  have HM := Lib.hid hM
                                  have z1 := Below.cellOf HM.out.bel d1
                                  have z2 := Below.cellOf HM.out.bel d2
                                  clear hM hdep hLi
                                  go_simp
                                  refine hK _ _ ?_
                                  exact ⟨s129, s130, s131, s132, s133, s134, s135, _, _, s138, s139, s140, s141, s142, s143, s14, rfl, { HM.out with l8 := fun _ => rfl }⟩
                                · have HM := Lib.hid hM
                                  clear hM hdep hLi
                                  go_simp
                                  refine hK _ _ ?_
                                  exact ⟨s129, s130, s131, s132, s133, s134, s135, s136, s137, _, s139, s140, s141, s142, s143, s14, rfl, { HM.out with l9 := fun _ => rfl }⟩
                                · obtain rfl := hM.l9 (by first | exact hdep | simp [hdep])
                                  have HM := Lib.hid hM
                                  clear hM hdep hLi
                                  go_simp
                                  refine hK _ _ ?_
                                  exact ⟨s129, s130, s131, s132, s133, s134, s135, s136, s137, _, _, s140, s141, s142, s143, s14, rfl, { HM.out with l10 := fun _ => rfl }⟩
                                · obtain rfl := hM.l10 (by first | exact hdep | simp [hdep])
                                  have HM := Lib.hid hM
                                  clear hM hdep hLi
                                  go_simp
                                  refine hK _ _ ?_
                                  exact ⟨s129, s130, s131, s132, s133, s134, s135, s136, s137, s138, _, _, s141, s142, s143, s14, rfl, { HM.out with l11 := fun _ => rfl }⟩
                                · obtain rfl := hM.l8 (by first | exact hdep | simp [hdep])
                                  obtain rfl := hM.l11 (by first | exact hdep | simp [hdep])
                                  have HM := Lib.hid hM
                                  clear hM hdep hLi
                                  go_simp
                                  refine (times31 (-(k2 : Int) - 1) (gK bs ii) _ W hs40 (HD3.out.kept HM.out.bel)).mono ?_
                                  rintro e W' ⟨rfl, hb⟩
                                  rw [hQ]
                                  refine hK _ _ ?_
                                  exact ⟨s129, s130, s131, s132, s133, s134, s135, s136, _, s138, s139, _, _, s142, s143, s14, rfl, { HM.out.mono hb with l12 := fun _ => rfl }⟩
                                · obtain rfl := hM.l4 (by first | exact hdep | simp [hdep])
                                  obtain rfl := hM.l12 (by first | exact hdep | simp [hdep])
                                  have HM := Lib.hid hM
                                  clear hM hdep hLi
                                  go_simp
                                  refine hK _ _ ?_
                                  exact ⟨s129, s130, s131, s132, _, s134, s135, s136, s137, s138, s139, s140, _, _, s143, s14, rfl, { HM.out with l13 := fun _ => rfl }⟩
                                · obtain rfl := hM.l0 (by first | exact hdep | simp [hdep])
                                  obtain rfl := hM.l13 (by first | exact hdep | simp [hdep])
                                  have HM := Lib.hid hM
                                  clear hM hdep hLi
                                  go_simp
                                  refine hK _ _ ?_
                                  exact ⟨_, s130, s131, s132, s133, s134, s135, s136, s137, s138, s139, s140, s141, _, _, s14, rfl, { HM.out with l14 := fun _ => rfl }⟩
                                · obtain rfl := hM.l14 (by first | exact hdep | simp [hdep])
                                  have HL0 := Lib.hid (show L 0 = true by simp [hdep])
                                  have HM := Lib.hid hM
                                  clear hM hdep hLi
                                  go_simp
                                  refine hK _ _ ?_
                                  exact ⟨s129, s130, s131, s132, s133, s134, s135, s136, s137, s138, s139, s140, s141, s142, _, _, rfl, { HM.out with l15 := fun _ => rfl, k0 := (fun h => by cases h), k1 := fun _ => HL0.out }⟩
                              case fin =>
                                rintro L a W hall ⟨s129, s130, s131, s132, s133, s134, s135, s136, s137, s138, s139, s140, s141, s142, s143, s14, rfl, hM⟩
                                obtain rfl := hM.l0 (hall 0 (by decide))
                                obtain rfl := hM.l1 (hall 1 (by decide))
                                obtain rfl := hM.l2 (hall 2 (by decide))
                                obtain rfl := hM.l3 (hall 3 (by decide))
                                obtain rfl := hM.l4 (hall 4 (by decide))
                                obtain rfl := hM.l5 (hall 5 (by decide))
                                obtain rfl := hM.l6 (hall 6 (by decide))
                                obtain rfl := hM.l7 (hall 7 (by decide))
                                obtain rfl := hM.l8 (hall 8 (by decide))
                                obtain rfl := hM.l9 (hall 9 (by decide))
                                obtain rfl := hM.l10 (hall 10 (by decide))
                                obtain rfl := hM.l11 (hall 11 (by decide))
                                obtain rfl := hM.l12 (hall 12 (by decide))
                                obtain rfl := hM.l13 (hall 13 (by decide))
                                obtain rfl := hM.l14 (hall 14 (by decide))
                                obtain rfl := hM.l15 (hall 15 (by decide))
                                have hbel := hM.bel
                                clear hM hall
                                go_wp2_with fail
                                go_roundw
                                case rel => exact ⟨ii + 1, sv + C * Q, by omega, by omega, by push_cast; rfl, by go_num, by rw [HST.out, HBD.out, HSV.out, if_pos rfl]; omega, Below.trans (hbx.mono (Nat.le_refl _)) (hbel.mono hbx.size)⟩
                                case measure => simp [intOf] <;> omega
                            | false =>
                              have HBD := Lib.hid (show boundB bs ii = false by rw [boundB, decide_eq_true h2, hne]; rfl)
                              go_wp2_with fail
                              go_roundw
                              case rel => exact ⟨ii + 1, sv, by omega, by omega, rfl, by go_num, by rw [HST.out, HBD.out, HSV.out]; simp, hbx⟩
                              case measure => simp [intOf] <;> omega
                          · have h2' : ¬ (ii : Int) < (bs.length : Int) := by omega
                            have heq : S.times (-(k2 : Int) - 1) = sv := by
                              rw [HSE.out, times_sub bs k2 bs.length (Nat.le_refl _) t HOK.out.2.2, ← HBE.out, HSV.out, bsum_more (n := ii) hi2 (fun i q1 q2 _ => times_most (by have := HN.out; omega))]
                            have m0 := Below.cellOf hbx HM0.out
                            rw [heq] at m0
                            go_wp2_with fail
                            go_roundw
                            case rel => exact ⟨k2 + 1, by omega, by go_num, HBVX.out⟩
                            case measure => simp [intOf] <;> omega
                        · have h1' : ¬ (ii : Int) < (kk : Int) := by omega
                          have heq : S.times (-(k2 : Int) - 1) = sv := by
                            rw [HSE.out, times_sub bs k2 bs.length (Nat.le_refl _) t HOK.out.2.2, ← HBE.out, HSV.out, bsum_more (n := ii) hi2 (fun i q1 q2 _ => times_most (by have := HN.out; omega))]
                          have m0 := Below.cellOf hbx HM0.out
                          rw [heq] at m0
                          go_wp2_with fail
                          go_roundw
                          case rel => exact ⟨k2 + 1, by omega, by go_num, HBVX.out⟩
                          case measure => simp [intOf] <;> omega
                    | false =>
                      have HB0 := Lib.hid (show B0 = 0 by rw [HBE.out, if_pos]; simp [boundB, hml, bne, hne])
                      have hml3 : ¬ bs.length ≤ k2 := by omega
                      go_wp2_with fail
                      go_loopw [14, 15] (fun q i wx => ∃ (ii : Nat) (sv : Nat), ii ≤ kk ∧ ii ≤ bs.length ∧ q = .int .i64 sv ∧ i = .int .i64 ii ∧ sv = B0 + bsum (fun i => t.times (-(i : Int) - 1)) bs (-(k2 : Int) - 1) ii ∧ Below wv.heap.size wv wx) (fun _ i _ => kk - (intOf i).toNat)
                      case atStart => exact ⟨0, 0, by omega, by omega, rfl, rfl, by rw [HB0.out]; rfl, Below.refl _ _⟩
                      case round =>
                        obtain ⟨ii, sv, hi1, hi2, rfl, rfl, hsv, hbx⟩ := hrel
                        obtain ⟨wx, hwx⟩ : ∃ W : World, W = wr := ⟨_, rfl⟩
                        subst hwx
                        have hb8 := bsum_le (fun i => t.times (-(i : Int) - 1)) bs (-(k2 : Int) - 1) ii (fun i _ => HT40.out _) (fun i _ hi => HB40.out _ i hi)
                        have hsvle : sv ≤ 20000 := by have := HT40.out (-(k2 : Int) - 1); have hB := HBE.out; split at hB <;> omega
                        have HSV := Lib.hid hsv
                        have HBX := Lib.hid hbx
                        have HBVX := Lib.hid (Below.step HBV.out hbx)
                        clear hsv hb8
                        by_cases h1 : ii < kk
                        · have h1' : (ii : Int) < (kk : Int) := by omega
                          by_cases h2 : ii < bs.length
                          · have h2' : (ii : Int) < (bs.length : Int) := by omega
                            obtain ⟨lb', loff', hlo, c0⟩ := (HCL.out.below HBVX.out).get h1
                            rw [show gI (countsOf t) ii = ((t.times (-(ii : Int) - 1) : Nat) : Int) by simp [gI, countsOf, ← HN.out, h1]] at c0
                            obtain ⟨bb', boff', bk, bsp, hbo, d1, d2, d3⟩ := (HRB.out.below HBVX.out) ii h2
                            obtain ⟨rfl, rfl⟩ : lb = lb' ∧ loff = loff' := by simpa using hlo
                            obtain ⟨rfl, rfl⟩ : bb = bb' ∧ boff = boff' := by simpa using hbo
                            have HST := Lib.hid (show bsum (fun i => t.times (-(i : Int) - 1)) bs (-(k2 : Int) - 1) (ii + 1) = bsum (fun i => t.times (-(i : Int) - 1)) bs (-(k2 : Int) - 1) ii + if boundB bs ii = true then t.times (-(ii : Int) - 1) * (gK bs ii).times (-(k2 : Int) - 1) else 0 from rfl)
                            cases hne : ((gK bs ii).head != 0) with
                            | true =>
                              have HBD := Lib.hid (show boundB bs ii = true by rw [boundB, decide_eq_true h2, hne]; rfl)
                              have hC40 := HT40.out (-(ii : Int) - 1)
                              have hQ40 := HB40.out (-(k2 : Int) - 1) ii HBD.out
                              have hs40 : (gK bs ii).size ≤ 1000000000 := by have := bind_size HD.out.2.2.1 ii h2; omega
                              go_wp2_with fail
                              have HD3 := Lib.hid d3
                              clear d3
                              generalize t.times (-(ii : Int) - 1) = C at c0 hC40 HST ⊢
                              obtain ⟨Q, hQ⟩ : ∃ Q, (gK bs ii).times (-(k2 : Int) - 1) = Q := ⟨_, rfl⟩
                              rw [hQ] at hQ40 HST
                              have hCQ : (C : Int) * (Q : Int) ≤ 1600 ∧ 0 ≤ (C : Int) * (Q : Int) := by
                                have := Nat.mul_le_mul hC40 hQ40
                                constructor
                                · exact_mod_cast this
                                · exact Int.mul_nonneg (by omega) (by omega)
                              have hw10 : IntKind.i64.wrap (-(k2 : Int)) = -(k2 : Int) := IntWalk.i64_in _ (by omega)
                              have hw11 : IntKind.i64.wrap (-(k2 : Int) - 1) = -(k2 : Int) - 1 := IntWalk.i64_in _ (by omega)
                              have hw13 : IntKind.i64.wrap ((C : Int) * (Q : Int)) = (C : Int) * (Q : Int) := IntWalk.i64_in _ (by omega)
                              have hw14 : IntKind.i64.wrap ((sv : Int) + (C : Int) * (Q : Int)) = (sv : Int) + (C : Int) * (Q : Int) := IntWalk.i64_in _ (by omega)
                              refine wp_region_inv (by kernel_rfl) (by kernel_rfl) (fun L a W => ∃ s129 s130 s131 s132 s133 s134 s135 s136 s137 s138 s139 s140 s141 s142 s143 s14 : Value, a = { tmps := #[.agg #[Value.int IntKind.i64 t.head, Value.slice k t.kids.length (t.kids.length + sp)], .slice (some ⟨bb, boff, none⟩) bs.length bc, .pointer (some ⟨w.heap.size, 0, none⟩), undef, u4, .bool true, .slice (some ⟨lb, loff, none⟩) kk lc, .pointer (some ⟨b7, 0, none⟩), .pointer (some ⟨b8, 0, none⟩), .pointer (some ⟨b8 + 1, 0, none⟩), .slice (some ⟨mb, moff, none⟩) m mc, .bool true, .int IntKind.i64 (kk : Int), .int IntKind.i64 (k2 : Int), s14, .int IntKind.i64 (ii : Int), .bool true, .bool true, .bool false, .tuple #[Value.slice (some ⟨lb, loff, none⟩) kk lc, Value.agg #[Value.int IntKind.i64 0, Value.int IntKind.i64 0]], .agg #[Value.int IntKind.i64 t.head, Value.slice k t.kids.length (t.kids.length + sp)], .tuple #[Value.slice (some ⟨lb, loff, none⟩) kk lc, Value.agg #[Value.int IntKind.i64 0, Value.int IntKind.i64 0]], .slice (some ⟨lb, loff, none⟩) kk lc, .agg #[Value.int IntKind.i64 0, Value.int IntKind.i64 0], .tuple #[Value.agg #[Value.int IntKind.i64 S.head, Value.slice uk S.kids.length (S.kids.length + usp)], Value.agg #[Value.int IntKind.i64 gc, Value.int IntKind.i64 ga]], .agg #[Value.int IntKind.i64 t.head, Value.slice k t.kids.length (t.kids.length + sp)], .slice (some ⟨bb, boff, none⟩) bs.length bc, .tuple #[Value.agg #[Value.int IntKind.i64 S.head, Value.slice uk S.kids.length (S.kids.length + usp)], Value.agg #[Value.int IntKind.i64 gc, Value.int IntKind.i64 ga]], .agg #[Value.int IntKind.i64 S.head, Value.slice uk S.kids.length (S.kids.length + usp)], .agg #[Value.int IntKind.i64 gc, Value.int IntKind.i64 ga], .pointer (some ⟨b7, 0, none⟩), .int IntKind.i64 0, .bool false, .bool false, .pointer (some ⟨b8 + 1, 0, none⟩), .int IntKind.i64 gc, .bool false, .bool false, undef, undef, undef, undef, undef, undef, undef, .tuple #[Value.slice (some ⟨mb, moff, none⟩) m mc, Value.agg #[Value.int IntKind.i64 0, Value.int IntKind.i64 0]], .agg #[Value.int IntKind.i64 S.head, Value.slice uk S.kids.length (S.kids.length + usp)], .tuple #[Value.slice (some ⟨mb, moff, none⟩) m mc, Value.agg #[Value.int IntKind.i64 0, Value.int IntKind.i64 0]], .slice (some ⟨mb, moff, none⟩) m mc, .agg #[Value.int IntKind.i64 0, Value.int IntKind.i64 0], .pointer (some ⟨b7, 0, none⟩), .int IntKind.i64 0, .bool false, .int IntKind.i64 (kk : Int), .slice (some ⟨lb, loff, none⟩) kk lc, .int IntKind.i64 (kk : Int), .bool false, u57, u58, u59, u60, u61, u62, u63, u64, u65, u66, u67, u68, u69, u70, u71, u72, u73, u74, u75, u76, u77, .bool true, .bool false, undef, undef, undef, .int IntKind.i64 (k2 : Int), .slice (some ⟨mb, moff, none⟩) m mc, .int IntKind.i64 (m : Int), .bool true, u87, u88, .int IntKind.i64 (k2 : Int), .slice (some ⟨lb, loff, none⟩) kk lc, .int IntKind.i64 (kk : Int), .bool true, .bool true, .int IntKind.i64 (k2 : Int), .slice (some ⟨bb, boff, none⟩) bs.length bc, .int IntKind.i64 (bs.length : Int), .bool false, .bool false, .slice (some ⟨bb, boff, none⟩) bs.length bc, .int IntKind.i64 (k2 : Int), .pointer (some ⟨bb, boff + k2 * 2, none⟩), .pointer (some ⟨bb, boff + k2 * 2, none⟩), .int IntKind.i64 (gK bs k2).head, .bool false, .bool false, .bool false, u107, u108, u109, u110, .int IntKind.i64 (ii : Int), .slice (some ⟨lb, loff, none⟩) kk lc, .int IntKind.i64 (kk : Int), .bool true, .bool true, .int IntKind.i64 (ii : Int), .slice (some ⟨bb, boff, none⟩) bs.length bc, .int IntKind.i64 (bs.length : Int), .bool true, .bool true, u121, u122, .slice (some ⟨bb, boff, none⟩) bs.length bc, .int IntKind.i64 (ii : Int), .pointer (some ⟨bb, boff + ii * 2, none⟩), .pointer (some ⟨bb, boff + ii * 2, none⟩), .int IntKind.i64 (gK bs ii).head, .bool true, s129, s130, s131, s132, s133, s134, s135, s136, s137, s138, s139, s140, s141, s142, s143, u144, u145, u146, u147, u148, u149], defers := [] } ∧ TimesR wx lb loff kk lc bb boff bs.length bc ii k2 sv C Q (.agg #[.int .i64 (gK bs ii).head, .slice bk (gK bs ii).kids.length ((gK bs ii).kids.length + bsp)]) (L 0) (L 1) (L 2) (L 3) (L 4) (L 5) (L 6) (L 7) (L 8) (L 9) (L 10) (L 11) (L 12) (L 13) (L 14) (L 15) s129 s130 s131 s132 s133 s134 s135 s136 s137 s138 s139 s140 s141 s142 s143 s14 W) ?h0 ?step ?fin
                              case h0 =>
                                refine ⟨_, _, _, _, _, _, _, _, _, _, _, _, _, _, _, _, rfl, ⟨(Below.refl _ _).drew, ?_, ?_, ?_, ?_, ?_, ?_, ?_, ?_, ?_, ?_, ?_, ?_, ?_, ?_, ?_, ?_, fun _ => rfl, fun h => by cases h⟩⟩
                                all_goals (intro h; cases h)
                              case step =>
                                rintro L a W i o ho ⟨s129, s130, s131, s132, s133, s134, s135, s136, s137, s138, s139, s140, s141, s142, s143, s14, rfl, hM⟩ hLi hdep K hK
                                have hi : i < 16 := by
                                  have := (Array.getElem?_eq_some_iff.1 ho).1
                                  simpa using this
                                rcases (show i = 0 ∨ i = 1 ∨ i = 2 ∨ i = 3 ∨ i = 4 ∨ i = 5 ∨ i = 6 ∨ i = 7 ∨ i = 8 ∨ i = 9 ∨ i = 10 ∨ i = 11 ∨ i = 12 ∨ i = 13 ∨ i = 14 ∨ i = 15 by omega) with rfl | rfl | rfl | rfl | rfl | rfl | rfl | rfl | rfl | rfl | rfl | rfl | rfl | rfl | rfl | rfl
                                all_goals
                                  simp only [List.getElem?_toArray, List.getElem?_cons_succ, List.getElem?_cons_zero, Option.some.injEq] at ho
                                  subst ho
                                  simp [Region.binds] at hdep
                                · obtain rfl := hM.k0 (by
                                    cases h15 : L 15 with
                                    | false => rfl
                                    | true => have := hM.k1 h15; rw [hLi] at this; cases this)
                                  have HM := Lib.hid hM
                                  clear hM hdep hLi
                                  go_simp
                                  refine hK _ _ ?_
                                  exact ⟨_, s130, s131, s132, s133, s134, s135, s136, s137, s138, s139, s140, s141, s142, s143, _, rfl, { HM.out with l0 := fun _ => rfl, k0 := fun _ => rfl, k1 := fun _ => rfl }⟩
                                · have HM := Lib.hid hM
                                  clear hM hdep hLi
                                  go_simp
                                  refine hK _ _ ?_
                                  exact ⟨s129, _, s131, s132, s133, s134, s135, s136, s137, s138, s139, s140, s141, s142, s143, s14, rfl, { HM.out with l1 := fun _ => rfl }⟩
                                · have HM := Lib.hid hM
                                  clear hM hdep hLi
                                  go_simp
                                  refine hK _ _ ?_
                                  exact ⟨s129, s130, _, s132, s133, s134, s135, s136, s137, s138, s139, s140, s141, s142, s143, s14, rfl, { HM.out with l2 := fun _ => rfl }⟩
                                · obtain rfl := hM.l1 (by first | exact hdep | simp [hdep])
                                  obtain rfl := hM.l2 (by first | exact hdep | simp [hdep])
                                  have HM := Lib.hid hM
                                  clear hM hdep hLi
                                  go_simp
                                  refine hK _ _ ?_
                                  exact ⟨s129, _, _, _, s133, s134, s135, s136, s137, s138, s139, s140, s141, s142, s143, s14, rfl, { HM.out with l3 := fun _ => rfl }⟩
                                · obtain rfl := hM.l3 (by first | exact hdep | simp [hdep])
                                  have HM := Lib.hid hM
                                  have z0 := Below.cellOf HM.out.bel c0
                                  clear hM hdep hLi
                                  go_simp
                                  refine hK _ _ ?_
                                  exact ⟨s129, s130, s131, _, _, s134, s135, s136, s137, s138, s139, s140, s141, s142, s143, s14, rfl, { HM.out with l4 := fun _ => rfl }⟩
                                · have HM := Lib.hid hM
                                  clear hM hdep hLi
                                  go_simp
                                  refine hK _ _ ?_
                                  exact ⟨s129, s130, s131, s132, s133, _, s135, s136, s137, s138, s139, s140, s141, s142, s143, s14, rfl, { HM.out with l5 := fun _ => rfl }⟩
                                · have HM := Lib.hid hM
                                  clear hM hdep hLi
                                  go_simp
                                  refine hK _ _ ?_
                                  exact ⟨s129, s130, s131, s132, s133, s134, _, s136, s137, s138, s139, s140, s141, s142, s143, s14, rfl, { HM.out with l6 := fun _ => rfl }⟩
                                · obtain rfl := hM.l5 (by first | exact hdep | simp [hdep])
                                  obtain rfl := hM.l6 (by first | exact hdep | simp [hdep])
                                  have HM := Lib.hid hM
                                  clear hM hdep hLi
                                  go_simp
                                  refine hK _ _ ?_
                                  exact ⟨s129, s130, s131, s132, s133, _, _, _, s137, s138, s139, s140, s141, s142, s143, s14, rfl, { HM.out with l7 := fun _ => rfl }⟩
                                · obtain rfl := hM.l7 (by first | exact hdep | simp [hdep])
                                  have HM := Lib.hid hM
                                  have z1 := Below.cellOf HM.out.bel d1
                                  have z2 := Below.cellOf HM.out.bel d2
                                  clear hM hdep hLi
                                  go_simp
                                  refine hK _ _ ?_
                                  exact ⟨s129, s130, s131, s132, s133, s134, s135, _, _, s138, s139, s140, s141, s142, s143, s14, rfl, { HM.out with l8 := fun _ => rfl }⟩
                                · have HM := Lib.hid hM
                                  clear hM hdep hLi
                                  go_simp
                                  refine hK _ _ ?_
                                  exact ⟨s129, s130, s131, s132, s133, s134, s135, s136, s137, _, s139, s140, s141, s142, s143, s14, rfl, { HM.out with l9 := fun _ => rfl }⟩
                                · obtain rfl := hM.l9 (by first | exact hdep | simp [hdep])
                                  have HM := Lib.hid hM
                                  clear hM hdep hLi
                                  go_simp
                                  refine hK _ _ ?_
                                  exact ⟨s129, s130, s131, s132, s133, s134, s135, s136, s137, _, _, s140, s141, s142, s143, s14, rfl, { HM.out with l10 := fun _ => rfl }⟩
                                · obtain rfl := hM.l10 (by first | exact hdep | simp [hdep])
                                  have HM := Lib.hid hM
                                  clear hM hdep hLi
                                  go_simp
                                  refine hK _ _ ?_
                                  exact ⟨s129, s130, s131, s132, s133, s134, s135, s136, s137, s138, _, _, s141, s142, s143, s14, rfl, { HM.out with l11 := fun _ => rfl }⟩
                                · obtain rfl := hM.l8 (by first | exact hdep | simp [hdep])
                                  obtain rfl := hM.l11 (by first | exact hdep | simp [hdep])
                                  have HM := Lib.hid hM
                                  clear hM hdep hLi
                                  go_simp
                                  refine (times31 (-(k2 : Int) - 1) (gK bs ii) _ W hs40 (HD3.out.kept HM.out.bel)).mono ?_
                                  rintro e W' ⟨rfl, hb⟩
                                  rw [hQ]
                                  refine hK _ _ ?_
                                  exact ⟨s129, s130, s131, s132, s133, s134, s135, s136, _, s138, s139, _, _, s142, s143, s14, rfl, { HM.out.mono hb with l12 := fun _ => rfl }⟩
                                · obtain rfl := hM.l4 (by first | exact hdep | simp [hdep])
                                  obtain rfl := hM.l12 (by first | exact hdep | simp [hdep])
                                  have HM := Lib.hid hM
                                  clear hM hdep hLi
                                  go_simp
                                  refine hK _ _ ?_
                                  exact ⟨s129, s130, s131, s132, _, s134, s135, s136, s137, s138, s139, s140, _, _, s143, s14, rfl, { HM.out with l13 := fun _ => rfl }⟩
                                · obtain rfl := hM.l0 (by first | exact hdep | simp [hdep])
                                  obtain rfl := hM.l13 (by first | exact hdep | simp [hdep])
                                  have HM := Lib.hid hM
                                  clear hM hdep hLi
                                  go_simp
                                  refine hK _ _ ?_
                                  exact ⟨_, s130, s131, s132, s133, s134, s135, s136, s137, s138, s139, s140, s141, _, _, s14, rfl, { HM.out with l14 := fun _ => rfl }⟩
                                · obtain rfl := hM.l14 (by first | exact hdep | simp [hdep])
                                  have HL0 := Lib.hid (show L 0 = true by simp [hdep])
                                  have HM := Lib.hid hM
                                  clear hM hdep hLi
                                  go_simp
                                  refine hK _ _ ?_
                                  exact ⟨s129, s130, s131, s132, s133, s134, s135, s136, s137, s138, s139, s140, s141, s142, _, _, rfl, { HM.out with l15 := fun _ => rfl, k0 := (fun h => by cases h), k1 := fun _ => HL0.out }⟩
                              case fin =>
                                rintro L a W hall ⟨s129, s130, s131, s132, s133, s134, s135, s136, s137, s138, s139, s140, s141, s142, s143, s14, rfl, hM⟩
                                obtain rfl := hM.l0 (hall 0 (by decide))
                                obtain rfl := hM.l1 (hall 1 (by decide))
                                obtain rfl := hM.l2 (hall 2 (by decide))
                                obtain rfl := hM.l3 (hall 3 (by decide))
                                obtain rfl := hM.l4 (hall 4 (by decide))
                                obtain rfl := hM.l5 (hall 5 (by decide))
                                obtain rfl := hM.l6 (hall 6 (by decide))
                                obtain rfl := hM.l7 (hall 7 (by decide))
                                obtain rfl := hM.l8 (hall 8 (by decide))
                                obtain rfl := hM.l9 (hall 9 (by decide))
                                obtain rfl := hM.l10 (hall 10 (by decide))
                                obtain rfl := hM.l11 (hall 11 (by decide))
                                obtain rfl := hM.l12 (hall 12 (by decide))
                                obtain rfl := hM.l13 (hall 13 (by decide))
                                obtain rfl := hM.l14 (hall 14 (by decide))
                                obtain rfl := hM.l15 (hall 15 (by decide))
                                have hbel := hM.bel
                                clear hM hall
                                go_wp2_with fail
                                go_roundw
                                case rel => exact ⟨ii + 1, sv + C * Q, by omega, by omega, by push_cast; rfl, by go_num, by rw [HST.out, HBD.out, HSV.out, if_pos rfl]; omega, Below.trans (hbx.mono (Nat.le_refl _)) (hbel.mono hbx.size)⟩
                                case measure => simp [intOf] <;> omega
                            | false =>
                              have HBD := Lib.hid (show boundB bs ii = false by rw [boundB, decide_eq_true h2, hne]; rfl)
                              go_wp2_with fail
                              go_roundw
                              case rel => exact ⟨ii + 1, sv, by omega, by omega, rfl, by go_num, by rw [HST.out, HBD.out, HSV.out]; simp, hbx⟩
                              case measure => simp [intOf] <;> omega
                          · have h2' : ¬ (ii : Int) < (bs.length : Int) := by omega
                            have heq : S.times (-(k2 : Int) - 1) = sv := by
                              rw [HSE.out, times_sub bs k2 bs.length (Nat.le_refl _) t HOK.out.2.2, ← HBE.out, HSV.out, bsum_more (n := ii) hi2 (fun i q1 q2 _ => times_most (by have := HN.out; omega))]
                            have m0 := Below.cellOf hbx HM0.out
                            rw [heq] at m0
                            go_wp2_with fail
                            go_roundw
                            case rel => exact ⟨k2 + 1, by omega, by go_num, HBVX.out⟩
                            case measure => simp [intOf] <;> omega
                        · have h1' : ¬ (ii : Int) < (kk : Int) := by omega
                          have heq : S.times (-(k2 : Int) - 1) = sv := by
                            rw [HSE.out, times_sub bs k2 bs.length (Nat.le_refl _) t HOK.out.2.2, ← HBE.out, HSV.out, bsum_more (n := ii) hi2 (fun i q1 q2 _ => times_most (by have := HN.out; omega))]
                          have m0 := Below.cellOf hbx HM0.out
                          rw [heq] at m0
                          go_wp2_with fail
                          go_roundw
                          case rel => exact ⟨k2 + 1, by omega, by go_num, HBVX.out⟩
                          case measure => simp [intOf] <;> omega
                  · have hml' : ¬ (k2 : Int) < (bs.length : Int) := by omega
                    have hml2 : (bs.length : Int) ≤ (k2 : Int) := by omega
                    have HB0 := Lib.hid (show B0 = t.times (-(k2 : Int) - 1) by rw [HBE.out, if_neg]; simp [boundB, hml])
                    go_wp2_with fail
                    go_loopw [14, 15] (fun q i wx => ∃ (ii : Nat) (sv : Nat), ii ≤ kk ∧ ii ≤ bs.length ∧ q = .int .i64 sv ∧ i = .int .i64 ii ∧ sv = B0 + bsum (fun i => t.times (-(i : Int) - 1)) bs (-(k2 : Int) - 1) ii ∧ Below wv.heap.size wv wx) (fun _ i _ => kk - (intOf i).toNat)
                    case atStart => exact ⟨0, t.times (-(k2 : Int) - 1), by omega, by omega, rfl, rfl, by rw [HB0.out]; rfl, Below.refl _ _⟩
                    case round =>
                      obtain ⟨ii, sv, hi1, hi2, rfl, rfl, hsv, hbx⟩ := hrel
                      obtain ⟨wx, hwx⟩ : ∃ W : World, W = wr := ⟨_, rfl⟩
                      subst hwx
                      have hb8 := bsum_le (fun i => t.times (-(i : Int) - 1)) bs (-(k2 : Int) - 1) ii (fun i _ => HT40.out _) (fun i _ hi => HB40.out _ i hi)
                      have hsvle : sv ≤ 20000 := by have := HT40.out (-(k2 : Int) - 1); have hB := HBE.out; split at hB <;> omega
                      have HSV := Lib.hid hsv
                      have HBX := Lib.hid hbx
                      have HBVX := Lib.hid (Below.step HBV.out hbx)
                      clear hsv hb8
                      by_cases h1 : ii < kk
                      · have h1' : (ii : Int) < (kk : Int) := by omega
                        by_cases h2 : ii < bs.length
                        · have h2' : (ii : Int) < (bs.length : Int) := by omega
                          obtain ⟨lb', loff', hlo, c0⟩ := (HCL.out.below HBVX.out).get h1
                          rw [show gI (countsOf t) ii = ((t.times (-(ii : Int) - 1) : Nat) : Int) by simp [gI, countsOf, ← HN.out, h1]] at c0
                          obtain ⟨bb', boff', bk, bsp, hbo, d1, d2, d3⟩ := (HRB.out.below HBVX.out) ii h2
                          obtain ⟨rfl, rfl⟩ : lb = lb' ∧ loff = loff' := by simpa using hlo
                          subst hbo
                          obtain ⟨bb, hbb⟩ : ∃ b, b = bb' := ⟨_, rfl⟩
                          subst hbb
                          obtain ⟨boff, hbb⟩ : ∃ b, b = boff' := ⟨_, rfl⟩
                          subst hbb
                          have HST := Lib.hid (show bsum (fun i => t.times (-(i : Int) - 1)) bs (-(k2 : Int) - 1) (ii + 1) = bsum (fun i => t.times (-(i : Int) - 1)) bs (-(k2 : Int) - 1) ii + if boundB bs ii = true then t.times (-(ii : Int) - 1) * (gK bs ii).times (-(k2 : Int) - 1) else 0 from rfl)
                          cases hne : ((gK bs ii).head != 0) with
                          | true =>
                            have HBD := Lib.hid (show boundB bs ii = true by rw [boundB, decide_eq_true h2, hne]; rfl)
                            have hC40 := HT40.out (-(ii : Int) - 1)
                            have hQ40 := HB40.out (-(k2 : Int) - 1) ii HBD.out
                            have hs40 : (gK bs ii).size ≤ 1000000000 := by have := bind_size HD.out.2.2.1 ii h2; omega
                            go_wp2_with fail
                            have HD3 := Lib.hid d3
                            clear d3
                            generalize t.times (-(ii : Int) - 1) = C at c0 hC40 HST ⊢
                            obtain ⟨Q, hQ⟩ : ∃ Q, (gK bs ii).times (-(k2 : Int) - 1) = Q := ⟨_, rfl⟩
                            rw [hQ] at hQ40 HST
                            have hCQ : (C : Int) * (Q : Int) ≤ 1600 ∧ 0 ≤ (C : Int) * (Q : Int) := by
                              have := Nat.mul_le_mul hC40 hQ40
                              constructor
                              · exact_mod_cast this
                              · exact Int.mul_nonneg (by omega) (by omega)
                            have hw10 : IntKind.i64.wrap (-(k2 : Int)) = -(k2 : Int) := IntWalk.i64_in _ (by omega)
                            have hw11 : IntKind.i64.wrap (-(k2 : Int) - 1) = -(k2 : Int) - 1 := IntWalk.i64_in _ (by omega)
                            have hw13 : IntKind.i64.wrap ((C : Int) * (Q : Int)) = (C : Int) * (Q : Int) := IntWalk.i64_in _ (by omega)
                            have hw14 : IntKind.i64.wrap ((sv : Int) + (C : Int) * (Q : Int)) = (sv : Int) + (C : Int) * (Q : Int) := IntWalk.i64_in _ (by omega)
                            refine wp_region_inv (by kernel_rfl) (by kernel_rfl) (fun L a W => ∃ s129 s130 s131 s132 s133 s134 s135 s136 s137 s138 s139 s140 s141 s142 s143 s14 : Value, a = { tmps := #[.agg #[Value.int IntKind.i64 t.head, Value.slice k t.kids.length (t.kids.length + sp)], .slice (some ⟨bb, boff, none⟩) bs.length bc, .pointer (some ⟨w.heap.size, 0, none⟩), undef, u4, .bool true, .slice (some ⟨lb, loff, none⟩) kk lc, .pointer (some ⟨b7, 0, none⟩), .pointer (some ⟨b8, 0, none⟩), .pointer (some ⟨b8 + 1, 0, none⟩), .slice (some ⟨mb, moff, none⟩) m mc, .bool true, .int IntKind.i64 (kk : Int), .int IntKind.i64 (k2 : Int), s14, .int IntKind.i64 (ii : Int), .bool true, .bool true, .bool false, .tuple #[Value.slice (some ⟨lb, loff, none⟩) kk lc, Value.agg #[Value.int IntKind.i64 0, Value.int IntKind.i64 0]], .agg #[Value.int IntKind.i64 t.head, Value.slice k t.kids.length (t.kids.length + sp)], .tuple #[Value.slice (some ⟨lb, loff, none⟩) kk lc, Value.agg #[Value.int IntKind.i64 0, Value.int IntKind.i64 0]], .slice (some ⟨lb, loff, none⟩) kk lc, .agg #[Value.int IntKind.i64 0, Value.int IntKind.i64 0], .tuple #[Value.agg #[Value.int IntKind.i64 S.head, Value.slice uk S.kids.length (S.kids.length + usp)], Value.agg #[Value.int IntKind.i64 gc, Value.int IntKind.i64 ga]], .agg #[Value.int IntKind.i64 t.head, Value.slice k t.kids.length (t.kids.length + sp)], .slice (some ⟨bb, boff, none⟩) bs.length bc, .tuple #[Value.agg #[Value.int IntKind.i64 S.head, Value.slice uk S.kids.length (S.kids.length + usp)], Value.agg #[Value.int IntKind.i64 gc, Value.int IntKind.i64 ga]], .agg #[Value.int IntKind.i64 S.head, Value.slice uk S.kids.length (S.kids.length + usp)], .agg #[Value.int IntKind.i64 gc, Value.int IntKind.i64 ga], .pointer (some ⟨b7, 0, none⟩), .int IntKind.i64 0, .bool false, .bool false, .pointer (some ⟨b8 + 1, 0, none⟩), .int IntKind.i64 gc, .bool false, .bool false, undef, undef, undef, undef, undef, undef, undef, .tuple #[Value.slice (some ⟨mb, moff, none⟩) m mc, Value.agg #[Value.int IntKind.i64 0, Value.int IntKind.i64 0]], .agg #[Value.int IntKind.i64 S.head, Value.slice uk S.kids.length (S.kids.length + usp)], .tuple #[Value.slice (some ⟨mb, moff, none⟩) m mc, Value.agg #[Value.int IntKind.i64 0, Value.int IntKind.i64 0]], .slice (some ⟨mb, moff, none⟩) m mc, .agg #[Value.int IntKind.i64 0, Value.int IntKind.i64 0], .pointer (some ⟨b7, 0, none⟩), .int IntKind.i64 0, .bool false, .int IntKind.i64 (kk : Int), .slice (some ⟨lb, loff, none⟩) kk lc, .int IntKind.i64 (kk : Int), .bool false, u57, u58, u59, u60, u61, u62, u63, u64, u65, u66, u67, u68, u69, u70, u71, u72, u73, u74, u75, u76, u77, .bool true, .bool false, undef, undef, undef, .int IntKind.i64 (k2 : Int), .slice (some ⟨mb, moff, none⟩) m mc, .int IntKind.i64 (m : Int), .bool true, u87, u88, .int IntKind.i64 (k2 : Int), .slice (some ⟨lb, loff, none⟩) kk lc, .int IntKind.i64 (kk : Int), .bool true, .bool true, .int IntKind.i64 (k2 : Int), .slice (some ⟨bb, boff, none⟩) bs.length bc, .int IntKind.i64 (bs.length : Int), .bool true, .bool true, undef, undef, undef, undef, undef, undef, .bool true, .bool true, .slice (some ⟨lb, loff, none⟩) kk lc, .int IntKind.i64 (k2 : Int), .pointer (some ⟨lb, loff + k2, none⟩), .int IntKind.i64 ↑(T.times (-(k2 : Int) - 1) t), .int IntKind.i64 (ii : Int), .slice (some ⟨lb, loff, none⟩) kk lc, .int IntKind.i64 (kk : Int), .bool true, .bool true, .int IntKind.i64 (ii : Int), .slice (some ⟨bb, boff, none⟩) bs.length bc, .int IntKind.i64 (bs.length : Int), .bool true, .bool true, u121, u122, .slice (some ⟨bb, boff, none⟩) bs.length bc, .int IntKind.i64 (ii : Int), .pointer (some ⟨bb, boff + ii * 2, none⟩), .pointer (some ⟨bb, boff + ii * 2, none⟩), .int IntKind.i64 (gK bs ii).head, .bool true, s129, s130, s131, s132, s133, s134, s135, s136, s137, s138, s139, s140, s141, s142, s143, u144, u145, u146, u147, u148, u149], defers := [] } ∧ TimesR wx lb loff kk lc bb boff bs.length bc ii k2 sv C Q (.agg #[.int .i64 (gK bs ii).head, .slice bk (gK bs ii).kids.length ((gK bs ii).kids.length + bsp)]) (L 0) (L 1) (L 2) (L 3) (L 4) (L 5) (L 6) (L 7) (L 8) (L 9) (L 10) (L 11) (L 12) (L 13) (L 14) (L 15) s129 s130 s131 s132 s133 s134 s135 s136 s137 s138 s139 s140 s141 s142 s143 s14 W) ?h0 ?step ?fin
                            case h0 =>
                              refine ⟨_, _, _, _, _, _, _, _, _, _, _, _, _, _, _, _, rfl, ⟨(Below.refl _ _).drew, ?_, ?_, ?_, ?_, ?_, ?_, ?_, ?_, ?_, ?_, ?_, ?_, ?_, ?_, ?_, ?_, fun _ => rfl, fun h => by cases h⟩⟩
                              all_goals (intro h; cases h)
                            case step =>
                              rintro L a W i o ho ⟨s129, s130, s131, s132, s133, s134, s135, s136, s137, s138, s139, s140, s141, s142, s143, s14, rfl, hM⟩ hLi hdep K hK
                              have hi : i < 16 := by
                                have := (Array.getElem?_eq_some_iff.1 ho).1
                                simpa using this
                              rcases (show i = 0 ∨ i = 1 ∨ i = 2 ∨ i = 3 ∨ i = 4 ∨ i = 5 ∨ i = 6 ∨ i = 7 ∨ i = 8 ∨ i = 9 ∨ i = 10 ∨ i = 11 ∨ i = 12 ∨ i = 13 ∨ i = 14 ∨ i = 15 by omega) with rfl | rfl | rfl | rfl | rfl | rfl | rfl | rfl | rfl | rfl | rfl | rfl | rfl | rfl | rfl | rfl
                              all_goals
                                simp only [List.getElem?_toArray, List.getElem?_cons_succ, List.getElem?_cons_zero, Option.some.injEq] at ho
                                subst ho
                                simp [Region.binds] at hdep
                              · obtain rfl := hM.k0 (by
                                  cases h15 : L 15 with
                                  | false => rfl
                                  | true => have := hM.k1 h15; rw [hLi] at this; cases this)
                                have HM := Lib.hid hM
                                clear hM hdep hLi
                                go_simp
                                refine hK _ _ ?_
                                exact ⟨_, s130, s131, s132, s133, s134, s135, s136, s137, s138, s139, s140, s141, s142, s143, _, rfl, { HM.out with l0 := fun _ => rfl, k0 := fun _ => rfl, k1 := fun _ => rfl }⟩
                              · have HM := Lib.hid hM
                                clear hM hdep hLi
                                go_simp
                                refine hK _ _ ?_
                                exact ⟨s129, _, s131, s132, s133, s134, s135, s136, s137, s138, s139, s140, s141, s142, s143, s14, rfl, { HM.out with l1 := fun _ => rfl }⟩
                              · have HM := Lib.hid hM
                                clear hM hdep hLi
                                go_simp
                                refine hK _ _ ?_
                                exact ⟨s129, s130, _, s132, s133, s134, s135, s136, s137, s138, s139, s140, s141, s142, s143, s14, rfl, { HM.out with l2 := fun _ => rfl }⟩
                              · obtain rfl := hM.l1 (by first | exact hdep | simp [hdep])
                                obtain rfl := hM.l2 (by first | exact hdep | simp [hdep])
                                have HM := Lib.hid hM
                                clear hM hdep hLi
                                go_simp
                                refine hK _ _ ?_
                                exact ⟨s129, _, _, _, s133, s134, s135, s136, s137, s138, s139, s140, s141, s142, s143, s14, rfl, { HM.out with l3 := fun _ => rfl }⟩
                              · obtain rfl := hM.l3 (by first | exact hdep | simp [hdep])
                                have HM := Lib.hid hM
                                have z0 := Below.cellOf HM.out.bel c0
                                clear hM hdep hLi
                                go_simp
                                refine hK _ _ ?_
                                exact ⟨s129, s130, s131, _, _, s134, s135, s136, s137, s138, s139, s140, s141, s142, s143, s14, rfl, { HM.out with l4 := fun _ => rfl }⟩
                              · have HM := Lib.hid hM
                                clear hM hdep hLi
                                go_simp
                                refine hK _ _ ?_
                                exact ⟨s129, s130, s131, s132, s133, _, s135, s136, s137, s138, s139, s140, s141, s142, s143, s14, rfl, { HM.out with l5 := fun _ => rfl }⟩
                              · have HM := Lib.hid hM
                                clear hM hdep hLi
                                go_simp
                                refine hK _ _ ?_
                                exact ⟨s129, s130, s131, s132, s133, s134, _, s136, s137, s138, s139, s140, s141, s142, s143, s14, rfl, { HM.out with l6 := fun _ => rfl }⟩
                              · obtain rfl := hM.l5 (by first | exact hdep | simp [hdep])
                                obtain rfl := hM.l6 (by first | exact hdep | simp [hdep])
                                have HM := Lib.hid hM
                                clear hM hdep hLi
                                go_simp
                                refine hK _ _ ?_
                                exact ⟨s129, s130, s131, s132, s133, _, _, _, s137, s138, s139, s140, s141, s142, s143, s14, rfl, { HM.out with l7 := fun _ => rfl }⟩
                              · obtain rfl := hM.l7 (by first | exact hdep | simp [hdep])
                                have HM := Lib.hid hM
                                have z1 := Below.cellOf HM.out.bel d1
                                have z2 := Below.cellOf HM.out.bel d2
                                clear hM hdep hLi
                                go_simp
                                refine hK _ _ ?_
                                exact ⟨s129, s130, s131, s132, s133, s134, s135, _, _, s138, s139, s140, s141, s142, s143, s14, rfl, { HM.out with l8 := fun _ => rfl }⟩
                              · have HM := Lib.hid hM
                                clear hM hdep hLi
                                go_simp
                                refine hK _ _ ?_
                                exact ⟨s129, s130, s131, s132, s133, s134, s135, s136, s137, _, s139, s140, s141, s142, s143, s14, rfl, { HM.out with l9 := fun _ => rfl }⟩
                              · obtain rfl := hM.l9 (by first | exact hdep | simp [hdep])
                                have HM := Lib.hid hM
                                clear hM hdep hLi
                                go_simp
                                refine hK _ _ ?_
                                exact ⟨s129, s130, s131, s132, s133, s134, s135, s136, s137, _, _, s140, s141, s142, s143, s14, rfl, { HM.out with l10 := fun _ => rfl }⟩
                              · obtain rfl := hM.l10 (by first | exact hdep | simp [hdep])
                                have HM := Lib.hid hM
                                clear hM hdep hLi
                                go_simp
                                refine hK _ _ ?_
                                exact ⟨s129, s130, s131, s132, s133, s134, s135, s136, s137, s138, _, _, s141, s142, s143, s14, rfl, { HM.out with l11 := fun _ => rfl }⟩
                              · obtain rfl := hM.l8 (by first | exact hdep | simp [hdep])
                                obtain rfl := hM.l11 (by first | exact hdep | simp [hdep])
                                have HM := Lib.hid hM
                                clear hM hdep hLi
                                go_simp
                                refine (times31 (-(k2 : Int) - 1) (gK bs ii) _ W hs40 (HD3.out.kept HM.out.bel)).mono ?_
                                rintro e W' ⟨rfl, hb⟩
                                rw [hQ]
                                refine hK _ _ ?_
                                exact ⟨s129, s130, s131, s132, s133, s134, s135, s136, _, s138, s139, _, _, s142, s143, s14, rfl, { HM.out.mono hb with l12 := fun _ => rfl }⟩
                              · obtain rfl := hM.l4 (by first | exact hdep | simp [hdep])
                                obtain rfl := hM.l12 (by first | exact hdep | simp [hdep])
                                have HM := Lib.hid hM
                                clear hM hdep hLi
                                go_simp
                                refine hK _ _ ?_
                                exact ⟨s129, s130, s131, s132, _, s134, s135, s136, s137, s138, s139, s140, _, _, s143, s14, rfl, { HM.out with l13 := fun _ => rfl }⟩
                              · obtain rfl := hM.l0 (by first | exact hdep | simp [hdep])
                                obtain rfl := hM.l13 (by first | exact hdep | simp [hdep])
                                have HM := Lib.hid hM
                                clear hM hdep hLi
                                go_simp
                                refine hK _ _ ?_
                                exact ⟨_, s130, s131, s132, s133, s134, s135, s136, s137, s138, s139, s140, s141, _, _, s14, rfl, { HM.out with l14 := fun _ => rfl }⟩
                              · obtain rfl := hM.l14 (by first | exact hdep | simp [hdep])
                                have HL0 := Lib.hid (show L 0 = true by simp [hdep])
                                have HM := Lib.hid hM
                                clear hM hdep hLi
                                go_simp
                                refine hK _ _ ?_
                                exact ⟨s129, s130, s131, s132, s133, s134, s135, s136, s137, s138, s139, s140, s141, s142, _, _, rfl, { HM.out with l15 := fun _ => rfl, k0 := (fun h => by cases h), k1 := fun _ => HL0.out }⟩
                            case fin =>
                              rintro L a W hall ⟨s129, s130, s131, s132, s133, s134, s135, s136, s137, s138, s139, s140, s141, s142, s143, s14, rfl, hM⟩
                              obtain rfl := hM.l0 (hall 0 (by decide))
                              obtain rfl := hM.l1 (hall 1 (by decide))
                              obtain rfl := hM.l2 (hall 2 (by decide))
                              obtain rfl := hM.l3 (hall 3 (by decide))
                              obtain rfl := hM.l4 (hall 4 (by decide))
                              obtain rfl := hM.l5 (hall 5 (by decide))
                              obtain rfl := hM.l6 (hall 6 (by decide))
                              obtain rfl := hM.l7 (hall 7 (by decide))
                              obtain rfl := hM.l8 (hall 8 (by decide))
                              obtain rfl := hM.l9 (hall 9 (by decide))
                              obtain rfl := hM.l10 (hall 10 (by decide))
                              obtain rfl := hM.l11 (hall 11 (by decide))
                              obtain rfl := hM.l12 (hall 12 (by decide))
                              obtain rfl := hM.l13 (hall 13 (by decide))
                              obtain rfl := hM.l14 (hall 14 (by decide))
                              obtain rfl := hM.l15 (hall 15 (by decide))
                              have hbel := hM.bel
                              clear hM hall
                              go_wp2_with fail
                              go_roundw
                              case rel => exact ⟨ii + 1, sv + C * Q, by omega, by omega, by push_cast; rfl, by go_num, by rw [HST.out, HBD.out, HSV.out, if_pos rfl]; omega, Below.trans (hbx.mono (Nat.le_refl _)) (hbel.mono hbx.size)⟩
                              case measure => simp [intOf] <;> omega
                          | false =>
                            have HBD := Lib.hid (show boundB bs ii = false by rw [boundB, decide_eq_true h2, hne]; rfl)
                            go_wp2_with fail
                            go_roundw
                            case rel => exact ⟨ii + 1, sv, by omega, by omega, rfl, by go_num, by rw [HST.out, HBD.out, HSV.out]; simp, hbx⟩
                            case measure => simp [intOf] <;> omega
                        · have h2' : ¬ (ii : Int) < (bs.length : Int) := by omega
                          have heq : S.times (-(k2 : Int) - 1) = sv := by
                            rw [HSE.out, times_sub bs k2 bs.length (Nat.le_refl _) t HOK.out.2.2, ← HBE.out, HSV.out, bsum_more (n := ii) hi2 (fun i q1 q2 _ => times_most (by have := HN.out; omega))]
                          have m0 := Below.cellOf hbx HM0.out
                          rw [heq] at m0
                          go_wp2_with fail
                          go_roundw
                          case rel => exact ⟨k2 + 1, by omega, by go_num, HBVX.out⟩
                          case measure => simp [intOf] <;> omega
                      · have h1' : ¬ (ii : Int) < (kk : Int) := by omega
                        have heq : S.times (-(k2 : Int) - 1) = sv := by
                          rw [HSE.out, times_sub bs k2 bs.length (Nat.le_refl _) t HOK.out.2.2, ← HBE.out, HSV.out, bsum_more (n := ii) hi2 (fun i q1 q2 _ => times_most (by have := HN.out; omega))]
                        have m0 := Below.cellOf hbx HM0.out
                        rw [heq] at m0
                        go_wp2_with fail
                        go_roundw
                        case rel => exact ⟨k2 + 1, by omega, by go_num, HBVX.out⟩
                        case measure => simp [intOf] <;> omega
                · have hkn' : ¬ (k2 : Int) < (kk : Int) := by omega
                  have HB0 := Lib.hid (show B0 = 0 by
                    rw [HBE.out, times_most (by have := HN.out; omega)]; split <;> rfl)
                  go_wp2_with fail
                  go_loopw [14, 15] (fun q i wx => ∃ (ii : Nat) (sv : Nat), ii ≤ kk ∧ ii ≤ bs.length ∧ q = .int .i64 sv ∧ i = .int .i64 ii ∧ sv = B0 + bsum (fun i => t.times (-(i : Int) - 1)) bs (-(k2 : Int) - 1) ii ∧ Below wv.heap.size wv wx) (fun _ i _ => kk - (intOf i).toNat)
                  case atStart => exact ⟨0, 0, by omega, by omega, rfl, rfl, by rw [HB0.out]; rfl, Below.refl _ _⟩
                  case round =>
                    obtain ⟨ii, sv, hi1, hi2, rfl, rfl, hsv, hbx⟩ := hrel
                    obtain ⟨wx, hwx⟩ : ∃ W : World, W = wr := ⟨_, rfl⟩
                    subst hwx
                    have hb8 := bsum_le (fun i => t.times (-(i : Int) - 1)) bs (-(k2 : Int) - 1) ii (fun i _ => HT40.out _) (fun i _ hi => HB40.out _ i hi)
                    have hsvle : sv ≤ 20000 := by have := HT40.out (-(k2 : Int) - 1); have hB := HBE.out; split at hB <;> omega
                    have HSV := Lib.hid hsv
                    have HBX := Lib.hid hbx
                    have HBVX := Lib.hid (Below.step HBV.out hbx)
                    clear hsv hb8
                    by_cases h1 : ii < kk
                    · have h1' : (ii : Int) < (kk : Int) := by omega
                      by_cases h2 : ii < bs.length
                      · have h2' : (ii : Int) < (bs.length : Int) := by omega
                        obtain ⟨lb', loff', hlo, c0⟩ := (HCL.out.below HBVX.out).get h1
                        rw [show gI (countsOf t) ii = ((t.times (-(ii : Int) - 1) : Nat) : Int) by simp [gI, countsOf, ← HN.out, h1]] at c0
                        obtain ⟨bb', boff', bk, bsp, hbo, d1, d2, d3⟩ := (HRB.out.below HBVX.out) ii h2
                        subst hlo
                        subst hbo
                        obtain ⟨bb, hbb⟩ : ∃ b, b = bb' := ⟨_, rfl⟩
                        subst hbb
                        obtain ⟨boff, hbb⟩ : ∃ b, b = boff' := ⟨_, rfl⟩
                        subst hbb
                        obtain ⟨lb, hbb⟩ : ∃ b, b = lb' := ⟨_, rfl⟩
                        subst hbb
                        obtain ⟨loff, hbb⟩ : ∃ b, b = loff' := ⟨_, rfl⟩
                        subst hbb
                        have HST := Lib.hid (show bsum (fun i => t.times (-(i : Int) - 1)) bs (-(k2 : Int) - 1) (ii + 1) = bsum (fun i => t.times (-(i : Int) - 1)) bs (-(k2 : Int) - 1) ii + if boundB bs ii = true then t.times (-(ii : Int) - 1) * (gK bs ii).times (-(k2 : Int) - 1) else 0 from rfl)
                        cases hne : ((gK bs ii).head != 0) with
                        | true =>
                          have HBD := Lib.hid (show boundB bs ii = true by rw [boundB, decide_eq_true h2, hne]; rfl)
                          have hC40 := HT40.out (-(ii : Int) - 1)
                          have hQ40 := HB40.out (-(k2 : Int) - 1) ii HBD.out
                          have hs40 : (gK bs ii).size ≤ 1000000000 := by have := bind_size HD.out.2.2.1 ii h2; omega
                          go_wp2_with fail
                          have HD3 := Lib.hid d3
                          clear d3
                          generalize t.times (-(ii : Int) - 1) = C at c0 hC40 HST ⊢
                          obtain ⟨Q, hQ⟩ : ∃ Q, (gK bs ii).times (-(k2 : Int) - 1) = Q := ⟨_, rfl⟩
                          rw [hQ] at hQ40 HST
                          have hCQ : (C : Int) * (Q : Int) ≤ 1600 ∧ 0 ≤ (C : Int) * (Q : Int) := by
                            have := Nat.mul_le_mul hC40 hQ40
                            constructor
                            · exact_mod_cast this
                            · exact Int.mul_nonneg (by omega) (by omega)
                          have hw10 : IntKind.i64.wrap (-(k2 : Int)) = -(k2 : Int) := IntWalk.i64_in _ (by omega)
                          have hw11 : IntKind.i64.wrap (-(k2 : Int) - 1) = -(k2 : Int) - 1 := IntWalk.i64_in _ (by omega)
                          have hw13 : IntKind.i64.wrap ((C : Int) * (Q : Int)) = (C : Int) * (Q : Int) := IntWalk.i64_in _ (by omega)
                          have hw14 : IntKind.i64.wrap ((sv : Int) + (C : Int) * (Q : Int)) = (sv : Int) + (C : Int) * (Q : Int) := IntWalk.i64_in _ (by omega)
                          refine wp_region_inv (by kernel_rfl) (by kernel_rfl) (fun L a W => ∃ s129 s130 s131 s132 s133 s134 s135 s136 s137 s138 s139 s140 s141 s142 s143 s14 : Value, a = { tmps := #[.agg #[Value.int IntKind.i64 t.head, Value.slice k t.kids.length (t.kids.length + sp)], .slice (some ⟨bb, boff, none⟩) bs.length bc, .pointer (some ⟨w.heap.size, 0, none⟩), undef, u4, .bool true, .slice (some ⟨lb, loff, none⟩) kk lc, .pointer (some ⟨b7, 0, none⟩), .pointer (some ⟨b8, 0, none⟩), .pointer (some ⟨b8 + 1, 0, none⟩), .slice (some ⟨mb, moff, none⟩) m mc, .bool true, .int IntKind.i64 (kk : Int), .int IntKind.i64 (k2 : Int), s14, .int IntKind.i64 (ii : Int), .bool true, .bool true, .bool false, .tuple #[Value.slice (some ⟨lb, loff, none⟩) kk lc, Value.agg #[Value.int IntKind.i64 0, Value.int IntKind.i64 0]], .agg #[Value.int IntKind.i64 t.head, Value.slice k t.kids.length (t.kids.length + sp)], .tuple #[Value.slice (some ⟨lb, loff, none⟩) kk lc, Value.agg #[Value.int IntKind.i64 0, Value.int IntKind.i64 0]], .slice (some ⟨lb, loff, none⟩) kk lc, .agg #[Value.int IntKind.i64 0, Value.int IntKind.i64 0], .tuple #[Value.agg #[Value.int IntKind.i64 S.head, Value.slice uk S.kids.length (S.kids.length + usp)], Value.agg #[Value.int IntKind.i64 gc, Value.int IntKind.i64 ga]], .agg #[Value.int IntKind.i64 t.head, Value.slice k t.kids.length (t.kids.length + sp)], .slice (some ⟨bb, boff, none⟩) bs.length bc, .tuple #[Value.agg #[Value.int IntKind.i64 S.head, Value.slice uk S.kids.length (S.kids.length + usp)], Value.agg #[Value.int IntKind.i64 gc, Value.int IntKind.i64 ga]], .agg #[Value.int IntKind.i64 S.head, Value.slice uk S.kids.length (S.kids.length + usp)], .agg #[Value.int IntKind.i64 gc, Value.int IntKind.i64 ga], .pointer (some ⟨b7, 0, none⟩), .int IntKind.i64 0, .bool false, .bool false, .pointer (some ⟨b8 + 1, 0, none⟩), .int IntKind.i64 gc, .bool false, .bool false, undef, undef, undef, undef, undef, undef, undef, .tuple #[Value.slice (some ⟨mb, moff, none⟩) m mc, Value.agg #[Value.int IntKind.i64 0, Value.int IntKind.i64 0]], .agg #[Value.int IntKind.i64 S.head, Value.slice uk S.kids.length (S.kids.length + usp)], .tuple #[Value.slice (some ⟨mb, moff, none⟩) m mc, Value.agg #[Value.int IntKind.i64 0, Value.int IntKind.i64 0]], .slice (some ⟨mb, moff, none⟩) m mc, .agg #[Value.int IntKind.i64 0, Value.int IntKind.i64 0], .pointer (some ⟨b7, 0, none⟩), .int IntKind.i64 0, .bool false, .int IntKind.i64 (kk : Int), .slice (some ⟨lb, loff, none⟩) kk lc, .int IntKind.i64 (kk : Int), .bool false, u57, u58, u59, u60, u61, u62, u63, u64, u65, u66, u67, u68, u69, u70, u71, u72, u73, u74, u75, u76, u77, .bool true, .bool false, undef, undef, undef, .int IntKind.i64 (k2 : Int), .slice (some ⟨mb, moff, none⟩) m mc, .int IntKind.i64 (m : Int), .bool true, u87, u88, .int IntKind.i64 (k2 : Int), .slice (some ⟨lb, loff, none⟩) kk lc, .int IntKind.i64 (kk : Int), .bool false, .bool false, undef, undef, undef, undef, undef, undef, undef, undef, undef, undef, undef, undef, .bool false, u107, u108, u109, u110, .int IntKind.i64 (ii : Int), .slice (some ⟨lb, loff, none⟩) kk lc, .int IntKind.i64 (kk : Int), .bool true, .bool true, .int IntKind.i64 (ii : Int), .slice (some ⟨bb, boff, none⟩) bs.length bc, .int IntKind.i64 (bs.length : Int), .bool true, .bool true, u121, u122, .slice (some ⟨bb, boff, none⟩) bs.length bc, .int IntKind.i64 (ii : Int), .pointer (some ⟨bb, boff + ii * 2, none⟩), .pointer (some ⟨bb, boff + ii * 2, none⟩), .int IntKind.i64 (gK bs ii).head, .bool true, s129, s130, s131, s132, s133, s134, s135, s136, s137, s138, s139, s140, s141, s142, s143, u144, u145, u146, u147, u148, u149], defers := [] } ∧ TimesR wx lb loff kk lc bb boff bs.length bc ii k2 sv C Q (.agg #[.int .i64 (gK bs ii).head, .slice bk (gK bs ii).kids.length ((gK bs ii).kids.length + bsp)]) (L 0) (L 1) (L 2) (L 3) (L 4) (L 5) (L 6) (L 7) (L 8) (L 9) (L 10) (L 11) (L 12) (L 13) (L 14) (L 15) s129 s130 s131 s132 s133 s134 s135 s136 s137 s138 s139 s140 s141 s142 s143 s14 W) ?h0 ?step ?fin
                          case h0 =>
                            refine ⟨_, _, _, _, _, _, _, _, _, _, _, _, _, _, _, _, rfl, ⟨(Below.refl _ _).drew, ?_, ?_, ?_, ?_, ?_, ?_, ?_, ?_, ?_, ?_, ?_, ?_, ?_, ?_, ?_, ?_, fun _ => rfl, fun h => by cases h⟩⟩
                            all_goals (intro h; cases h)
                          case step =>
                            rintro L a W i o ho ⟨s129, s130, s131, s132, s133, s134, s135, s136, s137, s138, s139, s140, s141, s142, s143, s14, rfl, hM⟩ hLi hdep K hK
                            have hi : i < 16 := by
                              have := (Array.getElem?_eq_some_iff.1 ho).1
                              simpa using this
                            rcases (show i = 0 ∨ i = 1 ∨ i = 2 ∨ i = 3 ∨ i = 4 ∨ i = 5 ∨ i = 6 ∨ i = 7 ∨ i = 8 ∨ i = 9 ∨ i = 10 ∨ i = 11 ∨ i = 12 ∨ i = 13 ∨ i = 14 ∨ i = 15 by omega) with rfl | rfl | rfl | rfl | rfl | rfl | rfl | rfl | rfl | rfl | rfl | rfl | rfl | rfl | rfl | rfl
                            all_goals
                              simp only [List.getElem?_toArray, List.getElem?_cons_succ, List.getElem?_cons_zero, Option.some.injEq] at ho
                              subst ho
                              simp [Region.binds] at hdep
                            · obtain rfl := hM.k0 (by
                                cases h15 : L 15 with
                                | false => rfl
                                | true => have := hM.k1 h15; rw [hLi] at this; cases this)
                              have HM := Lib.hid hM
                              clear hM hdep hLi
                              go_simp
                              refine hK _ _ ?_
                              exact ⟨_, s130, s131, s132, s133, s134, s135, s136, s137, s138, s139, s140, s141, s142, s143, _, rfl, { HM.out with l0 := fun _ => rfl, k0 := fun _ => rfl, k1 := fun _ => rfl }⟩
                            · have HM := Lib.hid hM
                              clear hM hdep hLi
                              go_simp
                              refine hK _ _ ?_
                              exact ⟨s129, _, s131, s132, s133, s134, s135, s136, s137, s138, s139, s140, s141, s142, s143, s14, rfl, { HM.out with l1 := fun _ => rfl }⟩
                            · have HM := Lib.hid hM
                              clear hM hdep hLi
                              go_simp
                              refine hK _ _ ?_
                              exact ⟨s129, s130, _, s132, s133, s134, s135, s136, s137, s138, s139, s140, s141, s142, s143, s14, rfl, { HM.out with l2 := fun _ => rfl }⟩
                            · obtain rfl := hM.l1 (by first | exact hdep | simp [hdep])
                              obtain rfl := hM.l2 (by first | exact hdep | simp [hdep])
                              have HM := Lib.hid hM
                              clear hM hdep hLi
                              go_simp
                              refine hK _ _ ?_
                              exact ⟨s129, _, _, _, s133, s134, s135, s136, s137, s138, s139, s140, s141, s142, s143, s14, rfl, { HM.out with l3 := fun _ => rfl }⟩
                            · obtain rfl := hM.l3 (by first | exact hdep | simp [hdep])
                              have HM := Lib.hid hM
                              have z0 := Below.cellOf HM.out.bel c0
                              clear hM hdep hLi
                              go_simp
                              refine hK _ _ ?_
                              exact ⟨s129, s130, s131, _, _, s134, s135, s136, s137, s138, s139, s140, s141, s142, s143, s14, rfl, { HM.out with l4 := fun _ => rfl }⟩
                            · have HM := Lib.hid hM
                              clear hM hdep hLi
                              go_simp
                              refine hK _ _ ?_
                              exact ⟨s129, s130, s131, s132, s133, _, s135, s136, s137, s138, s139, s140, s141, s142, s143, s14, rfl, { HM.out with l5 := fun _ => rfl }⟩
                            · have HM := Lib.hid hM
                              clear hM hdep hLi
                              go_simp
                              refine hK _ _ ?_
                              exact ⟨s129, s130, s131, s132, s133, s134, _, s136, s137, s138, s139, s140, s141, s142, s143, s14, rfl, { HM.out with l6 := fun _ => rfl }⟩
                            · obtain rfl := hM.l5 (by first | exact hdep | simp [hdep])
                              obtain rfl := hM.l6 (by first | exact hdep | simp [hdep])
                              have HM := Lib.hid hM
                              clear hM hdep hLi
                              go_simp
                              refine hK _ _ ?_
                              exact ⟨s129, s130, s131, s132, s133, _, _, _, s137, s138, s139, s140, s141, s142, s143, s14, rfl, { HM.out with l7 := fun _ => rfl }⟩
                            · obtain rfl := hM.l7 (by first | exact hdep | simp [hdep])
                              have HM := Lib.hid hM
                              have z1 := Below.cellOf HM.out.bel d1
                              have z2 := Below.cellOf HM.out.bel d2
                              clear hM hdep hLi
                              go_simp
                              refine hK _ _ ?_
                              exact ⟨s129, s130, s131, s132, s133, s134, s135, _, _, s138, s139, s140, s141, s142, s143, s14, rfl, { HM.out with l8 := fun _ => rfl }⟩
                            · have HM := Lib.hid hM
                              clear hM hdep hLi
                              go_simp
                              refine hK _ _ ?_
                              exact ⟨s129, s130, s131, s132, s133, s134, s135, s136, s137, _, s139, s140, s141, s142, s143, s14, rfl, { HM.out with l9 := fun _ => rfl }⟩
                            · obtain rfl := hM.l9 (by first | exact hdep | simp [hdep])
                              have HM := Lib.hid hM
                              clear hM hdep hLi
                              go_simp
                              refine hK _ _ ?_
                              exact ⟨s129, s130, s131, s132, s133, s134, s135, s136, s137, _, _, s140, s141, s142, s143, s14, rfl, { HM.out with l10 := fun _ => rfl }⟩
                            · obtain rfl := hM.l10 (by first | exact hdep | simp [hdep])
                              have HM := Lib.hid hM
                              clear hM hdep hLi
                              go_simp
                              refine hK _ _ ?_
                              exact ⟨s129, s130, s131, s132, s133, s134, s135, s136, s137, s138, _, _, s141, s142, s143, s14, rfl, { HM.out with l11 := fun _ => rfl }⟩
                            · obtain rfl := hM.l8 (by first | exact hdep | simp [hdep])
                              obtain rfl := hM.l11 (by first | exact hdep | simp [hdep])
                              have HM := Lib.hid hM
                              clear hM hdep hLi
                              go_simp
                              refine (times31 (-(k2 : Int) - 1) (gK bs ii) _ W hs40 (HD3.out.kept HM.out.bel)).mono ?_
                              rintro e W' ⟨rfl, hb⟩
                              rw [hQ]
                              refine hK _ _ ?_
                              exact ⟨s129, s130, s131, s132, s133, s134, s135, s136, _, s138, s139, _, _, s142, s143, s14, rfl, { HM.out.mono hb with l12 := fun _ => rfl }⟩
                            · obtain rfl := hM.l4 (by first | exact hdep | simp [hdep])
                              obtain rfl := hM.l12 (by first | exact hdep | simp [hdep])
                              have HM := Lib.hid hM
                              clear hM hdep hLi
                              go_simp
                              refine hK _ _ ?_
                              exact ⟨s129, s130, s131, s132, _, s134, s135, s136, s137, s138, s139, s140, _, _, s143, s14, rfl, { HM.out with l13 := fun _ => rfl }⟩
                            · obtain rfl := hM.l0 (by first | exact hdep | simp [hdep])
                              obtain rfl := hM.l13 (by first | exact hdep | simp [hdep])
                              have HM := Lib.hid hM
                              clear hM hdep hLi
                              go_simp
                              refine hK _ _ ?_
                              exact ⟨_, s130, s131, s132, s133, s134, s135, s136, s137, s138, s139, s140, s141, _, _, s14, rfl, { HM.out with l14 := fun _ => rfl }⟩
                            · obtain rfl := hM.l14 (by first | exact hdep | simp [hdep])
                              have HL0 := Lib.hid (show L 0 = true by simp [hdep])
                              have HM := Lib.hid hM
                              clear hM hdep hLi
                              go_simp
                              refine hK _ _ ?_
                              exact ⟨s129, s130, s131, s132, s133, s134, s135, s136, s137, s138, s139, s140, s141, s142, _, _, rfl, { HM.out with l15 := fun _ => rfl, k0 := (fun h => by cases h), k1 := fun _ => HL0.out }⟩
                          case fin =>
                            rintro L a W hall ⟨s129, s130, s131, s132, s133, s134, s135, s136, s137, s138, s139, s140, s141, s142, s143, s14, rfl, hM⟩
                            obtain rfl := hM.l0 (hall 0 (by decide))
                            obtain rfl := hM.l1 (hall 1 (by decide))
                            obtain rfl := hM.l2 (hall 2 (by decide))
                            obtain rfl := hM.l3 (hall 3 (by decide))
                            obtain rfl := hM.l4 (hall 4 (by decide))
                            obtain rfl := hM.l5 (hall 5 (by decide))
                            obtain rfl := hM.l6 (hall 6 (by decide))
                            obtain rfl := hM.l7 (hall 7 (by decide))
                            obtain rfl := hM.l8 (hall 8 (by decide))
                            obtain rfl := hM.l9 (hall 9 (by decide))
                            obtain rfl := hM.l10 (hall 10 (by decide))
                            obtain rfl := hM.l11 (hall 11 (by decide))
                            obtain rfl := hM.l12 (hall 12 (by decide))
                            obtain rfl := hM.l13 (hall 13 (by decide))
                            obtain rfl := hM.l14 (hall 14 (by decide))
                            obtain rfl := hM.l15 (hall 15 (by decide))
                            have hbel := hM.bel
                            clear hM hall
                            go_wp2_with fail
                            go_roundw
                            case rel => exact ⟨ii + 1, sv + C * Q, by omega, by omega, by push_cast; rfl, by go_num, by rw [HST.out, HBD.out, HSV.out, if_pos rfl]; omega, Below.trans (hbx.mono (Nat.le_refl _)) (hbel.mono hbx.size)⟩
                            case measure => simp [intOf] <;> omega
                        | false =>
                          have HBD := Lib.hid (show boundB bs ii = false by rw [boundB, decide_eq_true h2, hne]; rfl)
                          go_wp2_with fail
                          go_roundw
                          case rel => exact ⟨ii + 1, sv, by omega, by omega, rfl, by go_num, by rw [HST.out, HBD.out, HSV.out]; simp, hbx⟩
                          case measure => simp [intOf] <;> omega
                      · have h2' : ¬ (ii : Int) < (bs.length : Int) := by omega
                        have heq : S.times (-(k2 : Int) - 1) = sv := by
                          rw [HSE.out, times_sub bs k2 bs.length (Nat.le_refl _) t HOK.out.2.2, ← HBE.out, HSV.out, bsum_more (n := ii) hi2 (fun i q1 q2 _ => times_most (by have := HN.out; omega))]
                        have m0 := Below.cellOf hbx HM0.out
                        rw [heq] at m0
                        go_wp2_with fail
                        go_roundw
                        case rel => exact ⟨k2 + 1, by omega, by go_num, HBVX.out⟩
                        case measure => simp [intOf] <;> omega
                    · have h1' : ¬ (ii : Int) < (kk : Int) := by omega
                      have heq : S.times (-(k2 : Int) - 1) = sv := by
                        rw [HSE.out, times_sub bs k2 bs.length (Nat.le_refl _) t HOK.out.2.2, ← HBE.out, HSV.out, bsum_more (n := ii) hi2 (fun i q1 q2 _ => times_most (by have := HN.out; omega))]
                      have m0 := Below.cellOf hbx HM0.out
                      rw [heq] at m0
                      go_wp2_with fail
                      go_roundw
                      case rel => exact ⟨k2 + 1, by omega, by go_num, HBVX.out⟩
                      case measure => simp [intOf] <;> omega
              · have hltm : ¬ (k2 : Int) < (m : Int) := by omega
                go_wp2_with fail
                refine bodyPost_ret (v := .bool true) (by simp [results, Try.results6, go_sem]) rfl ⟨rfl, Below.step hbw7 hbv⟩
end Go.Proofs.Ytcckgfgobakphaa
