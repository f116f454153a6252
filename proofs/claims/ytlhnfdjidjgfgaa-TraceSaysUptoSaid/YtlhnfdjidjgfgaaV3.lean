/-
  Walks: table.Eval.
-/
import Derived.Test.YtlhnfdjidjgfgaaProg
import Derived.Test.YtlhnfdjidjgfgaaV2
import Derived.RegionTactic
import Derived.Lib.QuietBelow
import Derived.BigQuiet
import Derived.IntWalk
namespace Go.Proofs.Ytlhnfdjidjgfgaa
open Go.RowKit Go.Shelf
set_option linter.unusedVariables false
set_option maxHeartbeats 400000

theorem T.ev_eq {s : Nat} {tb : List (List Int)} {th : List Int} (t : T) : t.ev s tb th = if t.head < 0 then (if (th.length : Int) < -t.head then 0 else gI th (-t.head - 1).toNat) else gI (tb.getD (t.head - 1).toNat []) (evL s tb th t.kids 0).toNat := by
  obtain ⟨hd, ks⟩ := t
  rw [T.ev]; rfl

set_option maxRecDepth 100000 in
set_option maxHeartbeats 4000000 in
theorem eval76 (ar : List Int) (s : Nat) (tb : List (List Int)) (th : List Int) (hT : TabOK ar s tb) (hth : ThOK s th) (hl : th.length ≤ 1000000000) (t : T) : t.sig ar → ∀ (p q : Nat → Prop) (v : Value) (ao to_ : Option Addr) (sp c : Nat) (w : World), intsE.Row p w ao tb → intE.Row q w to_ th → TreeAt w v t →
    Calls Try.prog 122 #[.agg #[.int .i64 s, .slice ao tb.length (tb.length + sp)], v, .slice to_ th.length c] w fun e w' => e = .returned (.int .i64 (t.ev s tb th)) ∧ Below w.heap.size w w' := by
  induction t using T.ind with
  | h t ih =>
  intro hsg p q v ao to_ sp c w hrow hthr ht
  obtain ⟨tk, ts, rfl, hkr, hml⟩ := ht.open
  have HR := Lib.hid hrow; have HH := Lib.hid hthr; have HK := Lib.hid hkr; have HG := Lib.hid hsg
  have IH := Lib.hid ih
  obtain ⟨hn1, hn2, hn3, hn4, hn5⟩ := okN_num hsg.self.1
  have HN5 := Lib.hid hn5
  clear hn5
  have hs14 : 1 ≤ s ∧ s ≤ 4 := ⟨hT.1, hT.2.1⟩
  have HTB := Lib.hid hT
  obtain ⟨bx, hbx⟩ : ∃ b, b = w.heap.size := ⟨_, rfl⟩
  have S1 := ((St.start w).box hbx.symm #[.int .i64 s, .slice ao tb.length (tb.length + sp)] 55).box (b := bx + 1) (by simp [hbx]) #[.int .i64 t.head, .slice tk t.kids.length (t.kids.length + ts)] 38
  have hsz : ((w.alloc (.cells #[.int .i64 s, .slice ao tb.length (tb.length + sp)] 55)).alloc (.cells #[.int .i64 t.head, .slice tk t.kids.length (t.kids.length + ts)] 38)).heap.size = bx + 2 := by simp [hbx]
  clear hrow hthr hkr hsg ih ht hT
  by_cases hneg : t.head < 0
  · by_cases hlen : (th.length : Int) < -t.head
    · have HF := Lib.hid (show t.ev s tb th = 0 by rw [T.ev_eq, if_pos hneg, if_pos hlen])
      go_enter Try.func122, Try.ntmps122
      clear S1 hsz hbx
      go_wp2_with fail
      go_ret
      have hb := ((Below.refl w.heap.size w).alloc (Nat.le_refl _) (.cells #[.int .i64 s, .slice ao tb.length (tb.length + sp)] 55)).alloc (by simp) (.cells #[.int .i64 t.head, .slice tk t.kids.length (t.kids.length + ts)] 38)
      exact ⟨ret_int HF.out.symm, hb⟩
    · have HF := Lib.hid (show t.ev s tb th = gI th (-t.head - 1).toNat by rw [T.ev_eq, if_pos hneg, if_neg hlen])
      have hj : (-t.head - 1).toNat < th.length := by omega
      obtain ⟨b, off, rfl, hqb, c1⟩ := (HH.out.kept S1.bel).int hj
      rw [← gI_get hj, ← HF.out] at c1
      obtain ⟨j, hjj⟩ : ∃ j : Nat, j = (-t.head - 1).toNat := ⟨_, rfl⟩
      rw [← hjj] at c1 hj
      have hw : IntKind.i64.wrap (-t.head - 1) = (j : Int) := by rw [hjj, IntWalk.i64_in _ (by omega)]; omega
      have SE := Lib.hid S1.bel
      clear hjj S1 hsz hbx
      go_enter Try.func122, Try.ntmps122
      go_wp2_with fail
      go_ret
      exact ⟨rfl, SE.out⟩
  · have HF := Lib.hid (show t.ev s tb th = gI (tb.getD (t.head - 1).toNat []) (evL s tb th t.kids 0).toNat by rw [T.ev_eq, if_neg hneg])
    have HNEG : Hid (¬ t.head < 0) := hneg
    go_enter Try.func122, Try.ntmps122
    go_wp2_with fail
    rw [← hbx]
    refine S1.genC (z := bx + 2) (by omega) ?_
    intro w1 z1 S
    have HBX := Lib.hid hbx
    clear S1 hbx hsz
    have HKR := Lib.hid (fun i (hi : i < t.kids.length) => T.ev_range HTB.out hth (gK t.kids i) (HG.out.kid hi))
    have HRG := Lib.hid (fun k (hk : k ≤ t.kids.length) => show 0 ≤ evL s tb th (t.kids.take k) 0 ∧ evL s tb th (t.kids.take k) 0 < ((s ^ k : Nat) : Int) by
      have h := evL_range (s := s) (tb := tb) (th := th) hs14.1 (t.kids.take k) 0 0 (fun i hi => by
        have hi2 : i < k := by simp at hi; omega
        have : gK (t.kids.take k) i = gK t.kids i := by simp [gK, hi2]
        rw [this]; exact HKR.out i (by omega)) (by omega) (by simp)
      rw [show 0 + (t.kids.take k).length = k by simp; omega] at h
      exact h)
    go_loopw [7, 29] (fun a i wr => ∃ k : Nat, k ≤ t.kids.length ∧ i = .int .i64 k ∧ a = .int .i64 (evL s tb th (t.kids.take k) 0) ∧ bx + 2 ≤ wr.heap.size ∧ St w wr [.box bx #[.int .i64 s, .slice ao tb.length (tb.length + sp)] 55, .box (bx + 1) #[.int .i64 t.head, .slice tk t.kids.length (t.kids.length + ts)] 38]) (fun _ i _ => t.kids.length - (intOf i).toNat)
    case atStart => exact ⟨0, by omega, rfl, rfl, z1, S⟩
    case round =>
      clear S
      obtain ⟨k, hk, rfl, rfl, z2, S⟩ := hrel
      by_cases hlt : k < t.kids.length
      · have hlti : (k : Int) < (t.kids.length : Int) := by omega
        obtain ⟨b, off, xk, xs, rfl, c0, c1, c2⟩ := (HK.out.below S.bel) k hlt
        obtain ⟨X, hX⟩ : ∃ X, X = gK t.kids k := ⟨_, rfl⟩
        have HIH := Lib.hid (fun (W : World) (h : Below w.heap.size w W) (u : Value) (hu : TreeAt W u X) => IH.out k hlt (HG.out.kid hlt) p q u ao to_ sp c W (HR.out.kept h) (HH.out.kept h) (by rw [← hX]; exact hu))
        rw [← hX] at c0 c1 c2 HIH
        obtain ⟨A, hA⟩ : ∃ A, A = evL s tb th (t.kids.take k) 0 := ⟨_, rfl⟩
        obtain ⟨V, hV⟩ : ∃ V, V = X.ev s tb th := ⟨_, rfl⟩
        rw [← hA]
        rw [← hV] at HIH
        have HNX := Lib.hid (show evL s tb th (t.kids.take (k + 1)) 0 = A * s + V by rw [evL_take hlt, ← hA, ← hX, ← hV])
        have hA4 := HRG.out k hk
        rw [← hA] at hA4
        have hV4 := HKR.out k hlt
        rw [← hX, ← hV] at hV4
        have hpk : ((s ^ k : Nat) : Int) ≤ 64 := by
          have h1 : s ^ k ≤ 4 ^ k := Nat.pow_le_pow_left hs14.2 k
          have h2 : 4 ^ k ≤ 4 ^ 3 := Nat.pow_le_pow_right (by omega) (by omega)
          omega
        have hq1 : 0 ≤ A * (s : Int) := Int.mul_nonneg hA4.1 (by omega)
        have hq2 : A * (s : Int) ≤ 64 * 4 := Int.mul_le_mul (by omega) (by omega) (by omega) (by omega)
        obtain ⟨Q, hQ⟩ : ∃ Q, Q = A * (s : Int) := ⟨_, rfl⟩
        rw [← hQ] at hq1 hq2 HNX
        have hw1 : IntKind.i64.wrap (A * (s : Int)) = Q := by rw [← hQ]; exact IntWalk.i64_in _ (by omega)
        have hw2 : IntKind.i64.wrap (Q + V) = Q + V := IntWalk.i64_in _ (by omega)
        have HTX := Lib.hid c2
        obtain ⟨bk, hbk⟩ : ∃ b, b = wr.heap.size := ⟨_, rfl⟩
        have S2 := S.box hbk.symm #[.int .i64 X.head, .slice xk X.kids.length (X.kids.length + xs)] 38
        have z3 : bk + 1 ≤ (wr.alloc (.cells #[.int .i64 X.head, .slice xk X.kids.length (X.kids.length + xs)] 38)).heap.size := by simp [hbk]
        have HTX2 := Lib.hid (c2.kept ((Below.refl _ wr).alloc (Nat.le_refl _) (.cells #[.int .i64 X.head, .slice xk X.kids.length (X.kids.length + xs)] 38)))
        have HBK := Lib.hid (show bx + 2 ≤ bk by omega)
        clear c2 hX hA hV hQ S hpk hA4 hV4 hq1 hq2
        go_wp2_with fail
        rw [← hbk]
        have S2 := S2.add (.treeP (fun b => b < (wr.alloc (.cells #[.int .i64 X.head, .slice xk X.kids.length (X.kids.length + xs)] 38)).heap.size) _ X) HTX2.out.foot
        refine S2.genC (z := bk + 1) z3 ?_
        intro w3 z4 S3
        clear S2 z3 hbk c0 c1 HTX HTX2
        obtain ⟨⟨x0, _⟩, x1, _⟩ := S3.two 0
        obtain ⟨⟨y0, _⟩, y1, _⟩ := S3.two 2
        have CA := Lib.hid (fun d os => Calls.regrown_of (HIH.out (Go.Sort.grow (redrawn w3 d) os) (S3.regrown d os).bel _ (St.treeP (S3.regrown d os) 3 rfl).at))
        have r0 := cell_regrown x0; have r1 := cell_regrown x1; have r2 := cell_regrown y0; have r3 := cell_regrown y1
        clear x0 x1 y0 y1
        refine wp_region_quiet_below (by kernel_rfl) (by kernel_rfl) ?_
        repeat (go_big_quiet_step (exact CA.out _ _))
        refine wpQuiet_nil ?_
        intro _ hw'
        obtain ⟨⟨dq, osq⟩, hw''⟩ := hw'
        subst hw''
        refine (S3.regrown dq osq).genX (z := bk + 1) (Nat.le_trans z4 (below_regrown w3 dq osq).size) ?_
        intro w4 z5 S4
        have S5 := S4.pick [0, 1]
        have hbz : bx + 2 ≤ w4.heap.size := by have := HBK.out; omega
        clear r0 r1 r2 r3 CA S3 S4
        go_wp2_with fail
        go_roundw
        case rel => exact ⟨k + 1, by omega, by go_num, by rw [HNX.out], hbz, S5⟩
        case measure => simp [intOf] <;> omega
      · obtain rfl : k = t.kids.length := by omega
        have hA := HRG.out t.kids.length hk
        rw [List.take_length] at hA ⊢
        obtain ⟨h1, l, h2, h3, h4, h5⟩ := HTB.out.last HG.out (by have := HNEG.out; omega) hA.1 hA.2
        rw [h3] at HF
        obtain ⟨A, hAA⟩ : ∃ A, A = evL s tb th t.kids 0 := ⟨_, rfl⟩
        rw [← hAA] at HF h4 hA ⊢
        obtain ⟨b, off, k1, s1, rfl, hpb, c1, r1, hm1⟩ := (HR.out.kept S.bel).ints h1
        have hl0 : tb[(t.head - 1).toNat] = l := Option.some.inj ((List.getElem?_eq_getElem h1).symm.trans h2)
        rw [hl0] at c1 r1 hm1
        obtain ⟨b2, off2, rfl, hpb2, c2⟩ := r1.int h4
        rw [← gI_get h4, ← HF.out] at c2
        obtain ⟨j, hjj⟩ : ∃ j : Nat, j = (t.head - 1).toNat := ⟨_, rfl⟩
        rw [← hjj] at c1 h1
        have hw : IntKind.i64.wrap (t.head - 1) = (j : Int) := by rw [hjj, IntWalk.i64_in _ (by omega)]; have := HNEG.out; omega
        obtain ⟨i, hii⟩ : ∃ i : Nat, A = (i : Int) := ⟨A.toNat, by omega⟩
        rw [hii] at h4 c2 ⊢
        simp only [Int.toNat_natCast] at h4 c2
        obtain ⟨⟨x0, _⟩, x1, _⟩ := S.two 0
        obtain ⟨⟨y0, _⟩, y1, _⟩ := S.two 1
        have SE := Lib.hid S.bel
        clear hjj hii hA h5 h3 h2 hl0 hAA HF S
        go_wp2_with fail
        go_ret
        exact ⟨rfl, SE.out⟩
end Go.Proofs.Ytlhnfdjidjgfgaa
