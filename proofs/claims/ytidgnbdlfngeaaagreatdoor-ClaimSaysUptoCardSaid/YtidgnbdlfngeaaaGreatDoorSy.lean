/-
  Walks: the document's Say.
-/
import Derived.Test.YtidgnbdlfngeaaaGreatDoorDg
import Derived.Test.YtidgnbdlfngeaaaGreatDoorTx1
namespace Go.Proofs.YtidgnbdlfngeaaaGreatDoor
open Go.RowKit Go.Shelf
set_option linter.unusedVariables false
set_option maxHeartbeats 400000
attribute [local go_sem 2000] catS_sV

set_option maxRecDepth 100000 in
set_option maxHeartbeats 8000000 in
theorem say22 (t : T) : ∀ (p : Nat → Prop) (v : Value) (w : World), TreeP p w v t → (∀ c, p c → c < w.heap.size) → (∀ x ∈ t.pre, okN x) → t.txt.length ≤ 1000000000 →
    Calls Tryz.prog 22 #[v] w fun e w' => e = .returned (sV t.txt) ∧ Below w.heap.size w w' := by
  induction t using T.ind with
  | h t ih =>
  intro p v w ht hp hok hlen
  obtain ⟨h, ks⟩ := t
  obtain ⟨ao, sp, rfl, hr, hml⟩ := ht.open
  obtain ⟨hn, hks⟩ := okT_node.1 hok
  have hbh := hn.1; have hbk := hn.2
  unfold badHead at hbh; unfold badKids at hbk
  simp only [T.head, T.kids] at hbh hbk hr hml ih ⊢
  obtain ⟨m, hm⟩ : ∃ m, m = ks.length := ⟨_, rfl⟩
  obtain ⟨bx, hbx⟩ : ∃ b, b = w.heap.size := ⟨_, rfl⟩
  have hbb := heap_ofAlloc w (.cells #[.int .i64 h, .slice ao m (m + sp)] 45)
  rw [← hbx] at hbb
  have HW := Lib.hid ((Below.refl w.heap.size w).alloc (Nat.le_refl _) (.cells #[.int .i64 h, .slice ao m (m + sp)] 45))
  have HSZ := Lib.hid (show (w.alloc (.cells #[.int .i64 h, .slice ao m (m + sp)] 45)).heap.size = bx + 1 ∧ w.heap.size = bx from ⟨by simp [hbx], hbx.symm⟩)
  obtain ⟨w1, hw1⟩ : ∃ W, W = w.alloc (.cells #[.int .i64 h, .slice ao m (m + sp)] 45) := ⟨_, rfl⟩
  obtain ⟨⟨y0, y1⟩, y2, y3⟩ := box2 hbb
  have HBB := Lib.hid hbb
  rw [← hw1] at HBB HW y0 y1 y2 y3 HSZ
  have hmb : m ≤ 1000000000000000000 := by rw [hm]; unfold maxLen at hml; omega
  have HR := Lib.hid hr
  have HM := Lib.hid hm
  have HIH := Lib.hid ih
  have HKS := Lib.hid hks
  have HLEN := Lib.hid hlen
  have HP := Lib.hid hp
  rw [← hm]
  clear hr ih hok ht hks hlen hbb hp
  by_cases hneg : h < 0
  · obtain ⟨i, hi⟩ : ∃ i : Nat, (i : Int) = -h := ⟨(-h).toNat, by omega⟩
    have HI := Lib.hid (fun W => digits21 i (by omega) W)
    have HWR := Lib.hid (show wrap64 (-h) = (i : Int) by rw [IntWalk.wrap64_in _ (by omega), hi])
    have HTX := Lib.hid (show (T.node h ks).txt = 120 :: Lib.decDigits i by rw [T.txt, if_pos hneg, ← hi]; rfl)
    have HDS := Lib.hid (dig_short (n := i) (by omega))
    clear hi hbh hbk hn hm
    go_enter Tryz.func22, Tryz.ntmps22
    go_upto_region 1 with fail
    rw [← hw1, ← hbx]
    clear hw1 hbx
    have hds : ¬ 9223372036854775807 < 1 + (Lib.decDigits i).length := by have := HDS.out; omega
    go_wp2_with fail
    rw [HWR.out]
    refine (HI.out _).mono ?_
    rintro e w2 ⟨rfl, hw2⟩
    have hw2 := hw2.symm
    subst hw2
    go_wp2_with fail
    go_ret
    exact ⟨by rw [HTX.out]; rfl, HW.out⟩
  · obtain ⟨i, hi⟩ : ∃ i : Nat, (i : Int) = h := ⟨h.toNat, by omega⟩
    have HI := Lib.hid (fun W => by have := digits21 i (by omega) W; rw [hi] at this; exact this)
    have HTX := Lib.hid (show (T.node h ks).txt = 115 :: (Lib.decDigits i ++ kidsTxt ks) by rw [T.txt, if_neg hneg, ← hi]; rfl)
    have HDS := Lib.hid (dig_short (n := i) (by omega))
    clear hi hbh hbk hn hm
    go_enter Tryz.func22, Tryz.ntmps22
    go_upto_region 1 with fail
    rw [← hw1, ← hbx]
    clear hw1 hbx
    have hds : ¬ 9223372036854775807 < 1 + (Lib.decDigits i).length := by have := HDS.out; omega
    go_wp2_with fail
    refine (HI.out _).mono ?_
    rintro e w2 ⟨rfl, hw2⟩
    have hw2 := hw2.symm
    subst hw2
    clear y0 y1 y2 y3
    go_wp2_with fail
    go_loopw [3, 4] (fun x i' wr => ∃ k : Nat, k ≤ m ∧ x = sV (115 :: Lib.decDigits i ++ kidsPre (ks.take k)) ∧ i' = .int .i64 k ∧ Hid (Below w1.heap.size w1 wr)) (fun _ i' _ => m - (intOf i').toNat)
    case atStart => exact ⟨0, Nat.zero_le _, by simp [kidsPre], rfl, Lib.hid (Below.refl _ _)⟩
    case round =>
      obtain ⟨k, hk, rfl, rfl, HBR⟩ := hrel
      obtain ⟨⟨x0, x1⟩, x2, x3⟩ := box2 (Below.heapAt HBR.out HBB.out)
      obtain ⟨acc, hacc⟩ : ∃ l, l = 115 :: Lib.decDigits i ++ kidsPre (ks.take k) := ⟨_, rfl⟩
      have HACC := Lib.hid hacc
      rw [← hacc]
      clear hacc
      by_cases hlt : k < m
      · have hkl : k < ks.length := by have := HM.out; omega
        have HBW := Lib.hid (Below.step HW.out HBR.out)
        obtain ⟨bb, off, ko, ksp, rfl, hpb, c0', c1', c2⟩ := HR.out k hkl
        have c0 : wr.cell? ⟨bb, off + k * 2, none⟩ = some (.int .i64 (gK ks k).head) := by rw [World.cell?_of_block (w := w) (w' := wr) (HBW.out.block bb (HP.out _ hpb))]; exact c0'
        have c1 : wr.cell? ⟨bb, off + k * 2 + 1, none⟩ = some (.slice ko (gK ks k).kids.length ((gK ks k).kids.length + ksp)) := by rw [World.cell?_of_block (w := w) (w' := wr) (HBW.out.block bb (HP.out _ hpb))]; exact c1'
        have hsn : ks.take (k + 1) = ks.take k ++ [gK ks k] := take_gK hkl
        have HOK := Lib.hid (okTs_at HKS.out hkl)
        have HLB2 := Lib.hid (show (115 :: Lib.decDigits i ++ kidsPre (ks.take (k + 1))).length ≤ 1000000000 by
          have h1 := HLEN.out
          rw [HTX.out] at h1
          have h2 := kidsPre_le (ks.take (k + 1)) (ks.drop (k + 1))
          rw [List.take_append_drop, ] at h2
          have h3 := kidsTxt_pre ks (by intro e; rw [e] at hkl; simp at hkl)
          rw [h3] at h1
          simp only [List.length_append, List.length_cons, List.length_nil] at h1 h2 ⊢
          omega)
        by_cases hk0 : k = 0
        · have HSEP := Lib.hid (show 115 :: Lib.decDigits i ++ kidsPre (ks.take (k + 1)) = acc ++ 40 :: (gK ks k).txt by
            rw [HACC.out, hsn, hk0]; simp [kidsPre, restPre])
          rw [HSEP.out] at HLB2
          have hl := HLB2.out
          rw [List.length_append, List.length_cons] at hl
          have hkq : ((k : Int) == 0) = true := by simp [hk0]
          have hd1 : ¬ 9223372036854775807 < acc.length + 1 := by omega
          have hd2 : ¬ 9223372036854775807 < acc.length + 1 + (gK ks k).txt.length := by omega
          have HREC := Lib.hid (HIH.out k hkl p _ wr (c2.carry (w' := wr) (fun c (hc : p c) _ => HBW.out.block c (HP.out _ hc))) (fun c hc => Nat.lt_of_lt_of_le (HP.out _ hc) HBW.out.size) HOK.out (by omega))
          clear hsn c0' c1' c2 hk0 hl
          go_wp2_with fail
          refine (HREC.out).mono ?_
          rintro e w7 ⟨rfl, hb7⟩
          have HB7 := Lib.hid (Below.step HBR.out hb7)
          clear HREC hb7 c0 c1
          go_wp2_with fail
          go_roundw
          case rel => exact ⟨k + 1, by omega, by rw [HSEP.out], by go_num, HB7⟩
          case measure => simp [intOf]; omega
        · have HSEP := Lib.hid (show 115 :: Lib.decDigits i ++ kidsPre (ks.take (k + 1)) = acc ++ 44 :: (gK ks k).txt by
            rw [HACC.out, hsn, kidsPre_snoc _ _ (by intro e; have := congrArg List.length e; rw [List.length_take, List.length_nil] at this; omega)]; simp)
          rw [HSEP.out] at HLB2
          have hl := HLB2.out
          rw [List.length_append, List.length_cons] at hl
          have hkq : ((k : Int) == 0) = false := by rw [beq_eq_false_iff_ne]; omega
          have hd1 : ¬ 9223372036854775807 < acc.length + 1 := by omega
          have hd2 : ¬ 9223372036854775807 < acc.length + 1 + (gK ks k).txt.length := by omega
          have HREC := Lib.hid (HIH.out k hkl p _ wr (c2.carry (w' := wr) (fun c (hc : p c) _ => HBW.out.block c (HP.out _ hc))) (fun c hc => Nat.lt_of_lt_of_le (HP.out _ hc) HBW.out.size) HOK.out (by omega))
          clear hsn c0' c1' c2 hk0 hl
          go_wp2_with fail
          refine (HREC.out).mono ?_
          rintro e w7 ⟨rfl, hb7⟩
          have HB7 := Lib.hid (Below.step HBR.out hb7)
          clear HREC hb7 c0 c1
          go_wp2_with fail
          go_roundw
          case rel => exact ⟨k + 1, by omega, by rw [HSEP.out], by go_num, HB7⟩
          case measure => simp [intOf]; omega
      · obtain rfl : k = m := by omega
        have HKP := Lib.hid (show ks.take k = ks by rw [HM.out, List.take_length])
        have HBW := Lib.hid (Below.step HW.out HBR.out)
        by_cases hk0 : k = 0
        · have HTX2 := Lib.hid (show (T.node h ks).txt = acc by
            have hkn : ks = [] := List.eq_nil_of_length_eq_zero (by rw [← HM.out]; exact hk0)
            rw [HACC.out, HKP.out, HTX.out, hkn]; simp [kidsTxt, kidsPre])
          have hkz : ¬ 0 < k := by omega
          clear hk0
          go_wp2_with fail
          go_ret
          exact ⟨by rw [HTX2.out]; rfl, HBW.out⟩
        · have HTX2 := Lib.hid (show (T.node h ks).txt = acc ++ [41] by
            have hkn : ks ≠ [] := by intro e; rw [e] at HM; exact hk0 HM.out
            rw [HACC.out, HKP.out, HTX.out, kidsTxt_pre ks hkn]; simp)
          have hkz : 0 < k := by omega
          have hd1 : ¬ 9223372036854775807 < acc.length + 1 := by
            have h1 := HLEN.out; rw [HTX2.out, List.length_append] at h1; simp at h1; omega
          clear hk0
          go_wp2_with fail
          go_ret
          exact ⟨by rw [HTX2.out]; rfl, HBW.out⟩
end Go.Proofs.YtidgnbdlfngeaaaGreatDoor
