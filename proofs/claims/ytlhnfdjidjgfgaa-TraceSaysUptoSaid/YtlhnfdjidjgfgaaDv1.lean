/-
  Walk: the document's Bind.
-/
import Derived.Test.YtlhnfdjidjgfgaaProg
import Derived.Test.YtlhnfdjidjgfgaaXa
import Derived.Test.YtlhnfdjidjgfgaaXb
import Derived.RegionTactic
namespace Go.Proofs.Ytlhnfdjidjgfgaa
open Go.RowKit Go.Shelf
set_option linter.unusedVariables false
set_option maxHeartbeats 400000

set_option maxRecDepth 100000 in
set_option maxHeartbeats 4000000 in
theorem bind16 (bs : List T) (ao : Option Addr) (n c : Nat) (w : World) (hn : n = bs.length) (hs : ∀ i, i < bs.length → (gK bs i).size ≤ 1000000) (hb : RowAt w ao bs) :
    Calls Try.prog 59 #[.slice ao n c] w fun e w' => e = .returned (FV (bindF bs)) ∧ Below w.heap.size w w' := by
  subst hn
  have HB := Lib.hid hb; clear hb
  have hbx := heap_ofAlloc w (.cells #[.int .i64 0, .int .i64 0] 29)
  have hb0 := (Below.refl w.heap.size w).alloc (Nat.le_refl _) (.cells #[.int .i64 0, .int .i64 0] 29)
  by_cases h8 : (8 : Int) < bs.length
  · have HF := Lib.hid (show bindF bs = (2, -1) by rw [bindF, if_pos (by omega)])
    clear hs
    go_enter Try.func59, Try.ntmps59
    go_wp2_with fail
    refine (fault42 2 (-1) _).mono ?_
    rintro e w1 ⟨rfl, hb1⟩
    have hx1 := Below.heapAt hb1 hbx
    have hxl := heap_lt hx1
    have hbw := Below.step hb0 hb1
    obtain ⟨⟨y0, y1⟩, y2, y3⟩ := box2 hx1
    clear hbx hb0 hb1
    go_wp2_with fail
    refine ret_box2 (.int .i64 2) (.int .i64 (-1)) w.heap.size 29 (box2_set hx1 _ _) (fun w' q0 q1 => by simp [results, Try.results59, go_sem, q0, q1]) rfl ?_
    exact ⟨by rw [HF.out]; rfl, (hbw.setCell (p := ⟨w.heap.size, 0, none⟩) (by simp) _).setCell (p := ⟨w.heap.size, 1, none⟩) (by simp) _⟩
  · have HF := Lib.hid (show bindF bs = bindL bs 0 by rw [bindF, if_neg (by omega)])
    have HS := Lib.hid hs; clear hs
    go_enter Try.func59, Try.ntmps59
    go_wp2_with fail
    generalize w.alloc (.cells #[.int .i64 0, .int .i64 0] 29) = w0 at hbx hb0 ⊢
    have XB := Lib.hid hbx; have HB0 := Lib.hid hb0
    clear hbx hb0
    obtain ⟨bx, hbx⟩ : ∃ bx, bx = w.heap.size := ⟨_, rfl⟩
    rw [← hbx] at XB ⊢
    have HBX := Lib.hid hbx
    clear hbx
    go_loopw [3, 4] (fun i _ wr => ∃ k : Nat, k ≤ bs.length ∧ i = .int .i64 k ∧ bindL (bs.drop k) k = bindL bs 0 ∧ Below w0.heap.size w0 wr) (fun i _ _ => bs.length - (intOf i).toNat)
    case atStart => exact ⟨0, by omega, rfl, by simp, Below.refl _ _⟩
    case round =>
      obtain ⟨k, hk, rfl, hbl, hb⟩ := hrel
      have HBL := Lib.hid hbl; clear hbl
      have hx := Below.heapAt hb XB.out
      have hbw := Below.step HB0.out hb
      have hly : w.heap.size ≤ bx := by have := HBX.out; omega
      by_cases hlt : k < bs.length
      · obtain ⟨b, off, ko, ksp, rfl, c1, c2, c3⟩ := (HB.out.below hbw) k hlt
        have HC := Lib.hid c3
        have HD := Lib.hid (show bindL (bs.drop k) k = if (gK bs k).head = 0 then (if 0 < (gK bs k).kids.length then (5, -1 - (k : Int)) else bindL (bs.drop (k + 1)) (k + 1)) else if (treeF (gK bs k)).1 ≠ 0 then ((treeF (gK bs k)).1, -1 - (k : Int)) else bindL (bs.drop (k + 1)) (k + 1) by rw [drop_gK hlt, bindL])
        have HSZ := Lib.hid (HS.out k hlt)
        clear c3
        generalize gK bs k = x at c1 c2 HC HD HSZ ⊢
        cases h0 : (x.head == 0) with
        | true =>
          have HH := Lib.hid (eq_of_beq h0)
          by_cases hkl : (0 : Int) < x.kids.length
          · have HK := Lib.hid hkl
            go_wp2_with fail
            refine (fault42 5 (-1 - (k : Int)) _).mono ?_
            rintro e w1 ⟨rfl, hb1⟩
            have hx1 := Below.heapAt hb1 hx
            have hxl := heap_lt hx1
            have hbw1 := Below.step hbw hb1
            obtain ⟨⟨y0, y1⟩, y2, y3⟩ := box2 hx1
            go_wp2_with fail
            refine ret_box2 (.int .i64 5) (.int .i64 (-1 - (k : Int))) bx 29 (box2_set hx1 _ _) (fun w' q0 q1 => by simp [results, Try.results59, go_sem, q0, q1]) rfl ?_
            exact ⟨by rw [HF.out, ← HBL.out, HD.out, if_pos HH.out, if_pos (by have := HK.out; omega)]; rfl, (hbw1.setCell (p := ⟨bx, 0, none⟩) hly _).setCell (p := ⟨bx, 1, none⟩) hly _⟩
          · have HK := Lib.hid hkl
            go_wp2_with fail
            go_roundw
            case rel => exact ⟨k + 1, by omega, by go_num, by rw [← HBL.out, HD.out, if_pos HH.out, if_neg (by have := HK.out; omega)]; rfl, hb⟩
            case measure => simp [intOf] <;> omega
        | false =>
          have HH := Lib.hid (show x.head ≠ 0 by simpa using h0)
          go_wp2_with fail
          refine (tree18 x _ _ HSZ.out HC.out).mono ?_
          rintro e w1 ⟨rfl, hb1⟩
          have hx1 := Below.heapAt hb1 hx
          have hbw1 := Below.step hbw hb1
          have hb01 := Below.step hb hb1
          clear hb1 hx
          generalize treeF x = R at HD ⊢
          obtain ⟨rc, ra⟩ := R
          simp only [FV]
          cases hc : (rc != 0) with
          | false =>
            have HCC := Lib.hid (show rc = 0 by simpa using hc)
            go_wp2_with fail
            go_roundw
            case rel => exact ⟨k + 1, by omega, by go_num, by rw [← HBL.out, HD.out, if_neg HH.out, if_neg (by simp [HCC.out])]; rfl, hb01.alloc hb01.size _⟩
            case measure => simp [intOf] <;> omega
          | true =>
            have HCC := Lib.hid (show rc ≠ 0 by simpa using hc)
            have hx2 := heap_alloc_old (o' := .cells #[.int .i64 rc, .int .i64 ra] 29) hx1
            have hs1 := hbw1.size
            have hbw2 := hbw1.alloc hs1 (.cells #[.int .i64 rc, .int .i64 ra] 29)
            go_wp2_with fail
            refine (fault42 rc (-1 - (k : Int)) _).mono ?_
            rintro e w2 ⟨rfl, hb2⟩
            have hx3 := Below.heapAt hb2 hx2
            have hxl := heap_lt hx3
            have hbw3 := Below.step hbw2 hb2
            obtain ⟨⟨y0, y1⟩, y2, y3⟩ := box2 hx3
            go_wp2_with fail
            refine ret_box2 (.int .i64 rc) (.int .i64 (-1 - (k : Int))) bx 29 (box2_set hx3 _ _) (fun w' q0 q1 => by simp [results, Try.results59, go_sem, q0, q1]) rfl ?_
            exact ⟨by rw [HF.out, ← HBL.out, HD.out, if_neg HH.out, if_pos (by simpa using HCC.out)]; rfl, (hbw3.setCell (p := ⟨bx, 0, none⟩) hly _).setCell (p := ⟨bx, 1, none⟩) hly _⟩
      · obtain rfl : k = bs.length := by omega
        have hxl := heap_lt hx
        obtain ⟨⟨y0, y1⟩, y2, y3⟩ := box2 hx
        go_wp2_with fail
        refine ret_box2 (.int .i64 0) (.int .i64 0) bx 29 (box2_set hx _ _) (fun w' q0 q1 => by simp [results, Try.results59, go_sem, q0, q1]) rfl ?_
        exact ⟨by have h := HBL.out; rw [List.drop_length, bindL] at h; rw [HF.out, ← h]; rfl, (hbw.setCell (p := ⟨bx, 0, none⟩) hly _).setCell (p := ⟨bx, 1, none⟩) hly _⟩
end Go.Proofs.Ytlhnfdjidjgfgaa
