/-
  Walks: cdcl's first steps, for the two clauses 1 and not 1.
-/
import Derived.Test.YtlpoedjipncbhaaProg
import Derived.Test.YtlpoedjipncbhaaTd6
import Derived.Test.YtlpoedjipncbhaaTd3
import Derived.Test.YtlpoedjipncbhaaEk2
import Derived.Deep.CutBlock
import Derived.Test.YtlpoedjipncbhaaG7
import Derived.RegionTactic
import Derived.BigQuiet
import Derived.Deep.DeepCutAuto
namespace Go.Proofs.Ytlpoedjipncbhaa
open Go.RowKit Go.Shelf
set_option linter.unusedVariables false
set_option linter.unusedSimpArgs false
set_option maxHeartbeats 400000

set_option maxRecDepth 100000 in
set_option maxHeartbeats 4000000 in
theorem check20v (p : Nat → Prop) (ao : Option Addr) (cs : List (List Int)) (cp : Nat) (w : World) (hG : ∀ c ∈ cs, GoodC 1 c) (hc : intsE.Row p w ao cs) (hn : cs.length ≤ 16) :
    Calls Try.prog 20 #[.agg #[.int .i64 1, .slice ao cs.length cp]] w fun e w' => e = .returned (.agg #[.int .i64 0, .int .i64 0]) ∧ Below w.heap.size w w' := by
  have HC := Lib.hid hc
  have HG := Lib.hid hG
  obtain ⟨m, hm⟩ : ∃ m, m = cs.length := ⟨_, rfl⟩
  rw [← hm] at hn ⊢
  have HM := Lib.hid hm
  obtain ⟨bx, hbx⟩ : ∃ b, b = w.heap.size := ⟨_, rfl⟩
  have S1 := ((St.start w).box hbx.symm #[.int .i64 1, .slice ao m cp] 25).box (b := bx + 1) (by simp [hbx]) #[.int .i64 0, .int .i64 0] 32
  have HBX := Lib.hid hbx
  clear hc hG hm
  go_enter Try.func20, Try.ntmps20
  go_wp2_with fail
  rw [← hbx]
  refine S1.genC (z := bx + 2) (by simp [hbx]) ?_
  intro w1 z1 S
  clear S1 hbx
  go_wp2_with fail
  go_loopw [26] (fun i wr => ∃ k : Nat, k ≤ m ∧ i = .int .i64 k ∧ St w wr [.box bx #[.int .i64 1, .slice ao m cp] 25, .box (bx + 1) #[.int .i64 0, .int .i64 0] 32]) (fun i _ => m - (intOf i).toNat)
  case atStart => exact ⟨0, Nat.zero_le _, rfl, S⟩
  case round =>
    clear S
    obtain ⟨k, hk, rfl, S⟩ := hrel
    by_cases hlt : k < m
    · have hltc : k < cs.length := by have := HM.out; omega
      obtain ⟨y0, y1⟩ := S.two 0
      obtain ⟨b, off, ko, sp, rfl, hpb, c1, h1, h2⟩ := (HC.out.kept S.bel).ints hltc
      have HGc := Lib.hid (HG.out cs[k] (List.getElem_mem hltc))
      obtain ⟨x, hx⟩ : ∃ x, x = cs[k] := ⟨_, rfl⟩
      rw [← hx] at c1 h1 HGc
      have hl3 := HGc.out.len
      have H1 := Lib.hid h1
      obtain ⟨xl, hxl⟩ : ∃ n, n = x.length := ⟨_, rfl⟩
      have HXL := Lib.hid hxl
      rw [← hxl] at c1 hl3
      clear hx h1 h2 hxl hltc
      go_wp2_with fail
      have HB := bad34 1 p ko x sp wr HGc.out H1.out (by omega)
      rw [← HXL.out] at HB
      refine (S.quiet HB).mono ?_
      clear HB
      rintro e w2 ⟨rfl, z2, S2⟩
      have SB := Lib.hid S2
      clear S S2
      go_wp2_with fail
      go_roundw
      case rel => exact ⟨k + 1, by omega, by go_num, SB.out⟩
      case measure => simp [intOf] <;> omega
    · obtain rfl : k = m := by omega
      have S3 := Lib.hid (S.set2 1 rfl (.int .i64 0) (.int .i64 0) (by have := HBX.out; omega) (by simp only [offs, offAll, Fct.box, and_true]; omega))
      have SB := Lib.hid S
      obtain ⟨⟨y0, y1⟩, y2, y3⟩ := S.two 1
      have hly := S.lt 1
      clear S
      go_wp2_with fail
      refine ret_box2 (.int .i64 0) (.int .i64 0) (bx + 1) 32 (box2_set (SB.out.block 1) _ _) (fun w' q0 q1 => by simp [results, Try.results20, go_sem, q0, q1]) rfl ?_
      exact ⟨rfl, S3.out.bel⟩


set_option maxRecDepth 100000 in
theorem list47 (w : World) : Calls Try.prog 47 #[.slice none 0 0, .int .i64 1] w fun e w' => e = .returned (.agg #[.int .i64 0, .int .i64 0]) ∧ Below w.heap.size w w' := by
  have HBD := Lib.hid (fun (W : World) => bad34 1 (fun _ => True) none [] 0 W ⟨by simp, by simp, .nil⟩ (fun i x hx => by simp at hx) (by omega))
  obtain ⟨bx, hbx⟩ : ∃ b, b = w.heap.size := ⟨_, rfl⟩
  have S1 := (St.start w).box hbx.symm #[.int .i64 0, .int .i64 0] 32
  have HBX := Lib.hid hbx
  go_enter Try.func47, Try.ntmps47
  go_wp2_with fail
  rw [← hbx]
  refine S1.gen (z := bx + 1) (by simp [hbx]) ?_
  intro w1 z1 S
  clear S1 hbx
  refine (S.quiet (HBD.out w1)).mono ?_
  rintro e w2 ⟨rfl, z2, S2⟩
  have S3 := Lib.hid (S2.set2 0 rfl (.int .i64 0) (.int .i64 0) (by have := HBX.out; omega) (by simp only [fsnoc, offs, offAll, Fct.box, and_true]))
  have SB := Lib.hid S2
  obtain ⟨⟨y0, y1⟩, y2, y3⟩ := S2.two 0
  have hly := S2.lt 0
  clear S S2
  go_wp2_with fail
  refine ret_box2 (.int .i64 0) (.int .i64 0) bx 32 (box2_set (SB.out.block 0) _ _) (fun w' q0 q1 => by simp [results, Try.results47, go_sem, q0, q1]) rfl ?_
  exact ⟨rfl, S3.out.bel⟩
set_option maxRecDepth 100000 in
theorem both28 (p : Nat → Prop) (ao : Option Addr) (cs : List (List Int)) (cp : Nat) (w : World) (hG : ∀ c ∈ cs, GoodC 1 c) (hc : intsE.Row p w ao cs) (hn : cs.length ≤ 16) :
    Calls Try.prog 28 #[.agg #[.int .i64 1, .slice ao cs.length cp], .slice none 0 0] w fun e w' => e = .returned (.agg #[.int .i64 0, .int .i64 0]) ∧ Below w.heap.size w w' := by
  have HCK := Lib.hid (fun (W : World) (hW : Below w.heap.size w W) => check20v p ao cs cp W hG (hc.kept hW) hn)
  obtain ⟨m, hm⟩ : ∃ m, m = cs.length := ⟨_, rfl⟩
  rw [← hm] at HCK ⊢
  obtain ⟨bx, hbx⟩ : ∃ b, b = w.heap.size := ⟨_, rfl⟩
  have S1 := ((St.start w).box hbx.symm #[.int .i64 1, .slice ao m cp] 25).box (b := bx + 1) (by simp [hbx]) #[.int .i64 0, .int .i64 0] 32
  have HBX := Lib.hid hbx
  clear hc hG hm hn
  go_enter Try.func28, Try.ntmps28
  go_wp2_with fail
  rw [← hbx]
  refine S1.gen (z := bx + 2) (by simp [hbx]) ?_
  intro w1 z1 S
  clear S1 hbx
  refine (S.quiet (HCK.out w1 S.bel)).mono ?_
  rintro e w2 ⟨rfl, z2, S2⟩
  obtain ⟨b2, hb2⟩ : ∃ b, b = w2.heap.size := ⟨_, rfl⟩
  have S3 := S2.box hb2.symm #[.int .i64 0, .int .i64 0] 32
  have HB2 := Lib.hid (show bx + 2 ≤ b2 by omega)
  clear S S2 HCK
  go_upto_region 2 with fail
  rw [← hb2]
  refine S3.genC (z := b2 + 1) (by simp [hb2]) ?_
  intro w3 z3 S
  obtain ⟨⟨y0, y1⟩, y2, y3⟩ := S.two 2
  obtain ⟨⟨u0, u1⟩, u2, u3⟩ := S.two 0
  clear S3 hb2
  go_wp2_with fail
  refine (S.quiet (list47 w3)).mono ?_
  rintro e w4 ⟨rfl, z4, S4⟩
  have S5 := Lib.hid (S4.set2 1 rfl (.int .i64 0) (.int .i64 0) (by have := HBX.out; omega) (by have := HB2.out; simp only [fsnoc, offs, offAll, Fct.box, and_true]; omega))
  have SB := Lib.hid S4
  clear y0 y1 y2 y3 u0 u1 u2 u3
  obtain ⟨⟨y0, y1⟩, y2, y3⟩ := S4.two 1
  have hly := S4.lt 1
  clear S S4
  go_wp2_with fail
  refine ret_box2 (.int .i64 0) (.int .i64 0) (bx + 1) 32 (box2_set (SB.out.block 1) _ _) (fun w' q0 q1 => by simp [results, Try.results28, go_sem, q0, q1]) rfl ?_
  exact ⟨rfl, S5.out.bel⟩
set_option maxRecDepth 100000 in
theorem opt48 (x m : Int) (w : World) (h0 : 0 ≤ x) (h1 : x ≤ m) : Calls Try.prog 48 #[.int .i64 x, .int .i64 m] w fun e w' => e = .returned (.bool true) ∧ w' = w := by
  go_enter Try.func48, Try.ntmps48
  go_wp2_with fail
  go_ret
  exact ⟨rfl, rfl⟩
set_option maxRecDepth 100000 in
theorem options29 (w : World) : Calls Try.prog 29 #[.agg #[.int .i64 0, .int .i64 0, .int .i64 0, .int .i64 0], .int .i64 2000] w fun e w' => e = .returned (.agg #[.int .i64 0, .int .i64 0]) ∧ Below w.heap.size w w' := by
  obtain ⟨bx, hbx⟩ : ∃ b, b = w.heap.size := ⟨_, rfl⟩
  have S1 := ((St.start w).box hbx.symm #[.int .i64 0, .int .i64 0, .int .i64 0, .int .i64 0] 52).box (b := bx + 1) (by simp [hbx]) #[.int .i64 0, .int .i64 0] 32
  have HBX := Lib.hid hbx
  go_enter Try.func29, Try.ntmps29
  go_upto_region 2 with fail
  rw [← hbx]
  refine S1.genC (z := bx + 2) (by simp [hbx]) ?_
  intro w1 z1 S
  clear S1 hbx
  have x0 := (S.cell 0 0 rfl).1
  have x1 := (S.cell 0 1 rfl).1
  have x2 := (S.cell 0 2 rfl).1
  have x3 := (S.cell 0 3 rfl).1
  obtain ⟨⟨y0, y1⟩, y2, y3⟩ := S.two 1
  have hly := S.lt 1
  have S5 := Lib.hid (S.set2 1 rfl (.int .i64 0) (.int .i64 0) (by have := HBX.out; omega) (by simp only [fsnoc, offs, offAll, Fct.box, and_true]; omega))
  have SB := Lib.hid S
  clear S
  iterate 5
    go_wp2_with fail
    refine (opt48 _ _ _ (by omega) (by omega)).mono ?_
    rintro e w2 ⟨rfl, hw⟩
    have hw := hw.symm
    subst hw
  go_wp2_with fail
  refine ret_box2 (.int .i64 0) (.int .i64 0) (bx + 1) 32 (box2_set (SB.out.block 1) _ _) (fun w' q0 q1 => by simp [results, Try.results29, go_sem, q0, q1]) rfl ?_
  exact ⟨rfl, S5.out.bel⟩
end Go.Proofs.Ytlpoedjipncbhaa
