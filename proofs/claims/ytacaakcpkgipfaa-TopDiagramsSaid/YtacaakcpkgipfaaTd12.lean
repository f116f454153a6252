/-
  Walk: dia.Check of a diagram that Built has made.
-/
import Derived.Test.YtacaakcpkgipfaaProg
import Derived.Test.YtacaakcpkgipfaaTd11
import Derived.Test.YtacaakcpkgipfaaTd10
import Derived.RegionTactic
import Derived.BigQuiet
import Derived.Carry
import Derived.Deep.CutBlock
import Derived.Deep.DeepCutAuto
namespace Go.Proofs.Ytacaakcpkgipfaa
open Go.RowKit Go.Shelf Go.Maps
set_option linter.unusedVariables false
set_option linter.unusedSimpArgs false
set_option maxHeartbeats 400000

set_option maxRecDepth 100000 in
theorem in40 (v i b : Nat) (w : World) (h : v < i + 2) (hi : i ≤ 1000) (hc : w.cell? ⟨b, 0, none⟩ = some (.int .i64 i)) :
    Calls Try.prog 40 #[.int .i64 v, .pointer (some ⟨b, 0, none⟩)] w fun e w' => e = .returned (.bool true) ∧ w' = w := by
  have hv : (v : Int) < (i : Int) + 2 := by omega
  go_enter Try.func40, Try.ntmps40
  go_wp2_with fail
  go_ret
  exact ⟨rfl, rfl⟩
/-- the choices that have been seen -/
def CInv (f : Lit → Option Bool) (l : List Ch) : Prop := ∀ c : Ch, okC c → f (keyC c) = if c ∈ l then some true else none
open Classical in
theorem CInv.put {f : Lit → Option Bool} {l : List Ch} (h : CInv f l) {c : Ch} (hc : okC c) : CInv (fput f (keyC c) true) (l ++ [c]) := fun d hd => by
  unfold fput
  by_cases e : keyC d = keyC c
  · have := keyC_inj hd hc e
    subst this
    rw [if_pos rfl, if_pos (by simp)]
  · rw [if_neg e, h d hd]
    have hne : d ≠ c := fun e2 => e (by rw [e2])
    simp [hne]
set_option maxRecDepth 100000 in
set_option maxHeartbeats 8000000 in
theorem check26 (T : List Nat) (d : List Ch × Nat) (hd : DiaOk 6 T d) (q : Nat → Prop) (co : Option Addr) (cp : Nat) (w : World) (hrow : chE.Row q w co d.1) :
    Calls Try.prog 26 #[.int .i64 6, .agg #[.slice co d.1.length cp, .int .i64 d.2]] w fun e w' => e = .returned (.agg #[.int .i64 0, .int .i64 0]) ∧ Below w.heap.size w w' := by
  obtain ⟨cs, root⟩ := d
  have hlen : cs.length ≤ 63 := by have := hd.len; simp at this; omega
  have hroot : root < cs.length + 2 := hd.root
  have HD := Lib.hid hd
  have HROW := Lib.hid hrow
  dsimp only at hrow ⊢
  obtain ⟨n, hn⟩ : ∃ n, n = cs.length := ⟨_, rfl⟩
  rw [← hn] at hlen hroot ⊢
  have HN := Lib.hid hn
  obtain ⟨bx, hbx⟩ : ∃ b, b = w.heap.size := ⟨_, rfl⟩
  have hsz : ((w.alloc (.cells #[.slice co n cp, .int .i64 root] 44)).alloc (.cells #[.int .i64 0, .int .i64 0] 31)).heap.size = bx + 2 := by simp [hbx]
  have S1 := (((St.start w).box hbx.symm #[.slice co n cp, .int .i64 root] 44).box (b := bx + 1) (by simp [hbx]) #[.int .i64 0, .int .i64 0] 31)
  have S2 := (S1.alloc (.map #[] 0)).add (.bmap 72 4 ((w.alloc (.cells #[.slice co n cp, .int .i64 root] 44)).alloc (.cells #[.int .i64 0, .int .i64 0] 31)).heap.size 0 (fun _ => none)) (BMap.made _ _ _)
  rw [hsz] at S2
  have HBX := Lib.hid hbx
  have HS2 := Lib.hid S2
  clear S1 S2 hsz hd hrow hn
  have hmm := @run_makeMap Try.prog
  go_enter Try.func26, Try.ntmps26
  go_upto_region 6 with fail
  rw [← hbx]
  simp only [Nat.add_assoc, Nat.reduceAdd]
  refine HS2.out.genC (z := bx + 2) (by simp [hbx]) ?_
  clear HS2 hbx hmm
  intro w1 z1 S
  obtain ⟨⟨y0, _⟩, y1, _⟩ := S.two 0
  have HS := Lib.hid S
  clear S
  go_wp2_with fail
  clear y0 y1
  go_loopw [27] (fun i wr => ∃ (k nf : Nat) (f : Lit → Option Bool), k ≤ n ∧ i = .int .i64 k ∧ nf ≤ k ∧ Hid (CInv f (cs.take k)) ∧ St w wr [.box bx #[.slice co n cp, .int .i64 root] 44, .box (bx + 1) #[.int .i64 0, .int .i64 0] 31, .bmap 72 4 (bx + 2) nf f]) (fun i _ => n - (intOf i).toNat)
  case atStart => exact ⟨0, 0, _, by omega, rfl, by omega, Lib.hid (fun c _ => by simp), HS.out⟩
  case round =>
    clear HS
    obtain ⟨k, nf, f, hk, rfl, hnf, HF, S⟩ := hrel
    by_cases hlt : k < n
    · have hkc : k < cs.length := by have := HN.out; omega
      obtain ⟨b, off, rfl, _, c0, c1, c2⟩ := (HROW.out.kept S.bel).ch hkc
      obtain ⟨g1, g2, g3, g4, g5, g6, g7⟩ := HD.out.good.ok k cs[k] (List.getElem?_eq_getElem hkc)
      have HNM := Lib.hid (show cs[k] ∉ cs.take k from fun hm => by
        obtain ⟨j, hj, he⟩ := List.getElem_of_mem hm
        have hjk : j < k := by simp at hj; omega
        rw [List.getElem_take] at he
        exact absurd (List.getElem_inj (h₀ := by omega) (h₁ := hkc) HD.out.good.nodup |>.1 he) (by omega))
      have HTK := Lib.hid (show cs.take (k + 1) = cs.take k ++ [cs[k]] from List.take_succ_eq_append_getElem hkc)
      obtain ⟨c, hc⟩ : ∃ c, c = cs[k] := ⟨_, rfl⟩
      rw [← hc] at c0 c1 c2 g1 g2 g3 g4 g5 g6 g7 HNM HTK
      have hokc : okC c := ⟨by omega, by omega, by omega⟩
      have HOKC := Lib.hid hokc
      have HL1 := Lib.hid (lvl_lev g6 g5)
      have HL2 := Lib.hid (lvl_lev g7 g5)
      have HLT := Lib.hid (And.intro g1 g2)
      obtain ⟨v, lo, hi⟩ := c
      dsimp only at c0 c1 c2 g1 g2 g3 g4 g5 HL1 HL2 HLT hokc
      have hki : (k : Int) < (n : Int) := by omega
      obtain ⟨⟨y0, _⟩, y1, _⟩ := S.two 0
      obtain ⟨b6, hb6⟩ : ∃ b, b = wr.heap.size := ⟨_, rfl⟩
      have S1 := (S.box hb6.symm #[.int .i64 (k : Nat)] 3).box (b := b6 + 1) (by simp [hb6]) #[.int .i64 (v : Nat), .int .i64 (lo : Nat), .int .i64 (hi : Nat)] 72
      have HB6 := Lib.hid (show bx + 2 < b6 by have := (S.bmap 2).lt; omega)
      clear hc g6 g7 S
      go_upto_region 10 with fail
      rw [← hb6]
      refine S1.genC (z := 0) (by omega) ?_
      clear S1 hb6 y0 y1 c0 c1 c2
      intro w2 _ S
      obtain ⟨z0, _⟩ := S.one 3
      have x0 := (S.cell 4 0 rfl).1
      have x1 := (S.cell 4 1 rfl).1
      have x2 := (S.cell 4 2 rfl).1
      have hk1 : k ≤ 1000 := by omega
      have hv1 : 1 ≤ (v : Int) := by omega
      have hv6 : (v : Int) ≤ 6 := by omega
      have HS := Lib.hid S
      clear S g4 g5
      go_wp2_with fail
      refine (in40 lo k b6 w2 HLT.out.1 hk1 z0).mono ?_
      rintro e w3 ⟨rfl, hw⟩
      replace hw := hw.symm
      subst hw
      go_wp2_with fail
      refine (in40 hi k b6 w2 HLT.out.2 hk1 z0).mono ?_
      rintro e w3 ⟨rfl, hw⟩
      replace hw := hw.symm
      subst hw
      go_upto_region 12 with fail
      have CA := Lib.hid (fun dd os => Calls.regrown_of (level41 cs root q (some ⟨b, off, none⟩) cp lo (Go.Sort.grow (redrawn w2 dd) os) (by have := HN.out; have := HLT.out.1; omega) (by have := HN.out; omega) (HROW.out.kept (HS.out.regrown dd os).bel)))
      have CB := Lib.hid (fun dd os => Calls.regrown_of (level41 cs root q (some ⟨b, off, none⟩) cp hi (Go.Sort.grow (redrawn w2 dd) os) (by have := HN.out; have := HLT.out.2; omega) (by have := HN.out; omega) (HROW.out.kept (HS.out.regrown dd os).bel)))
      rw [← HN.out] at CA CB
      have l1 := HL1.out; have l2 := HL2.out
      obtain ⟨L1, hL1⟩ : ∃ z, z = lvl cs lo := ⟨_, rfl⟩
      obtain ⟨L2, hL2⟩ : ∃ z, z = lvl cs hi := ⟨_, rfl⟩
      rw [← hL1] at CA l1; rw [← hL2] at CB l2
      have heq : ((lo : Int) == (hi : Int)) = false := by simp; omega
      have q1 : decide (L1 ≤ (v : Int)) = false := decide_eq_false (by omega)
      have q2 : decide (L2 ≤ (v : Int)) = false := decide_eq_false (by omega)
      obtain ⟨⟨y0, _⟩, y1, _⟩ := HS.out.two 0
      have r0 := cell_regrown x0; have r1 := cell_regrown x1; have r2 := cell_regrown x2
      have r3 := cell_regrown y0; have r4 := cell_regrown y1
      clear hL1 hL2 HL1 HL2 x0 x1 x2 y0 y1 z0 g3
      refine wp_region_quiet_below (by kernel_rfl) (by kernel_rfl) ?_
      iterate 12 (go_big_quiet_step (exact CA.out _ _))
      iterate 12 (go_big_quiet_step (exact CB.out _ _))
      refine wpQuiet_nil ?_
      intro _ hw'
      obtain ⟨⟨dq, osq⟩, hw''⟩ := hw'
      subst hw''
      have S3 := HS.out.regrown dq osq
      clear r0 r1 r2 r3 r4 CA CB l1 l2 q1 q2 heq HS
      have x0 := (S3.cell 4 0 rfl).1
      have x1 := (S3.cell 4 1 rfl).1
      have x2 := (S3.cell 4 2 rfl).1
      have hlk := (S3.bmap 2).look (t := 92) keyedC Try.underlying92 Try.underlying4 (by rfl) (keyOf_C HOKC.out)
      rw [HF.out _ HOKC.out, if_neg HNM.out] at hlk
      simp only [valC, Option.getD_none] at hlk
      obtain ⟨w12, hrun, hm12, hg12⟩ := (S3.bmap 2).store (t := 92) keyedC Try.underlying92 Try.underlying4 (by unfold maxLen; omega) (keyOf_C HOKC.out) (v := true)
      simp only [valC] at hrun
      have S4 := Lib.hid ((S3.turn 2 (F' := .bmap 72 4 (bx + 2) (nf + 1) (fput f (keyC (v, lo, hi)) true)) rfl (fun c h => h) hm12 hg12 (by have := HBX.out; omega) (by have := HB6.out; simp only [fsnoc, offs, offAll, Fct.box, Fct.bmap, and_true]; omega)).pick [0, 1, 2])
      clear S3 hm12 hg12
      go_wp2_with fail
      go_roundw
      case rel => exact ⟨k + 1, nf + 1, _, by omega, by go_num, by omega, by rw [HTK.out]; exact Lib.hid (HF.out.put HOKC.out), S4.out⟩
      case measure => simp [intOf] <;> omega
    · obtain rfl : k = n := by omega
      have hvis : visF cs root root 2 = some (cs.length + 2) := HD.out.vis
      have HC := finished42 q cs co cp root wr (by have := HN.out; omega) (HROW.out.kept S.bel) (fun j c hc => ⟨(HD.out.good.ok j c hc).1, (HD.out.good.ok j c hc).2.1⟩) (by have := HN.out; omega) hvis
      rw [← HN.out] at HC
      have HCC := Lib.hid (S.quiet HC)
      obtain ⟨⟨y0, _⟩, y1, _⟩ := S.two 0
      have hri : (root : Int) < (k : Int) + 2 := by omega
      clear HC S hvis
      go_wp2_with fail
      refine HCC.out.mono ?_
      rintro e w2 ⟨rfl, _, S⟩
      obtain ⟨⟨z0, z1'⟩, z2, z3⟩ := S.two 1
      have hly := S.lt 1
      have HSB := Lib.hid S
      clear S
      go_wp2_with fail
      have S3 := Lib.hid (HSB.out.set2 1 rfl (.int .i64 0) (.int .i64 0) (by have := HBX.out; omega) (by simp only [offs, offAll, Fct.box, Fct.bmap, and_true]; omega))
      refine ret_box2 (.int .i64 0) (.int .i64 0) (bx + 1) 31 (box2_set (HSB.out.block 1) _ _) (fun w' q0 q1 => by simp [results, Try.results26, go_sem, q0, q1]) rfl ?_
      exact ⟨rfl, S3.out.bel⟩
end Go.Proofs.Ytacaakcpkgipfaa
