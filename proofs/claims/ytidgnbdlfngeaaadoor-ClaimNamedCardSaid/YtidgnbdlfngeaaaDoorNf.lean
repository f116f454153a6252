/-
  claim.Form and claim.Norm for clauses of any length.
-/
import Derived.Test.YtidgnbdlfngeaaaDoorProg
import Derived.Test.YtidgnbdlfngeaaaDoorM4
namespace Go.Proofs.YtidgnbdlfngeaaaDoor
open Go.RowKit Go.Shelf Go.Maps
set_option linter.unusedVariables false
set_option maxHeartbeats 400000

set_option maxRecDepth 100000 in
set_option maxHeartbeats 4000000 in
theorem form18g (fs : List Fc) (p : Nat → Prop) (ao : Option Addr) (sp : Nat) (w : World) (h : factE.Row p w ao fs) (hn : fs.length ≤ 9223372036854775807) :
    Calls Tryd.prog 26 #[.agg #[.slice ao fs.length (fs.length + sp)]] w fun e w' => e = .returned (.int .i64 (formF fs)) ∧ Below w.heap.size w w' := by
  have HR := Lib.hid h
  obtain ⟨bx, hbx⟩ : ∃ b, b = w.heap.size := ⟨_, rfl⟩
  have S := (St.start w).box hbx.symm #[.slice ao fs.length (fs.length + sp)] 37
  have HBX := Lib.hid hbx
  have hsz : (w.alloc (.cells #[.slice ao fs.length (fs.length + sp)] 37)).heap.size = bx + 1 := by simp [hbx]
  clear h
  by_cases h6 : 6 < fs.length
  · have HF := Lib.hid (show formF fs = 2 by unfold formF; rw [if_pos h6])
    have SE := Lib.hid S.bel
    have h6i : (6 : Int) < (fs.length : Int) := by omega
    clear S h6
    go_enter Tryd.func26, Tryd.ntmps26
    go_wp2_with fail
    go_ret
    exact ⟨ret_int HF.out.symm, SE.out⟩
  · have HF := Lib.hid (show formF fs = firstC (treesF fs) by unfold formF; rw [if_neg h6])
    have h6i : ¬ (6 : Int) < (fs.length : Int) := by omega
    have HTL := Lib.hid (treesF_length fs)
    go_enter Tryd.func26, Tryd.ntmps26
    go_wp2_with fail
    rw [← hbx]
    refine S.genC (z := bx + 1) (by omega) ?_
    intro w1 z1 S1
    clear S hbx hsz
    go_loopw [15] (fun i wr => ∃ k : Nat, k ≤ fs.length ∧ i = .int .i64 k ∧ okUpto (treesF fs) (2 * k) ∧ bx + 1 ≤ wr.heap.size ∧ St w wr [.box bx #[.slice ao fs.length (fs.length + sp)] 37]) (fun i _ => fs.length - (intOf i).toNat)
    case atStart => exact ⟨0, by omega, rfl, fun j t hj _ => by omega, z1, S1⟩
    case round =>
      clear S1
      obtain ⟨k, hk, rfl, hno, z2, S⟩ := hrel
      have HNO := Lib.hid hno
      clear hno
      by_cases hlt : k < fs.length
      · have hlti : (k : Int) < (fs.length : Int) := by omega
        obtain ⟨b, off, ka, sa, kb, sb, rfl, hpb, c0, c1, c2, c3, c4, t1, t2⟩ := (HR.out.kept S.bel).fact hlt
        have HP := Lib.hid (treesF_pair hlt)
        obtain ⟨X, hX⟩ : ∃ X, X = fs[k].l := ⟨_, rfl⟩
        obtain ⟨Y, hY⟩ : ∃ Y, Y = fs[k].r := ⟨_, rfl⟩
        rw [← hX] at c1 c2 t1 HP
        rw [← hY] at c3 c4 t2 HP
        have S2 := S.add (.treeP p (.agg #[.int .i64 X.head, .slice ka X.kids.length (X.kids.length + sa)]) X) t1
        have S2 := S2.add (.treeP p (.agg #[.int .i64 Y.head, .slice kb Y.kids.length (Y.kids.length + sb)]) Y) t2
        obtain ⟨bq, hbq⟩ : ∃ b, b = wr.heap.size := ⟨_, rfl⟩
        have S3 := (S2.box hbq.symm #[.bool fs[k].neg, .int .i64 X.head, .slice ka X.kids.length (X.kids.length + sa), .int .i64 Y.head, .slice kb Y.kids.length (Y.kids.length + sb)] 47).box (b := bq + 1) (by simp [hbq]) #[.int .i64 X.head, .slice ka X.kids.length (X.kids.length + sa), .int .i64 Y.head, .slice kb Y.kids.length (Y.kids.length + sb)] 45
        clear hX hY S S2 t1 t2
        go_wp2_with fail
        rw [← hbq]
        refine S3.genC (z := bq + 2) (by simp [hbq]) ?_
        intro w2 z3 S
        have HBQ := Lib.hid (show bx + 1 ≤ bq by omega)
        clear S3 hbq c0 c1 c2 c3 c4
        obtain ⟨wv, hwv⟩ : ∃ W, W = wr := ⟨_, rfl⟩
        clear hwv
        go_loopw [25] (fun i wr2 => ∃ m : Nat, m ≤ 2 ∧ i = .int .i64 m ∧ okUpto (treesF fs) (2 * k + m) ∧ bq + 2 ≤ wr2.heap.size ∧ St w wr2 [.box bx #[.slice (some ⟨b, off, none⟩) fs.length (fs.length + sp)] 37, .treeP p (.agg #[.int .i64 X.head, .slice ka X.kids.length (X.kids.length + sa)]) X, .treeP p (.agg #[.int .i64 Y.head, .slice kb Y.kids.length (Y.kids.length + sb)]) Y,
          .box bq #[.bool fs[k].neg, .int .i64 X.head, .slice ka X.kids.length (X.kids.length + sa), .int .i64 Y.head, .slice kb Y.kids.length (Y.kids.length + sb)] 47, .box (bq + 1) #[.int .i64 X.head, .slice ka X.kids.length (X.kids.length + sa), .int .i64 Y.head, .slice kb Y.kids.length (Y.kids.length + sb)] 45]) (fun i _ => 2 - (intOf i).toNat)
        case atStart => exact ⟨0, by omega, rfl, HNO.out, z3, S⟩
        case round =>
          clear S
          obtain ⟨m, hm, rfl, hno, z4, S⟩ := hrel
          have HNM := Lib.hid hno
          clear hno
          by_cases hlt2 : m < 2
          · obtain ⟨A, hA⟩ : ∃ A, A = pairT X Y m := ⟨_, rfl⟩
            have HA := Lib.hid (show (treesF fs)[2 * k + m]? = some A by rw [hA]; exact pairT_at HP.out.1 HP.out.2 hlt2)
            obtain ⟨kA, sA, c0, c1, hTA⟩ : ∃ kA sA, wr.cell? ⟨bq + 1, m * 2, none⟩ = some (.int .i64 A.head) ∧ wr.cell? ⟨bq + 1, m * 2 + 1, none⟩ = some (.slice kA A.kids.length (A.kids.length + sA)) ∧
                TreeAt wr (.agg #[.int .i64 A.head, .slice kA A.kids.length (A.kids.length + sA)]) A := by
              rcases (show m = 0 ∨ m = 1 by omega) with rfl | rfl
              · obtain rfl : A = X := hA
                exact ⟨ka, sa, (S.cell 4 0 rfl).1, (S.cell 4 1 rfl).1, (S.treeP 1).at⟩
              · obtain rfl : A = Y := hA
                exact ⟨kb, sb, (S.cell 4 2 rfl).1, (S.cell 4 3 rfl).1, (S.treeP 2).at⟩
            have hlti2 : (m : Int) < 2 := by omega
            obtain ⟨br, hbr⟩ : ∃ b, b = wr.heap.size := ⟨_, rfl⟩
            have SR := S.box hbr.symm #[.int .i64 A.head, .slice kA A.kids.length (A.kids.length + sA)] 45
            have SR := SR.add (.treeP (fun b => b < wr.heap.size) (.agg #[.int .i64 A.head, .slice kA A.kids.length (A.kids.length + sA)]) A) (hTA.foot.kept ((Below.refl _ wr).alloc (Nat.le_refl _) _))
            clear hA S hTA
            go_wp2_with fail
            rw [← hbr]
            refine SR.gen (z := br + 1) (by simp [hbr]) ?_
            intro w3 z5 S
            have HBR := Lib.hid (show bq + 2 ≤ br by omega)
            clear SR hbr c0 c1
            refine (S.faultF (check29 A _ w3 (S.treeP 6).at)).mono ?_
            rintro e w4 ⟨c, d, rfl, HC, z6, S3⟩
            clear S
            have HC1 := Lib.hid (show (treeF A).1 = c by rw [HC.out])
            by_cases hc : c = 0
            · have hcb : (c != 0) = false := by simp [hc]
              have HN := Lib.hid (HNM.out.step HA.out (by rw [HC1.out, hc]))
              have SC := Lib.hid ((S3.alloc (.cells #[.int .i64 c, .int .i64 d] 28)).pick [0, 1, 2, 3, 4])
              clear S3 hc
              go_wp2_with fail
              go_roundw
              case rel => exact ⟨m + 1, by omega, by go_num, HN.out, by have := HBR.out; simp; omega, SC.out⟩
              case measure => simp [intOf] <;> omega
            · have hcb : (c != 0) = true := by simp [hc]
              have HFI := Lib.hid (show formF fs = c by rw [HF.out, firstC_hit HNM.out HA.out (by rw [HC1.out]; exact hc), HC1.out])
              have SC := Lib.hid (S3.alloc (.cells #[.int .i64 c, .int .i64 d] 28)).bel
              clear S3 hc
              go_wp2_with fail
              go_ret
              exact ⟨ret_int HFI.out.symm, SC.out⟩
          · obtain rfl : m = 2 := by omega
            have S4 := S.pick [0]
            clear S
            go_wp2_with fail
            go_roundw
            case rel => exact ⟨k + 1, by omega, by go_num, by rw [show 2 * (k + 1) = 2 * k + 2 by omega]; exact HNM.out, by have := HBQ.out; omega, S4⟩
            case measure => simp [intOf] <;> omega
      · obtain rfl : k = fs.length := by omega
        have HFI := Lib.hid (show formF fs = 0 by rw [HF.out, firstC_none (fun j t hj ht => HNO.out j t (by have := HTL.out; omega) ht)])
        have SC := Lib.hid S.bel
        clear S
        go_wp2_with fail
        go_ret
        exact ⟨ret_int HFI.out.symm, SC.out⟩

set_option maxRecDepth 100000 in
set_option maxHeartbeats 4000000 in
theorem norm17g (fs : List Fc) (p : Nat → Prop) (w : World) (ao : Option Addr) (sp : Nat) (hp : ∀ c, p c → c < w.heap.size) (h : factE.Row p w ao fs) (hn : fs.length ≤ 9223372036854775807) :
    Calls Tryd.prog 9 #[.agg #[.slice ao fs.length (fs.length + sp)]] w fun e w' => ∃ ro rsp, e = .returned (.tuple #[.agg #[.slice ro (normO fs).length ((normO fs).length + rsp)], .agg #[.int .i64 (formF fs), .int .i64 0]]) ∧
      factE.Row (fun c => w.heap.size ≤ c) w' ro (normO fs) ∧ Below w.heap.size w w' := by
  have HR := Lib.hid h; have HP := Lib.hid hp
  obtain ⟨bx, hbx⟩ : ∃ b, b = w.heap.size := ⟨_, rfl⟩
  have S1 := (((St.start w).box hbx.symm #[.slice ao fs.length (fs.length + sp)] 37).box (b := bx + 1) (by simp [hbx]) #[.slice none 0 0] 37).box (b := bx + 2) (by simp [hbx]) #[.int .i64 0, .int .i64 0] 28
  have hsz1 : (((w.alloc (.cells #[.slice ao fs.length (fs.length + sp)] 37)).alloc (.cells #[.slice none 0 0] 37)).alloc (.cells #[.int .i64 0, .int .i64 0] 28)).heap.size = bx + 3 := by simp [hbx]
  clear h hp
  go_enter Tryd.func9, Tryd.ntmps9
  go_wp2_with fail
  rw [← hbx]
  refine S1.gen (z := bx + 3) (by omega) ?_
  intro w3 z3 S
  have HBX := Lib.hid hbx
  clear S1 hbx hsz1
  refine (S.quiet (form18g fs p ao sp w3 (HR.out.kept S.bel) hn)).mono ?_
  rintro e w4 ⟨rfl, z4, S4⟩
  clear S
  obtain ⟨c, hc⟩ : ∃ c, c = formF fs := ⟨_, rfl⟩
  by_cases h0 : c = 0
  · have hcb : (c != 0) = false := by simp [h0]
    have HF := Lib.hid (formF_ok (by rw [← hc]; exact h0))
    have HC := Lib.hid hc
    have HE := Lib.hid (show normO fs = rnA fs by unfold normO; rw [if_pos (by rw [← hc]; exact h0), rnA_norm HF.out.2])
    rw [← hc]
    have H0 := Lib.hid h0
    clear hc h0
    obtain ⟨x0, _⟩ := S4.one 0
    go_wp2_with fail
    refine (renamed65 fs p w4 ao sp (fun b hb => by have := HP.out b hb; have := HBX.out; omega) (HR.out.kept S4.bel) (by have := HF.out.1; omega) (fun i t ht => ⟨(low_of_ok (HF.out.2 i t ht)).1, (low_of_ok (HF.out.2 i t ht)).2.1⟩)).mono ?_
    rintro e w5 ⟨ro, rsp, rfl, hrow, hb⟩
    have S5 := S4.step hb
    have HT := Lib.hid hrow
    have z5 := hb.size
    clear hrow hb x0 S4
    obtain ⟨y0, y1⟩ := S5.one 1
    obtain ⟨⟨q0, q1⟩, q2, q3⟩ := S5.two 2
    have hl1 := S5.lt 1
    have hl2 := S5.lt 2
    have SB := Lib.hid S5
    clear S5
    go_wp2_with fail
    have hx1 := HBX.out
    have SF := (SB.out.set1 1 rfl (.slice ro (rnA fs).length ((rnA fs).length + rsp)) (by omega) (by simp only [fsnoc, offs, offAll, Fct.box, and_true]; omega)).set2 2 rfl (.int .i64 0) (.int .i64 0) (by omega) (by simp only [fset, fsnoc, offs, offAll, Fct.box, and_true]; omega)
    refine ret_box12 (.slice ro (rnA fs).length ((rnA fs).length + rsp)) (.int .i64 0) (.int .i64 0) (bx + 1) (bx + 2) 37 28 (SF.block 1) (SF.block 2) (fun w' q0 q1 q2 => by simp [results, Tryd.results9, go_sem, q0, q1, q2]) rfl ?_
    rw [HE.out, ← HC.out, H0.out]
    refine ⟨_, _, rfl, HT.out.keep (fun b h1 h2 => ⟨(Below.heap_setCell _ _ _ _ (by show b ≠ bx + 2; omega)).trans ((Below.heap_setCell _ _ _ _ (by show b ≠ bx + 2; omega)).trans (Below.heap_setCell _ _ _ _ (by show b ≠ bx + 1; omega))), by omega⟩), SF.bel⟩
  · have hcb : (c != 0) = true := by simp [h0]
    have HC := Lib.hid hc
    have HE := Lib.hid (show normO fs = [] by unfold normO; rw [if_neg (by rw [← hc]; exact h0)])
    rw [← hc]
    clear hc h0
    obtain ⟨y0, y1⟩ := S4.one 1
    obtain ⟨⟨q0, q1⟩, q2, q3⟩ := S4.two 2
    have hl1 := S4.lt 1
    have hl2 := S4.lt 2
    have SB := Lib.hid S4
    clear S4
    go_wp2_with fail
    have hx1 := HBX.out
    have SF := (SB.out.set1 1 rfl (.slice none 0 0) (by omega) (by simp only [fsnoc, offs, offAll, Fct.box, and_true]; omega)).set2 2 rfl (.int .i64 c) (.int .i64 0) (by omega) (by simp only [fset, fsnoc, offs, offAll, Fct.box, and_true]; omega)
    refine ret_box12 (.slice none 0 0) (.int .i64 c) (.int .i64 0) (bx + 1) (bx + 2) 37 28 (SF.block 1) (SF.block 2) (fun w' q0 q1 q2 => by simp [results, Tryd.results9, go_sem, q0, q1, q2]) rfl ?_
    rw [HE.out, ← HC.out]
    refine ⟨_, 0, rfl, Elt.Row.nil, SF.bel⟩

end Go.Proofs.YtidgnbdlfngeaaaDoor
