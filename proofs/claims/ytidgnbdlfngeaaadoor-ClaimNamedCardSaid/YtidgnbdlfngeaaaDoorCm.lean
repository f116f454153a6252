/-
  Walks: the document's ClaimMost.
-/
import Derived.Test.YtidgnbdlfngeaaaDoorProg
import Derived.Test.YtidgnbdlfngeaaaDoorXc
import Derived.Test.YtidgnbdlfngeaaaDoorXd
namespace Go.Proofs.YtidgnbdlfngeaaaDoor
open Go.RowKit Go.Shelf
set_option linter.unusedVariables false
set_option maxHeartbeats 400000

def Fct.cellAt (b off : Nat) (v : Value) : Fct :=
  ⟨fun c => c = b, fun w => w.cell? ⟨b, off, Option.none⟩ = some v, fun w w' h hc => by rw [World.cell?_of_block (w := w) (h b rfl (block_lt_of_cell hc))]; exact hc⟩
theorem St.cellAt {w0 w : World} {l : List Fct} (S : St w0 w l) (i : Nat) {b off : Nat} {v : Value} (h : Fct.at l i = Fct.cellAt b off v := by rfl) : w.cell? ⟨b, off, none⟩ = some v := by
  have := S.2 i
  rw [h] at this; exact this
def varsC (fs : List Fc) : Nat := (mostL (treesF fs)).toNat
theorem varsC_cast {fs : List Fc} : ((varsC fs : Nat) : Int) = mostL (treesF fs) := by
  have := mostL_nonneg (treesF fs)
  unfold varsC; omega

theorem in11 (n lo hi : Int) (w : World) : Calls Tryd.prog 11 #[.int .i64 n, .int .i64 lo, .int .i64 hi] w fun e w' => e = .returned (.bool (decide (lo ≤ n ∧ n ≤ hi))) ∧ w' = w := by
  go_enter Tryd.func11, Tryd.ntmps11
  go_wp2
  all_goals (go_ret; exact ⟨ret_bool (by simp; try omega), rfl⟩)
set_option maxRecDepth 100000 in
set_option maxHeartbeats 4000000 in
theorem claimMost31 (fs : List Fc) (p : Nat → Prop) (ao : Option Addr) (sp : Nat) (w : World) (h : factE.Row p w ao fs) (hn : fs.length ≤ 1000000) (hp : ∀ b, p b → b < w.heap.size) (hlow : ∀ t ∈ treesF fs, t.low) :
    Calls Tryd.prog 12 #[.agg #[.slice ao fs.length (fs.length + sp)]] w fun e w' => e = .returned (.int .i64 (varsC fs : Nat)) ∧ Below w.heap.size w w' := by
  have HR := Lib.hid h; have HP := Lib.hid hp; have HL := Lib.hid hlow
  obtain ⟨bx, hbx⟩ : ∃ b, b = w.heap.size := ⟨_, rfl⟩
  have S := (St.start w).box hbx.symm #[.slice ao fs.length (fs.length + sp)] 37
  have HBX := Lib.hid hbx
  have hsz : (w.alloc (.cells #[.slice ao fs.length (fs.length + sp)] 37)).heap.size = bx + 1 := by simp [hbx]
  have hT : (treesF fs).length ≤ 2000000 := by rw [treesF_length]; omega
  have HVC := Lib.hid (varsC_cast (fs := fs))
  clear h hp hlow
  go_enter Tryd.func12, Tryd.ntmps12
  go_wp2_with fail
  rw [← hbx]
  refine S.gen (z := bx + 1) (by omega) ?_
  intro w1 z1 S1
  clear S hbx
  refine (S1.trees (trees64 fs p ao sp w1 (HR.out.kept S1.bel) hn (fun b hb => by have := HP.out b hb; have := HBX.out; omega))).mono ?_
  rintro e w2 ⟨ro, rsp, rfl, z2, S2⟩
  clear S1
  go_wp2_with fail
  go_loopw [3, 5] (fun n i wr => ∃ (k : Nat) (N : Int), k ≤ (treesF fs).length ∧ i = .int .i64 k ∧ n = .int .i64 N ∧ N = mostL ((treesF fs).take k) ∧ St w wr [.box bx #[.slice ao fs.length (fs.length + sp)] 37, .rowE treeE (fun b => p b ∨ w1.heap.size ≤ b) ro (treesF fs)]) (fun _ i _ => (treesF fs).length - (intOf i).toNat)
  case atStart => exact ⟨0, 0, by omega, rfl, rfl, rfl, S2⟩
  case round =>
    clear S2
    obtain ⟨k, N, hk, rfl, rfl, hN, S⟩ := hrel
    have HN := Lib.hid hN
    clear hN
    by_cases hlt : k < (treesF fs).length
    · have hlti : (k : Int) < ((treesF fs).length : Int) := by omega
      obtain ⟨b, off, ka, sa, rfl, hpb, c0, c1, ht⟩ := (S.rowE treeE 1).tree hlt
      obtain ⟨X, hX⟩ : ∃ X, X = (treesF fs)[k] := ⟨_, rfl⟩
      have HLX := Lib.hid (show X.low by rw [hX]; exact HL.out _ (List.getElem_mem hlt))
      rw [← hX] at c0 c1 ht
      have HST := Lib.hid (show mostL ((treesF fs).take (k + 1)) = max (mostL ((treesF fs).take k)) X.most by rw [mostL_take hlt, hX]; simp [gK, hlt])
      have S := (((S.add (.cellAt b (off + k * 2) (.int .i64 X.head)) c0).add (.cellAt b (off + k * 2 + 1) (.slice ka X.kids.length (X.kids.length + sa))) c1).add (.treeP _ _ X) ht)
      have HT := Lib.hid ht
      clear ht hX
      go_wp2_with fail
      refine (S.quiet (most30 X _ wr HLX.out HT.out.at)).mono ?_
      rintro e w3 ⟨rfl, z3, S3⟩
      clear S c0 c1 HT
      obtain ⟨M, hM⟩ : ∃ M, M = X.most := ⟨_, rfl⟩
      have HM := Lib.hid hM
      rw [← hM]
      clear hM
      have c0 := S3.cellAt 2
      have c1 := S3.cellAt 3
      have ht := Lib.hid (St.treeP S3 4 rfl)
      by_cases hgt : N < M
      · have HN2 := Lib.hid (show M = mostL ((treesF fs).take (k + 1)) by rw [HST.out, ← HN.out, ← HM.out]; omega)
        go_wp2_with fail
        refine (S3.quiet (most30 X _ w3 HLX.out ht.out.at)).mono ?_
        rintro e w4 ⟨rfl, z4, S4⟩
        rw [← HM.out]
        have S5 := S4.pick [0, 1]
        clear S3 S4 c0 c1 ht
        go_wp2_with fail
        go_roundw
        case rel => exact ⟨k + 1, M, by omega, by go_num, rfl, HN2.out, S5⟩
        case measure => simp [intOf] <;> omega
      · have HN2 := Lib.hid (show N = mostL ((treesF fs).take (k + 1)) by rw [HST.out, ← HN.out, ← HM.out]; omega)
        have S5 := S3.pick [0, 1]
        clear S3 c0 c1 ht
        go_wp2_with fail
        go_roundw
        case rel => exact ⟨k + 1, N, by omega, by go_num, rfl, HN2.out, S5⟩
        case measure => simp [intOf] <;> omega
    · obtain rfl : k = (treesF fs).length := by omega
      have HF := Lib.hid (show ((varsC fs : Nat) : Int) = N by rw [HVC.out, HN.out, List.take_length])
      have SE := Lib.hid S.bel
      clear S
      go_wp2_with fail
      go_ret
      exact ⟨ret_int HF.out.symm, SE.out⟩
end Go.Proofs.YtidgnbdlfngeaaaDoor
