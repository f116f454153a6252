/-
  Walks: the document's Claim.
-/
import Derived.Test.YtidgnbdlfngeaaaGreatDoorProg
import Derived.Test.YtidgnbdlfngeaaaGreatDoorZ1
import Derived.Test.YtidgnbdlfngeaaaGreatDoorXd
import Derived.Deep.Cut
namespace Go.Proofs.YtidgnbdlfngeaaaGreatDoor
open Go.RowKit Go.Shelf
set_option linter.unusedVariables false
set_option maxHeartbeats 400000

set_option maxRecDepth 100000 in
set_option maxHeartbeats 4000000 in
theorem claim27 (ar : List Int) (fs : List Fc) (p q : Nat → Prop) (ao aa : Option Addr) (sp ca : Nat) (w : World) (ha : intE.Row q w aa ar) (hna : ar.length ≤ 1000000000) (h : factE.Row p w ao fs) (hn : fs.length ≤ 1000000) (hp : ∀ b, p b → b < w.heap.size) (hs : ∀ (i : Nat) t, (treesF fs)[i]? = some t → t.size ≤ 1000000) :
    Calls Tryz.prog 17 #[.agg #[.slice ao fs.length (fs.length + sp)], .slice aa ar.length ca] w fun e w' => e = .returned (.int .i64 (codeF ar fs)) ∧ Below w.heap.size w w' := by
  have HR := Lib.hid h; have HA := Lib.hid ha; have HP := Lib.hid hp; have HS := Lib.hid hs
  obtain ⟨bx, hbx⟩ : ∃ b, b = w.heap.size := ⟨_, rfl⟩
  have S := (St.start w).box hbx.symm #[.slice ao fs.length (fs.length + sp)] 42
  have HBX := Lib.hid hbx
  have hsz : (w.alloc (.cells #[.slice ao fs.length (fs.length + sp)] 42)).heap.size = bx + 1 := by simp [hbx]
  clear h hp hs ha
  by_cases h6 : 6 < fs.length
  · have HF := Lib.hid (show codeF ar fs = 2 by unfold codeF; rw [if_pos h6])
    have SE := Lib.hid S.bel
    have h6i : (6 : Int) < (fs.length : Int) := by omega
    clear S h6
    go_enter Tryz.func17, Tryz.ntmps17
    go_wp2_with fail
    go_ret
    exact ⟨ret_int HF.out.symm, SE.out⟩
  · have HF := Lib.hid (show codeF ar fs = firstG (codeT ar) (treesF fs) by unfold codeF; rw [if_neg h6])
    have h6i : ¬ (6 : Int) < (fs.length : Int) := by omega
    have hT : (treesF fs).length ≤ 2000000 := by rw [treesF_length]; omega
    go_enter Tryz.func17, Tryz.ntmps17
    go_wp2_with fail
    refine S.gen (z := bx + 1) (by omega) ?_
    intro w1 z1 S1
    clear S
    refine (S1.trees (trees64 fs p ao sp w1 (HR.out.kept S1.bel) hn (fun b hb => by have := HP.out b hb; have := HBX.out; omega))).mono ?_
    rintro e w2 ⟨ro, rsp, rfl, z2, S2⟩
    clear S1
    go_wp2_with fail
    go_loopw [6, 7, 8] (fun i _ _ wr => ∃ k : Nat, k ≤ (treesF fs).length ∧ i = .int .i64 k ∧ (∀ (j : Nat) t, j < k → (treesF fs)[j]? = some t → codeT ar t = 0) ∧ St w wr [.box bx #[.slice ao fs.length (fs.length + sp)] 42, .rowE treeE (fun b => p b ∨ w1.heap.size ≤ b) ro (treesF fs)]) (fun i _ _ _ => (treesF fs).length - (intOf i).toNat)
    case atStart => exact ⟨0, by omega, rfl, fun j t hj _ => by omega, S2⟩
    case round =>
      obtain ⟨k, hk, rfl, hno, S⟩ := hrel
      have HNO := Lib.hid hno
      clear S2 hno
      by_cases hlt : k < (treesF fs).length
      · have hlti : (k : Int) < ((treesF fs).length : Int) := by omega
        obtain ⟨b, off, ka, sa, rfl, hpb, c0, c1, ht⟩ := (S.rowE treeE 1).tree hlt
        have HT := Lib.hid ht
        have HSK := Lib.hid (HS.out k _ (List.getElem?_eq_getElem hlt))
        clear ht
        have S := S.add (.treeP _ _ _) HT.out
        go_wp2_with fail
        refine (S.faultF (tree18 (treesF fs)[k] _ wr HSK.out HT.out.at)).mono ?_
        rintro e w3 ⟨c, d, rfl, HC, z3, S3⟩
        clear S
        have HC1 := Lib.hid (show (treeF (treesF fs)[k]).1 = c by rw [HC.out])
        by_cases hc : c = 0
        · have hcb : (c != 0) = false := by simp [hc]
          obtain ⟨X, hX⟩ : ∃ X, X = (treesF fs)[k] := ⟨_, rfl⟩
          rw [← hX] at HT HC1 c0 c1
          obtain ⟨V, hV⟩ : ∃ V, V = sigF ar X.pre := ⟨_, rfl⟩
          have HCT := Lib.hid (show codeT ar X = V by unfold codeT; rw [if_neg (by rw [HC1.out]; simp [hc]), hV])
          have HX := Lib.hid hX
          have hsg := fun (W : World) (h : Below w.heap.size w W) (u : Value) (hu : TreeAt W u X) => signs82 ar hna X q u aa ca W (HA.out.kept h) hu
          rw [← hV] at hsg
          have HSG := Lib.hid hsg
          have HE := Lib.hid (⟨HCT, HX⟩ : Hid (codeT ar X = V) ∧ Hid (X = (treesF fs)[k]))
          obtain ⟨bq, hbq⟩ : ∃ b, b = w3.heap.size := ⟨_, rfl⟩
          have S4 := S3.box hbq.symm #[.int .i64 c, .int .i64 d] 28
          clear hc hsg hV hX HT HCT HX S3 c0 c1
          go_upto_region 10 with (fail)
          rw [← hbq]
          refine S4.genC (z := bq + 1) (by simp [hbq]) ?_
          intro w4 z4 S5
          clear S4 hbq
          obtain ⟨b2, off2, ka2, sa2, e2, hpb2, c0, c1, ht⟩ := (S5.rowE treeE 1).tree hlt
          obtain ⟨rfl, rfl⟩ : b = b2 ∧ off = off2 := by simpa using e2
          rw [← HE.out.2.out] at c0 c1 ht
          have HT := Lib.hid ht
          clear ht e2 hpb2
          go_wp2_with fail
          refine (S5.quiet (HSG.out w4 S5.bel _ HT.out.at)).mono ?_
          rintro e w5 ⟨rfl, z5, S6⟩
          clear S5 c0 c1
          have S6 := S6.pick [0, 1]
          by_cases hv : V = 0
          · have HN := Lib.hid (show ∀ (j : Nat) t, j < k + 1 → (treesF fs)[j]? = some t → codeT ar t = 0 from fun j t hj ht => by
              rcases Nat.lt_succ_iff_lt_or_eq.1 hj with h | rfl
              · exact HNO.out j t h ht
              · rw [List.getElem?_eq_getElem hlt] at ht
                obtain rfl := Option.some.inj ht
                rw [← HE.out.2.out, HE.out.1.out, hv])
            have hvb : (V != 0) = false := by simpa using hv
            clear hv
            go_wp2_with fail
            go_roundw
            case rel => exact ⟨k + 1, by omega, by go_num, HN.out, S6⟩
            case measure => simp [intOf] <;> omega
          · have HFI := Lib.hid (show codeF ar fs = V by rw [HF.out, firstG_hit HNO.out (List.getElem?_eq_getElem hlt) (by rw [← HE.out.2.out, HE.out.1.out]; exact hv), ← HE.out.2.out, HE.out.1.out])
            have hvb : (V != 0) = true := by simpa using hv
            have SC := Lib.hid S6.bel
            clear S6 hv
            go_wp2_with fail
            go_ret
            exact ⟨ret_int HFI.out.symm, SC.out⟩
        · have hcb : (c != 0) = true := by simp [hc]
          have HCT := Lib.hid (show codeT ar (treesF fs)[k] = c by unfold codeT; rw [if_pos (by rw [HC1.out]; exact hc), HC1.out])
          have HFI := Lib.hid (show codeF ar fs = c by rw [HF.out, firstG_hit HNO.out (List.getElem?_eq_getElem hlt) (by rw [HCT.out]; exact hc), HCT.out])
          have SC := Lib.hid (S3.alloc (.cells #[.int .i64 c, .int .i64 d] 28)).bel
          clear S3 hc HCT
          go_wp2_with fail
          go_ret
          exact ⟨ret_int HFI.out.symm, SC.out⟩
      · obtain rfl : k = (treesF fs).length := by omega
        have HFI := Lib.hid (show codeF ar fs = 0 by rw [HF.out, firstG_none HNO.out])
        have SC := Lib.hid S.bel
        clear S
        go_wp2_with fail
        go_ret
        exact ⟨ret_int HFI.out.symm, SC.out⟩
end Go.Proofs.YtidgnbdlfngeaaaGreatDoor
