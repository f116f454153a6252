/-
  Walks: the document's Power and signs.
  Walks: the document's Claim.
-/
import Derived.Test.YtlhnfdjidjgfgaaProg
import Derived.Test.YtlhnfdjidjgfgaaV4
import Derived.RegionTactic
import Derived.Lib.QuietBelow
import Derived.BigQuiet
import Derived.IntWalk
import Derived.Test.YtlhnfdjidjgfgaaXd
import Derived.Deep.Cut
namespace Go.Proofs.Ytlhnfdjidjgfgaa
open Go.RowKit Go.Shelf
set_option linter.unusedVariables false
set_option maxHeartbeats 400000

theorem sigF_pre {ar : List Int} {t : T} : sigF ar t.pre = if badS ar t ≠ 0 then badS ar t else sigF ar (preL t.kids) := by
  unfold sigF; rw [T.pre_eq, firstG]

set_option maxRecDepth 100000 in
set_option maxHeartbeats 4000000 in
theorem signs82 (ar : List Int) (hna : ar.length ≤ 1000000000) (t : T) : ∀ (q : Nat → Prop) (v : Value) (ao : Option Addr) (c : Nat) (w : World), intE.Row q w ao ar → TreeAt w v t →
    Calls Try.prog 68 #[v, .slice ao ar.length c] w fun e w' => e = .returned (.int .i64 (sigF ar t.pre)) ∧ Below w.heap.size w w' := by
  induction t using T.ind with
  | h t ih =>
  intro q v ao c w hrow ht
  obtain ⟨tk, ts, rfl, hkr, hml⟩ := ht.open
  have hml : t.kids.length ≤ 9223372036854775807 := hml
  have HR := Lib.hid hrow; have HK := Lib.hid hkr
  have IH := Lib.hid ih
  obtain ⟨bx, hbx⟩ : ∃ b, b = w.heap.size := ⟨_, rfl⟩
  have S1 := (St.start w).box hbx.symm #[.int .i64 t.head, .slice tk t.kids.length (t.kids.length + ts)] 38
  have hsz : (w.alloc (.cells #[.int .i64 t.head, .slice tk t.kids.length (t.kids.length + ts)] 38)).heap.size = bx + 1 := by simp [hbx]
  clear hrow hkr ih ht
  by_cases hA : (ar.length : Int) < t.head
  · have HF := Lib.hid (show sigF ar t.pre = 12 by rw [sigF_pre]; unfold badS; rw [if_pos hA]; rfl)
    have SE := Lib.hid S1.bel
    clear S1 hsz hbx
    go_enter Try.func68, Try.ntmps68
    go_wp2_with fail
    go_ret
    exact ⟨ret_int HF.out.symm, SE.out⟩
  have HA0 := Lib.hid hA
  go_enter Try.func68, Try.ntmps68
  go_wp2_with fail
  rw [← hbx]
  refine S1.genC (z := bx + 1) (by omega) ?_
  intro w1 z1 S
  have HBX := Lib.hid hbx
  clear S1 hbx hsz
  obtain ⟨⟨x0, _⟩, x1, _⟩ := S.two 0
  have r0 := fun d os => cell_regrown x0 d os; have r1 := fun d os => cell_regrown x1 d os
  clear x0 x1
  by_cases hB1 : 0 < t.head
  · have hj : (t.head - 1).toNat < ar.length := by omega
    obtain ⟨b, off, hao, hqb, c1⟩ := (HR.out.kept S.bel).int hj
    rw [← gI_get hj] at c1
    have r2 := fun d os => cell_regrown c1 d os
    clear c1
    obtain ⟨G, hG⟩ : ∃ G, G = gI ar (t.head - 1).toNat := ⟨_, rfl⟩
    rw [← hG] at r2
    obtain ⟨j, hjj⟩ : ∃ j : Nat, j = (t.head - 1).toNat := ⟨_, rfl⟩
    have hw : IntKind.i64.wrap (t.head - 1) = (j : Int) := by rw [hjj, IntWalk.i64_in _ (by omega)]; omega
    have HJ := Lib.hid hjj
    rw [← hjj] at r2 hj
    subst hao
    clear hjj
    by_cases hB2 : (t.kids.length : Int) ≠ G
    · have HF := Lib.hid (show sigF ar t.pre = 9 by rw [sigF_pre, show badS ar t = 9 by unfold badS; rw [if_neg (show ¬ (ar.length : Int) < t.head by have := HA0.out; omega), if_pos (show 0 < t.head ∧ (t.kids.length : Int) ≠ gI ar (t.head - 1).toNat from ⟨hB1, by rw [← hG]; exact hB2⟩)]]; rfl)
      have hcb : ((t.kids.length : Int) != G) = true := by simpa using hB2
      clear hG hB2
      refine wp_region_quiet_below (by kernel_rfl) (by kernel_rfl) ?_
      repeat (go_big_quiet_step (fail))
      refine wpQuiet_nil ?_
      intro _ hw'
      obtain ⟨⟨dq, osq⟩, hw''⟩ := hw'
      subst hw''
      have SE := Lib.hid (S.regrown dq osq).bel
      clear S
      go_wp2_with fail
      go_ret
      exact ⟨ret_int HF.out.symm, SE.out⟩
    · have hB2 : (t.kids.length : Int) = G := Classical.not_not.1 hB2
      have HF := Lib.hid (show sigF ar t.pre = sigF ar (preL t.kids) by rw [sigF_pre, show badS ar t = 0 by unfold badS; rw [if_neg (show ¬ (ar.length : Int) < t.head by have := HA0.out; omega), if_neg (show ¬ (0 < t.head ∧ (t.kids.length : Int) ≠ gI ar (t.head - 1).toNat) by rw [← hG]; exact fun e => e.2 hB2)]]; rfl)
      have hcb : ((t.kids.length : Int) != G) = false := by simpa using hB2
      clear hG hB2
      refine wp_region_quiet_below (by kernel_rfl) (by kernel_rfl) ?_
      repeat (go_big_quiet_step (fail))
      refine wpQuiet_nil ?_
      intro _ hw'
      obtain ⟨⟨dq, osq⟩, hw''⟩ := hw'
      subst hw''
      refine (S.regrown dq osq).genX (z := bx + 1) (Nat.le_trans z1 (below_regrown w1 dq osq).size) ?_
      clear S r0 r1 r2 hw hj
      intro w2 z2 S
      go_wp2_with fail
      go_loopw [5, 6] (fun i e wr => ∃ k : Nat, k ≤ t.kids.length ∧ i = .int .i64 k ∧ (∃ E : Int, e = .int .i64 E ∨ e = undef) ∧ sigF ar (preL t.kids) = sigF ar (preL (t.kids.drop k)) ∧ bx + 1 ≤ wr.heap.size ∧ St w wr [.box bx #[.int .i64 t.head, .slice tk t.kids.length (t.kids.length + ts)] 38]) (fun i _ _ => t.kids.length - (intOf i).toNat)
      case atStart => exact ⟨0, by omega, rfl, ⟨0, .inr rfl⟩, rfl, z2, S⟩
      case round =>
        clear S
        obtain ⟨k, hk, rfl, hE, hno, z2, S⟩ := hrel
        have HNO := Lib.hid hno
        clear hno hE
        obtain ⟨⟨x0, _⟩, x1, _⟩ := S.two 0
        clear x0
        by_cases hlt : k < t.kids.length
        · have hlti : (k : Int) < (t.kids.length : Int) := by omega
          obtain ⟨b2, off2, xk, xs, rfl, c0, c1, c2⟩ := (HK.out.below S.bel) k hlt
          obtain ⟨X, hX⟩ : ∃ X, X = gK t.kids k := ⟨_, rfl⟩
          have HIH := Lib.hid (fun (W : World) (h : Below w.heap.size w W) (u : Value) (hu : TreeAt W u X) => IH.out k hlt q u (some ⟨b, off, none⟩) c W (HR.out.kept h) (by rw [← hX]; exact hu))
          rw [← hX] at c0 c1 c2 HIH
          obtain ⟨V, hV⟩ : ∃ V, V = sigF ar X.pre := ⟨_, rfl⟩
          rw [← hV] at HIH
          have HST := Lib.hid (show sigF ar (preL (t.kids.drop k)) = if V ≠ 0 then V else sigF ar (preL (t.kids.drop (k + 1))) by
            rw [List.drop_eq_getElem_cons hlt, preL, sigF, firstG_append, hV, hX]; simp [sigF, gK, hlt])
          have HTX := Lib.hid c2
          clear c2 hX hV
          go_wp2_with fail
          refine (S.quiet (HIH.out wr S.bel _ HTX.out)).mono ?_
          rintro e w3 ⟨rfl, z3, S3⟩
          clear S c0 c1 x1
          by_cases hv : V = 0
          · have HN := Lib.hid (show sigF ar (preL t.kids) = sigF ar (preL (t.kids.drop (k + 1))) by rw [HNO.out, HST.out, if_neg (by simpa using hv)])
            have hvb : (V != 0) = false := by simpa using hv
            clear hv
            go_wp2_with fail
            go_roundw
            case rel => exact ⟨k + 1, by omega, by go_num, ⟨_, .inl rfl⟩, HN.out, by omega, S3⟩
            case measure => simp [intOf] <;> omega
          · have HN := Lib.hid (show sigF ar t.pre = V by rw [HF.out, HNO.out, HST.out, if_pos hv])
            have hvb : (V != 0) = true := by simpa using hv
            have SE := Lib.hid S3.bel
            clear hv S3
            go_wp2_with fail
            go_ret
            exact ⟨ret_int HN.out.symm, SE.out⟩
        · obtain rfl : k = t.kids.length := by omega
          have HN := Lib.hid (show sigF ar t.pre = 0 by rw [HF.out, HNO.out, List.drop_length]; rfl)
          have SE := Lib.hid S.bel
          clear S
          go_wp2_with fail
          go_ret
          exact ⟨ret_int HN.out.symm, SE.out⟩
  · have HF := Lib.hid (show sigF ar t.pre = sigF ar (preL t.kids) by rw [sigF_pre, show badS ar t = 0 by unfold badS; rw [if_neg (show ¬ (ar.length : Int) < t.head by have := HA0.out; omega), if_neg (show ¬ (0 < t.head ∧ (t.kids.length : Int) ≠ gI ar (t.head - 1).toNat) by exact fun e => by have := e.1; omega)]]; rfl)
    refine wp_region_quiet_below (by kernel_rfl) (by kernel_rfl) ?_
    repeat (go_big_quiet_step (fail))
    refine wpQuiet_nil ?_
    intro _ hw'
    obtain ⟨⟨dq, osq⟩, hw''⟩ := hw'
    subst hw''
    refine (S.regrown dq osq).genX (z := bx + 1) (Nat.le_trans z1 (below_regrown w1 dq osq).size) ?_
    clear S r0 r1
    intro w2 z2 S
    go_wp2_with fail
    go_loopw [5, 6] (fun i e wr => ∃ k : Nat, k ≤ t.kids.length ∧ i = .int .i64 k ∧ (∃ E : Int, e = .int .i64 E ∨ e = undef) ∧ sigF ar (preL t.kids) = sigF ar (preL (t.kids.drop k)) ∧ bx + 1 ≤ wr.heap.size ∧ St w wr [.box bx #[.int .i64 t.head, .slice tk t.kids.length (t.kids.length + ts)] 38]) (fun i _ _ => t.kids.length - (intOf i).toNat)
    case atStart => exact ⟨0, by omega, rfl, ⟨0, .inr rfl⟩, rfl, z2, S⟩
    case round =>
      clear S
      obtain ⟨k, hk, rfl, hE, hno, z2, S⟩ := hrel
      have HNO := Lib.hid hno
      clear hno hE
      obtain ⟨⟨x0, _⟩, x1, _⟩ := S.two 0
      clear x0
      by_cases hlt : k < t.kids.length
      · have hlti : (k : Int) < (t.kids.length : Int) := by omega
        obtain ⟨b, off, xk, xs, rfl, c0, c1, c2⟩ := (HK.out.below S.bel) k hlt
        obtain ⟨X, hX⟩ : ∃ X, X = gK t.kids k := ⟨_, rfl⟩
        have HIH := Lib.hid (fun (W : World) (h : Below w.heap.size w W) (u : Value) (hu : TreeAt W u X) => IH.out k hlt q u ao c W (HR.out.kept h) (by rw [← hX]; exact hu))
        rw [← hX] at c0 c1 c2 HIH
        obtain ⟨V, hV⟩ : ∃ V, V = sigF ar X.pre := ⟨_, rfl⟩
        rw [← hV] at HIH
        have HST := Lib.hid (show sigF ar (preL (t.kids.drop k)) = if V ≠ 0 then V else sigF ar (preL (t.kids.drop (k + 1))) by
          rw [List.drop_eq_getElem_cons hlt, preL, sigF, firstG_append, hV, hX]; simp [sigF, gK, hlt])
        have HTX := Lib.hid c2
        clear c2 hX hV
        go_wp2_with fail
        refine (S.quiet (HIH.out wr S.bel _ HTX.out)).mono ?_
        rintro e w3 ⟨rfl, z3, S3⟩
        clear S c0 c1 x1
        by_cases hv : V = 0
        · have HN := Lib.hid (show sigF ar (preL t.kids) = sigF ar (preL (t.kids.drop (k + 1))) by rw [HNO.out, HST.out, if_neg (by simpa using hv)])
          have hvb : (V != 0) = false := by simpa using hv
          clear hv
          go_wp2_with fail
          go_roundw
          case rel => exact ⟨k + 1, by omega, by go_num, ⟨_, .inl rfl⟩, HN.out, by omega, S3⟩
          case measure => simp [intOf] <;> omega
        · have HN := Lib.hid (show sigF ar t.pre = V by rw [HF.out, HNO.out, HST.out, if_pos hv])
          have hvb : (V != 0) = true := by simpa using hv
          have SE := Lib.hid S3.bel
          clear hv S3
          go_wp2_with fail
          go_ret
          exact ⟨ret_int HN.out.symm, SE.out⟩
      · obtain rfl : k = t.kids.length := by omega
        have HN := Lib.hid (show sigF ar t.pre = 0 by rw [HF.out, HNO.out, List.drop_length]; rfl)
        have SE := Lib.hid S.bel
        clear S
        go_wp2_with fail
        go_ret
        exact ⟨ret_int HN.out.symm, SE.out⟩
end Go.Proofs.Ytlhnfdjidjgfgaa
namespace Go.Proofs.Ytlhnfdjidjgfgaa
open Go.RowKit Go.Shelf
set_option linter.unusedVariables false
set_option maxHeartbeats 400000

set_option maxRecDepth 100000 in
set_option maxHeartbeats 4000000 in
theorem claim27 (ar : List Int) (fs : List Fc) (p q : Nat → Prop) (ao aa : Option Addr) (sp ca : Nat) (w : World) (ha : intE.Row q w aa ar) (hna : ar.length ≤ 1000000000) (h : factE.Row p w ao fs) (hn : fs.length ≤ 1000000) (hp : ∀ b, p b → b < w.heap.size) (hs : ∀ (i : Nat) t, (treesF fs)[i]? = some t → t.size ≤ 1000000) :
    Calls Try.prog 26 #[.agg #[.slice ao fs.length (fs.length + sp)], .slice aa ar.length ca] w fun e w' => e = .returned (.int .i64 (codeF ar fs)) ∧ Below w.heap.size w w' := by
  have HR := Lib.hid h; have HA := Lib.hid ha; have HP := Lib.hid hp; have HS := Lib.hid hs
  obtain ⟨bx, hbx⟩ : ∃ b, b = w.heap.size := ⟨_, rfl⟩
  have S := (St.start w).box hbx.symm #[.slice ao fs.length (fs.length + sp)] 41
  have HBX := Lib.hid hbx
  have hsz : (w.alloc (.cells #[.slice ao fs.length (fs.length + sp)] 41)).heap.size = bx + 1 := by simp [hbx]
  clear h hp hs ha
  by_cases h6 : 6 < fs.length
  · have HF := Lib.hid (show codeF ar fs = 2 by unfold codeF; rw [if_pos h6])
    have SE := Lib.hid S.bel
    have h6i : (6 : Int) < (fs.length : Int) := by omega
    clear S h6
    go_enter Try.func26, Try.ntmps26
    go_wp2_with fail
    go_ret
    exact ⟨ret_int HF.out.symm, SE.out⟩
  · have HF := Lib.hid (show codeF ar fs = firstG (codeT ar) (treesF fs) by unfold codeF; rw [if_neg h6])
    have h6i : ¬ (6 : Int) < (fs.length : Int) := by omega
    have hT : (treesF fs).length ≤ 2000000 := by rw [treesF_length]; omega
    go_enter Try.func26, Try.ntmps26
    go_wp2_with fail
    refine S.gen (z := bx + 1) (by omega) ?_
    intro w1 z1 S1
    clear S
    refine (S1.trees (trees64 fs p ao sp w1 (HR.out.kept S1.bel) hn (fun b hb => by have := HP.out b hb; have := HBX.out; omega))).mono ?_
    rintro e w2 ⟨ro, rsp, rfl, z2, S2⟩
    clear S1
    go_wp2_with fail
    go_loopw [6, 7, 8] (fun i _ _ wr => ∃ k : Nat, k ≤ (treesF fs).length ∧ i = .int .i64 k ∧ (∀ (j : Nat) t, j < k → (treesF fs)[j]? = some t → codeT ar t = 0) ∧ St w wr [.box bx #[.slice ao fs.length (fs.length + sp)] 41, .rowE treeE (fun b => p b ∨ w1.heap.size ≤ b) ro (treesF fs)]) (fun i _ _ _ => (treesF fs).length - (intOf i).toNat)
    case atStart => exact ⟨0, by omega, rfl, fun j t hj _ => by omega, S2⟩
    case round =>
      obtain ⟨k, hk, rfl, hno, S⟩ := hrel
      have HNO := Lib.hid hno
      clear S2 hno
      by_cases hlt : k < (treesF fs).length
      · have hlti : (k : Int) < ((treesF fs).length : Int) := by omega
        obtain ⟨b, off, ka, sa, rfl, hpb, c0, c1, ht⟩ := (S.rowE treeE 1).tree hlt
        have HT := Lib.hid ht
        have HSK := Lib.hid (HS.out k _ (List.getElem?_eq_getElem hlt))
        clear ht
        have S := S.add (.treeP _ _ _) HT.out
        go_wp2_with fail
        refine (S.faultF (tree18 (treesF fs)[k] _ wr HSK.out HT.out.at)).mono ?_
        rintro e w3 ⟨c, d, rfl, HC, z3, S3⟩
        clear S
        have HC1 := Lib.hid (show (treeF (treesF fs)[k]).1 = c by rw [HC.out])
        by_cases hc : c = 0
        · have hcb : (c != 0) = false := by simp [hc]
          obtain ⟨X, hX⟩ : ∃ X, X = (treesF fs)[k] := ⟨_, rfl⟩
          rw [← hX] at HT HC1 c0 c1
          obtain ⟨V, hV⟩ : ∃ V, V = sigF ar X.pre := ⟨_, rfl⟩
          have HCT := Lib.hid (show codeT ar X = V by unfold codeT; rw [if_neg (by rw [HC1.out]; simp [hc]), hV])
          have HX := Lib.hid hX
          have hsg := fun (W : World) (h : Below w.heap.size w W) (u : Value) (hu : TreeAt W u X) => signs82 ar hna X q u aa ca W (HA.out.kept h) hu
          rw [← hV] at hsg
          have HSG := Lib.hid hsg
          have HE := Lib.hid (⟨HCT, HX⟩ : Hid (codeT ar X = V) ∧ Hid (X = (treesF fs)[k]))
          obtain ⟨bq, hbq⟩ : ∃ b, b = w3.heap.size := ⟨_, rfl⟩
          have S4 := S3.box hbq.symm #[.int .i64 c, .int .i64 d] 29
          clear hc hsg hV hX HT HCT HX S3 c0 c1
          go_upto_region 10 with (fail)
          rw [← hbq]
          refine S4.genC (z := bq + 1) (by simp [hbq]) ?_
          intro w4 z4 S5
          clear S4 hbq
          obtain ⟨b2, off2, ka2, sa2, e2, hpb2, c0, c1, ht⟩ := (S5.rowE treeE 1).tree hlt
          obtain ⟨rfl, rfl⟩ : b = b2 ∧ off = off2 := by simpa using e2
          rw [← HE.out.2.out] at c0 c1 ht
          have HT := Lib.hid ht
          clear ht e2 hpb2
          go_wp2_with fail
          refine (S5.quiet (HSG.out w4 S5.bel _ HT.out.at)).mono ?_
          rintro e w5 ⟨rfl, z5, S6⟩
          clear S5 c0 c1
          have S6 := S6.pick [0, 1]
          by_cases hv : V = 0
          · have HN := Lib.hid (show ∀ (j : Nat) t, j < k + 1 → (treesF fs)[j]? = some t → codeT ar t = 0 from fun j t hj ht => by
              rcases Nat.lt_succ_iff_lt_or_eq.1 hj with h | rfl
              · exact HNO.out j t h ht
              · rw [List.getElem?_eq_getElem hlt] at ht
                obtain rfl := Option.some.inj ht
                rw [← HE.out.2.out, HE.out.1.out, hv])
            have hvb : (V != 0) = false := by simpa using hv
            clear hv
            go_wp2_with fail
            go_roundw
            case rel => exact ⟨k + 1, by omega, by go_num, HN.out, S6⟩
            case measure => simp [intOf] <;> omega
          · have HFI := Lib.hid (show codeF ar fs = V by rw [HF.out, firstG_hit HNO.out (List.getElem?_eq_getElem hlt) (by rw [← HE.out.2.out, HE.out.1.out]; exact hv), ← HE.out.2.out, HE.out.1.out])
            have hvb : (V != 0) = true := by simpa using hv
            have SC := Lib.hid S6.bel
            clear S6 hv
            go_wp2_with fail
            go_ret
            exact ⟨ret_int HFI.out.symm, SC.out⟩
        · have hcb : (c != 0) = true := by simp [hc]
          have HCT := Lib.hid (show codeT ar (treesF fs)[k] = c by unfold codeT; rw [if_pos (by rw [HC1.out]; exact hc), HC1.out])
          have HFI := Lib.hid (show codeF ar fs = c by rw [HF.out, firstG_hit HNO.out (List.getElem?_eq_getElem hlt) (by rw [HCT.out]; exact hc), HCT.out])
          have SC := Lib.hid (S3.alloc (.cells #[.int .i64 c, .int .i64 d] 29)).bel
          clear S3 hc HCT
          go_wp2_with fail
          go_ret
          exact ⟨ret_int HFI.out.symm, SC.out⟩
      · obtain rfl : k = (treesF fs).length := by omega
        have HFI := Lib.hid (show codeF ar fs = 0 by rw [HF.out, firstG_none HNO.out])
        have SC := Lib.hid S.bel
        clear S
        go_wp2_with fail
        go_ret
        exact ⟨ret_int HFI.out.symm, SC.out⟩
end Go.Proofs.Ytlhnfdjidjgfgaa
