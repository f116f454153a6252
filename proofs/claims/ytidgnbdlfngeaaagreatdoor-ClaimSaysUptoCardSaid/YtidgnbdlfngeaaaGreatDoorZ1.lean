/-
  Walks: the document's Power and signs.
-/
import Derived.Test.YtidgnbdlfngeaaaGreatDoorProg
import Derived.Test.YtidgnbdlfngeaaaGreatDoorV4
import Derived.RegionTactic
import Derived.Lib.QuietBelow
import Derived.BigQuiet
import Derived.IntWalk
namespace Go.Proofs.YtidgnbdlfngeaaaGreatDoor
open Go.RowKit Go.Shelf
set_option linter.unusedVariables false
set_option maxHeartbeats 400000

theorem sigF_pre {ar : List Int} {t : T} : sigF ar t.pre = if badS ar t ≠ 0 then badS ar t else sigF ar (preL t.kids) := by
  unfold sigF; rw [T.pre_eq, firstG]

set_option maxRecDepth 100000 in
set_option maxHeartbeats 4000000 in
theorem signs82 (ar : List Int) (hna : ar.length ≤ 1000000000) (t : T) : ∀ (q : Nat → Prop) (v : Value) (ao : Option Addr) (c : Nat) (w : World), intE.Row q w ao ar → TreeAt w v t →
    Calls Tryz.prog 38 #[v, .slice ao ar.length c] w fun e w' => e = .returned (.int .i64 (sigF ar t.pre)) ∧ Below w.heap.size w w' := by
  induction t using T.ind with
  | h t ih =>
  intro q v ao c w hrow ht
  obtain ⟨tk, ts, rfl, hkr, hml⟩ := ht.open
  have hml : t.kids.length ≤ 9223372036854775807 := hml
  have HR := Lib.hid hrow; have HK := Lib.hid hkr
  have IH := Lib.hid ih
  obtain ⟨bx, hbx⟩ : ∃ b, b = w.heap.size := ⟨_, rfl⟩
  have S1 := (St.start w).box hbx.symm #[.int .i64 t.head, .slice tk t.kids.length (t.kids.length + ts)] 45
  have hsz : (w.alloc (.cells #[.int .i64 t.head, .slice tk t.kids.length (t.kids.length + ts)] 45)).heap.size = bx + 1 := by simp [hbx]
  clear hrow hkr ih ht
  by_cases hA : (ar.length : Int) < t.head
  · have HF := Lib.hid (show sigF ar t.pre = 12 by rw [sigF_pre]; unfold badS; rw [if_pos hA]; rfl)
    have SE := Lib.hid S1.bel
    clear S1 hsz hbx
    go_enter Tryz.func38, Tryz.ntmps38
    go_wp2_with fail
    go_ret
    exact ⟨ret_int HF.out.symm, SE.out⟩
  have HA0 := Lib.hid hA
  go_enter Tryz.func38, Tryz.ntmps38
  go_wp2_with fail
  rw [← hbx]
  refine S1.genC (z := bx + 1) (by omega) ?_
  intro w1 z1 S
  have HBX := Lib.hid hbx
  clear S1 hbx hsz
  obtain ⟨⟨x0, _⟩, x1, _⟩ := S.two 0
  have r0 := fun d os => cell_regrown x0 d os; have r1 := fun d os => cell_regrown x1 d os
  clear x0 x1
  by_cases hB1 : 0 < t.head
  · have hj : (t.head - 1).toNat < ar.length := by omega
    obtain ⟨b, off, hao, hqb, c1⟩ := (HR.out.kept S.bel).int hj
    rw [← gI_get hj] at c1
    have r2 := fun d os => cell_regrown c1 d os
    clear c1
    obtain ⟨G, hG⟩ : ∃ G, G = gI ar (t.head - 1).toNat := ⟨_, rfl⟩
    rw [← hG] at r2
    obtain ⟨j, hjj⟩ : ∃ j : Nat, j = (t.head - 1).toNat := ⟨_, rfl⟩
    have hw : IntKind.i64.wrap (t.head - 1) = (j : Int) := by rw [hjj, IntWalk.i64_in _ (by omega)]; omega
    have HJ := Lib.hid hjj
    rw [← hjj] at r2 hj
    subst hao
    clear hjj
    by_cases hB2 : (t.kids.length : Int) ≠ G
    · have HF := Lib.hid (show sigF ar t.pre = 9 by rw [sigF_pre, show badS ar t = 9 by unfold badS; rw [if_neg (show ¬ (ar.length : Int) < t.head by have := HA0.out; omega), if_pos (show 0 < t.head ∧ (t.kids.length : Int) ≠ gI ar (t.head - 1).toNat from ⟨hB1, by rw [← hG]; exact hB2⟩)]]; rfl)
      have hcb : ((t.kids.length : Int) != G) = true := by simpa using hB2
      clear hG hB2
      refine wp_region_quiet_below (by kernel_rfl) (by kernel_rfl) ?_
      repeat (go_big_quiet_step (fail))
      refine wpQuiet_nil ?_
      intro _ hw'
      obtain ⟨⟨dq, osq⟩, hw''⟩ := hw'
      subst hw''
      have SE := Lib.hid (S.regrown dq osq).bel
      clear S
      go_wp2_with fail
      go_ret
      exact ⟨ret_int HF.out.symm, SE.out⟩
    · have hB2 : (t.kids.length : Int) = G := Classical.not_not.1 hB2
      have HF := Lib.hid (show sigF ar t.pre = sigF ar (preL t.kids) by rw [sigF_pre, show badS ar t = 0 by unfold badS; rw [if_neg (show ¬ (ar.length : Int) < t.head by have := HA0.out; omega), if_neg (show ¬ (0 < t.head ∧ (t.kids.length : Int) ≠ gI ar (t.head - 1).toNat) by rw [← hG]; exact fun e => e.2 hB2)]]; rfl)
      have hcb : ((t.kids.length : Int) != G) = false := by simpa using hB2
      clear hG hB2
      refine wp_region_quiet_below (by kernel_rfl) (by kernel_rfl) ?_
      repeat (go_big_quiet_step (fail))
      refine wpQuiet_nil ?_
      intro _ hw'
      obtain ⟨⟨dq, osq⟩, hw''⟩ := hw'
      subst hw''
      refine (S.regrown dq osq).genX (z := bx + 1) (Nat.le_trans z1 (below_regrown w1 dq osq).size) ?_
      clear S r0 r1 r2 hw hj
      intro w2 z2 S
      go_wp2_with fail
      go_loopw [5, 6] (fun i e wr => ∃ k : Nat, k ≤ t.kids.length ∧ i = .int .i64 k ∧ (∃ E : Int, e = .int .i64 E ∨ e = undef) ∧ sigF ar (preL t.kids) = sigF ar (preL (t.kids.drop k)) ∧ bx + 1 ≤ wr.heap.size ∧ St w wr [.box bx #[.int .i64 t.head, .slice tk t.kids.length (t.kids.length + ts)] 45]) (fun i _ _ => t.kids.length - (intOf i).toNat)
      case atStart => exact ⟨0, by omega, rfl, ⟨0, .inr rfl⟩, rfl, z2, S⟩
      case round =>
        clear S
        obtain ⟨k, hk, rfl, hE, hno, z2, S⟩ := hrel
        have HNO := Lib.hid hno
        clear hno hE
        obtain ⟨⟨x0, _⟩, x1, _⟩ := S.two 0
        clear x0
        by_cases hlt : k < t.kids.length
        · have hlti : (k : Int) < (t.kids.length : Int) := by omega
          obtain ⟨b2, off2, xk, xs, rfl, c0, c1, c2⟩ := (HK.out.below S.bel) k hlt
          obtain ⟨X, hX⟩ : ∃ X, X = gK t.kids k := ⟨_, rfl⟩
          have HIH := Lib.hid (fun (W : World) (h : Below w.heap.size w W) (u : Value) (hu : TreeAt W u X) => IH.out k hlt q u (some ⟨b, off, none⟩) c W (HR.out.kept h) (by rw [← hX]; exact hu))
          rw [← hX] at c0 c1 c2 HIH
          obtain ⟨V, hV⟩ : ∃ V, V = sigF ar X.pre := ⟨_, rfl⟩
          rw [← hV] at HIH
          have HST := Lib.hid (show sigF ar (preL (t.kids.drop k)) = if V ≠ 0 then V else sigF ar (preL (t.kids.drop (k + 1))) by
            rw [List.drop_eq_getElem_cons hlt, preL, sigF, firstG_append, hV, hX]; simp [sigF, gK, hlt])
          have HTX := Lib.hid c2
          clear c2 hX hV
          go_wp2_with fail
          refine (S.quiet (HIH.out wr S.bel _ HTX.out)).mono ?_
          rintro e w3 ⟨rfl, z3, S3⟩
          clear S c0 c1 x1
          by_cases hv : V = 0
          · have HN := Lib.hid (show sigF ar (preL t.kids) = sigF ar (preL (t.kids.drop (k + 1))) by rw [HNO.out, HST.out, if_neg (by simpa using hv)])
            have hvb : (V != 0) = false := by simpa using hv
            clear hv
            go_wp2_with fail
            go_roundw
            case rel => exact ⟨k + 1, by omega, by go_num, ⟨_, .inl rfl⟩, HN.out, by omega, S3⟩
            case measure => simp [intOf] <;> omega
          · have HN := Lib.hid (show sigF ar t.pre = V by rw [HF.out, HNO.out, HST.out, if_pos hv])
            have hvb : (V != 0) = true := by simpa using hv
            have SE := Lib.hid S3.bel
            clear hv S3
            go_wp2_with fail
            go_ret
            exact ⟨ret_int HN.out.symm, SE.out⟩
        · obtain rfl : k = t.kids.length := by omega
          have HN := Lib.hid (show sigF ar t.pre = 0 by rw [HF.out, HNO.out, List.drop_length]; rfl)
          have SE := Lib.hid S.bel
          clear S
          go_wp2_with fail
          go_ret
          exact ⟨ret_int HN.out.symm, SE.out⟩
  · have HF := Lib.hid (show sigF ar t.pre = sigF ar (preL t.kids) by rw [sigF_pre, show badS ar t = 0 by unfold badS; rw [if_neg (show ¬ (ar.length : Int) < t.head by have := HA0.out; omega), if_neg (show ¬ (0 < t.head ∧ (t.kids.length : Int) ≠ gI ar (t.head - 1).toNat) by exact fun e => by have := e.1; omega)]]; rfl)
    refine wp_region_quiet_below (by kernel_rfl) (by kernel_rfl) ?_
    repeat (go_big_quiet_step (fail))
    refine wpQuiet_nil ?_
    intro _ hw'
    obtain ⟨⟨dq, osq⟩, hw''⟩ := hw'
    subst hw''
    refine (S.regrown dq osq).genX (z := bx + 1) (Nat.le_trans z1 (below_regrown w1 dq osq).size) ?_
    clear S r0 r1
    intro w2 z2 S
    go_wp2_with fail
    go_loopw [5, 6] (fun i e wr => ∃ k : Nat, k ≤ t.kids.length ∧ i = .int .i64 k ∧ (∃ E : Int, e = .int .i64 E ∨ e = undef) ∧ sigF ar (preL t.kids) = sigF ar (preL (t.kids.drop k)) ∧ bx + 1 ≤ wr.heap.size ∧ St w wr [.box bx #[.int .i64 t.head, .slice tk t.kids.length (t.kids.length + ts)] 45]) (fun i _ _ => t.kids.length - (intOf i).toNat)
    case atStart => exact ⟨0, by omega, rfl, ⟨0, .inr rfl⟩, rfl, z2, S⟩
    case round =>
      clear S
      obtain ⟨k, hk, rfl, hE, hno, z2, S⟩ := hrel
      have HNO := Lib.hid hno
      clear hno hE
      obtain ⟨⟨x0, _⟩, x1, _⟩ := S.two 0
      clear x0
      by_cases hlt : k < t.kids.length
      · have hlti : (k : Int) < (t.kids.length : Int) := by omega
        obtain ⟨b, off, xk, xs, rfl, c0, c1, c2⟩ := (HK.out.below S.bel) k hlt
        obtain ⟨X, hX⟩ : ∃ X, X = gK t.kids k := ⟨_, rfl⟩
        have HIH := Lib.hid (fun (W : World) (h : Below w.heap.size w W) (u : Value) (hu : TreeAt W u X) => IH.out k hlt q u ao c W (HR.out.kept h) (by rw [← hX]; exact hu))
        rw [← hX] at c0 c1 c2 HIH
        obtain ⟨V, hV⟩ : ∃ V, V = sigF ar X.pre := ⟨_, rfl⟩
        rw [← hV] at HIH
        have HST := Lib.hid (show sigF ar (preL (t.kids.drop k)) = if V ≠ 0 then V else sigF ar (preL (t.kids.drop (k + 1))) by
          rw [List.drop_eq_getElem_cons hlt, preL, sigF, firstG_append, hV, hX]; simp [sigF, gK, hlt])
        have HTX := Lib.hid c2
        clear c2 hX hV
        go_wp2_with fail
        refine (S.quiet (HIH.out wr S.bel _ HTX.out)).mono ?_
        rintro e w3 ⟨rfl, z3, S3⟩
        clear S c0 c1 x1
        by_cases hv : V = 0
        · have HN := Lib.hid (show sigF ar (preL t.kids) = sigF ar (preL (t.kids.drop (k + 1))) by rw [HNO.out, HST.out, if_neg (by simpa using hv)])
          have hvb : (V != 0) = false := by simpa using hv
          clear hv
          go_wp2_with fail
          go_roundw
          case rel => exact ⟨k + 1, by omega, by go_num, ⟨_, .inl rfl⟩, HN.out, by omega, S3⟩
          case measure => simp [intOf] <;> omega
        · have HN := Lib.hid (show sigF ar t.pre = V by rw [HF.out, HNO.out, HST.out, if_pos hv])
          have hvb : (V != 0) = true := by simpa using hv
          have SE := Lib.hid S3.bel
          clear hv S3
          go_wp2_with fail
          go_ret
          exact ⟨ret_int HN.out.symm, SE.out⟩
      · obtain rfl : k = t.kids.length := by omega
        have HN := Lib.hid (show sigF ar t.pre = 0 by rw [HF.out, HNO.out, List.drop_length]; rfl)
        have SE := Lib.hid S.bel
        clear S
        go_wp2_with fail
        go_ret
        exact ⟨ret_int HN.out.symm, SE.out⟩
end Go.Proofs.YtidgnbdlfngeaaaGreatDoor
