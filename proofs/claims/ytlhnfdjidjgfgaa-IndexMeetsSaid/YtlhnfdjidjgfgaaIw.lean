/-
  Walks: the same numbers (W.Ints); is a number on a list (W.Has)?
-/
import Derived.Test.YtlhnfdjidjgfgaaProg
import Derived.Test.YtlhnfdjidjgfgaaE6
import Derived.RegionTactic
namespace Go.Proofs.Ytlhnfdjidjgfgaa
open Go.RowKit Go.Shelf
set_option linter.unusedVariables false
set_option maxHeartbeats 400000

set_option maxRecDepth 100000 in
set_option maxHeartbeats 4000000 in
theorem ints56 (a b : List Int) (p q : Nat → Prop) (ao bo : Option Addr) (ca cb : Nat) (w : World) (ha : intE.Row p w ao a) (hb : intE.Row q w bo b) (hla : a.length ≤ 1000000000) (hlb : b.length ≤ 1000000000) :
    Calls Try.prog 48 #[.slice ao a.length ca, .slice bo b.length cb] w fun e w' => e = .returned (.bool (decide (a = b))) ∧ Below w.heap.size w w' := by
  have HA := Lib.hid ha; have HB := Lib.hid hb
  clear ha hb
  by_cases hne : a.length = b.length
  · have hnei : (a.length : Int) = (b.length : Int) := by omega
    have hneb : ((a.length : Int) != (b.length : Int)) = false := by simp [hnei]
    have HNE := Lib.hid hne
    clear hne hnei
    go_enter Try.func48, Try.ntmps48
    go_wp2_with fail
    go_loopw [5] (fun i wr => ∃ k : Nat, k ≤ a.length ∧ i = .int .i64 k ∧ (∀ (j : Nat), j < k → a[j]? = b[j]?) ∧ Below w.heap.size w wr) (fun i _ => a.length - (intOf i).toNat)
    case atStart => exact ⟨0, by omega, rfl, fun j hj => by omega, Below.refl _ _⟩
    case round =>
      obtain ⟨k, hk, rfl, heq, hbel⟩ := hrel
      have HEQ := Lib.hid heq
      have HBL := Lib.hid hbel
      clear heq hbel
      by_cases hlt : k < a.length
      · have hlti : (k : Int) < (a.length : Int) := by omega
        have hlt2 : k < b.length := by have := HNE.out; omega
        have hlti2 : (k : Int) < (b.length : Int) := by omega
        obtain ⟨ba, oa, rfl, _, c0⟩ := (HA.out.kept HBL.out).int hlt
        obtain ⟨bb, ob, rfl, _, d0⟩ := (HB.out.kept HBL.out).int hlt2
        obtain ⟨X, hX⟩ : ∃ X, X = a[k] := ⟨_, rfl⟩
        obtain ⟨Y, hY⟩ : ∃ Y, Y = b[k] := ⟨_, rfl⟩
        rw [← hX] at c0
        rw [← hY] at d0
        have HXK := Lib.hid (show a[k]? = some X by rw [hX]; exact List.getElem?_eq_getElem hlt)
        have HYK := Lib.hid (show b[k]? = some Y by rw [hY]; exact List.getElem?_eq_getElem hlt2)
        clear hX hY
        have r0 := cell_regrown c0; have r1 := cell_regrown d0
        go_wp2_with fail
        clear c0 d0
        refine wp_region_quiet_below (by kernel_rfl) (by kernel_rfl) ?_
        repeat (go_big_quiet_step (fail))
        refine wpQuiet_nil ?_
        intro _ hw'
        obtain ⟨⟨dq, osq⟩, hw''⟩ := hw'
        subst hw''
        have HBL2 := Lib.hid (Below.step HBL.out (below_regrown wr dq osq))
        clear r0 r1
        by_cases hXY : X = Y
        · have hXb : (X != Y) = false := by simp [hXY]
          have HEQ2 := Lib.hid (show ∀ (j : Nat), j < k + 1 → a[j]? = b[j]? from fun j hj => by
            rcases Nat.lt_succ_iff_lt_or_eq.1 hj with h | rfl
            · exact HEQ.out j h
            · rw [HXK.out, HYK.out, hXY])
          clear hXY
          go_wp2_with fail
          go_roundw
          case rel => exact ⟨k + 1, by omega, by go_num, HEQ2.out, HBL2.out⟩
          case measure => simp [intOf] <;> omega
        · have hXb : (X != Y) = true := by simpa using hXY
          have HF := Lib.hid (show decide (a = b) = false by
            rw [decide_eq_false_iff_not]
            intro e
            have h1 := HXK.out
            rw [e, HYK.out] at h1
            exact hXY (Option.some.inj h1).symm)
          clear hXY
          go_wp2_with fail
          go_ret
          exact ⟨ret_bool HF.out.symm, HBL2.out⟩
      · obtain rfl : k = a.length := by omega
        have HF := Lib.hid (show decide (a = b) = true by
          rw [decide_eq_true_iff]
          apply List.ext_getElem?
          intro j
          by_cases hj : j < a.length
          · exact HEQ.out j hj
          · rw [List.getElem?_eq_none (by omega), List.getElem?_eq_none (by have := HNE.out; omega)])
        go_wp2_with fail
        go_ret
        exact ⟨ret_bool HF.out.symm, HBL.out⟩
  · have hneb : ((a.length : Int) != (b.length : Int)) = true := by simp; omega
    have HF := Lib.hid (show decide (a = b) = false by
      rw [decide_eq_false_iff_not]
      intro e; exact hne (by rw [e]))
    clear hne
    go_enter Try.func48, Try.ntmps48
    go_wp2_with fail
    go_ret
    exact ⟨ret_bool HF.out.symm, Below.refl _ _⟩


set_option maxRecDepth 100000 in
set_option maxHeartbeats 4000000 in
theorem has49 (a : List Int) (x : Int) (p : Nat → Prop) (ao : Option Addr) (ca : Nat) (w : World) (ha : intE.Row p w ao a) (hla : a.length ≤ 1000000000) :
    Calls Try.prog 49 #[.slice ao a.length ca, .int .i64 x] w fun e w' => e = .returned (.bool (decide (x ∈ a))) ∧ Below w.heap.size w w' := by
  have HA := Lib.hid ha
  clear ha
  go_enter Try.func49, Try.ntmps49
  go_wp2_with fail
  go_loopw [5] (fun i wr => ∃ k : Nat, k ≤ a.length ∧ i = .int .i64 k ∧ Hid (∀ (j : Nat) y, j < k → a[j]? = some y → y ≠ x) ∧ Below w.heap.size w wr) (fun i _ => a.length - (intOf i).toNat)
  case atStart => exact ⟨0, by omega, rfl, (fun j y hj => by omega), Below.refl _ _⟩
  case round =>
    obtain ⟨k, hk, rfl, HNO, hbel⟩ := hrel
    have HBL := Lib.hid hbel
    clear hbel
    by_cases hlt : k < a.length
    · have hlti : (k : Int) < (a.length : Int) := by omega
      obtain ⟨ba, oa, rfl, _, c0⟩ := (HA.out.kept HBL.out).int hlt
      obtain ⟨X, hX⟩ : ∃ X, X = a[k] := ⟨_, rfl⟩
      rw [← hX] at c0
      have HXK := Lib.hid (show a[k]? = some X by rw [hX]; exact List.getElem?_eq_getElem hlt)
      clear hX
      by_cases he : X = x
      · have heb : (X == x) = true := by simp [he]
        have HE := Lib.hid (show decide (x ∈ a) = true from decide_eq_true (by rw [← he]; exact List.mem_of_getElem? HXK.out))
        clear he
        go_wp2_with fail
        go_ret
        exact ⟨ret_bool HE.out.symm, HBL.out⟩
      · have heb : (X == x) = false := by simp [he]
        have HNO2 := Lib.hid (show ∀ (j : Nat) y, j < k + 1 → a[j]? = some y → y ≠ x from fun j y hj hy => by
          by_cases e : j = k
          · subst e; rw [HXK.out] at hy; obtain rfl := Option.some.inj hy; exact he
          · exact HNO.out j y (by omega) hy)
        clear he
        go_wp2_with fail
        go_roundw
        case rel => exact ⟨k + 1, by omega, by go_num, HNO2, HBL.out⟩
        case measure => simp [intOf] <;> omega
    · obtain rfl : k = a.length := by omega
      have HE := Lib.hid (show decide (x ∈ a) = false from decide_eq_false (fun h => by
        obtain ⟨j, hj, e⟩ := List.getElem_of_mem h
        exact HNO.out j _ hj (List.getElem?_eq_getElem hj) e))
      go_wp2_with fail
      go_ret
      exact ⟨ret_bool HE.out.symm, HBL.out⟩
end Go.Proofs.Ytlhnfdjidjgfgaa
