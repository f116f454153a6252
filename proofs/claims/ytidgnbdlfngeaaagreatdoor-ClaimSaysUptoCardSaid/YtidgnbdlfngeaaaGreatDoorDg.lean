/-
  Walks: the document's Digits, number.
-/
import Derived.Test.YtidgnbdlfngeaaaGreatDoorDp
namespace Go.Proofs.YtidgnbdlfngeaaaGreatDoor
open Go.RowKit Go.Shelf
set_option linter.unusedVariables false
set_option maxHeartbeats 400000

theorem sliceM_sV {P : Program} (w : World) (t : TypeId) (s : Bs) (i j : Nat) (h : P.underlying t = some .string) (hij : i ≤ j) (hj : j ≤ s.length) :
    (Instr.slice t (sV s) (some (.int .i64 (i : Int))) (some (.int .i64 (j : Int))) none).run P w = .ok (sV ((s.drop i).take (j - i))) w := by
  rw [run_slice_string w t _ _ _ _ _ h (by omega) (by omega) (by simp [ByteArray.size]; omega)]
  congr 2
  refine ByteArray.ext ?_
  simp
attribute [local go_sem 2000] index_sV sliceL_sV sliceR_sV
theorem ret_t {P : Program} {fn : Func} {R : Ending → World → Prop} {a : Act} {w : World} (v : Value) (hres : (results fn a.tmps).run P w = .ok v w) (hd : a.defers = []) (hR : R (.returned v) w) : bodyPost P fn R .ret a w := bodyPost_ret hres hd hR
theorem ext_drop (s : Bs) (n : Nat) : (⟨s.toArray⟩ : ByteArray).extract n s.length = ⟨(s.drop n).toArray⟩ := by
  apply ByteArray.ext
  simp
  exact List.take_of_length_le (by simp)
theorem catS_sV (a b : Bs) : (⟨a.toArray⟩ : ByteArray) ++ (⟨b.toArray⟩ : ByteArray) = ⟨(a ++ b).toArray⟩ := by
  apply ByteArray.ext
  simp
def sTen : Bs := [48, 49, 50, 51, 52, 53, 54, 55, 56, 57]
theorem ten_slice {n : Nat} (h : n < 10) : ((sTen.drop n).take (n + 1 - n)) = Lib.decDigits n := by
  rw [dig_lt h]
  match n, h with
  | 0, _ | 1, _ | 2, _ | 3, _ | 4, _ | 5, _ | 6, _ | 7, _ | 8, _ | 9, _ => rfl
theorem ten_run {P : Program} (w : World) (t : TypeId) (n : Nat) (h : P.underlying t = some .string) (hn : n < 10) :
    (Instr.slice t (.string { data := #[48, 49, 50, 51, 52, 53, 54, 55, 56, 57] }) (some (.int .i64 (n : Int))) (some (.int .i64 ((n : Int) + 1))) none).run P w = .ok (sV (Lib.decDigits n)) w := by
  have := sliceM_sV (P := P) w t sTen n (n + 1) h (by omega) (by simp [sTen]; omega)
  rw [ten_slice hn] at this
  exact this
set_option maxRecDepth 100000 in
theorem digits1 (n : Nat) (h : n < 10) (w : World) : Calls Tryz.prog 21 #[.int .i64 (n : Int)] w fun e w' => e = .returned (sV (Lib.decDigits n)) ∧ w' = w := by
  have h2 : (n : Int) < 10 := by omega
  have hT := ten_run (P := Tryz.prog) w 9 n Tryz.underlying9 h
  go_enter Tryz.func21, Tryz.ntmps21
  go_wp2_with fail
  go_ret
  exact ⟨rfl, rfl⟩
set_option maxRecDepth 100000 in
theorem digits21 (n : Nat) (h : n ≤ 12) (w : World) : Calls Tryz.prog 21 #[.int .i64 (n : Int)] w fun e w' => e = .returned (sV (Lib.decDigits n)) ∧ w' = w := by
  by_cases h1 : n < 10
  · exact digits1 n h1 w
  · have D1 := Lib.hid (show Calls Tryz.prog 21 #[.int .i64 (1 : Int)] w fun e w' => e = .returned (sV (Lib.decDigits 1)) ∧ w' = w from digits1 1 (by decide) w)
    have D0 := Lib.hid (show Calls Tryz.prog 21 #[.int .i64 (0 : Int)] w fun e w' => e = .returned (sV (Lib.decDigits 0)) ∧ w' = w from digits1 0 (by decide) w)
    have D2 := Lib.hid (show Calls Tryz.prog 21 #[.int .i64 (2 : Int)] w fun e w' => e = .returned (sV (Lib.decDigits 2)) ∧ w' = w from digits1 2 (by decide) w)
    have hl0 : ¬ 9223372036854775807 < (Lib.decDigits 1).length + (Lib.decDigits 0).length := by rw [dig_lt (n := 1) (by omega), dig_lt (n := 0) (by omega)]; decide
    have hl1 : ¬ 9223372036854775807 < (Lib.decDigits 1).length + (Lib.decDigits 1).length := by rw [dig_lt (n := 1) (by omega)]; decide
    have hl2 : ¬ 9223372036854775807 < (Lib.decDigits 1).length + (Lib.decDigits 2).length := by rw [dig_lt (n := 1) (by omega), dig_lt (n := 2) (by omega)]; decide
    rcases (show n = 10 ∨ n = 11 ∨ n = 12 by omega) with rfl | rfl | rfl
    · clear D2
      have E := Lib.hid (show sV (Lib.decDigits 10) = .string (⟨(Lib.decDigits 1).toArray⟩ ++ ⟨(Lib.decDigits 0).toArray⟩) by
        rw [catS_sV, dig_ge (n := 10) (by omega) (by omega), dig_lt (n := 1) (by omega), dig_lt (n := 0) (by omega)]; rfl)
      go_enter Tryz.func21, Tryz.ntmps21
      go_wp2_with fail
      go_at_call 21
      refine (D1.out).mono ?_
      rintro e w2 ⟨rfl, rfl⟩
      go_wp2_with fail
      go_at_call 21
      refine (D0.out).mono ?_
      rintro e w2 ⟨rfl, rfl⟩
      go_wp2_with fail
      go_ret
      exact ⟨by rw [E.out]; rfl, rfl⟩
    · clear D0 D2
      have E := Lib.hid (show sV (Lib.decDigits 11) = .string (⟨(Lib.decDigits 1).toArray⟩ ++ ⟨(Lib.decDigits 1).toArray⟩) by
        rw [catS_sV, dig_ge (n := 11) (by omega) (by omega), dig_lt (n := 1) (by omega)]; rfl)
      go_enter Tryz.func21, Tryz.ntmps21
      go_wp2_with fail
      go_at_call 21
      refine (D1.out).mono ?_
      rintro e w2 ⟨rfl, rfl⟩
      go_wp2_with fail
      go_at_call 21
      refine (D1.out).mono ?_
      rintro e w2 ⟨rfl, rfl⟩
      go_wp2_with fail
      go_ret
      exact ⟨by rw [E.out]; rfl, rfl⟩
    · clear D0
      have E := Lib.hid (show sV (Lib.decDigits 12) = .string (⟨(Lib.decDigits 1).toArray⟩ ++ ⟨(Lib.decDigits 2).toArray⟩) by
        rw [catS_sV, dig_ge (n := 12) (by omega) (by omega), dig_lt (n := 1) (by omega), dig_lt (n := 2) (by omega)]; rfl)
      go_enter Tryz.func21, Tryz.ntmps21
      go_wp2_with fail
      go_at_call 21
      refine (D1.out).mono ?_
      rintro e w2 ⟨rfl, rfl⟩
      go_wp2_with fail
      go_at_call 21
      refine (D2.out).mono ?_
      rintro e w2 ⟨rfl, rfl⟩
      go_wp2_with fail
      go_ret
      exact ⟨by rw [E.out]; rfl, rfl⟩

theorem index0_sV {P : Program} (w : World) (t : TypeId) (a : UInt8) (r : Bs) (h : P.underlying t = some .string) : (Instr.index t (sV (a :: r)) (.int .i64 0)).run P w = .ok (.int .u8 (a.toNat : Int)) w :=
  index_sV w t (a :: r) 0 h (by simp)
theorem slice1_sV {P : Program} (w : World) (t : TypeId) (a : UInt8) (r : Bs) (h : P.underlying t = some .string) : (Instr.slice t (sV (a :: r)) (some (.int .i64 1)) none none).run P w = .ok (sV r) w :=
  sliceR_sV w t (a :: r) 1 h (by simp)
attribute [local go_sem 3000] index0_sV slice1_sV
theorem in16 (k : Nat) (b : Bool) (hb : b = decide (1 ≤ k ∧ k ≤ 3)) (w : World) : Calls Tryz.prog 16 #[.int .i64 (k : Int), .int .i64 1, .int .i64 3] w fun e w' => e = .returned (.bool b) ∧ Below w.heap.size w w' := by
  have h := in54 (k : Int) 1 3 w
  rw [show decide ((1 : Int) ≤ (k : Int) ∧ (k : Int) ≤ 3) = b by rw [hb]; exact decide_eq_decide.2 ⟨fun h => by omega, fun h => by omega⟩] at h
  refine h.mono ?_
  rintro e w' ⟨rfl, rfl⟩
  exact ⟨rfl, Below.refl _ _⟩
set_option maxRecDepth 100000 in
set_option maxHeartbeats 8000000 in
theorem number47 (s : Bs) (hs : s.length ≤ 100000) (w : World) : Calls Tryz.prog 47 #[sV s] w fun e w' => ∃ n r, e = .returned (.tuple #[.int .i64 n, sV r, .bool (posB s)]) ∧ (posB s = true → n = valD (digs s) ∧ r = numR s) ∧ Below w.heap.size w w' := by
  obtain ⟨n, hn⟩ : ∃ n, n = dN s := ⟨_, rfl⟩
  have HN := Lib.hid hn
  have hns : n ≤ s.length := by rw [hn]; exact dN_le s
  have hnd : n ≤ (digs s).length ∧ n ≤ 4 := by rw [hn]; unfold dN; omega
  have HND := Lib.hid (show n = 4 ∨ n = (digs s).length by rw [hn]; unfold dN; omega)
  have hz : (⟨s.toArray⟩ : ByteArray).size = s.length := by simp [ByteArray.size]
  clear hn
  have hs' : s.length ≤ 9223372036854775807 := by omega
  go_enter Tryz.func47, Tryz.ntmps47
  go_upto_block 0 with fail
  go_cut [5, 6] (fun i x W => i = .int .i64 n ∧ x = .int .i64 (valD (s.take n)) ∧ W = w)
  case first =>
    go_wp2_with fail
    go_loopw [5, 6] (fun i x wr => ∃ k : Nat, k ≤ n ∧ i = .int .i64 k ∧ x = .int .i64 (valD (s.take k)) ∧ wr = w) (fun i _ _ => n - (intOf i).toNat)
    case atStart => exact ⟨0, Nat.zero_le _, rfl, by simp [valD], rfl⟩
    case round =>
      obtain ⟨k, hk, rfl, rfl, rfl⟩ := hrel
      by_cases hlt : k < n
      · have hks : k < s.length := by omega
        have hd := digs_in (s := s) (k := k) (by omega)
        rw [show s.getD k 0 = s[k] by simp [List.getD, hks]] at hd
        unfold isDig at hd
        simp only [Bool.and_eq_true, decide_eq_true_eq] at hd
        have hd1 : (48 : Int) ≤ (s[k].toNat : Int) := by omega
        have hd2 : ((s[k].toNat : Nat) : Int) ≤ 57 := by omega
        have hk4 : (k : Int) < 4 := by omega
        have HV := Lib.hid (show valD (s.take (k + 1)) = valD (s.take k) * 10 + (s[k].toNat - 48) from by rw [take_snoc hks, valD_snoc])
        have hvb := valD_take (s := s) (k := k) (by omega)
        have hp : 10 ^ k ≤ 10 ^ 3 := Nat.pow_le_pow_right (by decide) (by omega)
        have hvb2 : valD (s.take k) ≤ 1000 := by omega
        clear hd hvb hp
        obtain ⟨v, hv⟩ : ∃ v, v = valD (s.take k) := ⟨_, rfl⟩
        rw [← hv] at hvb2 HV ⊢
        obtain ⟨c, hc⟩ : ∃ v, v = s[k].toNat := ⟨_, rfl⟩
        rw [← hc] at hd1 hd2 HV
        have HCC := Lib.hid (show s[k].toNat = c from hc.symm)
        go_wp2_with fail
        go_roundw
        case rel => exact ⟨k + 1, by omega, by simp, by rw [HV.out]; refine congrArg (Value.int .i64) ?_; rw [← hv, HCC.out]; omega, trivial⟩
        all_goals (simp [intOf]; omega)
      · obtain rfl : k = n := by omega
        by_cases hks : k < s.length
        · by_cases hk4 : k < 4
          · have hk4 : (k : Int) < 4 := by omega
            have hd := digs_out (s := s) (k := k) (by have := HND.out; omega) hks
            rw [show s.getD k 0 = s[k] by simp [List.getD, hks]] at hd
            unfold isDig at hd
            simp only [Bool.and_eq_false_iff, decide_eq_false_iff_not] at hd
            by_cases hd1 : (48 : Int) ≤ (s[k].toNat : Int)
            · have hd2 : ¬ ((s[k].toNat : Nat) : Int) ≤ 57 := by omega
              clear hd
              go_wp2_with fail
              go_meet
              case rel => exact ⟨rfl, rfl, rfl⟩
            · clear hd
              go_wp2_with fail
              go_meet
              case rel => exact ⟨rfl, rfl, rfl⟩
          · have hk4 : ¬ (k : Int) < 4 := by omega
            go_wp2_with fail
            go_meet
            case rel => exact ⟨rfl, rfl, rfl⟩
        · go_wp2_with fail
          go_meet
          case rel => exact ⟨rfl, rfl, rfl⟩
  case rest =>
    obtain ⟨rfl, rfl, rfl⟩ := hcut
    have HP := Lib.hid (show posB s = true → (valD (s.take n) : Int) = valD (digs s) ∧ s.drop n = numR s from fun h => by
      obtain ⟨h1, h2, h3⟩ := dN_pos h
      rw [HN.out, h2, h3]; exact ⟨rfl, rfl⟩)
    obtain ⟨v, hv⟩ : ∃ v, v = valD (s.take n) := ⟨_, rfl⟩
    rw [← hv] at HP ⊢
    clear hv
    obtain ⟨t, ht⟩ : ∃ b, b = decide (1 ≤ n ∧ n ≤ 3) := ⟨_, rfl⟩
    have CA := Lib.hid (fun d os => Calls.regrown_of (in16 n t ht (Go.Sort.grow (redrawn wc d) os)))
    have HT := Lib.hid ht.symm
    clear ht
    have HPB := Lib.hid (posB_iff s)
    cases t with
    | false =>
      have HB := Lib.hid (show posB s = false by
        rw [HPB.out]
        have h1 : ¬ (1 ≤ n ∧ n ≤ 3) := of_decide_eq_false HT.out
        have h2 := HND.out
        by_cases h3 : 1 ≤ (digs s).length
        · have : ¬ (digs s).length ≤ 3 := by omega
          simp [this]
        · simp [h3])
      go_wp2_with fail
      refine wp_region_quiet_below (by kernel_rfl) (by kernel_rfl) ?_
      iterate 14 (go_big_quiet_step (exact CA.out _ _))
      refine wpQuiet_nil ?_
      intro _ hw'
      obtain ⟨⟨dq, osq⟩, hw''⟩ := hw'
      subst hw''
      go_wp2_with fail
      refine ret_t (.tuple #[.int .i64 v, sV (s.drop n), .bool false]) (by simp [results, Tryz.results47, go_sem]) rfl ?_
      exact ⟨v, s.drop n, by rw [HB.out], HP.out, below_regrown wc dq osq⟩
    | true =>
      have h1 : 1 ≤ n ∧ n ≤ 3 := of_decide_eq_true HT.out
      have h2 : n = (digs s).length := by have := HND.out; omega
      obtain ⟨a, r, rfl⟩ : ∃ a r, s = a :: r := by
        cases s with
        | nil => simp at hns; omega
        | cons a r => exact ⟨a, r, rfl⟩
      next =>
        have HR1 := Lib.hid (show 1 ≤ (digs (a :: r)).length ∧ (digs (a :: r)).length ≤ 3 by omega)
        clear h1 h2
        by_cases h48 : (a.toNat : Int) = 48
        · have HB := Lib.hid (show posB (a :: r) = false by
            have h4 : a = 48 := u8_eq (by have : (48 : UInt8).toNat = 48 := rfl; omega)
            rw [HPB.out, h4]; simp)
          go_wp2_with fail
          refine wp_region_quiet_below (by kernel_rfl) (by kernel_rfl) ?_
          iterate 14 (go_big_quiet_step (exact CA.out _ _))
          refine wpQuiet_nil ?_
          intro _ hw'
          obtain ⟨⟨dq, osq⟩, hw''⟩ := hw'
          subst hw''
          go_wp2_with fail
          refine ret_t (.tuple #[.int .i64 v, sV ((a :: r).drop n), .bool false]) (by have hx := ext_drop (a :: r) n; rw [List.length_cons] at hx; simp [results, Tryz.results47, go_sem, hx]) rfl ?_
          exact ⟨v, (a :: r).drop n, by rw [HB.out], HP.out, below_regrown wc dq osq⟩
        · have HB := Lib.hid (show posB (a :: r) = true by
            have h4 : a ≠ 48 := fun e => h48 (by rw [e]; rfl)
            have hr1 := HR1.out; rw [HPB.out]; simp [h4, hr1])
          go_wp2_with fail
          refine wp_region_quiet_below (by kernel_rfl) (by kernel_rfl) ?_
          iterate 14 (go_big_quiet_step (exact CA.out _ _))
          refine wpQuiet_nil ?_
          intro _ hw'
          obtain ⟨⟨dq, osq⟩, hw''⟩ := hw'
          subst hw''
          go_wp2_with fail
          refine ret_t (.tuple #[.int .i64 v, sV ((a :: r).drop n), .bool true]) (by have hx := ext_drop (a :: r) n; rw [List.length_cons] at hx; simp [results, Tryz.results47, go_sem, hx, h48]) rfl ?_
          exact ⟨v, (a :: r).drop n, by rw [HB.out], HP.out, below_regrown wc dq osq⟩
end Go.Proofs.YtidgnbdlfngeaaaGreatDoor
