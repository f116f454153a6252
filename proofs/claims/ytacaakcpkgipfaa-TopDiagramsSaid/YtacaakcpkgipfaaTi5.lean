/-
  Walks: the end of a schedule, two jobs that overlap.
-/
import Derived.Test.YtacaakcpkgipfaaProg
import Derived.Test.YtacaakcpkgipfaaTi4
import Derived.RegionTactic
import Derived.BigQuiet
import Derived.Deep.DeepCutAuto
namespace Go.Proofs.Ytacaakcpkgipfaa
open Go.RowKit Go.Shelf
set_option linter.unusedVariables false
set_option maxHeartbeats 400000

/-- starts that are in range -/
def okS (s : List Int) : Prop := ∀ i (h : i < s.length), 0 ≤ s[i] ∧ s[i] ≤ 1000

set_option maxRecDepth 100000 in
set_option maxHeartbeats 4000000 in
theorem makespan30 (js : List Jb) (s : List Int) (p q : Nat → Prop) (bp : Nat) (jo so : Option Addr) (jc sc : Nat) (w : World) (hp : w.cell? ⟨bp, 0, none⟩ = some (.slice jo js.length jc)) (hj : jobE.Row p w jo js) (hs : intE.Row q w so s) (hoj : okJ js) (hos : okS s) (hjn : js.length ≤ 3) (hsl : s.length = js.length) :
    Calls Try.prog 30 #[.pointer (some ⟨bp, 0, none⟩), .slice so s.length sc] w fun e w' => e = .returned (.int .i64 (span js s)) ∧ Below w.heap.size w w' := by
  have HJ := Lib.hid hj; have HS := Lib.hid hs; have HOJ := Lib.hid hoj; have HOS := Lib.hid hos; have HSL := Lib.hid hsl
  have hji : (js.length : Int) ≤ 3 := by omega
  have S := St.start w
  clear hj hs hoj hos hsl
  go_enter Try.func30, Try.ntmps30
  go_wp2_with fail
  go_loopw [5, 13] (fun l i wr => ∃ k : Nat, k ≤ js.length ∧ l = .int .i64 (spanL js s k) ∧ i = .int .i64 k ∧ 0 ≤ spanL js s k ∧ spanL js s k ≤ 2000 ∧ St w wr []) (fun _ i _ => js.length - (intOf i).toNat)
  case atStart => exact ⟨0, by omega, rfl, rfl, by simp [spanL], by simp [spanL], S⟩
  case round =>
    clear S
    obtain ⟨k, hk, rfl, rfl, hl0, hl1, S⟩ := hrel
    by_cases hlt : k < js.length
    · have hlti : (k : Int) < (js.length : Int) := by omega
      have hls : k < s.length := by rw [HSL.out]; exact hlt
      have hlsi : (k : Int) < (s.length : Int) := by omega
      obtain ⟨b, off, rfl, _, c0, c1, c2⟩ := (HJ.out.kept S.bel).job hlt
      obtain ⟨b2, off2, rfl, _, d0⟩ := (HS.out.kept S.bel).int hls
      obtain ⟨h1, h2, h3, h4, h5, h6⟩ := HOJ.out k hlt
      obtain ⟨h7, h8⟩ := HOS.out k hls
      have HSP := Lib.hid (show spanL js s (k + 1) = max (spanL js s k) (s[k] + js[k].long) by rw [spanL, gJ_get hlt, gT_get hls])
      obtain ⟨A, hA⟩ : ∃ A, A = js[k].long := ⟨_, rfl⟩
      obtain ⟨M, hM⟩ : ∃ A, A = js[k].mach := ⟨_, rfl⟩
      obtain ⟨F, hF⟩ : ∃ A, A = js[k].from_ := ⟨_, rfl⟩
      obtain ⟨V, hV⟩ : ∃ A, A = s[k] := ⟨_, rfl⟩
      obtain ⟨P, hP⟩ : ∃ A, A = spanL js s k := ⟨_, rfl⟩
      rw [← hA] at c0 h1 h2 HSP
      rw [← hM] at c1
      rw [← hF] at c2
      rw [← hV] at d0 h7 h8 HSP
      rw [← hP] at HSP hl0 hl1 ⊢
      clear hA hM hF hV hP h3 h4 h5 h6
      have S2 := S.box rfl #[.int .i64 A, .int .i64 M, .int .i64 F] 26
      have HD := Lib.hid (Below.cellOf ((Below.refl _ wr).alloc (Nat.le_refl _) (.cells #[.int .i64 A, .int .i64 M, .int .i64 F] 26)) d0)
      obtain ⟨bt, hbt⟩ : ∃ b, b = wr.heap.size := ⟨_, rfl⟩
      go_wp2_with fail
      rw [← hbt] at S2 ⊢
      have e0 := (S2.cell 0 0 rfl).1
      have d1 := HD.out
      generalize wr.alloc (.cells #[.int .i64 A, .int .i64 M, .int .i64 F] 26) = w1 at S2 d1 e0 ⊢
      clear hbt S c0 c1 c2 d0 HD
      have q0 := cell_regrown e0; have q1 := cell_regrown d1
      refine wp_region_quiet_below (by kernel_rfl) (by kernel_rfl) ?_
      repeat (go_big_quiet_step (fail))
      refine wpQuiet_nil ?_
      intro _ hw'
      obtain ⟨⟨dq, osq⟩, hw''⟩ := hw'
      subst hw''
      have S3 := S2.regrown dq osq
      have SB := Lib.hid (S3.pick [])
      clear q0 q1 S2 S3 e0 d1
      go_wp2_with fail
      go_roundw
      case rel => exact ⟨k + 1, by omega, by rw [HSP.out]; congr 1; split <;> omega, by go_num, by rw [HSP.out]; omega, by rw [HSP.out]; omega, SB.out⟩
      case measure => simp [intOf] <;> omega
    · obtain rfl : k = js.length := by omega
      have SB := Lib.hid S.bel
      clear S
      go_wp2_with fail
      go_ret
      exact ⟨rfl, SB.out⟩
def OverP (js : List Jb) (s : List Int) (w : World) (e : Ending) (w' : World) : Prop :=
  (∃ k i : Nat, e = .returned (.tuple #[.int .i64 k, .int .i64 i, .bool true]) ∧ k < i ∧ i < js.length ∧ Clash js s i k ∧ Below w.heap.size w w') ∨ (e = .returned (.tuple #[.int .i64 0, .int .i64 0, .bool false]) ∧ (∀ i k, k < i → i < js.length → ¬ Clash js s i k) ∧ Below w.heap.size w w')
set_option maxRecDepth 100000 in
set_option maxHeartbeats 4000000 in
theorem overlap31 (js : List Jb) (s : List Int) (p q : Nat → Prop) (bp : Nat) (jo so : Option Addr) (jc sc : Nat) (w : World) (hp : w.cell? ⟨bp, 0, none⟩ = some (.slice jo js.length jc)) (hj : jobE.Row p w jo js) (hs : intE.Row q w so s) (hoj : okJ js) (hos : okS s) (hjn : js.length ≤ 3) (hjc : js.length ≤ jc) (hsl : s.length = js.length) :
    Calls Try.prog 31 #[.pointer (some ⟨bp, 0, none⟩), .slice so s.length sc] w (OverP js s w) := by
  have HJ := Lib.hid hj; have HS := Lib.hid hs; have HOJ := Lib.hid hoj; have HOS := Lib.hid hos; have HSL := Lib.hid hsl; have HP := Lib.hid hp
  have hji : (js.length : Int) ≤ 3 := by omega
  have S := St.start w
  clear hj hs hoj hos hsl
  go_enter Try.func31, Try.ntmps31
  go_wp2_with fail
  clear hp
  go_loopw [16] (fun i wr => ∃ k : Nat, k ≤ js.length ∧ i = .int .i64 k ∧ Hid (∀ i' k', i' < k → k' < i' → ¬ Clash js s i' k') ∧ St w wr []) (fun i _ => js.length - (intOf i).toNat)
  case atStart => exact ⟨0, by omega, rfl, Lib.hid (fun i' k' h => by omega), S⟩
  case round =>
    clear S
    obtain ⟨k, hk, rfl, HNK, S⟩ := hrel
    by_cases hlt : k < js.length
    · have hlti : (k : Int) < (js.length : Int) := by omega
      have hls : k < s.length := by rw [HSL.out]; exact hlt
      have hlsi : (k : Int) < (s.length : Int) := by omega
      obtain ⟨b, off, rfl, _, f0, f1, f2⟩ := HJ.out.job hlt
      obtain ⟨b2, off2, rfl, _, d0⟩ := HS.out.int hls
      obtain ⟨h1, h2, _, _, _, _⟩ := HOJ.out k hlt
      obtain ⟨h7, h8⟩ := HOS.out k hls
      obtain ⟨X, hX⟩ : ∃ A, A = js[k] := ⟨_, rfl⟩
      obtain ⟨V, hV⟩ : ∃ A, A = s[k] := ⟨_, rfl⟩
      have HX := Lib.hid (show gJ js k = X by rw [gJ_get hlt, hX])
      have HV := Lib.hid (show gT s k = V by rw [gT_get hls, hV])
      rw [← hX] at f0 f1 f2 h1 h2
      rw [← hV] at d0 h7 h8
      have HD := Lib.hid d0
      have c0 := Below.cellOf S.bel f0; have c1 := Below.cellOf S.bel f1; have c2 := Below.cellOf S.bel f2
      have hp := Below.cellOf S.bel HP.out
      have hkc : k ≤ jc := by omega
      have hkci : (k : Int) ≤ (jc : Int) := by omega
      clear hX hV f0 f1 f2 d0
      obtain ⟨bt, hbt⟩ : ∃ b, b = wr.heap.size := ⟨_, rfl⟩
      have S2 := S.box hbt.symm #[.int .i64 X.long, .int .i64 X.mach, .int .i64 X.from_] 26
      have hp2 := Below.cellOf ((Below.refl _ wr).alloc (Nat.le_refl _) (.cells #[.int .i64 X.long, .int .i64 X.mach, .int .i64 X.from_] 26)) hp
      go_wp2_with fail
      rw [← hbt]
      clear c0 c1 c2 hp hp2 hbt S
      go_loopw [28] (fun i wr => ∃ m : Nat, m ≤ k ∧ i = .int .i64 m ∧ Hid (∀ k', k' < m → ¬ Clash js s k k') ∧ St w wr [.box bt #[.int .i64 X.long, .int .i64 X.mach, .int .i64 X.from_] 26]) (fun i _ => k - (intOf i).toNat)
      case atStart => exact ⟨0, by omega, rfl, Lib.hid (fun k' h => by omega), S2⟩
      case round =>
        clear S2
        obtain ⟨m, hm, rfl, HNO, S⟩ := hrel
        by_cases hlt2 : m < k
        · have hlti2 : (m : Int) < (k : Int) := by omega
          have hmj : m < js.length := by omega
          have hms : m < s.length := by omega
          have hmsi : (m : Int) < (s.length : Int) := by omega
          obtain ⟨b', off', he, _, f0, f1, f2⟩ := HJ.out.job hmj
          simp only [Option.some.injEq, Addr.mk.injEq, and_true] at he
          obtain ⟨rfl, rfl⟩ := he
          obtain ⟨b2', off2', he, _, d0⟩ := HS.out.int hms
          simp only [Option.some.injEq, Addr.mk.injEq, and_true] at he
          obtain ⟨rfl, rfl⟩ := he
          obtain ⟨i1, i2, _, _, _, _⟩ := HOJ.out m hmj
          obtain ⟨i7, i8⟩ := HOS.out m hms
          obtain ⟨Y, hY⟩ : ∃ A, A = js[m] := ⟨_, rfl⟩
          obtain ⟨U, hU⟩ : ∃ A, A = s[m] := ⟨_, rfl⟩
          have HCL := Lib.hid (show Clash js s k m ↔ (Rival X Y ∧ U < V + X.long ∧ V < U + Y.long) by unfold Clash; rw [HX.out, HV.out, gJ_get hmj, gT_get hms, ← hY, ← hU])
          rw [← hY] at f0 f1 f2 i1 i2
          rw [← hU] at d0 i7 i8
          have c0 := Below.cellOf S.bel f0; have c1 := Below.cellOf S.bel f1; have c2 := Below.cellOf S.bel f2
          have HD2 := Lib.hid d0
          clear hY hU f0 f1 f2 d0
          obtain ⟨bu, hbu⟩ : ∃ b, b = wr.heap.size := ⟨_, rfl⟩
          have S2 := S.box hbu.symm #[.int .i64 Y.long, .int .i64 Y.mach, .int .i64 Y.from_] 26
          go_wp2_with fail
          rw [← hbu]
          clear c0 c1 c2 hbu S
          generalize wr.alloc (.cells #[.int .i64 Y.long, .int .i64 Y.mach, .int .i64 Y.from_] 26) = w1 at S2 ⊢
          have qa := cell_regrown (S2.cell 0 0 rfl).1; have qb := cell_regrown (S2.cell 0 1 rfl).1; have qc := cell_regrown (S2.cell 0 2 rfl).1
          have qd := cell_regrown (S2.cell 1 0 rfl).1; have qe := cell_regrown (S2.cell 1 1 rfl).1; have qf := cell_regrown (S2.cell 1 2 rfl).1
          have qg := cell_regrown (Below.cellOf S2.bel HD.out); have qh := cell_regrown (Below.cellOf S2.bel HD2.out)
          have CN := Lib.hid (fun d os => Calls.regrown_of (rivals17 X Y (Go.Sort.grow (redrawn w1 d) os)))
          by_cases hr : Rival X Y
          · rw [decide_eq_true hr] at CN
            by_cases g1 : U < V + X.long
            · by_cases g2 : V < U + Y.long
              · skip
                refine wp_region_quiet_below (by kernel_rfl) (by kernel_rfl) ?_
                repeat (go_big_quiet_step (exact CN.out _ _))
                refine wpQuiet_nil ?_
                intro _ hw'
                obtain ⟨⟨dq, osq⟩, hw''⟩ := hw'
                subst hw''
                have S3 := S2.regrown dq osq
                have SB := Lib.hid (S3.pick [0])
                clear qa qb qc qd qe qf qg qh S2 S3
                have HC2 := Lib.hid (HCL.out.2 ⟨hr, g1, g2⟩)
                have SE := Lib.hid SB.out.bel
                go_wp2_with fail
                go_ret3
                exact .inl ⟨m, k, rfl, hlt2, hlt, HC2.out, SE.out⟩
              · skip
                refine wp_region_quiet_below (by kernel_rfl) (by kernel_rfl) ?_
                repeat (go_big_quiet_step (exact CN.out _ _))
                refine wpQuiet_nil ?_
                intro _ hw'
                obtain ⟨⟨dq, osq⟩, hw''⟩ := hw'
                subst hw''
                have S3 := S2.regrown dq osq
                have SB := Lib.hid (S3.pick [0])
                clear qa qb qc qd qe qf qg qh S2 S3
                have HN := Lib.hid (show ∀ k', k' < m + 1 → ¬ Clash js s k k' from fun k' hk' hc => by
                  rcases Nat.lt_succ_iff_lt_or_eq.1 hk' with h | rfl
                  · exact HNO.out k' h hc
                  · have hc2 := HCL.out.1 hc
                    exact g2 hc2.2.2)
                go_wp2_with fail
                go_roundw
                case rel => exact ⟨m + 1, by omega, by go_num, HN, SB.out⟩
                case measure => simp [intOf] <;> omega
            · skip
              refine wp_region_quiet_below (by kernel_rfl) (by kernel_rfl) ?_
              repeat (go_big_quiet_step (exact CN.out _ _))
              refine wpQuiet_nil ?_
              intro _ hw'
              obtain ⟨⟨dq, osq⟩, hw''⟩ := hw'
              subst hw''
              have S3 := S2.regrown dq osq
              have SB := Lib.hid (S3.pick [0])
              clear qa qb qc qd qe qf qg qh S2 S3
              have HN := Lib.hid (show ∀ k', k' < m + 1 → ¬ Clash js s k k' from fun k' hk' hc => by
                rcases Nat.lt_succ_iff_lt_or_eq.1 hk' with h | rfl
                · exact HNO.out k' h hc
                · have hc2 := HCL.out.1 hc
                  exact g1 hc2.2.1)
              go_wp2_with fail
              go_roundw
              case rel => exact ⟨m + 1, by omega, by go_num, HN, SB.out⟩
              case measure => simp [intOf] <;> omega
          · rw [decide_eq_false hr] at CN
            refine wp_region_quiet_below (by kernel_rfl) (by kernel_rfl) ?_
            repeat (go_big_quiet_step (exact CN.out _ _))
            refine wpQuiet_nil ?_
            intro _ hw'
            obtain ⟨⟨dq, osq⟩, hw''⟩ := hw'
            subst hw''
            have S3 := S2.regrown dq osq
            have SB := Lib.hid (S3.pick [0])
            clear qa qb qc qd qe qf qg qh S2 S3
            have HN := Lib.hid (show ∀ k', k' < m + 1 → ¬ Clash js s k k' from fun k' hk' hc => by
              rcases Nat.lt_succ_iff_lt_or_eq.1 hk' with h | rfl
              · exact HNO.out k' h hc
              · have hc2 := HCL.out.1 hc
                exact hr hc2.1)
            go_wp2_with fail
            go_roundw
            case rel => exact ⟨m + 1, by omega, by go_num, HN, SB.out⟩
            case measure => simp [intOf] <;> omega
        · obtain rfl : m = k := by omega
          have HN := Lib.hid (show ∀ i' k', i' < m + 1 → k' < i' → ¬ Clash js s i' k' from fun i' k' h hk' => by
            rcases Nat.lt_succ_iff_lt_or_eq.1 h with h | rfl
            · exact HNK.out i' k' h hk'
            · exact HNO.out k' hk')
          have SB := Lib.hid (S.pick [])
          clear S
          go_wp2_with fail
          go_roundw
          case rel => exact ⟨m + 1, by omega, by go_num, HN, SB.out⟩
          case measure => simp [intOf] <;> omega
    · obtain rfl : k = js.length := by omega
      have SB := Lib.hid S.bel
      clear S
      go_wp2_with fail
      go_ret3
      exact .inr ⟨rfl, fun i k h1 h2 => HNK.out i k h2 h1, SB.out⟩
end Go.Proofs.Ytacaakcpkgipfaa
