/-
  Walk: times.Right.
-/
import Derived.Test.YtacaakcpkgipfaaProg
import Derived.Test.YtacaakcpkgipfaaTi6
import Derived.RegionTactic
import Derived.BigQuiet
import Derived.Deep.DeepCutAuto
namespace Go.Proofs.Ytacaakcpkgipfaa
open Go.RowKit Go.Shelf
set_option linter.unusedVariables false
set_option maxHeartbeats 400000

theorem ret_zf' {P : Program} {fn : Func} {R : Ending → World → Prop} {a : Act} {w : World} (z p q : Value) (c : Nat) (T' : TypeId) (hc : w.heap[c]? = some (.cells #[p, q] T' (0, 0)))
    (hres : ∀ w' : World, w'.cell? ⟨c, 0, none⟩ = some p → w'.cell? ⟨c, 1, none⟩ = some q → (results fn a.tmps).run P w' = .ok (.tuple #[z, .agg #[p, q]]) w') (hd : a.defers = [])
    (hR : R (.returned (.tuple #[z, .agg #[p, q]])) w) : bodyPost P fn R .ret a w := bodyPost_ret (hres w (box2 hc).1.1 (box2 hc).2.1) hd hR
noncomputable instance (js : List Jb) (ws : List Wt) (s : List Int) : Decidable (Valid js ws s) := Classical.propDecidable _
theorem froms_length (js : List Jb) : (froms js).length = js.length := by simp [froms]
theorem froms_get {js : List Jb} {i : Nat} (h : i < js.length) : gT (froms js) i = js[i].from_ := by rw [gT_get (by simpa [froms] using h)]; simp [froms]

set_option maxRecDepth 100000 in
set_option maxHeartbeats 4000000 in
theorem right8 (js : List Jb) (ws : List Wt) (s : List Int) (p q r : Nat → Prop) (jo wo so : Option Addr) (jc wc_ sc : Nat) (w : World) (hj : jobE.Row p w jo js) (hw : waitE.Row q w wo ws) (hs : intE.Row r w so s) (hoj : okJ js) (how : okW js.length ws) (hos : okS s) (hjn : js.length ≤ 3) (hjc : js.length ≤ jc) (hwn : ws.length ≤ 30) (hsl : s.length = js.length) :
    Calls Try.prog 8 #[.slice jo js.length jc, .slice wo ws.length wc_, .slice so s.length sc] w fun e w' => e = .returned (.tuple #[.bool (decide (Valid js ws s)), .agg #[.int .i64 0, .int .i64 0]]) ∧ Below w.heap.size w w' := by
  have HJ := Lib.hid hj; have HW := Lib.hid hw; have HS := Lib.hid hs; have HOJ := Lib.hid hoj; have HOW := Lib.hid how; have HOS := Lib.hid hos; have HSL := Lib.hid hsl
  have hji : (js.length : Int) ≤ 3 := by omega
  have hwi : (ws.length : Int) ≤ 30 := by omega
  have hsi : (s.length : Int) ≤ 3 := by omega
  have hne : ((s.length : Int) != (js.length : Int)) = false := by simp [hsl]
  obtain ⟨bx, hbx⟩ : ∃ b, b = w.heap.size := ⟨_, rfl⟩
  have S1 := ((St.start w).box hbx.symm #[.slice so s.length sc] 22).box (b := bx + 1) (by simp [hbx]) #[.int .i64 0, .int .i64 0] 31
  have HBX := Lib.hid hbx
  clear hj hw hs hoj how hos hsl
  go_enter Try.func8, Try.ntmps8
  go_wp2_with fail
  rw [← hbx]
  refine S1.gen (z := bx + 2) (by simp [hbx]) ?_
  intro w1 z1 S
  clear S1 hbx
  refine (S.quiet (check14 js ws p q jo wo jc wc_ w1 (HJ.out.kept S.bel) (HW.out.kept S.bel) HOJ.out HOW.out hjn hwn)).mono ?_
  rintro e w2 ⟨rfl, z2, S2⟩
  clear S
  obtain ⟨b8, hb8⟩ : ∃ b, b = w2.heap.size := ⟨_, rfl⟩
  have S3 := (S2.box hb8.symm #[.int .i64 0, .int .i64 0] 31).pick [0, 1]
  obtain ⟨y0, _⟩ := S3.one 0
  clear S2
  go_wp2_with fail
  refine S3.genC (z := bx + 2) (by simp; omega) ?_
  clear S3 y0 hb8 z1 z2
  intro w3 z3 S
  go_loopw [30] (fun i wr => ∃ k : Nat, k ≤ s.length ∧ i = .int .i64 k ∧ St w wr [.box bx #[.slice so s.length sc] 22, .box (bx + 1) #[.int .i64 0, .int .i64 0] 31]) (fun i _ => s.length - (intOf i).toNat)
  case atStart => exact ⟨0, by omega, rfl, S⟩
  case round =>
    clear S
    obtain ⟨k, hk, rfl, S⟩ := hrel
    by_cases hlt : k < s.length
    · have hlti : (k : Int) < (s.length : Int) := by omega
      obtain ⟨b2, off2, rfl, _, d0⟩ := (HS.out.kept S.bel).int hlt
      obtain ⟨h7, h8⟩ := HOS.out k hlt
      generalize s[k] = V at d0 h7 h8
      have g1 : ¬ V < -1000000 := by omega
      have g2 : ¬ 1000000 < V := by omega
      have SB := Lib.hid S
      clear S
      go_wp2_with fail
      go_roundw
      case rel => exact ⟨k + 1, by omega, by go_num, SB.out⟩
      case measure => simp [intOf] <;> omega
    · obtain rfl : k = s.length := by omega
      go_wp2_with fail
      go_loopw [46] (fun i wr => ∃ k : Nat, k ≤ js.length ∧ i = .int .i64 k ∧ Hid (∀ i' k', i' < k → k' < i' → ¬ Clash js s i' k') ∧ Hid (∀ i', i' < k → gT (froms js) i' ≤ gT s i') ∧ St w wr [.box bx #[.slice so s.length sc] 22, .box (bx + 1) #[.int .i64 0, .int .i64 0] 31]) (fun i _ => js.length - (intOf i).toNat)
      case atStart => exact ⟨0, by omega, rfl, Lib.hid (fun i' k' h => by omega), Lib.hid (fun i' h => by omega), S⟩
      case round =>
        clear S
        obtain ⟨k, hk, rfl, HNK, HFK, S⟩ := hrel
        by_cases hlt : k < js.length
        · have hlti : (k : Int) < (js.length : Int) := by omega
          have hls : k < s.length := by rw [HSL.out]; exact hlt
          have hlsi : (k : Int) < (s.length : Int) := by omega
          obtain ⟨b, off, rfl, _, f0, f1, f2⟩ := HJ.out.job hlt
          obtain ⟨b2, off2, rfl, _, d0⟩ := HS.out.int hls
          obtain ⟨h1, h2, h3, h4, _, _⟩ := HOJ.out k hlt
          obtain ⟨h7, h8⟩ := HOS.out k hls
          obtain ⟨X, hX⟩ : ∃ A, A = js[k] := ⟨_, rfl⟩
          obtain ⟨V, hV⟩ : ∃ A, A = s[k] := ⟨_, rfl⟩
          have HX := Lib.hid (show gJ js k = X by rw [gJ_get hlt, hX])
          have HV := Lib.hid (show gT s k = V by rw [gT_get hls, hV])
          have HFR := Lib.hid (show gT (froms js) k = X.from_ by rw [froms_get hlt, hX])
          rw [← hX] at f0 f1 f2 h1 h2 h3 h4
          rw [← hV] at d0 h7 h8
          have HD := Lib.hid d0
          have c0 := Below.cellOf S.bel f0; have c1 := Below.cellOf S.bel f1; have c2 := Below.cellOf S.bel f2
          have hkc : k ≤ jc := by omega
          have hkci : (k : Int) ≤ (jc : Int) := by omega
          clear hX hV f0 f1 f2 d0
          obtain ⟨bt, hbt⟩ : ∃ b, b = wr.heap.size := ⟨_, rfl⟩
          have S2 := S.box hbt.symm #[.int .i64 X.long, .int .i64 X.mach, .int .i64 X.from_] 26
          go_wp2_with fail
          rw [← hbt]
          clear c0 c1 c2 hbt S
          generalize wr.alloc (.cells #[.int .i64 X.long, .int .i64 X.mach, .int .i64 X.from_] 26) = w4 at S2 ⊢
          by_cases hfr : V < X.from_
          · have HC2 := Lib.hid (show decide (Valid js ws s) = false from decide_eq_false (fun hv => by
              have h9 := hv.1.2.1 k (by rw [froms_length]; exact hlt)
              rw [HFR.out, HV.out] at h9
              omega))
            have qa := cell_regrown (S2.cell 0 0 rfl).1; have qb := cell_regrown (S2.cell 2 2 rfl).1; have qc := cell_regrown (Below.cellOf S2.bel HD.out)
            refine wp_region_quiet_below (by kernel_rfl) (by kernel_rfl) ?_
            repeat (go_big_quiet_step (fail))
            refine wpQuiet_nil ?_
            intro _ hw'
            obtain ⟨⟨dq, osq⟩, hw''⟩ := hw'
            subst hw''
            have SB := Lib.hid (S2.regrown dq osq)
            clear qa qb qc S2
            obtain ⟨⟨y0, y1⟩, y2, y3⟩ := SB.out.two 1
            have hly := SB.out.lt 1
            go_wp2_with fail
            refine ret_zf' (.bool false) (.int .i64 0) (.int .i64 0) (bx + 1) 31 (box2_set (SB.out.block 1) _ _) (fun w' q0 q1 => by simp [results, Try.results8, go_sem, q0, q1]) rfl ?_
            have hx := HBX.out
            exact ⟨by rw [HC2.out], (SB.out.bel.setCell (p := ⟨bx + 1, 0, none⟩) (by show w.heap.size ≤ bx + 1; omega) _).setCell (p := ⟨bx + 1, 1, none⟩) (by show w.heap.size ≤ bx + 1; omega) _⟩
          · have HF2 := Lib.hid (show ∀ i', i' < k + 1 → gT (froms js) i' ≤ gT s i' from fun i' h => by
              rcases Nat.lt_succ_iff_lt_or_eq.1 h with h | rfl
              · exact HFK.out i' h
              · rw [HFR.out, HV.out]; omega)
            have qa := cell_regrown (S2.cell 0 0 rfl).1; have qb := cell_regrown (S2.cell 2 2 rfl).1; have qc := cell_regrown (Below.cellOf S2.bel HD.out)
            refine wp_region_quiet_below (by kernel_rfl) (by kernel_rfl) ?_
            repeat (go_big_quiet_step (fail))
            refine wpQuiet_nil ?_
            intro _ hw'
            obtain ⟨⟨dq, osq⟩, hw''⟩ := hw'
            subst hw''
            have S4 := S2.regrown dq osq
            clear qa qb qc S2
            generalize Go.Sort.grow (redrawn w4 dq) osq = w5 at S4 ⊢
            go_wp2_with fail
            go_loopw [63] (fun i wr => ∃ m : Nat, m ≤ k ∧ i = .int .i64 m ∧ Hid (∀ k', k' < m → ¬ Clash js s k k') ∧ St w wr [.box bx #[.slice (some ⟨b2, off2, none⟩) s.length sc] 22, .box (bx + 1) #[.int .i64 0, .int .i64 0] 31, .box bt #[.int .i64 X.long, .int .i64 X.mach, .int .i64 X.from_] 26]) (fun i _ => k - (intOf i).toNat)
            case atStart => exact ⟨0, by omega, rfl, Lib.hid (fun k' h => by omega), S4⟩
            case round =>
              clear S4
              obtain ⟨m, hm, rfl, HNO, S⟩ := hrel
              by_cases hlt2 : m < k
              · have hlti2 : (m : Int) < (k : Int) := by omega
                have hmj : m < js.length := by omega
                have hms : m < s.length := by omega
                have hmsi : (m : Int) < (s.length : Int) := by omega
                obtain ⟨b', off', he, _, f0, f1, f2⟩ := HJ.out.job hmj
                simp only [Option.some.injEq, Addr.mk.injEq, and_true] at he
                obtain ⟨rfl, rfl⟩ := he
                obtain ⟨b2', off2', he, _, d0⟩ := HS.out.int hms
                simp only [Option.some.injEq, Addr.mk.injEq, and_true] at he
                obtain ⟨rfl, rfl⟩ := he
                obtain ⟨i1, i2, _, _, _, _⟩ := HOJ.out m hmj
                obtain ⟨i7, i8⟩ := HOS.out m hms
                obtain ⟨Y, hY⟩ : ∃ A, A = js[m] := ⟨_, rfl⟩
                obtain ⟨U, hU⟩ : ∃ A, A = s[m] := ⟨_, rfl⟩
                have HCL := Lib.hid (show Clash js s k m ↔ (Rival X Y ∧ U < V + X.long ∧ V < U + Y.long) by unfold Clash; rw [HX.out, HV.out, gJ_get hmj, gT_get hms, ← hY, ← hU])
                rw [← hY] at f0 f1 f2 i1 i2
                rw [← hU] at d0 i7 i8
                have c0 := Below.cellOf S.bel f0; have c1 := Below.cellOf S.bel f1; have c2 := Below.cellOf S.bel f2
                have HD2 := Lib.hid d0
                clear hY hU f0 f1 f2 d0
                obtain ⟨bu, hbu⟩ : ∃ b, b = wr.heap.size := ⟨_, rfl⟩
                have S2 := S.box hbu.symm #[.int .i64 Y.long, .int .i64 Y.mach, .int .i64 Y.from_] 26
                go_wp2_with fail
                rw [← hbu]
                clear c0 c1 c2 hbu S
                generalize wr.alloc (.cells #[.int .i64 Y.long, .int .i64 Y.mach, .int .i64 Y.from_] 26) = w1 at S2 ⊢
                have qa := cell_regrown (S2.cell 2 0 rfl).1; have qb := cell_regrown (S2.cell 2 1 rfl).1; have qc := cell_regrown (S2.cell 2 2 rfl).1
                have qd := cell_regrown (S2.cell 3 0 rfl).1; have qe := cell_regrown (S2.cell 3 1 rfl).1; have qf := cell_regrown (S2.cell 3 2 rfl).1
                have qg := cell_regrown (Below.cellOf S2.bel HD.out); have qh := cell_regrown (Below.cellOf S2.bel HD2.out); have qi := cell_regrown (S2.cell 0 0 rfl).1
                have CN := Lib.hid (fun d os => Calls.regrown_of (rivals17 X Y (Go.Sort.grow (redrawn w1 d) os)))
                by_cases hr : Rival X Y
                · rw [decide_eq_true hr] at CN
                  by_cases g1 : U < V + X.long
                  · by_cases g2 : V < U + Y.long
                    · skip
                      refine wp_region_quiet_below (by kernel_rfl) (by kernel_rfl) ?_
                      repeat (go_big_quiet_step (exact CN.out _ _))
                      refine wpQuiet_nil ?_
                      intro _ hw'
                      obtain ⟨⟨dq, osq⟩, hw''⟩ := hw'
                      subst hw''
                      have S3 := S2.regrown dq osq
                      have SB := Lib.hid (S3.pick [0, 1, 2])
                      clear qa qb qc qd qe qf qg qh qi S2 S3
                      have HC2 := Lib.hid (show decide (Valid js ws s) = false from decide_eq_false (fun hv => hv.2 k m hlt2 hlt (HCL.out.2 ⟨hr, g1, g2⟩)))
                      obtain ⟨⟨y0, y1⟩, y2, y3⟩ := SB.out.two 1
                      have hly := SB.out.lt 1
                      go_wp2_with fail
                      refine ret_zf' (.bool false) (.int .i64 0) (.int .i64 0) (bx + 1) 31 (box2_set (SB.out.block 1) _ _) (fun w' q0 q1 => by simp [results, Try.results8, go_sem, q0, q1]) rfl ?_
                      have hx := HBX.out
                      exact ⟨by rw [HC2.out], (SB.out.bel.setCell (p := ⟨bx + 1, 0, none⟩) (by show w.heap.size ≤ bx + 1; omega) _).setCell (p := ⟨bx + 1, 1, none⟩) (by show w.heap.size ≤ bx + 1; omega) _⟩
                    · skip
                      refine wp_region_quiet_below (by kernel_rfl) (by kernel_rfl) ?_
                      repeat (go_big_quiet_step (exact CN.out _ _))
                      refine wpQuiet_nil ?_
                      intro _ hw'
                      obtain ⟨⟨dq, osq⟩, hw''⟩ := hw'
                      subst hw''
                      have S3 := S2.regrown dq osq
                      have SB := Lib.hid (S3.pick [0, 1, 2])
                      clear qa qb qc qd qe qf qg qh qi S2 S3
                      have HN := Lib.hid (show ∀ k', k' < m + 1 → ¬ Clash js s k k' from fun k' hk' hc => by
                        rcases Nat.lt_succ_iff_lt_or_eq.1 hk' with h | rfl
                        · exact HNO.out k' h hc
                        · have hc2 := HCL.out.1 hc
                          exact g2 hc2.2.2)
                      go_wp2_with fail
                      go_roundw
                      case rel => exact ⟨m + 1, by omega, by go_num, HN, SB.out⟩
                      case measure => simp [intOf] <;> omega
                  · skip
                    refine wp_region_quiet_below (by kernel_rfl) (by kernel_rfl) ?_
                    repeat (go_big_quiet_step (exact CN.out _ _))
                    refine wpQuiet_nil ?_
                    intro _ hw'
                    obtain ⟨⟨dq, osq⟩, hw''⟩ := hw'
                    subst hw''
                    have S3 := S2.regrown dq osq
                    have SB := Lib.hid (S3.pick [0, 1, 2])
                    clear qa qb qc qd qe qf qg qh qi S2 S3
                    have HN := Lib.hid (show ∀ k', k' < m + 1 → ¬ Clash js s k k' from fun k' hk' hc => by
                      rcases Nat.lt_succ_iff_lt_or_eq.1 hk' with h | rfl
                      · exact HNO.out k' h hc
                      · have hc2 := HCL.out.1 hc
                        exact g1 hc2.2.1)
                    go_wp2_with fail
                    go_roundw
                    case rel => exact ⟨m + 1, by omega, by go_num, HN, SB.out⟩
                    case measure => simp [intOf] <;> omega
                · rw [decide_eq_false hr] at CN
                  refine wp_region_quiet_below (by kernel_rfl) (by kernel_rfl) ?_
                  repeat (go_big_quiet_step (exact CN.out _ _))
                  refine wpQuiet_nil ?_
                  intro _ hw'
                  obtain ⟨⟨dq, osq⟩, hw''⟩ := hw'
                  subst hw''
                  have S3 := S2.regrown dq osq
                  have SB := Lib.hid (S3.pick [0, 1, 2])
                  clear qa qb qc qd qe qf qg qh qi S2 S3
                  have HN := Lib.hid (show ∀ k', k' < m + 1 → ¬ Clash js s k k' from fun k' hk' hc => by
                    rcases Nat.lt_succ_iff_lt_or_eq.1 hk' with h | rfl
                    · exact HNO.out k' h hc
                    · have hc2 := HCL.out.1 hc
                      exact hr hc2.1)
                  go_wp2_with fail
                  go_roundw
                  case rel => exact ⟨m + 1, by omega, by go_num, HN, SB.out⟩
                  case measure => simp [intOf] <;> omega
              · obtain rfl : m = k := by omega
                have HN := Lib.hid (show ∀ i' k', i' < m + 1 → k' < i' → ¬ Clash js s i' k' from fun i' k' h hk' => by
                  rcases Nat.lt_succ_iff_lt_or_eq.1 h with h | rfl
                  · exact HNK.out i' k' h hk'
                  · exact HNO.out k' hk')
                have SB := Lib.hid (S.pick [0, 1])
                clear S
                go_wp2_with fail
                go_roundw
                case rel => exact ⟨m + 1, by omega, by go_num, HN, HF2, SB.out⟩
                case measure => simp [intOf] <;> omega
        · obtain rfl : k = js.length := by omega
          have HVD := Lib.hid (show decide (Valid js ws s) = !anyB (fun i => brokenB s (gW ws i)) ws.length by
            rw [Bool.eq_iff_iff, decide_eq_true_iff, Bool.not_eq_true', ← Bool.not_eq_true, anyB_iff]
            constructor
            · rintro hv ⟨i, hi, hb⟩
              have h1 := hv.1.2.2 ws[i] (List.getElem_mem hi)
              unfold brokenB at hb
              rw [gW_get hi, decide_eq_true_iff] at hb
              omega
            · intro h
              refine ⟨⟨by rw [froms_length]; exact HSL.out, fun i hi => HFK.out i (by rw [froms_length] at hi; exact hi), fun v hv => ?_⟩, fun i k h1 h2 => HNK.out i k h2 h1⟩
              obtain ⟨i, hi, rfl⟩ := List.getElem_of_mem hv
              refine Classical.byContradiction fun hb => h ⟨i, hi, ?_⟩
              unfold brokenB
              rw [gW_get hi, decide_eq_true_iff]
              omega)
          have HCF := Lib.hid (containsFunc18 19 #[.pointer (some ⟨bx, 0, none⟩)] (enters_of Try.func19 (by kernel_rfl) rfl) q wo ws ws.length wc_ rfl (fun i => brokenB s (gW ws i)) wr (by omega) (HW.out.kept S.bel) (fun i w1 hi hb => by
            have h1 := HOW.out i hi
            rw [← gW_get hi] at h1
            exact right19 s (gW ws i) r bx so sc w1 (Below.cellOf hb (S.one 0).1) (HS.out.kept (Below.step S.bel hb)) HOS.out (by rw [HSL.out]; exact h1.1) (by rw [HSL.out]; exact h1.2.1) h1.2.2.1 h1.2.2.2))
          have SB0 := Lib.hid S
          clear S
          go_wp2_with fail
          refine (SB0.out.quiet HCF.out).mono ?_
          rintro e w6 ⟨rfl, z6, S6⟩
          have SB := Lib.hid S6
          obtain ⟨AB, hAB⟩ : ∃ b, b = anyB (fun i => brokenB s (gW ws i)) ws.length := ⟨_, rfl⟩
          rw [← hAB] at HVD ⊢
          clear S6 hAB
          obtain ⟨⟨y0, y1⟩, y2, y3⟩ := SB.out.two 1
          have hly := SB.out.lt 1
          go_wp2_with fail
          refine ret_zf' (.bool (!AB)) (.int .i64 0) (.int .i64 0) (bx + 1) 31 (box2_set (SB.out.block 1) _ _) (fun w' q0 q1 => by simp [results, Try.results8, go_sem, q0, q1]) rfl ?_
          have hx := HBX.out
          exact ⟨by rw [HVD.out], (SB.out.bel.setCell (p := ⟨bx + 1, 0, none⟩) (by show w.heap.size ≤ bx + 1; omega) _).setCell (p := ⟨bx + 1, 1, none⟩) (by show w.heap.size ≤ bx + 1; omega) _⟩
end Go.Proofs.Ytacaakcpkgipfaa
