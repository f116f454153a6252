/-
  Walks: the document's Lore.
-/
import Derived.Test.YtidgnbdlfngeaaaGreatDoorProg
import Derived.Test.YtidgnbdlfngeaaaGreatDoorZ2
import Derived.Test.YtidgnbdlfngeaaaGreatDoorV5
import Derived.RegionTactic
import Derived.Lib.QuietBelow
import Derived.BigQuiet
namespace Go.Proofs.YtidgnbdlfngeaaaGreatDoor
open Go.RowKit Go.Shelf
set_option linter.unusedVariables false
set_option maxHeartbeats 400000

theorem badA_in (x : Int) : badA x = !decide (0 ≤ x ∧ x ≤ 3) := by
  unfold badA
  by_cases h0 : 0 ≤ x <;> by_cases h3 : x ≤ 3
  · rw [decide_eq_false (show ¬ x < 0 by omega), decide_eq_false (show ¬ 3 < x by omega), decide_eq_true ⟨h0, h3⟩]; rfl
  · rw [decide_eq_false (show ¬ x < 0 by omega), decide_eq_true (show 3 < x by omega), decide_eq_false (show ¬ (0 ≤ x ∧ x ≤ 3) from fun e => h3 e.2)]; rfl
  · rw [decide_eq_true (show x < 0 by omega), decide_eq_false (show ¬ (0 ≤ x ∧ x ≤ 3) from fun e => h0 e.1)]; rfl
  · rw [decide_eq_true (show x < 0 by omega), decide_eq_false (show ¬ (0 ≤ x ∧ x ≤ 3) from fun e => h0 e.1)]; rfl

set_option maxRecDepth 100000 in
set_option maxHeartbeats 4000000 in
theorem lore51 (ar : List Int) (cs : List (List Fc)) (p q : Nat → Prop) (ao co : Option Addr) (ca cc : Nat) (w : World) (ha : intE.Row q w ao ar) (h : claimE.Row p w co cs) (hp : ∀ b, p b → b < w.heap.size) (hna : ar.length ≤ 1000000000) (hn : cs.length ≤ 1000000)
    (hf : ∀ (i : Nat) c, cs[i]? = some c → c.length ≤ 1000000) (hs : ∀ (i : Nat) c, cs[i]? = some c → ∀ (j : Nat) t, (treesF c)[j]? = some t → t.size ≤ 1000000) :
    Calls Tryz.prog 5 #[.agg #[.slice ao ar.length ca, .slice co cs.length cc]] w fun e w' => e = .returned (FV (loreF ar cs)) ∧ Below w.heap.size w w' := by
  have HC := Lib.hid h; have HA := Lib.hid ha; have HP := Lib.hid hp; have HFS := Lib.hid hf; have HS := Lib.hid hs
  obtain ⟨bx, hbx⟩ : ∃ b, b = w.heap.size := ⟨_, rfl⟩
  have S1 := ((St.start w).box hbx.symm #[.slice ao ar.length ca, .slice co cs.length cc] 25).box (b := bx + 1) (by simp [hbx]) #[.int .i64 0, .int .i64 0] 28
  have hsz1 : ((w.alloc (.cells #[.slice ao ar.length ca, .slice co cs.length cc] 25)).alloc (.cells #[.int .i64 0, .int .i64 0] 28)).heap.size = bx + 2 := by simp [hbx]
  have HBX := Lib.hid hbx
  clear h ha hp hf hs
  by_cases h12 : 12 < ar.length
  · have HF := Lib.hid (show loreF ar cs = (2, 0) by unfold loreF; rw [if_pos (Or.inl h12)])
    have h12i : (12 : Int) < (ar.length : Int) := by omega
    clear h12
    go_enter Tryz.func5, Tryz.ntmps5
    go_wp2_with fail
    rw [← hbx]
    refine S1.gen (z := bx + 2) (by omega) ?_
    intro w1 z1 S
    clear S1 hbx hsz1
    go_wp2_with fail
    refine (S.quiet (fault42 2 0 w1)).mono ?_
    rintro e w9 ⟨rfl, z9, S9⟩
    clear S
    obtain ⟨⟨y0, y1⟩, y2, y3⟩ := S9.two 1
    have hl := S9.lt 1
    have SB := Lib.hid S9
    clear S9
    go_wp2_with fail
    refine ret_box2 (.int .i64 2) (.int .i64 0) (bx + 1) 28 (box2_set (SB.out.block 1) _ _) (fun w' q0 q1 => by simp [results, Tryz.results5, go_sem, q0, q1]) rfl ?_
    have hx := HBX.out
    exact ⟨by rw [HF.out]; rfl, (SB.out.bel.setCell (p := ⟨bx + 1, 0, none⟩) (by show w.heap.size ≤ bx + 1; omega) _).setCell (p := ⟨bx + 1, 1, none⟩) (by show w.heap.size ≤ bx + 1; omega) _⟩

  by_cases h60 : 60 < cs.length
  · have HF := Lib.hid (show loreF ar cs = (2, 0) by unfold loreF; rw [if_pos (Or.inr h60)])
    have h12i : ¬ (12 : Int) < (ar.length : Int) := by omega
    have h60i : (60 : Int) < (cs.length : Int) := by omega
    clear h12 h60
    go_enter Tryz.func5, Tryz.ntmps5
    go_wp2_with fail
    rw [← hbx]
    refine S1.gen (z := bx + 2) (by omega) ?_
    intro w1 z1 S
    clear S1 hbx hsz1
    go_wp2_with fail
    refine (S.quiet (fault42 2 0 w1)).mono ?_
    rintro e w9 ⟨rfl, z9, S9⟩
    clear S
    obtain ⟨⟨y0, y1⟩, y2, y3⟩ := S9.two 1
    have hl := S9.lt 1
    have SB := Lib.hid S9
    clear S9
    go_wp2_with fail
    refine ret_box2 (.int .i64 2) (.int .i64 0) (bx + 1) 28 (box2_set (SB.out.block 1) _ _) (fun w' q0 q1 => by simp [results, Tryz.results5, go_sem, q0, q1]) rfl ?_
    have hx := HBX.out
    exact ⟨by rw [HF.out]; rfl, (SB.out.bel.setCell (p := ⟨bx + 1, 0, none⟩) (by show w.heap.size ≤ bx + 1; omega) _).setCell (p := ⟨bx + 1, 1, none⟩) (by show w.heap.size ≤ bx + 1; omega) _⟩

  have HF := Lib.hid (show loreF ar cs = if 0 ≤ idxP badA ar then (3, idxP badA ar) else firstP (codeF ar) cs 0 by unfold loreF; rw [if_neg (by omega)])
  have h12i : ¬ (12 : Int) < (ar.length : Int) := by omega
  have h60i : ¬ (60 : Int) < (cs.length : Int) := by omega
  clear h12 h60
  go_enter Tryz.func5, Tryz.ntmps5
  go_wp2_with fail
  rw [← hbx]
  refine S1.genC (z := bx + 2) (by omega) ?_
  intro w1 z1 S
  clear S1 hbx hsz1
  go_loopw [3] (fun i wr => ∃ k : Nat, k ≤ ar.length ∧ i = .int .i64 k ∧ (∀ (j : Nat) y, j < k → ar[j]? = some y → badA y = false) ∧ bx + 2 ≤ wr.heap.size ∧ St w wr [.box bx #[.slice ao ar.length ca, .slice co cs.length cc] 25, .box (bx + 1) #[.int .i64 0, .int .i64 0] 28]) (fun i _ => ar.length - (intOf i).toNat)
  case atStart => exact ⟨0, by omega, rfl, fun j y hj _ => by omega, z1, S⟩
  case round =>
    clear S
    obtain ⟨k, hk, rfl, hno, z2, S⟩ := hrel
    have HNO := Lib.hid hno
    clear hno
    obtain ⟨⟨x0, _⟩, x1, _⟩ := S.two 0
    by_cases hlt : k < ar.length
    · have hlti : (k : Int) < (ar.length : Int) := by omega
      obtain ⟨b, off, rfl, hqb, c0⟩ := (HA.out.kept S.bel).int hlt
      obtain ⟨A, hA⟩ : ∃ A, A = ar[k] := ⟨_, rfl⟩
      have HGA := Lib.hid (show ar[k]? = some A by rw [hA]; exact List.getElem?_eq_getElem hlt)
      have HIA := Lib.hid hA
      rw [← hA] at c0
      clear hA
      go_wp2_with fail
      refine (in54 A 0 3 wr).mono ?_
      rintro e w3 ⟨rfl, rfl⟩
      cases hg : decide (0 ≤ A ∧ A ≤ 3) with
      | true =>
        have HN := Lib.hid (show ∀ (j : Nat) y, j < k + 1 → ar[j]? = some y → badA y = false from fun j y hj hy => by
          rcases Nat.lt_succ_iff_lt_or_eq.1 hj with h | rfl
          · exact HNO.out j y h hy
          · rw [HGA.out] at hy; obtain rfl := Option.some.inj hy; rw [badA_in, hg]; rfl)
        clear hg
        go_wp2_with fail
        go_roundw
        case rel => exact ⟨k + 1, by omega, by go_num, HN.out, z2, S⟩
        case measure => simp [intOf] <;> omega
      | false =>
        have HI := Lib.hid (show idxP badA ar = (k : Int) from idxP_hit hlt HNO.out (by rw [← HIA.out, badA_in, hg]; rfl))
        have HF2 := Lib.hid (show loreF ar cs = (3, (k : Int)) by rw [HF.out, HI.out, if_pos (by omega)])
        clear hg c0 x0 x1
        go_wp2_with fail
        refine (S.quiet (fault42 3 k w3)).mono ?_
        rintro e w9 ⟨rfl, z9, S9⟩
        clear S
        obtain ⟨⟨y0, y1⟩, y2, y3⟩ := S9.two 1
        have hl := S9.lt 1
        have SB := Lib.hid S9
        clear S9
        go_wp2_with fail
        refine ret_box2 (.int .i64 3) (.int .i64 k) (bx + 1) 28 (box2_set (SB.out.block 1) _ _) (fun w' q0 q1 => by simp [results, Tryz.results5, go_sem, q0, q1]) rfl ?_
        have hx := HBX.out
        exact ⟨by rw [HF2.out]; rfl, (SB.out.bel.setCell (p := ⟨bx + 1, 0, none⟩) (by show w.heap.size ≤ bx + 1; omega) _).setCell (p := ⟨bx + 1, 1, none⟩) (by show w.heap.size ≤ bx + 1; omega) _⟩

    · obtain rfl : k = ar.length := by omega
      have HF2 := Lib.hid (show loreF ar cs = firstP (codeF ar) cs 0 by rw [HF.out, if_neg (by rw [idxP_none HNO.out]; omega)])
      go_wp2_with fail
      clear x0 x1 hlt
      go_loopw [4, 5] (fun i _ wr => ∃ k : Nat, k ≤ cs.length ∧ i = .int .i64 k ∧ (∀ (j : Nat) y, j < k → cs[j]? = some y → codeF ar y = 0) ∧ bx + 2 ≤ wr.heap.size ∧ St w wr [.box bx #[.slice ao ar.length ca, .slice co cs.length cc] 25, .box (bx + 1) #[.int .i64 0, .int .i64 0] 28]) (fun i _ _ => cs.length - (intOf i).toNat)
      case atStart => exact ⟨0, by omega, rfl, fun j y hj _ => by omega, z2, S⟩
      case round =>
        clear S HNO
        obtain ⟨k, hk, rfl, hno, z3, S⟩ := hrel
        have HNO := Lib.hid hno
        clear hno
        obtain ⟨⟨x0, _⟩, x1, _⟩ := S.two 0
        by_cases hlt : k < cs.length
        · have hlti : (k : Int) < (cs.length : Int) := by omega
          obtain ⟨b, off, ka, sa, rfl, hpb, c0, hfr, hml⟩ := (HC.out.kept S.bel).claim hlt
          obtain ⟨C, hC⟩ : ∃ C, C = cs[k] := ⟨_, rfl⟩
          have HCK := Lib.hid (show cs[k]? = some C by rw [hC]; exact List.getElem?_eq_getElem hlt)
          rw [← hC] at c0 hfr hml
          have HFR := Lib.hid hfr
          clear hC hfr hml
          have ca := fun d os => Calls.regrown_of (claim27 ar C p q ka ao sa ca (Go.Sort.grow (redrawn wr d) os) (HA.out.kept (S.regrown d os).bel) hna (HFR.out.kept (below_regrown wr d os)) (HFS.out k C HCK.out) (fun b hb => by have h1 := HP.out b hb; have h2 := HBX.out; have h3 := (below_regrown wr d os).size; omega) (HS.out k C HCK.out))
          obtain ⟨V, hV⟩ : ∃ V, V = codeF ar C := ⟨_, rfl⟩
          rw [← hV] at ca
          have CA := Lib.hid ca
          have HV := Lib.hid hV
          clear hV ca
          have r0 := cell_regrown x0; have r1 := cell_regrown x1; have r2 := cell_regrown c0
          go_wp2_with fail
          clear x0 x1 c0
          refine wp_region_quiet_below (by kernel_rfl) (by kernel_rfl) ?_
          repeat (go_big_quiet_step (exact CA.out _ _))
          refine wpQuiet_nil ?_
          intro _ hw'
          obtain ⟨⟨dq, osq⟩, hw''⟩ := hw'
          subst hw''
          refine (S.regrown dq osq).genX (z := bx + 2) (Nat.le_trans z3 (below_regrown wr dq osq).size) ?_
          intro w6 z6 S6
          clear S r0 r1 r2 CA
          by_cases hv : V = 0
          · have hvb : (V != 0) = false := by simpa using hv
            have HN := Lib.hid (show ∀ (j : Nat) y, j < k + 1 → cs[j]? = some y → codeF ar y = 0 from fun j y hj hy => by
              rcases Nat.lt_succ_iff_lt_or_eq.1 hj with h | rfl
              · exact HNO.out j y h hy
              · rw [HCK.out] at hy; obtain rfl := Option.some.inj hy; rw [← HV.out, hv])
            clear hv
            go_wp2_with fail
            go_roundw
            case rel => exact ⟨k + 1, by omega, by go_num, HN.out, z6, S6⟩
            case measure => simp [intOf] <;> omega
          · have hvb : (V != 0) = true := by simpa using hv
            have HF3 := Lib.hid (show loreF ar cs = (V, (k : Int)) by rw [HF2.out, firstP_hit HNO.out HCK.out (by rw [← HV.out]; exact hv), ← HV.out]; simp)
            clear hv
            go_wp2_with fail
            refine (S6.quiet (fault42 V k w6)).mono ?_
            rintro e w9 ⟨rfl, z9, S9⟩
            clear S6
            obtain ⟨⟨y0, y1⟩, y2, y3⟩ := S9.two 1
            have hl := S9.lt 1
            have SB := Lib.hid S9
            clear S9
            go_wp2_with fail
            refine ret_box2 (.int .i64 V) (.int .i64 k) (bx + 1) 28 (box2_set (SB.out.block 1) _ _) (fun w' q0 q1 => by simp [results, Tryz.results5, go_sem, q0, q1]) rfl ?_
            have hx := HBX.out
            exact ⟨by rw [HF3.out]; rfl, (SB.out.bel.setCell (p := ⟨bx + 1, 0, none⟩) (by show w.heap.size ≤ bx + 1; omega) _).setCell (p := ⟨bx + 1, 1, none⟩) (by show w.heap.size ≤ bx + 1; omega) _⟩

        · obtain rfl : k = cs.length := by omega
          have HF3 := Lib.hid (show loreF ar cs = (0, 0) by rw [HF2.out, firstP_none HNO.out])
          obtain ⟨⟨y0, y1⟩, y2, y3⟩ := S.two 1
          have hl := S.lt 1
          have SB := Lib.hid S
          clear S
          go_wp2_with fail
          refine ret_box2 (.int .i64 0) (.int .i64 0) (bx + 1) 28 (box2_set (SB.out.block 1) _ _) (fun w' q0 q1 => by simp [results, Tryz.results5, go_sem, q0, q1]) rfl ?_
          have hx := HBX.out
          exact ⟨by rw [HF3.out]; rfl, (SB.out.bel.setCell (p := ⟨bx + 1, 0, none⟩) (by show w.heap.size ≤ bx + 1; omega) _).setCell (p := ⟨bx + 1, 1, none⟩) (by show w.heap.size ≤ bx + 1; omega) _⟩

end Go.Proofs.YtidgnbdlfngeaaaGreatDoor
