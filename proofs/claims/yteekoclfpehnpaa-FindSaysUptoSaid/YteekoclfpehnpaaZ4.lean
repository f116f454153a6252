/-
  Walks: the document's Table.
-/
import Derived.Test.YteekoclfpehnpaaProg
import Derived.Test.YteekoclfpehnpaaZ3
import Derived.RegionTactic
import Derived.Lib.QuietBelow
import Derived.BigQuiet
namespace Go.Proofs.Yteekoclfpehnpaa
open Go.RowKit Go.Shelf
set_option linter.unusedVariables false
set_option maxHeartbeats 400000

theorem outS_in (s : Nat) (x : Int) : outS s x = !decide (0 ≤ x ∧ x ≤ (s : Int) - 1) := by
  unfold outS
  by_cases h0 : 0 ≤ x <;> by_cases h3 : x ≤ (s : Int) - 1
  · rw [decide_eq_false (show ¬ x < 0 by omega), decide_eq_false (show ¬ (s : Int) ≤ x by omega), decide_eq_true (show 0 ≤ x ∧ x ≤ (s : Int) - 1 from ⟨h0, h3⟩)]; rfl
  · rw [decide_eq_false (show ¬ x < 0 by omega), decide_eq_true (show (s : Int) ≤ x by omega), decide_eq_false (show ¬ (0 ≤ x ∧ x ≤ (s : Int) - 1) from fun e => h3 e.2)]; rfl
  · rw [decide_eq_true (show x < 0 by omega), decide_eq_false (show ¬ (0 ≤ x ∧ x ≤ (s : Int) - 1) from fun e => h0 e.1)]; rfl
  · rw [decide_eq_true (show x < 0 by omega), decide_eq_false (show ¬ (0 ≤ x ∧ x ≤ (s : Int) - 1) from fun e => h0 e.1)]; rfl
theorem powN_small {s a : Nat} (h1 : 1 ≤ s) (h4 : s ≤ 4) (ha : a ≤ 3) : powN s 4096 a 1 = s ^ a := by
  have h2 : s ^ a ≤ 4 ^ a := Nat.pow_le_pow_left h4 a
  have h3 : 4 ^ a ≤ 4 ^ 3 := Nat.pow_le_pow_right (by omega) ha
  rw [powN_of h1 a 1 (by omega)]; omega

set_option maxRecDepth 100000 in
set_option maxHeartbeats 8000000 in
theorem table23 (ar : List Int) (cs : List (List Fc)) (sz : Int) (tb : List (List Int)) (p q r : Nat → Prop) (ao co to_ : Option Addr) (ca cc ct : Nat) (w : World) (ha : intE.Row q w ao ar) (h : claimE.Row p w co cs) (ht : intsE.Row r w to_ tb) (hp : ∀ b, p b → b < w.heap.size) (hna : ar.length ≤ 1000000000) (hn : cs.length ≤ 1000000) (hnt : tb.length ≤ maxLen)
    (hf : ∀ (i : Nat) c, cs[i]? = some c → c.length ≤ 1000000) (hs : ∀ (i : Nat) c, cs[i]? = some c → ∀ (j : Nat) t, (treesF c)[j]? = some t → t.size ≤ 1000000) :
    Calls Try.prog 23 #[.agg #[.slice ao ar.length ca, .slice co cs.length cc], .agg #[.int .i64 sz, .slice to_ tb.length (tb.length + ct)]] w fun e w' => e = .returned (FV (tabF ar cs sz tb)) ∧ Below w.heap.size w w' := by
  have HC := Lib.hid h; have HA := Lib.hid ha; have HNT := Lib.hid hnt; have HT := Lib.hid ht; have HP := Lib.hid hp; have HFS := Lib.hid hf; have HS := Lib.hid hs
  have hn3 : tb.length ≤ 9223372036854775807 := by unfold maxLen at hnt; omega
  obtain ⟨bx, hbx⟩ : ∃ b, b = w.heap.size := ⟨_, rfl⟩
  have S1 := (((St.start w).box hbx.symm #[.slice ao ar.length ca, .slice co cs.length cc] 29).box (b := bx + 1) (by simp [hbx]) #[.int .i64 sz, .slice to_ tb.length (tb.length + ct)] 41).box (b := bx + 2) (by simp [hbx]) #[.int .i64 0, .int .i64 0] 32
  have hsz1 : (((w.alloc (.cells #[.slice ao ar.length ca, .slice co cs.length cc] 29)).alloc (.cells #[.int .i64 sz, .slice to_ tb.length (tb.length + ct)] 41)).alloc (.cells #[.int .i64 0, .int .i64 0] 32)).heap.size = bx + 3 := by simp [hbx]
  have HBX := Lib.hid hbx
  clear h ha hp hf hs ht hnt
  obtain ⟨⟨x0, _⟩, x1, _⟩ := S1.two 0
  go_enter Try.func23, Try.ntmps23
  go_wp2_with fail
  rw [← hbx]
  refine S1.gen (z := bx + 3) (by omega) ?_
  intro w1 z1 S
  clear S1 hbx hsz1 x0 x1
  refine (S.faultF (lore51 ar cs p q ao co ca cc w1 (HA.out.kept S.bel) (HC.out.kept S.bel) (fun b hb => by have h1 := HP.out b hb; have h2 := HBX.out; omega) hna hn HFS.out HS.out)).mono ?_
  rintro e w2 ⟨C, D, rfl, HCD, z2, S2⟩
  clear S
  obtain ⟨b5, hb5⟩ : ∃ b, b = w2.heap.size := ⟨_, rfl⟩
  have S3 := S2.box hb5.symm #[.int .i64 C, .int .i64 D] 32
  have z3 : b5 + 1 ≤ (w2.alloc (.cells #[.int .i64 C, .int .i64 D] 32)).heap.size := by simp [hb5]
  have HB5 := Lib.hid (show bx + 3 ≤ b5 by omega)
  clear S2
  by_cases hC : C = 0
  · have hcb : (C != 0) = false := by simp [hC]
    have HF := Lib.hid (show tabF ar cs sz tb = if sz < 1 ∨ 4 < sz then (3, -1) else if tb.length ≠ ar.length then (9, -1) else firstP (badTb sz.toNat) (ar.zip tb) 0 by
      unfold tabF; rw [if_neg (by rw [HCD.out]; simpa using hC)])
    have HAL := Lib.hid (loreF_zero (show (loreF ar cs).1 = 0 by rw [HCD.out]; exact hC))
    clear hC
    obtain ⟨⟨x0, _⟩, x1, _⟩ := S3.two 1
    go_upto_region 4 with (fail)
    rw [← hb5]
    refine S3.genC (z := bx + 3) (by have := HB5.out; omega) ?_
    intro w4 z4 S
    clear S3 z3 hb5 x0 x1
    obtain ⟨⟨x0, _⟩, x1, _⟩ := S.two 1
    go_wp2_with fail
    refine (in54 sz 1 4 w4).mono ?_
    rintro e w5 ⟨rfl, rfl⟩
    cases hg : decide (1 ≤ sz ∧ sz ≤ 4) with
    | false =>
      have HF2 := Lib.hid (show tabF ar cs sz tb = (3, -1) by rw [HF.out, if_pos (by have := of_decide_eq_false hg; omega)])
      clear hg x0 x1
      go_wp2_with fail
      refine (S.quiet (fault42 3 (-1) w5)).mono ?_
      rintro e w9 ⟨rfl, z9, S9⟩
      clear S
      obtain ⟨⟨y0, y1⟩, y2, y3⟩ := S9.two 2
      have hl := S9.lt 2
      have SB := Lib.hid S9
      clear S9
      go_wp2_with fail
      refine ret_box2 (.int .i64 3) (.int .i64 (-1)) (bx + 2) 32 (box2_set (SB.out.block 2) _ _) (fun w' q0 q1 => by simp [results, Try.results23, go_sem, q0, q1]) rfl ?_
      have hx := HBX.out
      exact ⟨by rw [HF2.out]; rfl, (SB.out.bel.setCell (p := ⟨bx + 2, 0, none⟩) (by show w.heap.size ≤ bx + 2; omega) _).setCell (p := ⟨bx + 2, 1, none⟩) (by show w.heap.size ≤ bx + 2; omega) _⟩

    | true =>
      have hg2 := of_decide_eq_true hg
      obtain ⟨s, hs⟩ : ∃ s : Nat, sz = s := ⟨sz.toNat, by omega⟩
      subst hs
      have hs14 : 1 ≤ s ∧ s ≤ 4 := by omega
      have HF2 := Lib.hid (show tabF ar cs s tb = if tb.length ≠ ar.length then (9, -1) else firstP (badTb s) (ar.zip tb) 0 by rw [HF.out, if_neg (by omega)]; rfl)
      clear hg hg2
      obtain ⟨⟨v0, _⟩, v1, _⟩ := S.two 0
      by_cases hl : tb.length = ar.length
      · have hlb : ((tb.length : Int) != (ar.length : Int)) = false := by simp [hl]
        have HF3 := Lib.hid (show tabF ar cs s tb = firstP (badTb s) (ar.zip tb) 0 by rw [HF2.out, if_neg (by simpa using hl)])
        have HLL := Lib.hid hl
        clear hl
        go_wp2_with fail
        have S := S.pick [0, 1, 2]
        clear x0 x1 v0 v1
        go_loopw [6, 7] (fun i _ wr => ∃ k : Nat, k ≤ tb.length ∧ i = .int .i64 k ∧ (∀ (j : Nat) y, j < k → (ar.zip tb)[j]? = some y → badTb s y = 0) ∧ bx + 3 ≤ wr.heap.size ∧ St w wr [.box bx #[.slice ao ar.length ca, .slice co cs.length cc] 29, .box (bx + 1) #[.int .i64 s, .slice to_ tb.length (tb.length + ct)] 41, .box (bx + 2) #[.int .i64 0, .int .i64 0] 32]) (fun i _ _ => tb.length - (intOf i).toNat)
        case atStart => exact ⟨0, by omega, rfl, fun j y hj _ => by omega, z4, S⟩
        case round =>
          clear S
          obtain ⟨k, hk, rfl, hno, z5, S⟩ := hrel
          have HNO := Lib.hid hno
          clear hno
          obtain ⟨⟨x0, _⟩, x1, _⟩ := S.two 1
          obtain ⟨⟨v0, _⟩, v1, _⟩ := S.two 0
          by_cases hltt : k < tb.length
          · have hltti : (k : Int) < (tb.length : Int) := by omega
            have hlt : k < ar.length := by have := HLL.out; omega
            have hlti : (k : Int) < (ar.length : Int) := by omega
            obtain ⟨b, off, rfl, hqb, c0⟩ := (HA.out.kept S.bel).int hlt
            obtain ⟨b1, off1, k1, s1, rfl, hpb, c1, r1, hm1⟩ := (HT.out.kept S.bel).ints hltt
            have HX := Lib.hid (show (ar.zip tb)[k]? = some (ar[k], tb[k]) by rw [List.getElem?_zip_eq_some]; exact ⟨List.getElem?_eq_getElem hlt, List.getElem?_eq_getElem hltt⟩)
            have HA03 := HAL.out.2.2.2.1 ar[k] (List.getElem_mem hlt)
            obtain ⟨A, hA⟩ : ∃ A, A = ar[k] := ⟨_, rfl⟩
            obtain ⟨L, hL⟩ : ∃ L, L = tb[k] := ⟨_, rfl⟩
            rw [← hA, ← hL] at HX
            rw [← hA] at c0 HA03
            rw [← hL] at c1 r1 hm1
            obtain ⟨a, haa⟩ : ∃ a : Nat, A = (a : Int) := ⟨A.toNat, by omega⟩
            rw [haa] at HX c0 HA03
            have S := (S.add (.cellAt b1 (off1 + k) (.slice k1 L.length (L.length + s1))) c1).add (.rowE intE r k1 L) r1
            have hm1 : L.length ≤ 9223372036854775807 := by unfold maxLen at hm1; omega
            clear hA hL haa r1
            have ha3 : a ≤ 3 := by omega
            have ca := fun d os => Calls.regrown_of ((power30 s a (Go.Sort.grow (redrawn wr d) os) (by omega) (by omega)).mono (fun e w' ⟨h1, h2⟩ => ⟨h1, by rw [h2]; exact Below.refl _ _⟩))
            obtain ⟨PW, hPW⟩ : ∃ PW, PW = s ^ a := ⟨_, rfl⟩
            rw [← hPW] at ca
            have CA := Lib.hid ca
            have HBT := Lib.hid (show badTb s ((a : Int), L) = if (L.length : Int) ≠ (PW : Nat) then 9 else if L.any (outS s) then 3 else 0 by
              rw [hPW, ← powN_small hs14.1 hs14.2 ha3]; rfl)
            clear hPW ca
            have r0 := cell_regrown x0; have r1 := cell_regrown x1; have r2 := cell_regrown c1
            have r3 := cell_regrown v0; have r4 := cell_regrown v1; have r5 := cell_regrown c0
            go_wp2_with fail
            clear x0 x1 v0 v1 c0 c1
            refine wp_region_quiet_below (by kernel_rfl) (by kernel_rfl) ?_
            repeat (go_big_quiet_step (exact CA.out _ _))
            refine wpQuiet_nil ?_
            intro _ hw'
            obtain ⟨⟨dq, osq⟩, hw''⟩ := hw'
            subst hw''
            refine (S.regrown dq osq).genX (z := bx + 3) (Nat.le_trans z5 (below_regrown wr dq osq).size) ?_
            intro w6 z6 S6
            clear S r0 r1 r2 r3 r4 r5 CA
            by_cases hne : (L.length : Int) = (PW : Int)
            · have hnb : ((L.length : Int) != (PW : Int)) = false := by simp [hne]
              have HBT2 := Lib.hid (show badTb s ((a : Int), L) = if L.any (outS s) then 3 else 0 by rw [HBT.out, if_neg (by simpa using hne)])
              clear hne
              go_wp2_with fail
              go_loopw [7] (fun i wr2 => ∃ m : Nat, m ≤ L.length ∧ i = .int .i64 m ∧ (∀ (j : Nat) y, j < m → L[j]? = some y → outS s y = false) ∧ bx + 3 ≤ wr2.heap.size ∧ St w wr2 [.box bx #[.slice (some ⟨b, off, none⟩) ar.length ca, .slice co cs.length cc] 29, .box (bx + 1) #[.int .i64 s, .slice (some ⟨b1, off1, none⟩) tb.length (tb.length + ct)] 41, .box (bx + 2) #[.int .i64 0, .int .i64 0] 32, .cellAt b1 (off1 + k) (.slice k1 L.length (L.length + s1)), .rowE intE r k1 L]) (fun i _ => L.length - (intOf i).toNat)
              case atStart => exact ⟨0, by omega, rfl, fun j y hj _ => by omega, z6, S6⟩
              case round =>
                clear S6
                obtain ⟨m, hm, rfl, hno2, z7, S⟩ := hrel
                have HNO2 := Lib.hid hno2
                clear hno2
                obtain ⟨⟨x0, _⟩, x1, _⟩ := S.two 1
                have c1 := S.cellAt 3
                by_cases hlt2 : m < L.length
                · have hlti2 : (m : Int) < (L.length : Int) := by omega
                  obtain ⟨b2, off2, rfl, hpb2, c2⟩ := (S.rowE intE 4).int hlt2
                  obtain ⟨Y, hY⟩ : ∃ Y, Y = L[m] := ⟨_, rfl⟩
                  have HGY := Lib.hid (show L[m]? = some Y by rw [hY]; exact List.getElem?_eq_getElem hlt2)
                  rw [← hY] at c2
                  clear hY
                  obtain ⟨s1, hs1⟩ : ∃ s1 : Int, s1 = (s : Int) - 1 := ⟨_, rfl⟩
                  have hw : IntKind.i64.wrap ((s : Int) - 1) = s1 := by rw [hs1]; exact IntWalk.i64_in _ (by omega)
                  have ca := fun d os => Calls.regrown_of ((in54 Y 0 s1 (Go.Sort.grow (redrawn wr d) os)).mono (fun e w' ⟨h1, h2⟩ => ⟨h1, by rw [h2]; exact Below.refl _ _⟩))
                  obtain ⟨B, hB⟩ : ∃ B, B = decide (0 ≤ Y ∧ Y ≤ s1) := ⟨_, rfl⟩
                  rw [← hB] at ca
                  have CA := Lib.hid ca
                  have HO := Lib.hid (show outS s Y = !B by rw [outS_in, hB, hs1])
                  clear hB ca hs1
                  have r0 := cell_regrown x0; have r1 := cell_regrown x1; have r2 := cell_regrown c1; have r3 := cell_regrown c2
                  go_wp2_with fail
                  clear x0 x1 c1 c2
                  refine wp_region_quiet_below (by kernel_rfl) (by kernel_rfl) ?_
                  repeat (go_big_quiet_step (exact CA.out _ _))
                  refine wpQuiet_nil ?_
                  intro _ hw'
                  obtain ⟨⟨dq, osq⟩, hw''⟩ := hw'
                  subst hw''
                  refine (S.regrown dq osq).genX (z := bx + 3) (Nat.le_trans z7 (below_regrown wr dq osq).size) ?_
                  intro w8 z8 S8
                  clear S r0 r1 r2 r3 CA
                  cases B with
                  | true =>
                    have HN := Lib.hid (show ∀ (j : Nat) y, j < m + 1 → L[j]? = some y → outS s y = false from fun j y hj hy => by
                      rcases Nat.lt_succ_iff_lt_or_eq.1 hj with h | rfl
                      · exact HNO2.out j y h hy
                      · rw [HGY.out] at hy; obtain rfl := Option.some.inj hy; rw [HO.out]; rfl)
                    go_wp2_with fail
                    go_roundw
                    case rel => exact ⟨m + 1, by omega, by go_num, HN.out, z8, S8⟩
                    case measure => simp [intOf] <;> omega
                  | false =>
                    have HF4 := Lib.hid (show tabF ar cs s tb = (3, (k : Int)) by
                      have ha : L.any (outS s) = true := List.any_eq_true.2 ⟨Y, List.mem_of_getElem? HGY.out, by rw [HO.out]; rfl⟩
                      rw [HF3.out, firstP_hit HNO.out HX.out (by rw [HBT2.out, ha]; simp), HBT2.out, ha]; simp)
                    have S8 := S8.pick [0, 1, 2]
                    go_wp2_with fail
                    refine (S8.quiet (fault42 3 k w8)).mono ?_
                    rintro e w9 ⟨rfl, z9, S9⟩
                    clear S8
                    obtain ⟨⟨y0, y1⟩, y2, y3⟩ := S9.two 2
                    have hl := S9.lt 2
                    have SB := Lib.hid S9
                    clear S9
                    go_wp2_with fail
                    refine ret_box2 (.int .i64 3) (.int .i64 k) (bx + 2) 32 (box2_set (SB.out.block 2) _ _) (fun w' q0 q1 => by simp [results, Try.results23, go_sem, q0, q1]) rfl ?_
                    have hx := HBX.out
                    exact ⟨by rw [HF4.out]; rfl, (SB.out.bel.setCell (p := ⟨bx + 2, 0, none⟩) (by show w.heap.size ≤ bx + 2; omega) _).setCell (p := ⟨bx + 2, 1, none⟩) (by show w.heap.size ≤ bx + 2; omega) _⟩

                · obtain rfl : m = L.length := by omega
                  have HN := Lib.hid (show ∀ (j : Nat) y, j < k + 1 → (ar.zip tb)[j]? = some y → badTb s y = 0 from fun j y hj hy => by
                    rcases Nat.lt_succ_iff_lt_or_eq.1 hj with h | rfl
                    · exact HNO.out j y h hy
                    · rw [HX.out] at hy; obtain rfl := Option.some.inj hy
                      rw [HBT2.out, if_neg]
                      intro e
                      obtain ⟨y, hy1, hy2⟩ := List.any_eq_true.1 e
                      obtain ⟨j2, hj2⟩ := List.mem_iff_getElem?.1 hy1
                      rw [HNO2.out j2 y (List.getElem?_eq_some_iff.1 hj2).1 hj2] at hy2
                      exact Bool.noConfusion hy2)
                  have S8 := S.pick [0, 1, 2]
                  clear S
                  go_wp2_with fail
                  go_roundw
                  case rel => exact ⟨k + 1, by omega, by go_num, HN.out, z7, S8⟩
                  case measure => simp [intOf] <;> omega
            · have hnb : ((L.length : Int) != (PW : Int)) = true := by simp [hne]
              have HBT2 := Lib.hid (show badTb s ((a : Int), L) = 9 by rw [HBT.out, if_pos hne])
              have HF4 := Lib.hid (show tabF ar cs s tb = (9, (k : Int)) by rw [HF3.out, firstP_hit HNO.out HX.out (by rw [HBT2.out]; omega), HBT2.out]; simp)
              clear hne
              have S6 := S6.pick [0, 1, 2]
              go_wp2_with fail
              refine (S6.quiet (fault42 9 k w6)).mono ?_
              rintro e w9 ⟨rfl, z9, S9⟩
              clear S6
              obtain ⟨⟨y0, y1⟩, y2, y3⟩ := S9.two 2
              have hl := S9.lt 2
              have SB := Lib.hid S9
              clear S9
              go_wp2_with fail
              refine ret_box2 (.int .i64 9) (.int .i64 k) (bx + 2) 32 (box2_set (SB.out.block 2) _ _) (fun w' q0 q1 => by simp [results, Try.results23, go_sem, q0, q1]) rfl ?_
              have hx := HBX.out
              exact ⟨by rw [HF4.out]; rfl, (SB.out.bel.setCell (p := ⟨bx + 2, 0, none⟩) (by show w.heap.size ≤ bx + 2; omega) _).setCell (p := ⟨bx + 2, 1, none⟩) (by show w.heap.size ≤ bx + 2; omega) _⟩

          · obtain rfl : k = tb.length := by omega
            have HF4 := Lib.hid (show tabF ar cs s tb = (0, 0) by rw [HF3.out, firstP_none (fun j y hj hy => HNO.out j y (by simp at hj; omega) hy)])
            obtain ⟨⟨y0, y1⟩, y2, y3⟩ := S.two 2
            have hl := S.lt 2
            have SB := Lib.hid S
            clear S
            go_wp2_with fail
            refine ret_box2 (.int .i64 0) (.int .i64 0) (bx + 2) 32 (box2_set (SB.out.block 2) _ _) (fun w' q0 q1 => by simp [results, Try.results23, go_sem, q0, q1]) rfl ?_
            have hx := HBX.out
            exact ⟨by rw [HF4.out]; rfl, (SB.out.bel.setCell (p := ⟨bx + 2, 0, none⟩) (by show w.heap.size ≤ bx + 2; omega) _).setCell (p := ⟨bx + 2, 1, none⟩) (by show w.heap.size ≤ bx + 2; omega) _⟩

      · have hlb : ((tb.length : Int) != (ar.length : Int)) = true := by simp; omega
        have HF3 := Lib.hid (show tabF ar cs s tb = (9, -1) by rw [HF2.out, if_pos (by simpa using hl)])
        clear hl
        go_wp2_with fail
        refine (S.quiet (fault42 9 (-1) w5)).mono ?_
        rintro e w9 ⟨rfl, z9, S9⟩
        clear S
        obtain ⟨⟨y0, y1⟩, y2, y3⟩ := S9.two 2
        have hl := S9.lt 2
        have SB := Lib.hid S9
        clear S9
        go_wp2_with fail
        refine ret_box2 (.int .i64 9) (.int .i64 (-1)) (bx + 2) 32 (box2_set (SB.out.block 2) _ _) (fun w' q0 q1 => by simp [results, Try.results23, go_sem, q0, q1]) rfl ?_
        have hx := HBX.out
        exact ⟨by rw [HF3.out]; rfl, (SB.out.bel.setCell (p := ⟨bx + 2, 0, none⟩) (by show w.heap.size ≤ bx + 2; omega) _).setCell (p := ⟨bx + 2, 1, none⟩) (by show w.heap.size ≤ bx + 2; omega) _⟩

  · have hcb : (C != 0) = true := by simp [hC]
    have HF := Lib.hid (show tabF ar cs sz tb = (C, D) by unfold tabF; rw [if_pos (by rw [HCD.out]; exact hC), HCD.out])
    clear hC
    obtain ⟨⟨u0, _⟩, u1, _⟩ := S3.two 3
    obtain ⟨⟨y0, y1⟩, y2, y3⟩ := S3.two 2
    have hl := S3.lt 2
    have SB := Lib.hid S3
    clear S3
    go_wp2_with fail
    refine ret_box2 (.int .i64 C) (.int .i64 D) (bx + 2) 32 (box2_set (SB.out.block 2) _ _) (fun w' q0 q1 => by simp [results, Try.results23, go_sem, q0, q1]) rfl ?_
    have hx := HBX.out
    exact ⟨by rw [HF.out]; rfl, (SB.out.bel.setCell (p := ⟨bx + 2, 0, none⟩) (by show w.heap.size ≤ bx + 2; omega) _).setCell (p := ⟨bx + 2, 1, none⟩) (by show w.heap.size ≤ bx + 2; omega) _⟩

end Go.Proofs.Yteekoclfpehnpaa
