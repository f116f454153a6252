/-
  Walks: ref1.LitHolds, ref1.ClausesHold; top.denied, top.bits, top.models.
-/
import Derived.Test.YtlpoedjipncbhaaProg
import Derived.Test.YtlpoedjipncbhaaTd7
import Derived.Test.YtlpoedjipncbhaaEk2
import Derived.Test.YtlpoedjipncbhaaTw2
import Derived.Deep.CutBlock
import Derived.Test.YtlpoedjipncbhaaG7
import Derived.RegionTactic
import Derived.BigQuiet
import Derived.Deep.DeepCutAuto
namespace Go.Proofs.Ytlpoedjipncbhaa
open Go.RowKit Go.Shelf
set_option linter.unusedVariables false
set_option linter.unusedSimpArgs false
set_option maxHeartbeats 400000

set_option maxRecDepth 100000 in
theorem lit19 (l : Int) (p : Nat → Prop) (ao : Option Addr) (a : List Bool) (cp : Nat) (w : World) (h0 : l ≠ 0) (hl : l.natAbs ≤ a.length) (hn : a.length ≤ 16) (hr : boolE.Row p w ao a) :
    Calls Try.prog 19 #[.int .i64 l, .slice ao a.length cp] w fun e w' => e = .returned (.bool (litT (fB a) l)) ∧ Below w.heap.size w w' := by
  have hk : l.natAbs - 1 < a.length := by omega
  obtain ⟨b, off, rfl, _, c1⟩ := hr.bool hk
  have HV := Lib.hid (show litT (fB a) l = (a[l.natAbs - 1] == decide (0 < l)) by unfold litT; rw [fB_get hk])
  obtain ⟨X, hX⟩ : ∃ X, X = a[l.natAbs - 1] := ⟨_, rfl⟩
  rw [← hX] at c1 HV
  obtain ⟨k, hkk⟩ : ∃ k, k = l.natAbs - 1 := ⟨_, rfl⟩
  rw [← hkk] at c1 hk
  obtain ⟨m, hm⟩ : ∃ m, m = a.length := ⟨_, rfl⟩
  rw [← hm] at hk ⊢
  have hki : (k : Int) < (m : Int) := by omega
  by_cases hneg : l < 0
  · obtain rfl : l = -((k : Int) + 1) := by omega
    have HW := Lib.hid (show (!X) = litT (fB a) (-((k : Int) + 1)) by rw [HV.out, decide_eq_false (by omega)]; cases X <;> rfl)
    have hlm : k ≤ 16 := by omega
    clear hX hkk hm hr hn hl h0 HV
    go_enter Try.func19, Try.ntmps19
    go_wp2_with fail
    go_ret
    exact ⟨ret_bool HW.out, Below.refl _ _⟩
  · obtain rfl : l = (k : Int) + 1 := by omega
    have HW := Lib.hid (show X = litT (fB a) ((k : Int) + 1) by rw [HV.out, decide_eq_true (by omega)]; cases X <;> rfl)
    have hlm : k ≤ 16 := by omega
    clear hX hkk hm hr hn hl h0 HV
    go_enter Try.func19, Try.ntmps19
    go_wp2_with fail
    go_ret
    exact ⟨ret_bool HW.out, Below.refl _ _⟩
set_option maxRecDepth 100000 in
set_option maxHeartbeats 4000000 in
theorem holds11 (cs : List (List Int)) (p q : Nat → Prop) (ko ao : Option Addr) (a : List Bool) (kp cp : Nat) (w : World) (hG : ∀ c ∈ cs, ∀ l ∈ c, l ≠ 0 ∧ l.natAbs ≤ a.length) (hn : a.length ≤ 16) (hcl : cs.length ≤ maxLen) (hk : intsE.Row q w ko cs) (hr : boolE.Row p w ao a) :
    Calls Try.prog 11 #[.slice ko cs.length kp, .slice ao a.length cp] w fun e w' => e = .returned (.bool (allT (fB a) cs)) ∧ Below w.heap.size w w' := by
  have HK := Lib.hid hk; have HR := Lib.hid hr; have HG := Lib.hid hG
  unfold maxLen at hcl
  obtain ⟨n, hnn⟩ : ∃ n, n = cs.length := ⟨_, rfl⟩
  obtain ⟨na, hna⟩ : ∃ n, n = a.length := ⟨_, rfl⟩
  have HN := Lib.hid hnn; have HNA := Lib.hid hna
  rw [← hnn] at hcl ⊢
  rw [← hna] at hn ⊢
  clear hk hr hG hnn hna
  go_enter Try.func11, Try.ntmps11
  go_wp2_with fail
  go_loopw [5] (fun i wr => ∃ k : Nat, k ≤ n ∧ i = .int .i64 k ∧ (cs.take k).all (satT (fB a)) = true ∧ Below w.heap.size w wr) (fun i _ => n - (intOf i).toNat)
  case atStart => exact ⟨0, by omega, rfl, rfl, Below.refl _ _⟩
  case round =>
    obtain ⟨k, hkn, rfl, hall, hb⟩ := hrel
    have HALL := Lib.hid hall
    have HB := Lib.hid hb
    clear hall
    by_cases hlt : k < n
    · have hltc : k < cs.length := by have := HN.out; omega
      have hlti : (k : Int) < (n : Int) := by omega
      obtain ⟨b, off, ko', sp, rfl, hpb, c1, h1, h2⟩ := (HK.out.kept hb).ints hltc
      have HGc := Lib.hid (HG.out cs[k] (List.getElem_mem hltc))
      have HAS := Lib.hid (show (cs.take (k + 1)).all (satT (fB a)) = satT (fB a) cs[k] by rw [List.take_succ_eq_append_getElem hltc, List.all_append, HALL.out]; simp)
      have HAF := Lib.hid (show satT (fB a) cs[k] = false → allT (fB a) cs = false from fun h => by
        unfold allT; rw [List.all_eq_false]; exact ⟨_, List.getElem_mem hltc, by rw [h]; simp⟩)
      obtain ⟨x, hx⟩ : ∃ x, x = cs[k] := ⟨_, rfl⟩
      rw [← hx] at c1 h1 h2 HGc HAS HAF
      have H1 := Lib.hid h1
      obtain ⟨xl, hxl⟩ : ∃ n, n = x.length := ⟨_, rfl⟩
      have HXL := Lib.hid hxl
      unfold maxLen at h2
      rw [← hxl] at c1 h2
      clear hx h1 hxl hltc hb
      go_wp2_with fail
      go_loopw [6, 7] (fun ok j wr2 => ∃ i : Nat, i ≤ xl ∧ j = .int .i64 i ∧ ok = .bool ((x.take i).any (litT (fB a))) ∧ Below wr.heap.size wr wr2) (fun _ j _ => xl - (intOf j).toNat)
      case atStart => exact ⟨0, by omega, rfl, rfl, Below.refl _ _⟩
      case round =>
        obtain ⟨i, hi, rfl, rfl, hb2⟩ := hrel
        have HB2 := Lib.hid hb2
        have c2 := Below.cellOf hb2 c1
        by_cases hlt2 : i < xl
        · have hltx : i < x.length := by have := HXL.out; omega
          have hlti2 : (i : Int) < (xl : Int) := by omega
          obtain ⟨b', off', rfl, _, d1⟩ := H1.out.int hltx
          have d2 := Below.cellOf hb2 d1
          have HTS := Lib.hid (show (x.take (i + 1)).any (litT (fB a)) = ((x.take i).any (litT (fB a)) || litT (fB a) x[i]) by rw [List.take_succ_eq_append_getElem hltx, List.any_append]; simp)
          have HGl := Lib.hid (HGc.out x[i] (List.getElem_mem hltx))
          obtain ⟨y, hy⟩ : ∃ y, y = x[i] := ⟨_, rfl⟩
          obtain ⟨B0, hB0⟩ : ∃ y, y = (x.take i).any (litT (fB a)) := ⟨_, rfl⟩
          rw [← hy] at d2 HTS HGl
          rw [← hB0] at HTS ⊢
          clear hy hB0 d1 hb2 c1
          cases B0 with
          | true =>
            go_wp2_with fail
            go_roundw
            case rel => exact ⟨i + 1, by omega, by go_num, by rw [HTS.out]; rfl, HB2.out⟩
            case measure => simp [intOf] <;> omega
          | false =>
            go_wp2_with fail
            have HL := lit19 y p ao a cp wr HGl.out.1 HGl.out.2 (by rw [← HNA.out]; exact hn) (HR.out.kept (Below.step HB.out HB2.out))
            rw [← HNA.out] at HL
            refine HL.mono ?_
            clear HL
            rintro e w3 ⟨rfl, hb3⟩
            have HB3 := Lib.hid (Below.step HB2.out hb3)
            have c3 := Below.cellOf hb3 c2
            clear c2 hb3
            go_wp2_with fail
            go_roundw
            case rel => exact ⟨i + 1, by omega, by go_num, by rw [HTS.out, Bool.false_or], HB3.out⟩
            case measure => simp [intOf] <;> omega
        · obtain rfl : i = xl := by omega
          have HSX := Lib.hid (show (x.take i).any (litT (fB a)) = satT (fB a) x by unfold satT; rw [HXL.out, List.take_length])
          rw [HSX.out]
          obtain ⟨B0, hB0⟩ : ∃ y, y = satT (fB a) x := ⟨_, rfl⟩
          rw [← hB0] at HAS HAF ⊢
          clear hB0 HSX hb2
          cases B0 with
          | true =>
            go_wp2_with fail
            go_roundw
            case rel => exact ⟨k + 1, by omega, by go_num, HAS.out, Below.step HB.out HB2.out⟩
            case measure => simp [intOf] <;> omega
          | false =>
            go_wp2_with fail
            go_ret
            exact ⟨ret_bool (HAF.out (by first | rfl | trivial)).symm, Below.step HB.out HB2.out⟩
    · obtain rfl : k = n := by omega
      clear hb
      go_wp2_with fail
      go_ret
      exact ⟨ret_bool (by have := HALL.out; rw [HN.out, List.take_length] at this; exact this.symm), HB.out⟩

theorem Elt.Row.sub {α : Type} {E : Elt α} {p : Nat → Prop} {w : World} {b off : Nat} {cs : List α} (h : E.Row p w (some ⟨b, off, none⟩) cs) (h1 : E.n = 1) {i : Nat} (hi : i < cs.length) : E.Row p w (some ⟨b, off + i, none⟩) [cs[i]] := fun j x hj => by
  obtain ⟨rfl, rfl⟩ : j = 0 ∧ x = cs[i] := by
    rcases j with _ | j
    · simpa using hj.symm
    · simp at hj
  obtain ⟨b', o', c, e, hp, hc, hx⟩ := h i cs[i] (List.getElem?_eq_getElem hi)
  simp only [Option.some.injEq, Addr.mk.injEq, and_true] at e
  obtain ⟨rfl, rfl⟩ := e
  refine ⟨b, off + i, c, rfl, hp, fun k u hu => ?_, hx⟩
  have := hc k u hu
  rw [h1] at this ⊢
  simpa [Nat.add_assoc] using this
set_option maxRecDepth 100000 in
set_option maxHeartbeats 4000000 in
theorem denied12 (ls : List (List Int)) (ws : List Int) (p q r : Nat → Prop) (lo wo ao : Option Addr) (a : List Bool) (ln lc wc_ cp : Nat) (w : World) (hG : ∀ c ∈ ls, ∀ l ∈ c, l ≠ 0 ∧ l.natAbs ≤ a.length) (hn : a.length ≤ 16) (hln : ln = ls.length) (hll : ls.length ≤ 10) (hlc : ls.length ≤ lc) (hws : okWs ws) (hwl : ws.length = ls.length)
    (hl : intsE.Row p w lo ls) (hw : intE.Row r w wo ws) (hr : boolE.Row q w ao a) :
    Calls Try.prog 12 #[.slice lo ln lc, .slice wo ln wc_, .slice ao a.length cp] w fun e w' => e = .returned (.int .i64 (sumW ls ws (fB a) ls.length)) ∧ Below w.heap.size w w' := by
  have HL := Lib.hid hl; have HR := Lib.hid hr; have HG := Lib.hid hG; have HW := Lib.hid hw; have HWS := Lib.hid hws
  obtain ⟨na, hna⟩ : ∃ n, n = a.length := ⟨_, rfl⟩
  have HNA := Lib.hid hna
  have HN := Lib.hid hln
  rw [← hna] at hn ⊢
  rw [← hln] at hlc hll ⊢
  have hwl2 : ln ≤ ws.length := by omega
  have hll2 : ln ≤ ls.length := by omega
  clear hl hr hG hna hw hws hln hwl
  go_enter Try.func12, Try.ntmps12
  go_wp2_with fail
  go_loopw [7, 8] (fun sm i wr => ∃ k : Nat, k ≤ ln ∧ i = .int .i64 k ∧ sm = .int .i64 (sumW ls ws (fB a) k) ∧ Below w.heap.size w wr) (fun _ i _ => ln - (intOf i).toNat)
  case atStart => exact ⟨0, by omega, rfl, rfl, Below.refl _ _⟩
  case round =>
    obtain ⟨k, hkn, rfl, rfl, hb⟩ := hrel
    have HB := Lib.hid hb
    have hSJ := sumW_ok (ls := ls) HWS.out (fB a) k
    by_cases hlt : k < ln
    · have hltc : k < ls.length := by omega
      have hlti : (k : Int) < (ln : Int) := by omega
      obtain ⟨b, off, ko', sp, rfl, hpb, c1, h1, h2⟩ := (HL.out.kept hb).ints hltc
      obtain ⟨wb, woff, rfl, hrb, d1⟩ := (HW.out.kept hb).int (i := k) (by omega)
      have HGc := Lib.hid (HG.out ls[k] (List.getElem_mem hltc))
      have HST := Lib.hid (show sumW ls ws (fB a) (k + 1) = sumW ls ws (fB a) k + (if satT (fB a) ls[k] then 0 else ws[k]) by rw [sumW, List.getD_eq_getElem?_getD, List.getElem?_eq_getElem (by omega), gI_get (by omega)]; rfl)
      have hwb := HWS.out ws[k] (List.getElem_mem _)
      have hcc := holds11 [ls[k]] q p (some ⟨b, off + k, none⟩) ao a (lc - k) cp wr (fun c hc => by rw [List.mem_singleton.1 hc]; exact HGc.out) (by rw [← HNA.out]; exact hn) (by unfold maxLen; simp) ((HL.out.kept hb).sub rfl hltc) (HR.out.kept hb)
      rw [← HNA.out, show allT (fB a) [ls[k]] = satT (fB a) ls[k] by simp [allT], List.length_singleton] at hcc
      obtain ⟨S0, hS0⟩ : ∃ s, s = sumW ls ws (fB a) k := ⟨_, rfl⟩
      obtain ⟨B1, hB1⟩ : ∃ s, s = satT (fB a) ls[k] := ⟨_, rfl⟩
      obtain ⟨wj, hwj⟩ : ∃ s, s = ws[k] := ⟨_, rfl⟩
      rw [← hS0] at HST hSJ ⊢
      rw [← hB1] at HST hcc
      rw [← hwj] at HST hwb d1
      have HCC := Lib.hid hcc
      have hlck : k + 1 ≤ lc := by omega
      have hlt10 : k < 10 := by omega
      clear hS0 hB1 hwj c1 h1 h2 hb hcc
      go_wp2_with fail
      refine HCC.out.mono ?_
      rintro e w3 ⟨rfl, hb3⟩
      have HB3 := Lib.hid (Below.step HB.out hb3)
      have d2 := Below.cellOf hb3 d1
      clear d1 hb3
      cases B1 with
      | true =>
        have HST' := Lib.hid (show sumW ls ws (fB a) (k + 1) = S0 by rw [HST.out]; simp)
        go_wp2_with fail
        go_roundw
        case rel => exact ⟨k + 1, by omega, by go_num, by rw [HST'.out], HB3.out⟩
        case measure => simp [intOf] <;> omega
      | false =>
        have HST' := Lib.hid (show sumW ls ws (fB a) (k + 1) = S0 + wj by rw [HST.out]; simp)
        go_wp2_with fail
        go_roundw
        case rel => exact ⟨k + 1, by omega, by go_num, by rw [HST'.out], HB3.out⟩
        case measure => simp [intOf] <;> omega
    · obtain rfl : k = ln := by omega
      clear hb
      go_wp2_with fail
      go_ret
      exact ⟨rfl, HB.out⟩
end Go.Proofs.Ytlpoedjipncbhaa
