/-
  Walks: the program's check.
-/
import Derived.Test.YtcckgfgobakphabProg
import Derived.Test.YtcckgfgobakphabBase
import Derived.Test.YtcckgfgobakphabCmath
import Derived.Test.YtcckgfgobakphabW8
namespace Go.Proofs.Ytcckgfgobakphab
open Go.RowKit Go.Shelf
set_option linter.unusedVariables false
set_option maxHeartbeats 400000

def gL (ls : List (List (Int × Int))) (j : Nat) : List (Int × Int) := ls.getD j []
def ListsAt (w : World) (v : Value) (ls : List (List (Int × Int))) : Prop :=
  ∃ ao cap, v = .slice ao ls.length cap ∧ ∀ j, j < ls.length → ∃ b off lv, ao = some ⟨b, off, none⟩ ∧ w.cell? ⟨b, off + j, none⟩ = some lv ∧ PairsAt w lv (gL ls j)
theorem ListsAt.below {w w' : World} (hb : Below w.heap.size w w') {v : Value} {l : List (List (Int × Int))} (h : ListsAt w v l) : ListsAt w' v l := by
  obtain ⟨ao, cap, e, hc⟩ := h
  refine ⟨ao, cap, e, fun j hj => ?_⟩
  obtain ⟨b, off, lv, e, h1, h2⟩ := hc j hj
  exact ⟨b, off, lv, e, Below.cellOf hb h1, h2.below hb⟩

def listsF (n : Nat) : List (List (Int × Int)) → Nat → Int × Int
  | [], _ => (0, 0)
  | l :: r, a => if 120 < l.length then (2, -1) else match firstI (fun k => pBad n (gP l k)) l.length with
    | some k => (3, ((a + k : Nat) : Int))
    | none => listsF n r (a + l.length)
def checkF (ts : List Tm) (ls : List (List (Int × Int))) : Int × Int := if (termsF ts).1 = 0 then listsF ts.length ls 0 else termsF ts

theorem drop_gL {ls : List (List (Int × Int))} {k : Nat} (h : k < ls.length) : ls.drop k = gL ls k :: ls.drop (k + 1) := by
  rw [List.drop_eq_getElem_cons h]; simp [gL, h]
theorem listsF_many {n a : Nat} {l : List (Int × Int)} {r : List (List (Int × Int))} (h : 120 < l.length) : listsF n (l :: r) a = (2, -1) := by simp [listsF, h]
theorem listsF_bad {n a k : Nat} {l : List (Int × Int)} {r : List (List (Int × Int))} (h : ¬ 120 < l.length) (hk : k < l.length) (hno : ∀ j, j < k → pBad n (gP l j) = false) (hb : pBad n (gP l k) = true) :
    listsF n (l :: r) a = (3, ((a + k : Nat) : Int)) := by simp only [listsF, if_neg h, firstI_hit (p := fun k => pBad n (gP l k)) hk hno hb]
theorem listsF_ok {n a : Nat} {l : List (Int × Int)} {r : List (List (Int × Int))} (h : ¬ 120 < l.length) (hno : ∀ j, j < l.length → pBad n (gP l j) = false) :
    listsF n (l :: r) a = listsF n r (a + l.length) := by simp only [listsF, if_neg h, firstI_none (p := fun k => pBad n (gP l k)) hno]

theorem termsF_code_many {ts : List Tm} (h : 60 < ts.length) : termsF ts = (2, 0) := by simp [termsF, h]
theorem termsF_code_ok {ts : List Tm} (h : ¬ 60 < ts.length) (hno : ∀ j, j < ts.length → tBad j (gT ts j) = false) : termsF ts = (0, 0) := by
  simp only [termsF, if_neg h, firstI_none (p := fun k => tBad k (gT ts k)) hno]
theorem termsF_code_bad {ts : List Tm} {k : Nat} (h : ¬ 60 < ts.length) (hk : k < ts.length) (hno : ∀ j, j < k → tBad j (gT ts j) = false) (hb : tBad k (gT ts k) = true) :
    termsF ts = (if 8 < (gT ts k).kids.length then 2 else 3, (k : Int)) := by
  simp only [termsF, if_neg h, firstI_hit (p := fun k => tBad k (gT ts k)) hk hno hb]

theorem FV_mk (a b : Int) : FV (a, b) = .agg #[.int .i64 a, .int .i64 b] := rfl
theorem ret_FV {a b : Int} {f : Int × Int} (h : f = (a, b)) : Ending.returned (.agg #[.int .i64 a, .int .i64 b]) = Ending.returned (FV f) := by rw [h]; rfl

theorem okSoFar_any {k : Nat} {t : Tm} (hh : 0 ≤ t.head) : okSoFar k t t.kids.length = !(anyB (fun i => !kidOk k (gI t.kids i)) t.kids.length) := by
  rw [Bool.eq_iff_iff]
  simp only [okSoFar, kidsOk, Bool.and_eq_true, decide_eq_true_eq, hh, true_and, allB_iff, Bool.not_eq_true']
  rw [← Bool.not_eq_true, anyB_iff]
  simp

set_option maxRecDepth 100000 in
set_option maxHeartbeats 2000000 in
theorem check_any (ts : List Tm) (ls : List (List (Int × Int))) (tv lv : Value) (w : World) (hn : ts.length ≤ 80) (hm : ls.length ≤ 1000) (ht : TermsAt w tv ts) (hl : ListsAt w lv ls) :
    Calls Try.prog 19 #[tv, lv] w fun e w' => e = .returned (FV (checkF ts ls)) ∧ Below w.heap.size w w' := by
  obtain ⟨ao, cap, rfl, hts⟩ := ht
  obtain ⟨bo, bcap, rfl, hls⟩ := hl
  have HT := Lib.hid hts; have HL := Lib.hid hls; clear hts hls
  by_cases h60 : 60 < ts.length
  · have e0 := Lib.hid (show checkF ts ls = (2, 0) by simp [checkF, termsF_code_many h60])
    go_enter Try.func19, Try.ntmps19
    go_wp2_with fail
    refine bodyPost_ret (v := .agg #[.int .i64 2, .int .i64 0]) (by simp [results, Try.results19, go_sem]) rfl ⟨ret_FV e0.out, (Below.refl _ _).alloc (Nat.le_refl _) _⟩
  · have H60 := Lib.hid h60
    have h60' : (ts.length : Int) ≤ 60 := by omega
    go_enter Try.func19, Try.ntmps19
    go_wp2_with fail
    go_loopw [5, 6, 18] (fun _ _ i wr => ∃ k : Nat, k ≤ ts.length ∧ i = .int .i64 k ∧ Below w.heap.size w wr ∧ (∀ j, j < k → tBad j (gT ts j) = false) ∧
        wr.heap[w.heap.size]? = some (.cells #[.int .i64 0, .int .i64 0] 28 (0, 0))) (fun _ _ i _ => ts.length - (intOf i).toNat)
    case atStart => exact ⟨0, by omega, rfl, (Below.refl _ _).alloc (Nat.le_refl _) _, by simp, heap_ofAlloc w _⟩
    case round =>
      obtain ⟨k, hk, rfl, hbel, hno, hh⟩ := hrel
      have HN := Lib.hid hno; clear hno
      obtain ⟨⟨cr0, fr0⟩, cr1, fr1⟩ := box2 hh
      have hrlt := heap_lt hh
      have HH := Lib.hid hh; clear hh
      by_cases hlt : k < ts.length
      · obtain ⟨b, off, ko, kc, rfl, h1, h2, h3⟩ := HT.out k hlt
        have HT2 := HT
        clear HT
        have c1 := Below.cellOf hbel h1
        have c2 := Below.cellOf hbel h2
        have h3' := Lib.hid (h3.below hbel)
        clear h1 h2 h3
        have hwb := hbel.size
        by_cases h8 : 8 < (gT ts k).kids.length
        · have e8 := Lib.hid (show checkF ts ls = (2, (k : Int)) by rw [checkF, termsF_code_bad H60.out hlt HN.out (by simp [tBad, h8]), if_pos h8]; simp)
          go_wp2_with fail
          refine ret_box2 (.int .i64 2) (.int .i64 k) w.heap.size 28 (heap_alloc_old (heap_alloc_old (box2_set HH.out _ _))) (fun w' q0 q1 => by simp [results, Try.results19, go_sem, q0, q1]) rfl ⟨ret_FV e8.out, ?_⟩
          exact ((((hbel.setCell (Nat.le_refl _) _).setCell (Nat.le_refl _) _).alloc (by simp; omega) _).alloc (by simp; omega) _)
        · by_cases hneg : (gT ts k).head < 0
          · have e8 := Lib.hid (show checkF ts ls = (3, (k : Int)) by
              rw [checkF, termsF_code_bad H60.out hlt HN.out (by have : ¬ (0 ≤ (gT ts k).head) := by omega
                                                                 simp [tBad, okSoFar, this]), if_neg h8]; simp)
            go_wp2_with fail
            refine ret_box2 (.int .i64 3) (.int .i64 k) w.heap.size 28 (heap_alloc_old (heap_alloc_old (box2_set HH.out _ _))) (fun w' q0 q1 => by simp [results, Try.results19, go_sem, q0, q1]) rfl ⟨ret_FV e8.out, ?_⟩
            exact ((((hbel.setCell (Nat.le_refl _) _).setCell (Nat.le_refl _) _).alloc (by simp; omega) _).alloc (by simp; omega) _)
          · have hbi : ((wr.alloc (.cells #[.int .i64 k] 3)).alloc (.cells #[.int .i64 (gT ts k).head, .slice ko (gT ts k).kids.length kc] 45)).heap[wr.heap.size]? = some (.cells #[.int .i64 k] 3 (0, 0)) := heap_alloc_old (heap_ofAlloc _ _)
            have HBI := Lib.hid hbi; clear hbi
            have hb2 : Below wr.heap.size wr ((wr.alloc (.cells #[.int .i64 k] 3)).alloc (.cells #[.int .i64 (gT ts k).head, .slice ko (gT ts k).kids.length kc] 45)) :=
              ((Below.refl _ _).alloc (Nat.le_refl _) _).alloc (by simp) _
            have HB2 := Lib.hid hb2; clear hb2
            go_wp2_with fail
            refine (containsFunc_any 29 #[.pointer (some ⟨wr.heap.size, 0, none⟩)] (enters_of Try.func29 (by kernel_rfl) rfl) ko (gT ts k).kids.length kc (fun i => .int .i64 (gI (gT ts k).kids i)) (fun i => !kidOk k (gI (gT ts k).kids i)) _ (by omega)
              (h3'.out.below HB2.out) (fun i w1 hi hb1 => (kid29 wr.heap.size k _ w1 (box1 (Below.heapAt hb1 HBI.out)).1).mono fun e w2 ⟨he, hw⟩ => ⟨he, hw ▸ Below.refl _ _⟩)).mono ?_
            rintro e w1 ⟨rfl, hb1⟩
            have hbel1 : Below w.heap.size w w1 := Below.step (Below.step hbel HB2.out) hb1
            have hh1 := Below.heapAt hb1 (Below.heapAt HB2.out HH.out)
            have hi1 := Below.heapAt hb1 HBI.out
            obtain ⟨⟨d0, g0⟩, d1, g1⟩ := box2 hh1
            obtain ⟨di, gi⟩ := box1 hi1
            have hsz1 := hbel1.size
            have HH1 := Lib.hid hh1; clear hh1 hi1
            have hoa := okSoFar_any (k := k) (t := gT ts k) (by omega)
            cases hany : anyB (fun i => !kidOk k (gI (gT ts k).kids i)) (gT ts k).kids.length with
            | true =>
              have e8 := Lib.hid (show checkF ts ls = (3, (k : Int)) by
                rw [checkF, termsF_code_bad H60.out hlt HN.out (by simp [tBad, hoa, hany]), if_neg h8]; simp)
              have HA := Lib.hid hany; clear hany hoa
              go_wp2_with fail
              refine ret_box2 (.int .i64 3) (.int .i64 k) w.heap.size 28 (box2_set HH1.out _ _) (fun w' q0 q1 => by simp [results, Try.results19, go_sem, q0, q1]) rfl ⟨ret_FV e8.out, ?_⟩
              exact ((hbel1.setCell (Nat.le_refl _) _).setCell (Nat.le_refl _) _)
            | false =>
              have hok := Lib.hid (show tBad k (gT ts k) = false by simp [tBad, hoa, hany]; omega)
              have HA := Lib.hid hany; clear hany hoa
              go_wp2_with fail
              go_roundw
              case rel => exact ⟨k + 1, by omega, by go_num, hbel1, fun j hj => (by rcases Nat.lt_succ_iff_lt_or_eq.1 hj with h | rfl; exact HN.out j h; exact hok.out), HH1.out⟩
              case measure => simp [intOf] <;> omega
      · obtain rfl : k = ts.length := by omega
        have e8 := Lib.hid (show checkF ts ls = listsF ts.length ls 0 by rw [checkF, termsF_code_ok H60.out HN.out]; simp)
        clear HN HT
        go_wp2_with fail
        have hbel0 := hbel
        go_loopw [7, 9, 11, 45, 49, 50, 51, 52, 53, 54, 55, 56, 57, 58, 59, 60, 61, 62, 63, 64, 65, 66, 67, 68, 69, 70, 71, 72, 73, 74, 75] (fun a _ _ i _ _ _ _ _ _ _ _ _ _ _ _ _ _ _ _ _ _ _ _ _ _ _ _ _ _ _ wr => ∃ (k s : Nat), k ≤ ls.length ∧ i = .int .i64 k ∧ a = .int .i64 (s : Nat) ∧ s ≤ 120 * k ∧ Below w.heap.size w wr ∧ listsF ts.length (ls.drop k) s = checkF ts ls ∧
            wr.heap[w.heap.size]? = some (.cells #[.int .i64 0, .int .i64 0] 28 (0, 0))) (fun _ _ _ i _ _ _ _ _ _ _ _ _ _ _ _ _ _ _ _ _ _ _ _ _ _ _ _ _ _ _ _ => ls.length - (intOf i).toNat)
        case atStart => exact ⟨0, 0, by omega, rfl, rfl, by omega, hbel, by rw [e8.out]; rfl, HH.out⟩
        case round =>
          obtain ⟨k, s, hk, rfl, rfl, hs, hbel, hF, hh⟩ := hrel
          have HF := Lib.hid hF; clear hF
          obtain ⟨⟨cr0, fr0⟩, cr1, fr1⟩ := box2 hh
          have hwb := hbel.size
          have HH := Lib.hid hh; clear hh
          by_cases hlt : k < ls.length
          · obtain ⟨b, off, lv, rfl, x1, x2⟩ := HL.out k hlt
            have y1 := Below.cellOf hbel x1
            have HPx := Lib.hid (x2.below hbel)
            obtain ⟨po, pc, rfl, x3⟩ := x2.below hbel
            have HP3 := Lib.hid x3
            have HDR := Lib.hid (drop_gL hlt)
            clear x1 x2 x3
            generalize hl : gL ls k = l at HP3 HPx HDR y1 ⊢
            clear hl
            by_cases h120 : 120 < l.length
            · have e9 := Lib.hid (show checkF ts ls = (2, -1) by rw [← HF.out, HDR.out, listsF_many h120])
              go_wp2_with fail
              refine ret_box2 (.int .i64 2) (.int .i64 (-1)) w.heap.size 28 (box2_set HH.out _ _) (fun w' q0 q1 => by simp [results, Try.results19, go_sem, q0, q1]) rfl ⟨ret_FV e9.out, ?_⟩
              exact ((hbel.setCell (Nat.le_refl _) _).setCell (Nat.le_refl _) _)
            · go_wp2_with fail
              go_loopw [7, 11, 55] (fun a _ i wr => ∃ (j : Nat), j ≤ l.length ∧ i = .int .i64 j ∧ a = .int .i64 ((s + j : Nat) : Int) ∧ Below w.heap.size w wr ∧ (∀ q, q < j → pBad ts.length (gP l q) = false) ∧ PairsAt wr (.slice po l.length pc) l ∧
                  wr.heap[w.heap.size]? = some (.cells #[.int .i64 0, .int .i64 0] 28 (0, 0))) (fun _ _ i _ => l.length - (intOf i).toNat)
              case atStart => exact ⟨0, by omega, rfl, rfl, hbel, by simp, HPx.out, HH.out⟩
              case round =>
                obtain ⟨j, hj, rfl, rfl, hbel, hno, hpa, hh⟩ := hrel
                have HN := Lib.hid hno; clear hno
                obtain ⟨⟨cr0, fr0⟩, cr1, fr1⟩ := box2 hh
                have hwb := hbel.size
                have hrlt := heap_lt hh
                have HH := Lib.hid hh; clear hh
                have HPA := Lib.hid hpa
                obtain ⟨po', pc', e0, hcc⟩ := hpa
                simp only [Value.slice.injEq, true_and] at e0
                obtain ⟨rfl, rfl⟩ := e0
                by_cases hjl : j < l.length
                · obtain ⟨pb, pf, rfl, p1, p2⟩ := hcc j hjl
                  have HCC := Lib.hid hcc; clear hcc
                  have hbelA : Below w.heap.size w (wr.alloc (.cells #[.int .i64 (gP l j).1, .int .i64 (gP l j).2] 34)) := hbel.alloc hwb _
                  have HP4 := Lib.hid (HPA.out.below ((Below.refl _ _).alloc (Nat.le_refl _) (.cells #[.int .i64 (gP l j).1, .int .i64 (gP l j).2] 34)))
                  have HH4 := Lib.hid (heap_alloc_old (o' := .cells #[.int .i64 (gP l j).1, .int .i64 (gP l j).2] 34) HH.out)
                  have hn2 : (s : Int) + j ≤ 200000 := by omega
                  cases hp1 : inN ts.length (gP l j).1 with
                  | false =>
                    have e9 := Lib.hid (show checkF ts ls = (3, (s : Int) + (j : Int)) by rw [← HF.out, HDR.out, listsF_bad h120 hjl HN.out (by simp [pBad, hp1])]; simp)
                    have HQ := Lib.hid hp1; clear hp1
                    go_wp2_with fail
                    refine (term_any _ _ _ _ _ (by omega)).mono ?_
                    rintro e w1 ⟨rfl, rfl⟩
                    rw [HQ.out]
                    go_wp2_with fail
                    refine ret_box2 (.int .i64 3) (.int .i64 ((s : Int) + (j : Int))) w.heap.size 28 (heap_alloc_old (box2_set HH.out _ _)) (fun w' q0 q1 => by simp [results, Try.results19, go_sem, q0, q1]) rfl ⟨ret_FV e9.out, ?_⟩
                    exact ((hbel.setCell (Nat.le_refl _) _).setCell (Nat.le_refl _) _).alloc (by simp; omega) _
                  | true =>
                    have HQ := Lib.hid hp1
                    cases hp2 : inN ts.length (gP l j).2 with
                    | false =>
                      have e9 := Lib.hid (show checkF ts ls = (3, (s : Int) + (j : Int)) by rw [← HF.out, HDR.out, listsF_bad h120 hjl HN.out (by simp [pBad, hp2])]; simp)
                      have HQ2 := Lib.hid hp2; clear hp1 hp2
                      go_wp2_with fail
                      refine (term_any _ _ _ _ _ (by omega)).mono ?_
                      rintro e w1 ⟨rfl, rfl⟩
                      rw [HQ.out]
                      go_wp2_with fail
                      refine (term_any _ _ _ _ _ (by omega)).mono ?_
                      rintro e w1 ⟨rfl, rfl⟩
                      rw [HQ2.out]
                      go_wp2_with fail
                      refine ret_box2 (.int .i64 3) (.int .i64 ((s : Int) + (j : Int))) w.heap.size 28 (heap_alloc_old (box2_set HH.out _ _)) (fun w' q0 q1 => by simp [results, Try.results19, go_sem, q0, q1]) rfl ⟨ret_FV e9.out, ?_⟩
                      exact ((hbel.setCell (Nat.le_refl _) _).setCell (Nat.le_refl _) _).alloc (by simp; omega) _
                    | true =>
                      have hgood := Lib.hid (show pBad ts.length (gP l j) = false by simp [pBad, hp1, hp2])
                      have HQ2 := Lib.hid hp2; clear hp1 hp2
                      go_wp2_with fail
                      refine (term_any _ _ _ _ _ (by omega)).mono ?_
                      rintro e w1 ⟨rfl, rfl⟩
                      rw [HQ.out]
                      go_wp2_with fail
                      refine (term_any _ _ _ _ _ (by omega)).mono ?_
                      rintro e w1 ⟨rfl, rfl⟩
                      rw [HQ2.out]
                      go_wp2_with fail
                      go_roundw
                      case rel => exact ⟨j + 1, by omega, by go_num, by go_num, hbelA, fun q hq => (by rcases Nat.lt_succ_iff_lt_or_eq.1 hq with h | rfl; exact HN.out q h; exact hgood.out), HP4.out, HH4.out⟩
                      case measure => simp [intOf] <;> omega
                · obtain rfl : j = l.length := by omega
                  have e9 := Lib.hid (show checkF ts ls = listsF ts.length (ls.drop (k + 1)) (s + l.length) by rw [← HF.out, HDR.out, listsF_ok h120 HN.out])
                  clear hcc
                  go_wp2_with fail
                  go_roundw
                  case rel => exact ⟨k + 1, s + l.length, by omega, by go_num, rfl, by omega, hbel, e9.out.symm, HH.out⟩
                  case measure => simp [intOf] <;> omega
          · obtain rfl : k = ls.length := by omega
            have e9 := Lib.hid (show checkF ts ls = (0, 0) by rw [← HF.out]; simp [listsF])
            go_wp2_with fail
            refine ret_box2 (.int .i64 0) (.int .i64 0) w.heap.size 28 (box2_set HH.out _ _) (fun w' q0 q1 => by simp [results, Try.results19, go_sem, q0, q1]) rfl ⟨ret_FV e9.out, ?_⟩
            exact ((hbel.setCell (Nat.le_refl _) _).setCell (Nat.le_refl _) _)
end Go.Proofs.Ytcckgfgobakphab
