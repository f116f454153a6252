/-
  Walks: terms, pairs.
-/
import Derived.Test.YtcckgfgobakphabProg
import Derived.Test.YtcckgfgobakphabBase
import Derived.Test.YtcckgfgobakphabW1
namespace Go.Proofs.Ytcckgfgobakphab
open Go.RowKit
set_option linter.unusedVariables false
set_option maxHeartbeats 400000

theorem in23 (n lo hi : Int) (w : World) : Calls Try.prog 23 #[.int .i64 n, .int .i64 lo, .int .i64 hi] w fun e w' => e = .returned (.bool (decide (lo ≤ n ∧ n ≤ hi))) ∧ w = w' := by
  go_enter Try.func23, Try.ntmps23
  go_wp2
  all_goals (go_ret; exact ⟨ret_bool (by simp; try omega), rfl⟩)

theorem fault22 (c at_ : Int) (w : World) : Calls Try.prog 22 #[.int .i64 c, .int .i64 at_] w fun e w' => e = .returned (.agg #[.int .i64 c, .int .i64 at_]) ∧ Below w.heap.size w w' := by
  go_enter Try.func22, Try.ntmps22
  go_wp2
  refine bodyPost_ret (v := .agg #[.int .i64 c, .int .i64 at_]) (by simp [results, Try.results22, go_sem]) rfl ⟨rfl, (Below.refl _ _).alloc (Nat.le_refl _) _⟩

structure Tm where
  head : Int
  kids : List Int
deriving Inhabited

def gT (l : List Tm) (j : Nat) : Tm := l.getD j default

def TermsAt (w : World) (v : Value) (ts : List Tm) : Prop :=
  ∃ ao sp, v = .slice ao ts.length (ts.length + sp) ∧ ∀ j, j < ts.length → ∃ b off ko kc, ao = some ⟨b, off, none⟩ ∧ w.cell? ⟨b, off + j * 2, none⟩ = some (.int .i64 (gT ts j).head) ∧
    w.cell? ⟨b, off + j * 2 + 1, none⟩ = some (.slice ko (gT ts j).kids.length kc) ∧ CellsAt w ko (gT ts j).kids.length (fun i => .int .i64 (gI (gT ts j).kids i))

def kidOk (k : Nat) (n : Int) : Bool := decide (0 ≤ n ∧ n ≤ (k : Int) - 1)
def kidsOk (k : Nat) (t : Tm) : Nat → Bool := allB (fun i => kidOk k (gI t.kids i))
def okSoFar (k : Nat) (t : Tm) (i : Nat) : Bool := decide (0 ≤ t.head) && kidsOk k t i
theorem okSoFar_succ (k : Nat) (t : Tm) (i : Nat) : okSoFar k t (i + 1) = (okSoFar k t i && kidOk k (gI t.kids i)) := by simp [okSoFar, kidsOk, allB, Bool.and_assoc]
def tBad (k : Nat) (t : Tm) : Bool := decide (8 < t.kids.length) || !(okSoFar k t t.kids.length)
def termsF (ts : List Tm) : Int × Int :=
  if 60 < ts.length then (2, 0) else
    match firstI (fun k => tBad k (gT ts k)) ts.length with
    | none => (0, 0)
    | some k => (if 8 < (gT ts k).kids.length then 2 else 3, k)

def FV (f : Int × Int) : Value := .agg #[.int .i64 f.1, .int .i64 f.2]

theorem termsF_many {ts : List Tm} (h : 60 < ts.length) : FV (termsF ts) = .agg #[.int .i64 2, .int .i64 0] := by simp [termsF, h, FV]
theorem termsF_big {ts : List Tm} {k : Nat} (h : ¬ 60 < ts.length) (hk : k < ts.length) (hno : ∀ j, j < k → tBad j (gT ts j) = false) (h8 : 8 < (gT ts k).kids.length) :
    FV (termsF ts) = .agg #[.int .i64 2, .int .i64 k] := by
  simp only [termsF, if_neg h, firstI_hit hk hno (show tBad k (gT ts k) = true by simp [tBad, h8]), if_pos h8, FV]
theorem termsF_bad {ts : List Tm} {k : Nat} (h : ¬ 60 < ts.length) (hk : k < ts.length) (hno : ∀ j, j < k → tBad j (gT ts j) = false) (h8 : ¬ 8 < (gT ts k).kids.length)
    (hb : okSoFar k (gT ts k) (gT ts k).kids.length = false) : FV (termsF ts) = .agg #[.int .i64 3, .int .i64 k] := by
  simp only [termsF, if_neg h, firstI_hit hk hno (show tBad k (gT ts k) = true by simp [tBad, hb]), if_neg h8, FV]
theorem termsF_ok {ts : List Tm} (h : ¬ 60 < ts.length) (hno : ∀ j, j < ts.length → tBad j (gT ts j) = false) : FV (termsF ts) = .agg #[.int .i64 0, .int .i64 0] := by
  simp only [termsF, if_neg h, firstI_none hno, FV]

set_option maxRecDepth 100000 in
theorem terms_any (ts : List Tm) (v : Value) (w : World) (hn : ts.length ≤ 80) (h : TermsAt w v ts) :
    Calls Try.prog 10 #[v] w fun e w' => e = .returned (FV (termsF ts)) ∧ Below w.heap.size w w' := by
  obtain ⟨ao, cap, rfl, hts⟩ := h
  have HT := Lib.hid hts
  clear hts
  by_cases h60 : 60 < ts.length
  · rw [termsF_many h60]
    go_enter Try.func10, Try.ntmps10
    go_wp2_with fail
    refine (fault22 _ _ _).mono ?_
    rintro e w1 ⟨rfl, hb1⟩
    have hh := Below.heapAt hb1 (heap_ofAlloc w _)
    obtain ⟨⟨c0, f0⟩, c1, f1⟩ := box2 hh
    have hbel : Below w.heap.size w w1 := Below.step ((Below.refl _ _).alloc (Nat.le_refl _) _) hb1
    go_wp2
    refine bodyPost_ret (v := .agg #[.int .i64 2, .int .i64 0]) (by simp [results, Try.results10, go_sem, c0, c1]) rfl ⟨rfl, (hbel.setCell (Nat.le_refl _) _).setCell (Nat.le_refl _) _⟩
  · have H60 := Lib.hid h60
    have h60' : (ts.length : Int) ≤ 60 := by omega
    go_enter Try.func10, Try.ntmps10
    go_wp2_with fail
    go_loopw [3, 4, 5] (fun i _ _ wr => ∃ k : Nat, k ≤ ts.length ∧ i = .int .i64 k ∧ Below w.heap.size w wr ∧ (∀ j, j < k → tBad j (gT ts j) = false) ∧
        wr.heap[w.heap.size]? = some (.cells #[.int .i64 0, .int .i64 0] 28 (0, 0))) (fun i _ _ _ => ts.length - (intOf i).toNat)
    case atStart => exact ⟨0, by omega, rfl, (Below.refl _ _).alloc (Nat.le_refl _) _, by simp, heap_ofAlloc w _⟩
    case round =>
      obtain ⟨k, hk, rfl, hbel, hno, hh⟩ := hrel
      have HN := Lib.hid hno; clear hno
      obtain ⟨⟨cr0, fr0⟩, cr1, fr1⟩ := box2 hh
      have HH := Lib.hid hh; clear hh
      by_cases hlt : k < ts.length
      · obtain ⟨b, off, ko, kc, rfl, h1, h2, h3⟩ := HT.out k hlt
        have HT2 := HT
        clear HT
        have c1 := Below.cellOf hbel h1
        have c2 := Below.cellOf hbel h2
        have h3' := h3.below hbel
        clear h1 h2 h3
        by_cases h8 : 8 < (gT ts k).kids.length
        · have e8 := Lib.hid (termsF_big H60.out hlt HN.out h8)
          go_wp2_with fail
          refine (fault22 _ _ _).mono ?_
          rintro e w1 ⟨rfl, hb1⟩
          have hh1 := Below.heapAt hb1 HH.out
          obtain ⟨⟨d0, g0⟩, d1, g1⟩ := box2 hh1
          have hbel1 : Below w.heap.size w w1 := Below.step hbel hb1
          clear hh1
          go_wp2
          refine bodyPost_ret (v := .agg #[.int .i64 2, .int .i64 k]) (by simp [results, Try.results10, go_sem, d0, d1]) rfl ⟨by rw [e8.out], (hbel1.setCell (Nat.le_refl _) _).setCell (Nat.le_refl _) _⟩
        · go_wp2_with fail
          obtain ⟨wo, hwo⟩ : ∃ wo : World, wo = wr := ⟨_, rfl⟩
          go_loopw [4, 5] (fun o i wq => ∃ m : Nat, m ≤ (gT ts k).kids.length ∧ i = .int .i64 m ∧ o = .bool (okSoFar k (gT ts k) m) ∧ wq = wr) (fun _ i _ => (gT ts k).kids.length - (intOf i).toNat)
          case atStart => exact ⟨0, by omega, rfl, by simp [okSoFar, kidsOk, allB], rfl⟩
          case round =>
            obtain ⟨m, hm, rfl, rfl, rfl⟩ := hrel
            have HS := Lib.hid (okSoFar_succ k (gT ts k) m)
            by_cases hml : m < (gT ts k).kids.length
            · obtain ⟨kb, ko', rfl, ck⟩ := h3'.get hml
              cases ho : okSoFar k (gT ts k) m with
              | true =>
                have HO := Lib.hid ho; clear ho
                go_wp2_with fail
                refine (in23 _ _ _ _).mono ?_
                rintro e w1 ⟨rfl, rfl⟩
                go_wp2_with fail
                go_roundw
                case rel => exact ⟨m + 1, by omega, by go_num, by rw [HS.out, HO.out]; simp [kidOk], by first | rfl | trivial⟩
                case measure => simp [intOf]; omega
              | false =>
                have HO := Lib.hid ho; clear ho
                go_wp2_with fail
                go_roundw
                case rel => exact ⟨m + 1, by omega, by go_num, by rw [HS.out, HO.out]; simp, by first | rfl | trivial⟩
                case measure => simp [intOf]; omega
            · obtain rfl : m = (gT ts k).kids.length := by omega
              cases ho : okSoFar k (gT ts k) (gT ts k).kids.length with
              | true =>
                have HO := Lib.hid ho; clear ho
                go_wp2_with fail
                go_roundw
                case rel => exact ⟨k + 1, by omega, by go_num, hbel, fun j hj => (by rcases Nat.lt_succ_iff_lt_or_eq.1 hj with h | rfl; exact HN.out j h; simp [tBad, HO.out]; omega), HH.out⟩
                case measure => simp [intOf]; omega
              | false =>
                have HO := Lib.hid ho; clear ho
                have e7 := Lib.hid (termsF_bad H60.out hlt HN.out h8 HO.out)
                go_wp2_with fail
                refine (fault22 _ _ _).mono ?_
                rintro e w1 ⟨rfl, hb1⟩
                have hh1 := Below.heapAt hb1 HH.out
                obtain ⟨⟨d0, g0⟩, d1, g1⟩ := box2 hh1
                have hbel1 : Below w.heap.size w w1 := Below.step hbel hb1
                clear hh1
                go_wp2
                refine bodyPost_ret (v := .agg #[.int .i64 3, .int .i64 k]) (by simp [results, Try.results10, go_sem, d0, d1]) rfl ⟨by rw [e7.out], (hbel1.setCell (Nat.le_refl _) _).setCell (Nat.le_refl _) _⟩
      · have e9 := Lib.hid (termsF_ok H60.out (fun j hj => HN.out j (by omega)))
        go_wp2_with fail
        refine bodyPost_ret (v := .agg #[.int .i64 0, .int .i64 0]) (by simp [results, Try.results10, go_sem, cr0, cr1]) rfl ⟨by rw [e9.out], (hbel.setCell (Nat.le_refl _) _).setCell (Nat.le_refl _) _⟩
end Go.Proofs.Ytcckgfgobakphab
