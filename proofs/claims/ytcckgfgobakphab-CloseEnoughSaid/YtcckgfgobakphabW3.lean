/-
  Walks: pairs, lists of integers, classes merged and compared (the reference's own functions).
-/
import Derived.Test.YtcckgfgobakphabProg
import Derived.Test.YtcckgfgobakphabBase
import Derived.Test.YtcckgfgobakphabW2
namespace Go.Proofs.Ytcckgfgobakphab
open Go.RowKit
set_option linter.unusedVariables false
set_option maxHeartbeats 400000

def gP (l : List (Int × Int)) (j : Nat) : Int × Int := l.getD j (0, 0)

def PairsAt (w : World) (v : Value) (ps : List (Int × Int)) : Prop :=
  ∃ ao cap, v = .slice ao ps.length cap ∧ ∀ j, j < ps.length → ∃ b off, ao = some ⟨b, off, none⟩ ∧ w.cell? ⟨b, off + j * 2, none⟩ = some (.int .i64 (gP ps j).1) ∧
    w.cell? ⟨b, off + j * 2 + 1, none⟩ = some (.int .i64 (gP ps j).2)

theorem PairsAt.below {w w' : World} (hb : Below w.heap.size w w') {v : Value} {l : List (Int × Int)} (h : PairsAt w v l) : PairsAt w' v l := by
  obtain ⟨ao, cap, e, hc⟩ := h
  refine ⟨ao, cap, e, fun j hj => ?_⟩
  obtain ⟨b, off, e, h1, h2⟩ := hc j hj
  exact ⟨b, off, e, Below.cellOf hb h1, Below.cellOf hb h2⟩

theorem TermsAt.below {w w' : World} (hb : Below w.heap.size w w') {v : Value} {l : List Tm} (h : TermsAt w v l) : TermsAt w' v l := by
  obtain ⟨ao, cap, e, hc⟩ := h
  refine ⟨ao, cap, e, fun j hj => ?_⟩
  obtain ⟨b, off, ko, kc, e, h1, h2, h3⟩ := hc j hj
  exact ⟨b, off, ko, kc, e, Below.cellOf hb h1, Below.cellOf hb h2, h3.below hb⟩

def inN (n : Nat) (a : Int) : Bool := decide (0 ≤ a ∧ a ≤ (n : Int) - 1)
def pBad (n : Nat) (p : Int × Int) : Bool := !(inN n p.1) || !(inN n p.2)
def pairsF (ps : List (Int × Int)) (n : Nat) (at_ : Int) : Int × Int :=
  if 120 < ps.length then (2, -1) else
    match firstI (fun k => pBad n (gP ps k)) ps.length with
    | none => (0, 0)
    | some k => (3, at_ + k)
theorem pairsF_many {ps : List (Int × Int)} {n : Nat} {a : Int} (h : 120 < ps.length) : FV (pairsF ps n a) = .agg #[.int .i64 2, .int .i64 (-1)] := by simp [pairsF, h, FV]
theorem pairsF_bad {ps : List (Int × Int)} {n : Nat} {a : Int} {k : Nat} (h : ¬ 120 < ps.length) (hk : k < ps.length) (hno : ∀ j, j < k → pBad n (gP ps j) = false) (hb : pBad n (gP ps k) = true) :
    FV (pairsF ps n a) = .agg #[.int .i64 3, .int .i64 (a + k)] := by
  simp only [pairsF, if_neg h, firstI_hit hk hno hb, FV]
theorem pairsF_ok {ps : List (Int × Int)} {n : Nat} {a : Int} (h : ¬ 120 < ps.length) (hno : ∀ j, j < ps.length → pBad n (gP ps j) = false) : FV (pairsF ps n a) = .agg #[.int .i64 0, .int .i64 0] := by
  simp only [pairsF, if_neg h, firstI_none hno, FV]

set_option maxRecDepth 100000 in
theorem pairs_any (ps : List (Int × Int)) (n : Nat) (a : Int) (v : Value) (w : World) (hn : n ≤ 80) (ha : 0 ≤ a ∧ a ≤ 1000000) (h : PairsAt w v ps) :
    Calls Try.prog 11 #[v, .int .i64 n, .int .i64 a] w fun e w' => e = .returned (FV (pairsF ps n a)) ∧ Below w.heap.size w w' := by
  obtain ⟨ao, cap, rfl, hts⟩ := h
  have HT := Lib.hid hts
  clear hts
  by_cases h60 : 120 < ps.length
  · rw [pairsF_many h60]
    go_enter Try.func11, Try.ntmps11
    go_wp2_with fail
    refine (fault22 _ _ _).mono ?_
    rintro e w1 ⟨rfl, hb1⟩
    have hh := Below.heapAt hb1 (heap_ofAlloc w _)
    obtain ⟨⟨c0, f0⟩, c1, f1⟩ := box2 hh
    have hbel : Below w.heap.size w w1 := Below.step ((Below.refl _ _).alloc (Nat.le_refl _) _) hb1
    go_wp2
    refine bodyPost_ret (v := .agg #[.int .i64 2, .int .i64 (-1)]) (by simp [results, Try.results11, go_sem, c0, c1]) rfl ⟨rfl, (hbel.setCell (Nat.le_refl _) _).setCell (Nat.le_refl _) _⟩
  · have H60 := Lib.hid h60
    have h60' : (ps.length : Int) ≤ 120 := by omega
    go_enter Try.func11, Try.ntmps11
    go_wp2_with fail
    go_loopw [7] (fun i wr => ∃ k : Nat, k ≤ ps.length ∧ i = .int .i64 k ∧ Below w.heap.size w wr ∧ (∀ j, j < k → pBad n (gP ps j) = false) ∧
        wr.heap[w.heap.size]? = some (.cells #[.int .i64 0, .int .i64 0] 28 (0, 0))) (fun i _ => ps.length - (intOf i).toNat)
    case atStart => exact ⟨0, by omega, rfl, (Below.refl _ _).alloc (Nat.le_refl _) _, by simp, heap_ofAlloc w _⟩
    case round =>
      obtain ⟨k, hk, rfl, hbel, hno, hh⟩ := hrel
      have HN := Lib.hid hno; clear hno
      obtain ⟨⟨cr0, fr0⟩, cr1, fr1⟩ := box2 hh
      have HH := Lib.hid hh; clear hh
      by_cases hlt : k < ps.length
      · obtain ⟨b, off, rfl, h1, h2⟩ := HT.out k hlt
        have HT2 := HT
        clear HT
        have c1 := Below.cellOf hbel h1
        have c2 := Below.cellOf hbel h2
        clear h1 h2
        cases hp1 : inN n (gP ps k).1 with
        | false =>
          have HP := Lib.hid hp1; clear hp1
          have e7 := Lib.hid (pairsF_bad (n := n) (a := a) H60.out hlt HN.out (by simp [pBad, HP.out]))
          go_wp2_with fail
          refine (in23 _ _ _ _).mono ?_
          rintro e w1 ⟨rfl, rfl⟩
          rw [show decide (0 ≤ (gP ps k).1 ∧ (gP ps k).1 ≤ (n : Int) - 1) = false from HP.out]
          go_wp2_with fail
          refine (fault22 _ _ _).mono ?_
          rintro e w1 ⟨rfl, hb1⟩
          have hh1 := Below.heapAt hb1 HH.out
          obtain ⟨⟨d0, g0⟩, d1, g1⟩ := box2 hh1
          have hbel1 : Below w.heap.size w w1 := Below.step hbel hb1
          clear hh1
          go_wp2
          refine bodyPost_ret (v := .agg #[.int .i64 3, .int .i64 (a + k)]) (by simp [results, Try.results11, go_sem, d0, d1]) rfl ⟨by rw [e7.out], (hbel1.setCell (Nat.le_refl _) _).setCell (Nat.le_refl _) _⟩
        | true =>
          have HP := Lib.hid hp1; clear hp1
          cases hp2 : inN n (gP ps k).2 with
          | false =>
            have HQ := Lib.hid hp2; clear hp2
            have e7 := Lib.hid (pairsF_bad (n := n) (a := a) H60.out hlt HN.out (by simp [pBad, HQ.out]))
            go_wp2_with fail
            refine (in23 _ _ _ _).mono ?_
            rintro e w1 ⟨rfl, rfl⟩
            rw [show decide (0 ≤ (gP ps k).1 ∧ (gP ps k).1 ≤ (n : Int) - 1) = true from HP.out]
            go_wp2_with fail
            refine (in23 _ _ _ _).mono ?_
            rintro e w1 ⟨rfl, rfl⟩
            rw [show decide (0 ≤ (gP ps k).2 ∧ (gP ps k).2 ≤ (n : Int) - 1) = false from HQ.out]
            go_wp2_with fail
            refine (fault22 _ _ _).mono ?_
            rintro e w1 ⟨rfl, hb1⟩
            have hh1 := Below.heapAt hb1 HH.out
            obtain ⟨⟨d0, g0⟩, d1, g1⟩ := box2 hh1
            have hbel1 : Below w.heap.size w w1 := Below.step hbel hb1
            clear hh1
            go_wp2
            refine bodyPost_ret (v := .agg #[.int .i64 3, .int .i64 (a + k)]) (by simp [results, Try.results11, go_sem, d0, d1]) rfl ⟨by rw [e7.out], (hbel1.setCell (Nat.le_refl _) _).setCell (Nat.le_refl _) _⟩
          | true =>
            have HQ := Lib.hid hp2; clear hp2
            go_wp2_with fail
            refine (in23 _ _ _ _).mono ?_
            rintro e w1 ⟨rfl, rfl⟩
            rw [show decide (0 ≤ (gP ps k).1 ∧ (gP ps k).1 ≤ (n : Int) - 1) = true from HP.out]
            go_wp2_with fail
            refine (in23 _ _ _ _).mono ?_
            rintro e w1 ⟨rfl, rfl⟩
            rw [show decide (0 ≤ (gP ps k).2 ∧ (gP ps k).2 ≤ (n : Int) - 1) = true from HQ.out]
            go_wp2_with fail
            go_roundw
            case rel => exact ⟨k + 1, by omega, by go_num, hbel, fun j hj => (by rcases Nat.lt_succ_iff_lt_or_eq.1 hj with h | rfl; exact HN.out j h; simp [pBad, HP.out, HQ.out]), HH.out⟩
            case measure => simp [intOf]; omega
      · have e9 := Lib.hid (pairsF_ok (n := n) (a := a) H60.out (fun j hj => HN.out j (by omega)))
        go_wp2_with fail
        refine bodyPost_ret (v := .agg #[.int .i64 0, .int .i64 0]) (by simp [results, Try.results11, go_sem, cr0, cr1]) rfl ⟨by rw [e9.out], (hbel.setCell (Nat.le_refl _) _).setCell (Nat.le_refl _) _⟩

/-- two lists of integers are the same? -/
def sameI (a b : List Int) (n : Nat) : Bool := allB (fun i => gI a i == gI b i) n
theorem sameI_iff {a b : List Int} (h : a.length = b.length) : sameI a b a.length = true ↔ a = b := by
  rw [sameI, allB_iff]
  constructor
  · intro hh
    apply List.ext_getElem h
    intro i h1 h2
    have := hh i h1
    simpa [gI_get h1, gI_get h2] using this
  · rintro rfl i hi; simp

theorem ints_any (x y : List Int) (v u : Value) (w : World) (h1 : IntsAt w v x) (h2 : IntsAt w u y) (hx : x.length ≤ 1000000000) (hy : y.length ≤ 1000000000) :
    Calls Try.prog 14 #[v, u] w fun e w' => e = .returned (.bool (decide (x = y))) ∧ Below w.heap.size w w' := by
  obtain ⟨ao, cap, rfl, hc⟩ := h1
  obtain ⟨ao2, cap2, rfl, hd⟩ := h2
  by_cases hl : x.length = y.length
  · have HL := Lib.hid hl
    have hl2 : ((x.length : Int) != (y.length : Int)) = false := by simp; omega
    clear hl
    go_enter Try.func14, Try.ntmps14
    go_wp2_with fail
    go_loopw [5] (fun i wr => ∃ k : Nat, k ≤ x.length ∧ i = .int .i64 k ∧ Below w.heap.size w wr ∧ (∀ j, j < k → gI x j = gI y j)) (fun i _ => x.length - (intOf i).toNat)
    case atStart => exact ⟨0, by omega, rfl, Below.refl _ _, by simp⟩
    case round =>
      obtain ⟨k, hk, rfl, hbel, hno⟩ := hrel
      have HN := Lib.hid hno; clear hno
      by_cases hlt : k < x.length
      · have hlt2 : k < y.length := by have := HL.out; omega
        obtain ⟨b, off, rfl, h1⟩ := hc.get hlt
        obtain ⟨b2, off2, rfl, h2⟩ := hd.get hlt2
        have c1 := Below.cellOf hbel h1
        have c2 := Below.cellOf hbel h2
        clear h1 h2
        have HC := Lib.hid hc; have HD := Lib.hid hd; clear hc hd
        cases hq : (gI x k != gI y k) with
        | true =>
          have HQ := Lib.hid hq
          go_wp2_with fail
          go_quiet (fail)
          go_wp2_with fail
          go_ret
          refine ⟨ret_bool ?_, ?_⟩
          · have : x ≠ y := by
              intro e
              have := HQ.out
              simp [e] at this
            simp [this]
          · exact hbel.trans ⟨rfl, rfl, rfl, by simp, by simp⟩
        | false =>
          have HQ := Lib.hid hq
          go_wp2_with fail
          go_quiet (fail)
          go_wp2_with fail
          go_roundw
          case rel => exact ⟨k + 1, by omega, by go_num, hbel.trans ⟨rfl, rfl, rfl, by simp, by simp⟩, fun j hj => (by rcases Nat.lt_succ_iff_lt_or_eq.1 hj with h | rfl; exact HN.out j h; simpa using HQ.out)⟩
          case measure => simp [intOf]; omega
      · go_wp2_with fail
        go_ret
        refine ⟨ret_bool ?_, hbel⟩
        have : x = y := (sameI_iff HL.out).1 (by rw [sameI, allB_iff]; intro i hi; simpa using HN.out i (by omega))
        simp [this]
  · have hl2 : ((x.length : Int) != (y.length : Int)) = true := by simp; omega
    have HL := Lib.hid hl; clear hl
    go_enter Try.func14, Try.ntmps14
    go_wp2_with fail
    go_ret
    exact ⟨ret_bool (by have : x ≠ y := fun e => HL.out (by rw [e]); simp [this]), Below.refl _ _⟩
end Go.Proofs.Ytcckgfgobakphab
