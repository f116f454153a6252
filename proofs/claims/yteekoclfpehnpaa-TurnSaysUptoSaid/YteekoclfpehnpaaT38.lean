/-
  Walks: tree.Same, slices.EqualFunc over rows of trees.
-/
import Derived.Test.YteekoclfpehnpaaProg
import Derived.Test.YteekoclfpehnpaaBase
import Derived.Test.YteekoclfpehnpaaXb
import Derived.Test.YteekoclfpehnpaaXa
namespace Go.Proofs.Yteekoclfpehnpaa
open Go.RowKit Go.Shelf
set_option linter.unusedVariables false
set_option maxHeartbeats 400000

theorem list_ext_gK {a b : List T} (hl : a.length = b.length) (hk : ∀ j, j < a.length → gK a j = gK b j) : a = b :=
  List.ext_getElem hl fun j h1 h2 => by rw [← gK_get h1, ← gK_get h2, hk j h1]

set_option maxRecDepth 100000 in
set_option maxHeartbeats 4000000 in
theorem equalFunc72 (ks ls : List T) (hf : ∀ i, i < ks.length → ∀ (s : T) (v u : Value) (w : World), TreeAt w v (gK ks i) → TreeAt w u s → Calls Try.prog 133 #[v, u] w fun e w' => e = .returned (.bool (decide (gK ks i = s))) ∧ Below w.heap.size w w')
    (ao bo : Option Addr) (ca cb : Nat) (w : World) (ha : RowAt w ao ks) (hb : RowAt w bo ls) (hka : ks.length ≤ 9223372036854775807) (hkb : ls.length ≤ 9223372036854775807) :
    Calls Try.prog 136 #[.slice ao ks.length ca, .slice bo ls.length cb, .func (.func 133) #[] #[]] w fun e w' => e = .returned (.bool (decide (ks = ls))) ∧ Below w.heap.size w w' := by
  have HF := Lib.hid hf; have HA := Lib.hid ha; have HB := Lib.hid hb; clear hf ha hb
  by_cases hl : ks.length = ls.length
  · have hne : ((ks.length : Int) != (ls.length : Int)) = false := by simp [hl]
    have HL := Lib.hid hl
    clear hl
    go_enter Try.func136, Try.ntmps136
    go_wp2_with fail
    go_loopw [7, 8, 9, 17] (fun _ _ _ i wr => ∃ k : Nat, k ≤ ks.length ∧ i = .int .i64 k ∧ (∀ j, j < k → gK ks j = gK ls j) ∧ Below w.heap.size w wr) (fun _ _ _ i _ => ks.length - (intOf i).toNat)
    case atStart => exact ⟨0, by omega, rfl, fun j hj => by omega, Below.refl _ _⟩
    case round =>
      obtain ⟨k, hk, rfl, hno, hb⟩ := hrel
      have HNO := Lib.hid hno; clear hno
      by_cases hlt : k < ks.length
      · have hlti : (k : Int) < (ks.length : Int) := by omega
        have hlt2 : k < ls.length := by have := HL.out; omega
        have hlti2 : (k : Int) < (ls.length : Int) := by omega
        obtain ⟨b, off, ko, ksp, rfl, c1, c2, c3⟩ := (HA.out.below hb) k hlt
        obtain ⟨b2, off2, ko2, ksp2, rfl, d1, d2, d3⟩ := (HB.out.below hb) k hlt2
        have HC := Lib.hid c3; have HD := Lib.hid d3
        have S := ((St.start wr).box rfl #[.int .i64 (gK ks k).head, .slice ko (gK ks k).kids.length ((gK ks k).kids.length + ksp)] 44).box (b := wr.heap.size + 1) (by simp) #[.int .i64 (gK ls k).head, .slice ko2 (gK ls k).kids.length ((gK ls k).kids.length + ksp2)] 44
        have hlb2 : b2 < wr.heap.size := block_lt_of_cell d1
        have hlb1 : b < wr.heap.size := block_lt_of_cell c1
        clear c3 d3
        go_wp2_with fail
        refine St.gen S (z := wr.heap.size) (by simp; omega) ?_
        intro w1 z1 S1
        refine (S1.quiet (HF.out k hlt (gK ls k) _ _ w1 (HC.out.kept S1.bel) (HD.out.kept S1.bel))).mono ?_
        rintro e w2 ⟨rfl, z2, S2⟩
        have hbq := Below.step hb S2.bel
        clear S S1 S2
        cases hq : decide (gK ks k = gK ls k) with
        | false =>
          have HQ := Lib.hid hq; clear hq
          go_wp2_with fail
          go_ret
          refine ⟨ret_bool ?_, hbq⟩
          have h := HQ.out
          simp only [decide_eq_false_iff_not] at h
          exact (decide_eq_false (fun e => h (by rw [e]))).symm
        | true =>
          have HQ := Lib.hid hq; clear hq
          go_wp2_with fail
          go_roundw
          case rel => exact ⟨k + 1, by omega, by go_num, fun j hj => (by rcases Nat.lt_succ_iff_lt_or_eq.1 hj with h | rfl; exact HNO.out j h; exact of_decide_eq_true HQ.out), hbq⟩
          case measure => simp [intOf] <;> omega
      · obtain rfl : k = ks.length := by omega
        go_wp2_with fail
        go_ret
        exact ⟨ret_bool (decide_eq_true (list_ext_gK HL.out HNO.out)).symm, hb⟩
  · have hne : ((ks.length : Int) != (ls.length : Int)) = true := by simp; omega
    have E0 := Lib.hid (show decide (ks = ls) = false from decide_eq_false (fun e => hl (by rw [e])))
    clear hl
    go_enter Try.func136, Try.ntmps136
    go_wp2_with fail
    go_ret
    exact ⟨ret_bool E0.out.symm, Below.refl _ _⟩

set_option maxRecDepth 100000 in
set_option maxHeartbeats 4000000 in
theorem same68 (t : T) : ∀ (s : T) (v u : Value) (w : World), TreeAt w v t → TreeAt w u s →
    Calls Try.prog 133 #[v, u] w fun e w' => e = .returned (.bool (decide (t = s))) ∧ Below w.heap.size w w' := by
  induction t using T.ind with
  | h t ih =>
  intro s v u w ht hs
  obtain ⟨ao, sp, rfl, hr, hml⟩ := ht.open
  obtain ⟨ao2, sp2, rfl, hr2, hml2⟩ := hs.open
  have hml : t.kids.length ≤ 9223372036854775807 := hml
  have hml2 : s.kids.length ≤ 9223372036854775807 := hml2
  have HR := Lib.hid hr; have HR2 := Lib.hid hr2; have IH := Lib.hid ih
  clear ht hr hs hr2 ih
  have S := ((St.start w).box rfl #[.int .i64 t.head, .slice ao t.kids.length (t.kids.length + sp)] 44).box (b := w.heap.size + 1) (by simp) #[.int .i64 s.head, .slice ao2 s.kids.length (s.kids.length + sp2)] 44
  by_cases hh : t.head = s.head
  · have hne : (t.head == s.head) = true := by simp [hh]
    have HH := Lib.hid hh
    clear hh
    go_enter Try.func133, Try.ntmps133
    go_wp2_with fail
    refine St.gen S (z := w.heap.size) (by simp; omega) ?_
    intro w1 z1 S1
    refine (S1.quiet (equalFunc72 t.kids s.kids (fun i hi => IH.out i hi) ao ao2 _ _ w1 (HR.out.below S1.bel) (HR2.out.below S1.bel) hml hml2)).mono ?_
    rintro e w2 ⟨rfl, z2, S2⟩
    go_wp2_with fail
    go_ret
    refine ⟨ret_bool ?_, S2.bel⟩
    have hiff : t.kids = s.kids ↔ t = s := ⟨fun h => by cases t; cases s; have := HH.out; simp only [T.head, T.kids] at this h; rw [this, h], fun h => by rw [h]⟩
    exact decide_eq_decide.2 hiff
  · have hne : (t.head == s.head) = false := by simp [hh]
    have E0 := Lib.hid (show decide (t = s) = false from decide_eq_false (fun e => hh (by rw [e])))
    clear hh
    go_enter Try.func133, Try.ntmps133
    go_wp2_with fail
    go_ret
    exact ⟨ret_bool E0.out.symm, S.bel⟩
end Go.Proofs.Yteekoclfpehnpaa
