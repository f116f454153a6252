/-
  Walks: alike (the reference's).
-/
import Derived.Test.YtcckgfgobakphabProg
import Derived.Test.YtcckgfgobakphabBase
import Derived.Test.YtcckgfgobakphabCmath
namespace Go.Proofs.Ytcckgfgobakphab
open Go.RowKit
set_option linter.unusedVariables false
set_option maxHeartbeats 400000

theorem allB_succ (p : Nat → Bool) (n : Nat) : allB p (n + 1) = (allB p n && p n) := rfl

set_option maxRecDepth 100000 in
set_option maxHeartbeats 1000000 in
theorem alike_any (cl : List Nat) (a b : Tm) (ao1 ao2 : Option Addr) (c1 c2 : Nat) (v : Value) (w : World) (hn : cl.length ≤ 1000)
    (ha : a.kids.length ≤ 8) (hb : b.kids.length ≤ 8)
    (hka : ∀ i, i < a.kids.length → 0 ≤ gI a.kids i ∧ gI a.kids i < cl.length) (hkb : ∀ i, i < b.kids.length → 0 ≤ gI b.kids i ∧ gI b.kids i < cl.length)
    (h1 : CellsAt w ao1 a.kids.length (fun i => .int .i64 (gI a.kids i))) (h2 : CellsAt w ao2 b.kids.length (fun i => .int .i64 (gI b.kids i))) (h : NatsAt w v cl) :
    Calls Try.prog 25 #[.agg #[.int .i64 a.head, .slice ao1 a.kids.length c1], .agg #[.int .i64 b.head, .slice ao2 b.kids.length c2], v] w fun e w' =>
      e = .returned (.bool (alikeN cl a b)) ∧ Below w.heap.size w w' := by
  obtain ⟨ao, cap, rfl, hc⟩ := h
  have hBel : Below w.heap.size w ((w.alloc (.cells #[.int .i64 a.head, .slice ao1 a.kids.length c1] 45)).alloc (.cells #[.int .i64 b.head, .slice ao2 b.kids.length c2] 45)) :=
    ((Below.refl _ _).alloc (Nat.le_refl _) _).alloc (by simp) _
  by_cases hh : a.head = b.head
  · have h1' : (a.head != b.head) = false := by simp [hh]
    by_cases hl : a.kids.length = b.kids.length
    · have h2' : ((a.kids.length : Int) != (b.kids.length : Int)) = false := by simp [hl]
      have e0 : alikeN cl a b = kidsEq cl a b := by simp [alikeN, hh, hl]
      have E0 := Lib.hid e0; have HL := Lib.hid hl; clear e0 hl hh
      go_enter Try.func25, Try.ntmps25
      go_wp2_with fail
      go_loopw [7] (fun i wr => ∃ k : Nat, k ≤ a.kids.length ∧ i = .int .i64 k ∧ Below w.heap.size w wr ∧ allB (kidEq cl a b) k = true ∧
        (wr.cell? ⟨w.heap.size, 0, none⟩ = some (.int .i64 a.head) ∧ wr.cell? ⟨w.heap.size, 1, none⟩ = some (.slice ao1 a.kids.length c1)) ∧
        (wr.cell? ⟨w.heap.size + 1, 0, none⟩ = some (.int .i64 b.head) ∧ wr.cell? ⟨w.heap.size + 1, 1, none⟩ = some (.slice ao2 b.kids.length c2))) (fun i _ => a.kids.length - (intOf i).toNat)
      case atStart => exact ⟨0, by omega, rfl, hBel, rfl, ⟨by go_simp, by go_simp⟩, ⟨by go_simp, by go_simp⟩⟩
      case round =>
        obtain ⟨k, hk, rfl, hbel, hall, ⟨x0, x1⟩, y0, y1⟩ := hrel
        have HA := Lib.hid hall; clear hall
        by_cases hlt : k < a.kids.length
        · have hlt2 : k < b.kids.length := by have := HL.out; omega
          obtain ⟨p1, o1, rfl, q1⟩ := h1.get hlt
          obtain ⟨p2, o2, rfl, q2⟩ := h2.get hlt2
          have r1 := hka k hlt
          have r2 := hkb k hlt2
          obtain ⟨m1, hm1⟩ := Int.eq_ofNat_of_zero_le r1.1
          obtain ⟨m2, hm2⟩ := Int.eq_ofNat_of_zero_le r2.1
          have l1 : m1 < cl.length := by omega
          have l2 : m2 < cl.length := by omega
          obtain ⟨pc, oc, rfl, s1⟩ := hc.get l1
          obtain ⟨pc', oc', e0, s2⟩ := hc.get l2
          simp only [Option.some.injEq, Addr.mk.injEq] at e0
          obtain ⟨rfl, rfl, _⟩ := e0
          have d1 := Below.cellOf hbel q1
          have d2 := Below.cellOf hbel q2
          have d3 := Below.cellOf hbel s1
          have d4 := Below.cellOf hbel s2
          simp only [hm1, hm2] at d1 d2
          have ek : kidEq cl a b k = (gN cl m1 == gN cl m2) := by simp [kidEq, hm1, hm2]
          have EK := Lib.hid ek
          clear q1 q2 s1 s2 hm1 hm2 r1 r2 ek
          have HC := Lib.hid hc; have H1 := Lib.hid h1; have H2 := Lib.hid h2; have HKA := Lib.hid hka; have HKB := Lib.hid hkb; clear hc h1 h2 hka hkb
          cases hq : ((gN cl m1 : Int) != (gN cl m2 : Int)) with
          | true =>
            have HQ := Lib.hid hq
            go_wp2_with fail
            go_quiet (fail)
            go_wp2_with fail
            go_ret
            refine ⟨ret_bool ?_, hbel.trans ⟨rfl, rfl, rfl, by simp, by simp⟩⟩
            rw [E0.out]
            have : kidsEq cl a b ≠ true := by
              rw [kidsEq, ne_eq, allB_iff]
              intro hh
              have := hh k hlt
              rw [EK.out] at this
              have h' := HQ.out
              simp at this h'
              omega
            simpa using this
          | false =>
            have HQ := Lib.hid hq
            go_wp2_with fail
            go_quiet (fail)
            go_wp2_with fail
            go_roundw
            case rel => exact ⟨k + 1, by omega, by go_num, hbel.trans ⟨rfl, rfl, rfl, by simp, by simp⟩, by rw [allB_succ, HA.out, EK.out]; have h' := HQ.out; simp at h'; simp; omega, ⟨by go_simp, by go_simp⟩, ⟨by go_simp, by go_simp⟩⟩
            case measure => simp [intOf]; omega
        · obtain rfl : k = a.kids.length := by omega
          go_wp2_with fail
          go_ret
          exact ⟨ret_bool (by rw [E0.out, kidsEq, HA.out]), hbel⟩
    · have h2' : ((a.kids.length : Int) != (b.kids.length : Int)) = true := by simp; omega
      have E0 := Lib.hid (show alikeN cl a b = false by simp [alikeN, hl]); clear hl hh
      go_enter Try.func25, Try.ntmps25
      go_wp2_with fail
      go_ret
      exact ⟨ret_bool E0.out.symm, hBel⟩
  · have h1' : (a.head != b.head) = true := by simp [hh]
    have E0 := Lib.hid (show alikeN cl a b = false by simp [alikeN, hh]); clear hh
    go_enter Try.func25, Try.ntmps25
    go_wp2_with fail
    go_ret
    exact ⟨ret_bool E0.out.symm, hBel⟩
end Go.Proofs.Ytcckgfgobakphab
