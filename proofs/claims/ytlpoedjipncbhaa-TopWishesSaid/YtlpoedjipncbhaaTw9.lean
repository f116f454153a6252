/-
  Walks: unit.Trail.state of a clause of one literal.
-/
import Derived.Test.YtlpoedjipncbhaaProg
import Derived.Test.YtlpoedjipncbhaaTw8
namespace Go.Proofs.Ytlpoedjipncbhaa
open Go.RowKit Go.Shelf Go.Maps
set_option linter.unusedVariables false
set_option linter.unusedSimpArgs false
set_option maxHeartbeats 400000

theorem law3 : Keyed Try.prog 3 := int_keyed Try.underlying3
theorem wf64 {z : Int} (h1 : -9223372036854775808 ≤ z) (h2 : z ≤ 9223372036854775807) : (Lit.int .i64 z).wf = true := by
  simp only [Lit.wf, IntKind.min, IntKind.max, IntKind.signed, IntKind.bits, Bool.and_eq_true, decide_eq_true_eq, if_true]
  omega
theorem keyI {z : Int} (h1 : -1000 ≤ z) (h2 : z ≤ 1000) : keyOf Try.prog 3 (.int .i64 z) = some (.int .i64 z) := keyOf_int_mk Try.underlying3 (wf64 (by omega) (by omega))
/-- does the trail hold this literal? -/
def onT (f : Lit → Option Bool) (z : Int) : Bool := (f (.int .i64 z)).getD false
def stT (f : Lit → Option Bool) (x : Int) : Bool × Int := if onT f (-x) then (true, 0) else if onT f x then (false, 0) else (false, x)
set_option maxRecDepth 100000 in
theorem state67 (x : Int) (p : Nat → Prop) (ko : Option Addr) (cp T mb n : Nat) (f : Lit → Option Bool) (w : World) (hx : x ≠ 0) (h1 : -100 ≤ x) (h2 : x ≤ 100) (hk : intE.Row p w ko [x]) (hT : w.cell? ⟨T, 3, none⟩ = some (.map (some mb))) (hm : BMap 3 4 mb n f w) :
    Calls Try.prog 67 #[.pointer (some ⟨T, 0, none⟩), .slice ko 1 cp] w fun e w' => e = .returned (.tuple #[.bool (stT f x).1, .int .i64 (stT f x).2]) ∧ w' = w := by
  obtain ⟨b, off, rfl, _, c1⟩ := hk.int (i := 0) (by simp)
  replace c1 : w.cell? ⟨b, off, none⟩ = some (.int .i64 x) := c1
  have hl1 := hm.look (t := 79) law3 Try.underlying79 Try.underlying4 (by rfl) (keyI (z := -x) (by omega) (by omega))
  have hl2 := hm.look (t := 79) law3 Try.underlying79 Try.underlying4 (by rfl) (keyI (z := x) (by omega) (by omega))
  have HST : Hid (stT f x = if onT f (-x) then (true, 0) else if onT f x then (false, 0) else (false, x)) := Lib.hid rfl
  replace hl1 : (Instr.lookup 79 (.map (some mb)) (.int .i64 (-x)) false).run Try.prog w = .ok (.bool (onT f (-x))) w := hl1
  replace hl2 : (Instr.lookup 79 (.map (some mb)) (.int .i64 x) false).run Try.prog w = .ok (.bool (onT f x)) w := hl2
  obtain ⟨N, hN⟩ : ∃ N, N = onT f (-x) := ⟨_, rfl⟩
  obtain ⟨Y, hY⟩ : ∃ N, N = onT f x := ⟨_, rfl⟩
  rw [← hN] at hl1 HST
  rw [← hY] at hl2 HST
  clear hN hY hm hk
  go_enter Try.func67, Try.ntmps67
  go_wp2_with fail
  go_loopw [6, 11] (fun o i wr => wr = w ∧ ((i = .int .i64 0 ∧ o = .int .i64 0) ∨ (i = .int .i64 1 ∧ ((N = true ∧ o = .int .i64 0) ∨ (N = false ∧ Y = false ∧ o = .int .i64 x))))) (fun _ i _ => 1 - (intOf i).toNat)
  case atStart => exact ⟨rfl, .inl ⟨rfl, rfl⟩⟩
  case round =>
    obtain ⟨rfl, (⟨rfl, rfl⟩ | ⟨rfl, (⟨rfl, rfl⟩ | ⟨rfl, rfl, rfl⟩)⟩)⟩ := hrel
    · cases N with
      | true =>
        go_wp2_with fail
        go_roundw
        case rel => exact ⟨(by first | rfl | trivial), .inr ⟨by go_num, .inl ⟨(by first | rfl | trivial), (by first | rfl | trivial)⟩⟩⟩
        case measure => simp [intOf]
      | false =>
        cases Y with
        | true =>
          go_wp2_with fail
          refine bodyPost_ret (v := .tuple #[.bool false, .int .i64 0]) (by simp [results, Try.results67, go_sem]) rfl ?_
          exact ⟨by rw [HST.out]; rfl, rfl⟩
        | false =>
          go_wp2_with fail
          go_roundw
          case rel => exact ⟨(by first | rfl | trivial), .inr ⟨by go_num, .inr ⟨(by first | rfl | trivial), (by first | rfl | trivial), (by first | rfl | trivial)⟩⟩⟩
          case measure => simp [intOf]
    · go_wp2_with fail
      refine bodyPost_ret (v := .tuple #[.bool true, .int .i64 0]) (by simp [results, Try.results67, go_sem]) rfl ?_
      exact ⟨by rw [HST.out]; rfl, rfl⟩
    · have hx2 : (x == 0) = false := by simpa using hx
      go_wp2_with fail
      refine bodyPost_ret (v := .tuple #[.bool false, .int .i64 x]) (by simp [results, Try.results67, go_sem, hx2]) rfl ?_
      exact ⟨by rw [HST.out]; rfl, rfl⟩
end Go.Proofs.Ytlpoedjipncbhaa
