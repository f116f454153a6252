/-
  Walk: times.Check of jobs and waits that are in range.
-/
import Derived.Test.YtacaakcpkgipfaaProg
import Derived.Test.YtacaakcpkgipfaaTi3
import Derived.RegionTactic
namespace Go.Proofs.Ytacaakcpkgipfaa
open Go.RowKit Go.Shelf
set_option linter.unusedVariables false
set_option maxHeartbeats 400000

/-- jobs and waits that are in range -/
def okJ (js : List Jb) : Prop := ∀ i (h : i < js.length), 0 ≤ js[i].long ∧ js[i].long ≤ 4 ∧ 0 ≤ js[i].from_ ∧ js[i].from_ ≤ 3 ∧ 0 ≤ js[i].mach ∧ js[i].mach ≤ 1
def okW (n : Nat) (ws : List Wt) : Prop := ∀ i (h : i < ws.length), ws[i].a < n ∧ ws[i].b < n ∧ -4 ≤ ws[i].by_ ∧ ws[i].by_ ≤ 4
theorem okW.inW {n : Nat} {ws : List Wt} (h : okW n ws) : inW n ws := fun w hw => by
  obtain ⟨i, hi, rfl⟩ := List.getElem_of_mem hw
  exact ⟨(h i hi).1, (h i hi).2.1⟩

set_option maxRecDepth 100000 in
set_option maxHeartbeats 4000000 in
theorem check14 (js : List Jb) (ws : List Wt) (p q : Nat → Prop) (jo wo : Option Addr) (jc wc_ : Nat) (w : World) (hj : jobE.Row p w jo js) (hw : waitE.Row q w wo ws) (hoj : okJ js) (how : okW js.length ws) (hjn : js.length ≤ 3) (hwn : ws.length ≤ 30) :
    Calls Try.prog 14 #[.slice jo js.length jc, .slice wo ws.length wc_] w fun e w' => e = .returned (.agg #[.int .i64 0, .int .i64 0]) ∧ Below w.heap.size w w' := by
  have HJ := Lib.hid hj; have HW := Lib.hid hw; have HOJ := Lib.hid hoj; have HOW := Lib.hid how
  obtain ⟨bx, hbx⟩ : ∃ b, b = w.heap.size := ⟨_, rfl⟩
  have S := (St.start w).box hbx.symm #[.int .i64 0, .int .i64 0] 31
  have hz : bx + 1 ≤ (w.alloc (.cells #[.int .i64 0, .int .i64 0] 31)).heap.size := by simp [hbx]
  have HBX := Lib.hid hbx
  have hji : (js.length : Int) ≤ 3 := by omega
  have hwi : (ws.length : Int) ≤ 30 := by omega
  clear hj hw hoj how
  go_enter Try.func14, Try.ntmps14
  go_wp2_with fail
  rw [← hbx]
  refine S.genC (z := bx + 1) hz ?_
  clear S hz hbx
  intro w1 hz S
  go_loopw [21] (fun i wr => ∃ k : Nat, k ≤ js.length ∧ i = .int .i64 k ∧ bx + 1 ≤ wr.heap.size ∧ St w wr [.box bx #[.int .i64 0, .int .i64 0] 31]) (fun i _ => js.length - (intOf i).toNat)
  case atStart => exact ⟨0, by omega, rfl, hz, S⟩
  case round =>
    clear S hz
    obtain ⟨k, hk, rfl, hz, S⟩ := hrel
    by_cases hlt : k < js.length
    · have hlti : (k : Int) < (js.length : Int) := by omega
      obtain ⟨b, off, rfl, _, c0, c1, c2⟩ := (HJ.out.kept S.bel).job hlt
      obtain ⟨h1, h2, h3, h4, h5, h6⟩ := HOJ.out k hlt
      obtain ⟨A, hA⟩ : ∃ A, A = js[k].long := ⟨_, rfl⟩
      obtain ⟨M, hM⟩ : ∃ A, A = js[k].mach := ⟨_, rfl⟩
      obtain ⟨F, hF⟩ : ∃ A, A = js[k].from_ := ⟨_, rfl⟩
      rw [← hA] at c0 h1 h2
      rw [← hM] at c1 h5 h6
      rw [← hF] at c2 h3 h4
      have SB := Lib.hid (S.alloc (.cells #[.int .i64 A, .int .i64 M, .int .i64 F] 26))
      have g1 : ¬ A < 0 := by omega
      have g2 : ¬ 200 < A := by omega
      have g3 : ¬ F < 0 := by omega
      have g4 : ¬ 200 < F := by omega
      have g5 : ¬ M < 0 := by omega
      have g6 : ¬ 8 ≤ M := by omega
      have hz2 : bx + 1 ≤ (wr.alloc (.cells #[.int .i64 A, .int .i64 M, .int .i64 F] 26)).heap.size := by simp; omega
      clear S hA hM hF
      go_wp2_with fail
      go_roundw
      case rel => exact ⟨k + 1, by omega, by go_num, hz2, SB.out⟩
      case measure => simp [intOf] <;> omega
    · obtain rfl : k = js.length := by omega
      go_wp2_with fail
      go_loopw [59] (fun i wr => ∃ k : Nat, k ≤ ws.length ∧ i = .int .i64 k ∧ bx + 1 ≤ wr.heap.size ∧ St w wr [.box bx #[.int .i64 0, .int .i64 0] 31]) (fun i _ => ws.length - (intOf i).toNat)
      case atStart => exact ⟨0, by omega, rfl, hz, S⟩
      case round =>
        clear S hz
        obtain ⟨k, hk, rfl, hz, S⟩ := hrel
        by_cases hlt : k < ws.length
        · have hlti : (k : Int) < (ws.length : Int) := by omega
          obtain ⟨b, off, rfl, _, c0, c1, c2⟩ := (HW.out.kept S.bel).wait hlt
          obtain ⟨h1, h2, h3, h4⟩ := HOW.out k hlt
          obtain ⟨A, hA⟩ : ∃ A, A = ws[k].a := ⟨_, rfl⟩
          obtain ⟨B, hB⟩ : ∃ A, A = ws[k].b := ⟨_, rfl⟩
          obtain ⟨F, hF⟩ : ∃ A, A = ws[k].by_ := ⟨_, rfl⟩
          rw [← hA] at c0 h1
          rw [← hB] at c1 h2
          rw [← hF] at c2 h3 h4
          have SB := Lib.hid (S.alloc (.cells #[.int .i64 (A : Int), .int .i64 (B : Int), .int .i64 F] 29))
          have g1 : ¬ (A : Int) < 0 := by omega
          have g2 : ¬ (js.length : Int) ≤ (A : Int) := by omega
          have g3 : ¬ (B : Int) < 0 := by omega
          have g4 : ¬ (js.length : Int) ≤ (B : Int) := by omega
          have g5 : ¬ F < -200 := by omega
          have g6 : ¬ 200 < F := by omega
          have hz2 : bx + 1 ≤ (wr.alloc (.cells #[.int .i64 (A : Int), .int .i64 (B : Int), .int .i64 F] 29)).heap.size := by simp; omega
          clear S hA hB hF h1 h2
          go_wp2_with fail
          go_roundw
          case rel => exact ⟨k + 1, by omega, by go_num, hz2, SB.out⟩
          case measure => simp [intOf] <;> omega
        · obtain rfl : k = ws.length := by omega
          obtain ⟨⟨y0, y1⟩, y2, y3⟩ := S.two 0
          have hl := S.lt 0
          have SB := Lib.hid S
          clear S
          go_wp2_with fail
          refine ret_box2 (.int .i64 0) (.int .i64 0) bx 31 (box2_set (SB.out.block 0) _ _) (fun w' q0 q1 => by simp [results, Try.results14, go_sem, q0, q1]) rfl ?_
          have hx := HBX.out
          exact ⟨rfl, (SB.out.bel.setCell (p := ⟨bx, 0, none⟩) (by show w.heap.size ≤ bx; omega) _).setCell (p := ⟨bx, 1, none⟩) (by show w.heap.size ≤ bx; omega) _⟩
end Go.Proofs.Ytacaakcpkgipfaa
