/-
  Walks: the document's Down.
-/
import Derived.Test.YtlhnfdjidjgfgaaProg
import Derived.Test.YtlhnfdjidjgfgaaXa
import Derived.Test.YtlhnfdjidjgfgaaXb
import Derived.Test.YtlhnfdjidjgfgaaPa4
import Derived.Test.YtlhnfdjidjgfgaaT25
import Derived.IntWalk
import Derived.StillTailTactics
namespace Go.Proofs.Ytlhnfdjidjgfgaa
open Go.RowKit Go.Shelf
set_option linter.unusedVariables false
set_option maxHeartbeats 400000

set_option maxRecDepth 100000 in
set_option maxHeartbeats 4000000 in
theorem down32 (p0 : Nat → Prop) (t : T) (place : List Int) (v : Value) (po : Option Addr) (pc : Nat) (w : World) (ht : TreeP p0 w v t) (hp : CellsAt w po place.length (fun j => .int .i64 (gI place j))) (hpl : place.length ≤ 9223372036854775807) :
    Calls Try.prog 103 #[v, .slice po place.length pc] w (DownPost p0 (t.get place 0) w) := by
  obtain ⟨k, sp, rfl⟩ := ht.at.form
  have HT := Lib.hid ht; have HP := Lib.hid hp; clear ht hp
  have S0 := ((St.start w).box rfl #[.int .i64 t.head, .slice k t.kids.length (t.kids.length + sp)] 38).box (b := w.heap.size + 1) (by simp) #[.int .i64 0, .slice none 0 0] 38
  go_enter Try.func103, Try.ntmps103
  go_wp2_with fail
  refine S0.genC (z := w.heap.size + 2) (by simp) ?_
  intro wB zB S1
  have HS1 := Lib.hid S1
  clear S0 S1
  go_loopw [6] (fun i wr => ∃ (q : Nat) (x : T) (xo : Option Addr) (xsp : Nat), q ≤ place.length ∧ i = .int .i64 q ∧ x.get (place.drop q) q = t.get place 0 ∧ TreeP p0 w (.agg #[.int .i64 x.head, .slice xo x.kids.length (x.kids.length + xsp)]) x ∧
    St w wr [.box w.heap.size #[.int .i64 x.head, .slice xo x.kids.length (x.kids.length + xsp)] 38, .box (w.heap.size + 1) #[.int .i64 0, .slice none 0 0] 38]) (fun i _ => place.length - (intOf i).toNat)
  case atStart => exact ⟨0, t, k, sp, by omega, rfl, by simp, HT.out, HS1.out⟩
  case round =>
    obtain ⟨q, x, xo, xsp, hq, rfl, hg, htx, S⟩ := hrel
    have HG := Lib.hid hg; have HTX := Lib.hid htx
    obtain ⟨hrow, hxm⟩ := htx.row
    have HROW := Lib.hid hrow
    have hxm : x.kids.length ≤ 9223372036854775807 := hxm
    obtain ⟨⟨x0, x1⟩, x2, x3⟩ := S.two 0
    obtain ⟨⟨y0, y1⟩, y2, y3⟩ := S.two 1
    clear hg htx hrow
    by_cases hlt : q < place.length
    · obtain ⟨pb, poff, rfl, c0⟩ := HP.out.get hlt
      have d0 := Below.cellOf S.bel c0
      have HD := Lib.hid (show x.get (place.drop q) q = if gI place q < 1 ∨ (x.kids.length : Int) < gI place q then (zeroT, (q : Int)) else (gK x.kids (gI place q - 1).toNat).get (place.drop (q + 1)) (q + 1) by rw [drop_gI hlt, T.get])
      have HZC := Lib.hid c0
      clear c0
      generalize gI place q = z at d0 HD HZC ⊢
      have HS := Lib.hid S
      have hltn : (q : Int) < (place.length : Int) := by omega
      clear S
      by_cases h1 : 1 ≤ z ∧ z ≤ (x.kids.length : Int)
      · have hdec : decide (1 ≤ z ∧ z ≤ (x.kids.length : Int)) = true := decide_eq_true h1
        obtain ⟨h1a, h1b⟩ := h1
        have HIN := Lib.hid (fun W => in54 z 1 (x.kids.length : Int) W)
        go_wp2_with fail
        go_quiet ((go_at_call 57; exact Calls.quiet_of_same (HIN.out _)))
        rw [hdec]
        go_wp2_with fail
        obtain ⟨j, rfl⟩ : ∃ j : Nat, z = (j : Int) + 1 := ⟨(z - 1).toNat, by omega⟩
        have hjl : j < x.kids.length := by omega
        refine (HS.out.drewN nq).genC (z := w.heap.size) (HS.out.drewN nq).size ?_
        intro wx zx SX
        clear x0 x1 x2 x3 y0 y1 y2 y3 d0
        obtain ⟨b, off, ko, ksp, rfl, _, c1, c2, c3⟩ := HROW.out j hjl
        have HC3 := Lib.hid c3
        have d0 := Below.cellOf SX.bel HZC.out
        have d1 := Below.cellOf SX.bel c1; have d2 := Below.cellOf SX.bel c2
        have HN := Lib.hid (show (gK x.kids j).get (place.drop (q + 1)) ((q + 1 : Nat) : Int) = t.get place 0 by
          have h := HG.out
          rw [HD.out, if_neg (by omega)] at h
          have e : ((j : Int) + 1 - 1).toNat = j := by omega
          rw [e] at h; simpa using h)
        have hsub : (j : Int) + 1 - 1 = (j : Int) := by omega
        obtain ⟨⟨x0, x1⟩, x2, x3⟩ := SX.two 0
        have hlx := SX.lt 0
        have SY := Lib.hid (SX.drew.set2 0 rfl (.int .i64 (gK x.kids j).head) (.slice ko (gK x.kids j).kids.length ((gK x.kids j).kids.length + ksp)) (by omega) (by simp only [offs, offAll, Fct.box, and_true]; omega))
        clear c1 c2 c3 SX
        have hj0 : (0 : Int) ≤ (j : Int) := by omega
        have hjx : (j : Int) < (x.kids.length : Int) := by omega
        have hw := IntWalk.i64_in (j : Int) (by omega)
        go_still_tail 9, (by kernel_rfl)
        clear hw
        change wpList _ _ _ _ _ wx.drew
        go_wp2_with fail
        go_roundw
        case rel => exact ⟨q + 1, gK x.kids j, ko, ksp, by omega, by go_num, HN.out, HC3.out, SY.out⟩
        case measure => simp [intOf] <;> omega
      · have hdec : decide (1 ≤ z ∧ z ≤ (x.kids.length : Int)) = false := decide_eq_false h1
        have HR := Lib.hid (show t.get place 0 = (zeroT, (q : Int)) by rw [← HG.out, HD.out, if_pos (by omega)])
        have HIN := Lib.hid (fun W => in54 z 1 (x.kids.length : Int) W)
        go_wp2_with fail
        go_quiet ((go_at_call 57; exact Calls.quiet_of_same (HIN.out _)))
        rw [hdec]
        go_wp2_with fail
        have S2 := (HS.out.drewN nq).set2 1 rfl (.int .i64 0) (.slice none 0 0) (by omega) (by simp only [offs, offAll, Fct.box, and_true]; omega)
        refine bodyPost_ret (v := .tuple #[.agg #[.int .i64 0, .slice none 0 0], .int .i64 q]) ?_ rfl ?_
        · obtain ⟨⟨z0, _⟩, z1, _⟩ := S2.two 1
          simp [results, Try.results103, go_sem, z0, z1]
        · exact ⟨none, 0, by rw [HR.out]; rfl, by rw [HR.out]; exact TreeP.zero _ _, S2.bel⟩
    · obtain rfl : q = place.length := by omega
      have HR := Lib.hid (show t.get place 0 = (x, -1) by rw [← HG.out, List.drop_length, T.get])
      have S2 := S.set2 1 rfl (.int .i64 x.head) (.slice xo x.kids.length (x.kids.length + xsp)) (by omega) (by simp only [offs, offAll, Fct.box, and_true]; omega)
      go_wp2_with fail
      refine bodyPost_ret (v := .tuple #[.agg #[.int .i64 x.head, .slice xo x.kids.length (x.kids.length + xsp)], .int .i64 (-1)]) ?_ rfl ?_
      · obtain ⟨⟨z0, _⟩, z1, _⟩ := S2.two 1
        simp [results, Try.results103, go_sem, z0, z1]
      · exact ⟨xo, xsp, by rw [HR.out], by rw [HR.out]; exact HTX.out, S2.bel⟩
end Go.Proofs.Ytlhnfdjidjgfgaa
