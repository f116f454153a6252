/-
  Walks: the reader of a line: positive.
-/
import Derived.Test.YtidgnbdlfngeaaaGreatDoorRd3
namespace Go.Proofs.YtidgnbdlfngeaaaGreatDoor
open Go.RowKit Go.Shelf
set_option linter.unusedVariables false
set_option maxHeartbeats 400000

def posB (s : Bs) : Bool := numOk s && decide (0 < valD (digs s))
theorem posO_eq (s : Bs) : posO s = if posB s = true then some (valD (digs s), numR s) else none := by
  unfold posO posB
  simp only [Bool.and_eq_true, decide_eq_true_eq]

set_option maxRecDepth 100000 in
set_option maxHeartbeats 8000000 in
theorem positive52 (s : Bs) (ok : Bool) (bR : Nat) (w0 w : World) (l : List Fct) (S : St w0 w (rdr bR s ok :: l)) (h0 : w0.heap.size ≤ bR) (hoff : offAll bR l) (hg : GV w0) (hs : s.length ≤ 100000) :
    Calls Tryz.prog 63 #[.pointer (some ⟨bR, 0, none⟩)] w fun e w' => ∃ x, e = .returned (.int .i64 x) ∧ (posB s = true → x = valD (digs s)) ∧ w.heap.size ≤ w'.heap.size ∧ St w0 w' (rdr bR (numR s) (ok && posB s) :: l) := by
  have HO := Lib.hid hoff
  have HC := Lib.hid (number38 s ok bR w0 w l S h0 hoff hg hs)
  clear S hoff hg
  go_enter Tryz.func63, Tryz.ntmps63
  go_wp2_with fail
  refine (HC.out).mono ?_
  rintro e w2 ⟨x, rfl, hx, hsz, S2⟩
  clear HC
  obtain ⟨⟨z0, z1⟩, z2, z3⟩ := S2.two 0
  have HX := Lib.hid hx
  have FIN := Lib.hid (show ∀ b : Bool, b = (ok && posB s) → St w0 (w2.setCell ⟨bR, 1, none⟩ (.bool b)) (rdr bR (numR s) (ok && posB s) :: l) by
    intro b hb
    rw [← hb]
    exact S2.set21 0 rfl (.bool b) h0 HO.out)
  have HSZ := Lib.hid hsz
  clear S2 hx hsz
  have HP := Lib.hid (show posB s = true → x = valD (digs s) from fun h => HX.out (by unfold posB at h; simp at h; exact h.1))
  cases hb : (ok && numOk s) with
  | false =>
    have HB := Lib.hid (show (ok && posB s) = false by
      unfold posB; rw [← Bool.and_assoc, hb]; rfl)
    rw [hb] at z2
    go_wp2_with fail
    go_ret
    exact ⟨x, rfl, HP.out, by simp; exact HSZ.out, FIN.out _ HB.out.symm⟩
  | true =>
    have hn : numOk s = true := by simp at hb; exact hb.2
    have hok : ok = true := by simp at hb; exact hb.1
    have hxv := HX.out hn
    by_cases hp : 0 < x
    · have HB := Lib.hid (show (ok && posB s) = true by
        unfold posB; rw [hn, hok]; simp; omega)
      rw [hb] at z2
      clear hxv
      go_wp2_with fail
      go_ret
      exact ⟨x, rfl, HP.out, by simp; exact HSZ.out, FIN.out _ (by simp only [HB.out, decide_eq_true hp])⟩
    · have HB := Lib.hid (show (ok && posB s) = false by
        unfold posB; rw [hn, hok]; simp; omega)
      rw [hb] at z2
      clear hxv
      go_wp2_with fail
      go_ret
      exact ⟨x, rfl, HP.out, by simp; exact HSZ.out, FIN.out _ (by rw [HB.out]; simp [hp])⟩
end Go.Proofs.YtidgnbdlfngeaaaGreatDoor
