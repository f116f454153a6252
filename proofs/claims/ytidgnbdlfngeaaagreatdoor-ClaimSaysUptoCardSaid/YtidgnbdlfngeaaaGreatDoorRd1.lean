/-
  Walks: the reader of a line: take.
-/
import Derived.Test.YtidgnbdlfngeaaaGreatDoorProg
import Derived.Test.YtidgnbdlfngeaaaGreatDoorSf
import Derived.Test.YtidgnbdlfngeaaaGreatDoorQ2
import Derived.Test.YtidgnbdlfngeaaaGreatDoorE6
import Derived.RegionTactic
import Derived.BigQuiet
import Derived.Deep.CutBlock
import Derived.Deep.DeepCutAuto
namespace Go.Proofs.YtidgnbdlfngeaaaGreatDoor
open Go.RowKit Go.Shelf
set_option linter.unusedVariables false
set_option maxHeartbeats 400000

/-- a text as a value -/
abbrev sV (s : Bs) : Value := .string ⟨s.toArray⟩
def tkR (p s : Bs) : Bs := (takeO p s).getD s
def tkB (p s : Bs) : Bool := (takeO p s).isSome
theorem tk_some {p s r : Bs} (h : takeO p s = some r) : tkR p s = r ∧ tkB p s = true := by unfold tkR tkB; rw [h]; exact ⟨rfl, rfl⟩
theorem cut50 (s p : Bs) (w : World) : Calls Tryz.prog 61 #[sV s, sV p] w fun e w' => e = .returned (.tuple #[sV (tkR p s), .bool (tkB p s)]) ∧ w' = w := by
  refine (Tryz.strings_CutPrefix ⟨s.toArray⟩ ⟨p.toArray⟩ w).mono ?_
  rintro e w' ⟨rfl, rfl⟩
  refine ⟨?_, rfl⟩
  simp only [Lib.trimPrefix, Lib.hasPrefix, sV, tkR, tkB, takeO]
  by_cases h : p.isPrefixOf s = true
  · simp only [h, if_true, Option.getD_some, Option.isSome_some]
  · simp only [h, Bool.false_eq_true, if_false, Option.getD_none, Option.isSome_none]
/-- the reader's box ahead of whatever else is known -/
def rdr (bR : Nat) (s : Bs) (ok : Bool) : Fct := .box bR #[sV s, .bool ok] 71

set_option maxRecDepth 100000 in
set_option maxHeartbeats 4000000 in
theorem take37 (p s : Bs) (ok : Bool) (bR : Nat) (w0 w : World) (l : List Fct) (S : St w0 w (rdr bR s ok :: l)) (h0 : w0.heap.size ≤ bR) (hoff : offAll bR l) :
    Calls Tryz.prog 44 #[.pointer (some ⟨bR, 0, none⟩), sV p] w fun e w' => e = .returned (.bool (tkB p s)) ∧ w.heap.size ≤ w'.heap.size ∧ St w0 w' (rdr bR (tkR p s) ok :: l) := by
  obtain ⟨⟨y0, y1⟩, y2, y3⟩ := S.two 0
  have HS := Lib.hid S
  have HO := Lib.hid hoff
  clear hoff S
  obtain ⟨tb, htb⟩ : ∃ b, b = tkB p s := ⟨_, rfl⟩
  obtain ⟨tr, htr⟩ : ∃ b, b = tkR p s := ⟨_, rfl⟩
  have HC := Lib.hid (fun W => cut50 s p W)
  have HTR := Lib.hid (fun (h : tb = false) => (show tr = s by
    rw [htr]; unfold tkR
    rw [htb] at h; unfold tkB at h
    cases hx : takeO p s with
    | none => rfl
    | some r => rw [hx] at h; cases h))
  rw [← htb, ← htr] at HC ⊢
  clear htb htr
  go_enter Tryz.func44, Tryz.ntmps44
  go_wp2_with (go_at_call 61; refine (HC.out _).mono ?_; rintro e w1 ⟨rfl, rfl⟩)
  · go_ret
    exact ⟨rfl, by simp, HS.out.set20 0 rfl _ h0 HO.out⟩
  · rename_i htb
    go_ret
    rw [HTR.out htb]
    exact ⟨rfl, Nat.le_refl _, HS.out⟩
end Go.Proofs.YtidgnbdlfngeaaaGreatDoor
