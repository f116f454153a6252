/-
  Rows of rows of integers; slices.IndexFunc and ContainsFunc over integers, claims and facts; table.Power.
-/
import Derived.Test.YtidgnbdlfngeaaaGreatDoorProg
import Derived.Test.YtidgnbdlfngeaaaGreatDoorE6
import Derived.Test.YtidgnbdlfngeaaaGreatDoorE4
import Derived.Test.YtidgnbdlfngeaaaGreatDoorXb
import Derived.RegionTactic
import Derived.IntWalk
import Derived.Lib.QuietBelow
namespace Go.Proofs.YtidgnbdlfngeaaaGreatDoor
open Go.RowKit Go.Shelf
set_option linter.unusedVariables false
set_option maxHeartbeats 400000

/-- of a list: the first that is so -/
def idxP {α : Type} (P : α → Bool) (l : List α) : Int := firstZ (fun i => (l[i]?).elim false P) l.length
theorem idxP_hit {α : Type} {P : α → Bool} {l : List α} {k : Nat} (hk : k < l.length) (hno : ∀ (j : Nat) x, j < k → l[j]? = some x → P x = false) (hp : P l[k] = true) : idxP P l = k :=
  firstZ_hit hk (fun j hj => by rw [List.getElem?_eq_getElem (by omega)]; exact hno j _ hj (List.getElem?_eq_getElem (by omega))) (by rw [List.getElem?_eq_getElem hk]; exact hp)
theorem idxP_none {α : Type} {P : α → Bool} {l : List α} (hno : ∀ (j : Nat) x, j < l.length → l[j]? = some x → P x = false) : idxP P l = -1 :=
  firstZ_none (fun j hj => by rw [List.getElem?_eq_getElem hj]; exact hno j _ hj (List.getElem?_eq_getElem hj))
theorem idxP_any {α : Type} {P : α → Bool} {l : List α} : (0 ≤ idxP P l) ↔ l.any P = true := by
  unfold idxP
  rw [firstZ_nonneg, anyB_iff, List.any_eq_true]
  constructor
  · rintro ⟨j, hj, h⟩
    rw [List.getElem?_eq_getElem hj] at h
    exact ⟨l[j], List.getElem_mem hj, h⟩
  · rintro ⟨x, hx, h⟩
    obtain ⟨j, hj, rfl⟩ := List.getElem_of_mem hx
    exact ⟨j, hj, by rw [List.getElem?_eq_getElem hj]; exact h⟩

set_option maxRecDepth 100000 in
theorem idxI (fn : Nat) (cap : Array Value) (eg : ∀ args w, (callFunc fn args).run Tryz.prog w = .ok (.enter fn args) w)
    (p : Nat → Prop) (ao : Option Addr) (xs : List Int) (cp : Nat) (P : Int → Bool) (w : World) (hn : xs.length ≤ maxLen) (hc : intE.Row p w ao xs)
    (hf : ∀ (i : Nat) x w1, xs[i]? = some x → Below w.heap.size w w1 → Calls Tryz.prog fn (#[.int .i64 x] ++ cap) w1 fun e w2 => e = .returned (.bool (P x)) ∧ Below w1.heap.size w1 w2) :
    Calls Tryz.prog 18 #[.slice ao xs.length cp, .func (.func fn) #[] cap] w fun e w' => e = .returned (.int .i64 (idxP P xs)) ∧ Below w.heap.size w w' := by
  have HF := Lib.hid hf
  have HC := Lib.hid hc
  have hn' : xs.length ≤ 9223372036854775807 := by unfold maxLen at hn; omega
  clear hf hc hn
  go_enter Tryz.func18, Tryz.ntmps18
  go_wp2
  go_loopw [5, 8] (fun _ i wr => ∃ k : Nat, k ≤ xs.length ∧ i = .int .i64 k ∧ (∀ (j : Nat) x, j < k → xs[j]? = some x → P x = false) ∧ Below w.heap.size w wr) (fun _ i _ => xs.length - (intOf i).toNat)
  case atStart => exact ⟨0, Nat.zero_le _, rfl, fun j x hj _ => by omega, Below.refl _ _⟩
  case round =>
    obtain ⟨k, hk, rfl, hno, hbel⟩ := hrel
    have HN := Lib.hid hno
    clear hno
    by_cases hlt : k < xs.length
    · obtain ⟨b, off, rfl, hpb, c1⟩ := (HC.out.kept hbel).int hlt
      have HX := Lib.hid (List.getElem?_eq_getElem hlt)
      go_wp2_with fail
      refine (HF.out k _ _ HX.out hbel).mono ?_
      rintro e w1 ⟨rfl, hb1⟩
      have hbel1 := Below.step hbel hb1
      cases hp : P xs[k] with
      | true =>
        have HP := Lib.hid hp; clear hp
        go_wp2
        go_ret
        exact ⟨ret_int (idxP_hit hlt HN.out HP.out).symm, hbel1⟩
      | false =>
        have HP := Lib.hid (no_step hlt HN.out hp); clear hp
        go_wp2
        go_roundw
        case rel => exact ⟨k + 1, by omega, by go_num, HP.out, hbel1⟩
        case measure => simp [intOf] <;> omega
    · obtain rfl : k = xs.length := by omega
      go_wp2
      go_ret
      exact ⟨ret_int (idxP_none HN.out).symm, hbel⟩

end Go.Proofs.YtidgnbdlfngeaaaGreatDoor
