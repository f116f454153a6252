/-
  A region that draws its order, walked in one order: a condition on the world holds behind each operation but one, the store at the end, which waits for all that rely on it; no program is named here.
-/
import Derived.OrdersHeld
import Derived.RegionTactic
import Derived.WalkKit
namespace Go.Proofs.YtidgnbdlfngeaaaGreatDoor
open Go.RowKit
set_option linter.unusedVariables false

section
variable {P : Program} {ops : Array Oper} {Q : Exit → Act → World → Prop} {md : Region.Mode} {S : World → Prop} {st : Nat}

/-- does number s wait for number i, by a row of edges? -/
def reachB (md : Region.Mode) (ops : Array Oper) : Nat → Nat → Nat → Bool
  | 0, _, _ => false
  | n + 1, s, i => ((ops[s]?).map fun o => o.after.any fun e => Region.binds md e && (e.on == i || reachB md ops n e.on i)).getD false
/-- what is waited for has been carried out -/
def ClosedL (md : Region.Mode) (ops : Array Oper) (listed : Array Bool) : Prop := ∀ j o, ops[j]? = some o → listed.getD j false = true → ∀ e ∈ o.after, Region.binds md e = true → listed.getD e.on false = true
theorem reachB.listed {listed : Array Bool} (hc : ClosedL md ops listed) : ∀ {n s i : Nat}, reachB md ops n s i = true → (∀ o, ops[s]? = some o → ∀ e ∈ o.after, Region.binds md e = true → listed.getD e.on false = true) → listed.getD i false = true
  | 0, _, _, h, _ => by simp [reachB] at h
  | n + 1, s, i, h, hs => by
    rw [reachB] at h
    cases ho : ops[s]? with
    | none => rw [ho] at h; simp at h
    | some o =>
      rw [ho] at h
      simp only [Option.map_some, Option.getD_some] at h
      obtain ⟨k, hk, h3⟩ := Array.any_eq_true.1 h
      rw [Bool.and_eq_true, Bool.or_eq_true] at h3
      have hl := hs o ho o.after[k] (Array.getElem_mem hk) h3.1
      rcases h3.2 with h4 | h4
      · rw [← show o.after[k].on = i by simpa using h4]; exact hl
      · exact reachB.listed hc h4 (fun o' ho' e he hb => hc _ o' ho' hl e he hb)
def waitsB (md : Region.Mode) (ops : Array Oper) (st i : Nat) : Bool := st != i && reachB md ops ops.size st i
/-- a Bool for ClosedL -/
def closedB (md : Region.Mode) (ops : Array Oper) (listed : Array Bool) : Bool := (List.range ops.size).all fun j => !listed.getD j false || ((ops[j]?).map fun o => o.after.all fun e => !Region.binds md e || listed.getD e.on false).getD true
theorem closedB.out {listed : Array Bool} (h : closedB md ops listed = true) : ClosedL md ops listed := fun j o ho hl e he hb => by
  have hj : j < ops.size := (Array.getElem?_eq_some_iff.1 ho).1
  have h1 := List.all_eq_true.1 h j (by simpa using hj)
  rw [hl, ho] at h1
  simp only [Option.map_some, Option.getD_some, Bool.not_true, Bool.false_or] at h1
  have h2 := Array.all_eq_true'.1 h1 e he
  rw [hb] at h2
  simpa using h2
theorem ClosedL.set {listed : Array Bool} (h : ClosedL md ops listed) {j : Nat} (hj : j ∈ Region.ready md ops listed) : ClosedL md ops (listed.setIfInBounds j true) := fun k o ho hl e he hb => by
  by_cases hkj : j = k
  · subst hkj
    obtain ⟨_, oj, hoj, hall⟩ := mem_ready.1 hj
    rw [ho] at hoj
    obtain rfl := Option.some.inj hoj
    exact getD_set_true (hall e he hb)
  · rw [getD_set_ne false hkj] at hl
    exact getD_set_true (h k o ho hl e he hb)
end
end Go.Proofs.YtidgnbdlfngeaaaGreatDoor
