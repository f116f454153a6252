/-
  A region that draws its order and only reads, within a round of a range over a function: walked once. No program is named here.
-/
import Derived.Lib.QuietBelowIn
import Derived.RangeFuncNested
namespace Go.Proofs.YtidgnbdlfngeaaaGreatDoor
open Go.RowKit Go.Sort
set_option linter.unusedVariables false

section
variable {F : Fence} {n : Nat} {P : Program} {ops : Array Oper} {md : Region.Mode}

/-- no operation lays a deferred call -/
def noDefer (ops : Array Oper) : Bool := ops.all fun o => match o.op with | .defer _ => false | _ => true
theorem noDefer.out (h : noDefer ops = true) {i : Nat} {o : Oper} (ho : ops[i]? = some o) : ∀ c, o.op ≠ .defer c := fun c e => by
  have h1 := Array.all_eq_true'.1 h o (Array.mem_of_getElem? ho)
  rw [e] at h1
  cases h1
theorem wpOpIn_round {l i : Nat} {K K' : Act → World → Prop} {Q : Exit → Act → World → Prop} {a : Act} {w : World} (hro : F.round = none) (hd : noDefer ops = true) (hK : ∀ a w, K a w → K' a w) (h : wpOpIn F n P ops Q i K a w) :
    wpOpIn (F.inRound l) n P ops Q i K' a w := by
  replace h := wpOpIn_mono hK h
  unfold wpOpIn at h ⊢
  cases ho : ops[i]? with
  | none => rw [ho] at h; exact h
  | some o =>
    rw [ho] at h
    dsimp only at h ⊢
    by_cases hw : Region.wanted o (yielded ops a.tmps) = true
    · rw [if_pos hw] at h ⊢
      refine ⟨h.1, ?_⟩
      have h2 := h.2
      rw [Oper.semAt_eq _ _ _ (noDefer.out hd ho)] at h2 ⊢
      exact h2
    · rw [if_neg hw] at h ⊢
      exact h
theorem wpAnyIn_round {l : Nat} {Q : Exit → Act → World → Prop} (hro : F.round = none) (hd : noDefer ops = true) : ∀ (fuel : Nat) (listed : Array Bool) (a : Act) (w : World), wpAnyIn F n P md ops Q fuel listed a w → wpAnyIn (F.inRound l) n P md ops Q fuel listed a w
  | 0, _, _, _, h => h
  | fuel + 1, listed, a, w, h => ⟨h.1, fun i hi => wpOpIn_round hro hd (fun a w => wpAnyIn_round hro hd fuel _ a w) (h.2 i hi)⟩
/-- the walk of the text's order serves, in a round -/
theorem wpIn_region_round {l id : Nat} {Q : Exit → Act → World → Prop} {a : Act} {w : World} {os : List Oper} (hro : F.round = none) (hd : noDefer os.toArray = true) (hm : P.follows .mixedOrders = true) (hB : Region.lexB .any os.toArray = true)
    (h : wpQuietIn F n P os.toArray (fun w' => ∃ p : Regrown, w' = grow (redrawn w p.d) p.os) (fun a' => ∀ w', (∃ p : Regrown, w' = grow (redrawn w p.d) p.os) → Q .normal a' w') os a) : (Code.region id os.toArray true).wpIn (F.inRound l) n P Q a w := by
  have hB2 := hB
  simp only [Region.lexB, Bool.and_eq_true] at hB2
  have hl := wpAnyQIn_lex (F := F) (n := n) (md := .any) hB2.1 os 0 (Array.replicate os.toArray.size false) a (by simp) (by simpa using hB2.2) h
  refine wpIn_region_any hm (wpAnyIn_round hro hd _ _ _ _ ?_)
  exact wpAnyIn_of_quiet (C := fun w1 => ∃ p : Regrown, w1 = grow (redrawn w p.d) p.os) (Q := fun a1 => ∀ w1, (∃ p : Regrown, w1 = grow (redrawn w p.d) p.os) → Q .normal a1 w1) hro (fun _ w1 hw1 h1 => h1 w1 hw1) _ _ _ _ ⟨⟨w.drawn + 1, #[]⟩, by rw [grow_empty]; rfl⟩ (by simpa using hl)
end
end Go.Proofs.YtidgnbdlfngeaaaGreatDoor
