/-
  Plain: matching.
-/
import Derived.Test.YteekoclfpehnpaaT29
import Derived.Test.YteekoclfpehnpaaXa
import Derived.Test.YteekoclfpehnpaaXc
namespace Go.Proofs.Yteekoclfpehnpaa
open Go.RowKit
set_option linter.unusedVariables false

mutual
noncomputable def T.fit : T → T → (Nat → T) → Option (Nat → T)
  | .node h ks, t, bs => if h < 0 then (if (bs (-h - 1).toNat).head = 0 then some (setT bs (-h - 1).toNat t) else if bs (-h - 1).toNat = t then some bs else none)
      else if h = t.head ∧ ks.length = t.kids.length then fitL ks t.kids bs else none
noncomputable def fitL : List T → List T → (Nat → T) → Option (Nat → T)
  | [], _, bs => some bs
  | _ :: _, [], _ => none
  | k :: r, u :: us, bs => match k.fit u bs with
    | none => none
    | some b => fitL r us b
end
theorem T.fit_eq (p t : T) (bs : Nat → T) : p.fit t bs = if p.head < 0 then (if (bs (-p.head - 1).toNat).head = 0 then some (setT bs (-p.head - 1).toNat t) else if bs (-p.head - 1).toNat = t then some bs else none)
      else if p.head = t.head ∧ p.kids.length = t.kids.length then fitL p.kids t.kids bs else none := by cases p; rw [T.fit]; rfl
theorem fitL_step {ks ts : List T} {q : Nat} {bs : Nat → T} (h1 : q < ks.length) (h2 : q < ts.length) :
    fitL (ks.drop q) (ts.drop q) bs = match (gK ks q).fit (gK ts q) bs with | none => none | some b => fitL (ks.drop (q + 1)) (ts.drop (q + 1)) b := by
  rw [drop_gK h1, drop_gK h2, fitL]
theorem kid_most {t : T} {i : Nat} (h : i < t.kids.length) : (gK t.kids i).most ≤ t.most := by
  have key : ∀ (l : List T) (i : Nat), i < l.length → (gK l i).most ≤ mostL l := by
    intro l
    induction l with
    | nil => intro i hi; simp at hi
    | cons x r ih =>
      intro i hi
      cases i with
      | zero => simp only [gK, List.getD_cons_zero, mostL]; omega
      | succ i => have := ih i (by simpa using hi); simp only [gK, List.getD_cons_succ, mostL] at this ⊢; omega
  have := key t.kids i h
  rw [T.most_eq t]; split <;> omega
theorem head_most (t : T) : -t.head ≤ t.most := by rw [T.most_eq]; have := mostL_nonneg t.kids; split <;> omega
end Go.Proofs.Yteekoclfpehnpaa
