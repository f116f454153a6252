/-
  Plain: unification by taking out one variable after the other: one step of the run, case by case.
  The value of a tree in a table: plain, and where it lies.
  Walks: claim.Code.
  Facts that stay while an iterator goes on: rows that a body gathers.
-/
import Derived.Test.YtlhnfdjidjgfgaaMg3
import Derived.Test.YtlhnfdjidjgfgaaM2
import Derived.Test.YtlhnfdjidjgfgaaPa4
import Derived.Test.YtlhnfdjidjgfgaaXc
import Derived.Test.YtlhnfdjidjgfgaaProg
import Derived.Test.YtlhnfdjidjgfgaaXd
import Derived.Test.YtlhnfdjidjgfgaaR1
import Derived.RegionTactic
import Derived.Lib.QuietBelow
import Derived.BigQuiet
import Derived.IntWalk
import Derived.Lib.QuietBelowIn
import Derived.RangeFuncNested
import Derived.Test.YtlhnfdjidjgfgaaSt3
namespace Go.Proofs.Ytlhnfdjidjgfgaa
open Go.RowKit Go.Shelf
set_option linter.unusedVariables false
set_option maxHeartbeats 400000

theorem mr_zero {l : List (T × T)} {σ : Nat → T} {r : Nat × (Nat → T)} (h : mrun 0 l σ = some r) : False := by simp [mrun] at h
theorem mr_nil {n : Nat} {σ : Nat → T} {r : Nat × (Nat → T)} (h : mrun (n + 1) [] σ = some r) : r = (1, σ) := by
  rw [mrun_nil] at h; exact (Option.some.inj h).symm
section
variable {n : Nat} {l : List (T × T)} {a b : T} {σ : Nat → T} {r : Nat × (Nat → T)}
theorem mr_same (h : mrun (n + 1) (l ++ [(a, b)]) σ = some r) (hab : a = b) : mrun n l σ = some r := by
  rw [mrun_snoc, if_pos hab] at h; exact h
theorem mr_clash (h : mrun (n + 1) (l ++ [(a, b)]) σ = some r) (hab : a ≠ b) (hp : 0 < a.head ∧ 0 < b.head) (hc : a.head ≠ b.head ∨ a.kids.length ≠ b.kids.length) : r = (0, σ) := by
  rw [mrun_snoc, if_neg hab, if_pos hp, if_pos hc] at h; exact (Option.some.inj h).symm
theorem mr_dec (h : mrun (n + 1) (l ++ [(a, b)]) σ = some r) (hab : a ≠ b) (hp : 0 < a.head ∧ 0 < b.head) (h1 : a.head = b.head) (h2 : a.kids.length = b.kids.length) : mrun n (l ++ a.kids.zip b.kids) σ = some r := by
  rw [mrun_snoc, if_neg hab, if_pos hp, if_neg (by rintro (h | h); exact h h1; exact h h2)] at h; exact h
theorem mr_occ (h : mrun (n + 1) (l ++ [(a, b)]) σ = some r) (hab : a ≠ b) (hp : ¬ (0 < a.head ∧ 0 < b.head)) (hx : (pick a b).2.has (vI (pick a b).1)) : r = (0, σ) := by
  rw [mrun_snoc, if_neg hab, if_neg hp, if_pos hx] at h; exact (Option.some.inj h).symm
theorem mr_elim (h : mrun (n + 1) (l ++ [(a, b)]) σ = some r) (hab : a ≠ b) (hp : ¬ (0 < a.head ∧ 0 < b.head)) (hx : ¬ (pick a b).2.has (vI (pick a b).1)) (hs : ¬ 4000 < (pick a b).2.size) :
    mrun n (l.map fun e => (e.1.inst (upd (vI (pick a b).1) (pick a b).2), e.2.inst (upd (vI (pick a b).1) (pick a b).2))) (fun y => (σ y).inst (upd (vI (pick a b).1) (pick a b).2)) = some r := by
  rw [mrun_snoc, if_neg hab, if_neg hp, if_neg hx, if_neg hs] at h; exact h
end
end Go.Proofs.Ytlhnfdjidjgfgaa
namespace Go.Proofs.Ytlhnfdjidjgfgaa
open Go.RowKit Go.Shelf
set_option linter.unusedVariables false
set_option maxHeartbeats 400000

end Go.Proofs.Ytlhnfdjidjgfgaa
namespace Go.Proofs.Ytlhnfdjidjgfgaa
open Go.RowKit Go.Shelf
set_option linter.unusedVariables false
set_option maxHeartbeats 400000
attribute [local go_sem] Oper.semAt_some

theorem KeepsFrom.ofBelow {B : Nat} {W W' : World} (h : Below W.heap.size W W') : KeepsFrom B W W' := ⟨h.size, fun k o _ hk _ => (h.block k (Array.getElem?_eq_some_iff.1 hk).1).trans hk⟩
def Fct.marks (B : Nat) (ds : List Nat) : Fct :=
  ⟨fun b => b ∈ ds, fun w => Marks B w ds, fun w w' h hm => ⟨hm.1, fun D hD => ⟨(hm.2 D hD).1, (h D hD (Array.getElem?_eq_some_iff.1 (hm.2 D hD).2).1).trans (hm.2 D hD).2⟩⟩⟩
theorem St.marks {w0 w : World} {l : List Fct} (S : St w0 w l) (i : Nat) {B : Nat} {ds : List Nat} (h : Fct.at l i = Fct.marks B ds := by rfl) : Marks B w ds := by
  have := S.2 i
  rw [h] at this; exact this
end Go.Proofs.Ytlhnfdjidjgfgaa
namespace Go.Proofs.Ytlhnfdjidjgfgaa
open Go.RowKit Go.Shelf
set_option linter.unusedVariables false

/-- a fact that stays when nothing turns but what is made anew and one block from B on that holds no cells -/
def GoodF (B : Nat) (f : Fct) : Prop := ∀ W W' row, f.holds W → W.grownBy W' row → (∀ r, row = some r → B ≤ r ∧ ∃ o : Obj, W.heap[r]? = some o ∧ o.isCells = false) → f.holds W'
theorem GoodF.box (B b : Nat) (cs : Array Value) (T : TypeId) : GoodF B (.box b cs T) := fun W W' row hs hg hr => by
  have hs' : W.heap[b]? = some (.cells cs T (0, 0)) := hs
  refine (Fct.box b cs T).stable W W' (fun c hc hlt => ?_) hs
  have hc' : c = b := hc
  subst hc'
  refine hg.block c hlt (fun e => ?_)
  obtain ⟨_, o, ho, hn⟩ := hr c e.symm
  rw [hs'] at ho
  obtain rfl := Option.some.inj ho
  cases hn
theorem GoodF.below {B : Nat} {f : Fct} (h : ∀ b, f.foot b → b < B) : GoodF B f := fun W W' row hs hg hr =>
  f.stable W W' (fun c hc hlt => hg.block c hlt (fun e => by have := (hr c e.symm).1; have := h c hc; omega)) hs
theorem ownFrom_St {β : Type} {w : World} {B : Nat} (hB : w.heap.size ≤ B) (hsz : ∀ W : World, True) (R : β → Value → Prop) (l : β → Value → List Fct) (h : ∀ s ov, R s ov → ∀ f ∈ l s ov, GoodF B f) (H : Nat) :
    OwnFrom B (fun s V => ∃ ov, St w V (l s ov) ∧ R s ov ∧ H ≤ V.heap.size) := fun s X Y row hs hg hr => by
  obtain ⟨ov, S, hR, hH⟩ := hs
  refine ⟨ov, ⟨S.bel.grown hg (S.size) (fun c hc => by have := (hr c hc).1; omega), at_mem fun f hf => h s ov hR f hf X Y row (mem_at S.2 f hf) hg hr⟩, hR, Nat.le_trans hH hg.size⟩
end Go.Proofs.Ytlhnfdjidjgfgaa
namespace Go.Proofs.Ytlhnfdjidjgfgaa
open Go.RowKit Go.Shelf
set_option linter.unusedVariables false
section
variable {α : Type}
end
end Go.Proofs.Ytlhnfdjidjgfgaa
