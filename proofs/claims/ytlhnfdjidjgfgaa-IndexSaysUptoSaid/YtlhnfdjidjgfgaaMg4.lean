/-
  Plain: unification by taking out one variable after the other: one step of the run, case by case.
-/
import Derived.Test.YtlhnfdjidjgfgaaMg3
namespace Go.Proofs.Ytlhnfdjidjgfgaa
open Go.RowKit Go.Shelf
set_option linter.unusedVariables false
set_option maxHeartbeats 400000

theorem mr_zero {l : List (T × T)} {σ : Nat → T} {r : Nat × (Nat → T)} (h : mrun 0 l σ = some r) : False := by simp [mrun] at h
theorem mr_nil {n : Nat} {σ : Nat → T} {r : Nat × (Nat → T)} (h : mrun (n + 1) [] σ = some r) : r = (1, σ) := by
  rw [mrun_nil] at h; exact (Option.some.inj h).symm
section
variable {n : Nat} {l : List (T × T)} {a b : T} {σ : Nat → T} {r : Nat × (Nat → T)}
theorem mr_same (h : mrun (n + 1) (l ++ [(a, b)]) σ = some r) (hab : a = b) : mrun n l σ = some r := by
  rw [mrun_snoc, if_pos hab] at h; exact h
theorem mr_clash (h : mrun (n + 1) (l ++ [(a, b)]) σ = some r) (hab : a ≠ b) (hp : 0 < a.head ∧ 0 < b.head) (hc : a.head ≠ b.head ∨ a.kids.length ≠ b.kids.length) : r = (0, σ) := by
  rw [mrun_snoc, if_neg hab, if_pos hp, if_pos hc] at h; exact (Option.some.inj h).symm
theorem mr_dec (h : mrun (n + 1) (l ++ [(a, b)]) σ = some r) (hab : a ≠ b) (hp : 0 < a.head ∧ 0 < b.head) (h1 : a.head = b.head) (h2 : a.kids.length = b.kids.length) : mrun n (l ++ a.kids.zip b.kids) σ = some r := by
  rw [mrun_snoc, if_neg hab, if_pos hp, if_neg (by rintro (h | h); exact h h1; exact h h2)] at h; exact h
theorem mr_occ (h : mrun (n + 1) (l ++ [(a, b)]) σ = some r) (hab : a ≠ b) (hp : ¬ (0 < a.head ∧ 0 < b.head)) (hx : (pick a b).2.has (vI (pick a b).1)) : r = (0, σ) := by
  rw [mrun_snoc, if_neg hab, if_neg hp, if_pos hx] at h; exact (Option.some.inj h).symm
theorem mr_large (h : mrun (n + 1) (l ++ [(a, b)]) σ = some r) (hab : a ≠ b) (hp : ¬ (0 < a.head ∧ 0 < b.head)) (hx : ¬ (pick a b).2.has (vI (pick a b).1)) (hs : 4000 < (pick a b).2.size) : r = (3, σ) := by
  rw [mrun_snoc, if_neg hab, if_neg hp, if_neg hx, if_pos hs] at h; exact (Option.some.inj h).symm
theorem mr_elim (h : mrun (n + 1) (l ++ [(a, b)]) σ = some r) (hab : a ≠ b) (hp : ¬ (0 < a.head ∧ 0 < b.head)) (hx : ¬ (pick a b).2.has (vI (pick a b).1)) (hs : ¬ 4000 < (pick a b).2.size) :
    mrun n (l.map fun e => (e.1.inst (upd (vI (pick a b).1) (pick a b).2), e.2.inst (upd (vI (pick a b).1) (pick a b).2))) (fun y => (σ y).inst (upd (vI (pick a b).1) (pick a b).2)) = some r := by
  rw [mrun_snoc, if_neg hab, if_neg hp, if_neg hx, if_neg hs] at h; exact h
end
end Go.Proofs.Ytlhnfdjidjgfgaa
