/-
  Plain: the law TreePlaces.
-/
import Derived.Test.YtcckgfgobakphaaP4
namespace Go.Proofs.Ytcckgfgobakphaa
open Go.RowKit Go.Shelf
set_option linter.unusedVariables false

theorem atF_ok {t : T} {p : List Int} (h : (atF t p).2.1 = 0) : (treeF t).1 = 0 ∧ (t.get p 0).2 < 0 ∧ atF t p = ((t.get p 0).1, (0, 0)) := by
  rw [atF] at h ⊢
  by_cases h1 : (treeF t).1 ≠ 0
  · rw [if_pos h1] at h; exact absurd h h1
  · rw [if_neg h1] at h ⊢
    by_cases h2 : 0 ≤ (t.get p 0).2
    · rw [if_pos h2] at h; simp at h
    · rw [if_neg h2]; exact ⟨by simpa using h1, by omega, rfl⟩
theorem atF_err {t : T} {p : List Int} (h : (atF t p).2.1 ≠ 0) : (atF t p).1 = zeroT := by
  rw [atF] at h ⊢
  by_cases h1 : (treeF t).1 ≠ 0
  · rw [if_pos h1]
  · rw [if_neg h1] at h ⊢
    by_cases h2 : 0 ≤ (t.get p 0).2
    · rw [if_pos h2]
    · rw [if_neg h2] at h; simp at h
theorem putF_ok {t s : T} {p : List Int} (h : (putF t p s).2.1 = 0) : (treeF t).1 = 0 ∧ (treeF s).1 = 0 ∧ (t.get p 0).2 < 0 ∧ (treeF (T.withAt p t s)).1 = 0 ∧ putF t p s = (T.withAt p t s, (0, 0)) := by
  rw [putF] at h ⊢
  by_cases h1 : (treeF t).1 ≠ 0
  · rw [if_pos h1] at h; exact absurd h h1
  · rw [if_neg h1] at h ⊢
    by_cases h2 : (treeF s).1 ≠ 0
    · rw [if_pos h2] at h; exact absurd h h2
    · rw [if_neg h2] at h ⊢
      by_cases h3 : 0 ≤ (t.get p 0).2
      · rw [if_pos h3] at h; simp at h
      · rw [if_neg h3] at h ⊢
        by_cases h4 : (treeF (T.withAt p t s)).1 ≠ 0
        · rw [if_pos h4] at h; simp at h
        · rw [if_neg h4]; exact ⟨by simpa using h1, by simpa using h2, by omega, by simpa using h4, rfl⟩
theorem put_same {t : T} {p : List Int} (h : (atF t p).2.1 = 0) : putF t p (atF t p).1 = (t, (0, 0)) := by
  obtain ⟨h1, h2, h3⟩ := atF_ok h
  rw [h3, putF, if_neg (by simp [h1]), if_neg (by simp [get_ok h1 h2]), if_neg (by omega), withAt_same p t 0 (by omega) h2, if_neg (by simp [h1])]
theorem at_put {t s : T} {p : List Int} (h : (putF t p s).2.1 = 0) : atF (putF t p s).1 p = (s, (0, 0)) := by
  obtain ⟨_, _, h3, h4, h5⟩ := putF_ok h
  rw [h5, atF, if_neg (by simp [h4]), get_withAt p t s 0 0 (by omega) (by omega) h3, if_neg (by show ¬ (0 : Int) ≤ -1; decide)]
theorem at_append {t : T} {p m : List Int} (h : (atF t p).2.1 = 0) : (atF t (p ++ m)).1 = (atF (atF t p).1 m).1 ∧ ((atF t (p ++ m)).2.1 = 0 ↔ (atF (atF t p).1 m).2.1 = 0) := by
  obtain ⟨h1, h2, h3⟩ := atF_ok h
  have hk := get_ok h1 h2
  rw [h3]
  show (atF t (p ++ m)).1 = (atF (t.get p 0).1 m).1 ∧ _
  generalize hA : (t.get p 0).1 = A at hk ⊢
  have ha := get_append p m t 0 (by omega) h2
  rw [hA] at ha
  have hf := get_found m A (0 + p.length) 0 (by omega) (by omega)
  show (atF t (p ++ m)).1 = (atF A m).1 ∧ ((atF t (p ++ m)).2.1 = 0 ↔ (atF A m).2.1 = 0)
  have q1 : atF t (p ++ m) = if 0 ≤ (A.get m (0 + p.length)).2 then (zeroT, (6, (A.get m (0 + p.length)).2)) else ((A.get m (0 + p.length)).1, (0, 0)) := by rw [atF, if_neg (by simp [h1]), ha]
  have q2 : atF A m = if 0 ≤ (A.get m 0).2 then (zeroT, (6, (A.get m 0).2)) else ((A.get m 0).1, (0, 0)) := by rw [atF, if_neg (by simp [hk])]
  rw [q1, q2]
  by_cases hg : (A.get m 0).2 < 0
  · rw [if_neg (by have := hf.2.2 hg; omega), if_neg (by omega)]
    exact ⟨hf.1, by simp⟩
  · have hg2 : ¬ (A.get m (0 + p.length)).2 < 0 := fun h => hg (hf.2.1 h)
    rw [if_pos (by omega), if_pos (by omega)]; simp
end Go.Proofs.Ytcckgfgobakphaa
