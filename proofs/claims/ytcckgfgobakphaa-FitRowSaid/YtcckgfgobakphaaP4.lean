/-
  Plain: places in trees.
-/
import Derived.Test.YtcckgfgobakphaaP2
import Derived.Test.YtcckgfgobakphaaT32
namespace Go.Proofs.Ytcckgfgobakphaa
open Go.RowKit Go.Shelf
set_option linter.unusedVariables false

theorem T.get_nil (t : T) (i : Int) : t.get [] i = (t, -1) := by rw [T.get]
theorem T.get_cons (t : T) (z : Int) (ps : List Int) (i : Int) : t.get (z :: ps) i = if z < 1 ∨ (t.kids.length : Int) < z then (zeroT, i) else (gK t.kids (z - 1).toNat).get ps (i + 1) := by rw [T.get]
theorem get_found : ∀ (p : List Int) (t : T) (i j : Int), 0 ≤ i → 0 ≤ j → (t.get p i).1 = (t.get p j).1 ∧ ((t.get p i).2 < 0 ↔ (t.get p j).2 < 0)
  | [], t, i, j, _, _ => by rw [T.get_nil, T.get_nil]; simp
  | z :: ps, t, i, j, hi, hj => by
    rw [T.get_cons, T.get_cons]
    by_cases h : z < 1 ∨ (t.kids.length : Int) < z
    · rw [if_pos h, if_pos h]; simp; omega
    · rw [if_neg h, if_neg h]; exact get_found ps _ _ _ (by omega) (by omega)
theorem get_zero : ∀ (p : List Int) (t : T) (i : Int), 0 ≤ i → 0 ≤ (t.get p i).2 → (t.get p i).1 = zeroT
  | [], t, i, _, h => by rw [T.get_nil] at h; simp at h
  | z :: ps, t, i, hi, h => by
    rw [T.get_cons] at h ⊢
    by_cases hz : z < 1 ∨ (t.kids.length : Int) < z
    · rw [if_pos hz]
    · rw [if_neg hz] at h ⊢; exact get_zero ps _ _ (by omega) h
theorem get_append : ∀ (p q : List Int) (t : T) (i : Int), 0 ≤ i → (t.get p i).2 < 0 → t.get (p ++ q) i = (t.get p i).1.get q (i + p.length)
  | [], q, t, i, _, _ => by rw [T.get_nil]; simp
  | z :: ps, q, t, i, hi, h => by
    rw [List.cons_append, T.get_cons] at *
    rw [T.get_cons]
    by_cases hz : z < 1 ∨ (t.kids.length : Int) < z
    · rw [if_pos hz] at h; simp only at h; omega
    · rw [if_neg hz] at h
      rw [if_neg hz, if_neg hz, get_append ps q _ (i + 1) (by omega) h]
      congr 1; simp only [List.length_cons]; omega
theorem withAt_cons (p : Int) (ps : List Int) (t s : T) : T.withAt (p :: ps) t s = .node t.head (t.kids.mapIdx fun i k => if (i : Int) + 1 = p then T.withAt ps k s else k) := by rw [T.withAt]
theorem withAt_same : ∀ (p : List Int) (t : T) (i : Int), 0 ≤ i → (t.get p i).2 < 0 → T.withAt p t (t.get p i).1 = t
  | [], t, i, _, _ => by rw [T.get_nil]; rfl
  | z :: ps, t, i, hi, h => by
    rw [T.get_cons] at h ⊢
    by_cases hz : z < 1 ∨ (t.kids.length : Int) < z
    · rw [if_pos hz] at h; simp only at h; omega
    · rw [if_neg hz] at h ⊢
      have ih := withAt_same ps (gK t.kids (z - 1).toNat) (i + 1) (by omega) h
      generalize ((gK t.kids (z - 1).toNat).get ps (i + 1)).1 = A at ih ⊢
      rw [withAt_cons]
      conv => rhs; rw [← T.node_eta t]
      congr 1
      apply List.ext_getElem (by simp)
      intro j h1 h2
      simp only [List.getElem_mapIdx]
      by_cases e : (j : Int) + 1 = z
      · rw [if_pos e]
        have ej : (z - 1).toNat = j := by omega
        rw [ej, gK_get h2] at ih
        exact ih
      · rw [if_neg e]
theorem get_withAt : ∀ (p : List Int) (t s : T) (i j : Int), 0 ≤ i → 0 ≤ j → (t.get p i).2 < 0 → (T.withAt p t s).get p j = (s, -1)
  | [], t, s, i, j, _, _, _ => by rw [T.get_nil]; rfl
  | z :: ps, t, s, i, j, hi, hj, h => by
    rw [T.get_cons] at h
    by_cases hz : z < 1 ∨ (t.kids.length : Int) < z
    · rw [if_pos hz] at h; simp only at h; omega
    · rw [if_neg hz] at h
      rw [T.get_cons, withAt_cons]
      show (if z < 1 ∨ ((t.kids.mapIdx _).length : Int) < z then _ else (gK (t.kids.mapIdx _) _).get ps _) = _
      rw [if_neg (by simpa using hz), gK_mapIdx _ _ (by omega), if_pos (by omega)]
      exact get_withAt ps _ s (i + 1) _ (by omega) (by omega) h
theorem get_pre : ∀ (p : List Int) (t : T) (i : Int), 0 ≤ i → (t.get p i).2 < 0 → ∀ x ∈ (t.get p i).1.pre, x ∈ t.pre
  | [], t, i, _, _ => by rw [T.get_nil]; exact fun x h => h
  | z :: ps, t, i, hi, h => by
    rw [T.get_cons] at h ⊢
    by_cases hz : z < 1 ∨ (t.kids.length : Int) < z
    · rw [if_pos hz] at h; simp only at h; omega
    · rw [if_neg hz] at h ⊢
      intro x hx
      have := get_pre ps _ (i + 1) (by omega) h x hx
      rw [T.pre_eq]; exact List.mem_cons_of_mem _ (kid_pre_mem (by omega) this)
theorem kid_deepL : ∀ {l : List T} {i : Nat}, i < l.length → (gK l i).deep ≤ deepL l
  | [], i, h => by simp at h
  | x :: r, 0, _ => by simp only [gK, List.getD_cons_zero, deepL]; omega
  | x :: r, i + 1, h => by have := kid_deepL (l := r) (i := i) (by simpa using h); simp only [gK, List.getD_cons_succ, deepL] at this ⊢; omega
theorem get_deep : ∀ (p : List Int) (t : T) (i : Int), 0 ≤ i → (t.get p i).2 < 0 → (t.get p i).1.deep ≤ t.deep
  | [], t, i, _, _ => by rw [T.get_nil]; exact Nat.le_refl _
  | z :: ps, t, i, hi, h => by
    rw [T.get_cons] at h ⊢
    by_cases hz : z < 1 ∨ (t.kids.length : Int) < z
    · rw [if_pos hz] at h; simp only at h; omega
    · rw [if_neg hz] at h ⊢
      have := get_deep ps _ (i + 1) (by omega) h
      have h2 : (gK t.kids (z - 1).toNat).deep ≤ t.deep := by rw [T.deep_eq t]; have := kid_deepL (l := t.kids) (i := (z - 1).toNat) (by omega); omega
      omega
theorem get_ok {t : T} {p : List Int} (h : (treeF t).1 = 0) (hg : (t.get p 0).2 < 0) : (treeF (t.get p 0).1).1 = 0 := by
  have h1 := treeF_ok.1 h
  exact treeF_ok.2 ⟨Nat.le_trans (get_size p t 0) h1.1, Nat.le_trans (get_deep p t 0 (by omega) hg) h1.2.1, fun x hx => h1.2.2 x (get_pre p t 0 (by omega) hg x hx)⟩
end Go.Proofs.Ytcckgfgobakphaa
