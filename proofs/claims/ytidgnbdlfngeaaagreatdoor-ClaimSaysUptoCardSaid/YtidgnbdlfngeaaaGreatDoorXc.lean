/-
  Walks: the document's Times.
  Walks: the document's Most.
  Plain: the nodes of a tree in preorder; what is wrong with them, their greatest variable, how often a variable stands there.
-/
import Derived.Test.YtidgnbdlfngeaaaGreatDoorProg
import Derived.Test.YtidgnbdlfngeaaaGreatDoorBase
import Derived.Test.YtidgnbdlfngeaaaGreatDoorXa
import Derived.Test.YtidgnbdlfngeaaaGreatDoorXb
namespace Go.Proofs.YtidgnbdlfngeaaaGreatDoor
open Go.RowKit Go.Shelf
set_option linter.unusedVariables false

mutual
def T.times (x : Int) : T → Nat
  | .node h ks => (if h = x then 1 else 0) + timesL x ks
def timesL (x : Int) : List T → Nat
  | [] => 0
  | t :: r => t.times x + timesL x r
end
theorem timesL_append (x : Int) : ∀ (a b : List T), timesL x (a ++ b) = timesL x a + timesL x b
  | [], b => by simp [timesL]
  | t :: r, b => by simp [timesL, timesL_append x r b, Nat.add_assoc]
end Go.Proofs.YtidgnbdlfngeaaaGreatDoor
namespace Go.Proofs.YtidgnbdlfngeaaaGreatDoor
open Go.RowKit Go.Shelf
set_option linter.unusedVariables false

end Go.Proofs.YtidgnbdlfngeaaaGreatDoor
namespace Go.Proofs.YtidgnbdlfngeaaaGreatDoor
open Go.RowKit Go.Shelf
set_option linter.unusedVariables false

mutual
def T.pre : T → List T
  | .node h ks => .node h ks :: preL ks
def preL : List T → List T
  | [] => []
  | t :: r => t.pre ++ preL r
end
theorem T.pre_eq (t : T) : t.pre = t :: preL t.kids := by cases t; rw [T.pre]; rfl
theorem preL_append : ∀ (a b : List T), preL (a ++ b) = preL a ++ preL b
  | [], b => by simp [preL]
  | t :: r, b => by simp [preL, preL_append r b]
theorem preL_take {l : List T} {i : Nat} (h : i < l.length) : preL (l.take (i + 1)) = preL (l.take i) ++ (gK l i).pre := by
  rw [take_gK h, preL_append]; simp [preL]
theorem preL_take_prefix (l : List T) (i : Nat) : preL (l.take i) <+: preL l := by
  refine ⟨preL (l.drop i), ?_⟩
  rw [← preL_append, List.take_append_drop]
theorem pre_length (t : T) : t.pre.length = t.size := by
  induction t using T.ind with
  | h t ih =>
    rw [T.pre_eq, T.size_eq]
    have key : ∀ l : List T, (∀ i, i < l.length → (gK l i).pre.length = (gK l i).size) → (preL l).length = sizeL l := by
      intro l
      induction l with
      | nil => intro _; simp [preL, sizeL]
      | cons x r ihr =>
        intro h
        have h0 := h 0 (by simp)
        simp [gK] at h0
        rw [preL, sizeL, List.length_append, h0, ihr (fun i hi => by have := h (i + 1) (by simpa using hi); simpa [gK] using this)]
    have := key t.kids ih
    simp only [List.length_cons]; omega

/-- the first bad one in a row of nodes, and its number -/
def scan : List T → Int → Int × Int
  | [], _ => (0, 0)
  | x :: r, a => if badHead x.head then (3, a) else if badKids x.head x.kids.length then (9, a) else scan r (a + 1)
def okN (x : T) : Prop := ¬ badHead x.head ∧ ¬ badKids x.head x.kids.length
theorem scan_append_ok {l r : List T} {a : Int} (h : ∀ x ∈ l, okN x) : scan (l ++ r) a = scan r (a + l.length) := by
  induction l generalizing a with
  | nil => simp
  | cons x l ih =>
    have hx := h x (by simp)
    rw [List.cons_append, scan, if_neg hx.1, if_neg hx.2, ih (fun y hy => h y (by simp [hy]))]
    congr 1; simp only [List.length_cons]; omega
theorem scan_bad {l r : List T} {x : T} {a : Int} (h : ∀ x ∈ l, okN x) (hx : ¬ okN x) : scan (l ++ x :: r) a = if badHead x.head then (3, a + l.length) else (9, a + l.length) := by
  rw [scan_append_ok h, scan]
  by_cases hb : badHead x.head
  · rw [if_pos hb, if_pos hb]
  · rw [if_neg hb, if_neg hb, if_pos (by by_cases hk : badKids x.head x.kids.length; exact hk; exact absurd ⟨hb, hk⟩ hx)]
theorem scan_ok {l : List T} {a : Int} (h : ∀ x ∈ l, okN x) : scan l a = (0, 0) := by
  have := scan_append_ok (r := []) (a := a) h
  rw [List.append_nil] at this; rw [this]; rfl
theorem scan_cases (l : List T) : (∀ x ∈ l, okN x) ∨ ∃ p x r, l = p ++ x :: r ∧ (∀ y ∈ p, okN y) ∧ ¬ okN x := by
  induction l with
  | nil => exact .inl (by simp)
  | cons x l ih =>
    by_cases hx : okN x
    · rcases ih with h | ⟨p, y, r, rfl, h1, h2⟩
      · exact .inl (by simpa using ⟨hx, h⟩)
      · exact .inr ⟨x :: p, y, r, rfl, by simpa using ⟨hx, h1⟩, h2⟩
    · exact .inr ⟨[], x, l, rfl, by simp, hx⟩
theorem scan_zero {l : List T} {a : Int} : (scan l a).1 = 0 ↔ ∀ x ∈ l, okN x := by
  constructor
  · intro h
    rcases scan_cases l with h1 | ⟨p, x, r, rfl, h1, h2⟩
    · exact h1
    · rw [scan_bad h1 h2] at h
      split at h <;> simp at h
  · intro h; rw [scan_ok h]

theorem nodes_scan (t : T) : ∀ a : Int, (t.nodes a).1 = scan t.pre a ∧ ((∀ x ∈ t.pre, okN x) → (t.nodes a).2 = a + t.pre.length) := by
  induction t using T.ind with
  | h t ih =>
    intro a
    have key : ∀ l : List T, (∀ i, i < l.length → ∀ a : Int, ((gK l i).nodes a).1 = scan (gK l i).pre a ∧ ((∀ x ∈ (gK l i).pre, okN x) → ((gK l i).nodes a).2 = a + (gK l i).pre.length)) →
        ∀ a : Int, (nodesL l a).1 = scan (preL l) a ∧ ((∀ x ∈ preL l, okN x) → (nodesL l a).2 = a + (preL l).length) := by
      intro l
      induction l with
      | nil => intro _ a; simp [nodesL, preL, scan]
      | cons x r ihr =>
        intro h a
        have h0 := h 0 (by simp) a
        simp only [gK, List.getD_cons_zero] at h0
        have hr := ihr (fun i hi => by have := h (i + 1) (by simpa using hi); simpa only [gK, List.getD_cons_succ] using this)
        rw [nodesL, preL]
        by_cases hx : ∀ y ∈ x.pre, okN y
        · have e := h0.2 hx
          have e0 : (x.nodes a).1 = (0, 0) := by rw [h0.1, scan_ok hx]
          simp only [e0, e, ne_eq, not_true_eq_false, if_false]
          rw [scan_append_ok hx]
          refine ⟨(hr _).1, fun ha => ?_⟩
          rw [(hr _).2 (fun y hy => ha y (by simp [hy]))]
          simp only [List.length_append]; omega
        · have hne : (x.nodes a).1.1 ≠ 0 := by rw [h0.1]; intro h; exact hx (scan_zero.1 h)
          rw [if_pos hne]
          refine ⟨?_, fun ha => absurd (fun y hy => ha y (by simp [hy])) hx⟩
          rw [h0.1]
          rcases scan_cases x.pre with h1 | ⟨p, y, q, e, h1, h2⟩
          · exact absurd h1 hx
          · rw [e, List.append_assoc, List.cons_append, scan_bad h1 h2, scan_bad h1 h2]
    have := key t.kids ih (a + 1)
    rw [T.nodes_eq, T.pre_eq, scan]
    by_cases hb : badHead t.head
    · rw [if_pos hb, if_pos hb]; exact ⟨rfl, fun h => absurd hb (h t (by simp)).1⟩
    · rw [if_neg hb, if_neg hb]
      by_cases hk : badKids t.head t.kids.length
      · rw [if_pos hk, if_pos hk]; exact ⟨rfl, fun h => absurd hk (h t (by simp)).2⟩
      · rw [if_neg hk, if_neg hk]
        refine ⟨this.1, fun h => ?_⟩
        rw [this.2 (fun y hy => h y (by simp [hy]))]
        simp only [List.length_cons]; omega
theorem treeF_pre (t : T) : treeF t = if 40 < t.size then (2, 0) else if 12 < t.deep then (10, 0) else scan t.pre 0 := by
  rw [treeF, (nodes_scan t 0).1]

/-- well formed -/
theorem treeF_ok {t : T} : (treeF t).1 = 0 ↔ t.size ≤ 40 ∧ t.deep ≤ 12 ∧ ∀ x ∈ t.pre, okN x := by
  rw [treeF_pre]
  by_cases h1 : 40 < t.size
  · rw [if_pos h1]; simp; omega
  · rw [if_neg h1]
    by_cases h2 : 12 < t.deep
    · rw [if_pos h2]; simp; omega
    · rw [if_neg h2, scan_zero]
      constructor
      · intro h; exact ⟨by omega, by omega, h⟩
      · intro h; exact h.2.2
end Go.Proofs.YtidgnbdlfngeaaaGreatDoor
