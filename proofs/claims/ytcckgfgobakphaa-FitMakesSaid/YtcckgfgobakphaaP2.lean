/-
  Plain: substitutions; one behind the other.
-/
import Derived.Test.YtcckgfgobakphaaT22
namespace Go.Proofs.Ytcckgfgobakphaa
open Go.RowKit Go.Shelf
set_option linter.unusedVariables false

theorem doF_ok {t : T} {bs : List T} (h : (doF t bs).2.1 = 0) : doF t bs = (t.sub bs, (0, 0)) ∧ (treeF t).1 = 0 ∧ (bindF bs).1 = 0 ∧ (treeF (t.sub bs)).1 = 0 := by
  rw [doF] at h ⊢
  by_cases h1 : (treeF t).1 ≠ 0
  · rw [if_pos h1] at h; exact absurd h h1
  · rw [if_neg h1] at h ⊢
    by_cases h2 : (bindF bs).1 ≠ 0
    · rw [if_pos h2] at h; exact absurd h h2
    · rw [if_neg h2] at h ⊢
      by_cases h3 : (treeF (t.sub bs)).1 ≠ 0
      · rw [if_pos h3] at h; simp at h
      · rw [if_neg h3]; exact ⟨rfl, by simpa using h1, by simpa using h2, by simpa using h3⟩
theorem doF_err {t : T} {bs : List T} (h : (doF t bs).2.1 ≠ 0) : (doF t bs).1 = zeroT := by
  rw [doF] at h ⊢
  by_cases h1 : (treeF t).1 ≠ 0
  · rw [if_pos h1]
  · rw [if_neg h1] at h ⊢
    by_cases h2 : (bindF bs).1 ≠ 0
    · rw [if_pos h2]
    · rw [if_neg h2] at h ⊢
      by_cases h3 : (treeF (t.sub bs)).1 ≠ 0
      · rw [if_pos h3]
      · rw [if_neg h3] at h; exact absurd rfl h
theorem doF_of {t : T} {bs : List T} (h1 : (treeF t).1 = 0) (h2 : (bindF bs).1 = 0) (h3 : (treeF (t.sub bs)).1 = 0) : doF t bs = (t.sub bs, (0, 0)) := by
  rw [doF, if_neg (by simp [h1]), if_neg (by simp [h2]), if_neg (by simp [h3])]
theorem ok_head {t : T} (h : (treeF t).1 = 0) : t.head ≠ 0 := by
  have h1 := (treeF_ok.1 h).2.2 t (by rw [T.pre_eq]; simp)
  intro e; exact h1.1 (by unfold badHead; omega)
theorem bindL_of : ∀ (bs : List T) (k : Int), (∀ i, i < bs.length → (treeF (gK bs i)).1 = 0) → (bindL bs k).1 = 0
  | [], k, _ => rfl
  | t :: r, k, h => by
    have h0 := h 0 (by simp)
    simp only [gK, List.getD_cons_zero] at h0
    rw [bindL, if_neg (ok_head h0), if_neg (by simp [h0])]
    exact bindL_of r (k + 1) (fun i hi => by have := h (i + 1) (by simpa using hi); simpa only [gK, List.getD_cons_succ] using this)
theorem bindF_of {bs : List T} (hl : bs.length ≤ 8) (h : ∀ i, i < bs.length → (treeF (gK bs i)).1 = 0) : (bindF bs).1 = 0 := by
  rw [bindF, if_neg (by omega)]; exact bindL_of bs 0 h

/-- what stands for variable k, as the law has it -/
def standF (bs : List T) (k : Nat) : T := if boundB bs k = true then gK bs k else .node (-(k : Int) - 1) []
theorem kids_pre {t : T} (h : ∀ x ∈ t.pre, okN x) {i : Nat} (hi : i < t.kids.length) : ∀ x ∈ (gK t.kids i).pre, okN x := fun x hx =>
  h x (by rw [T.pre_eq]; exact List.mem_cons_of_mem _ (kid_pre_mem hi hx))
theorem var_leaf {t : T} (h : ∀ x ∈ t.pre, okN x) (hn : t.head < 0) : t = .node t.head [] := by
  have h1 := (h t (by rw [T.pre_eq]; simp)).2
  have : t.kids = [] := List.eq_nil_of_length_eq_zero (by unfold badKids at h1; omega)
  cases t with
  | node hd ks => simp only [T.kids] at this; rw [this]; rfl
theorem T.node_eta (t : T) : T.node t.head t.kids = t := by cases t; rfl
theorem sub_stand (t : T) (bs : List T) (h : ∀ x ∈ t.pre, okN x) (hn : t.head < 0) : t.sub bs = standF bs (-t.head - 1).toNat := by
  have hv := var_leaf h hn
  have hb := (h t (by rw [T.pre_eq]; simp)).1
  unfold badHead at hb
  unfold standF
  cases hbd : boundB bs (-t.head - 1).toNat with
  | true => rw [if_pos rfl, T.sub_var hn hbd]
  | false =>
    rw [if_neg (by simp), T.sub_free hn hbd]
    conv => lhs; rw [hv]
    congr 1; omega
theorem sub_sub (t : T) (bs cs both : List T) (h : ∀ x ∈ t.pre, okN x) (hl : both.length = 8) (hb : ∀ k, k < 8 → gK both k = (standF bs k).sub cs ∧ (gK both k).head ≠ 0) : t.sub both = (t.sub bs).sub cs := by
  induction t using T.ind with
  | h t ih =>
    have hok := h t (by rw [T.pre_eq]; simp)
    have hhd := hok.1
    unfold badHead at hhd
    by_cases hn : t.head < 0
    · rw [sub_stand t bs h hn]
      have hk : (-t.head - 1).toNat < 8 := by omega
      rw [← (hb _ hk).1]
      exact T.sub_var hn (by simp only [boundB, Bool.and_eq_true, decide_eq_true_eq, bne_iff_ne, ne_eq]; exact ⟨by omega, (hb _ hk).2⟩)
    · rw [T.sub_pos hn, T.sub_pos (bs := bs) hn, T.sub_pos (bs := cs) (t := .node t.head (t.kids.map (T.sub bs))) hn]
      show T.node t.head _ = T.node t.head _
      congr 1
      show t.kids.map (T.sub both) = (t.kids.map (T.sub bs)).map (T.sub cs)
      rw [List.map_map]
      apply List.ext_getElem (by simp)
      intro i h1 h2
      have hi : i < t.kids.length := by simpa using h1
      have := ih i hi (kids_pre h hi)
      rw [gK_get hi] at this
      simpa using this
end Go.Proofs.Ytcckgfgobakphaa
