/-
  Plain: fewer facts, fewer claims.
-/
import Derived.Test.YteekoclfpehnpaaV13
namespace Go.Proofs.Yteekoclfpehnpaa
open Go.RowKit Go.Shelf
set_option linter.unusedVariables false
set_option maxHeartbeats 400000

theorem gI_take {l : List Int} {m i : Nat} (h : i < m) : gI (l.take m) i = gI l i := by unfold gI; simp [List.getD, h]
/-- a tree's value hangs on the things of its variables alone -/
theorem ev_agree {s : Nat} {tb : List (List Int)} {th th' : List Int} (hle : th'.length ≤ th.length) (hag : ∀ i, i < th'.length → gI th' i = gI th i) (t : T) : t.most ≤ th'.length → t.ev s tb th' = t.ev s tb th := by
  induction t using T.ind with
  | h t ih =>
    intro hm
    rw [T.most_eq] at hm
    rw [T.ev_eq, T.ev_eq]
    by_cases hn : t.head < 0
    · rw [if_pos hn] at hm
      rw [if_pos hn, if_pos hn, if_neg (by omega), if_neg (by omega)]
      exact hag _ (by omega)
    · rw [if_neg hn, if_neg hn]
      have key : ∀ (l : List T) (a : Int), (∀ i, i < l.length → (gK l i).most ≤ th'.length → (gK l i).ev s tb th' = (gK l i).ev s tb th) → mostL l ≤ th'.length → evL s tb th' l a = evL s tb th l a := by
        intro l
        induction l with
        | nil => intro a _ _; rfl
        | cons x r ihl =>
          intro a h1 h2
          simp only [mostL] at h2
          have hx : x.ev s tb th' = x.ev s tb th := h1 0 (by simp) (show x.most ≤ _ by omega)
          simp only [evL]
          rw [hx]
          exact ihl _ (fun i hi => h1 (i + 1) (by simpa using hi)) (by omega)
      rw [key t.kids 0 (fun i hi => ih i hi) (by omega)]
theorem fact_most {fs : List Fc} {f : Fc} (h : f ∈ fs) : f.l.most ≤ (varsC fs : Nat) ∧ f.r.most ≤ (varsC fs : Nat) := by
  rw [varsC_cast]
  induction fs with
  | nil => cases h
  | cons g r ih =>
    simp only [treesF, mostL]
    rcases List.mem_cons.1 h with rfl | h
    · constructor <;> omega
    · have := ih h; constructor <;> omega
theorem varsC_take {fs : List Fc} {m : Nat} : varsC (fs.take m) ≤ varsC fs := by
  have h : mostL (treesF (fs.take m)) ≤ mostL (treesF fs) := by
    conv => rhs; rw [← List.take_append_drop m fs]
    rw [treesF_append, mostL_append]; omega
  rw [← varsC_cast, ← varsC_cast] at h
  omega
theorem wide_pow {s : Nat} {fs : List Fc} (hs : 1 ≤ s) : wideB s fs = false ↔ s ^ varsC fs ≤ 4096 := by
  unfold wideB
  rw [decide_eq_false_iff_not]
  constructor
  · intro h
    have h1 := powN_eq (b := s) (most := 4096) hs (varsC fs) 1 (by omega)
    rw [Nat.one_mul] at h1
    omega
  · intro h
    have h1 := powN_of (b := s) (most := 4096) hs (varsC fs) 1 (by omega)
    rw [Nat.one_mul] at h1
    omega
theorem wide_take {s : Nat} {fs : List Fc} {m : Nat} (hs : 1 ≤ s) (h : wideB s fs = false) : wideB s (fs.take m) = false := by
  rw [wide_pow hs] at h ⊢
  exact Nat.le_trans (Nat.pow_le_pow_right hs varsC_take) h
/-- a claim is true if it is so under every row of things -/
theorem trueF_iff {s : Nat} {tb : List (List Int)} {fs : List Fc} (hs : 1 ≤ s) (hw : wideB s fs = false) : trueF s tb fs = true ↔ ∀ th, ThOK s th → th.length = varsC fs → fs.any (factB s tb th) = true := by
  have hp : powN s 4096 (varsC fs) 1 = s ^ varsC fs := by
    have h1 := powN_of (b := s) (most := 4096) hs (varsC fs) 1 (by have := (wide_pow hs).1 hw; omega)
    rwa [Nat.one_mul] at h1
  unfold trueF
  rw [hp, List.all_eq_true]
  constructor
  · intro h th hth hl
    obtain ⟨k, hk, he⟩ := dig_all hth
    rw [hl] at hk he
    have := h k (by simpa using hk)
    rw [he] at this; exact this
  · intro h k hk
    exact h _ (dig_ok hs _ _) (dig_length _ _)
theorem trueF_more {s : Nat} {tb : List (List Int)} {fs : List Fc} {m : Nat} (hs : 1 ≤ s) (hw : wideB s fs = false) (h : trueF s tb (fs.take m) = true) : trueF s tb fs = true := by
  rw [trueF_iff hs hw]
  rw [trueF_iff hs (wide_take hs hw)] at h
  intro th hth hl
  have hv := varsC_take (fs := fs) (m := m)
  have h1 := h (th.take (varsC (fs.take m))) (fun x hx => hth x (List.mem_of_mem_take hx)) (by simp; omega)
  obtain ⟨f, hf, hb⟩ := List.any_eq_true.1 h1
  refine List.any_eq_true.2 ⟨f, List.mem_of_mem_take hf, ?_⟩
  have hm := fact_most hf
  have hl2 : (th.take (varsC (fs.take m))).length = varsC (fs.take m) := by simp; omega
  unfold factB at hb ⊢
  rw [ev_agree (th := th) (by omega) (fun i hi => gI_take (by omega)) f.l (by rw [hl2]; exact hm.1), ev_agree (th := th) (by omega) (fun i hi => gI_take (by omega)) f.r (by rw [hl2]; exact hm.2)] at hb
  exact hb
theorem trueF_nil {s : Nat} {tb : List (List Int)} : trueF s tb [] = false := by
  unfold trueF
  have : varsC [] = 0 := rfl
  rw [this, powN, List.all_eq_false]
  exact ⟨0, by simp, by simp⟩
theorem codeF_take {ar : List Int} {fs : List Fc} {m : Nat} (h : codeF ar fs = 0) : codeF ar (fs.take m) = 0 := by
  rw [codeF_zero] at h ⊢
  refine ⟨by simp; omega, fun t ht => h.2 t ?_⟩
  rw [← List.take_append_drop m fs, treesF_append]
  exact List.mem_append_left _ ht
theorem idxP_neg {α : Type} {P : α → Bool} {l : List α} : ¬ 0 ≤ idxP P l ↔ ∀ x ∈ l, P x = false := by
  rw [idxP_any]
  constructor
  · intro h x hx
    cases hp : P x with
    | false => rfl
    | true => exact absurd (List.any_eq_true.2 ⟨x, hx, hp⟩) h
  · intro h e
    obtain ⟨x, hx, hp⟩ := List.any_eq_true.1 e
    rw [h x hx] at hp; cases hp
theorem loreF_one {ar : List Int} {cs : List (List Fc)} {c : List Fc} (h : (loreF ar cs).1 = 0) (hc : codeF ar c = 0) : loreF ar [c] = (0, 0) := by
  obtain ⟨_, h1, _, h2, _⟩ := loreF_zero h
  unfold loreF
  rw [if_neg (by simp; omega), if_neg (by
    rw [idxP_neg]
    intro x hx
    have := h2 x hx
    unfold badA
    rw [decide_eq_false (by omega), decide_eq_false (by omega)]; rfl)]
  simp [firstP, hc]
theorem tabF_one {ar : List Int} {cs : List (List Fc)} {sz : Int} {tb : List (List Int)} {c : List Fc} (h : (tabF ar cs sz tb).1 = 0) (hc : codeF ar c = 0) : tabF ar [c] sz tb = (0, 0) := by
  obtain ⟨h0, h1, _⟩ := tabF_zero h
  have h2 := (loreF_zero h1).1
  have h3 := loreF_one h1 hc
  unfold tabF at h0 ⊢
  rw [h2] at h0
  rw [h3]
  exact h0
theorem holdsF_bad {ar : List Int} {cs : List (List Fc)} {sz : Int} {tb : List (List Int)} (h : (holdsF ar cs sz tb).2.1 ≠ 0) : (holdsF ar cs sz tb).1 = [] := by
  unfold holdsF at h ⊢
  by_cases h1 : (tabF ar cs sz tb).1 ≠ 0
  · rw [if_pos h1]
  · rw [if_neg h1] at h ⊢
    by_cases h2 : 0 ≤ idxP (wideB sz.toNat) cs
    · rw [if_pos h2]
    · rw [if_neg h2] at h; exact absurd rfl h
theorem holdsF_ok {ar : List Int} {cs : List (List Fc)} {sz : Int} {tb : List (List Int)} (h : (holdsF ar cs sz tb).2.1 = 0) : (tabF ar cs sz tb).1 = 0 ∧ (∀ c ∈ cs, wideB sz.toNat c = false) ∧ holdsF ar cs sz tb = (cs.map (trueF sz.toNat tb), (0, 0)) := by
  unfold holdsF at h ⊢
  by_cases h1 : (tabF ar cs sz tb).1 ≠ 0
  · rw [if_pos h1] at h; exact absurd h h1
  · rw [if_neg h1] at h ⊢
    by_cases h2 : 0 ≤ idxP (wideB sz.toNat) cs
    · rw [if_pos h2] at h; cases h
    · rw [if_neg h2]; exact ⟨by simpa using h1, idxP_neg.1 h2, rfl⟩
theorem holdsF_one {ar : List Int} {cs : List (List Fc)} {sz : Int} {tb : List (List Int)} {c : List Fc} (h : (tabF ar cs sz tb).1 = 0) (hc : codeF ar c = 0) (hw : wideB sz.toNat c = false) : holdsF ar [c] sz tb = ([trueF sz.toNat tb c], (0, 0)) := by
  unfold holdsF
  rw [tabF_one h hc, if_neg (by simp), if_neg (by rw [idxP_neg]; intro x hx; simp at hx; rw [hx]; exact hw)]
  rfl
end Go.Proofs.Yteekoclfpehnpaa
