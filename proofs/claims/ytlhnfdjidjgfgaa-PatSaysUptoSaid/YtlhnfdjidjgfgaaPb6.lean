/-
  Plain: what pat.Do makes: the instances of a claim, those of a lore.
-/
import Derived.Test.YtlhnfdjidjgfgaaT25
import Derived.Test.YtlhnfdjidjgfgaaPa5
import Derived.Test.YtlhnfdjidjgfgaaPa6
import Derived.Test.YtlhnfdjidjgfgaaTr0
import Derived.Test.YtlhnfdjidjgfgaaXe
import Derived.Test.YtlhnfdjidjgfgaaR3
namespace Go.Proofs.Ytlhnfdjidjgfgaa
open Go.RowKit Go.Shelf
set_option linter.unusedVariables false

noncomputable def instGo (ar : List Int) (c : List Fc) : List (T × T) → List (List Fc) → List (List Fc) × Bool
  | [], K => (K, true)
  | pt :: r, K => if (fitF pt.1 pt.2).isSome then (if (addF ar K (subC (fitLst pt.1 pt.2) c)).2 then instGo ar c r (addF ar K (subC (fitLst pt.1 pt.2) c)).1 else addF ar K (subC (fitLst pt.1 pt.2) c)) else instGo ar c r K
def pairsT (ps ts : List T) : List (T × T) := ps.flatMap fun p => ts.map fun t => (p, t)
theorem pairsT_drop {ps ts : List T} {k : Nat} (h : k < ps.length) : pairsT (ps.drop k) ts = (ts.map fun t => (ps[k], t)) ++ pairsT (ps.drop (k + 1)) ts := by
  rw [List.drop_eq_getElem_cons h]; rfl
noncomputable def instF (ar : List Int) (subs : List T) (c : List Fc) (K : List (List Fc)) : List (List Fc) × Bool :=
  if mostL (treesF c) = 0 then addF ar K c else instGo ar c (pairsT (patF c) subs) K
theorem addF_len {ar : List Int} {K : List (List Fc)} {x : List Fc} (h : K.length ≤ 60) : (addF ar K x).1.length ≤ 61 ∧ ((addF ar K x).2 = true → (addF ar K x).1.length ≤ 60) := by
  unfold addF
  split
  · exact ⟨by simp; omega, fun h => by simp at h⟩
  · split
    · exact ⟨by simp; omega, fun _ => h⟩
    · exact ⟨by simp; omega, fun h => by simpa using h⟩
theorem addF_mem {ar : List Int} {K : List (List Fc)} {x y : List Fc} (h : y ∈ (addF ar K x).1) : y ∈ K ∨ (y = x ∧ codeF ar x = 0) := by
  unfold addF at h
  split at h
  · exact .inl h
  · rename_i h0
    split at h
    · exact .inl h
    · rcases List.mem_append.1 h with h | h
      · exact .inl h
      · exact .inr ⟨by simpa using h, by simpa using h0⟩
noncomputable def doGo (ar : List Int) (subs : List T) : List (List Fc) → Int → List (List Fc) → List (List Fc) × (Int × Int)
  | [], _, K => (K, (0, 0))
  | c :: r, i, K => if (instF ar subs c K).2 then doGo ar subs r (i + 1) (instF ar subs c K).1 else ([], (10, i))
theorem subC_map (bs : List T) (fs : List Fc) : subC bs fs = fs.map fun f => ⟨f.neg, f.l.sub bs, f.r.sub bs⟩ := rfl
theorem instGo_no {ar : List Int} {c : List Fc} {pt : T × T} {r : List (T × T)} {K : List (List Fc)} (h : (fitF pt.1 pt.2).isSome = false) : instGo ar c (pt :: r) K = instGo ar c r K := by rw [instGo, if_neg (by rw [h]; simp)]
theorem instGo_go {ar : List Int} {c : List Fc} {pt : T × T} {r : List (T × T)} {K : List (List Fc)} (h : (fitF pt.1 pt.2).isSome = true) (h2 : (addF ar K (subC (fitLst pt.1 pt.2) c)).2 = true) : instGo ar c (pt :: r) K = instGo ar c r (addF ar K (subC (fitLst pt.1 pt.2) c)).1 := by rw [instGo, if_pos h, if_pos h2]
theorem instGo_stop {ar : List Int} {c : List Fc} {pt : T × T} {r : List (T × T)} {K : List (List Fc)} (h : (fitF pt.1 pt.2).isSome = true) (h2 : (addF ar K (subC (fitLst pt.1 pt.2) c)).2 = false) : instGo ar c (pt :: r) K = addF ar K (subC (fitLst pt.1 pt.2) c) := by rw [instGo, if_pos h, if_neg (by rw [h2]; simp)]
theorem instRest {ps subs : List T} {k m : Nat} {x : T} (h : m < subs.length) : ((subs.drop m).map fun t => (x, t)) ++ pairsT (ps.drop k) subs = (x, gK subs m) :: (((subs.drop (m + 1)).map fun t => (x, t)) ++ pairsT (ps.drop k) subs) := by
  rw [List.drop_eq_getElem_cons h, gK_get h]; rfl
theorem fitLst_len {p t : T} (h : ∀ x ∈ p.pre, okN x) : (fitLst p t).length ≤ 1000 := by
  have h8 := most_le p h
  unfold fitLst fitF
  cases p.fit t (fun _ => zeroT) with
  | none => simp
  | some bs => simp [listT_length]; omega
noncomputable def subsF (gs : List T) : List T := (preL gs).foldl addT []
noncomputable def patDoF (ar : List Int) (cs : List (List Fc)) (gs : List T) : List (List Fc) × (Int × Int) := if (pchkF ar cs gs).1 ≠ 0 then ([], pchkF ar cs gs) else doGo ar (subsF gs) cs 0 []
theorem pchk_zero {ar : List Int} : ∀ {ts : List T} {i : Int}, (pchk ar ts i).1 = 0 → ∀ t ∈ ts, (treeF t).1 = 0 ∧ t.sig ar ∧ t.most = 0
  | [], _, _ => fun t ht => by cases ht
  | t :: r, i, h => by
    rw [pchk] at h
    split at h
    · rename_i h1; exact absurd h h1
    · rename_i h1
      split at h
      · cases h
      · rename_i h2
        have h3 := (codeF_zero.1 (Classical.not_not.1 h1)).2 t (by simp [treesF])
        have h4 : t.most = 0 := by have := t.most_nonneg; omega
        intro u hu
        rcases List.mem_cons.1 hu with rfl | hu
        · exact ⟨h3.1, h3.2, h4⟩
        · exact pchk_zero h u hu
theorem pchkF_zero {ar : List Int} {cs : List (List Fc)} {ts : List T} (h : (pchkF ar cs ts).1 = 0) : (loreF ar cs).1 = 0 ∧ ts.length ≤ 60 ∧ ∀ t ∈ ts, (treeF t).1 = 0 ∧ t.sig ar ∧ t.most = 0 := by
  unfold pchkF at h
  split at h
  · rename_i h1; exact absurd h h1
  · rename_i h1
    split at h
    · cases h
    · exact ⟨Classical.not_not.1 h1, by omega, pchk_zero h⟩
theorem subsF_good {gs : List T} (h : ∀ t ∈ gs, (treeF t).1 = 0) : ∀ x ∈ subsF gs, (treeF x).1 = 0 := fun x hx => by
  unfold subsF at hx
  rcases mem_foldT.1 hx with hx | hx
  · cases hx
  · obtain ⟨t, ht, hx⟩ := mem_preLs.1 hx
    obtain ⟨h1, h2, h3⟩ := treeF_ok.1 (h t ht)
    obtain ⟨h4, h5, h6⟩ := pre_all hx
    exact treeF_ok.2 ⟨by omega, by omega, fun z hz => h3 z (h4 z hz)⟩
theorem subsF_len {gs : List T} : (subsF gs).length ≤ sizeL gs := by
  have h1 := foldT_len (preL gs) []
  have h2 := preL_len gs
  unfold subsF
  simp at h1; omega
theorem instGo_len {ar : List Int} {c : List Fc} : ∀ {l : List (T × T)} {K : List (List Fc)}, K.length ≤ 60 → (instGo ar c l K).2 = true → (instGo ar c l K).1.length ≤ 60
  | [], K, h, _ => h
  | pt :: r, K, h, h2 => by
    rw [instGo] at h2 ⊢
    split at h2
    · rename_i h3
      rw [if_pos h3]
      split at h2
      · rename_i h4
        rw [if_pos h4]
        exact instGo_len ((addF_len h).2 h4) h2
      · rename_i h4; exact absurd h2 h4
    · rename_i h3
      rw [if_neg h3]
      exact instGo_len h h2
theorem instF_len {ar : List Int} {subs : List T} {c : List Fc} {K : List (List Fc)} (h : K.length ≤ 60) (h2 : (instF ar subs c K).2 = true) : (instF ar subs c K).1.length ≤ 60 := by
  unfold instF at h2 ⊢
  split at h2
  · rename_i h3; rw [if_pos h3]; exact (addF_len h).2 h2
  · rename_i h3; rw [if_neg h3]; exact instGo_len h h2
theorem instGo_mem {ar : List Int} {c : List Fc} : ∀ {l : List (T × T)} {K : List (List Fc)} {y : List Fc}, y ∈ (instGo ar c l K).1 → y ∈ K ∨ (codeF ar y = 0 ∧ ∃ pt ∈ l, (fitF pt.1 pt.2).isSome = true ∧ y = subC (fitLst pt.1 pt.2) c)
  | [], K, y, h => .inl h
  | pt :: r, K, y, h => by
    rw [instGo] at h
    split at h
    · rename_i h3
      split at h
      · rcases instGo_mem h with h5 | ⟨h5, pt', h6, h7⟩
        · rcases addF_mem h5 with h6 | ⟨h6, h7⟩
          · exact .inl h6
          · exact .inr ⟨by rw [h6]; exact h7, pt, by simp, h3, h6⟩
        · exact .inr ⟨h5, pt', by simp [h6], h7⟩
      · rcases addF_mem h with h6 | ⟨h6, h7⟩
        · exact .inl h6
        · exact .inr ⟨by rw [h6]; exact h7, pt, by simp, h3, h6⟩
    · rcases instGo_mem h with h5 | ⟨h5, pt', h6, h7⟩
      · exact .inl h5
      · exact .inr ⟨h5, pt', by simp [h6], h7⟩
theorem instF_mem {ar : List Int} {subs : List T} {c : List Fc} {K : List (List Fc)} {y : List Fc} (h : y ∈ (instF ar subs c K).1) : y ∈ K ∨ (codeF ar y = 0 ∧ ((mostL (treesF c) = 0 ∧ y = c) ∨ ∃ pt ∈ pairsT (patF c) subs, (fitF pt.1 pt.2).isSome = true ∧ y = subC (fitLst pt.1 pt.2) c)) := by
  unfold instF at h
  split at h
  · rename_i h3
    rcases addF_mem h with h6 | ⟨h6, h7⟩
    · exact .inl h6
    · exact .inr ⟨by rw [h6]; exact h7, .inl ⟨h3, h6⟩⟩
  · rcases instGo_mem h with h6 | ⟨h6, h7⟩
    · exact .inl h6
    · exact .inr ⟨h6, .inr h7⟩
end Go.Proofs.Ytlhnfdjidjgfgaa
