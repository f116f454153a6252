/-
  Plain: whatever makes two terms one is the most general unifier, and then more.
-/
import Derived.Test.YtlhnfdjidjgfgaaUn4
namespace Go.Proofs.Ytlhnfdjidjgfgaa
open Go.RowKit
set_option linter.unusedVariables false
set_option maxHeartbeats 400000

theorem doF_ok {t : T} {bs : List T} (h : (doF t bs).2.1 = 0) : doF t bs = (t.sub bs, (0, 0)) ∧ (treeF t).1 = 0 ∧ (bindF bs).1 = 0 ∧ (treeF (t.sub bs)).1 = 0 := by
  rw [doF] at h ⊢
  by_cases h1 : (treeF t).1 ≠ 0
  · rw [if_pos h1] at h; exact absurd h h1
  · rw [if_neg h1] at h ⊢
    by_cases h2 : (bindF bs).1 ≠ 0
    · rw [if_pos h2] at h; exact absurd h h2
    · rw [if_neg h2] at h ⊢
      by_cases h3 : (treeF (t.sub bs)).1 ≠ 0
      · rw [if_pos h3] at h; simp at h
      · rw [if_neg h3]; exact ⟨rfl, by simpa using h1, by simpa using h2, by simpa using h3⟩
theorem doF_err {t : T} {bs : List T} (h : (doF t bs).2.1 ≠ 0) : (doF t bs).1 = zeroT := by
  rw [doF] at h ⊢
  by_cases h1 : (treeF t).1 ≠ 0
  · rw [if_pos h1]
  · rw [if_neg h1] at h ⊢
    by_cases h2 : (bindF bs).1 ≠ 0
    · rw [if_pos h2]
    · rw [if_neg h2] at h ⊢
      by_cases h3 : (treeF (t.sub bs)).1 ≠ 0
      · rw [if_pos h3]
      · rw [if_neg h3] at h; exact absurd rfl h
def thD (D : List T) (y : Nat) : T := (vT y).sub D
theorem sub_inst (D : List T) {t : T} : LV t → t.sub D = t.inst (thD D) := by
  induction t using T.ind with
  | h t ih =>
    intro hl
    by_cases hn : t.head < 0
    · have h1 := hl.leaf hn
      rw [inst_var hn]
      conv => lhs; rw [h1]
      rfl
    · rw [T.sub_pos hn, inst_node hn, instL_map]
      congr 1
      refine List.map_congr_left fun x hx => ?_
      obtain ⟨i, hi, rfl⟩ := List.getElem_of_mem hx
      have := ih i hi (hl.kid hi)
      rw [gK_get hi] at this
      exact this
theorem vT_ok {k : Nat} (h : k < 8) : (treeF (vT k)).1 = 0 := by
  refine treeF_ok.2 ⟨by simp [vT, T.size_eq, T.kids, sizeL], by simp [vT, T.deep_eq, T.kids, deepL], fun z hz => ?_⟩
  have h3 : z = vT k := by simpa [vT, T.pre, preL] using hz
  rw [h3]
  refine ⟨?_, ?_⟩
  · rw [vT_head]; unfold badHead; omega
  · show ¬ badKids _ 0
    rw [vT_head]; unfold badKids; omega
theorem thD_ok {D : List T} (h : (bindF D).1 = 0) {k : Nat} (hk : k < 8) : (treeF (thD D k)).1 = 0 := by
  unfold thD
  cases hb : boundB D k with
  | false =>
    rw [T.sub_free (vT_neg k) (by rw [vT_head, show (-(-(k : Int) - 1) - 1).toNat = k by omega]; exact hb)]
    exact vT_ok hk
  | true =>
    rw [T.sub_var (vT_neg k) (by rw [vT_head, show (-(-(k : Int) - 1) - 1).toNat = k by omega]; exact hb), vT_head, show (-(-(k : Int) - 1) - 1).toNat = k by omega]
    unfold boundB at hb
    simp only [Bool.and_eq_true, decide_eq_true_eq, bne_iff_ne, ne_eq] at hb
    rcases (bindF_ok h).2 k hb.1 with h1 | h1
    · exact absurd h1.1 hb.2
    · exact h1.2
structure GenL (D L : List T) : Prop where
  low : L.length ≤ 8
  eq : ∀ k, k < L.length → (gK L k).head ≠ 0 → doF (gK L k) D = (thD D k, (0, 0)) ∧ doF (vT k) D = (thD D k, (0, 0))
theorem general_law {A B X : T} {D L : List T} {ok : Bool} {f : Int × Int} (hA : doF A D = (X, (0, 0))) (hB : doF B D = (X, (0, 0))) (h : UAns A B L ok f) : f = (10, 0) ∨ (ok = true ∧ f = (0, 0) ∧ GenL D L) := by
  have kA := doF_ok (t := A) (bs := D) (by rw [hA])
  have kB := doF_ok (t := B) (bs := D) (by rw [hB])
  have eA := kA.1.symm.trans hA
  have eB := kB.1.symm.trans hB
  simp only [Prod.mk.injEq] at eA eB
  have jA := treeF_ok.1 kA.2.1; have jB := treeF_ok.1 kB.2.1
  have oA : OkT A := ⟨jA.2.2, by omega, by omega⟩
  have oB : OkT B := ⟨jB.2.2, by omega, by omega⟩
  have hv := uN_va oA oB
  have hu : A.inst (thD D) = B.inst (thD D) := by
    rw [← sub_inst D hv.1.lv, ← sub_inst D hv.2.lv, eA.1, eB.1]
  rcases h with ⟨h, _⟩ | ⟨_, h, _⟩ | ⟨_, _, h⟩
  · exact absurd kA.2.1 h
  · exact absurd kB.2.1 h
  · rcases h with ⟨_, _, _, h⟩ | ⟨_, _, h, _⟩ | ⟨σ, hf, rfl, h1, h2⟩
    · exact absurd hu (h _)
    · exact .inl h
    · refine .inr ⟨h1, h2, by rw [listT_length]; exact uN_le oA oB, fun k hk hne => ?_⟩
      rw [listT_length] at hk
      have hk8 : k < 8 := by have := uN_le oA oB; omega
      rw [listT_gK hk] at hne ⊢
      unfold bnd at hne ⊢
      by_cases e : σ k = vT k
      · rw [if_pos e] at hne; exact absurd rfl hne
      · rw [if_neg e]
        have hs := hf.fit k e
        unfold fitN at hs
        have hts : (treeF (σ k)).1 = 0 := treeF_ok.2 ⟨by omega, by omega, can_ok oA oB hf.can hk⟩
        have hg : (σ k).sub D = thD D k := by rw [sub_inst D (hf.can.lv k)]; exact hf.can.gen (thD D) hu k
        have hto := thD_ok kA.2.2.1 hk8
        constructor
        · unfold doF
          rw [if_neg (by simpa using hts), if_neg (by simpa using kA.2.2.1), hg, if_neg (by simpa using hto)]
        · unfold doF
          rw [if_neg (by simpa using vT_ok hk8), if_neg (by simpa using kA.2.2.1), if_neg (by simpa [thD] using hto)]
          rfl
end Go.Proofs.Ytlhnfdjidjgfgaa
