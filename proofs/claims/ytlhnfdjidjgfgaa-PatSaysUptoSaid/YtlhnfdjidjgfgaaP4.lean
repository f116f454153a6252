/-
  Walks: table.Value.
  The closed fact of the table laws: what it comes to; a row in a block.
  Plain: fewer facts, fewer claims.
  Plain: the value of an instance is the value under the values.
  Walks: turn.Normal.
  Plain: what matching says; rewriting keeps the value of a tree.
  Plain: places in trees.
-/
import Derived.Test.YtlhnfdjidjgfgaaProg
import Derived.Test.YtlhnfdjidjgfgaaV11
import Derived.RegionTactic
import Derived.WalkKit
import Derived.Test.YtlhnfdjidjgfgaaSt3
import Derived.Test.YtlhnfdjidjgfgaaR3
import Derived.Test.YtlhnfdjidjgfgaaXe
import Derived.Test.YtlhnfdjidjgfgaaXc
import Derived.Test.YtlhnfdjidjgfgaaT31
namespace Go.Proofs.Ytlhnfdjidjgfgaa
open Go.RowKit Go.Shelf
set_option linter.unusedVariables false
set_option maxHeartbeats 400000

def factX (x : T) : Fc := ⟨false, x, x⟩
noncomputable def valueF (ar : List Int) (cs : List (List Fc)) (sz : Int) (tb : List (List Int)) (x : T) (th : List Int) : Int × (Int × Int) :=
  if (tabF ar cs sz tb).1 ≠ 0 then (0, tabF ar cs sz tb) else if codeF ar [factX x] ≠ 0 then (0, (codeF ar [factX x], -2)) else if th.any (outS sz.toNat) = true then (0, (3, -3)) else (x.ev sz.toNat tb th, (0, 0))
theorem codeF_one {ar : List Int} {x : T} : codeF ar [factX x] = 0 ↔ (treeF x).1 = 0 ∧ x.sig ar := by
  rw [codeF_zero]
  constructor
  · intro h; exact h.2 x (by simp [treesF, factX])
  · intro h
    refine ⟨by simp, fun t ht => ?_⟩
    simp [treesF, factX] at ht
    subst ht; exact h

end Go.Proofs.Ytlhnfdjidjgfgaa
namespace Go.Proofs.Ytlhnfdjidjgfgaa
open Go.RowKit Go.Shelf
set_option linter.unusedVariables false
set_option maxHeartbeats 400000

def xT : T := .node 2 [.node (-1) []]
def clT : List Fc := [⟨false, xT, .node 1 []⟩]
set_option maxRecDepth 100000 in
theorem holdsT : holdsF [0, 1] [clT] 2 [[1], [1, 1]] = ([true], (0, 0)) := by kernel_rfl
set_option maxRecDepth 100000 in
theorem valueT : valueF [0, 1] [clT] 2 [[1], [1, 0]] xT [1] = (0, (0, 0)) := by kernel_rfl
/-- the elements of a block -/
theorem row_block {α : Type} (E : Elt α) {p : Nat → Prop} {w : World} {g : Nat} {cs : Array Value} {T : TypeId} (hb : w.heap[g]? = some (.cells cs T (0, 0))) (hp : p g) (css : List (List Value)) (xs : List α) (hf : cs.toList = css.flatten) (hl : css.length = xs.length)
    (he : ∀ (i : Nat) c x, css[i]? = some c → xs[i]? = some x → E.is p w c x) : E.Row p w (some ⟨g, 0, none⟩) xs := fun i x hi => by
  have hil := (List.getElem?_eq_some_iff.1 hi).1
  have hc : css[i]? = some css[i] := List.getElem?_eq_getElem (by omega)
  have hx := he i _ _ hc hi
  refine ⟨g, 0, css[i], rfl, hp, fun j u hu => ?_, hx⟩
  have h1 := flat_at (n := E.n) (Elt.lens hl he) hc hu
  rw [← hf] at h1
  have h2 : cs[i * E.n + j]? = some u := by rw [← h1]; simp
  simp [World.cell?, hb, h2]
end Go.Proofs.Ytlhnfdjidjgfgaa
namespace Go.Proofs.Ytlhnfdjidjgfgaa
open Go.RowKit Go.Shelf
set_option linter.unusedVariables false
set_option maxHeartbeats 400000

theorem gI_take {l : List Int} {m i : Nat} (h : i < m) : gI (l.take m) i = gI l i := by unfold gI; simp [List.getD, h]
/-- a tree's value hangs on the things of its variables alone -/
theorem ev_agree {s : Nat} {tb : List (List Int)} {th th' : List Int} (hle : th'.length ≤ th.length) (hag : ∀ i, i < th'.length → gI th' i = gI th i) (t : T) : t.most ≤ th'.length → t.ev s tb th' = t.ev s tb th := by
  induction t using T.ind with
  | h t ih =>
    intro hm
    rw [T.most_eq] at hm
    rw [T.ev_eq, T.ev_eq]
    by_cases hn : t.head < 0
    · rw [if_pos hn] at hm
      rw [if_pos hn, if_pos hn, if_neg (by omega), if_neg (by omega)]
      exact hag _ (by omega)
    · rw [if_neg hn, if_neg hn]
      have key : ∀ (l : List T) (a : Int), (∀ i, i < l.length → (gK l i).most ≤ th'.length → (gK l i).ev s tb th' = (gK l i).ev s tb th) → mostL l ≤ th'.length → evL s tb th' l a = evL s tb th l a := by
        intro l
        induction l with
        | nil => intro a _ _; rfl
        | cons x r ihl =>
          intro a h1 h2
          simp only [mostL] at h2
          have hx : x.ev s tb th' = x.ev s tb th := h1 0 (by simp) (show x.most ≤ _ by omega)
          simp only [evL]
          rw [hx]
          exact ihl _ (fun i hi => h1 (i + 1) (by simpa using hi)) (by omega)
      rw [key t.kids 0 (fun i hi => ih i hi) (by omega)]
theorem fact_most {fs : List Fc} {f : Fc} (h : f ∈ fs) : f.l.most ≤ (varsC fs : Nat) ∧ f.r.most ≤ (varsC fs : Nat) := by
  rw [varsC_cast]
  induction fs with
  | nil => cases h
  | cons g r ih =>
    simp only [treesF, mostL]
    rcases List.mem_cons.1 h with rfl | h
    · constructor <;> omega
    · have := ih h; constructor <;> omega
theorem varsC_take {fs : List Fc} {m : Nat} : varsC (fs.take m) ≤ varsC fs := by
  have h : mostL (treesF (fs.take m)) ≤ mostL (treesF fs) := by
    conv => rhs; rw [← List.take_append_drop m fs]
    rw [treesF_append, mostL_append]; omega
  rw [← varsC_cast, ← varsC_cast] at h
  omega
theorem wide_pow {s : Nat} {fs : List Fc} (hs : 1 ≤ s) : wideB s fs = false ↔ s ^ varsC fs ≤ 4096 := by
  unfold wideB
  rw [decide_eq_false_iff_not]
  constructor
  · intro h
    have h1 := powN_eq (b := s) (most := 4096) hs (varsC fs) 1 (by omega)
    rw [Nat.one_mul] at h1
    omega
  · intro h
    have h1 := powN_of (b := s) (most := 4096) hs (varsC fs) 1 (by omega)
    rw [Nat.one_mul] at h1
    omega
theorem wide_take {s : Nat} {fs : List Fc} {m : Nat} (hs : 1 ≤ s) (h : wideB s fs = false) : wideB s (fs.take m) = false := by
  rw [wide_pow hs] at h ⊢
  exact Nat.le_trans (Nat.pow_le_pow_right hs varsC_take) h
/-- a claim is true if it is so under every row of things -/
theorem trueF_iff {s : Nat} {tb : List (List Int)} {fs : List Fc} (hs : 1 ≤ s) (hw : wideB s fs = false) : trueF s tb fs = true ↔ ∀ th, ThOK s th → th.length = varsC fs → fs.any (factB s tb th) = true := by
  have hp : powN s 4096 (varsC fs) 1 = s ^ varsC fs := by
    have h1 := powN_of (b := s) (most := 4096) hs (varsC fs) 1 (by have := (wide_pow hs).1 hw; omega)
    rwa [Nat.one_mul] at h1
  unfold trueF
  rw [hp, List.all_eq_true]
  constructor
  · intro h th hth hl
    obtain ⟨k, hk, he⟩ := dig_all hth
    rw [hl] at hk he
    have := h k (by simpa using hk)
    rw [he] at this; exact this
  · intro h k hk
    exact h _ (dig_ok hs _ _) (dig_length _ _)
theorem trueF_more {s : Nat} {tb : List (List Int)} {fs : List Fc} {m : Nat} (hs : 1 ≤ s) (hw : wideB s fs = false) (h : trueF s tb (fs.take m) = true) : trueF s tb fs = true := by
  rw [trueF_iff hs hw]
  rw [trueF_iff hs (wide_take hs hw)] at h
  intro th hth hl
  have hv := varsC_take (fs := fs) (m := m)
  have h1 := h (th.take (varsC (fs.take m))) (fun x hx => hth x (List.mem_of_mem_take hx)) (by simp; omega)
  obtain ⟨f, hf, hb⟩ := List.any_eq_true.1 h1
  refine List.any_eq_true.2 ⟨f, List.mem_of_mem_take hf, ?_⟩
  have hm := fact_most hf
  have hl2 : (th.take (varsC (fs.take m))).length = varsC (fs.take m) := by simp; omega
  unfold factB at hb ⊢
  rw [ev_agree (th := th) (by omega) (fun i hi => gI_take (by omega)) f.l (by rw [hl2]; exact hm.1), ev_agree (th := th) (by omega) (fun i hi => gI_take (by omega)) f.r (by rw [hl2]; exact hm.2)] at hb
  exact hb
theorem trueF_nil {s : Nat} {tb : List (List Int)} : trueF s tb [] = false := by
  unfold trueF
  have : varsC [] = 0 := rfl
  rw [this, powN, List.all_eq_false]
  exact ⟨0, by simp, by simp⟩
theorem codeF_take {ar : List Int} {fs : List Fc} {m : Nat} (h : codeF ar fs = 0) : codeF ar (fs.take m) = 0 := by
  rw [codeF_zero] at h ⊢
  refine ⟨by simp; omega, fun t ht => h.2 t ?_⟩
  rw [← List.take_append_drop m fs, treesF_append]
  exact List.mem_append_left _ ht
theorem idxP_neg {α : Type} {P : α → Bool} {l : List α} : ¬ 0 ≤ idxP P l ↔ ∀ x ∈ l, P x = false := by
  rw [idxP_any]
  constructor
  · intro h x hx
    cases hp : P x with
    | false => rfl
    | true => exact absurd (List.any_eq_true.2 ⟨x, hx, hp⟩) h
  · intro h e
    obtain ⟨x, hx, hp⟩ := List.any_eq_true.1 e
    rw [h x hx] at hp; cases hp
theorem loreF_one {ar : List Int} {cs : List (List Fc)} {c : List Fc} (h : (loreF ar cs).1 = 0) (hc : codeF ar c = 0) : loreF ar [c] = (0, 0) := by
  obtain ⟨_, h1, _, h2, _⟩ := loreF_zero h
  unfold loreF
  rw [if_neg (by simp; omega), if_neg (by
    rw [idxP_neg]
    intro x hx
    have := h2 x hx
    unfold badA
    rw [decide_eq_false (by omega), decide_eq_false (by omega)]; rfl)]
  simp [firstP, hc]
theorem tabF_one {ar : List Int} {cs : List (List Fc)} {sz : Int} {tb : List (List Int)} {c : List Fc} (h : (tabF ar cs sz tb).1 = 0) (hc : codeF ar c = 0) : tabF ar [c] sz tb = (0, 0) := by
  obtain ⟨h0, h1, _⟩ := tabF_zero h
  have h2 := (loreF_zero h1).1
  have h3 := loreF_one h1 hc
  unfold tabF at h0 ⊢
  rw [h2] at h0
  rw [h3]
  exact h0
theorem holdsF_bad {ar : List Int} {cs : List (List Fc)} {sz : Int} {tb : List (List Int)} (h : (holdsF ar cs sz tb).2.1 ≠ 0) : (holdsF ar cs sz tb).1 = [] := by
  unfold holdsF at h ⊢
  by_cases h1 : (tabF ar cs sz tb).1 ≠ 0
  · rw [if_pos h1]
  · rw [if_neg h1] at h ⊢
    by_cases h2 : 0 ≤ idxP (wideB sz.toNat) cs
    · rw [if_pos h2]
    · rw [if_neg h2] at h; exact absurd rfl h
theorem holdsF_ok {ar : List Int} {cs : List (List Fc)} {sz : Int} {tb : List (List Int)} (h : (holdsF ar cs sz tb).2.1 = 0) : (tabF ar cs sz tb).1 = 0 ∧ (∀ c ∈ cs, wideB sz.toNat c = false) ∧ holdsF ar cs sz tb = (cs.map (trueF sz.toNat tb), (0, 0)) := by
  unfold holdsF at h ⊢
  by_cases h1 : (tabF ar cs sz tb).1 ≠ 0
  · rw [if_pos h1] at h; exact absurd h h1
  · rw [if_neg h1] at h ⊢
    by_cases h2 : 0 ≤ idxP (wideB sz.toNat) cs
    · rw [if_pos h2] at h; cases h
    · rw [if_neg h2]; exact ⟨by simpa using h1, idxP_neg.1 h2, rfl⟩
theorem holdsF_one {ar : List Int} {cs : List (List Fc)} {sz : Int} {tb : List (List Int)} {c : List Fc} (h : (tabF ar cs sz tb).1 = 0) (hc : codeF ar c = 0) (hw : wideB sz.toNat c = false) : holdsF ar [c] sz tb = ([trueF sz.toNat tb c], (0, 0)) := by
  unfold holdsF
  rw [tabF_one h hc, if_neg (by simp), if_neg (by rw [idxP_neg]; intro x hx; simp at hx; rw [hx]; exact hw)]
  rfl
end Go.Proofs.Ytlhnfdjidjgfgaa
namespace Go.Proofs.Ytlhnfdjidjgfgaa
open Go.RowKit Go.Shelf
set_option linter.unusedVariables false
set_option maxHeartbeats 400000

theorem doF_ok {t : T} {bs : List T} (h : (doF t bs).2.1 = 0) : doF t bs = (t.sub bs, (0, 0)) ∧ (treeF t).1 = 0 ∧ (bindF bs).1 = 0 ∧ (treeF (t.sub bs)).1 = 0 := by
  rw [doF] at h ⊢
  by_cases h1 : (treeF t).1 ≠ 0
  · rw [if_pos h1] at h; exact absurd h h1
  · rw [if_neg h1] at h ⊢
    by_cases h2 : (bindF bs).1 ≠ 0
    · rw [if_pos h2] at h; exact absurd h h2
    · rw [if_neg h2] at h ⊢
      by_cases h3 : (treeF (t.sub bs)).1 ≠ 0
      · rw [if_pos h3] at h; simp at h
      · rw [if_neg h3]; exact ⟨rfl, by simpa using h1, by simpa using h2, by simpa using h3⟩
theorem doF_err {t : T} {bs : List T} (h : (doF t bs).2.1 ≠ 0) : (doF t bs).1 = zeroT := by
  rw [doF] at h ⊢
  by_cases h1 : (treeF t).1 ≠ 0
  · rw [if_pos h1]
  · rw [if_neg h1] at h ⊢
    by_cases h2 : (bindF bs).1 ≠ 0
    · rw [if_pos h2]
    · rw [if_neg h2] at h ⊢
      by_cases h3 : (treeF (t.sub bs)).1 ≠ 0
      · rw [if_pos h3]
      · rw [if_neg h3] at h; exact absurd rfl h
theorem mem_preL : ∀ {ks : List T} {x : T}, x ∈ preL ks → ∃ i, i < ks.length ∧ x ∈ (gK ks i).pre
  | [], x, h => by cases h
  | t :: r, x, h => by
    have h : x ∈ t.pre ++ preL r := h
    rcases List.mem_append.1 h with h | h
    · exact ⟨0, by simp, h⟩
    · obtain ⟨i, hi, hx⟩ := mem_preL h
      exact ⟨i + 1, by simpa using hi, hx⟩
theorem T.sig.of {ar : List Int} {t : T} (h1 : okN t) (h2 : sigN ar t) (h3 : ∀ i, i < t.kids.length → (gK t.kids i).sig ar) : t.sig ar := ⟨fun x hx => by
  rw [T.pre_eq] at hx
  rcases List.mem_cons.1 hx with rfl | hx
  · exact ⟨h1, h2⟩
  · obtain ⟨i, hi, hx⟩ := mem_preL hx
    exact (h3 i hi).all x hx⟩
theorem okN_kid {t : T} (h : ∀ x ∈ t.pre, okN x) {i : Nat} (hi : i < t.kids.length) : ∀ x ∈ (gK t.kids i).pre, okN x := fun x hx =>
  h x (by rw [T.pre_eq]; exact List.mem_cons_of_mem _ (kid_pre_mem hi hx))
theorem okN_self {t : T} (h : ∀ x ∈ t.pre, okN x) : okN t := h t (by rw [T.pre_eq]; simp)
theorem okN_leaf {t : T} (h : ∀ x ∈ t.pre, okN x) (hn : t.head < 0) : t.kids = [] := List.eq_nil_of_length_eq_zero ((okN_num (okN_self h)).2.2.2.2 hn)
/-- what stands for variable number k -/
def ofK (s : Nat) (tb : List (List Int)) (th : List Int) (bs : List T) (k : Nat) : Int := if boundB bs k = true then (gK bs k).ev s tb th else if k < th.length then gI th k else 0
def ofF (s : Nat) (tb : List (List Int)) (th : List Int) (bs : List T) : List Int := (List.range 8).map (ofK s tb th bs)
theorem gI_ofF {s : Nat} {tb : List (List Int)} {th : List Int} {bs : List T} {k : Nat} (h : k < 8) : gI (ofF s tb th bs) k = ofK s tb th bs k := by
  unfold ofF gI; simp [List.getD, h]
theorem gK_map {f : T → T} {l : List T} {i : Nat} (h : i < l.length) : gK (l.map f) i = f (gK l i) := by simp [gK, h]
theorem ev_sub {s : Nat} {tb : List (List Int)} {th : List Int} {bs : List T} (t : T) : (∀ x ∈ t.pre, okN x) → (t.sub bs).ev s tb th = t.ev s tb (ofF s tb th bs) := by
  induction t using T.ind with
  | h t ih =>
    intro hok
    have hn := okN_num (okN_self hok)
    by_cases hneg : t.head < 0
    · have hi : (-t.head - 1).toNat < 8 := by omega
      rw [T.ev_eq (th := ofF s tb th bs), if_pos hneg, if_neg (by simp [ofF]; omega), gI_ofF hi]
      unfold ofK
      cases hb : boundB bs (-t.head - 1).toNat with
      | true => rw [T.sub_var hneg hb, if_pos rfl]
      | false =>
        rw [T.sub_free hneg hb, T.ev_eq, if_pos hneg]
        by_cases hl : (th.length : Int) < -t.head
        · rw [if_pos hl, if_neg (by simp), if_neg (by omega)]
        · rw [if_neg hl, if_neg (by simp), if_pos (by omega)]
    · rw [T.sub_pos hneg, T.ev_eq, T.ev_eq]
      show (if t.head < 0 then _ else _) = _
      rw [if_neg hneg, if_neg hneg]
      have key : ∀ (l : List T) (a : Int), (∀ i, i < l.length → ((gK l i).sub bs).ev s tb th = (gK l i).ev s tb (ofF s tb th bs)) → evL s tb th (l.map (T.sub bs)) a = evL s tb (ofF s tb th bs) l a := by
        intro l
        induction l with
        | nil => intro a _; rfl
        | cons x r ihl =>
          intro a h
          have hx : (x.sub bs).ev s tb th = x.ev s tb (ofF s tb th bs) := h 0 (by simp)
          simp only [List.map_cons, evL]
          rw [hx]
          exact ihl _ (fun i hi => h (i + 1) (by simpa using hi))
      show gI _ (evL s tb th (t.kids.map (T.sub bs)) 0).toNat = _
      rw [key t.kids 0 (fun i hi => ih i hi (okN_kid hok hi))]
      rfl
theorem sig_sub {ar : List Int} {bs : List T} (t : T) : (∀ x ∈ t.pre, okN x) → (t.sub bs).sig ar → t.sig ar := by
  induction t using T.ind with
  | h t ih =>
    intro hok hs
    by_cases hneg : t.head < 0
    · refine T.sig.of (okN_self hok) ⟨by omega, fun h => by omega⟩ (fun i hi => ?_)
      rw [okN_leaf hok hneg] at hi; simp at hi
    · rw [T.sub_pos hneg] at hs
      have h1 := hs.self.2
      refine T.sig.of (okN_self hok) ⟨h1.1, fun h => ?_⟩ (fun i hi => ?_)
      · have := h1.2 h
        simpa [T.kids, T.head] using this
      · have h2 := hs.kid (i := i) (by simpa [T.kids] using hi)
        have e : gK (T.node t.head (t.kids.map (T.sub bs))).kids i = (gK t.kids i).sub bs := gK_map hi
        rw [e] at h2
        exact ih i hi (okN_kid hok hi) h2
/-- a tree that stands for a variable fits if the whole does -/
theorem sig_var {ar : List Int} {bs : List T} {k : Nat} (hb : boundB bs k = true) (t : T) : (∀ x ∈ t.pre, okN x) → (t.sub bs).sig ar → t.times (-(k : Int) - 1) ≠ 0 → (gK bs k).sig ar := by
  induction t using T.ind with
  | h t ih =>
    intro hok hs ht
    rw [T.times_eq] at ht
    by_cases hneg : t.head < 0
    · rw [okN_leaf hok hneg] at ht
      simp only [timesL, Nat.add_zero] at ht
      by_cases hh : t.head = -(k : Int) - 1
      · have hk : (-t.head - 1).toNat = k := by omega
        rw [T.sub_var hneg (by rw [hk]; exact hb), hk] at hs
        exact hs
      · rw [if_neg hh] at ht; exact absurd rfl ht
    · rw [if_neg (by omega), Nat.zero_add] at ht
      rw [T.sub_pos hneg] at hs
      have key : ∀ l : List T, timesL (-(k : Int) - 1) l ≠ 0 → ∃ i, i < l.length ∧ (gK l i).times (-(k : Int) - 1) ≠ 0 := by
        intro l
        induction l with
        | nil => intro h; exact absurd rfl h
        | cons x r ihl =>
          intro h
          by_cases hx : x.times (-(k : Int) - 1) = 0
          · simp only [timesL, hx, Nat.zero_add] at h
            obtain ⟨i, hi, h2⟩ := ihl h
            exact ⟨i + 1, by simpa using hi, h2⟩
          · exact ⟨0, by simp, hx⟩
      obtain ⟨i, hi, h2⟩ := key _ ht
      have h3 := hs.kid (i := i) (by simpa [T.kids] using hi)
      have e : gK (T.node t.head (t.kids.map (T.sub bs))).kids i = (gK t.kids i).sub bs := gK_map hi
      rw [e] at h3
      exact ih i hi (okN_kid hok hi) h3 h2
theorem valueF_bad {ar : List Int} {cs : List (List Fc)} {sz : Int} {tb : List (List Int)} {x : T} {th : List Int} (h : (valueF ar cs sz tb x th).2.1 ≠ 0) : (valueF ar cs sz tb x th).1 = 0 := by
  unfold valueF at h ⊢
  by_cases h1 : (tabF ar cs sz tb).1 ≠ 0
  · rw [if_pos h1]
  · rw [if_neg h1] at h ⊢
    by_cases h2 : codeF ar [factX x] ≠ 0
    · rw [if_pos h2]
    · rw [if_neg h2] at h ⊢
      by_cases h3 : th.any (outS sz.toNat) = true
      · rw [if_pos h3]
      · rw [if_neg h3] at h; exact absurd rfl h
theorem outS_none {s : Nat} {th : List Int} : ¬ th.any (outS s) = true ↔ ThOK s th := by
  constructor
  · intro h x hx
    have h1 : ¬ outS s x = true := fun e => h (List.any_eq_true.2 ⟨x, hx, e⟩)
    unfold outS at h1
    simp only [Bool.or_eq_true, decide_eq_true_eq, not_or] at h1
    omega
  · intro h e
    obtain ⟨x, hx, he⟩ := List.any_eq_true.1 e
    have := h x hx
    unfold outS at he
    simp only [Bool.or_eq_true, decide_eq_true_eq] at he
    omega
theorem valueF_ok {ar : List Int} {cs : List (List Fc)} {sz : Int} {tb : List (List Int)} {x : T} {th : List Int} (h : (valueF ar cs sz tb x th).2.1 = 0) :
    (tabF ar cs sz tb).1 = 0 ∧ (treeF x).1 = 0 ∧ x.sig ar ∧ ThOK sz.toNat th ∧ valueF ar cs sz tb x th = (x.ev sz.toNat tb th, (0, 0)) := by
  unfold valueF at h ⊢
  by_cases h1 : (tabF ar cs sz tb).1 ≠ 0
  · rw [if_pos h1] at h; exact absurd h h1
  · rw [if_neg h1] at h ⊢
    by_cases h2 : codeF ar [factX x] ≠ 0
    · rw [if_pos h2] at h; exact absurd h h2
    · rw [if_neg h2] at h ⊢
      by_cases h3 : th.any (outS sz.toNat) = true
      · rw [if_pos h3] at h; cases h
      · rw [if_neg h3]
        have h4 := codeF_one.1 (show codeF ar [factX x] = 0 by simpa using h2)
        exact ⟨by simpa using h1, h4.1, h4.2, outS_none.1 h3, rfl⟩
theorem valueF_of {ar : List Int} {cs : List (List Fc)} {sz : Int} {tb : List (List Int)} {x : T} {th : List Int} (h1 : (tabF ar cs sz tb).1 = 0) (h2 : (treeF x).1 = 0) (h3 : x.sig ar) (h4 : ThOK sz.toNat th) :
    valueF ar cs sz tb x th = (x.ev sz.toNat tb th, (0, 0)) := by
  unfold valueF
  rw [if_neg (by simpa using h1), if_neg (by simpa using codeF_one.2 ⟨h2, h3⟩), if_neg (outS_none.2 h4)]
theorem ofF_ok {ar : List Int} {s : Nat} {tb : List (List Int)} {th : List Int} {bs : List T} (hT : TabOK ar s tb) (hth : ThOK s th) (h : ∀ k, k < 8 → boundB bs k = true → (gK bs k).sig ar) : ThOK s (ofF s tb th bs) := fun x hx => by
  unfold ofF at hx
  obtain ⟨k, hk, rfl⟩ := List.mem_map.1 hx
  have hk : k < 8 := by simpa using hk
  unfold ofK
  by_cases hb : boundB bs k = true
  · rw [if_pos hb]; exact T.ev_range hT hth _ (h k hk hb)
  · rw [if_neg hb]
    by_cases hl : k < th.length
    · rw [if_pos hl]; exact gI_in hth hl
    · rw [if_neg hl]; have := hT.1; omega
end Go.Proofs.Ytlhnfdjidjgfgaa
namespace Go.Proofs.Ytlhnfdjidjgfgaa
open Go.RowKit Go.Shelf
set_option linter.unusedVariables false
set_option maxHeartbeats 400000

noncomputable def normN (rs : List Ru) : Nat → T → Int × T
  | 0, t => match t.step rs with | some _ => (3, t) | none => (1, t)
  | n + 1, t => match t.step rs with | none => (1, t) | some x => if (treeF x).1 ≠ 0 then (0, zeroT) else normN rs n x
theorem ret_box2c {P : Program} {fn : Func} {R : Ending → World → Prop} {a : Act} {w : World} (z x y : Value) (b : Nat) (T : TypeId) (hb : w.heap[b]? = some (.cells #[x, y] T (0, 0)))
    (hres : ∀ w' : World, w'.cell? ⟨b, 0, none⟩ = some x → w'.cell? ⟨b, 1, none⟩ = some y → (results fn a.tmps).run P w' = .ok (.tuple #[z, .agg #[x, y]]) w') (hd : a.defers = [])
    (hR : R (.returned (.tuple #[z, .agg #[x, y]])) w) : bodyPost P fn R .ret a w := bodyPost_ret (hres w (box2 hb).1.1 (box2 hb).2.1) hd hR
def NormP (p0 : Nat → Prop) (r : Int × T) (w : World) (e : Ending) (w' : World) : Prop :=
  ∃ u, e = .returned (.tuple #[.int .i64 r.1, u]) ∧ TreeP (fun b => p0 b ∨ w.heap.size ≤ b) w' u r.2 ∧ Below w.heap.size w w'

end Go.Proofs.Ytlhnfdjidjgfgaa
namespace Go.Proofs.Ytlhnfdjidjgfgaa
open Go.RowKit
set_option linter.unusedVariables false

theorem var_leaf {t : T} (h : ∀ x ∈ t.pre, okN x) (hn : t.head < 0) : t = .node t.head [] := by
  have := okN_leaf h hn
  cases t with
  | node hd ks => simp only [T.kids] at this; rw [this]; rfl
theorem T.node_eta (t : T) : T.node t.head t.kids = t := by cases t; rfl
mutual
def T.inst (σ : Nat → T) : T → T
  | .node h ks => if h < 0 then σ (-h - 1).toNat else .node h (instL σ ks)
def instL (σ : Nat → T) : List T → List T
  | [] => []
  | k :: r => k.inst σ :: instL σ r
end
theorem T.inst_eq (σ : Nat → T) (t : T) : t.inst σ = if t.head < 0 then σ (-t.head - 1).toNat else .node t.head (instL σ t.kids) := by cases t; rw [T.inst]; rfl
theorem instL_length (σ : Nat → T) : ∀ l : List T, (instL σ l).length = l.length
  | [] => rfl
  | k :: r => by simp [instL, instL_length σ r]
/-- variable i stands in a tree -/
def T.has (t : T) (i : Nat) : Prop := 0 < t.times (-(i : Int) - 1)
theorem has_var {t : T} (h : t.head < 0) : t.has (-t.head - 1).toNat := by
  unfold T.has; rw [T.times_eq, if_pos (by omega)]; omega
theorem timesL_kid (x : Int) : ∀ {l : List T} {i : Nat}, i < l.length → (gK l i).times x ≤ timesL x l
  | [], i, h => by simp at h
  | k :: r, 0, _ => by simp only [gK, List.getD_cons_zero, timesL]; omega
  | k :: r, i + 1, h => by have := timesL_kid x (l := r) (i := i) (by simpa using h); simp only [gK, List.getD_cons_succ, timesL] at this ⊢; omega
theorem has_kid {t : T} {i j : Nat} (hj : j < t.kids.length) (h : (gK t.kids j).has i) : t.has i := by
  unfold T.has at h ⊢
  have := timesL_kid (-(i : Int) - 1) hj
  rw [T.times_eq]; omega
def hasL (l : List T) (i : Nat) : Prop := 0 < timesL (-(i : Int) - 1) l
theorem hasL_cons {k : T} {r : List T} {i : Nat} : hasL (k :: r) i ↔ k.has i ∨ hasL r i := by unfold hasL T.has; simp only [timesL]; omega
theorem has_cases {t : T} {i : Nat} (h : t.has i) : t.head = -(i : Int) - 1 ∨ hasL t.kids i := by
  unfold T.has at h; unfold hasL; rw [T.times_eq] at h
  by_cases e : t.head = -(i : Int) - 1
  · exact .inl e
  · rw [if_neg e] at h; right; omega
theorem hasL_has {t : T} {i : Nat} (h : hasL t.kids i) : t.has i := by
  unfold T.has; unfold hasL at h; rw [T.times_eq]; omega

theorem instL_congr {σ τ : Nat → T} : ∀ {l : List T}, (∀ j, j < l.length → (gK l j).inst σ = (gK l j).inst τ) → instL σ l = instL τ l
  | [], _ => rfl
  | k :: r, h => by
    have h0 := h 0 (by simp)
    simp only [gK, List.getD_cons_zero] at h0
    rw [instL, instL, h0, instL_congr (l := r) (fun j hj => by have := h (j + 1) (by simpa using hj); simpa only [gK, List.getD_cons_succ] using this)]
theorem inst_congr {σ τ : Nat → T} (t : T) (h : ∀ i, t.has i → σ i = τ i) : t.inst σ = t.inst τ := by
  induction t using T.ind with
  | h t ih =>
    rw [T.inst_eq, T.inst_eq]
    by_cases hn : t.head < 0
    · rw [if_pos hn, if_pos hn]; exact h _ (has_var hn)
    · rw [if_neg hn, if_neg hn, instL_congr (fun j hj => ih j hj (fun i hi => h i (has_kid hj hi)))]

def okA (t : T) : Prop := ∀ x ∈ t.pre, okN x
def nzA (t : T) : Prop := ∀ x ∈ t.pre, x.head ≠ 0
theorem okA.nz {t : T} (h : okA t) : nzA t := fun x hx e => (h x hx).1 (by unfold badHead; omega)
theorem okA.kid {t : T} (h : okA t) {i : Nat} (hi : i < t.kids.length) : okA (gK t.kids i) := okN_kid h hi
theorem nzA.kid {t : T} (h : nzA t) {i : Nat} (hi : i < t.kids.length) : nzA (gK t.kids i) := fun x hx => h x (by rw [T.pre_eq]; exact List.mem_cons_of_mem _ (kid_pre_mem hi hx))
theorem self_pre (t : T) : t ∈ t.pre := by rw [T.pre_eq]; simp
theorem nzA.head {t : T} (h : nzA t) : t.head ≠ 0 := h t (self_pre t)

def FitSound (p : T) : Prop := ∀ (t : T) (bs r : Nat → T), okA p → nzA t → p.fit t bs = some r →
  p.inst r = t ∧ (∀ i, (bs i).head ≠ 0 → r i = bs i) ∧ (∀ i, p.has i → (r i).head ≠ 0) ∧ ∀ i, (r i).head ≠ 0 → (bs i).head ≠ 0 ∨ (p.has i ∧ r i ∈ t.pre)
theorem fitL_sound : ∀ (ks ts : List T), (∀ i, i < ks.length → FitSound (gK ks i)) → ∀ (bs r : Nat → T), ks.length = ts.length → (∀ i, i < ks.length → okA (gK ks i)) → (∀ i, i < ts.length → nzA (gK ts i)) → fitL ks ts bs = some r →
    instL r ks = ts ∧ (∀ i, (bs i).head ≠ 0 → r i = bs i) ∧ (∀ i, hasL ks i → (r i).head ≠ 0) ∧ ∀ i, (r i).head ≠ 0 → (bs i).head ≠ 0 ∨ (hasL ks i ∧ r i ∈ preL ts)
  | [], [], _, bs, r, _, _, _, h => by
    rw [fitL] at h
    obtain rfl := Option.some.inj h
    exact ⟨rfl, fun i _ => rfl, fun i hi => by simp [hasL, timesL] at hi, fun i hi => .inl hi⟩
  | [], _ :: _, _, _, _, hl, _, _, _ => by simp at hl
  | _ :: _, [], _, _, _, hl, _, _, _ => by simp at hl
  | k :: kr, u :: ur, hP, bs, r, hl, hok, hnz, h => by
    rw [fitL] at h
    cases hk : k.fit u bs with
    | none => rw [hk] at h; simp at h
    | some b =>
      rw [hk] at h
      simp only at h
      have h0 := hP 0 (by simp); have o0 := hok 0 (by simp); have n0 := hnz 0 (by simp)
      simp only [gK, List.getD_cons_zero] at h0 o0 n0
      obtain ⟨a1, a2, a3, a4⟩ := h0 u bs b o0 n0 hk
      obtain ⟨b1, b2, b3, b4⟩ := fitL_sound kr ur (fun i hi => by have := hP (i + 1) (by simpa using hi); simpa only [gK, List.getD_cons_succ] using this) b r (by simpa using hl)
        (fun i hi => by have := hok (i + 1) (by simpa using hi); simpa only [gK, List.getD_cons_succ] using this) (fun i hi => by have := hnz (i + 1) (by simpa using hi); simpa only [gK, List.getD_cons_succ] using this) h
      have e1 : k.inst r = u := by rw [← a1]; exact inst_congr k (fun i hi => b2 i (a3 i hi))
      refine ⟨by rw [instL, e1, b1], fun i hi => ?_, fun i hi => ?_, fun i hi => ?_⟩
      · have := a2 i hi
        rw [b2 i (by rw [this]; exact hi), this]
      · rcases hasL_cons.1 hi with h1 | h1
        · rw [b2 i (a3 i h1)]; exact a3 i h1
        · exact b3 i h1
      · rcases b4 i hi with h1 | ⟨h1, h2⟩
        · have e := b2 i h1
          rcases a4 i h1 with h2 | ⟨h2, h3⟩
          · exact .inl h2
          · exact .inr ⟨hasL_cons.2 (.inl h2), by rw [e, preL]; exact List.mem_append_left _ h3⟩
        · exact .inr ⟨hasL_cons.2 (.inr h1), by rw [preL]; exact List.mem_append_right _ h2⟩
theorem fit_sound (p : T) : FitSound p := by
  induction p using T.ind with
  | h p ih =>
    intro t bs r hok hnz h
    rw [T.fit_eq] at h
    by_cases hn : p.head < 0
    · rw [if_pos hn] at h
      have hbad := (hok p (self_pre p)).1
      have e : ∀ i, p.has i → i = (-p.head - 1).toNat := fun i hi => by
        rcases has_cases hi with h1 | h1
        · omega
        · have := var_leaf hok hn
          rw [this] at h1; simp [hasL, T.kids, timesL] at h1
      by_cases hz : (bs (-p.head - 1).toNat).head = 0
      · rw [if_pos hz] at h
        obtain rfl := Option.some.inj h
        refine ⟨by rw [T.inst_eq, if_pos hn]; simp [setT], fun i hi => ?_, fun i hi => ?_, fun i hi => ?_⟩
        · unfold setT
          by_cases h1 : i = (-p.head - 1).toNat
          · rw [h1] at hi; exact absurd hz hi
          · rw [if_neg h1]
        · rw [e i hi]; simp [setT]; exact hnz.head
        · by_cases h1 : i = (-p.head - 1).toNat
          · right; subst h1; exact ⟨has_var hn, by simp [setT]; exact self_pre t⟩
          · left; have hi2 := hi; simp only [setT, if_neg h1] at hi2; exact hi2
      · rw [if_neg hz] at h
        by_cases hb : bs (-p.head - 1).toNat = t
        · rw [if_pos hb] at h
          obtain rfl := Option.some.inj h
          exact ⟨by rw [T.inst_eq, if_pos hn, hb], fun i _ => rfl, fun i hi => by rw [e i hi]; exact hz, fun i hi => .inl hi⟩
        · rw [if_neg hb] at h; cases h
    · rw [if_neg hn] at h
      by_cases hc : p.head = t.head ∧ p.kids.length = t.kids.length
      · rw [if_pos hc] at h
        obtain ⟨a1, a2, a3, a4⟩ := fitL_sound p.kids t.kids ih bs r hc.2 (fun i hi => hok.kid hi) (fun i hi => hnz.kid hi) h
        refine ⟨by rw [T.inst_eq, if_neg hn, a1, hc.1, T.node_eta], a2, fun i hi => ?_, fun i hi => ?_⟩
        · rcases has_cases hi with h1 | h1
          · omega
          · exact a3 i h1
        · rcases a4 i hi with h1 | ⟨h1, h2⟩
          · exact .inl h1
          · exact .inr ⟨hasL_has h1, by rw [T.pre_eq]; exact List.mem_cons_of_mem _ h2⟩
      · rw [if_neg hc] at h; cases h


theorem pre_sub {t : T} : ∀ {x : T}, x ∈ t.pre → ∀ y ∈ x.pre, y ∈ t.pre := by
  induction t using T.ind with
  | h t ih =>
    intro x hx y hy
    rw [T.pre_eq] at hx
    rcases List.mem_cons.1 hx with rfl | hx
    · exact hy
    · obtain ⟨i, hi, hx⟩ := mem_preL hx
      rw [T.pre_eq]; exact List.mem_cons_of_mem _ (kid_pre_mem hi (ih i hi hx y hy))
theorem T.sig.sub {ar : List Int} {t x : T} (h : t.sig ar) (hx : x ∈ t.pre) : x.sig ar := ⟨fun y hy => h.all y (pre_sub hx y hy)⟩
theorem T.sig.ok {ar : List Int} {t : T} (h : t.sig ar) : okA t := fun x hx => (h.all x hx).1
/-- the value of an instance, by what stands for the variables that occur -/
theorem ev_inst {s : Nat} {tb : List (List Int)} {th th' : List Int} {σ : Nat → T} (hl : th'.length = 8) (p : T) : okA p → (∀ i, p.has i → (σ i).ev s tb th = gI th' i) → (p.inst σ).ev s tb th = p.ev s tb th' := by
  induction p using T.ind with
  | h p ih =>
    intro hok h
    have hn := okN_num (okN_self hok)
    rw [T.inst_eq]
    by_cases hneg : p.head < 0
    · rw [if_pos hneg, T.ev_eq (th := th'), if_pos hneg, if_neg (by omega)]
      exact h _ (has_var hneg)
    · rw [if_neg hneg, T.ev_eq, T.ev_eq (th := th')]
      show (if p.head < 0 then _ else _) = _
      rw [if_neg hneg, if_neg hneg]
      have key : ∀ (l : List T) (a : Int), (∀ i, i < l.length → ((gK l i).inst σ).ev s tb th = (gK l i).ev s tb th') → evL s tb th (instL σ l) a = evL s tb th' l a := by
        intro l
        induction l with
        | nil => intro a _; rfl
        | cons x r ihl =>
          intro a h
          have hx : (x.inst σ).ev s tb th = x.ev s tb th' := h 0 (by simp)
          simp only [instL, evL]
          rw [hx]
          exact ihl _ (fun i hi => h (i + 1) (by simpa using hi))
      show gI _ (evL s tb th (instL σ p.kids) 0).toNat = _
      rw [key p.kids 0 (fun i hi => ih i hi (okN_kid hok hi) (fun j hj => h j (has_kid hi hj)))]
      rfl
theorem has_most {p : T} : ∀ {i : Nat}, p.has i → i < p.most.toNat := by
  induction p using T.ind with
  | h p ih =>
    intro i h
    rcases has_cases h with h1 | h1
    · have := head_most p; omega
    · have key : ∀ l : List T, hasL l i → ∃ j, j < l.length ∧ (gK l j).has i := by
        intro l
        induction l with
        | nil => intro h; simp [hasL, timesL] at h
        | cons x r ihl =>
          intro h
          rcases hasL_cons.1 h with h | h
          · exact ⟨0, by simp, h⟩
          · obtain ⟨j, hj, h2⟩ := ihl h
            exact ⟨j + 1, by simpa using hj, h2⟩
      obtain ⟨j, hj, h2⟩ := key _ h1
      have h3 := ih j hj h2
      have h4 := kid_most hj
      omega
theorem sig_sub_of {ar : List Int} {bs : List T} (hb : ∀ k, boundB bs k = true → (gK bs k).sig ar) (t : T) : t.sig ar → (t.sub bs).sig ar := by
  induction t using T.ind with
  | h t ih =>
    intro hs
    by_cases hneg : t.head < 0
    · cases hbb : boundB bs (-t.head - 1).toNat with
      | true => rw [T.sub_var hneg hbb]; exact hb _ hbb
      | false => rw [T.sub_free hneg hbb]; exact hs
    · rw [T.sub_pos hneg]
      have h1 := hs.self
      refine T.sig.of ?_ ⟨h1.2.1, fun h => ?_⟩ (fun i hi => ?_)
      · have h2 := h1.1
        unfold okN at h2 ⊢
        simpa [T.kids, T.head] using h2
      · have h2 := h1.2.2 h
        simpa [T.kids, T.head] using h2
      · have hi2 : i < t.kids.length := by simpa [T.kids] using hi
        have e : gK (T.node t.head (t.kids.map (T.sub bs))).kids i = (gK t.kids i).sub bs := gK_map hi2
        rw [e]
        exact ih i hi2 (hs.kid hi2)
/-- a rule that fits the signs and holds as an equation -/
def RuleOK (ar : List Int) (s : Nat) (tb : List (List Int)) (f : Ru) : Prop := f.1.sig ar ∧ f.2.sig ar ∧ ∀ th, ThOK s th → th.length = 8 → f.1.ev s tb th = f.2.ev s tb th
theorem root_ev {ar : List Int} {s : Nat} {tb : List (List Int)} (hT : TabOK ar s tb) : ∀ {rs : List Ru}, (∀ f ∈ rs, RuleOK ar s tb f) → ∀ {t x : T}, rootS rs t = some x → t.sig ar → x.sig ar ∧ ∀ th, ThOK s th → x.ev s tb th = t.ev s tb th
  | [], _, t, x, h, _ => by cases h
  | f :: r, hr, t, x, h, ht => by
    rw [rootS] at h
    cases hf : fitF f.1 t with
    | none => rw [hf] at h; exact root_ev hT (fun g hg => hr g (List.mem_cons_of_mem _ hg)) h ht
    | some b =>
      rw [hf] at h
      obtain rfl := Option.some.inj h
      obtain ⟨h1, h2, h3⟩ := hr f (List.mem_cons_self ..)
      unfold fitF at hf
      obtain ⟨σ, hσ, rfl⟩ := Option.map_eq_some_iff.1 hf
      obtain ⟨a1, _, a3, a4⟩ := fit_sound f.1 t _ σ h1.ok ht.ok.nz hσ
      have hbd : ∀ k, boundB (listT f.1.most.toNat σ) k = true → k < f.1.most.toNat ∧ (σ k).head ≠ 0 := fun k hk => by
        unfold boundB at hk
        rw [Bool.and_eq_true] at hk
        have hk1 : k < f.1.most.toNat := by have := of_decide_eq_true hk.1; rwa [listT_length] at this
        rw [listT_gK hk1] at hk
        exact ⟨hk1, by simpa using hk.2⟩
      have hbs : ∀ k, boundB (listT f.1.most.toNat σ) k = true → (gK (listT f.1.most.toNat σ) k).sig ar := fun k hk => by
        obtain ⟨hk1, hk2⟩ := hbd k hk
        rw [listT_gK hk1]
        rcases a4 k hk2 with h5 | ⟨_, h5⟩
        · exact absurd rfl h5
        · exact ht.sub h5
      refine ⟨sig_sub_of hbs f.2 h2, fun th hth => ?_⟩
      rw [ev_sub f.2 h2.ok, ← h3 _ (ofF_ok hT hth (fun k _ hk => hbs k hk)) (by simp [ofF]), ← ev_inst (σ := σ) (th := th) (by simp [ofF]) f.1 h1.ok (fun i hi => ?_), a1]
      have hi1 := has_most hi
      have hi8 : i < 8 := by
        have hm : f.1.most ≤ 8 := by
          have key : ∀ t : T, okA t → t.most ≤ 8 := by
            intro t
            induction t using T.ind with
            | h t ih =>
              intro hh
              rw [T.most_eq]
              have h4 := okN_num (okN_self hh)
              have key2 : ∀ l : List T, (∀ i, i < l.length → (gK l i).most ≤ 8) → mostL l ≤ 8 := by
                intro l
                induction l with
                | nil => intro _; simp [mostL]
                | cons y r ih2 => intro h6; simp only [mostL]; have h7 : y.most ≤ 8 := h6 0 (by simp); have h8 := ih2 (fun i hi => h6 (i + 1) (by simpa using hi)); omega
              have h5 := key2 t.kids (fun i hi => ih i hi (okN_kid hh hi))
              split <;> omega
          exact key _ h1.ok
        omega
      rw [gI_ofF hi8]
      unfold ofK
      have hbb : boundB (listT f.1.most.toNat σ) i = true := by
        unfold boundB
        rw [listT_length, decide_eq_true hi1, listT_gK hi1]
        simpa using a3 i hi
      rw [if_pos hbb, listT_gK hi1]
theorem step_ev {ar : List Int} {s : Nat} {tb : List (List Int)} (hT : TabOK ar s tb) {rs : List Ru} (hr : ∀ f ∈ rs, RuleOK ar s tb f) (t : T) : ∀ {x : T}, t.step rs = some x → t.sig ar → x.sig ar ∧ ∀ th, ThOK s th → x.ev s tb th = t.ev s tb th := by
  induction t using T.ind with
  | h t ih =>
    intro x h ht
    rw [T.step_eq] at h
    have key : ∀ (l m : List T), (∀ i, i < l.length → (gK l i).sig ar) → (∀ i, i < l.length → ∀ {x : T}, (gK l i).step rs = some x → (gK l i).sig ar → x.sig ar ∧ ∀ th, ThOK s th → x.ev s tb th = (gK l i).ev s tb th) → stepL rs l = some m →
        m.length = l.length ∧ (∀ i, i < m.length → (gK m i).sig ar) ∧ ∀ th, ThOK s th → ∀ a, evL s tb th m a = evL s tb th l a := by
      intro l
      induction l with
      | nil => intro m _ _ h; cases h
      | cons y r ihl =>
        intro m hsg hst h
        rw [stepL] at h
        have hys : y.sig ar := hsg 0 (by simp)
        cases hstep : y.step rs with
        | some z =>
          rw [hstep] at h
          obtain rfl := Option.some.inj h
          obtain ⟨h1, h2⟩ : z.sig ar ∧ ∀ th, ThOK s th → z.ev s tb th = y.ev s tb th := hst 0 (by simp) (x := z) hstep hys
          refine ⟨rfl, fun i hi => ?_, fun th hth a => ?_⟩
          · rcases i with _ | i
            · exact h1
            · exact hsg (i + 1) (by simpa using hi)
          · simp only [evL]
            rw [h2 th hth]
        | none =>
          rw [hstep] at h
          cases hl : stepL rs r with
          | none => rw [hl] at h; cases h
          | some l' =>
            rw [hl] at h
            obtain rfl := Option.some.inj h
            obtain ⟨h1, h2, h3⟩ := ihl l' (fun i hi => hsg (i + 1) (by simpa using hi)) (fun i hi => hst (i + 1) (by simpa using hi)) hl
            refine ⟨by simp [h1], fun i hi => ?_, fun th hth a => ?_⟩
            · rcases i with _ | i
              · exact hys
              · exact h2 i (by simpa using hi)
            · simp only [evL]
              exact h3 th hth _
    cases hl : stepL rs t.kids with
    | none => rw [hl] at h; exact root_ev hT hr h ht
    | some l =>
      rw [hl] at h
      obtain rfl := Option.some.inj h
      obtain ⟨h1, h2, h3⟩ := key t.kids l (fun i hi => ht.kid hi) (fun i hi => ih i hi) hl
      have hself := ht.self
      refine ⟨T.sig.of ?_ ⟨hself.2.1, fun h => ?_⟩ (fun i hi => h2 i hi), fun th hth => ?_⟩
      · have h4 := hself.1
        unfold okN at h4 ⊢
        show ¬ badHead t.head ∧ ¬ badKids t.head l.length
        rw [h1]; exact h4
      · show (l.length : Int) = _
        rw [h1]; exact hself.2.2 h
      · rw [T.ev_eq, T.ev_eq (t := t)]
        show (if t.head < 0 then (if (th.length : Int) < -t.head then 0 else gI th (-t.head - 1).toNat) else gI (tb.getD (t.head - 1).toNat []) (evL s tb th l 0).toNat) = _
        rw [h3 th hth]
theorem norm_ev {ar : List Int} {s : Nat} {tb : List (List Int)} (hT : TabOK ar s tb) {rs : List Ru} (hr : ∀ f ∈ rs, RuleOK ar s tb f) : ∀ (n : Nat) (t : T), t.sig ar → (treeF t).1 = 0 → (normN rs n t).1 ≠ 0 →
    (treeF (normN rs n t).2).1 = 0 ∧ (normN rs n t).2.sig ar ∧ ∀ th, ThOK s th → (normN rs n t).2.ev s tb th = t.ev s tb th
  | 0, t, ht, hk, _ => by rw [normN]; cases t.step rs <;> exact ⟨hk, ht, fun th _ => rfl⟩
  | n + 1, t, ht, hk, h => by
    rw [normN] at h ⊢
    cases hs : t.step rs with
    | none => rw [hs] at h; exact ⟨hk, ht, fun th _ => rfl⟩
    | some x =>
      rw [hs] at h
      dsimp only at h ⊢
      by_cases hx : (treeF x).1 ≠ 0
      · rw [if_pos hx] at h; exact absurd rfl h
      · rw [if_neg hx] at h ⊢
        obtain ⟨h1, h2⟩ := step_ev hT hr t hs ht
        obtain ⟨h3, h4, h5⟩ := norm_ev hT hr n x h1 (by simpa using hx) h
        exact ⟨h3, h4, fun th hth => (h5 th hth).trans (h2 th hth)⟩
end Go.Proofs.Ytlhnfdjidjgfgaa
namespace Go.Proofs.Ytlhnfdjidjgfgaa
open Go.RowKit Go.Shelf
set_option linter.unusedVariables false

theorem T.get_nil (t : T) (i : Int) : t.get [] i = (t, -1) := by rw [T.get]
theorem T.get_cons (t : T) (z : Int) (ps : List Int) (i : Int) : t.get (z :: ps) i = if z < 1 ∨ (t.kids.length : Int) < z then (zeroT, i) else (gK t.kids (z - 1).toNat).get ps (i + 1) := by rw [T.get]
theorem get_found : ∀ (p : List Int) (t : T) (i j : Int), 0 ≤ i → 0 ≤ j → (t.get p i).1 = (t.get p j).1 ∧ ((t.get p i).2 < 0 ↔ (t.get p j).2 < 0)
  | [], t, i, j, _, _ => by rw [T.get_nil, T.get_nil]; simp
  | z :: ps, t, i, j, hi, hj => by
    rw [T.get_cons, T.get_cons]
    by_cases h : z < 1 ∨ (t.kids.length : Int) < z
    · rw [if_pos h, if_pos h]; simp; omega
    · rw [if_neg h, if_neg h]; exact get_found ps _ _ _ (by omega) (by omega)
theorem get_zero : ∀ (p : List Int) (t : T) (i : Int), 0 ≤ i → 0 ≤ (t.get p i).2 → (t.get p i).1 = zeroT
  | [], t, i, _, h => by rw [T.get_nil] at h; simp at h
  | z :: ps, t, i, hi, h => by
    rw [T.get_cons] at h ⊢
    by_cases hz : z < 1 ∨ (t.kids.length : Int) < z
    · rw [if_pos hz]
    · rw [if_neg hz] at h ⊢; exact get_zero ps _ _ (by omega) h
theorem get_append : ∀ (p q : List Int) (t : T) (i : Int), 0 ≤ i → (t.get p i).2 < 0 → t.get (p ++ q) i = (t.get p i).1.get q (i + p.length)
  | [], q, t, i, _, _ => by rw [T.get_nil]; simp
  | z :: ps, q, t, i, hi, h => by
    rw [List.cons_append, T.get_cons] at *
    rw [T.get_cons]
    by_cases hz : z < 1 ∨ (t.kids.length : Int) < z
    · rw [if_pos hz] at h; simp only at h; omega
    · rw [if_neg hz] at h
      rw [if_neg hz, if_neg hz, get_append ps q _ (i + 1) (by omega) h]
      congr 1; simp only [List.length_cons]; omega
theorem withAt_cons (p : Int) (ps : List Int) (t s : T) : T.withAt (p :: ps) t s = .node t.head (t.kids.mapIdx fun i k => if (i : Int) + 1 = p then T.withAt ps k s else k) := by rw [T.withAt]
theorem withAt_same : ∀ (p : List Int) (t : T) (i : Int), 0 ≤ i → (t.get p i).2 < 0 → T.withAt p t (t.get p i).1 = t
  | [], t, i, _, _ => by rw [T.get_nil]; rfl
  | z :: ps, t, i, hi, h => by
    rw [T.get_cons] at h ⊢
    by_cases hz : z < 1 ∨ (t.kids.length : Int) < z
    · rw [if_pos hz] at h; simp only at h; omega
    · rw [if_neg hz] at h ⊢
      have ih := withAt_same ps (gK t.kids (z - 1).toNat) (i + 1) (by omega) h
      generalize ((gK t.kids (z - 1).toNat).get ps (i + 1)).1 = A at ih ⊢
      rw [withAt_cons]
      conv => rhs; rw [← T.node_eta t]
      congr 1
      apply List.ext_getElem (by simp)
      intro j h1 h2
      simp only [List.getElem_mapIdx]
      by_cases e : (j : Int) + 1 = z
      · rw [if_pos e]
        have ej : (z - 1).toNat = j := by omega
        rw [ej, gK_get h2] at ih
        exact ih
      · rw [if_neg e]
theorem get_withAt : ∀ (p : List Int) (t s : T) (i j : Int), 0 ≤ i → 0 ≤ j → (t.get p i).2 < 0 → (T.withAt p t s).get p j = (s, -1)
  | [], t, s, i, j, _, _, _ => by rw [T.get_nil]; rfl
  | z :: ps, t, s, i, j, hi, hj, h => by
    rw [T.get_cons] at h
    by_cases hz : z < 1 ∨ (t.kids.length : Int) < z
    · rw [if_pos hz] at h; simp only at h; omega
    · rw [if_neg hz] at h
      rw [T.get_cons, withAt_cons]
      show (if z < 1 ∨ ((t.kids.mapIdx _).length : Int) < z then _ else (gK (t.kids.mapIdx _) _).get ps _) = _
      rw [if_neg (by simpa using hz), gK_mapIdx _ _ (by omega), if_pos (by omega)]
      exact get_withAt ps _ s (i + 1) _ (by omega) (by omega) h
theorem get_pre : ∀ (p : List Int) (t : T) (i : Int), 0 ≤ i → (t.get p i).2 < 0 → ∀ x ∈ (t.get p i).1.pre, x ∈ t.pre
  | [], t, i, _, _ => by rw [T.get_nil]; exact fun x h => h
  | z :: ps, t, i, hi, h => by
    rw [T.get_cons] at h ⊢
    by_cases hz : z < 1 ∨ (t.kids.length : Int) < z
    · rw [if_pos hz] at h; simp only at h; omega
    · rw [if_neg hz] at h ⊢
      intro x hx
      have := get_pre ps _ (i + 1) (by omega) h x hx
      rw [T.pre_eq]; exact List.mem_cons_of_mem _ (kid_pre_mem (by omega) this)
theorem kid_deepL : ∀ {l : List T} {i : Nat}, i < l.length → (gK l i).deep ≤ deepL l
  | [], i, h => by simp at h
  | x :: r, 0, _ => by simp only [gK, List.getD_cons_zero, deepL]; omega
  | x :: r, i + 1, h => by have := kid_deepL (l := r) (i := i) (by simpa using h); simp only [gK, List.getD_cons_succ, deepL] at this ⊢; omega
theorem get_deep : ∀ (p : List Int) (t : T) (i : Int), 0 ≤ i → (t.get p i).2 < 0 → (t.get p i).1.deep ≤ t.deep
  | [], t, i, _, _ => by rw [T.get_nil]; exact Nat.le_refl _
  | z :: ps, t, i, hi, h => by
    rw [T.get_cons] at h ⊢
    by_cases hz : z < 1 ∨ (t.kids.length : Int) < z
    · rw [if_pos hz] at h; simp only at h; omega
    · rw [if_neg hz] at h ⊢
      have := get_deep ps _ (i + 1) (by omega) h
      have h2 : (gK t.kids (z - 1).toNat).deep ≤ t.deep := by rw [T.deep_eq t]; have := kid_deepL (l := t.kids) (i := (z - 1).toNat) (by omega); omega
      omega
end Go.Proofs.Ytlhnfdjidjgfgaa
