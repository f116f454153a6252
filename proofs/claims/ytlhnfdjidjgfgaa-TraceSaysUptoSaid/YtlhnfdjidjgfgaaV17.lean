/-
  Walks: table.Value.
  The closed fact of the table laws: what it comes to; a row in a block.
  Plain: fewer facts, fewer claims.
  Plain: the value of an instance is the value under the values.
-/
import Derived.Test.YtlhnfdjidjgfgaaProg
import Derived.Test.YtlhnfdjidjgfgaaV11
import Derived.RegionTactic
import Derived.WalkKit
import Derived.Test.YtlhnfdjidjgfgaaT29
namespace Go.Proofs.Ytlhnfdjidjgfgaa
open Go.RowKit Go.Shelf
set_option linter.unusedVariables false
set_option maxHeartbeats 400000

def factX (x : T) : Fc := ⟨false, x, x⟩
noncomputable def valueF (ar : List Int) (cs : List (List Fc)) (sz : Int) (tb : List (List Int)) (x : T) (th : List Int) : Int × (Int × Int) :=
  if (tabF ar cs sz tb).1 ≠ 0 then (0, tabF ar cs sz tb) else if codeF ar [factX x] ≠ 0 then (0, (codeF ar [factX x], -2)) else if th.any (outS sz.toNat) = true then (0, (3, -3)) else (x.ev sz.toNat tb th, (0, 0))
theorem codeF_one {ar : List Int} {x : T} : codeF ar [factX x] = 0 ↔ (treeF x).1 = 0 ∧ x.sig ar := by
  rw [codeF_zero]
  constructor
  · intro h; exact h.2 x (by simp [treesF, factX])
  · intro h
    refine ⟨by simp, fun t ht => ?_⟩
    simp [treesF, factX] at ht
    subst ht; exact h

end Go.Proofs.Ytlhnfdjidjgfgaa
namespace Go.Proofs.Ytlhnfdjidjgfgaa
open Go.RowKit Go.Shelf
set_option linter.unusedVariables false
set_option maxHeartbeats 400000

def xT : T := .node 2 [.node (-1) []]
def clT : List Fc := [⟨false, xT, .node 1 []⟩]
set_option maxRecDepth 100000 in
theorem holdsT : holdsF [0, 1] [clT] 2 [[1], [1, 1]] = ([true], (0, 0)) := by kernel_rfl
set_option maxRecDepth 100000 in
theorem valueT : valueF [0, 1] [clT] 2 [[1], [1, 0]] xT [1] = (0, (0, 0)) := by kernel_rfl
/-- the elements of a block -/
theorem row_block {α : Type} (E : Elt α) {p : Nat → Prop} {w : World} {g : Nat} {cs : Array Value} {T : TypeId} (hb : w.heap[g]? = some (.cells cs T (0, 0))) (hp : p g) (css : List (List Value)) (xs : List α) (hf : cs.toList = css.flatten) (hl : css.length = xs.length)
    (he : ∀ (i : Nat) c x, css[i]? = some c → xs[i]? = some x → E.is p w c x) : E.Row p w (some ⟨g, 0, none⟩) xs := fun i x hi => by
  have hil := (List.getElem?_eq_some_iff.1 hi).1
  have hc : css[i]? = some css[i] := List.getElem?_eq_getElem (by omega)
  have hx := he i _ _ hc hi
  refine ⟨g, 0, css[i], rfl, hp, fun j u hu => ?_, hx⟩
  have h1 := flat_at (n := E.n) (Elt.lens hl he) hc hu
  rw [← hf] at h1
  have h2 : cs[i * E.n + j]? = some u := by rw [← h1]; simp
  simp [World.cell?, hb, h2]
end Go.Proofs.Ytlhnfdjidjgfgaa
namespace Go.Proofs.Ytlhnfdjidjgfgaa
open Go.RowKit Go.Shelf
set_option linter.unusedVariables false
set_option maxHeartbeats 400000

theorem gI_take {l : List Int} {m i : Nat} (h : i < m) : gI (l.take m) i = gI l i := by unfold gI; simp [List.getD, h]
/-- a tree's value hangs on the things of its variables alone -/
theorem ev_agree {s : Nat} {tb : List (List Int)} {th th' : List Int} (hle : th'.length ≤ th.length) (hag : ∀ i, i < th'.length → gI th' i = gI th i) (t : T) : t.most ≤ th'.length → t.ev s tb th' = t.ev s tb th := by
  induction t using T.ind with
  | h t ih =>
    intro hm
    rw [T.most_eq] at hm
    rw [T.ev_eq, T.ev_eq]
    by_cases hn : t.head < 0
    · rw [if_pos hn] at hm
      rw [if_pos hn, if_pos hn, if_neg (by omega), if_neg (by omega)]
      exact hag _ (by omega)
    · rw [if_neg hn, if_neg hn]
      have key : ∀ (l : List T) (a : Int), (∀ i, i < l.length → (gK l i).most ≤ th'.length → (gK l i).ev s tb th' = (gK l i).ev s tb th) → mostL l ≤ th'.length → evL s tb th' l a = evL s tb th l a := by
        intro l
        induction l with
        | nil => intro a _ _; rfl
        | cons x r ihl =>
          intro a h1 h2
          simp only [mostL] at h2
          have hx : x.ev s tb th' = x.ev s tb th := h1 0 (by simp) (show x.most ≤ _ by omega)
          simp only [evL]
          rw [hx]
          exact ihl _ (fun i hi => h1 (i + 1) (by simpa using hi)) (by omega)
      rw [key t.kids 0 (fun i hi => ih i hi) (by omega)]
theorem fact_most {fs : List Fc} {f : Fc} (h : f ∈ fs) : f.l.most ≤ (varsC fs : Nat) ∧ f.r.most ≤ (varsC fs : Nat) := by
  rw [varsC_cast]
  induction fs with
  | nil => cases h
  | cons g r ih =>
    simp only [treesF, mostL]
    rcases List.mem_cons.1 h with rfl | h
    · constructor <;> omega
    · have := ih h; constructor <;> omega
theorem varsC_take {fs : List Fc} {m : Nat} : varsC (fs.take m) ≤ varsC fs := by
  have h : mostL (treesF (fs.take m)) ≤ mostL (treesF fs) := by
    conv => rhs; rw [← List.take_append_drop m fs]
    rw [treesF_append, mostL_append]; omega
  rw [← varsC_cast, ← varsC_cast] at h
  omega
theorem wide_pow {s : Nat} {fs : List Fc} (hs : 1 ≤ s) : wideB s fs = false ↔ s ^ varsC fs ≤ 4096 := by
  unfold wideB
  rw [decide_eq_false_iff_not]
  constructor
  · intro h
    have h1 := powN_eq (b := s) (most := 4096) hs (varsC fs) 1 (by omega)
    rw [Nat.one_mul] at h1
    omega
  · intro h
    have h1 := powN_of (b := s) (most := 4096) hs (varsC fs) 1 (by omega)
    rw [Nat.one_mul] at h1
    omega
theorem wide_take {s : Nat} {fs : List Fc} {m : Nat} (hs : 1 ≤ s) (h : wideB s fs = false) : wideB s (fs.take m) = false := by
  rw [wide_pow hs] at h ⊢
  exact Nat.le_trans (Nat.pow_le_pow_right hs varsC_take) h
/-- a claim is true if it is so under every row of things -/
theorem trueF_iff {s : Nat} {tb : List (List Int)} {fs : List Fc} (hs : 1 ≤ s) (hw : wideB s fs = false) : trueF s tb fs = true ↔ ∀ th, ThOK s th → th.length = varsC fs → fs.any (factB s tb th) = true := by
  have hp : powN s 4096 (varsC fs) 1 = s ^ varsC fs := by
    have h1 := powN_of (b := s) (most := 4096) hs (varsC fs) 1 (by have := (wide_pow hs).1 hw; omega)
    rwa [Nat.one_mul] at h1
  unfold trueF
  rw [hp, List.all_eq_true]
  constructor
  · intro h th hth hl
    obtain ⟨k, hk, he⟩ := dig_all hth
    rw [hl] at hk he
    have := h k (by simpa using hk)
    rw [he] at this; exact this
  · intro h k hk
    exact h _ (dig_ok hs _ _) (dig_length _ _)
theorem trueF_more {s : Nat} {tb : List (List Int)} {fs : List Fc} {m : Nat} (hs : 1 ≤ s) (hw : wideB s fs = false) (h : trueF s tb (fs.take m) = true) : trueF s tb fs = true := by
  rw [trueF_iff hs hw]
  rw [trueF_iff hs (wide_take hs hw)] at h
  intro th hth hl
  have hv := varsC_take (fs := fs) (m := m)
  have h1 := h (th.take (varsC (fs.take m))) (fun x hx => hth x (List.mem_of_mem_take hx)) (by simp; omega)
  obtain ⟨f, hf, hb⟩ := List.any_eq_true.1 h1
  refine List.any_eq_true.2 ⟨f, List.mem_of_mem_take hf, ?_⟩
  have hm := fact_most hf
  have hl2 : (th.take (varsC (fs.take m))).length = varsC (fs.take m) := by simp; omega
  unfold factB at hb ⊢
  rw [ev_agree (th := th) (by omega) (fun i hi => gI_take (by omega)) f.l (by rw [hl2]; exact hm.1), ev_agree (th := th) (by omega) (fun i hi => gI_take (by omega)) f.r (by rw [hl2]; exact hm.2)] at hb
  exact hb
theorem trueF_nil {s : Nat} {tb : List (List Int)} : trueF s tb [] = false := by
  unfold trueF
  have : varsC [] = 0 := rfl
  rw [this, powN, List.all_eq_false]
  exact ⟨0, by simp, by simp⟩
theorem codeF_take {ar : List Int} {fs : List Fc} {m : Nat} (h : codeF ar fs = 0) : codeF ar (fs.take m) = 0 := by
  rw [codeF_zero] at h ⊢
  refine ⟨by simp; omega, fun t ht => h.2 t ?_⟩
  rw [← List.take_append_drop m fs, treesF_append]
  exact List.mem_append_left _ ht
theorem idxP_neg {α : Type} {P : α → Bool} {l : List α} : ¬ 0 ≤ idxP P l ↔ ∀ x ∈ l, P x = false := by
  rw [idxP_any]
  constructor
  · intro h x hx
    cases hp : P x with
    | false => rfl
    | true => exact absurd (List.any_eq_true.2 ⟨x, hx, hp⟩) h
  · intro h e
    obtain ⟨x, hx, hp⟩ := List.any_eq_true.1 e
    rw [h x hx] at hp; cases hp
theorem loreF_one {ar : List Int} {cs : List (List Fc)} {c : List Fc} (h : (loreF ar cs).1 = 0) (hc : codeF ar c = 0) : loreF ar [c] = (0, 0) := by
  obtain ⟨_, h1, _, h2, _⟩ := loreF_zero h
  unfold loreF
  rw [if_neg (by simp; omega), if_neg (by
    rw [idxP_neg]
    intro x hx
    have := h2 x hx
    unfold badA
    rw [decide_eq_false (by omega), decide_eq_false (by omega)]; rfl)]
  simp [firstP, hc]
theorem tabF_one {ar : List Int} {cs : List (List Fc)} {sz : Int} {tb : List (List Int)} {c : List Fc} (h : (tabF ar cs sz tb).1 = 0) (hc : codeF ar c = 0) : tabF ar [c] sz tb = (0, 0) := by
  obtain ⟨h0, h1, _⟩ := tabF_zero h
  have h2 := (loreF_zero h1).1
  have h3 := loreF_one h1 hc
  unfold tabF at h0 ⊢
  rw [h2] at h0
  rw [h3]
  exact h0
theorem holdsF_bad {ar : List Int} {cs : List (List Fc)} {sz : Int} {tb : List (List Int)} (h : (holdsF ar cs sz tb).2.1 ≠ 0) : (holdsF ar cs sz tb).1 = [] := by
  unfold holdsF at h ⊢
  by_cases h1 : (tabF ar cs sz tb).1 ≠ 0
  · rw [if_pos h1]
  · rw [if_neg h1] at h ⊢
    by_cases h2 : 0 ≤ idxP (wideB sz.toNat) cs
    · rw [if_pos h2]
    · rw [if_neg h2] at h; exact absurd rfl h
theorem holdsF_ok {ar : List Int} {cs : List (List Fc)} {sz : Int} {tb : List (List Int)} (h : (holdsF ar cs sz tb).2.1 = 0) : (tabF ar cs sz tb).1 = 0 ∧ (∀ c ∈ cs, wideB sz.toNat c = false) ∧ holdsF ar cs sz tb = (cs.map (trueF sz.toNat tb), (0, 0)) := by
  unfold holdsF at h ⊢
  by_cases h1 : (tabF ar cs sz tb).1 ≠ 0
  · rw [if_pos h1] at h; exact absurd h h1
  · rw [if_neg h1] at h ⊢
    by_cases h2 : 0 ≤ idxP (wideB sz.toNat) cs
    · rw [if_pos h2] at h; cases h
    · rw [if_neg h2]; exact ⟨by simpa using h1, idxP_neg.1 h2, rfl⟩
theorem holdsF_one {ar : List Int} {cs : List (List Fc)} {sz : Int} {tb : List (List Int)} {c : List Fc} (h : (tabF ar cs sz tb).1 = 0) (hc : codeF ar c = 0) (hw : wideB sz.toNat c = false) : holdsF ar [c] sz tb = ([trueF sz.toNat tb c], (0, 0)) := by
  unfold holdsF
  rw [tabF_one h hc, if_neg (by simp), if_neg (by rw [idxP_neg]; intro x hx; simp at hx; rw [hx]; exact hw)]
  rfl
end Go.Proofs.Ytlhnfdjidjgfgaa
namespace Go.Proofs.Ytlhnfdjidjgfgaa
open Go.RowKit Go.Shelf
set_option linter.unusedVariables false
set_option maxHeartbeats 400000

theorem doF_ok {t : T} {bs : List T} (h : (doF t bs).2.1 = 0) : doF t bs = (t.sub bs, (0, 0)) ∧ (treeF t).1 = 0 ∧ (bindF bs).1 = 0 ∧ (treeF (t.sub bs)).1 = 0 := by
  rw [doF] at h ⊢
  by_cases h1 : (treeF t).1 ≠ 0
  · rw [if_pos h1] at h; exact absurd h h1
  · rw [if_neg h1] at h ⊢
    by_cases h2 : (bindF bs).1 ≠ 0
    · rw [if_pos h2] at h; exact absurd h h2
    · rw [if_neg h2] at h ⊢
      by_cases h3 : (treeF (t.sub bs)).1 ≠ 0
      · rw [if_pos h3] at h; simp at h
      · rw [if_neg h3]; exact ⟨rfl, by simpa using h1, by simpa using h2, by simpa using h3⟩
theorem doF_err {t : T} {bs : List T} (h : (doF t bs).2.1 ≠ 0) : (doF t bs).1 = zeroT := by
  rw [doF] at h ⊢
  by_cases h1 : (treeF t).1 ≠ 0
  · rw [if_pos h1]
  · rw [if_neg h1] at h ⊢
    by_cases h2 : (bindF bs).1 ≠ 0
    · rw [if_pos h2]
    · rw [if_neg h2] at h ⊢
      by_cases h3 : (treeF (t.sub bs)).1 ≠ 0
      · rw [if_pos h3]
      · rw [if_neg h3] at h; exact absurd rfl h
theorem mem_preL : ∀ {ks : List T} {x : T}, x ∈ preL ks → ∃ i, i < ks.length ∧ x ∈ (gK ks i).pre
  | [], x, h => by cases h
  | t :: r, x, h => by
    have h : x ∈ t.pre ++ preL r := h
    rcases List.mem_append.1 h with h | h
    · exact ⟨0, by simp, h⟩
    · obtain ⟨i, hi, hx⟩ := mem_preL h
      exact ⟨i + 1, by simpa using hi, hx⟩
theorem T.sig.of {ar : List Int} {t : T} (h1 : okN t) (h2 : sigN ar t) (h3 : ∀ i, i < t.kids.length → (gK t.kids i).sig ar) : t.sig ar := ⟨fun x hx => by
  rw [T.pre_eq] at hx
  rcases List.mem_cons.1 hx with rfl | hx
  · exact ⟨h1, h2⟩
  · obtain ⟨i, hi, hx⟩ := mem_preL hx
    exact (h3 i hi).all x hx⟩
theorem okN_kid {t : T} (h : ∀ x ∈ t.pre, okN x) {i : Nat} (hi : i < t.kids.length) : ∀ x ∈ (gK t.kids i).pre, okN x := fun x hx =>
  h x (by rw [T.pre_eq]; exact List.mem_cons_of_mem _ (kid_pre_mem hi hx))
theorem okN_self {t : T} (h : ∀ x ∈ t.pre, okN x) : okN t := h t (by rw [T.pre_eq]; simp)
theorem okN_leaf {t : T} (h : ∀ x ∈ t.pre, okN x) (hn : t.head < 0) : t.kids = [] := List.eq_nil_of_length_eq_zero ((okN_num (okN_self h)).2.2.2.2 hn)
/-- what stands for variable number k -/
def ofK (s : Nat) (tb : List (List Int)) (th : List Int) (bs : List T) (k : Nat) : Int := if boundB bs k = true then (gK bs k).ev s tb th else if k < th.length then gI th k else 0
def ofF (s : Nat) (tb : List (List Int)) (th : List Int) (bs : List T) : List Int := (List.range 8).map (ofK s tb th bs)
theorem gI_ofF {s : Nat} {tb : List (List Int)} {th : List Int} {bs : List T} {k : Nat} (h : k < 8) : gI (ofF s tb th bs) k = ofK s tb th bs k := by
  unfold ofF gI; simp [List.getD, h]
theorem gK_map {f : T → T} {l : List T} {i : Nat} (h : i < l.length) : gK (l.map f) i = f (gK l i) := by simp [gK, h]
theorem ev_sub {s : Nat} {tb : List (List Int)} {th : List Int} {bs : List T} (t : T) : (∀ x ∈ t.pre, okN x) → (t.sub bs).ev s tb th = t.ev s tb (ofF s tb th bs) := by
  induction t using T.ind with
  | h t ih =>
    intro hok
    have hn := okN_num (okN_self hok)
    by_cases hneg : t.head < 0
    · have hi : (-t.head - 1).toNat < 8 := by omega
      rw [T.ev_eq (th := ofF s tb th bs), if_pos hneg, if_neg (by simp [ofF]; omega), gI_ofF hi]
      unfold ofK
      cases hb : boundB bs (-t.head - 1).toNat with
      | true => rw [T.sub_var hneg hb, if_pos rfl]
      | false =>
        rw [T.sub_free hneg hb, T.ev_eq, if_pos hneg]
        by_cases hl : (th.length : Int) < -t.head
        · rw [if_pos hl, if_neg (by simp), if_neg (by omega)]
        · rw [if_neg hl, if_neg (by simp), if_pos (by omega)]
    · rw [T.sub_pos hneg, T.ev_eq, T.ev_eq]
      show (if t.head < 0 then _ else _) = _
      rw [if_neg hneg, if_neg hneg]
      have key : ∀ (l : List T) (a : Int), (∀ i, i < l.length → ((gK l i).sub bs).ev s tb th = (gK l i).ev s tb (ofF s tb th bs)) → evL s tb th (l.map (T.sub bs)) a = evL s tb (ofF s tb th bs) l a := by
        intro l
        induction l with
        | nil => intro a _; rfl
        | cons x r ihl =>
          intro a h
          have hx : (x.sub bs).ev s tb th = x.ev s tb (ofF s tb th bs) := h 0 (by simp)
          simp only [List.map_cons, evL]
          rw [hx]
          exact ihl _ (fun i hi => h (i + 1) (by simpa using hi))
      show gI _ (evL s tb th (t.kids.map (T.sub bs)) 0).toNat = _
      rw [key t.kids 0 (fun i hi => ih i hi (okN_kid hok hi))]
      rfl
theorem sig_sub {ar : List Int} {bs : List T} (t : T) : (∀ x ∈ t.pre, okN x) → (t.sub bs).sig ar → t.sig ar := by
  induction t using T.ind with
  | h t ih =>
    intro hok hs
    by_cases hneg : t.head < 0
    · refine T.sig.of (okN_self hok) ⟨by omega, fun h => by omega⟩ (fun i hi => ?_)
      rw [okN_leaf hok hneg] at hi; simp at hi
    · rw [T.sub_pos hneg] at hs
      have h1 := hs.self.2
      refine T.sig.of (okN_self hok) ⟨h1.1, fun h => ?_⟩ (fun i hi => ?_)
      · have := h1.2 h
        simpa [T.kids, T.head] using this
      · have h2 := hs.kid (i := i) (by simpa [T.kids] using hi)
        have e : gK (T.node t.head (t.kids.map (T.sub bs))).kids i = (gK t.kids i).sub bs := gK_map hi
        rw [e] at h2
        exact ih i hi (okN_kid hok hi) h2
/-- a tree that stands for a variable fits if the whole does -/
theorem sig_var {ar : List Int} {bs : List T} {k : Nat} (hb : boundB bs k = true) (t : T) : (∀ x ∈ t.pre, okN x) → (t.sub bs).sig ar → t.times (-(k : Int) - 1) ≠ 0 → (gK bs k).sig ar := by
  induction t using T.ind with
  | h t ih =>
    intro hok hs ht
    rw [T.times_eq] at ht
    by_cases hneg : t.head < 0
    · rw [okN_leaf hok hneg] at ht
      simp only [timesL, Nat.add_zero] at ht
      by_cases hh : t.head = -(k : Int) - 1
      · have hk : (-t.head - 1).toNat = k := by omega
        rw [T.sub_var hneg (by rw [hk]; exact hb), hk] at hs
        exact hs
      · rw [if_neg hh] at ht; exact absurd rfl ht
    · rw [if_neg (by omega), Nat.zero_add] at ht
      rw [T.sub_pos hneg] at hs
      have key : ∀ l : List T, timesL (-(k : Int) - 1) l ≠ 0 → ∃ i, i < l.length ∧ (gK l i).times (-(k : Int) - 1) ≠ 0 := by
        intro l
        induction l with
        | nil => intro h; exact absurd rfl h
        | cons x r ihl =>
          intro h
          by_cases hx : x.times (-(k : Int) - 1) = 0
          · simp only [timesL, hx, Nat.zero_add] at h
            obtain ⟨i, hi, h2⟩ := ihl h
            exact ⟨i + 1, by simpa using hi, h2⟩
          · exact ⟨0, by simp, hx⟩
      obtain ⟨i, hi, h2⟩ := key _ ht
      have h3 := hs.kid (i := i) (by simpa [T.kids] using hi)
      have e : gK (T.node t.head (t.kids.map (T.sub bs))).kids i = (gK t.kids i).sub bs := gK_map hi
      rw [e] at h3
      exact ih i hi (okN_kid hok hi) h3 h2
theorem valueF_bad {ar : List Int} {cs : List (List Fc)} {sz : Int} {tb : List (List Int)} {x : T} {th : List Int} (h : (valueF ar cs sz tb x th).2.1 ≠ 0) : (valueF ar cs sz tb x th).1 = 0 := by
  unfold valueF at h ⊢
  by_cases h1 : (tabF ar cs sz tb).1 ≠ 0
  · rw [if_pos h1]
  · rw [if_neg h1] at h ⊢
    by_cases h2 : codeF ar [factX x] ≠ 0
    · rw [if_pos h2]
    · rw [if_neg h2] at h ⊢
      by_cases h3 : th.any (outS sz.toNat) = true
      · rw [if_pos h3]
      · rw [if_neg h3] at h; exact absurd rfl h
theorem outS_none {s : Nat} {th : List Int} : ¬ th.any (outS s) = true ↔ ThOK s th := by
  constructor
  · intro h x hx
    have h1 : ¬ outS s x = true := fun e => h (List.any_eq_true.2 ⟨x, hx, e⟩)
    unfold outS at h1
    simp only [Bool.or_eq_true, decide_eq_true_eq, not_or] at h1
    omega
  · intro h e
    obtain ⟨x, hx, he⟩ := List.any_eq_true.1 e
    have := h x hx
    unfold outS at he
    simp only [Bool.or_eq_true, decide_eq_true_eq] at he
    omega
theorem valueF_ok {ar : List Int} {cs : List (List Fc)} {sz : Int} {tb : List (List Int)} {x : T} {th : List Int} (h : (valueF ar cs sz tb x th).2.1 = 0) :
    (tabF ar cs sz tb).1 = 0 ∧ (treeF x).1 = 0 ∧ x.sig ar ∧ ThOK sz.toNat th ∧ valueF ar cs sz tb x th = (x.ev sz.toNat tb th, (0, 0)) := by
  unfold valueF at h ⊢
  by_cases h1 : (tabF ar cs sz tb).1 ≠ 0
  · rw [if_pos h1] at h; exact absurd h h1
  · rw [if_neg h1] at h ⊢
    by_cases h2 : codeF ar [factX x] ≠ 0
    · rw [if_pos h2] at h; exact absurd h h2
    · rw [if_neg h2] at h ⊢
      by_cases h3 : th.any (outS sz.toNat) = true
      · rw [if_pos h3] at h; cases h
      · rw [if_neg h3]
        have h4 := codeF_one.1 (show codeF ar [factX x] = 0 by simpa using h2)
        exact ⟨by simpa using h1, h4.1, h4.2, outS_none.1 h3, rfl⟩
theorem valueF_of {ar : List Int} {cs : List (List Fc)} {sz : Int} {tb : List (List Int)} {x : T} {th : List Int} (h1 : (tabF ar cs sz tb).1 = 0) (h2 : (treeF x).1 = 0) (h3 : x.sig ar) (h4 : ThOK sz.toNat th) :
    valueF ar cs sz tb x th = (x.ev sz.toNat tb th, (0, 0)) := by
  unfold valueF
  rw [if_neg (by simpa using h1), if_neg (by simpa using codeF_one.2 ⟨h2, h3⟩), if_neg (outS_none.2 h4)]
theorem ofF_ok {ar : List Int} {s : Nat} {tb : List (List Int)} {th : List Int} {bs : List T} (hT : TabOK ar s tb) (hth : ThOK s th) (h : ∀ k, k < 8 → boundB bs k = true → (gK bs k).sig ar) : ThOK s (ofF s tb th bs) := fun x hx => by
  unfold ofF at hx
  obtain ⟨k, hk, rfl⟩ := List.mem_map.1 hx
  have hk : k < 8 := by simpa using hk
  unfold ofK
  by_cases hb : boundB bs k = true
  · rw [if_pos hb]; exact T.ev_range hT hth _ (h k hk hb)
  · rw [if_neg hb]
    by_cases hl : k < th.length
    · rw [if_pos hl]; exact gI_in hth hl
    · rw [if_neg hl]; have := hT.1; omega
end Go.Proofs.Ytlhnfdjidjgfgaa
