/-
  Plain: the value of an instance is the value under the values.
-/
import Derived.Test.YteekoclfpehnpaaV15
import Derived.Test.YteekoclfpehnpaaT20
namespace Go.Proofs.Yteekoclfpehnpaa
open Go.RowKit Go.Shelf
set_option linter.unusedVariables false
set_option maxHeartbeats 400000

theorem doF_ok {t : T} {bs : List T} (h : (doF t bs).2.1 = 0) : doF t bs = (t.sub bs, (0, 0)) ∧ (treeF t).1 = 0 ∧ (bindF bs).1 = 0 ∧ (treeF (t.sub bs)).1 = 0 := by
  rw [doF] at h ⊢
  by_cases h1 : (treeF t).1 ≠ 0
  · rw [if_pos h1] at h; exact absurd h h1
  · rw [if_neg h1] at h ⊢
    by_cases h2 : (bindF bs).1 ≠ 0
    · rw [if_pos h2] at h; exact absurd h h2
    · rw [if_neg h2] at h ⊢
      by_cases h3 : (treeF (t.sub bs)).1 ≠ 0
      · rw [if_pos h3] at h; simp at h
      · rw [if_neg h3]; exact ⟨rfl, by simpa using h1, by simpa using h2, by simpa using h3⟩
theorem doF_err {t : T} {bs : List T} (h : (doF t bs).2.1 ≠ 0) : (doF t bs).1 = zeroT := by
  rw [doF] at h ⊢
  by_cases h1 : (treeF t).1 ≠ 0
  · rw [if_pos h1]
  · rw [if_neg h1] at h ⊢
    by_cases h2 : (bindF bs).1 ≠ 0
    · rw [if_pos h2]
    · rw [if_neg h2] at h ⊢
      by_cases h3 : (treeF (t.sub bs)).1 ≠ 0
      · rw [if_pos h3]
      · rw [if_neg h3] at h; exact absurd rfl h
theorem mem_preL : ∀ {ks : List T} {x : T}, x ∈ preL ks → ∃ i, i < ks.length ∧ x ∈ (gK ks i).pre
  | [], x, h => by cases h
  | t :: r, x, h => by
    have h : x ∈ t.pre ++ preL r := h
    rcases List.mem_append.1 h with h | h
    · exact ⟨0, by simp, h⟩
    · obtain ⟨i, hi, hx⟩ := mem_preL h
      exact ⟨i + 1, by simpa using hi, hx⟩
theorem T.sig.of {ar : List Int} {t : T} (h1 : okN t) (h2 : sigN ar t) (h3 : ∀ i, i < t.kids.length → (gK t.kids i).sig ar) : t.sig ar := ⟨fun x hx => by
  rw [T.pre_eq] at hx
  rcases List.mem_cons.1 hx with rfl | hx
  · exact ⟨h1, h2⟩
  · obtain ⟨i, hi, hx⟩ := mem_preL hx
    exact (h3 i hi).all x hx⟩
theorem okN_kid {t : T} (h : ∀ x ∈ t.pre, okN x) {i : Nat} (hi : i < t.kids.length) : ∀ x ∈ (gK t.kids i).pre, okN x := fun x hx =>
  h x (by rw [T.pre_eq]; exact List.mem_cons_of_mem _ (kid_pre_mem hi hx))
theorem okN_self {t : T} (h : ∀ x ∈ t.pre, okN x) : okN t := h t (by rw [T.pre_eq]; simp)
theorem okN_leaf {t : T} (h : ∀ x ∈ t.pre, okN x) (hn : t.head < 0) : t.kids = [] := List.eq_nil_of_length_eq_zero ((okN_num (okN_self h)).2.2.2.2 hn)
/-- what stands for variable number k -/
def ofK (s : Nat) (tb : List (List Int)) (th : List Int) (bs : List T) (k : Nat) : Int := if boundB bs k = true then (gK bs k).ev s tb th else if k < th.length then gI th k else 0
def ofF (s : Nat) (tb : List (List Int)) (th : List Int) (bs : List T) : List Int := (List.range 8).map (ofK s tb th bs)
theorem gI_ofF {s : Nat} {tb : List (List Int)} {th : List Int} {bs : List T} {k : Nat} (h : k < 8) : gI (ofF s tb th bs) k = ofK s tb th bs k := by
  unfold ofF gI; simp [List.getD, h]
theorem gK_map {f : T → T} {l : List T} {i : Nat} (h : i < l.length) : gK (l.map f) i = f (gK l i) := by simp [gK, h]
theorem ev_sub {s : Nat} {tb : List (List Int)} {th : List Int} {bs : List T} (t : T) : (∀ x ∈ t.pre, okN x) → (t.sub bs).ev s tb th = t.ev s tb (ofF s tb th bs) := by
  induction t using T.ind with
  | h t ih =>
    intro hok
    have hn := okN_num (okN_self hok)
    by_cases hneg : t.head < 0
    · have hi : (-t.head - 1).toNat < 8 := by omega
      rw [T.ev_eq (th := ofF s tb th bs), if_pos hneg, if_neg (by simp [ofF]; omega), gI_ofF hi]
      unfold ofK
      cases hb : boundB bs (-t.head - 1).toNat with
      | true => rw [T.sub_var hneg hb, if_pos rfl]
      | false =>
        rw [T.sub_free hneg hb, T.ev_eq, if_pos hneg]
        by_cases hl : (th.length : Int) < -t.head
        · rw [if_pos hl, if_neg (by simp), if_neg (by omega)]
        · rw [if_neg hl, if_neg (by simp), if_pos (by omega)]
    · rw [T.sub_pos hneg, T.ev_eq, T.ev_eq]
      show (if t.head < 0 then _ else _) = _
      rw [if_neg hneg, if_neg hneg]
      have key : ∀ (l : List T) (a : Int), (∀ i, i < l.length → ((gK l i).sub bs).ev s tb th = (gK l i).ev s tb (ofF s tb th bs)) → evL s tb th (l.map (T.sub bs)) a = evL s tb (ofF s tb th bs) l a := by
        intro l
        induction l with
        | nil => intro a _; rfl
        | cons x r ihl =>
          intro a h
          have hx : (x.sub bs).ev s tb th = x.ev s tb (ofF s tb th bs) := h 0 (by simp)
          simp only [List.map_cons, evL]
          rw [hx]
          exact ihl _ (fun i hi => h (i + 1) (by simpa using hi))
      show gI _ (evL s tb th (t.kids.map (T.sub bs)) 0).toNat = _
      rw [key t.kids 0 (fun i hi => ih i hi (okN_kid hok hi))]
      rfl
theorem sig_sub {ar : List Int} {bs : List T} (t : T) : (∀ x ∈ t.pre, okN x) → (t.sub bs).sig ar → t.sig ar := by
  induction t using T.ind with
  | h t ih =>
    intro hok hs
    by_cases hneg : t.head < 0
    · refine T.sig.of (okN_self hok) ⟨by omega, fun h => by omega⟩ (fun i hi => ?_)
      rw [okN_leaf hok hneg] at hi; simp at hi
    · rw [T.sub_pos hneg] at hs
      have h1 := hs.self.2
      refine T.sig.of (okN_self hok) ⟨h1.1, fun h => ?_⟩ (fun i hi => ?_)
      · have := h1.2 h
        simpa [T.kids, T.head] using this
      · have h2 := hs.kid (i := i) (by simpa [T.kids] using hi)
        have e : gK (T.node t.head (t.kids.map (T.sub bs))).kids i = (gK t.kids i).sub bs := gK_map hi
        rw [e] at h2
        exact ih i hi (okN_kid hok hi) h2
/-- a tree that stands for a variable fits if the whole does -/
theorem sig_var {ar : List Int} {bs : List T} {k : Nat} (hb : boundB bs k = true) (t : T) : (∀ x ∈ t.pre, okN x) → (t.sub bs).sig ar → t.times (-(k : Int) - 1) ≠ 0 → (gK bs k).sig ar := by
  induction t using T.ind with
  | h t ih =>
    intro hok hs ht
    rw [T.times_eq] at ht
    by_cases hneg : t.head < 0
    · rw [okN_leaf hok hneg] at ht
      simp only [timesL, Nat.add_zero] at ht
      by_cases hh : t.head = -(k : Int) - 1
      · have hk : (-t.head - 1).toNat = k := by omega
        rw [T.sub_var hneg (by rw [hk]; exact hb), hk] at hs
        exact hs
      · rw [if_neg hh] at ht; exact absurd rfl ht
    · rw [if_neg (by omega), Nat.zero_add] at ht
      rw [T.sub_pos hneg] at hs
      have key : ∀ l : List T, timesL (-(k : Int) - 1) l ≠ 0 → ∃ i, i < l.length ∧ (gK l i).times (-(k : Int) - 1) ≠ 0 := by
        intro l
        induction l with
        | nil => intro h; exact absurd rfl h
        | cons x r ihl =>
          intro h
          by_cases hx : x.times (-(k : Int) - 1) = 0
          · simp only [timesL, hx, Nat.zero_add] at h
            obtain ⟨i, hi, h2⟩ := ihl h
            exact ⟨i + 1, by simpa using hi, h2⟩
          · exact ⟨0, by simp, hx⟩
      obtain ⟨i, hi, h2⟩ := key _ ht
      have h3 := hs.kid (i := i) (by simpa [T.kids] using hi)
      have e : gK (T.node t.head (t.kids.map (T.sub bs))).kids i = (gK t.kids i).sub bs := gK_map hi
      rw [e] at h3
      exact ih i hi (okN_kid hok hi) h3 h2
theorem valueF_bad {ar : List Int} {cs : List (List Fc)} {sz : Int} {tb : List (List Int)} {x : T} {th : List Int} (h : (valueF ar cs sz tb x th).2.1 ≠ 0) : (valueF ar cs sz tb x th).1 = 0 := by
  unfold valueF at h ⊢
  by_cases h1 : (tabF ar cs sz tb).1 ≠ 0
  · rw [if_pos h1]
  · rw [if_neg h1] at h ⊢
    by_cases h2 : codeF ar [factX x] ≠ 0
    · rw [if_pos h2]
    · rw [if_neg h2] at h ⊢
      by_cases h3 : th.any (outS sz.toNat) = true
      · rw [if_pos h3]
      · rw [if_neg h3] at h; exact absurd rfl h
theorem outS_none {s : Nat} {th : List Int} : ¬ th.any (outS s) = true ↔ ThOK s th := by
  constructor
  · intro h x hx
    have h1 : ¬ outS s x = true := fun e => h (List.any_eq_true.2 ⟨x, hx, e⟩)
    unfold outS at h1
    simp only [Bool.or_eq_true, decide_eq_true_eq, not_or] at h1
    omega
  · intro h e
    obtain ⟨x, hx, he⟩ := List.any_eq_true.1 e
    have := h x hx
    unfold outS at he
    simp only [Bool.or_eq_true, decide_eq_true_eq] at he
    omega
theorem valueF_ok {ar : List Int} {cs : List (List Fc)} {sz : Int} {tb : List (List Int)} {x : T} {th : List Int} (h : (valueF ar cs sz tb x th).2.1 = 0) :
    (tabF ar cs sz tb).1 = 0 ∧ (treeF x).1 = 0 ∧ x.sig ar ∧ ThOK sz.toNat th ∧ valueF ar cs sz tb x th = (x.ev sz.toNat tb th, (0, 0)) := by
  unfold valueF at h ⊢
  by_cases h1 : (tabF ar cs sz tb).1 ≠ 0
  · rw [if_pos h1] at h; exact absurd h h1
  · rw [if_neg h1] at h ⊢
    by_cases h2 : codeF ar [factX x] ≠ 0
    · rw [if_pos h2] at h; exact absurd h h2
    · rw [if_neg h2] at h ⊢
      by_cases h3 : th.any (outS sz.toNat) = true
      · rw [if_pos h3] at h; cases h
      · rw [if_neg h3]
        have h4 := codeF_one.1 (show codeF ar [factX x] = 0 by simpa using h2)
        exact ⟨by simpa using h1, h4.1, h4.2, outS_none.1 h3, rfl⟩
theorem valueF_of {ar : List Int} {cs : List (List Fc)} {sz : Int} {tb : List (List Int)} {x : T} {th : List Int} (h1 : (tabF ar cs sz tb).1 = 0) (h2 : (treeF x).1 = 0) (h3 : x.sig ar) (h4 : ThOK sz.toNat th) :
    valueF ar cs sz tb x th = (x.ev sz.toNat tb th, (0, 0)) := by
  unfold valueF
  rw [if_neg (by simpa using h1), if_neg (by simpa using codeF_one.2 ⟨h2, h3⟩), if_neg (outS_none.2 h4)]
theorem ofF_ok {ar : List Int} {s : Nat} {tb : List (List Int)} {th : List Int} {bs : List T} (hT : TabOK ar s tb) (hth : ThOK s th) (h : ∀ k, k < 8 → boundB bs k = true → (gK bs k).sig ar) : ThOK s (ofF s tb th bs) := fun x hx => by
  unfold ofF at hx
  obtain ⟨k, hk, rfl⟩ := List.mem_map.1 hx
  have hk : k < 8 := by simpa using hk
  unfold ofK
  by_cases hb : boundB bs k = true
  · rw [if_pos hb]; exact T.ev_range hT hth _ (h k hk hb)
  · rw [if_neg hb]
    by_cases hl : k < th.length
    · rw [if_pos hl]; exact gI_in hth hl
    · rw [if_neg hl]; have := hT.1; omega
end Go.Proofs.Yteekoclfpehnpaa
