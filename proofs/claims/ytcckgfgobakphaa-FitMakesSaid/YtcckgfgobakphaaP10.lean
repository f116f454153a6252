/-
  Plain: the law FitMakes.
-/
import Derived.Test.YtcckgfgobakphaaP9
namespace Go.Proofs.Ytcckgfgobakphaa
open Go.RowKit Go.Shelf
set_option linter.unusedVariables false

theorem pre_trans : ∀ (t : T) {x y : T}, x ∈ t.pre → y ∈ x.pre → y ∈ t.pre := by
  intro t
  induction t using T.ind with
  | h t ih =>
    intro x y hx hy
    rw [T.pre_eq] at hx
    rcases List.mem_cons.1 hx with rfl | hx
    · exact hy
    · have key : ∀ l : List T, x ∈ preL l → ∃ i, i < l.length ∧ x ∈ (gK l i).pre := by
        intro l
        induction l with
        | nil => intro h; simp [preL] at h
        | cons k r ihr =>
          intro h
          rw [preL, List.mem_append] at h
          rcases h with h | h
          · exact ⟨0, by simp, by simpa [gK] using h⟩
          · obtain ⟨i, h1, h2⟩ := ihr h; exact ⟨i + 1, by simpa using h1, by simpa only [gK, List.getD_cons_succ] using h2⟩
      obtain ⟨i, hi, h2⟩ := key _ hx
      rw [T.pre_eq]
      exact List.mem_cons_of_mem _ (kid_pre_mem hi (ih i hi h2 hy))
theorem kid_deepL' : ∀ {l : List T} {i : Nat}, i < l.length → (gK l i).deep ≤ deepL l
  | [], i, h => by simp at h
  | k :: r, 0, _ => by simp only [gK, List.getD_cons_zero, deepL]; omega
  | k :: r, i + 1, h => by have := kid_deepL' (l := r) (i := i) (by simpa using h); simp only [gK, List.getD_cons_succ, deepL] at this ⊢; omega
theorem pre_small {t x : T} (h : x ∈ t.pre) : x.size ≤ t.size ∧ x.deep ≤ t.deep := by
  induction t using T.ind with
  | h t ih =>
    rw [T.pre_eq] at h
    rcases List.mem_cons.1 h with rfl | h
    · exact ⟨Nat.le_refl _, Nat.le_refl _⟩
    · have key : ∀ l : List T, x ∈ preL l → ∃ i, i < l.length ∧ x ∈ (gK l i).pre := by
        intro l
        induction l with
        | nil => intro h; simp [preL] at h
        | cons k r ihr =>
          intro h
          rw [preL, List.mem_append] at h
          rcases h with h | h
          · exact ⟨0, by simp, by simpa [gK] using h⟩
          · obtain ⟨i, h1, h2⟩ := ihr h; exact ⟨i + 1, by simpa using h1, by simpa only [gK, List.getD_cons_succ] using h2⟩
      obtain ⟨i, hi, h2⟩ := key _ h
      obtain ⟨h3, h4⟩ := ih i hi h2
      have h5 := kid_size hi
      have h6 := t.size_eq
      have h7 := kid_deepL' hi
      have h8 := t.deep_eq
      exact ⟨by omega, by omega⟩
theorem sub_ok {t x : T} (ht : (treeF t).1 = 0) (h : x ∈ t.pre) : (treeF x).1 = 0 := by
  obtain ⟨h1, h2, h3⟩ := treeF_ok.1 ht
  obtain ⟨h4, h5⟩ := pre_small h
  exact treeF_ok.2 ⟨by omega, by omega, fun y hy => h3 y (pre_trans t h hy)⟩
theorem sub_inst (p : T) (bs : List T) (h : okA p) : p.sub bs = p.inst (standF bs) := by
  induction p using T.ind with
  | h p ih =>
    rw [T.inst_eq]
    by_cases hn : p.head < 0
    · rw [if_pos hn, sub_stand p bs h hn]
    · rw [if_neg hn, T.sub_pos hn]
      have key : ∀ l : List T, (∀ i, i < l.length → (gK l i).sub bs = (gK l i).inst (standF bs)) → l.map (T.sub bs) = instL (standF bs) l := by
        intro l
        induction l with
        | nil => intro _; rfl
        | cons k r ihr =>
          intro h
          have h0 := h 0 (by simp)
          simp only [gK, List.getD_cons_zero] at h0
          rw [List.map_cons, instL, h0, ihr (fun i hi => by have := h (i + 1) (by simpa using hi); simpa only [gK, List.getD_cons_succ] using this)]
      rw [key p.kids (fun i hi => ih i hi (h.kid hi))]
theorem has_most {t : T} {i : Nat} (h : t.has i) : (i : Int) < t.most := by
  by_cases h1 : t.most.toNat ≤ i
  · have := times_most' h1; unfold T.has at h; omega
  · have := t.most_nonneg; omega
where
  times_most' {t : T} {i : Nat} (h : t.most.toNat ≤ i) : t.times (-(i : Int) - 1) = 0 := by
    induction t using T.ind with
    | h t ih =>
      have h0 := head_most t
      have hn := t.most_nonneg
      rw [T.times_eq, if_neg (by omega)]
      have key : ∀ l : List T, (∀ j, j < l.length → (gK l j).times (-(i : Int) - 1) = 0) → timesL (-(i : Int) - 1) l = 0 := by
        intro l
        induction l with
        | nil => intro _; rfl
        | cons k r ihr =>
          intro h
          have h0 := h 0 (by simp)
          simp only [gK, List.getD_cons_zero] at h0
          rw [timesL, h0, ihr (fun i hi => by have := h (i + 1) (by simpa using hi); simpa only [gK, List.getD_cons_succ] using this)]
      rw [key t.kids (fun j hj => ih j hj (by have := kid_most hj; omega))]
theorem bindL_some : ∀ (bs : List T) (k : Int), (∀ i, i < bs.length → gK bs i = zeroT ∨ (treeF (gK bs i)).1 = 0) → (bindL bs k).1 = 0
  | [], k, _ => rfl
  | t :: r, k, h => by
    have h0 := h 0 (by simp)
    simp only [gK, List.getD_cons_zero] at h0
    have hr := bindL_some r (k + 1) (fun i hi => by have := h (i + 1) (by simpa using hi); simpa only [gK, List.getD_cons_succ] using this)
    rcases h0 with h0 | h0
    · rw [bindL, if_pos (by rw [h0]; rfl), if_neg (by rw [h0]; simp [zeroT, T.kids])]; exact hr
    · rw [bindL, if_neg (ok_head h0), if_neg (by simp [h0])]; exact hr
theorem fitL_keep : ∀ (ks ts : List T), (∀ i, i < ks.length → ∀ (t : T) (bs r : Nat → T), (gK ks i).fit t bs = some r → ∀ j, r j = bs j ∨ r j ∈ t.pre) → ∀ (bs r : Nat → T), fitL ks ts bs = some r → ∀ j, r j = bs j ∨ r j ∈ preL ts
  | [], _, _, bs, r, h, j => by rw [fitL] at h; obtain rfl := Option.some.inj h; exact .inl rfl
  | _ :: _, [], _, _, _, h, _ => by rw [fitL] at h; cases h
  | k :: kr, u :: ur, hP, bs, r, h, j => by
    rw [fitL] at h
    cases hk : k.fit u bs with
    | none => rw [hk] at h; simp at h
    | some b =>
      rw [hk] at h
      simp only at h
      have h0 := hP 0 (by simp)
      simp only [gK, List.getD_cons_zero] at h0
      have h1 := h0 u bs b hk j
      have h2 := fitL_keep kr ur (fun i hi => by have := hP (i + 1) (by simpa using hi); simpa only [gK, List.getD_cons_succ] using this) b r h j
      rw [preL, List.mem_append]
      rcases h2 with h2 | h2
      · rw [h2]
        rcases h1 with h1 | h1
        · exact .inl h1
        · exact .inr (.inl h1)
      · exact .inr (.inr h2)
theorem fit_keep (p : T) : ∀ (t : T) (bs r : Nat → T), p.fit t bs = some r → ∀ j, r j = bs j ∨ r j ∈ t.pre := by
  induction p using T.ind with
  | h p ih =>
    intro t bs r h j
    rw [T.fit_eq] at h
    by_cases hn : p.head < 0
    · rw [if_pos hn] at h
      by_cases hz : (bs (-p.head - 1).toNat).head = 0
      · rw [if_pos hz] at h
        obtain rfl := Option.some.inj h
        by_cases e : j = (-p.head - 1).toNat
        · right; subst e; simp only [setT, if_true]; exact self_pre t
        · left; simp only [setT, if_neg e]
      · rw [if_neg hz] at h
        by_cases hb : bs (-p.head - 1).toNat = t
        · rw [if_pos hb] at h; obtain rfl := Option.some.inj h; exact .inl rfl
        · rw [if_neg hb] at h; cases h
    · rw [if_neg hn] at h
      by_cases hc : p.head = t.head ∧ p.kids.length = t.kids.length
      · rw [if_pos hc] at h
        rcases fitL_keep p.kids t.kids ih bs r h j with h1 | h1
        · exact .inl h1
        · right; rw [T.pre_eq]; exact List.mem_cons_of_mem _ h1
      · rw [if_neg hc] at h; cases h
theorem most_ok {p : T} (h : (treeF p).1 = 0) : p.most ≤ 8 := most_le p (ok_okA h)
/-- what stands for the variables makes the pattern the tree -/
theorem makes_law1 {p t : T} {L : List T} {d : Int} (h : fitD p t = (L, true, 0, d)) : doF p L = (t, (0, 0)) := by
  obtain ⟨hp, ht, _, hL, hs⟩ := fitD_ok h
  rw [fitF_isSome] at hs
  obtain ⟨r, hr⟩ := Option.isSome_iff_exists.1 hs.symm
  obtain ⟨h1, _, h3, h4⟩ := fit_sound p t _ r (ok_okA hp) (ok_okA ht).nz hr
  have hLr : L = listT p.most.toNat r := by rw [hL, fitLst, fitF, hr]; rfl
  have hm8 := most_ok hp
  have hst : ∀ i, p.has i → standF L i = r i := fun i hi => by
    have h5 := has_most hi
    have hin : i < p.most.toNat := by omega
    unfold standF
    have hb : boundB L i = true := by
      rw [boundB, hLr, listT_length, listT_gK hin]
      simp [hin, h3 i hi]
    rw [if_pos hb, hLr, listT_gK hin]
  have hsub : p.sub L = t := by rw [sub_inst p L (ok_okA hp), inst_congr p hst, h1]
  have hbind : (bindF L).1 = 0 := by
    rw [bindF, if_neg (by rw [hLr, listT_length]; omega)]
    refine bindL_some L 0 fun i hi => ?_
    rw [hLr, listT_length] at hi
    rw [hLr, listT_gK hi]
    rcases fit_keep p t _ r hr i with h6 | h6
    · exact .inl h6
    · exact .inr (sub_ok ht h6)
  rw [← hsub] at ht ⊢
  exact doF_of hp hbind ht
/-- whatever makes the pattern a tree is what is found -/
theorem makes_law2 {p u : T} {c : List T} {d : Int} (h : doF p c = (u, (0, d))) :
    ∃ L, fitD p u = (L, true, 0, 0) ∧ (L.length : Int) = p.most ∧ ∀ k : Nat, k < L.length → 0 < p.times (-(k : Int) - 1) → gK L k = standF c k := by
  obtain ⟨h1, hp, _, hu⟩ := doF_ok (t := p) (bs := c) (by rw [h])
  rw [h] at h1
  obtain ⟨rfl, _⟩ : u = p.sub c ∧ d = 0 := by simpa using h1
  have hi : p.inst (standF c) = p.sub c := (sub_inst p c (ok_okA hp)).symm
  obtain ⟨r, hr, hr2⟩ := fit_full p _ (fun _ => zeroT) (standF c) (ok_okA hp) (ok_okA hu).nz hi (fun i hi => by simp [zeroT, T.head] at hi)
  obtain ⟨_, _, h3, _⟩ := fit_sound p _ _ r (ok_okA hp) (ok_okA hu).nz hr
  have hF : fitF p (p.sub c) = some (listT p.most.toNat r) := by rw [fitF, hr]; rfl
  have hm0 := p.most_nonneg
  refine ⟨listT p.most.toNat r, ?_, by rw [listT_length]; omega, fun k hk hh => ?_⟩
  · rw [fitD, if_neg (by rw [hp]; simp), if_neg (by rw [hu]; simp), fitLst, hF]; rfl
  · rw [listT_length] at hk
    rw [listT_gK hk]
    exact hr2 k (h3 k hh)
end Go.Proofs.Ytcckgfgobakphaa
