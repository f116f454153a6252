/-
  Plain: derivations of claims, their steps, what a beginning of one gets, and that what is derived holds where the lore does.
  Plain: what is got holds, as the table's answers say it.
  Plain: instances are ground, and hold where the claims do.
  Plain: a derivation that ends, of one claim that is not so; what Ends answers.
-/
import Derived.Test.YtlhnfdjidjgfgaaTr0
import Derived.Test.YtlhnfdjidjgfgaaP4
import Derived.Test.YtlhnfdjidjgfgaaV5
import Derived.Test.YtlhnfdjidjgfgaaPb6
namespace Go.Proofs.Ytlhnfdjidjgfgaa
open Go.RowKit Go.Shelf
set_option linter.unusedVariables false
set_option maxHeartbeats 400000

/-! what is derived holds -/
def HoldsC (s : Nat) (tb : List (List Int)) (fs : List Fc) : Prop := ∀ th, ThOK s th → th.length = 8 → fs.any (factB s tb th) = true
theorem holds_of_true {ar : List Int} {s : Nat} {tb : List (List Int)} {fs : List Fc} (hs : 1 ≤ s) (hc : codeF ar fs = 0) (hw : wideB s fs = false) (h : trueF s tb fs = true) : HoldsC s tb fs := by
  intro th hth hl
  have h0 := (codeF_zero.1 hc).2
  have hv : varsC fs ≤ 8 := by
    have := mostL_bound (l := treesF fs) (fun t ht => (h0 t ht).1)
    rw [← varsC_cast] at this; omega
  have hlt : (th.take (varsC fs)).length = varsC fs := by simp; omega
  have h3 := (trueF_iff hs hw).1 h (th.take (varsC fs)) (fun x hx => hth x (List.mem_of_mem_take hx)) hlt
  obtain ⟨f, hf, hb⟩ := List.any_eq_true.1 h3
  refine List.any_eq_true.2 ⟨f, hf, ?_⟩
  have hm := fact_most hf
  unfold factB at hb ⊢
  rw [ev_agree (th := th) (by omega) (fun i hi => gI_take (by omega)) f.l (by rw [hlt]; exact hm.1), ev_agree (th := th) (by omega) (fun i hi => gI_take (by omega)) f.r (by rw [hlt]; exact hm.2)] at hb
  exact hb
theorem true_of_holds {ar : List Int} {s : Nat} {tb : List (List Int)} {fs : List Fc} (hs : 1 ≤ s) (hc : codeF ar fs = 0) (hw : wideB s fs = false) (h : HoldsC s tb fs) : trueF s tb fs = true := by
  rw [trueF_iff hs hw]
  intro th hth hl
  have h0 := (codeF_zero.1 hc).2
  have hv : varsC fs ≤ 8 := by
    have := mostL_bound (l := treesF fs) (fun t ht => (h0 t ht).1)
    rw [← varsC_cast] at this; omega
  have h3 := h (th ++ List.replicate (8 - varsC fs) 0) (fun x hx => by
    rcases List.mem_append.1 hx with hx | hx
    · exact hth x hx
    · rw [(List.mem_replicate.1 hx).2]; omega) (by simp; omega)
  obtain ⟨f, hf, hb⟩ := List.any_eq_true.1 h3
  refine List.any_eq_true.2 ⟨f, hf, ?_⟩
  have hm := fact_most hf
  have hag : ∀ i, i < th.length → gI th i = gI (th ++ List.replicate (8 - varsC fs) 0) i := fun i hi => by
    unfold gI; simp [List.getD, List.getElem?_append_left hi]
  unfold factB at hb ⊢
  rw [← ev_agree (th' := th) (by simp) hag f.l (by rw [hl]; exact hm.1), ← ev_agree (th' := th) (by simp) hag f.r (by rw [hl]; exact hm.2)] at hb
  exact hb
theorem evL_congr {s : Nat} {tb : List (List Int)} {th : List Int} : ∀ {l r : List T}, l.length = r.length → (∀ i, i < l.length → (gK l i).ev s tb th = (gK r i).ev s tb th) → ∀ a, evL s tb th l a = evL s tb th r a
  | [], [], _, _, a => rfl
  | x :: l, [], h, _, a => by simp at h
  | [], y :: r, h, _, a => by simp at h
  | x :: l, y :: r, h, hk, a => by
    have h0 : x.ev s tb th = y.ev s tb th := hk 0 (by simp)
    simp only [evL]
    rw [h0]
    exact evL_congr (by simpa using h) (fun i hi => hk (i + 1) (by simpa using hi)) _
theorem ev_withAt {s : Nat} {tb : List (List Int)} {th : List Int} {u : T} : ∀ (p : List Int) (t : T) (i : Int), 0 ≤ i → (t.get p i).2 < 0 → (t.get p i).1.ev s tb th = u.ev s tb th → (T.withAt p t u).ev s tb th = t.ev s tb th
  | [], t, i, _, _, h => by rw [T.get_nil] at h; rw [T.withAt]; exact h.symm
  | z :: ps, t, i, hi, h1, h => by
    rw [T.get_cons] at h h1
    by_cases hz : z < 1 ∨ (t.kids.length : Int) < z
    · rw [if_pos hz] at h1; simp only at h1; omega
    · rw [if_neg hz] at h h1
      have ih := ev_withAt ps _ (i + 1) (by omega) h1 h
      rw [withAt_cons, T.ev_eq, T.ev_eq (t := t)]
      show (if t.head < 0 then _ else _) = (if t.head < 0 then _ else _)
      congr 1
      have e : evL s tb th (t.kids.mapIdx fun i k => if (i : Int) + 1 = z then T.withAt ps k u else k) 0 = evL s tb th t.kids 0 := by
        refine evL_congr (by simp) (fun j hj => ?_) 0
        have hj : j < t.kids.length := by simpa using hj
        rw [gK_mapIdx _ _ hj]
        by_cases e : (j : Int) + 1 = z
        · rw [if_pos e]
          have ej : (z - 1).toNat = j := by omega
          rw [ej] at ih; exact ih
        · rw [if_neg e]
      show gI _ (evL s tb th (t.kids.mapIdx fun i k => if (i : Int) + 1 = z then T.withAt ps k u else k) 0).toNat = _
      rw [e]; rfl
theorem any_eraseIdx {α : Type} {P : α → Bool} {l : List α} {i : Nat} (h : l.any P = true) (hi : i < l.length) : P l[i] = true ∨ (l.eraseIdx i).any P = true := by
  obtain ⟨x, hx, hp⟩ := List.any_eq_true.1 h
  obtain ⟨k, hk, rfl⟩ := List.getElem_of_mem hx
  by_cases e : k = i
  · subst e; exact .inl hp
  · exact .inr (List.any_eq_true.2 ⟨l[k], List.mem_eraseIdx_iff_getElem.2 ⟨k, hk, e, rfl⟩, hp⟩)
theorem rightF_zero {a b : List Fc} {g : Gt} (h : (rightF a b g).2 = 0) : inL g.i a.length ∧ inL g.j b.length ∧ (gF a g.i).neg = false ∧ (g.pl ≠ [] ∧ (gI g.pl 0 = 1 ∨ gI g.pl 0 = 2)) ∧ ((sideF g (gF b g.j)).get g.pl.tail 0).2 < 0 ∧
    ((sideF g (gF b g.j)).get g.pl.tail 0).1 = fromF g (gF a g.i) ∧
    rightF a b g = (a.eraseIdx g.i.toNat ++ b.eraseIdx g.j.toNat ++ [lastF g (gF b g.j) (T.withAt g.pl.tail (sideF g (gF b g.j)) (toF g (gF a g.i)))], 0) := by
  unfold rightF at h ⊢
  by_cases h1 : ¬ (inL g.i a.length ∧ inL g.j b.length)
  · rw [if_pos h1] at h; cases h
  · rw [if_neg h1] at h ⊢
    by_cases h2 : (gF a g.i).neg = true
    · rw [if_pos h2] at h; cases h
    · rw [if_neg h2] at h ⊢
      by_cases h3 : g.pl = [] ∨ (gI g.pl 0 ≠ 1 ∧ gI g.pl 0 ≠ 2)
      · rw [if_pos h3] at h; cases h
      · rw [if_neg h3] at h ⊢
        by_cases h4 : 0 ≤ ((sideF g (gF b g.j)).get g.pl.tail 0).2
        · rw [if_pos h4] at h; cases h
        · rw [if_neg h4] at h ⊢
          by_cases h5 : ((sideF g (gF b g.j)).get g.pl.tail 0).1 ≠ fromF g (gF a g.i)
          · rw [if_pos h5] at h; cases h
          · rw [if_neg h5]
            have h6 := Classical.not_not.1 h1
            refine ⟨h6.1, h6.2, by simpa using h2, ⟨fun e => h3 (.inl e), ?_⟩, by omega, by simpa using h5, rfl⟩
            by_cases h7 : gI g.pl 0 = 1
            · exact .inl h7
            · by_cases h8 : gI g.pl 0 = 2
              · exact .inr h8
              · exact absurd (.inr ⟨h7, h8⟩) h3
theorem gF_get {l : List Fc} {i : Int} (h : inL i l.length) : ∃ hi : i.toNat < l.length, gF l i = l[i.toNat] := by
  have h1 := h.1; have h2 := h.2
  have hi : i.toNat < l.length := by omega
  exact ⟨hi, by unfold gF; rw [List.getD, List.getElem?_eq_getElem hi]; rfl⟩
theorem gC_get {l : List (List Fc)} {i : Int} (h : inL i l.length) : ∃ hi : i.toNat < l.length, gC l i = l[i.toNat] := by
  have h1 := h.1; have h2 := h.2
  have hi : i.toNat < l.length := by omega
  exact ⟨hi, by unfold gC; rw [List.getD, List.getElem?_eq_getElem hi]; rfl⟩
theorem holds_right {s : Nat} {tb : List (List Int)} {a b : List Fc} {g : Gt} (h : (rightF a b g).2 = 0) (ha : HoldsC s tb a) (hb : HoldsC s tb b) : HoldsC s tb (rightF a b g).1 := by
  obtain ⟨hi, hj, hn, hp, hg, hfr, e⟩ := rightF_zero h
  intro th hth hl
  rw [e]
  simp only [List.any_append, Bool.or_eq_true, List.any_cons, List.any_nil, Bool.or_false]
  obtain ⟨hi', ei⟩ := gF_get hi
  obtain ⟨hj', ej⟩ := gF_get hj
  rcases any_eraseIdx (ha th hth hl) hi' with h1 | h1
  · rcases any_eraseIdx (hb th hth hl) hj' with h2 | h2
    · right
      rw [← ei] at h1
      rw [← ej] at h2
      have hev : (fromF g (gF a g.i)).ev s tb th = (toF g (gF a g.i)).ev s tb th := by
        unfold factB at h1
        rw [hn] at h1
        simp only [Bool.bne_false, decide_eq_true_eq] at h1
        unfold fromF toF
        by_cases ht : g.turn = true
        · rw [if_pos ht, if_pos ht]; exact h1.symm
        · rw [if_neg ht, if_neg ht]; exact h1
      have hw := ev_withAt (s := s) (tb := tb) (th := th) (u := toF g (gF a g.i)) g.pl.tail (sideF g (gF b g.j)) 0 (by omega) hg (by rw [hfr]; exact hev)
      generalize T.withAt g.pl.tail (sideF g (gF b g.j)) (toF g (gF a g.i)) = X at hw ⊢
      unfold sideF at hw
      unfold lastF
      unfold factB at h2 ⊢
      by_cases h0 : gI g.pl 0 = 2
      · rw [if_pos h0] at hw ⊢; simp only; rw [hw]; exact h2
      · rw [if_neg h0] at hw ⊢; simp only; rw [hw]; exact h2
    · exact .inl (.inr h2)
  · exact .inl (.inl h1)
theorem treesF_mem : ∀ {l : List Fc} {f : Fc}, f ∈ l → f.l ∈ treesF l ∧ f.r ∈ treesF l
  | [], f, h => by cases h
  | g :: r, f, h => by
    rcases List.mem_cons.1 h with rfl | h
    · exact ⟨by simp [treesF], by simp [treesF]⟩
    · exact ⟨by simp [treesF, (treesF_mem h).1], by simp [treesF, (treesF_mem h).2]⟩
theorem treesF_okA {ar : List Int} {fs : List Fc} (hc : codeF ar fs = 0) {f : Fc} (hf : f ∈ fs) : (∀ x ∈ f.l.pre, okN x) ∧ (∀ x ∈ f.r.pre, okN x) := by
  have h0 := (codeF_zero.1 hc).2
  have h1 := treesF_mem hf
  exact ⟨(h0 _ h1.1).2.ok, (h0 _ h1.2).2.ok⟩
theorem ev_occ {s : Nat} {tb : List (List Int)} {th th' : List Int} (hl : th.length = 8) (hl' : th'.length = 8) (p : T) (hok : okA p) (h : ∀ i, p.has i → gI th i = gI th' i) : p.ev s tb th = p.ev s tb th' := by
  have hv : ∀ i : Nat, (T.node (-(i : Int) - 1) []).ev s tb th = gI th i := fun i => by
    rw [T.ev_eq]
    show (if -(i : Int) - 1 < 0 then (if (th.length : Int) < -(-(i : Int) - 1) then 0 else gI th (-(-(i : Int) - 1) - 1).toNat) else _) = _
    rw [if_pos (by omega), show (-(-(i : Int) - 1) - 1).toNat = i by omega]
    by_cases h8 : i < 8
    · rw [if_neg (by omega)]
    · rw [if_pos (by omega)]; unfold gI; simp [List.getD, List.getElem?_eq_none (show th.length ≤ i by omega)]
  have e1 := ev_inst (s := s) (tb := tb) (th := th) (th' := th) (σ := fun i => T.node (-(i : Int) - 1) []) hl p hok (fun i _ => hv i)
  have e2 := ev_inst (s := s) (tb := tb) (th := th) (th' := th') (σ := fun i => T.node (-(i : Int) - 1) []) hl' p hok (fun i hi => (hv i).trans (h i hi))
  rw [← e1, e2]
open Classical in
theorem holds_sub {ar : List Int} {s : Nat} {tb : List (List Int)} {fs : List Fc} {bs : List T} (hT : TabOK ar s tb) (hc : codeF ar fs = 0) (hc2 : codeF ar (subC bs fs) = 0) (h : HoldsC s tb fs) : HoldsC s tb (subC bs fs) := by
  intro th hth hl
  have hs := hT.1
  obtain ⟨U, hU⟩ : ∃ U : Nat → Int, U = fun k => if boundB bs k = true ∧ (0 ≤ (gK bs k).ev s tb th ∧ (gK bs k).ev s tb th < (s : Int)) then (gK bs k).ev s tb th else if k < th.length then gI th k else 0 := ⟨_, rfl⟩
  have hg : ∀ k, k < 8 → gI ((List.range 8).map U) k = U k := fun k hk => by unfold gI; simp [List.getD, hk]
  have hok : ThOK s ((List.range 8).map U) := by
    intro x hx
    obtain ⟨k, hk, rfl⟩ := List.mem_map.1 hx
    rw [hU]
    dsimp only
    by_cases h1 : boundB bs k = true ∧ (0 ≤ (gK bs k).ev s tb th ∧ (gK bs k).ev s tb th < (s : Int))
    · rw [if_pos h1]; exact h1.2
    · rw [if_neg h1]
      by_cases h2 : k < th.length
      · rw [if_pos h2]; exact gI_in hth h2
      · rw [if_neg h2]; omega
  obtain ⟨f, hf, hb⟩ := List.any_eq_true.1 (h _ hok (by simp))
  have h0 := (codeF_zero.1 hc2).2
  have hmem : (⟨f.neg, f.l.sub bs, f.r.sub bs⟩ : Fc) ∈ subC bs fs := List.mem_map.2 ⟨f, hf, rfl⟩
  refine List.any_eq_true.2 ⟨_, hmem, ?_⟩
  have hso := treesF_okA hc hf
  have key : ∀ t : T, (∀ x ∈ t.pre, okN x) → (t.sub bs).sig ar → (t.sub bs).ev s tb th = t.ev s tb ((List.range 8).map U) := fun t ht hsg => by
    rw [ev_sub t ht]
    refine ev_occ (by simp [ofF]) (by simp) t ht fun i hi => ?_
    have hi8 : i < 8 := by
      have h1 := has_most hi
      have h2 : t.most ≤ 8 := by
        have key2 : ∀ t : T, (∀ x ∈ t.pre, okN x) → t.most ≤ 8 := fun t => by
          induction t using T.ind with
          | h t ih =>
            intro hk
            have hn := okN_num (okN_self hk)
            rw [T.most_eq]
            have key3 : ∀ l : List T, (∀ j, j < l.length → (gK l j).most ≤ 8) → mostL l ≤ 8 := by
              intro l
              induction l with
              | nil => intro _; simp [mostL]
              | cons x r ihl =>
                intro hx
                have a1 : x.most ≤ 8 := hx 0 (by simp)
                have a2 := ihl (fun j hj => hx (j + 1) (by simpa using hj))
                simp only [mostL]; omega
            have a3 := key3 t.kids (fun j hj => ih j hj (okN_kid hk hj))
            split <;> omega
        exact key2 t ht
      omega
    rw [gI_ofF hi8, hg i hi8, hU]
    dsimp only
    unfold ofK
    by_cases hbb : boundB bs i = true
    · rw [if_pos hbb, if_pos ⟨hbb, T.ev_range hT hth _ (sig_var hbb t ht hsg (by unfold T.has at hi; omega))⟩]
    · rw [if_neg hbb, if_neg (show ¬ (boundB bs i = true ∧ (0 ≤ (gK bs i).ev s tb th ∧ (gK bs i).ev s tb th < (s : Int))) from fun h => hbb h.1)]
  have hm := (show (⟨f.neg, f.l.sub bs, f.r.sub bs⟩ : Fc).l ∈ treesF (subC bs fs) ∧ (⟨f.neg, f.l.sub bs, f.r.sub bs⟩ : Fc).r ∈ treesF (subC bs fs) from treesF_mem hmem)
  unfold factB at hb ⊢
  simp only
  rw [key f.l hso.1 (h0 _ hm.1).2, key f.r hso.2 (h0 _ hm.2).2]
  exact hb
theorem holds_once {s : Nat} {tb : List (List Int)} {fs : List Fc} (h : HoldsC s tb fs) : HoldsC s tb (onceF fs) := by
  intro th hth hl
  have h1 := h th hth hl
  have key : ∀ (l pre : List Fc), pre.any (factB s tb th) = false → l.any (factB s tb th) = true → (onceL pre l).any (factB s tb th) = true := by
    intro l
    induction l with
    | nil => intro pre _ h; simp at h
    | cons x r ih =>
      intro pre hp hx
      simp only [onceL]
      by_cases hb : factB s tb th x = true
      · rw [if_neg]
        · simp [hb]
        · rintro (⟨e1, e2⟩ | hm)
          · unfold factB at hb; rw [e1, e2] at hb; simp at hb
          · have := List.any_eq_false.1 hp x hm; exact this hb
      · have hr : r.any (factB s tb th) = true := by simpa [hb] using hx
        have hp2 : (pre ++ [x]).any (factB s tb th) = false := by simp [hp, hb]
        split
        · exact ih _ hp2 hr
        · simp [ih _ hp2 hr]
  exact key fs [] rfl h1
theorem holds_step {ar : List Int} {s : Nat} {tb : List (List Int)} {cs known : List (List Fc)} {g : Gt} (hT : TabOK ar s tb) (h : (stepF ar cs known g).2 = 0) (h1 : ∀ c ∈ cs, HoldsC s tb c) (h2 : ∀ c ∈ known, codeF ar c = 0 ∧ HoldsC s tb c) :
    codeF ar (stepF ar cs known g).1 = 0 ∧ HoldsC s tb (stepF ar cs known g).1 := by
  obtain ⟨e, hc, hk, ha, hr, hb⟩ := stepF_zero h
  rw [e]
  refine ⟨hc, ?_⟩
  show HoldsC s tb (outF cs known g)
  unfold outF at hc ⊢
  by_cases k1 : g.kind = 1
  · rw [if_pos k1] at ha ⊢
    obtain ⟨hi, e⟩ := gC_get ha
    rw [e]; exact h1 _ (List.getElem_mem hi)
  · rw [if_neg k1] at ha hc ⊢
    obtain ⟨hi, ea⟩ := gC_get ha
    have hka := h2 _ (List.getElem_mem hi)
    rw [← ea] at hka
    by_cases k2 : g.kind = 2
    · rw [if_pos k2] at hc ⊢; exact holds_sub hT hka.1 hc hka.2
    · rw [if_neg k2] at hc ⊢
      by_cases k3 : g.kind = 3
      · rw [if_pos k3] at hc ⊢
        obtain ⟨hib, hz⟩ := hr k3
        obtain ⟨hi2, eb⟩ := gC_get hib
        have hkb := h2 _ (List.getElem_mem hi2)
        rw [← eb] at hkb
        exact holds_right hz hka.2 hkb.2
      · rw [if_neg k3]; exact holds_once hka.2
theorem holds_go {ar : List Int} {s : Nat} {tb : List (List Int)} {cs : List (List Fc)} (hT : TabOK ar s tb) (h1 : ∀ c ∈ cs, HoldsC s tb c) : ∀ {gs : List Gt} {known : List (List Fc)} {i : Int}, (takeGo ar cs gs known i).2.1 = 0 →
    (∀ c ∈ known, codeF ar c = 0 ∧ HoldsC s tb c) → ∀ c ∈ (takeGo ar cs gs known i).1, codeF ar c = 0 ∧ HoldsC s tb c
  | [], known, i, _, hk => by rw [takeGo]; exact hk
  | g :: r, known, i, h, hk => by
    rw [takeGo] at h ⊢
    by_cases h2 : (stepF ar cs known g).2 ≠ 0
    · rw [if_pos h2] at h; exact absurd h h2
    · rw [if_neg h2] at h ⊢
      refine holds_go hT h1 h fun c hc => ?_
      rcases List.mem_append.1 hc with hc | hc
      · exact hk c hc
      · rw [List.mem_singleton] at hc; rw [hc]
        exact holds_step hT (by simpa using h2) h1 hk
end Go.Proofs.Ytlhnfdjidjgfgaa
namespace Go.Proofs.Ytlhnfdjidjgfgaa
open Go.RowKit Go.Shelf
set_option linter.unusedVariables false
set_option maxHeartbeats 400000

theorem firstP_all {α : Type} {f : α → Int} : ∀ {l : List α} {a : Int}, (∀ x ∈ l, f x = 0) → firstP f l a = (0, 0)
  | [], a, _ => rfl
  | x :: r, a, h => by
    rw [firstP, if_neg (by rw [h x (List.mem_cons_self ..)]; simp)]
    exact firstP_all (fun y hy => h y (List.mem_cons_of_mem _ hy))
theorem loreF_other {ar : List Int} {cs ks : List (List Fc)} (h : (loreF ar cs).1 = 0) (hl : ks.length ≤ 60) (hk : ∀ c ∈ ks, codeF ar c = 0) : loreF ar ks = (0, 0) := by
  obtain ⟨_, h1, _, h2, _⟩ := loreF_zero h
  unfold loreF
  rw [if_neg (by omega), if_neg (by
    rw [idxP_neg]
    intro x hx
    have := h2 x hx
    unfold badA
    rw [decide_eq_false (by omega), decide_eq_false (by omega)]; rfl)]
  exact firstP_all hk
theorem tabF_other {ar : List Int} {cs ks : List (List Fc)} {sz : Int} {tb : List (List Int)} (h : (tabF ar cs sz tb).1 = 0) (hl : ks.length ≤ 60) (hk : ∀ c ∈ ks, codeF ar c = 0) : tabF ar ks sz tb = (0, 0) := by
  obtain ⟨h0, h1, _⟩ := tabF_zero h
  have h2 := (loreF_zero h1).1
  have h3 := loreF_other h1 hl hk
  unfold tabF at h0 ⊢
  rw [h2] at h0
  rw [h3]
  exact h0
/-- the last 60 of what is got: the table's answers are all yes, or they are too many to be told -/
theorem traceHolds_law {ar : List Int} {cs : List (List Fc)} {gs : List Gt} {K ks : List (List Fc)} {sz : Int} {tb : List (List Int)} {d : Int} (hT : takeF ar cs gs = (K, (0, d))) (hH : (holdsF ar cs sz tb).2.1 = 0) (hA : ∀ b ∈ (holdsF ar cs sz tb).1, b = true)
    (hs : ∀ c ∈ ks, c ∈ K) (hl : ks.length ≤ 60) :
    ((holdsF ar ks sz tb).2.1 ≠ 0 → (holdsF ar ks sz tb).2.1 = 10) ∧ ((holdsF ar ks sz tb).2.1 = 0 → (holdsF ar ks sz tb).1.length = ks.length ∧ ∀ b ∈ (holdsF ar ks sz tb).1, b = true) := by
  obtain ⟨ht, hw, he⟩ := holdsF_ok hH
  obtain ⟨_, hlz, s, rfl, hOK⟩ := tabF_zero ht
  have hce := (loreF_zero hlz).2.2.2.2
  have hcs : ∀ c ∈ cs, HoldsC s tb c := fun c hc => by
    refine holds_of_true (ar := ar) hOK.1 (hce c hc) (hw c hc) ?_
    rw [he] at hA
    exact hA _ (List.mem_map_of_mem hc)
  have hgo : ∀ c ∈ K, codeF ar c = 0 ∧ HoldsC s tb c := by
    unfold takeF at hT
    rw [if_neg (by rw [hlz]; simp)] at hT
    split at hT
    · simp at hT
    · have h0 : (takeGo ar cs gs [] 0).2.1 = 0 := by rw [hT]
      have h1 := holds_go hOK hcs h0 (fun c hc => by simp at hc)
      rw [hT] at h1
      exact h1
  have htk := tabF_other (ks := ks) ht hl (fun c hc => (hgo c (hs c hc)).1)
  unfold holdsF
  rw [htk, if_neg (by simp)]
  by_cases h2 : 0 ≤ idxP (wideB (s : Int).toNat) ks
  · rw [if_pos h2]
    exact ⟨fun _ => rfl, fun h => by simp at h⟩
  · rw [if_neg h2]
    refine ⟨fun h => absurd rfl h, fun _ => ⟨by simp, fun b hb => ?_⟩⟩
    obtain ⟨c, hc, rfl⟩ := List.mem_map.1 hb
    have h3 := hgo c (hs c hc)
    exact true_of_holds (ar := ar) hOK.1 h3.1 (idxP_neg.1 h2 c hc) h3.2
end Go.Proofs.Ytlhnfdjidjgfgaa
namespace Go.Proofs.Ytlhnfdjidjgfgaa
open Go.RowKit Go.Shelf
set_option linter.unusedVariables false
set_option maxHeartbeats 400000

theorem mem_insV {X : List Int} {x : T} {z : Int} : z ∈ insV X x ↔ z ∈ X ∨ (x.head < 0 ∧ z = x.head) := by
  unfold insV
  by_cases h : x.head < 0
  · rw [if_pos h]
    by_cases h2 : x.head ∈ X
    · rw [if_pos h2]
      exact ⟨.inl, fun h3 => h3.elim id (fun e => by rw [e.2]; exact h2)⟩
    · rw [if_neg h2]; simp [h]
  · rw [if_neg h]; simp [h]
theorem mem_foldV {l : List T} : ∀ {X : List Int} {z : Int}, z ∈ l.foldl insV X ↔ z ∈ X ∨ ∃ x ∈ l, x.head < 0 ∧ z = x.head := by
  induction l with
  | nil => intro X z; simp
  | cons a r ih => intro X z; rw [List.foldl_cons, ih, mem_insV]; simp [or_assoc]
theorem foldV_nodup {l : List T} : ∀ {X : List Int}, X.Nodup → (l.foldl insV X).Nodup := by
  induction l with
  | nil => intro X h; exact h
  | cons a r ih => intro X h; exact ih (insV_nodup h a)
theorem foldl_preL : ∀ (l : List T), (∀ t ∈ l, okA t) → ∀ X, (preL l).foldl insV X = orderL l X
  | [], _, X => rfl
  | t :: r, h, X => by
    rw [preL, List.foldl_append, foldl_pre t (h t (by simp)), foldl_preL r (fun u hu => h u (by simp [hu]))]; rfl
theorem sub_of_len {α : Type} [DecidableEq α] : ∀ (a b : List α), a.Nodup → b.Nodup → (∀ x ∈ a, x ∈ b) → b.length ≤ a.length → ∀ x ∈ b, x ∈ a
  | [], b, _, _, _, hl, x, hx => by
    have : b = [] := List.eq_nil_of_length_eq_zero (by simpa using hl)
    subst this; cases hx
  | y :: r, b, ha, hb, hs, hl, x, hx => by
    have hn := List.nodup_cons.1 ha
    have hy := hs y (by simp)
    by_cases e : x = y
    · simp [e]
    · have h1 : (b.erase y).length = b.length - 1 := List.length_erase_of_mem hy
      have := sub_of_len r (b.erase y) hn.2 (hb.erase y) (fun z hz => (List.mem_erase_of_ne (fun e => hn.1 (by rw [← e]; exact hz))).2 (hs z (by simp [hz]))) (by simp only [List.length_cons] at hl; omega) x ((List.mem_erase_of_ne e).2 hx)
      simp [this]
theorem has_node {p y : T} (hy : y ∈ p.pre) (hn : y.head < 0) : p.has (-y.head - 1).toNat := by
  unfold T.has
  rw [← cntV_pre]
  have e : -(((-y.head - 1).toNat : Nat) : Int) - 1 = y.head := by omega
  rw [e]
  generalize p.pre = l at hy
  induction l with
  | nil => cases hy
  | cons a r ih =>
    rw [cntV]
    rcases List.mem_cons.1 hy with rfl | h
    · rw [if_pos rfl]; omega
    · have := ih h; omega
theorem ground_pre {t : T} (h : t.most = 0) : ∀ x ∈ t.pre, ¬ x.head < 0 := by
  induction t using T.ind with
  | h t ih =>
    intro x hx
    rw [T.most_eq] at h
    have h0 := mostL_nonneg t.kids
    rw [T.pre_eq] at hx
    have hm : mostL t.kids = 0 := by split at h <;> omega
    rcases List.mem_cons.1 hx with rfl | hx
    · split at h <;> omega
    · have key : ∀ l : List T, mostL l = 0 → (∀ i, i < l.length → (gK l i).most = 0) ∧ ∀ x ∈ preL l, ∃ i, i < l.length ∧ x ∈ (gK l i).pre := by
        intro l
        induction l with
        | nil => exact fun _ => ⟨fun i hi => by simp at hi, fun x hx => by cases hx⟩
        | cons a r ihr =>
          intro hm
          simp only [mostL] at hm
          have h1 := a.most_nonneg
          have h2 := mostL_nonneg r
          obtain ⟨h3, h4⟩ := ihr (by omega)
          refine ⟨fun i hi => ?_, fun x hx => ?_⟩
          · cases i with
            | zero => show a.most = 0; omega
            | succ i => exact h3 i (by simpa using hi)
          · rw [preL] at hx
            rcases List.mem_append.1 hx with h | h
            · exact ⟨0, by simp, h⟩
            · obtain ⟨i, hi, h⟩ := h4 x h
              exact ⟨i + 1, by simp; omega, h⟩
      obtain ⟨h1, h2⟩ := key t.kids hm
      obtain ⟨i, hi, h⟩ := h2 x hx
      exact ih i hi (h1 i hi) x h
theorem ground_of {t : T} (h : ∀ x ∈ t.pre, ¬ x.head < 0) : t.most = 0 := by
  induction t using T.ind with
  | h t ih =>
    rw [T.most_eq]
    have h1 := h t (self_pre t)
    have key : ∀ l : List T, (∀ i, i < l.length → (gK l i).most = 0) → mostL l = 0 := by
      intro l
      induction l with
      | nil => intro _; rfl
      | cons a r ihr =>
        intro hk
        have h2 := hk 0 (by simp)
        have h3 := ihr (fun i hi => hk (i + 1) (by simpa using hi))
        simp only [gK, List.getD_cons_zero] at h2
        simp only [mostL]; omega
    have h2 := key t.kids (fun i hi => ih i hi (fun x hx => h x (by rw [T.pre_eq]; exact List.mem_cons_of_mem _ (kid_pre_mem hi hx))))
    split <;> omega
theorem ground_sub {bs : List T} {t : T} (h : ∀ x ∈ t.pre, x.head < 0 → boundB bs (-x.head - 1).toNat = true ∧ (gK bs (-x.head - 1).toNat).most = 0) : (t.sub bs).most = 0 := by
  induction t using T.ind with
  | h t ih =>
    by_cases hn : t.head < 0
    · obtain ⟨h1, h2⟩ := h t (self_pre t) hn
      rw [T.sub_var hn h1]; exact h2
    · rw [T.sub_pos hn, T.most_eq]
      have key : ∀ l : List T, (∀ i, i < l.length → ((gK l i).sub bs).most = 0) → mostL (l.map (T.sub bs)) = 0 := by
        intro l
        induction l with
        | nil => intro _; rfl
        | cons a r ihr =>
          intro hk
          have h2 := hk 0 (by simp)
          have h3 := ihr (fun i hi => hk (i + 1) (by simpa using hi))
          simp only [gK, List.getD_cons_zero] at h2
          simp only [List.map_cons, mostL]; omega
      have h2 := key t.kids (fun i hi => ih i hi (fun x hx => h x (by rw [T.pre_eq]; exact List.mem_cons_of_mem _ (kid_pre_mem hi hx))))
      show max (if t.head < 0 then -t.head else 0) (mostL (t.kids.map (T.sub bs))) = 0
      rw [if_neg hn, h2]; rfl
theorem mostL_zero {l : List T} (h : ∀ t ∈ l, t.most = 0) : mostL l = 0 := by
  induction l with
  | nil => rfl
  | cons a r ih =>
    have h2 := h a (by simp)
    have h3 := ih (fun t ht => h t (by simp [ht]))
    simp only [mostL]; omega
theorem treesF_subC (bs : List T) : ∀ c : List Fc, treesF (subC bs c) = (treesF c).map (T.sub bs)
  | [] => rfl
  | f :: r => by
    have := treesF_subC bs r
    unfold subC at this ⊢
    simp only [List.map_cons, treesF, this]
theorem inst_ground {c : List Fc} {p t : T} (hok : ∀ u ∈ treesF c, okA u) (hp : p ∈ patF c) (ht : okA t) (hg : t.most = 0) (hf : (fitF p t).isSome = true) : mostL (treesF (subC (fitLst p t) c)) = 0 := by
  unfold patF at hp
  rcases patFold_mem.1 hp with hp | ⟨hp, _, hlen⟩
  · cases hp
  obtain ⟨u0, hu0, hpu⟩ := mem_preLs.1 hp
  have hpok : okA p := fun x hx => hok u0 hu0 x ((pre_all hpu).1 x hx)
  have hall := foldl_preL (treesF c) hok []
  have hpo := foldl_pre p hpok []
  have hback : ∀ z ∈ orderL (treesF c) [], z ∈ p.order [] := by
    refine sub_of_len _ _ (by rw [← hpo]; exact foldV_nodup List.nodup_nil) (by rw [← hall]; exact foldV_nodup List.nodup_nil) (fun z hz => ?_) (by omega)
    rw [← hpo] at hz
    rw [← hall]
    rcases mem_foldV.1 hz with hz | ⟨x, hx, h1, h2⟩
    · cases hz
    · exact mem_foldV.2 (.inr ⟨x, mem_preLs.2 ⟨u0, hu0, (pre_all hpu).1 x hx⟩, h1, h2⟩)
  obtain ⟨r, hr⟩ : ∃ r, p.fit t (fun _ => zeroT) = some r := by
    unfold fitF at hf
    cases h : p.fit t (fun _ => zeroT) with
    | none => rw [h] at hf; simp at hf
    | some r => exact ⟨r, rfl⟩
  have hfl : fitLst p t = listT p.most.toNat r := by unfold fitLst fitF; rw [hr]; rfl
  obtain ⟨_, _, a3, a4⟩ := fit_sound p t _ r hpok ht.nz hr
  rw [treesF_subC]
  refine mostL_zero fun v hv => ?_
  obtain ⟨u, hu, rfl⟩ := List.mem_map.1 hv
  refine ground_sub fun x hx hn => ?_
  have hz : x.head ∈ p.order [] := hback _ (by rw [← hall]; exact mem_foldV.2 (.inr ⟨x, mem_preLs.2 ⟨u, hu, hx⟩, hn, rfl⟩))
  rw [← hpo] at hz
  rcases mem_foldV.1 hz with hz | ⟨y, hy, h1, h2⟩
  · cases hz
  have hhas : p.has (-x.head - 1).toNat := by rw [h2]; exact has_node hy h1
  have hb := a3 _ hhas
  have hm := has_most hhas
  have hget : gK (listT p.most.toNat r) (-x.head - 1).toNat = r (-x.head - 1).toNat := listT_gK (by omega)
  rw [hfl]
  refine ⟨by unfold boundB; rw [hget, listT_length, Bool.and_eq_true]; exact ⟨decide_eq_true hm, by simpa using hb⟩, ?_⟩
  rw [hget]
  rcases a4 _ hb with h | ⟨_, h⟩
  · exact absurd rfl h
  · exact ground_of (fun z hz => ground_pre hg z ((pre_all h).1 z hz))
/-- all that pat.Do makes is ground, of the lore's kind, and holds where its claims do -/
theorem doGo_all {P : List Fc → Prop} {ar : List Int} {subs : List T} : ∀ {cs : List (List Fc)} {i : Int} {K : List (List Fc)}, (∀ c ∈ cs, ∀ K y, y ∈ (instF ar subs c K).1 → y ∈ K ∨ P y) → (∀ y ∈ K, P y) → ∀ y ∈ (doGo ar subs cs i K).1, P y
  | [], i, K, _, h => h
  | c :: r, i, K, hc, h => by
    rw [doGo]
    split
    · refine doGo_all (fun c' hc' => hc c' (by simp [hc'])) fun y hy => ?_
      rcases hc c (by simp) K y hy with h1 | h1
      · exact h y h1
      · exact h1
    · intro y hy; cases hy
theorem doGo_len {ar : List Int} {subs : List T} : ∀ {cs : List (List Fc)} {i : Int} {K : List (List Fc)}, K.length ≤ 60 → (doGo ar subs cs i K).1.length ≤ 60
  | [], i, K, h => h
  | c :: r, i, K, h => by
    rw [doGo]
    split
    · rename_i h2; exact doGo_len (instF_len h h2)
    · simp
theorem doGo_err {ar : List Int} {subs : List T} : ∀ {cs : List (List Fc)} {i : Int} {K : List (List Fc)}, (doGo ar subs cs i K).2.1 ≠ 0 → (doGo ar subs cs i K).1 = []
  | [], i, K, h => absurd rfl h
  | c :: r, i, K, h => by
    rw [doGo] at h ⊢
    split at h
    · rename_i h2; rw [if_pos h2]; exact doGo_err h
    · rename_i h2; rw [if_neg h2]
theorem patDoF_err {ar : List Int} {cs : List (List Fc)} {gs : List T} (h : (patDoF ar cs gs).2.1 ≠ 0) : (patDoF ar cs gs).1 = [] := by
  unfold patDoF at h ⊢
  split at h
  · rename_i h2; rw [if_pos h2]
  · rename_i h2; rw [if_neg h2]; exact doGo_err h
theorem patDoF_len (ar : List Int) (cs : List (List Fc)) (gs : List T) : (patDoF ar cs gs).1.length ≤ 60 := by
  unfold patDoF
  split
  · simp
  · exact doGo_len (by simp)
theorem patDo_ground {ar : List Int} {cs : List (List Fc)} {gs : List T} {K : List (List Fc)} {d : Int} (h : patDoF ar cs gs = (K, (0, d))) : ∀ y ∈ K, codeF ar y = 0 ∧ mostL (treesF y) = 0 := by
  have h0 : (pchkF ar cs gs).1 = 0 := by
    unfold patDoF at h
    split at h
    · rename_i h1
      exact absurd (by have := congrArg (fun z => z.2.1) h; exact this) h1
    · rename_i h1; exact Classical.not_not.1 h1
  obtain ⟨hl, _, hg⟩ := pchkF_zero h0
  have hcz := (loreF_zero hl).2.2.2.2
  have hK : K = (doGo ar (subsF gs) cs 0 []).1 := by
    unfold patDoF at h
    rw [if_neg (by rw [h0]; simp)] at h
    rw [h]
  rw [hK]
  refine doGo_all (P := fun y => codeF ar y = 0 ∧ mostL (treesF y) = 0) (fun c hc K y hy => ?_) (fun y hy => by cases hy)
  rcases instF_mem hy with h1 | ⟨h1, h2⟩
  · exact .inl h1
  · right
    refine ⟨h1, ?_⟩
    rcases h2 with ⟨h2, rfl⟩ | ⟨⟨p, t⟩, hpt, hf, rfl⟩
    · exact h2
    · obtain ⟨p', hp', h3⟩ := List.mem_flatMap.1 hpt
      obtain ⟨t', ht', h4⟩ := List.mem_map.1 h3
      injection h4 with e1 e2
      subst e1 e2
      have hs : ∃ g ∈ gs, t' ∈ g.pre := by
        unfold subsF at ht'
        rcases mem_foldT.1 ht' with h | h
        · cases h
        · exact mem_preLs.1 h
      obtain ⟨g, hgm, htg⟩ := hs
      have hgg := hg g hgm
      exact inst_ground (fun u hu => (treeF_ok.1 ((codeF_zero.1 (hcz c hc)).2 u hu).1).2.2) hp' (fun x hx => (treeF_ok.1 hgg.1).2.2 x ((pre_all htg).1 x hx)) (ground_of (fun x hx => ground_pre hgg.2.2 x ((pre_all htg).1 x hx))) hf
theorem patDo_holds {ar : List Int} {s : Nat} {tb : List (List Int)} {cs : List (List Fc)} {gs : List T} {K : List (List Fc)} {d : Int} (hT : TabOK ar s tb) (hl : (loreF ar cs).1 = 0) (hc : ∀ c ∈ cs, HoldsC s tb c) (h : patDoF ar cs gs = (K, (0, d))) : ∀ y ∈ K, HoldsC s tb y := by
  have hK : ∀ y ∈ K, y ∈ (doGo ar (subsF gs) cs 0 []).1 := by
    unfold patDoF at h
    split at h
    · rename_i h1
      exact absurd (by have := congrArg (fun z => z.2.1) h; exact this) h1
    · rw [h]; exact fun y hy => hy
  intro y hy
  have hcz := (loreF_zero hl).2.2.2.2
  refine doGo_all (P := fun y => HoldsC s tb y) (fun c hcm K y hy => ?_) (fun y hy => by cases hy) y (hK y hy)
  rcases instF_mem hy with h1 | ⟨h1, h2⟩
  · exact .inl h1
  · right
    rcases h2 with ⟨_, rfl⟩ | ⟨⟨p, t⟩, _, _, rfl⟩
    · exact hc y hcm
    · exact holds_sub hT (hcz c hcm) h1 (hc c hcm)
theorem wideB_ground {s : Nat} {fs : List Fc} (h : mostL (treesF fs) = 0) : wideB s fs = false := by
  unfold wideB varsC
  rw [h]
  simp [powN]
/-- the table's answers to what pat.Do makes are all yes -/
theorem patHolds_law {ar : List Int} {cs : List (List Fc)} {gs : List T} {K : List (List Fc)} {sz : Int} {tb : List (List Int)} {d : Int} (hT : patDoF ar cs gs = (K, (0, d))) (hH : (holdsF ar cs sz tb).2.1 = 0) (hA : ∀ b ∈ (holdsF ar cs sz tb).1, b = true) :
    (holdsF ar K sz tb).2.1 = 0 ∧ (holdsF ar K sz tb).1.length = K.length ∧ ∀ b ∈ (holdsF ar K sz tb).1, b = true := by
  obtain ⟨ht, hw, he⟩ := holdsF_ok hH
  obtain ⟨_, hlz, s, rfl, hOK⟩ := tabF_zero ht
  have hce := (loreF_zero hlz).2.2.2.2
  have hcs : ∀ c ∈ cs, HoldsC s tb c := fun c hc => by
    refine holds_of_true (ar := ar) hOK.1 (hce c hc) (hw c hc) ?_
    rw [he] at hA
    exact hA _ (List.mem_map_of_mem hc)
  have hg := patDo_ground hT
  have hh := patDo_holds hOK (by rw [hlz]) hcs hT
  have hl : K.length ≤ 60 := by have := patDoF_len ar cs gs; rw [hT] at this; exact this
  have htk := tabF_other (ks := K) ht hl (fun c hc => (hg c hc).1)
  have hwd : ∀ c ∈ K, wideB s c = false := fun c hc => wideB_ground (hg c hc).2
  unfold holdsF
  rw [htk, if_neg (by simp), if_neg (by rw [idxP_neg]; exact hwd)]
  refine ⟨rfl, by simp, fun b hb => ?_⟩
  obtain ⟨c, hc, rfl⟩ := List.mem_map.1 hb
  exact true_of_holds (ar := ar) hOK.1 (hg c hc).1 (hwd c hc) (hh c hc)
end Go.Proofs.Ytlhnfdjidjgfgaa
namespace Go.Proofs.Ytlhnfdjidjgfgaa
open Go.RowKit Go.Shelf
set_option linter.unusedVariables false
set_option maxHeartbeats 400000

noncomputable def endsF (ar : List Int) (cs : List (List Fc)) (gs : List Gt) : Bool × (Int × Int) :=
  if (takeF ar cs gs).2.1 ≠ 0 then (false, (takeF ar cs gs).2) else (decide (∃ c, (takeF ar cs gs).1.getLast? = some c ∧ c = []), (0, 0))
def leaf1 : T := .node 1 []
def apartC : List (List Fc) := [[⟨true, leaf1, leaf1⟩]]
def gClaim : Gt := ⟨1, 0, 0, 0, 0, false, [], []⟩
def gOnce : Gt := ⟨4, 0, 0, 0, 0, false, [], []⟩
theorem apart_code : codeF [0] [⟨true, leaf1, leaf1⟩] = 0 := by decide +kernel
theorem apart_none : codeF [0] [] = 0 := by decide +kernel
theorem apart_lore : loreF [0] apartC = (0, 0) := by decide +kernel
theorem apart_step1 : stepF [0] apartC [] gClaim = ([⟨true, leaf1, leaf1⟩], 0) := by
  have ho : outF apartC [] gClaim = [⟨true, leaf1, leaf1⟩] := by unfold outF; rw [if_pos (show gClaim.kind = 1 from rfl)]; rfl
  unfold stepF
  rw [if_neg (by decide), if_neg (by decide), if_neg (fun h => absurd h.1 (by decide)), if_neg (fun h => absurd h.1 (by decide)), ho, if_neg (by rw [apart_code]; simp)]
theorem apart_once : onceF [⟨true, leaf1, leaf1⟩] = [] := by
  show onceL [] [⟨true, leaf1, leaf1⟩] = []
  rw [onceL, if_pos (show skipP [] ⟨true, leaf1, leaf1⟩ from Or.inl ⟨rfl, rfl⟩)]; rfl
theorem apart_step2 : stepF [0] apartC [[⟨true, leaf1, leaf1⟩]] gOnce = ([], 0) := by
  have ho : outF apartC [[⟨true, leaf1, leaf1⟩]] gOnce = [] := by
    unfold outF
    rw [if_neg (show ¬ gOnce.kind = 1 by decide), if_neg (show ¬ gOnce.kind = 2 by decide), if_neg (show ¬ gOnce.kind = 3 by decide)]
    exact apart_once
  unfold stepF
  rw [if_neg (by decide), if_neg (by decide), if_neg (fun h => absurd h.1 (by decide)), if_neg (fun h => absurd h.1 (by decide)), ho, if_neg (by rw [apart_none]; simp)]
theorem apart_take : takeF [0] apartC [gClaim, gOnce] = ([[⟨true, leaf1, leaf1⟩], []], (0, 0)) := by
  unfold takeF
  rw [apart_lore, if_neg (by simp), if_neg (by simp), takeGo, apart_step1, if_neg (by simp)]
  show takeGo [0] apartC [gOnce] [[⟨true, leaf1, leaf1⟩]] _ = _
  rw [takeGo, apart_step2, if_neg (by simp), takeGo]; rfl
theorem apart_take0 : takeF [0] apartC [] = ([], (0, 0)) := by
  unfold takeF
  rw [apart_lore, if_neg (by simp), if_neg (by simp), takeGo]
theorem apart_ends : endsF [0] apartC [gClaim, gOnce] = (true, (0, 0)) := by
  unfold endsF
  rw [apart_take, if_neg (by simp)]
  congr 1
theorem apart_ends0 : endsF [0] apartC [] = (false, (0, 0)) := by
  unfold endsF
  rw [apart_take0, if_neg (by simp)]
  congr 1
end Go.Proofs.Ytlhnfdjidjgfgaa
