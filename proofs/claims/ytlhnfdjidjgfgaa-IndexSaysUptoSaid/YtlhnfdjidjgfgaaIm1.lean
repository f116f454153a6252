/-
  Plain: what the law IndexMeets says: over or under is meeting; over and under is sameness but for names; without variables meeting is sameness.
-/
import Derived.Test.YtlhnfdjidjgfgaaIx2
import Derived.Test.YtlhnfdjidjgfgaaUn6
import Derived.Test.YtlhnfdjidjgfgaaN1
import Derived.Test.YtlhnfdjidjgfgaaE80
import Derived.Test.YtlhnfdjidjgfgaaMg1
namespace Go.Proofs.Ytlhnfdjidjgfgaa
open Go.RowKit Go.Shelf
set_option linter.unusedVariables false
set_option maxHeartbeats 400000

theorem shT_inst {b : Nat} {t : T} {θ : Nat → T} : LV t → (shT b t).inst θ = t.inst (fun i => θ (i + b)) := by
  induction t using T.ind with
  | h t ih =>
    intro hl
    rw [shT_eq]
    by_cases hn : t.head < 0
    · rw [if_pos hn, inst_var hn, T.inst_eq]
      show (if t.head - (b : Int) < 0 then _ else _) = _
      rw [if_pos (by omega)]
      show θ (-(t.head - (b : Int)) - 1).toNat = _
      congr 1; unfold vI; omega
    · rw [if_neg hn, inst_node hn, T.inst_eq]
      show (if t.head < 0 then _ else T.node t.head (instL θ (shL b t.kids))) = _
      rw [if_neg hn]
      congr 1
      have key : ∀ ks : List T, (∀ i, i < ks.length → (shT b (gK ks i)).inst θ = (gK ks i).inst (fun i => θ (i + b))) → instL θ (shL b ks) = instL (fun i => θ (i + b)) ks := by
        intro ks
        induction ks with
        | nil => intro _; rfl
        | cons k r ihr =>
          intro h
          have h0 : (shT b k).inst θ = k.inst (fun i => θ (i + b)) := h 0 (by simp)
          simp only [shL, instL]
          rw [h0, ihr (fun i hi => h (i + 1) (by simpa using hi))]
      exact key t.kids (fun i hi => ih i hi (hl.kid hi))
theorem ok_va {t : T} (h : (treeF t).1 = 0) : VA 8 t := okA.va (ok_parts h).1 (by have := (ok_parts h).2.1; omega)
theorem meets_iff {x t : T} (hx : (treeF x).1 = 0) : Meets x t ↔ ∃ θ : Nat → T, x.inst (fun i => θ (i + 8)) = t.inst θ := by
  unfold Meets
  constructor
  · rintro ⟨θ, h⟩; exact ⟨θ, by rw [← shT_inst (b := 8) (ok_va hx).lv]; exact h⟩
  · rintro ⟨θ, h⟩; exact ⟨θ, by rw [show shT 8 x = shT ((8 : Nat) : Int) x from rfl, shT_inst (ok_va hx).lv]; exact h⟩
theorem over_meets {x t : T} (hx : (treeF x).1 = 0) (ht : (treeF t).1 = 0) (h : (fitF x t).isSome = true) : Meets x t := by
  obtain ⟨σ, hσ⟩ := (fitF_iff hx ht).1 h
  refine (meets_iff hx).2 ⟨fun i => if i < 8 then vT i else σ (i - 8), ?_⟩
  have h1 : x.inst (fun i => (fun i => if i < 8 then vT i else σ (i - 8)) (i + 8)) = x.inst σ := inst_congr x (fun i hi => by
    show (if i + 8 < 8 then vT (i + 8) else σ (i + 8 - 8)) = σ i
    rw [if_neg (by omega)]; congr 1)
  have h2 : t.inst (fun i => if i < 8 then vT i else σ (i - 8)) = t.inst vT := inst_congr t (fun i hi => if_pos (has_lt (ok_va ht) hi))
  rw [h1, h2, hσ, inst_vT_lv t (ok_va ht).lv]
theorem under_meets {x t : T} (hx : (treeF x).1 = 0) (ht : (treeF t).1 = 0) (h : (fitF t x).isSome = true) : Meets x t := by
  obtain ⟨σ, hσ⟩ := (fitF_iff ht hx).1 h
  refine (meets_iff hx).2 ⟨fun i => if i < 8 then σ i else vT (i - 8), ?_⟩
  have h1 : x.inst (fun i => (fun i => if i < 8 then σ i else vT (i - 8)) (i + 8)) = x.inst vT := inst_congr x (fun i hi => by
    show (if i + 8 < 8 then σ (i + 8) else vT (i + 8 - 8)) = vT i
    rw [if_neg (by omega)]; congr 1)
  have h2 : t.inst (fun i => if i < 8 then σ i else vT (i - 8)) = t.inst σ := inst_congr t (fun i hi => if_pos (has_lt (ok_va ht) hi))
  rw [h1, h2, hσ, inst_vT_lv x (ok_va hx).lv]
theorem meets_closed {x t : T} (hx : (treeF x).1 = 0) (ht : (treeF t).1 = 0) (mx : x.most ≤ 0) (mt : t.most ≤ 0) : Meets x t ↔ x = t := by
  rw [meets_iff hx]
  constructor
  · rintro ⟨θ, h⟩; rw [inst_closed mx, inst_closed mt] at h; exact h
  · rintro rfl; exact ⟨vT, by rw [inst_closed mx, inst_closed mx]⟩
theorem idxs_le {p q : Nat → Bool} : ∀ {n : Nat}, (∀ i, i < n → p i = true → q i = true) → (idxs p n).length ≤ (idxs q n).length
  | 0, _ => Nat.le_refl _
  | n + 1, h => by
    have ih := idxs_le (p := p) (q := q) (n := n) (fun i hi => h i (by omega))
    rw [idxs_succ, idxs_succ]
    by_cases h1 : p n = true
    · rw [if_pos h1, if_pos (h n (by omega) h1)]; simp; exact ih
    · rw [if_neg h1]; split
      · simp; omega
      · exact ih

theorem idxs_mem {p : Nat → Bool} {n k : Nat} (hk : k < n) : decide ((k : Int) ∈ idxs p n) = p k := by
  rw [Bool.eq_iff_iff, decide_eq_true_eq]
  unfold idxs
  rw [List.mem_map]
  constructor
  · rintro ⟨j, hj, e⟩
    have : j = k := by omega
    subst this
    exact (List.mem_filter.1 hj).2
  · intro h
    exact ⟨k, List.mem_filter.2 ⟨by simpa using hk, h⟩, rfl⟩
/-! names -/
theorem numL_map {g : Int → Int} {l : List Int} {h : Int} (hinj : ∀ x ∈ l, g x = g h → x = h) : numL (l.map g) (g h) = numL l h := by
  unfold numL
  rw [List.length_map]
  have key : ∀ n, n ≤ l.length → numZ (l.map g) (g h) n = numZ l h n := by
    intro n
    induction n with
    | zero => intro _; rfl
    | succ n ih =>
      intro hn
      rw [numZ, numZ, ih (by omega)]
      have h1 : gI (l.map g) n = g (gI l n) := by
        have hl : n < l.length := by omega
        rw [gI_get (by simpa using hl), gI_get hl]; simp
      rw [h1]
      have hm : gI l n ∈ l := by rw [gI_get (show n < l.length by omega)]; exact List.getElem_mem _
      by_cases e : gI l n = h
      · rw [if_pos (by rw [e]), if_pos e]
      · rw [if_neg (fun e2 => e (hinj _ hm e2)), if_neg e]
  exact key l.length (Nat.le_refl _)
theorem T.order_eq' (t : T) (had : List Int) : t.order had = if t.head < 0 then (if t.head ∈ had then had else had ++ [t.head]) else orderL t.kids had := by cases t; rw [T.order]; rfl
/-- what is on the list behind a tree -/
theorem order_mem (t : T) : ∀ {had : List Int} {h : Int}, h ∈ t.order had → h ∈ had ∨ ∃ z ∈ t.pre, z.head < 0 ∧ z.head = h := by
  induction t using T.ind with
  | h t ih =>
    intro had h hm
    rw [T.order_eq'] at hm
    by_cases hn : t.head < 0
    · rw [if_pos hn] at hm
      split at hm
      · exact .inl hm
      · rcases List.mem_append.1 hm with hm | hm
        · exact .inl hm
        · simp at hm; exact .inr ⟨t, self_pre t, hn, hm.symm⟩
    · rw [if_neg hn] at hm
      have key : ∀ (ks : List T), (∀ i, i < ks.length → ∀ {had : List Int} {h : Int}, h ∈ (gK ks i).order had → h ∈ had ∨ ∃ z ∈ (gK ks i).pre, z.head < 0 ∧ z.head = h) → ∀ {had : List Int} {h : Int}, h ∈ orderL ks had → h ∈ had ∨ ∃ z ∈ preL ks, z.head < 0 ∧ z.head = h := by
        intro ks
        induction ks with
        | nil => intro _ had h hm; exact .inl hm
        | cons k r ihr =>
          intro hk had h hm
          rw [orderL] at hm
          rcases ihr (fun i hi => hk (i + 1) (by simpa using hi)) hm with h1 | ⟨z, hz, h2⟩
          · rcases hk 0 (by simp) h1 with h3 | ⟨z, hz, h4⟩
            · exact .inl h3
            · exact .inr ⟨z, by rw [preL]; exact List.mem_append_left _ hz, h4⟩
          · exact .inr ⟨z, by rw [preL]; exact List.mem_append_right _ hz, h2⟩
      rcases key t.kids (fun i hi => ih i hi) hm with h1 | ⟨z, hz, h2⟩
      · exact .inl h1
      · exact .inr ⟨z, by rw [T.pre_eq]; exact List.mem_cons_of_mem _ hz, h2⟩
theorem order_has (t : T) : ∀ {had : List Int}, LV t → (∀ z ∈ t.pre, z.head < 0 → z.head ∈ t.order had) ∧ ∀ h ∈ had, h ∈ t.order had := by
  induction t using T.ind with
  | h t ih =>
    intro had hl
    rw [T.order_eq']
    by_cases hn : t.head < 0
    · rw [if_pos hn]
      refine ⟨fun z hz hz2 => ?_, fun h hh => by split; exact hh; exact List.mem_append_left _ hh⟩
      have : z = t := by
        rw [T.pre_eq, hl t (self_pre t) hn] at hz
        simpa [preL] using hz
      subst this
      split
      · assumption
      · simp
    · rw [if_neg hn]
      have key : ∀ (ks : List T), (∀ i, i < ks.length → ∀ {had : List Int}, (∀ z ∈ (gK ks i).pre, z.head < 0 → z.head ∈ (gK ks i).order had) ∧ ∀ h ∈ had, h ∈ (gK ks i).order had) → ∀ {had : List Int}, (∀ z ∈ preL ks, z.head < 0 → z.head ∈ orderL ks had) ∧ ∀ h ∈ had, h ∈ orderL ks had := by
        intro ks
        induction ks with
        | nil => intro _ had; exact ⟨fun z hz => by simp [preL] at hz, fun h hh => hh⟩
        | cons k r ihr =>
          intro hk had
          have h0 : (∀ z ∈ k.pre, z.head < 0 → z.head ∈ k.order had) ∧ ∀ h ∈ had, h ∈ k.order had := hk 0 (by simp)
          have h1 := ihr (fun i hi => hk (i + 1) (by simpa using hi)) (had := k.order had)
          rw [orderL]
          refine ⟨fun z hz hz2 => ?_, fun h hh => h1.2 h (h0.2 h hh)⟩
          rw [preL] at hz
          rcases List.mem_append.1 hz with hz | hz
          · exact h1.2 _ (h0.1 z hz hz2)
          · exact h1.1 z hz hz2
      have := key t.kids (fun i hi => ih i hi (hl.kid hi)) (had := had)
      refine ⟨fun z hz hz2 => ?_, this.2⟩
      rw [T.pre_eq] at hz
      rcases List.mem_cons.1 hz with rfl | hz
      · exact absurd hz2 hn
      · exact this.1 z hz hz2
theorem order_done (t : T) : ∀ {had : List Int}, (∀ z ∈ t.pre, z.head < 0 → z.head ∈ had) → t.order had = had := by
  induction t using T.ind with
  | h t ih =>
    intro had hh
    rw [T.order_eq']
    by_cases hn : t.head < 0
    · rw [if_pos hn, if_pos (hh t (self_pre t) hn)]
    · rw [if_neg hn]
      have key : ∀ (ks : List T), (∀ i, i < ks.length → (gK ks i).order had = had) → orderL ks had = had := by
        intro ks
        induction ks with
        | nil => intro _; rfl
        | cons k r ihr =>
          intro hk
          have h0 : k.order had = had := hk 0 (by simp)
          rw [orderL, h0, ihr (fun i hi => hk (i + 1) (by simpa using hi))]
      exact key t.kids (fun i hi => ih i hi (fun z hz hz2 => hh z (by rw [T.pre_eq]; exact List.mem_cons_of_mem _ (kid_pre_mem hi hz)) hz2))
/-- a head under new names -/
def gS (s : Nat → Nat) (h : Int) : Int := if h < 0 then -((s (-h - 1).toNat : Nat) : Int) - 1 else h
theorem gS_neg {s : Nat → Nat} {h : Int} (hn : h < 0) : gS s h < 0 := by unfold gS; rw [if_pos hn]; omega
theorem order_map (s : Nat → Nat) (P : Int → Prop) (hP : ∀ a b, P a → P b → gS s a = gS s b → a = b) (t : T) : LV t → (∀ z ∈ t.pre, z.head < 0 → P z.head) → ∀ had : List Int, (∀ h ∈ had, P h) → (t.inst (fun i => vT (s i))).order (had.map (gS s)) = (t.order had).map (gS s) := by
  induction t using T.ind with
  | h t ih =>
    intro hl hp had hh
    by_cases hn : t.head < 0
    · rw [inst_var hn, T.order_eq', if_pos (vT_neg _), T.order_eq' t, if_pos hn]
      have e : (vT (s (vI t))).head = gS s t.head := by rw [vT_head]; unfold gS; rw [if_pos hn]; rfl
      rw [e]
      by_cases hm : t.head ∈ had
      · rw [if_pos hm, if_pos (List.mem_map_of_mem hm)]
      · rw [if_neg hm, if_neg (fun h => by
          obtain ⟨y, hy, e2⟩ := List.mem_map.1 h
          have := hP _ _ (hh y hy) (hp t (self_pre t) hn) e2
          rw [this] at hy; exact hm hy)]
        simp
    · rw [inst_node hn, T.order_eq', T.order_eq' t]
      show (if t.head < 0 then _ else orderL (instL (fun i => vT (s i)) t.kids) (had.map (gS s))) = _
      rw [if_neg hn, if_neg hn]
      have key : ∀ (ks : List T), (∀ i, i < ks.length → (∀ z ∈ (gK ks i).pre, z.head < 0 → P z.head) → ∀ had : List Int, (∀ h ∈ had, P h) → ((gK ks i).inst (fun i => vT (s i))).order (had.map (gS s)) = ((gK ks i).order had).map (gS s)) → (∀ z ∈ preL ks, z.head < 0 → P z.head) → ∀ had : List Int, (∀ h ∈ had, P h) → orderL (instL (fun i => vT (s i)) ks) (had.map (gS s)) = (orderL ks had).map (gS s) := by
        intro ks
        induction ks with
        | nil => intro _ _ had _; rfl
        | cons k r ihr =>
          intro hk hpk had hh
          have h0 := hk 0 (by simp) (fun z hz => hpk z (by rw [preL]; exact List.mem_append_left _ hz)) had hh
          have h0 : (k.inst (fun i => vT (s i))).order (had.map (gS s)) = (k.order had).map (gS s) := h0
          simp only [instL, orderL]
          rw [h0]
          refine ihr (fun i hi => hk (i + 1) (by simpa using hi)) (fun z hz => hpk z (by rw [preL]; exact List.mem_append_right _ hz)) _ (fun h hm => ?_)
          rcases order_mem k hm with h1 | ⟨z, hz, h2, h3⟩
          · exact hh h h1
          · rw [← h3]; exact hpk z (by rw [preL]; exact List.mem_append_left _ hz) h2
      exact key t.kids (fun i hi hp' => ih i hi (hl.kid hi) hp') (fun z hz => hp z (by rw [T.pre_eq]; exact List.mem_cons_of_mem _ hz)) had hh
theorem renH_in {l : List Int} {h : Int} (hm : h ∈ l) : renH l h l.length = numL l h := by
  rw [renH_numZ]
  have : numZ l h l.length ≠ 0 := fun e => (numL_zero l h).1 e hm
  rw [if_neg this]; rfl
theorem renH_out {l : List Int} {h : Int} (hm : h ∉ l) : renH l h l.length = h := by
  rw [renH_numZ, if_pos (show numZ l h l.length = 0 from (numL_zero l h).2 hm)]
theorem renum_map (s : Nat → Nat) (P : Int → Prop) (hP : ∀ a b, P a → P b → gS s a = gS s b → a = b) {O : List Int} (hO : ∀ h ∈ O, P h ∧ h < 0) (t : T) : LV t → (∀ z ∈ t.pre, z.head < 0 → z.head ∈ O) → (t.inst (fun i => vT (s i))).renum (O.map (gS s)) = t.renum O := by
  induction t using T.ind with
  | h t ih =>
    intro hl hp
    by_cases hn : t.head < 0
    · have hm := hp t (self_pre t) hn
      rw [inst_var hn, T.renum_eq, T.renum_eq _ t]
      have e : (vT (s (vI t))).head = gS s t.head := by rw [vT_head]; unfold gS; rw [if_pos hn]; rfl
      rw [e, renH_in (List.mem_map_of_mem hm), renH_in hm, numL_map (fun x hx => hP x _ (hO x hx).1 (hO _ hm).1), hl t (self_pre t) hn]
      rfl
    · rw [inst_node hn, T.renum_eq, T.renum_eq _ t]
      congr 1
      · show renH (O.map (gS s)) t.head _ = _
        rw [renH_out (fun h => by
          obtain ⟨y, hy, e⟩ := List.mem_map.1 h
          have := gS_neg (s := s) (hO y hy).2; omega), renH_out (fun h => hn (hO _ h).2)]
      · have key : ∀ (ks : List T), (∀ i, i < ks.length → ((gK ks i).inst (fun i => vT (s i))).renum (O.map (gS s)) = (gK ks i).renum O) → renumL (O.map (gS s)) (instL (fun i => vT (s i)) ks) = renumL O ks := by
          intro ks
          induction ks with
          | nil => intro _; rfl
          | cons k r ihr =>
            intro hk
            have h0 : (k.inst (fun i => vT (s i))).renum (O.map (gS s)) = k.renum O := hk 0 (by simp)
            simp only [instL, renumL]
            rw [h0, ihr (fun i hi => hk (i + 1) (by simpa using hi))]
        exact key t.kids (fun i hi => ih i hi (hl.kid hi) (fun z hz => hp z (by rw [T.pre_eq]; exact List.mem_cons_of_mem _ (kid_pre_mem hi hz))))
theorem key_pre {σ : Nat → T} {x : T} : LV x → ∀ {z : T}, z ∈ x.pre → z.inst σ ∈ (x.inst σ).pre := by
  induction x using T.ind with
  | h t ih =>
    intro hl z hz
    rw [T.pre_eq] at hz
    rcases List.mem_cons.1 hz with rfl | hz
    · exact self_pre _
    · obtain ⟨i, hi, h2⟩ := mem_preL hz
      by_cases hn : t.head < 0
      · rw [hl t (self_pre t) hn] at hi; simp at hi
      · have := ih i hi (hl.kid hi) h2
        rw [inst_node hn, T.pre_eq]
        refine List.mem_cons_of_mem _ ?_
        refine kid_pre_mem (l := instL σ t.kids) (i := i) (by rw [instL_length]; exact hi) ?_
        rw [gK_instL σ hi]; exact this
/-- a tree under the names of its first showing -/
def nu (t : T) : T := t.renum (t.order [])
theorem nu_norm (t : T) (hl : LV t) : normF [⟨false, t, t⟩] = [⟨false, nu t, nu t⟩] := by
  have h1 : orderL (treesF [⟨false, t, t⟩]) [] = t.order [] := by
    show (t.order (t.order [])) = t.order []
    exact order_done t (order_has t hl).1
  unfold normF
  rw [h1]; rfl
/-- the old names back -/
def backN (O : List Int) (j : Nat) : T := .node (gI O j) []
theorem numL_at {O : List Int} {h : Int} (hm : h ∈ O) : ∃ j : Nat, numL O h = -(j : Int) - 1 ∧ gI O j = h := by
  have key : ∀ n, numZ O h n ≠ 0 → ∃ j : Nat, j < n ∧ numZ O h n = -(j : Int) - 1 ∧ gI O j = h := by
    intro n
    induction n with
    | zero => intro h0; exact absurd rfl h0
    | succ n ih =>
      intro h0
      rw [numZ] at h0 ⊢
      by_cases e : gI O n = h
      · rw [if_pos e]; exact ⟨n, by omega, rfl, e⟩
      · rw [if_neg e] at h0 ⊢
        obtain ⟨j, h1, h2, h3⟩ := ih h0
        exact ⟨j, by omega, h2, h3⟩
  obtain ⟨j, _, h2, h3⟩ := key O.length (fun e => (numL_zero O h).1 e hm)
  exact ⟨j, h2, h3⟩
theorem renum_back {O : List Int} (hO : ∀ h ∈ O, h < 0) (t : T) : LV t → (∀ z ∈ t.pre, z.head < 0 → z.head ∈ O) → (t.renum O).inst (backN O) = t := by
  induction t using T.ind with
  | h t ih =>
    intro hl hp
    rw [T.renum_eq, T.inst_eq]
    by_cases hn : t.head < 0
    · have hm := hp t (self_pre t) hn
      obtain ⟨j, h1, h2⟩ := numL_at hm
      show (if renH O t.head O.length < 0 then backN O (-(renH O t.head O.length) - 1).toNat else _) = t
      rw [renH_in hm, h1, if_pos (by omega)]
      have : (-(-(j : Int) - 1) - 1).toNat = j := by omega
      rw [this]
      unfold backN
      rw [h2]
      conv => rhs; rw [← T.node_eta t, hl t (self_pre t) hn]
    · have hm : t.head ∉ O := fun h => hn (hO _ h)
      show (if renH O t.head O.length < 0 then _ else T.node (renH O t.head O.length) (instL (backN O) (renumL O t.kids))) = t
      rw [renH_out hm, if_neg hn]
      conv => rhs; rw [← T.node_eta t]
      congr 1
      have key : ∀ (ks : List T), (∀ i, i < ks.length → ((gK ks i).renum O).inst (backN O) = gK ks i) → instL (backN O) (renumL O ks) = ks := by
        intro ks
        induction ks with
        | nil => intro _; rfl
        | cons k r ihr =>
          intro hk
          have h0 : (k.renum O).inst (backN O) = k := hk 0 (by simp)
          simp only [renumL, instL]
          rw [h0, ihr (fun i hi => hk (i + 1) (by simpa using hi))]
      exact key t.kids (fun i hi => ih i hi (hl.kid hi) (fun z hz => hp z (by rw [T.pre_eq]; exact List.mem_cons_of_mem _ (kid_pre_mem hi hz))))
theorem renum_inst {O : List Int} (hO : ∀ h ∈ O, h < 0) (t : T) : LV t → t.renum O = t.inst (fun i => .node (renH O (-(i : Int) - 1) O.length) []) := by
  induction t using T.ind with
  | h t ih =>
    intro hl
    rw [T.renum_eq]
    by_cases hn : t.head < 0
    · rw [inst_var hn, hl t (self_pre t) hn]
      have : -((vI t : Nat) : Int) - 1 = t.head := by unfold vI; omega
      rw [this]; rfl
    · rw [inst_node hn, renH_out (fun h => hn (hO _ h))]
      congr 1
      have key : ∀ (ks : List T), (∀ i, i < ks.length → (gK ks i).renum O = (gK ks i).inst (fun i => .node (renH O (-(i : Int) - 1) O.length) [])) → renumL O ks = instL (fun i => .node (renH O (-(i : Int) - 1) O.length) []) ks := by
        intro ks
        induction ks with
        | nil => intro _; rfl
        | cons k r ihr =>
          intro hk
          have h0 : k.renum O = k.inst (fun i => .node (renH O (-(i : Int) - 1) O.length) []) := hk 0 (by simp)
          simp only [renumL, instL]
          rw [h0, ihr (fun i hi => hk (i + 1) (by simpa using hi))]
      exact key t.kids (fun i hi => ih i hi (hl.kid hi))
theorem nu_fits {x t : T} (hx : LV x) (ht : LV t) (h : nu x = nu t) : ∃ σ, x.inst σ = t := by
  have hO : ∀ h ∈ x.order [], h < 0 := T.order_neg x [] (fun h hh => by simp at hh)
  have hQ : ∀ h ∈ t.order [], h < 0 := T.order_neg t [] (fun h hh => by simp at hh)
  have h1 := renum_back hQ t ht (order_has t ht).1
  have h2 : t.renum (t.order []) = x.renum (x.order []) := h.symm
  rw [h2, renum_inst hO x hx, inst_inst] at h1
  exact ⟨_, h1⟩
theorem fits_nu {x t : T} (hx : LV x) (ht : LV t) {σ τ : Nat → T} (h1 : x.inst σ = t) (h2 : t.inst τ = x) : nu x = nu t := by
  have h3 : ∀ y, x.has y → (σ y).inst τ = vT y := by
    rw [← h1, inst_inst] at h2
    exact inst_fix hx h2
  have h4 : ∀ y, x.has y → (σ y).head < 0 := fun y hy => Classical.byContradiction fun hn => by
    have h5 := h3 y hy
    rw [inst_node hn] at h5
    have h6 := congrArg T.head h5
    rw [vT_head] at h6
    have h7 : (σ y).head = -(y : Int) - 1 := h6
    omega
  have h5 : ∀ y, x.has y → σ y = vT (vI (σ y)) := fun y hy => by
    have hlv : LV (σ y) := by
      -- it stands in t
      have : σ y ∈ t.pre := by
        obtain ⟨z, hz, e⟩ := has_pre hy
        have := key_pre (σ := σ) hx hz
        have hzn : z.head < 0 := by omega
        rw [inst_var hzn, h1, show vI z = y by unfold vI; omega] at this
        exact this
      exact ht.sub this
    exact hlv.leaf (h4 y hy)
  have h6 : x.inst (fun i => vT (vI (σ i))) = t := by rw [← h1]; exact inst_congr x (fun i hi => (h5 i hi).symm)
  have hinj : ∀ a b : Int, (a < 0 ∧ x.has (-a - 1).toNat) → (b < 0 ∧ x.has (-b - 1).toNat) → gS (fun i => vI (σ i)) a = gS (fun i => vI (σ i)) b → a = b := fun a b ha hb e => by
    unfold gS at e
    rw [if_pos ha.1, if_pos hb.1] at e
    have e : -((vI (σ (-a - 1).toNat) : Nat) : Int) - 1 = -((vI (σ (-b - 1).toNat) : Nat) : Int) - 1 := e
    have e2 : vI (σ (-a - 1).toNat) = vI (σ (-b - 1).toNat) := by omega
    have e3 := h3 _ ha.2; have e4 := h3 _ hb.2
    rw [h5 _ ha.2, e2, ← h5 _ hb.2, e4] at e3
    have := vT_inj e3
    have := ha.1; have := hb.1
    omega
  have hP : ∀ z ∈ x.pre, z.head < 0 → (z.head < 0 ∧ x.has (-z.head - 1).toNat) := fun z hz hn => ⟨hn, pre_has hz hn⟩
  have ho := order_map (fun i => vI (σ i)) (fun a => a < 0 ∧ x.has (-a - 1).toNat) hinj x hx hP [] (fun h hh => by simp at hh)
  rw [h6] at ho
  have hn := renum_map (fun i => vI (σ i)) (fun a => a < 0 ∧ x.has (-a - 1).toNat) hinj (O := x.order []) (fun h hh => by
    rcases order_mem x hh with h7 | ⟨z, hz, h8, h9⟩
    · simp at h7
    · rw [← h9]; exact ⟨hP z hz h8, h8⟩) x hx (order_has x hx).1
  rw [h6] at hn
  unfold nu
  rw [show t.order [] = (x.order []).map (gS (fun i => vI (σ i))) from ho]
  exact hn.symm
theorem names_iff {x t : T} (hx : (treeF x).1 = 0) (ht : (treeF t).1 = 0) : ((fitF x t).isSome = true ∧ (fitF t x).isSome = true) ↔ normF [⟨false, x, x⟩] = normF [⟨false, t, t⟩] := by
  have lx := (ok_va hx).lv; have lt := (ok_va ht).lv
  rw [nu_norm x lx, nu_norm t lt, fitF_iff hx ht, fitF_iff ht hx]
  constructor
  · rintro ⟨⟨σ, h1⟩, τ, h2⟩
    rw [fits_nu lx lt h1 h2]
  · intro h
    have h1 : nu x = nu t := by
      have := List.cons.inj h
      injection this.1
    exact ⟨nu_fits lx lt h1, nu_fits lt lx h1.symm⟩
end Go.Proofs.Ytlhnfdjidjgfgaa
