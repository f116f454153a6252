/-
  Plain: what matching says: it makes the pattern the tree; whatever does so is that.
-/
import Derived.Test.YtcckgfgobakphaaP2
import Derived.Test.YtcckgfgobakphaaP7
namespace Go.Proofs.Ytcckgfgobakphaa
open Go.RowKit
set_option linter.unusedVariables false

mutual
def T.inst (σ : Nat → T) : T → T
  | .node h ks => if h < 0 then σ (-h - 1).toNat else .node h (instL σ ks)
def instL (σ : Nat → T) : List T → List T
  | [] => []
  | k :: r => k.inst σ :: instL σ r
end
theorem T.inst_eq (σ : Nat → T) (t : T) : t.inst σ = if t.head < 0 then σ (-t.head - 1).toNat else .node t.head (instL σ t.kids) := by cases t; rw [T.inst]; rfl
theorem instL_length (σ : Nat → T) : ∀ l : List T, (instL σ l).length = l.length
  | [] => rfl
  | k :: r => by simp [instL, instL_length σ r]
/-- variable i stands in a tree -/
def T.has (t : T) (i : Nat) : Prop := 0 < t.times (-(i : Int) - 1)
theorem has_var {t : T} (h : t.head < 0) : t.has (-t.head - 1).toNat := by
  unfold T.has; rw [T.times_eq, if_pos (by omega)]; omega
theorem timesL_kid (x : Int) : ∀ {l : List T} {i : Nat}, i < l.length → (gK l i).times x ≤ timesL x l
  | [], i, h => by simp at h
  | k :: r, 0, _ => by simp only [gK, List.getD_cons_zero, timesL]; omega
  | k :: r, i + 1, h => by have := timesL_kid x (l := r) (i := i) (by simpa using h); simp only [gK, List.getD_cons_succ, timesL] at this ⊢; omega
theorem has_kid {t : T} {i j : Nat} (hj : j < t.kids.length) (h : (gK t.kids j).has i) : t.has i := by
  unfold T.has at h ⊢
  have := timesL_kid (-(i : Int) - 1) hj
  rw [T.times_eq]; omega
def hasL (l : List T) (i : Nat) : Prop := 0 < timesL (-(i : Int) - 1) l
theorem hasL_cons {k : T} {r : List T} {i : Nat} : hasL (k :: r) i ↔ k.has i ∨ hasL r i := by unfold hasL T.has; simp only [timesL]; omega
theorem has_cases {t : T} {i : Nat} (h : t.has i) : t.head = -(i : Int) - 1 ∨ hasL t.kids i := by
  unfold T.has at h; unfold hasL; rw [T.times_eq] at h
  by_cases e : t.head = -(i : Int) - 1
  · exact .inl e
  · rw [if_neg e] at h; right; omega
theorem hasL_has {t : T} {i : Nat} (h : hasL t.kids i) : t.has i := by
  unfold T.has; unfold hasL at h; rw [T.times_eq]; omega

theorem instL_congr {σ τ : Nat → T} : ∀ {l : List T}, (∀ j, j < l.length → (gK l j).inst σ = (gK l j).inst τ) → instL σ l = instL τ l
  | [], _ => rfl
  | k :: r, h => by
    have h0 := h 0 (by simp)
    simp only [gK, List.getD_cons_zero] at h0
    rw [instL, instL, h0, instL_congr (l := r) (fun j hj => by have := h (j + 1) (by simpa using hj); simpa only [gK, List.getD_cons_succ] using this)]
theorem inst_congr {σ τ : Nat → T} (t : T) (h : ∀ i, t.has i → σ i = τ i) : t.inst σ = t.inst τ := by
  induction t using T.ind with
  | h t ih =>
    rw [T.inst_eq, T.inst_eq]
    by_cases hn : t.head < 0
    · rw [if_pos hn, if_pos hn]; exact h _ (has_var hn)
    · rw [if_neg hn, if_neg hn, instL_congr (fun j hj => ih j hj (fun i hi => h i (has_kid hj hi)))]

def okA (t : T) : Prop := ∀ x ∈ t.pre, okN x
def nzA (t : T) : Prop := ∀ x ∈ t.pre, x.head ≠ 0
theorem okA.nz {t : T} (h : okA t) : nzA t := fun x hx e => (h x hx).1 (by unfold badHead; omega)
theorem okA.kid {t : T} (h : okA t) {i : Nat} (hi : i < t.kids.length) : okA (gK t.kids i) := kids_pre h hi
theorem nzA.kid {t : T} (h : nzA t) {i : Nat} (hi : i < t.kids.length) : nzA (gK t.kids i) := fun x hx => h x (by rw [T.pre_eq]; exact List.mem_cons_of_mem _ (kid_pre_mem hi hx))
theorem self_pre (t : T) : t ∈ t.pre := by rw [T.pre_eq]; simp
theorem nzA.head {t : T} (h : nzA t) : t.head ≠ 0 := h t (self_pre t)

def FitSound (p : T) : Prop := ∀ (t : T) (bs r : Nat → T), okA p → nzA t → p.fit t bs = some r →
  p.inst r = t ∧ (∀ i, (bs i).head ≠ 0 → r i = bs i) ∧ (∀ i, p.has i → (r i).head ≠ 0) ∧ ∀ i, (r i).head ≠ 0 → (bs i).head ≠ 0 ∨ (p.has i ∧ r i ∈ t.pre)
theorem fitL_sound : ∀ (ks ts : List T), (∀ i, i < ks.length → FitSound (gK ks i)) → ∀ (bs r : Nat → T), ks.length = ts.length → (∀ i, i < ks.length → okA (gK ks i)) → (∀ i, i < ts.length → nzA (gK ts i)) → fitL ks ts bs = some r →
    instL r ks = ts ∧ (∀ i, (bs i).head ≠ 0 → r i = bs i) ∧ (∀ i, hasL ks i → (r i).head ≠ 0) ∧ ∀ i, (r i).head ≠ 0 → (bs i).head ≠ 0 ∨ (hasL ks i ∧ r i ∈ preL ts)
  | [], [], _, bs, r, _, _, _, h => by
    rw [fitL] at h
    obtain rfl := Option.some.inj h
    exact ⟨rfl, fun i _ => rfl, fun i hi => by simp [hasL, timesL] at hi, fun i hi => .inl hi⟩
  | [], _ :: _, _, _, _, hl, _, _, _ => by simp at hl
  | _ :: _, [], _, _, _, hl, _, _, _ => by simp at hl
  | k :: kr, u :: ur, hP, bs, r, hl, hok, hnz, h => by
    rw [fitL] at h
    cases hk : k.fit u bs with
    | none => rw [hk] at h; simp at h
    | some b =>
      rw [hk] at h
      simp only at h
      have h0 := hP 0 (by simp); have o0 := hok 0 (by simp); have n0 := hnz 0 (by simp)
      simp only [gK, List.getD_cons_zero] at h0 o0 n0
      obtain ⟨a1, a2, a3, a4⟩ := h0 u bs b o0 n0 hk
      obtain ⟨b1, b2, b3, b4⟩ := fitL_sound kr ur (fun i hi => by have := hP (i + 1) (by simpa using hi); simpa only [gK, List.getD_cons_succ] using this) b r (by simpa using hl)
        (fun i hi => by have := hok (i + 1) (by simpa using hi); simpa only [gK, List.getD_cons_succ] using this) (fun i hi => by have := hnz (i + 1) (by simpa using hi); simpa only [gK, List.getD_cons_succ] using this) h
      have e1 : k.inst r = u := by rw [← a1]; exact inst_congr k (fun i hi => b2 i (a3 i hi))
      refine ⟨by rw [instL, e1, b1], fun i hi => ?_, fun i hi => ?_, fun i hi => ?_⟩
      · have := a2 i hi
        rw [b2 i (by rw [this]; exact hi), this]
      · rcases hasL_cons.1 hi with h1 | h1
        · rw [b2 i (a3 i h1)]; exact a3 i h1
        · exact b3 i h1
      · rcases b4 i hi with h1 | ⟨h1, h2⟩
        · have e := b2 i h1
          rcases a4 i h1 with h2 | ⟨h2, h3⟩
          · exact .inl h2
          · exact .inr ⟨hasL_cons.2 (.inl h2), by rw [e, preL]; exact List.mem_append_left _ h3⟩
        · exact .inr ⟨hasL_cons.2 (.inr h1), by rw [preL]; exact List.mem_append_right _ h2⟩
theorem fit_sound (p : T) : FitSound p := by
  induction p using T.ind with
  | h p ih =>
    intro t bs r hok hnz h
    rw [T.fit_eq] at h
    by_cases hn : p.head < 0
    · rw [if_pos hn] at h
      have hbad := (hok p (self_pre p)).1
      have e : ∀ i, p.has i → i = (-p.head - 1).toNat := fun i hi => by
        rcases has_cases hi with h1 | h1
        · omega
        · have := var_leaf hok hn
          rw [this] at h1; simp [hasL, T.kids, timesL] at h1
      by_cases hz : (bs (-p.head - 1).toNat).head = 0
      · rw [if_pos hz] at h
        obtain rfl := Option.some.inj h
        refine ⟨by rw [T.inst_eq, if_pos hn]; simp [setT], fun i hi => ?_, fun i hi => ?_, fun i hi => ?_⟩
        · unfold setT
          by_cases h1 : i = (-p.head - 1).toNat
          · rw [h1] at hi; exact absurd hz hi
          · rw [if_neg h1]
        · rw [e i hi]; simp [setT]; exact hnz.head
        · by_cases h1 : i = (-p.head - 1).toNat
          · right; subst h1; exact ⟨has_var hn, by simp [setT]; exact self_pre t⟩
          · left; have hi2 := hi; simp only [setT, if_neg h1] at hi2; exact hi2
      · rw [if_neg hz] at h
        by_cases hb : bs (-p.head - 1).toNat = t
        · rw [if_pos hb] at h
          obtain rfl := Option.some.inj h
          exact ⟨by rw [T.inst_eq, if_pos hn, hb], fun i _ => rfl, fun i hi => by rw [e i hi]; exact hz, fun i hi => .inl hi⟩
        · rw [if_neg hb] at h; cases h
    · rw [if_neg hn] at h
      by_cases hc : p.head = t.head ∧ p.kids.length = t.kids.length
      · rw [if_pos hc] at h
        obtain ⟨a1, a2, a3, a4⟩ := fitL_sound p.kids t.kids ih bs r hc.2 (fun i hi => hok.kid hi) (fun i hi => hnz.kid hi) h
        refine ⟨by rw [T.inst_eq, if_neg hn, a1, hc.1, T.node_eta], a2, fun i hi => ?_, fun i hi => ?_⟩
        · rcases has_cases hi with h1 | h1
          · omega
          · exact a3 i h1
        · rcases a4 i hi with h1 | ⟨h1, h2⟩
          · exact .inl h1
          · exact .inr ⟨hasL_has h1, by rw [T.pre_eq]; exact List.mem_cons_of_mem _ h2⟩
      · rw [if_neg hc] at h; cases h

def FitFull (p : T) : Prop := ∀ (t : T) (bs σ : Nat → T), okA p → nzA t → p.inst σ = t → (∀ i, (bs i).head ≠ 0 → bs i = σ i) → ∃ r, p.fit t bs = some r ∧ ∀ i, (r i).head ≠ 0 → r i = σ i
theorem fitL_full : ∀ (ks ts : List T), (∀ i, i < ks.length → FitFull (gK ks i)) → ∀ (bs σ : Nat → T), (∀ i, i < ks.length → okA (gK ks i)) → (∀ i, i < ts.length → nzA (gK ts i)) → instL σ ks = ts → (∀ i, (bs i).head ≠ 0 → bs i = σ i) →
    ∃ r, fitL ks ts bs = some r ∧ ∀ i, (r i).head ≠ 0 → r i = σ i
  | [], ts, _, bs, σ, _, _, h, hb => by rw [instL] at h; subst h; exact ⟨bs, by rw [fitL], hb⟩
  | k :: kr, ts, hP, bs, σ, hok, hnz, h, hb => by
    rw [instL] at h
    subst h
    have h0 := hP 0 (by simp); have o0 := hok 0 (by simp); have n0 := hnz 0 (by simp)
    simp only [gK, List.getD_cons_zero] at h0 o0 n0
    obtain ⟨b, hf, hb2⟩ := h0 _ bs σ o0 n0 rfl hb
    obtain ⟨r, hr, hr2⟩ := fitL_full kr _ (fun i hi => by have := hP (i + 1) (by simpa using hi); simpa only [gK, List.getD_cons_succ] using this) b σ
        (fun i hi => by have := hok (i + 1) (by simpa using hi); simpa only [gK, List.getD_cons_succ] using this) (fun i hi => by have := hnz (i + 1) (by simpa using hi); simpa only [gK, List.getD_cons_succ] using this) rfl hb2
    exact ⟨r, by rw [fitL, hf]; exact hr, hr2⟩
theorem fit_full (p : T) : FitFull p := by
  induction p using T.ind with
  | h p ih =>
    intro t bs σ hok hnz h hb
    rw [T.fit_eq]
    rw [T.inst_eq] at h
    by_cases hn : p.head < 0
    · rw [if_pos hn] at h ⊢
      by_cases hz : (bs (-p.head - 1).toNat).head = 0
      · rw [if_pos hz]
        refine ⟨_, rfl, fun i hi => ?_⟩
        by_cases h1 : i = (-p.head - 1).toNat
        · subst h1; simp only [setT, if_true]; exact h.symm
        · simp only [setT, if_neg h1] at hi ⊢; exact hb i hi
      · rw [if_neg hz, if_pos (by rw [hb _ hz]; exact h)]
        exact ⟨bs, rfl, hb⟩
    · rw [if_neg hn] at h ⊢
      subst h
      rw [if_pos ⟨rfl, by simp [T.kids, instL_length]⟩]
      exact fitL_full p.kids _ ih bs σ (fun i hi => hok.kid hi) (fun i hi => hnz.kid (t := .node p.head (instL σ p.kids)) hi) rfl hb

/-- one behind the other -/
theorem inst_inst (σ τ : Nat → T) (p : T) : (p.inst σ).inst τ = p.inst (fun i => (σ i).inst τ) := by
  induction p using T.ind with
  | h p ih =>
    rw [T.inst_eq σ, T.inst_eq (fun i => (σ i).inst τ)]
    by_cases hn : p.head < 0
    · rw [if_pos hn, if_pos hn]
    · rw [if_neg hn, if_neg hn, T.inst_eq, if_neg (by simpa [T.head] using hn)]
      have key : ∀ l : List T, (∀ i, i < l.length → ((gK l i).inst σ).inst τ = (gK l i).inst (fun i => (σ i).inst τ)) → instL τ (instL σ l) = instL (fun i => (σ i).inst τ) l := by
        intro l
        induction l with
        | nil => intro _; rfl
        | cons k r ihr =>
          intro h
          have h0 := h 0 (by simp)
          simp only [gK, List.getD_cons_zero] at h0
          rw [instL, instL, instL, h0, ihr (fun i hi => by have := h (i + 1) (by simpa using hi); simpa only [gK, List.getD_cons_succ] using this)]
      show T.node p.head (instL τ (instL σ p.kids)) = _
      rw [key p.kids ih]
def varT (i : Nat) : T := .node (-(i : Int) - 1) []
theorem inst_id (t : T) (h : okA t) : t.inst varT = t := by
  induction t using T.ind with
  | h t ih =>
    rw [T.inst_eq]
    by_cases hn : t.head < 0
    · rw [if_pos hn]
      have hv := var_leaf h hn
      conv => rhs; rw [hv]
      unfold varT
      congr 1; omega
    · rw [if_neg hn]
      have key : ∀ l : List T, (∀ i, i < l.length → (gK l i).inst varT = gK l i) → instL varT l = l := by
        intro l
        induction l with
        | nil => intro _; rfl
        | cons k r ihr =>
          intro h
          have h0 := h 0 (by simp)
          simp only [gK, List.getD_cons_zero] at h0
          rw [instL, h0, ihr (fun i hi => by have := h (i + 1) (by simpa using hi); simpa only [gK, List.getD_cons_succ] using this)]
      rw [key t.kids (fun i hi => ih i hi (h.kid hi)), T.node_eta]
end Go.Proofs.Ytcckgfgobakphaa
