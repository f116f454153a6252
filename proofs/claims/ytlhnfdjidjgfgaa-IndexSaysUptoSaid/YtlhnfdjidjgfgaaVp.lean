/-
  Plain: instances of trees; what matching says.
-/
import Derived.Test.YtlhnfdjidjgfgaaT20
import Derived.Test.YtlhnfdjidjgfgaaXe
import Derived.Test.YtlhnfdjidjgfgaaXc
namespace Go.Proofs.Ytlhnfdjidjgfgaa
open Go.RowKit
set_option linter.unusedVariables false

theorem okN_num {x : T} (h : okN x) : x.head ≠ 0 ∧ -8 ≤ x.head ∧ x.head ≤ 12 ∧ x.kids.length ≤ 3 ∧ (x.head < 0 → x.kids.length = 0) := by
  obtain ⟨h1, h2⟩ := h
  unfold badHead at h1
  unfold badKids at h2
  refine ⟨?_, ?_, ?_, ?_, ?_⟩ <;> omega
theorem mem_preL : ∀ {ks : List T} {x : T}, x ∈ preL ks → ∃ i, i < ks.length ∧ x ∈ (gK ks i).pre
  | [], x, h => by cases h
  | t :: r, x, h => by
    have h : x ∈ t.pre ++ preL r := h
    rcases List.mem_append.1 h with h | h
    · exact ⟨0, by simp, h⟩
    · obtain ⟨i, hi, hx⟩ := mem_preL h
      exact ⟨i + 1, by simpa using hi, hx⟩
theorem okN_kid {t : T} (h : ∀ x ∈ t.pre, okN x) {i : Nat} (hi : i < t.kids.length) : ∀ x ∈ (gK t.kids i).pre, okN x := fun x hx =>
  h x (by rw [T.pre_eq]; exact List.mem_cons_of_mem _ (kid_pre_mem hi hx))
theorem okN_self {t : T} (h : ∀ x ∈ t.pre, okN x) : okN t := h t (by rw [T.pre_eq]; simp)
theorem okN_leaf {t : T} (h : ∀ x ∈ t.pre, okN x) (hn : t.head < 0) : t.kids = [] := List.eq_nil_of_length_eq_zero ((okN_num (okN_self h)).2.2.2.2 hn)
theorem gK_map {f : T → T} {l : List T} {i : Nat} (h : i < l.length) : gK (l.map f) i = f (gK l i) := by simp [gK, h]
theorem ret_box2b {P : Program} {fn : Func} {R : Ending → World → Prop} {a : Act} {w : World} (x y z : Value) (b : Nat) (T : TypeId) (hb : w.heap[b]? = some (.cells #[x, y] T (0, 0)))
    (hres : ∀ w' : World, w'.cell? ⟨b, 0, none⟩ = some x → w'.cell? ⟨b, 1, none⟩ = some y → (results fn a.tmps).run P w' = .ok (.tuple #[.agg #[x, y], z]) w') (hd : a.defers = [])
    (hR : R (.returned (.tuple #[.agg #[x, y], z])) w) : bodyPost P fn R .ret a w := bodyPost_ret (hres w (box2 hb).1.1 (box2 hb).2.1) hd hR


theorem var_leaf {t : T} (h : ∀ x ∈ t.pre, okN x) (hn : t.head < 0) : t = .node t.head [] := by
  have := okN_leaf h hn
  cases t with
  | node hd ks => simp only [T.kids] at this; rw [this]; rfl
theorem T.node_eta (t : T) : T.node t.head t.kids = t := by cases t; rfl
mutual
def T.inst (σ : Nat → T) : T → T
  | .node h ks => if h < 0 then σ (-h - 1).toNat else .node h (instL σ ks)
def instL (σ : Nat → T) : List T → List T
  | [] => []
  | k :: r => k.inst σ :: instL σ r
end
theorem T.inst_eq (σ : Nat → T) (t : T) : t.inst σ = if t.head < 0 then σ (-t.head - 1).toNat else .node t.head (instL σ t.kids) := by cases t; rw [T.inst]; rfl
theorem instL_length (σ : Nat → T) : ∀ l : List T, (instL σ l).length = l.length
  | [] => rfl
  | k :: r => by simp [instL, instL_length σ r]
/-- variable i stands in a tree -/
def T.has (t : T) (i : Nat) : Prop := 0 < t.times (-(i : Int) - 1)
theorem has_var {t : T} (h : t.head < 0) : t.has (-t.head - 1).toNat := by
  unfold T.has; rw [T.times_eq, if_pos (by omega)]; omega
theorem timesL_kid (x : Int) : ∀ {l : List T} {i : Nat}, i < l.length → (gK l i).times x ≤ timesL x l
  | [], i, h => by simp at h
  | k :: r, 0, _ => by simp only [gK, List.getD_cons_zero, timesL]; omega
  | k :: r, i + 1, h => by have := timesL_kid x (l := r) (i := i) (by simpa using h); simp only [gK, List.getD_cons_succ, timesL] at this ⊢; omega
theorem has_kid {t : T} {i j : Nat} (hj : j < t.kids.length) (h : (gK t.kids j).has i) : t.has i := by
  unfold T.has at h ⊢
  have := timesL_kid (-(i : Int) - 1) hj
  rw [T.times_eq]; omega
def hasL (l : List T) (i : Nat) : Prop := 0 < timesL (-(i : Int) - 1) l
theorem hasL_cons {k : T} {r : List T} {i : Nat} : hasL (k :: r) i ↔ k.has i ∨ hasL r i := by unfold hasL T.has; simp only [timesL]; omega
theorem has_cases {t : T} {i : Nat} (h : t.has i) : t.head = -(i : Int) - 1 ∨ hasL t.kids i := by
  unfold T.has at h; unfold hasL; rw [T.times_eq] at h
  by_cases e : t.head = -(i : Int) - 1
  · exact .inl e
  · rw [if_neg e] at h; right; omega
theorem hasL_has {t : T} {i : Nat} (h : hasL t.kids i) : t.has i := by
  unfold T.has; unfold hasL at h; rw [T.times_eq]; omega

theorem instL_congr {σ τ : Nat → T} : ∀ {l : List T}, (∀ j, j < l.length → (gK l j).inst σ = (gK l j).inst τ) → instL σ l = instL τ l
  | [], _ => rfl
  | k :: r, h => by
    have h0 := h 0 (by simp)
    simp only [gK, List.getD_cons_zero] at h0
    rw [instL, instL, h0, instL_congr (l := r) (fun j hj => by have := h (j + 1) (by simpa using hj); simpa only [gK, List.getD_cons_succ] using this)]
theorem inst_congr {σ τ : Nat → T} (t : T) (h : ∀ i, t.has i → σ i = τ i) : t.inst σ = t.inst τ := by
  induction t using T.ind with
  | h t ih =>
    rw [T.inst_eq, T.inst_eq]
    by_cases hn : t.head < 0
    · rw [if_pos hn, if_pos hn]; exact h _ (has_var hn)
    · rw [if_neg hn, if_neg hn, instL_congr (fun j hj => ih j hj (fun i hi => h i (has_kid hj hi)))]

def okA (t : T) : Prop := ∀ x ∈ t.pre, okN x
def nzA (t : T) : Prop := ∀ x ∈ t.pre, x.head ≠ 0
theorem okA.nz {t : T} (h : okA t) : nzA t := fun x hx e => (h x hx).1 (by unfold badHead; omega)
theorem okA.kid {t : T} (h : okA t) {i : Nat} (hi : i < t.kids.length) : okA (gK t.kids i) := okN_kid h hi
theorem nzA.kid {t : T} (h : nzA t) {i : Nat} (hi : i < t.kids.length) : nzA (gK t.kids i) := fun x hx => h x (by rw [T.pre_eq]; exact List.mem_cons_of_mem _ (kid_pre_mem hi hx))
theorem self_pre (t : T) : t ∈ t.pre := by rw [T.pre_eq]; simp
theorem nzA.head {t : T} (h : nzA t) : t.head ≠ 0 := h t (self_pre t)

def FitSound (p : T) : Prop := ∀ (t : T) (bs r : Nat → T), okA p → nzA t → p.fit t bs = some r →
  p.inst r = t ∧ (∀ i, (bs i).head ≠ 0 → r i = bs i) ∧ (∀ i, p.has i → (r i).head ≠ 0) ∧ ∀ i, (r i).head ≠ 0 → (bs i).head ≠ 0 ∨ (p.has i ∧ r i ∈ t.pre)
theorem fitL_sound : ∀ (ks ts : List T), (∀ i, i < ks.length → FitSound (gK ks i)) → ∀ (bs r : Nat → T), ks.length = ts.length → (∀ i, i < ks.length → okA (gK ks i)) → (∀ i, i < ts.length → nzA (gK ts i)) → fitL ks ts bs = some r →
    instL r ks = ts ∧ (∀ i, (bs i).head ≠ 0 → r i = bs i) ∧ (∀ i, hasL ks i → (r i).head ≠ 0) ∧ ∀ i, (r i).head ≠ 0 → (bs i).head ≠ 0 ∨ (hasL ks i ∧ r i ∈ preL ts)
  | [], [], _, bs, r, _, _, _, h => by
    rw [fitL] at h
    obtain rfl := Option.some.inj h
    exact ⟨rfl, fun i _ => rfl, fun i hi => by simp [hasL, timesL] at hi, fun i hi => .inl hi⟩
  | [], _ :: _, _, _, _, hl, _, _, _ => by simp at hl
  | _ :: _, [], _, _, _, hl, _, _, _ => by simp at hl
  | k :: kr, u :: ur, hP, bs, r, hl, hok, hnz, h => by
    rw [fitL] at h
    cases hk : k.fit u bs with
    | none => rw [hk] at h; simp at h
    | some b =>
      rw [hk] at h
      simp only at h
      have h0 := hP 0 (by simp); have o0 := hok 0 (by simp); have n0 := hnz 0 (by simp)
      simp only [gK, List.getD_cons_zero] at h0 o0 n0
      obtain ⟨a1, a2, a3, a4⟩ := h0 u bs b o0 n0 hk
      obtain ⟨b1, b2, b3, b4⟩ := fitL_sound kr ur (fun i hi => by have := hP (i + 1) (by simpa using hi); simpa only [gK, List.getD_cons_succ] using this) b r (by simpa using hl)
        (fun i hi => by have := hok (i + 1) (by simpa using hi); simpa only [gK, List.getD_cons_succ] using this) (fun i hi => by have := hnz (i + 1) (by simpa using hi); simpa only [gK, List.getD_cons_succ] using this) h
      have e1 : k.inst r = u := by rw [← a1]; exact inst_congr k (fun i hi => b2 i (a3 i hi))
      refine ⟨by rw [instL, e1, b1], fun i hi => ?_, fun i hi => ?_, fun i hi => ?_⟩
      · have := a2 i hi
        rw [b2 i (by rw [this]; exact hi), this]
      · rcases hasL_cons.1 hi with h1 | h1
        · rw [b2 i (a3 i h1)]; exact a3 i h1
        · exact b3 i h1
      · rcases b4 i hi with h1 | ⟨h1, h2⟩
        · have e := b2 i h1
          rcases a4 i h1 with h2 | ⟨h2, h3⟩
          · exact .inl h2
          · exact .inr ⟨hasL_cons.2 (.inl h2), by rw [e, preL]; exact List.mem_append_left _ h3⟩
        · exact .inr ⟨hasL_cons.2 (.inr h1), by rw [preL]; exact List.mem_append_right _ h2⟩
theorem fit_sound (p : T) : FitSound p := by
  induction p using T.ind with
  | h p ih =>
    intro t bs r hok hnz h
    rw [T.fit_eq] at h
    by_cases hn : p.head < 0
    · rw [if_pos hn] at h
      have hbad := (hok p (self_pre p)).1
      have e : ∀ i, p.has i → i = (-p.head - 1).toNat := fun i hi => by
        rcases has_cases hi with h1 | h1
        · omega
        · have := var_leaf hok hn
          rw [this] at h1; simp [hasL, T.kids, timesL] at h1
      by_cases hz : (bs (-p.head - 1).toNat).head = 0
      · rw [if_pos hz] at h
        obtain rfl := Option.some.inj h
        refine ⟨by rw [T.inst_eq, if_pos hn]; simp [setT], fun i hi => ?_, fun i hi => ?_, fun i hi => ?_⟩
        · unfold setT
          by_cases h1 : i = (-p.head - 1).toNat
          · rw [h1] at hi; exact absurd hz hi
          · rw [if_neg h1]
        · rw [e i hi]; simp [setT]; exact hnz.head
        · by_cases h1 : i = (-p.head - 1).toNat
          · right; subst h1; exact ⟨has_var hn, by simp [setT]; exact self_pre t⟩
          · left; have hi2 := hi; simp only [setT, if_neg h1] at hi2; exact hi2
      · rw [if_neg hz] at h
        by_cases hb : bs (-p.head - 1).toNat = t
        · rw [if_pos hb] at h
          obtain rfl := Option.some.inj h
          exact ⟨by rw [T.inst_eq, if_pos hn, hb], fun i _ => rfl, fun i hi => by rw [e i hi]; exact hz, fun i hi => .inl hi⟩
        · rw [if_neg hb] at h; cases h
    · rw [if_neg hn] at h
      by_cases hc : p.head = t.head ∧ p.kids.length = t.kids.length
      · rw [if_pos hc] at h
        obtain ⟨a1, a2, a3, a4⟩ := fitL_sound p.kids t.kids ih bs r hc.2 (fun i hi => hok.kid hi) (fun i hi => hnz.kid hi) h
        refine ⟨by rw [T.inst_eq, if_neg hn, a1, hc.1, T.node_eta], a2, fun i hi => ?_, fun i hi => ?_⟩
        · rcases has_cases hi with h1 | h1
          · omega
          · exact a3 i h1
        · rcases a4 i hi with h1 | ⟨h1, h2⟩
          · exact .inl h1
          · exact .inr ⟨hasL_has h1, by rw [T.pre_eq]; exact List.mem_cons_of_mem _ h2⟩
      · rw [if_neg hc] at h; cases h


end Go.Proofs.Ytlhnfdjidjgfgaa
