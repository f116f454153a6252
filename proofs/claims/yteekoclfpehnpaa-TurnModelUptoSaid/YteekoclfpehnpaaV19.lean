/-
  Plain: what matching says; rewriting keeps the value of a tree.
-/
import Derived.Test.YteekoclfpehnpaaV17
import Derived.Test.YteekoclfpehnpaaXe
import Derived.Test.YteekoclfpehnpaaR4
import Derived.Test.YteekoclfpehnpaaXc
namespace Go.Proofs.Yteekoclfpehnpaa
open Go.RowKit
set_option linter.unusedVariables false

theorem var_leaf {t : T} (h : ∀ x ∈ t.pre, okN x) (hn : t.head < 0) : t = .node t.head [] := by
  have := okN_leaf h hn
  cases t with
  | node hd ks => simp only [T.kids] at this; rw [this]; rfl
theorem T.node_eta (t : T) : T.node t.head t.kids = t := by cases t; rfl
mutual
def T.inst (σ : Nat → T) : T → T
  | .node h ks => if h < 0 then σ (-h - 1).toNat else .node h (instL σ ks)
def instL (σ : Nat → T) : List T → List T
  | [] => []
  | k :: r => k.inst σ :: instL σ r
end
theorem T.inst_eq (σ : Nat → T) (t : T) : t.inst σ = if t.head < 0 then σ (-t.head - 1).toNat else .node t.head (instL σ t.kids) := by cases t; rw [T.inst]; rfl
theorem instL_length (σ : Nat → T) : ∀ l : List T, (instL σ l).length = l.length
  | [] => rfl
  | k :: r => by simp [instL, instL_length σ r]
/-- variable i stands in a tree -/
def T.has (t : T) (i : Nat) : Prop := 0 < t.times (-(i : Int) - 1)
theorem has_var {t : T} (h : t.head < 0) : t.has (-t.head - 1).toNat := by
  unfold T.has; rw [T.times_eq, if_pos (by omega)]; omega
theorem timesL_kid (x : Int) : ∀ {l : List T} {i : Nat}, i < l.length → (gK l i).times x ≤ timesL x l
  | [], i, h => by simp at h
  | k :: r, 0, _ => by simp only [gK, List.getD_cons_zero, timesL]; omega
  | k :: r, i + 1, h => by have := timesL_kid x (l := r) (i := i) (by simpa using h); simp only [gK, List.getD_cons_succ, timesL] at this ⊢; omega
theorem has_kid {t : T} {i j : Nat} (hj : j < t.kids.length) (h : (gK t.kids j).has i) : t.has i := by
  unfold T.has at h ⊢
  have := timesL_kid (-(i : Int) - 1) hj
  rw [T.times_eq]; omega
def hasL (l : List T) (i : Nat) : Prop := 0 < timesL (-(i : Int) - 1) l
theorem hasL_cons {k : T} {r : List T} {i : Nat} : hasL (k :: r) i ↔ k.has i ∨ hasL r i := by unfold hasL T.has; simp only [timesL]; omega
theorem has_cases {t : T} {i : Nat} (h : t.has i) : t.head = -(i : Int) - 1 ∨ hasL t.kids i := by
  unfold T.has at h; unfold hasL; rw [T.times_eq] at h
  by_cases e : t.head = -(i : Int) - 1
  · exact .inl e
  · rw [if_neg e] at h; right; omega
theorem hasL_has {t : T} {i : Nat} (h : hasL t.kids i) : t.has i := by
  unfold T.has; unfold hasL at h; rw [T.times_eq]; omega

theorem instL_congr {σ τ : Nat → T} : ∀ {l : List T}, (∀ j, j < l.length → (gK l j).inst σ = (gK l j).inst τ) → instL σ l = instL τ l
  | [], _ => rfl
  | k :: r, h => by
    have h0 := h 0 (by simp)
    simp only [gK, List.getD_cons_zero] at h0
    rw [instL, instL, h0, instL_congr (l := r) (fun j hj => by have := h (j + 1) (by simpa using hj); simpa only [gK, List.getD_cons_succ] using this)]
theorem inst_congr {σ τ : Nat → T} (t : T) (h : ∀ i, t.has i → σ i = τ i) : t.inst σ = t.inst τ := by
  induction t using T.ind with
  | h t ih =>
    rw [T.inst_eq, T.inst_eq]
    by_cases hn : t.head < 0
    · rw [if_pos hn, if_pos hn]; exact h _ (has_var hn)
    · rw [if_neg hn, if_neg hn, instL_congr (fun j hj => ih j hj (fun i hi => h i (has_kid hj hi)))]

def okA (t : T) : Prop := ∀ x ∈ t.pre, okN x
def nzA (t : T) : Prop := ∀ x ∈ t.pre, x.head ≠ 0
theorem okA.nz {t : T} (h : okA t) : nzA t := fun x hx e => (h x hx).1 (by unfold badHead; omega)
theorem okA.kid {t : T} (h : okA t) {i : Nat} (hi : i < t.kids.length) : okA (gK t.kids i) := okN_kid h hi
theorem nzA.kid {t : T} (h : nzA t) {i : Nat} (hi : i < t.kids.length) : nzA (gK t.kids i) := fun x hx => h x (by rw [T.pre_eq]; exact List.mem_cons_of_mem _ (kid_pre_mem hi hx))
theorem self_pre (t : T) : t ∈ t.pre := by rw [T.pre_eq]; simp
theorem nzA.head {t : T} (h : nzA t) : t.head ≠ 0 := h t (self_pre t)

def FitSound (p : T) : Prop := ∀ (t : T) (bs r : Nat → T), okA p → nzA t → p.fit t bs = some r →
  p.inst r = t ∧ (∀ i, (bs i).head ≠ 0 → r i = bs i) ∧ (∀ i, p.has i → (r i).head ≠ 0) ∧ ∀ i, (r i).head ≠ 0 → (bs i).head ≠ 0 ∨ (p.has i ∧ r i ∈ t.pre)
theorem fitL_sound : ∀ (ks ts : List T), (∀ i, i < ks.length → FitSound (gK ks i)) → ∀ (bs r : Nat → T), ks.length = ts.length → (∀ i, i < ks.length → okA (gK ks i)) → (∀ i, i < ts.length → nzA (gK ts i)) → fitL ks ts bs = some r →
    instL r ks = ts ∧ (∀ i, (bs i).head ≠ 0 → r i = bs i) ∧ (∀ i, hasL ks i → (r i).head ≠ 0) ∧ ∀ i, (r i).head ≠ 0 → (bs i).head ≠ 0 ∨ (hasL ks i ∧ r i ∈ preL ts)
  | [], [], _, bs, r, _, _, _, h => by
    rw [fitL] at h
    obtain rfl := Option.some.inj h
    exact ⟨rfl, fun i _ => rfl, fun i hi => by simp [hasL, timesL] at hi, fun i hi => .inl hi⟩
  | [], _ :: _, _, _, _, hl, _, _, _ => by simp at hl
  | _ :: _, [], _, _, _, hl, _, _, _ => by simp at hl
  | k :: kr, u :: ur, hP, bs, r, hl, hok, hnz, h => by
    rw [fitL] at h
    cases hk : k.fit u bs with
    | none => rw [hk] at h; simp at h
    | some b =>
      rw [hk] at h
      simp only at h
      have h0 := hP 0 (by simp); have o0 := hok 0 (by simp); have n0 := hnz 0 (by simp)
      simp only [gK, List.getD_cons_zero] at h0 o0 n0
      obtain ⟨a1, a2, a3, a4⟩ := h0 u bs b o0 n0 hk
      obtain ⟨b1, b2, b3, b4⟩ := fitL_sound kr ur (fun i hi => by have := hP (i + 1) (by simpa using hi); simpa only [gK, List.getD_cons_succ] using this) b r (by simpa using hl)
        (fun i hi => by have := hok (i + 1) (by simpa using hi); simpa only [gK, List.getD_cons_succ] using this) (fun i hi => by have := hnz (i + 1) (by simpa using hi); simpa only [gK, List.getD_cons_succ] using this) h
      have e1 : k.inst r = u := by rw [← a1]; exact inst_congr k (fun i hi => b2 i (a3 i hi))
      refine ⟨by rw [instL, e1, b1], fun i hi => ?_, fun i hi => ?_, fun i hi => ?_⟩
      · have := a2 i hi
        rw [b2 i (by rw [this]; exact hi), this]
      · rcases hasL_cons.1 hi with h1 | h1
        · rw [b2 i (a3 i h1)]; exact a3 i h1
        · exact b3 i h1
      · rcases b4 i hi with h1 | ⟨h1, h2⟩
        · have e := b2 i h1
          rcases a4 i h1 with h2 | ⟨h2, h3⟩
          · exact .inl h2
          · exact .inr ⟨hasL_cons.2 (.inl h2), by rw [e, preL]; exact List.mem_append_left _ h3⟩
        · exact .inr ⟨hasL_cons.2 (.inr h1), by rw [preL]; exact List.mem_append_right _ h2⟩
theorem fit_sound (p : T) : FitSound p := by
  induction p using T.ind with
  | h p ih =>
    intro t bs r hok hnz h
    rw [T.fit_eq] at h
    by_cases hn : p.head < 0
    · rw [if_pos hn] at h
      have hbad := (hok p (self_pre p)).1
      have e : ∀ i, p.has i → i = (-p.head - 1).toNat := fun i hi => by
        rcases has_cases hi with h1 | h1
        · omega
        · have := var_leaf hok hn
          rw [this] at h1; simp [hasL, T.kids, timesL] at h1
      by_cases hz : (bs (-p.head - 1).toNat).head = 0
      · rw [if_pos hz] at h
        obtain rfl := Option.some.inj h
        refine ⟨by rw [T.inst_eq, if_pos hn]; simp [setT], fun i hi => ?_, fun i hi => ?_, fun i hi => ?_⟩
        · unfold setT
          by_cases h1 : i = (-p.head - 1).toNat
          · rw [h1] at hi; exact absurd hz hi
          · rw [if_neg h1]
        · rw [e i hi]; simp [setT]; exact hnz.head
        · by_cases h1 : i = (-p.head - 1).toNat
          · right; subst h1; exact ⟨has_var hn, by simp [setT]; exact self_pre t⟩
          · left; have hi2 := hi; simp only [setT, if_neg h1] at hi2; exact hi2
      · rw [if_neg hz] at h
        by_cases hb : bs (-p.head - 1).toNat = t
        · rw [if_pos hb] at h
          obtain rfl := Option.some.inj h
          exact ⟨by rw [T.inst_eq, if_pos hn, hb], fun i _ => rfl, fun i hi => by rw [e i hi]; exact hz, fun i hi => .inl hi⟩
        · rw [if_neg hb] at h; cases h
    · rw [if_neg hn] at h
      by_cases hc : p.head = t.head ∧ p.kids.length = t.kids.length
      · rw [if_pos hc] at h
        obtain ⟨a1, a2, a3, a4⟩ := fitL_sound p.kids t.kids ih bs r hc.2 (fun i hi => hok.kid hi) (fun i hi => hnz.kid hi) h
        refine ⟨by rw [T.inst_eq, if_neg hn, a1, hc.1, T.node_eta], a2, fun i hi => ?_, fun i hi => ?_⟩
        · rcases has_cases hi with h1 | h1
          · omega
          · exact a3 i h1
        · rcases a4 i hi with h1 | ⟨h1, h2⟩
          · exact .inl h1
          · exact .inr ⟨hasL_has h1, by rw [T.pre_eq]; exact List.mem_cons_of_mem _ h2⟩
      · rw [if_neg hc] at h; cases h


theorem pre_sub {t : T} : ∀ {x : T}, x ∈ t.pre → ∀ y ∈ x.pre, y ∈ t.pre := by
  induction t using T.ind with
  | h t ih =>
    intro x hx y hy
    rw [T.pre_eq] at hx
    rcases List.mem_cons.1 hx with rfl | hx
    · exact hy
    · obtain ⟨i, hi, hx⟩ := mem_preL hx
      rw [T.pre_eq]; exact List.mem_cons_of_mem _ (kid_pre_mem hi (ih i hi hx y hy))
theorem T.sig.sub {ar : List Int} {t x : T} (h : t.sig ar) (hx : x ∈ t.pre) : x.sig ar := ⟨fun y hy => h.all y (pre_sub hx y hy)⟩
theorem T.sig.ok {ar : List Int} {t : T} (h : t.sig ar) : okA t := fun x hx => (h.all x hx).1
/-- the value of an instance, by what stands for the variables that occur -/
theorem ev_inst {s : Nat} {tb : List (List Int)} {th th' : List Int} {σ : Nat → T} (hl : th'.length = 8) (p : T) : okA p → (∀ i, p.has i → (σ i).ev s tb th = gI th' i) → (p.inst σ).ev s tb th = p.ev s tb th' := by
  induction p using T.ind with
  | h p ih =>
    intro hok h
    have hn := okN_num (okN_self hok)
    rw [T.inst_eq]
    by_cases hneg : p.head < 0
    · rw [if_pos hneg, T.ev_eq (th := th'), if_pos hneg, if_neg (by omega)]
      exact h _ (has_var hneg)
    · rw [if_neg hneg, T.ev_eq, T.ev_eq (th := th')]
      show (if p.head < 0 then _ else _) = _
      rw [if_neg hneg, if_neg hneg]
      have key : ∀ (l : List T) (a : Int), (∀ i, i < l.length → ((gK l i).inst σ).ev s tb th = (gK l i).ev s tb th') → evL s tb th (instL σ l) a = evL s tb th' l a := by
        intro l
        induction l with
        | nil => intro a _; rfl
        | cons x r ihl =>
          intro a h
          have hx : (x.inst σ).ev s tb th = x.ev s tb th' := h 0 (by simp)
          simp only [instL, evL]
          rw [hx]
          exact ihl _ (fun i hi => h (i + 1) (by simpa using hi))
      show gI _ (evL s tb th (instL σ p.kids) 0).toNat = _
      rw [key p.kids 0 (fun i hi => ih i hi (okN_kid hok hi) (fun j hj => h j (has_kid hi hj)))]
      rfl
theorem has_most {p : T} : ∀ {i : Nat}, p.has i → i < p.most.toNat := by
  induction p using T.ind with
  | h p ih =>
    intro i h
    rcases has_cases h with h1 | h1
    · have := head_most p; omega
    · have key : ∀ l : List T, hasL l i → ∃ j, j < l.length ∧ (gK l j).has i := by
        intro l
        induction l with
        | nil => intro h; simp [hasL, timesL] at h
        | cons x r ihl =>
          intro h
          rcases hasL_cons.1 h with h | h
          · exact ⟨0, by simp, h⟩
          · obtain ⟨j, hj, h2⟩ := ihl h
            exact ⟨j + 1, by simpa using hj, h2⟩
      obtain ⟨j, hj, h2⟩ := key _ h1
      have h3 := ih j hj h2
      have h4 := kid_most hj
      omega
theorem sig_sub_of {ar : List Int} {bs : List T} (hb : ∀ k, boundB bs k = true → (gK bs k).sig ar) (t : T) : t.sig ar → (t.sub bs).sig ar := by
  induction t using T.ind with
  | h t ih =>
    intro hs
    by_cases hneg : t.head < 0
    · cases hbb : boundB bs (-t.head - 1).toNat with
      | true => rw [T.sub_var hneg hbb]; exact hb _ hbb
      | false => rw [T.sub_free hneg hbb]; exact hs
    · rw [T.sub_pos hneg]
      have h1 := hs.self
      refine T.sig.of ?_ ⟨h1.2.1, fun h => ?_⟩ (fun i hi => ?_)
      · have h2 := h1.1
        unfold okN at h2 ⊢
        simpa [T.kids, T.head] using h2
      · have h2 := h1.2.2 h
        simpa [T.kids, T.head] using h2
      · have hi2 : i < t.kids.length := by simpa [T.kids] using hi
        have e : gK (T.node t.head (t.kids.map (T.sub bs))).kids i = (gK t.kids i).sub bs := gK_map hi2
        rw [e]
        exact ih i hi2 (hs.kid hi2)
/-- a rule that fits the signs and holds as an equation -/
def RuleOK (ar : List Int) (s : Nat) (tb : List (List Int)) (f : Ru) : Prop := f.1.sig ar ∧ f.2.sig ar ∧ ∀ th, ThOK s th → th.length = 8 → f.1.ev s tb th = f.2.ev s tb th
theorem root_ev {ar : List Int} {s : Nat} {tb : List (List Int)} (hT : TabOK ar s tb) : ∀ {rs : List Ru}, (∀ f ∈ rs, RuleOK ar s tb f) → ∀ {t x : T}, rootS rs t = some x → t.sig ar → x.sig ar ∧ ∀ th, ThOK s th → x.ev s tb th = t.ev s tb th
  | [], _, t, x, h, _ => by cases h
  | f :: r, hr, t, x, h, ht => by
    rw [rootS] at h
    cases hf : fitF f.1 t with
    | none => rw [hf] at h; exact root_ev hT (fun g hg => hr g (List.mem_cons_of_mem _ hg)) h ht
    | some b =>
      rw [hf] at h
      obtain rfl := Option.some.inj h
      obtain ⟨h1, h2, h3⟩ := hr f (List.mem_cons_self ..)
      unfold fitF at hf
      obtain ⟨σ, hσ, rfl⟩ := Option.map_eq_some_iff.1 hf
      obtain ⟨a1, _, a3, a4⟩ := fit_sound f.1 t _ σ h1.ok ht.ok.nz hσ
      have hbd : ∀ k, boundB (listT f.1.most.toNat σ) k = true → k < f.1.most.toNat ∧ (σ k).head ≠ 0 := fun k hk => by
        unfold boundB at hk
        rw [Bool.and_eq_true] at hk
        have hk1 : k < f.1.most.toNat := by have := of_decide_eq_true hk.1; rwa [listT_length] at this
        rw [listT_gK hk1] at hk
        exact ⟨hk1, by simpa using hk.2⟩
      have hbs : ∀ k, boundB (listT f.1.most.toNat σ) k = true → (gK (listT f.1.most.toNat σ) k).sig ar := fun k hk => by
        obtain ⟨hk1, hk2⟩ := hbd k hk
        rw [listT_gK hk1]
        rcases a4 k hk2 with h5 | ⟨_, h5⟩
        · exact absurd rfl h5
        · exact ht.sub h5
      refine ⟨sig_sub_of hbs f.2 h2, fun th hth => ?_⟩
      rw [ev_sub f.2 h2.ok, ← h3 _ (ofF_ok hT hth (fun k _ hk => hbs k hk)) (by simp [ofF]), ← ev_inst (σ := σ) (th := th) (by simp [ofF]) f.1 h1.ok (fun i hi => ?_), a1]
      have hi1 := has_most hi
      have hi8 : i < 8 := by
        have hm : f.1.most ≤ 8 := by
          have key : ∀ t : T, okA t → t.most ≤ 8 := by
            intro t
            induction t using T.ind with
            | h t ih =>
              intro hh
              rw [T.most_eq]
              have h4 := okN_num (okN_self hh)
              have key2 : ∀ l : List T, (∀ i, i < l.length → (gK l i).most ≤ 8) → mostL l ≤ 8 := by
                intro l
                induction l with
                | nil => intro _; simp [mostL]
                | cons y r ih2 => intro h6; simp only [mostL]; have h7 : y.most ≤ 8 := h6 0 (by simp); have h8 := ih2 (fun i hi => h6 (i + 1) (by simpa using hi)); omega
              have h5 := key2 t.kids (fun i hi => ih i hi (okN_kid hh hi))
              split <;> omega
          exact key _ h1.ok
        omega
      rw [gI_ofF hi8]
      unfold ofK
      have hbb : boundB (listT f.1.most.toNat σ) i = true := by
        unfold boundB
        rw [listT_length, decide_eq_true hi1, listT_gK hi1]
        simpa using a3 i hi
      rw [if_pos hbb, listT_gK hi1]
theorem step_ev {ar : List Int} {s : Nat} {tb : List (List Int)} (hT : TabOK ar s tb) {rs : List Ru} (hr : ∀ f ∈ rs, RuleOK ar s tb f) (t : T) : ∀ {x : T}, t.step rs = some x → t.sig ar → x.sig ar ∧ ∀ th, ThOK s th → x.ev s tb th = t.ev s tb th := by
  induction t using T.ind with
  | h t ih =>
    intro x h ht
    rw [T.step_eq] at h
    have key : ∀ (l m : List T), (∀ i, i < l.length → (gK l i).sig ar) → (∀ i, i < l.length → ∀ {x : T}, (gK l i).step rs = some x → (gK l i).sig ar → x.sig ar ∧ ∀ th, ThOK s th → x.ev s tb th = (gK l i).ev s tb th) → stepL rs l = some m →
        m.length = l.length ∧ (∀ i, i < m.length → (gK m i).sig ar) ∧ ∀ th, ThOK s th → ∀ a, evL s tb th m a = evL s tb th l a := by
      intro l
      induction l with
      | nil => intro m _ _ h; cases h
      | cons y r ihl =>
        intro m hsg hst h
        rw [stepL] at h
        have hys : y.sig ar := hsg 0 (by simp)
        cases hstep : y.step rs with
        | some z =>
          rw [hstep] at h
          obtain rfl := Option.some.inj h
          obtain ⟨h1, h2⟩ : z.sig ar ∧ ∀ th, ThOK s th → z.ev s tb th = y.ev s tb th := hst 0 (by simp) (x := z) hstep hys
          refine ⟨rfl, fun i hi => ?_, fun th hth a => ?_⟩
          · rcases i with _ | i
            · exact h1
            · exact hsg (i + 1) (by simpa using hi)
          · simp only [evL]
            rw [h2 th hth]
        | none =>
          rw [hstep] at h
          cases hl : stepL rs r with
          | none => rw [hl] at h; cases h
          | some l' =>
            rw [hl] at h
            obtain rfl := Option.some.inj h
            obtain ⟨h1, h2, h3⟩ := ihl l' (fun i hi => hsg (i + 1) (by simpa using hi)) (fun i hi => hst (i + 1) (by simpa using hi)) hl
            refine ⟨by simp [h1], fun i hi => ?_, fun th hth a => ?_⟩
            · rcases i with _ | i
              · exact hys
              · exact h2 i (by simpa using hi)
            · simp only [evL]
              exact h3 th hth _
    cases hl : stepL rs t.kids with
    | none => rw [hl] at h; exact root_ev hT hr h ht
    | some l =>
      rw [hl] at h
      obtain rfl := Option.some.inj h
      obtain ⟨h1, h2, h3⟩ := key t.kids l (fun i hi => ht.kid hi) (fun i hi => ih i hi) hl
      have hself := ht.self
      refine ⟨T.sig.of ?_ ⟨hself.2.1, fun h => ?_⟩ (fun i hi => h2 i hi), fun th hth => ?_⟩
      · have h4 := hself.1
        unfold okN at h4 ⊢
        show ¬ badHead t.head ∧ ¬ badKids t.head l.length
        rw [h1]; exact h4
      · show (l.length : Int) = _
        rw [h1]; exact hself.2.2 h
      · rw [T.ev_eq, T.ev_eq (t := t)]
        show (if t.head < 0 then (if (th.length : Int) < -t.head then 0 else gI th (-t.head - 1).toNat) else gI (tb.getD (t.head - 1).toNat []) (evL s tb th l 0).toNat) = _
        rw [h3 th hth]
theorem norm_ev {ar : List Int} {s : Nat} {tb : List (List Int)} (hT : TabOK ar s tb) {rs : List Ru} (hr : ∀ f ∈ rs, RuleOK ar s tb f) : ∀ (n : Nat) (t : T), t.sig ar → (treeF t).1 = 0 → (normN rs n t).1 ≠ 0 →
    (treeF (normN rs n t).2).1 = 0 ∧ (normN rs n t).2.sig ar ∧ ∀ th, ThOK s th → (normN rs n t).2.ev s tb th = t.ev s tb th
  | 0, t, ht, hk, _ => by rw [normN]; cases t.step rs <;> exact ⟨hk, ht, fun th _ => rfl⟩
  | n + 1, t, ht, hk, h => by
    rw [normN] at h ⊢
    cases hs : t.step rs with
    | none => rw [hs] at h; exact ⟨hk, ht, fun th _ => rfl⟩
    | some x =>
      rw [hs] at h
      dsimp only at h ⊢
      by_cases hx : (treeF x).1 ≠ 0
      · rw [if_pos hx] at h; exact absurd rfl h
      · rw [if_neg hx] at h ⊢
        obtain ⟨h1, h2⟩ := step_ev hT hr t hs ht
        obtain ⟨h3, h4, h5⟩ := norm_ev hT hr n x h1 (by simpa using hx) h
        exact ⟨h3, h4, fun th hth => (h5 th hth).trans (h2 th hth)⟩
end Go.Proofs.Yteekoclfpehnpaa
