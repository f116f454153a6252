/-
  Plain: partial maps from variables to trees, what solves them; unification by such a map.
-/
import Derived.Test.YtlhnfdjidjgfgaaPa4
namespace Go.Proofs.Ytlhnfdjidjgfgaa
open Go.RowKit Go.Shelf
set_option linter.unusedVariables false
set_option maxHeartbeats 400000

/-- the variable number i + 1 -/
def vT (i : Nat) : T := .node (-(i : Int) - 1) []
/-- the number of a variable, less one -/
def vI (t : T) : Nat := (-t.head - 1).toNat
abbrev PM := Nat → Option T
def Sol (M : PM) (θ : Nat → T) : Prop := ∀ x t, M x = some t → θ x = t.inst θ
/-- variables are leaves, and have numbers up to N; it is no giant -/
def VA (N : Nat) (t : T) : Prop := (∀ x ∈ t.pre, x.head < 0 → x.kids = [] ∧ vI x < N) ∧ t.size ≤ 100000
def GoodM (N : Nat) (M : PM) : Prop := ∀ x t, M x = some t → x < N ∧ VA N t ∧ (t.head < 0 → vI t < x)
def Acyc (M : PM) : Prop := ∃ rank : Nat → Nat, ∀ x t y, M x = some t → t.has y → rank y < rank x
def ExtM (M M' : PM) : Prop := ∀ x t, M x = some t → M' x = some t

theorem vT_head (i : Nat) : (vT i).head = -(i : Int) - 1 := rfl
theorem vI_vT (i : Nat) : vI (vT i) = i := by unfold vI; rw [vT_head]; omega
theorem vT_neg (i : Nat) : (vT i).head < 0 := by rw [vT_head]; omega
theorem vT_inst (i : Nat) (θ : Nat → T) : (vT i).inst θ = θ i := by
  rw [T.inst_eq, if_pos (vT_neg i)]
  show θ (vI (vT i)) = _
  rw [vI_vT]
theorem inst_var {t : T} (h : t.head < 0) (θ : Nat → T) : t.inst θ = θ (vI t) := by rw [T.inst_eq, if_pos h]; rfl
theorem inst_node {t : T} (h : ¬ t.head < 0) (θ : Nat → T) : t.inst θ = .node t.head (instL θ t.kids) := by rw [T.inst_eq, if_neg h]
theorem VA.leaf {N : Nat} {t : T} (h : VA N t) (hn : t.head < 0) : t = vT (vI t) ∧ vI t < N := by
  obtain ⟨h1, h2⟩ := h.1 t (self_pre t) hn
  refine ⟨?_, h2⟩
  cases t with
  | node hd ks =>
    simp only [T.kids] at h1
    simp only [T.head] at hn
    rw [h1]
    unfold vT vI
    simp only [T.head]
    congr 1; omega
theorem size_kid_lt {t : T} {i : Nat} (hi : i < t.kids.length) : (gK t.kids i).size < t.size := by
  have := kid_size hi
  rw [T.size_eq t]; omega
theorem VA.kid {N : Nat} {t : T} (h : VA N t) {i : Nat} (hi : i < t.kids.length) : VA N (gK t.kids i) := ⟨fun x hx => h.1 x (by rw [T.pre_eq]; exact List.mem_cons_of_mem _ (kid_pre_mem hi hx)), by have h1 := size_kid_lt hi; have h2 := h.2; omega⟩
theorem gK_instL (θ : Nat → T) : ∀ {l : List T} {i : Nat}, i < l.length → gK (instL θ l) i = (gK l i).inst θ
  | [], i, h => by simp at h
  | k :: r, 0, _ => rfl
  | k :: r, i + 1, h => by
    have := gK_instL θ (l := r) (i := i) (by simpa using h)
    simpa [instL, gK] using this
theorem instL_ext {θ : Nat → T} {l : List T} {m : List T} (hl : l.length = m.length) (h : ∀ i, i < l.length → (gK l i).inst θ = (gK m i).inst θ) : instL θ l = instL θ m := by
  induction l generalizing m with
  | nil => cases m with
    | nil => rfl
    | cons y r => simp at hl
  | cons x l ih => cases m with
    | nil => simp at hl
    | cons y r =>
      have h0 : x.inst θ = y.inst θ := h 0 (by simp)
      simp only [instL]
      rw [h0, ih (by simpa using hl) (fun i hi => h (i + 1) (by simpa using hi))]
/-- nodes with heads and numbers of kids alike are one if their kids are -/
theorem inst_kids {a b : T} {θ : Nat → T} (ha : ¬ a.head < 0) (hb : ¬ b.head < 0) : a.inst θ = b.inst θ ↔ a.head = b.head ∧ a.kids.length = b.kids.length ∧ ∀ i, i < a.kids.length → (gK a.kids i).inst θ = (gK b.kids i).inst θ := by
  rw [inst_node ha, inst_node hb]
  constructor
  · intro h
    injection h with h1 h2
    have h3 : a.kids.length = b.kids.length := by rw [← instL_length θ a.kids, ← instL_length θ b.kids, h2]
    refine ⟨h1, h3, fun i hi => ?_⟩
    rw [← gK_instL θ hi, ← gK_instL θ (by omega), h2]
  · rintro ⟨h1, h2, h3⟩
    rw [h1, instL_ext h2 h3]
theorem inst_inst (σ θ : Nat → T) (t : T) : (t.inst σ).inst θ = t.inst (fun x => (σ x).inst θ) := by
  induction t using T.ind with
  | h t ih =>
    by_cases hn : t.head < 0
    · rw [inst_var hn, inst_var hn]
    · rw [inst_node hn, inst_node hn, T.inst_eq]
      show (if t.head < 0 then _ else _) = _
      rw [if_neg hn]
      congr 1
      have key : ∀ l : List T, (∀ i, i < l.length → ((gK l i).inst σ).inst θ = (gK l i).inst (fun x => (σ x).inst θ)) → instL θ (instL σ l) = instL (fun x => (σ x).inst θ) l := by
        intro l
        induction l with
        | nil => intro _; rfl
        | cons x r ihl =>
          intro h
          have h0 : (x.inst σ).inst θ = x.inst (fun x => (σ x).inst θ) := h 0 (by simp)
          simp only [instL]
          rw [h0, ihl (fun i hi => h (i + 1) (by simpa using hi))]
      exact key t.kids ih
/-! sizes -/
theorem inst_size_kid {t : T} {i : Nat} {θ : Nat → T} (hn : ¬ t.head < 0) (hi : i < t.kids.length) : ((gK t.kids i).inst θ).size < (t.inst θ).size := by
  rw [inst_node hn]
  have h1 : i < (T.node t.head (instL θ t.kids)).kids.length := by show i < (instL θ t.kids).length; rw [instL_length]; exact hi
  have := size_kid_lt h1
  rw [show (T.node t.head (instL θ t.kids)).kids = instL θ t.kids from rfl, gK_instL θ hi] at this
  exact this
theorem hasL_kid {l : List T} {i : Nat} : hasL l i → ∃ j, j < l.length ∧ (gK l j).has i := by
  induction l with
  | nil => intro h; simp [hasL, timesL] at h
  | cons x r ihl =>
    intro h
    rcases hasL_cons.1 h with h | h
    · exact ⟨0, by simp, h⟩
    · obtain ⟨j, hj, h2⟩ := ihl h
      exact ⟨j + 1, by simpa using hj, h2⟩
theorem has_size {N : Nat} {t : T} {θ : Nat → T} : VA N t → ∀ {y : Nat}, t.has y → (θ y).size ≤ (t.inst θ).size ∧ (¬ t.head < 0 → (θ y).size < (t.inst θ).size) := by
  induction t using T.ind with
  | h t ih =>
    intro hv y hy
    by_cases hn : t.head < 0
    · refine ⟨?_, fun h => absurd hn h⟩
      have h1 := (hv.leaf hn).1
      rw [inst_var hn]
      have : vI t = y := by
        rcases has_cases hy with h | h
        · unfold vI; omega
        · rw [(hv.1 t (self_pre t) hn).1] at h; simp [hasL, timesL] at h
      rw [this]; exact Nat.le_refl _
    · have h2 : (θ y).size < (t.inst θ).size := by
        rcases has_cases hy with h | h
        · omega
        · obtain ⟨j, hj, h3⟩ := hasL_kid h
          have h4 := (ih j hj (hv.kid hj) h3).1
          have h5 := inst_size_kid (θ := θ) hn hj
          omega
      exact ⟨by omega, fun _ => h2⟩
theorem has_lt {N : Nat} {t : T} (hv : VA N t) {y : Nat} (hy : t.has y) : y < N := by
  induction t using T.ind with
  | h t ih =>
    by_cases hn : t.head < 0
    · have h1 := (hv.leaf hn).2
      have : vI t = y := by
        rcases has_cases hy with h | h
        · unfold vI; omega
        · rw [(hv.1 t (self_pre t) hn).1] at h; simp [hasL, timesL] at h
      omega
    · rcases has_cases hy with h | h
      · omega
      · obtain ⟨j, hj, h3⟩ := hasL_kid h
        exact ih j hj (hv.kid hj) h3

/-! a map without rounds has a solution, of which every other is an instance -/
def sigN' (M : PM) : Nat → Nat → T
  | 0, x => vT x
  | n + 1, x => match M x with
    | none => vT x
    | some t => t.inst (sigN' M n)
theorem sigN'_gen {M : PM} {θ : Nat → T} (h : Sol M θ) : ∀ n x, (sigN' M n x).inst θ = θ x
  | 0, x => vT_inst x θ
  | n + 1, x => by
    unfold sigN'
    cases hm : M x with
    | none => exact vT_inst x θ
    | some t =>
      show (t.inst (sigN' M n)).inst θ = θ x
      rw [inst_inst, h x t hm]
      exact inst_congr t (fun i _ => sigN'_gen h n i)
theorem sigN'_stable {M : PM} {rank : Nat → Nat} (hr : ∀ x t y, M x = some t → t.has y → rank y < rank x) : ∀ n m x, rank x < n → rank x < m → sigN' M n x = sigN' M m x
  | 0, m, x, h, _ => by omega
  | n + 1, 0, x, _, h => by omega
  | n + 1, m + 1, x, h1, h2 => by
    unfold sigN'
    cases hm : M x with
    | none => rfl
    | some t => exact inst_congr t (fun i hi => sigN'_stable hr n m i (by have := hr x t i hm hi; omega) (by have := hr x t i hm hi; omega))
/-- the most general solution -/
structure Mgs (M : PM) (σ : Nat → T) : Prop where
  sol : Sol M σ
  gen : ∀ θ, Sol M θ → ∀ x, (σ x).inst θ = θ x
  free : ∀ x, M x = none → σ x = vT x
theorem mgs_of {M : PM} (h : Acyc M) : ∃ σ, Mgs M σ := by
  obtain ⟨rank, hr⟩ := h
  refine ⟨fun x => sigN' M (rank x + 1) x, ⟨fun x t hm => ?_, fun θ hθ x => sigN'_gen hθ _ x, fun x hm => ?_⟩⟩
  · show sigN' M (rank x + 1) x = _
    unfold sigN'
    rw [hm]
    exact inst_congr t (fun i hi => sigN'_stable hr _ _ i (hr x t i hm hi) (Nat.lt_succ_self _))
  · show sigN' M (rank x + 1) x = _
    unfold sigN'
    rw [hm]
/-- sizes and numbers go down along a map that has a solution -/
theorem sol_down {N : Nat} {M : PM} {θ : Nat → T} (hg : GoodM N M) (h : Sol M θ) {x y : Nat} {t : T} (hm : M x = some t) (hy : t.has y) : (θ y).size < (θ x).size ∨ ((θ y).size = (θ x).size ∧ y < x) := by
  obtain ⟨h1, h2, h3⟩ := hg x t hm
  have h4 := has_size (θ := θ) h2 hy
  rw [← h x t hm] at h4
  by_cases hn : t.head < 0
  · have : vI t = y := by
      rcases has_cases hy with h | h
      · unfold vI; omega
      · rw [(h2.1 t (self_pre t) hn).1] at h; simp [hasL, timesL] at h
    have := h3 hn
    rcases Nat.lt_or_eq_of_le h4.1 with h5 | h5
    · exact .inl h5
    · exact .inr ⟨h5, by omega⟩
  · exact .inl (h4.2 hn)
/-- a way along the edges -/
inductive Way (M : PM) : Nat → Nat → Prop
  | one {x y : Nat} {t : T} : M x = some t → t.has y → Way M x y
  | more {x y z : Nat} : Way M x y → Way M y z → Way M x z
theorem Way.down {N : Nat} {M : PM} {θ : Nat → T} (hg : GoodM N M) (h : Sol M θ) {x y : Nat} (hw : Way M x y) : (θ y).size < (θ x).size ∨ ((θ y).size = (θ x).size ∧ y < x) := by
  induction hw with
  | one hm hy => exact sol_down hg h hm hy
  | more _ _ h1 h2 => omega
theorem no_round {N : Nat} {M : PM} {θ : Nat → T} (hg : GoodM N M) (h : Sol M θ) (x : Nat) : ¬ Way M x x := fun hw => by
  have := hw.down hg h; omega
theorem acyc_empty : Acyc (fun _ => none) := ⟨fun _ => 0, fun x t y h => by cases h⟩
theorem good_empty (N : Nat) : GoodM N (fun _ => none) := fun x t h => by cases h

/-! binding one variable -/
def bindM (M : PM) (x : Nat) (t : T) : PM := fun y => if y = x then some t else M y
theorem bindM_ext {M : PM} {x : Nat} {t : T} (h : M x = none) : ExtM M (bindM M x t) := fun y u hy => by
  unfold bindM
  rw [if_neg (fun e => by rw [e, h] at hy; cases hy)]; exact hy
theorem bindM_good {N : Nat} {M : PM} {x : Nat} {t : T} (hg : GoodM N M) (hx : x < N) (ht : VA N t) (ho : t.head < 0 → vI t < x) : GoodM N (bindM M x t) := fun y u hy => by
  unfold bindM at hy
  by_cases e : y = x
  · subst e; rw [if_pos rfl] at hy; cases hy; exact ⟨hx, ht, ho⟩
  · rw [if_neg e] at hy; exact hg y u hy
theorem bindM_sol {M : PM} {x : Nat} {t : T} (h : M x = none) (θ : Nat → T) : Sol (bindM M x t) θ ↔ Sol M θ ∧ θ x = t.inst θ := by
  constructor
  · intro hs
    exact ⟨fun y u hy => hs y u (bindM_ext h y u hy), hs x t (by unfold bindM; rw [if_pos rfl])⟩
  · rintro ⟨h1, h2⟩ y u hy
    unfold bindM at hy
    by_cases e : y = x
    · subst e; rw [if_pos rfl] at hy; cases hy; exact h2
    · rw [if_neg e] at hy; exact h1 y u hy

/-! roots -/
structure IsRoot (N : Nat) (M : PM) (t u : T) : Prop where
  va : VA N u
  free : u.head < 0 → M (vI u) = none
  same : ∀ θ, Sol M θ → t.inst θ = u.inst θ

/-! what one call comes to -/
structure UPost (N : Nat) (M : PM) (a b : T) (r : Bool) (M' : PM) : Prop where
  good : GoodM N M'
  ext : ExtM M M'
  yes : r = true → ∀ θ, Sol M' θ ↔ Sol M θ ∧ a.inst θ = b.inst θ
  no : r = false → ∀ θ, Sol M θ → a.inst θ ≠ b.inst θ
theorem UPost.root {N : Nat} {M M' : PM} {a b a' b' : T} {r : Bool} (ha : IsRoot N M a a') (hb : IsRoot N M b b') (h : UPost N M a' b' r M') : UPost N M a b r M' := by
  refine ⟨h.good, h.ext, fun hr θ => ?_, fun hr θ hs => ?_⟩
  · rw [h.yes hr θ]
    constructor
    · rintro ⟨h1, h2⟩; exact ⟨h1, by rw [ha.same θ h1, hb.same θ h1, h2]⟩
    · rintro ⟨h1, h2⟩; exact ⟨h1, by rw [← ha.same θ h1, ← hb.same θ h1, h2]⟩
  · rw [ha.same θ hs, hb.same θ hs]; exact h.no hr θ hs
theorem UPost.left {N : Nat} {M : PM} {a b : T} (hg : GoodM N M) (ha : VA N a) (hb : VA N b) (hn : a.head < 0) (hf : M (vI a) = none) (ho : b.head < 0 → vI b < vI a) : UPost N M a b true (bindM M (vI a) b) :=
  ⟨bindM_good hg (ha.leaf hn).2 hb ho, bindM_ext hf, fun _ θ => by rw [bindM_sol hf, inst_var hn], fun h => by cases h⟩
theorem UPost.right {N : Nat} {M : PM} {a b : T} (hg : GoodM N M) (ha : VA N a) (hb : VA N b) (hn : b.head < 0) (hf : M (vI b) = none) (ho : a.head < 0 → vI a < vI b) : UPost N M a b true (bindM M (vI b) a) :=
  ⟨bindM_good hg (hb.leaf hn).2 ha ho, bindM_ext hf, fun _ θ => by rw [bindM_sol hf, inst_var hn]; exact ⟨fun h => ⟨h.1, h.2.symm⟩, fun h => ⟨h.1, h.2.symm⟩⟩, fun h => by cases h⟩
theorem UPost.same {N : Nat} {M : PM} {a b : T} (hg : GoodM N M) (ha : VA N a) (hb : VA N b) (hn : a.head < 0) (he : a.head = b.head) : UPost N M a b true M := by
  refine ⟨hg, fun x t h => h, fun _ θ => ⟨fun h => ⟨h, ?_⟩, fun h => h.1⟩, fun h => by cases h⟩
  rw [inst_var hn, inst_var (by omega)]
  unfold vI; rw [he]
theorem UPost.clash {N : Nat} {M : PM} {a b : T} (hg : GoodM N M) (hn : ¬ a.head < 0) (hn2 : ¬ b.head < 0) (he : ¬ (a.head = b.head ∧ a.kids.length = b.kids.length)) : UPost N M a b false M :=
  ⟨hg, fun x t h => h, fun h => (by cases h), fun _ θ _ h => he ⟨((inst_kids hn hn2).1 h).1, ((inst_kids hn hn2).1 h).2.1⟩⟩
/-- the kids ahead of number k have been made one -/
structure UKids (N : Nat) (M : PM) (a b : T) (k : Nat) (M' : PM) : Prop where
  good : GoodM N M'
  ext : ExtM M M'
  sol : ∀ θ, Sol M' θ ↔ Sol M θ ∧ ∀ j, j < k → (gK a.kids j).inst θ = (gK b.kids j).inst θ
theorem UKids.start {N : Nat} {M : PM} (hg : GoodM N M) (a b : T) : UKids N M a b 0 M := ⟨hg, fun x t h => h, fun θ => ⟨fun h => ⟨h, fun j hj => by omega⟩, fun h => h.1⟩⟩
theorem UKids.next {N : Nat} {M M1 M2 : PM} {a b : T} {k : Nat} (h : UKids N M a b k M1) (h2 : UPost N M1 (gK a.kids k) (gK b.kids k) true M2) : UKids N M a b (k + 1) M2 := by
  refine ⟨h2.good, fun x t hx => h2.ext x t (h.ext x t hx), fun θ => ?_⟩
  rw [h2.yes rfl θ, h.sol θ]
  constructor
  · rintro ⟨⟨h3, h4⟩, h5⟩
    refine ⟨h3, fun j hj => ?_⟩
    by_cases e : j = k
    · rw [e]; exact h5
    · exact h4 j (by omega)
  · rintro ⟨h3, h4⟩
    exact ⟨⟨h3, fun j hj => h4 j (by omega)⟩, h4 k (by omega)⟩
theorem UKids.done {N : Nat} {M M1 : PM} {a b : T} (hn : ¬ a.head < 0) (hn2 : ¬ b.head < 0) (he : a.head = b.head) (hl : a.kids.length = b.kids.length) (h : UKids N M a b a.kids.length M1) : UPost N M a b true M1 :=
  ⟨h.good, h.ext, fun _ θ => by rw [h.sol θ, inst_kids hn hn2]; exact ⟨fun h => ⟨h.1, he, hl, h.2⟩, fun h => ⟨h.1, h.2.2.2⟩⟩, fun h => by cases h⟩
theorem UKids.fail {N : Nat} {M M1 M2 : PM} {a b : T} {k : Nat} (hn : ¬ a.head < 0) (hn2 : ¬ b.head < 0) (hk : k < a.kids.length) (h : UKids N M a b k M1) (h2 : UPost N M1 (gK a.kids k) (gK b.kids k) false M2) : UPost N M a b false M2 :=
  ⟨h2.good, fun x t hx => h2.ext x t (h.ext x t hx), fun h => (by cases h), fun _ θ hs he => by
    have h3 := ((inst_kids hn hn2).1 he).2.2
    exact h2.no rfl θ ((h.sol θ).2 ⟨hs, fun j hj => h3 j (by omega)⟩) (h3 k hk)⟩
theorem UKids.stuck {N : Nat} {M M1 M2 : PM} {a b : T} {k : Nat} (hn : ¬ a.head < 0) (hn2 : ¬ b.head < 0) (hk : k < a.kids.length) (h : UKids N M a b (k + 1) M2) (h2 : ∀ θ, ¬ Sol M2 θ) : UPost N M a b false M2 :=
  ⟨h.good, h.ext, fun h => (by cases h), fun _ θ hs he => by
    have h3 := ((inst_kids hn hn2).1 he).2.2
    exact h2 θ ((h.sol θ).2 ⟨hs, fun j hj => h3 j (by omega)⟩)⟩

/-- how many variables stand for themselves -/
noncomputable def unb (N : Nat) (M : PM) : Nat := ((List.range N).filter fun x => decide (M x = none)).length
theorem countP_lt {α : Type} {p q : α → Bool} : ∀ {l : List α}, (∀ x ∈ l, q x = true → p x = true) → (∃ x ∈ l, p x = true ∧ q x = false) → l.countP q < l.countP p
  | [], _, ⟨x, h, _⟩ => by cases h
  | y :: r, h, ⟨x, hx, h1, h2⟩ => by
    rw [List.countP_cons, List.countP_cons]
    have hle := List.countP_mono_left (l := r) (fun z hz => h z (List.mem_cons_of_mem _ hz))
    rcases List.mem_cons.1 hx with rfl | hx
    · rw [h1, h2]; simp; omega
    · have := countP_lt (l := r) (fun z hz => h z (List.mem_cons_of_mem _ hz)) ⟨x, hx, h1, h2⟩
      have h3 := h y (List.mem_cons_self ..)
      by_cases hq : q y = true
      · rw [hq, h3 hq]; simp; omega
      · have hq : q y = false := by simpa using hq
        rw [hq]; simp; split <;> omega
theorem unb_lt {N : Nat} {M M' : PM} (h : ExtM M M') (hg : GoodM N M') (hne : M' ≠ M) : unb N M' < unb N M := by
  unfold unb
  rw [← List.countP_eq_length_filter, ← List.countP_eq_length_filter]
  refine countP_lt (fun x _ hx => ?_) ?_
  · simp only [decide_eq_true_eq] at hx ⊢
    cases hm : M x with
    | none => rfl
    | some t => rw [h x t hm] at hx; cases hx
  · refine Classical.byContradiction fun hno => hne (funext fun x => ?_)
    cases hm : M x with
    | some t => exact h x t hm
    | none =>
      cases hm2 : M' x with
      | none => rfl
      | some t => exact absurd ⟨x, List.mem_range.2 (hg x t hm2).1, by simp [hm], by simp [hm2]⟩ hno

/-! the end: what a map with no rounds stands for is settled by what solves it -/
/-- variables are leaves -/
def LV (t : T) : Prop := ∀ x ∈ t.pre, x.head < 0 → x.kids = []
theorem VA.lv {N : Nat} {t : T} (h : VA N t) : LV t := fun x hx hn => (h.1 x hx hn).1
theorem LV.leaf {t : T} (h : LV t) (hn : t.head < 0) : t = vT (vI t) := by
  have h1 := h t (self_pre t) hn
  cases t with
  | node hd ks =>
    simp only [T.kids] at h1
    simp only [T.head] at hn
    rw [h1]
    unfold vT vI
    simp only [T.head]
    congr 1; omega
theorem LV.kid {t : T} (h : LV t) {i : Nat} (hi : i < t.kids.length) : LV (gK t.kids i) := fun x hx => h x (by rw [T.pre_eq]; exact List.mem_cons_of_mem _ (kid_pre_mem hi hx))
theorem LV.of {t : T} (h1 : t.head < 0 → t.kids = []) (h2 : ∀ i, i < t.kids.length → LV (gK t.kids i)) : LV t := fun x hx => by
  rw [T.pre_eq] at hx
  rcases List.mem_cons.1 hx with rfl | hx
  · exact h1
  · obtain ⟨i, hi, hx⟩ := mem_preL hx
    exact h2 i hi x hx
theorem LV.vT (i : Nat) : LV (vT i) := LV.of (fun _ => rfl) (fun j hj => by simp [Go.Proofs.Ytlhnfdjidjgfgaa.vT, T.kids] at hj)
theorem LV.inst {σ : Nat → T} (h : ∀ y, LV (σ y)) (t : T) : LV (t.inst σ) := by
  induction t using T.ind with
  | h t ih =>
    by_cases hn : t.head < 0
    · rw [inst_var hn]; exact h _
    · rw [inst_node hn]
      refine LV.of (fun h => absurd h hn) (fun i hi => ?_)
      have hi : i < t.kids.length := by simpa [T.kids, instL_length] using hi
      show LV (gK (instL σ t.kids) i)
      rw [gK_instL σ hi]; exact ih i hi
structure Canon (S : (Nat → T) → Prop) (σ : Nat → T) : Prop where
  sol : S σ
  gen : ∀ θ, S θ → ∀ x, (σ x).inst θ = θ x
  lv : ∀ x, LV (σ x)
  low : ∀ x y, σ x = vT y → y ≤ x ∧ σ y = vT y
theorem vT_inj {i j : Nat} (h : vT i = vT j) : i = j := by rw [← vI_vT i, ← vI_vT j, h]
theorem inst_fix {σ : Nat → T} {t : T} : LV t → t.inst σ = t → ∀ y, t.has y → σ y = vT y := by
  induction t using T.ind with
  | h t ih =>
    intro hl he y hy
    by_cases hn : t.head < 0
    · rw [inst_var hn] at he
      have h1 := hl.leaf hn
      have : vI t = y := by
        rcases has_cases hy with h | h
        · unfold vI; omega
        · rw [hl t (self_pre t) hn] at h; simp [hasL, timesL] at h
      rw [← this, he]; exact h1
    · rw [inst_node hn] at he
      have hk : instL σ t.kids = t.kids := by
        have := congrArg T.kids he
        exact this
      rcases has_cases hy with h | h
      · omega
      · obtain ⟨j, hj, h3⟩ := hasL_kid h
        refine ih j hj (hl.kid hj) ?_ y h3
        rw [← gK_instL σ hj, hk]
theorem Canon.fix {S : (Nat → T) → Prop} {σ : Nat → T} (h : Canon S σ) {x y : Nat} (hy : (σ x).has y) : σ y = vT y := inst_fix (h.lv x) (h.gen σ h.sol x) y hy
theorem Canon.unique {S : (Nat → T) → Prop} {σ τ : Nat → T} (h : Canon S σ) (k : Canon S τ) : σ = τ := by
  have free : ∀ y, σ y = vT y → τ y = vT y := fun y hy => by
    have h1 := k.gen σ h.sol y
    have hn : (τ y).head < 0 := by
      refine Classical.byContradiction fun hn => ?_
      rw [inst_node hn, hy] at h1
      have := congrArg T.head h1
      rw [vT_head] at this
      have h2 : (τ y).head = -(y : Int) - 1 := this
      omega
    have h2 := (k.lv y).leaf hn
    rw [inst_var hn] at h1
    have h3 := h.low (vI (τ y)) y (by rw [h1]; exact hy)
    have h4 := k.low y (vI (τ y)) h2
    rw [h2]
    congr 1; omega
  funext x
  have h1 := h.gen τ k.sol x
  rw [← h1, inst_congr (σ := τ) (τ := vT) (σ x) (fun y hy => free y (h.fix hy))]
  -- nothing turns
  have key : ∀ t : T, LV t → t.inst vT = t := fun t => by
    induction t using T.ind with
    | h t ih =>
      intro hl
      by_cases hn : t.head < 0
      · rw [inst_var hn, ← hl.leaf hn]
      · rw [inst_node hn]
        conv => rhs; rw [← T.node_eta t]
        congr 1
        have key : ∀ l : List T, (∀ i, i < l.length → (gK l i).inst vT = gK l i) → instL vT l = l := by
          intro l
          induction l with
          | nil => intro _; rfl
          | cons x r ihl =>
            intro h
            have h0 : x.inst vT = x := h 0 (by simp)
            simp only [instL]
            rw [h0, ihl (fun i hi => h (i + 1) (by simpa using hi))]
        exact key t.kids (fun i hi => ih i hi (hl.kid hi))
  exact (key _ (h.lv x)).symm
theorem sigN'_lv {M : PM} : ∀ n x, LV (sigN' M n x)
  | 0, x => LV.vT x
  | n + 1, x => by
    unfold sigN'
    cases hm : M x with
    | none => exact LV.vT x
    | some t => exact LV.inst (sigN'_lv n) t
theorem canon_of {N : Nat} {M : PM} (hg : GoodM N M) (h : Acyc M) : ∃ σ, Canon (Sol M) σ ∧ (∀ x, M x = none ↔ σ x = vT x) := by
  obtain ⟨rank, hr⟩ := h
  obtain ⟨σ, hσ⟩ : ∃ σ : Nat → T, σ = fun x => sigN' M (rank x + 1) x := ⟨_, rfl⟩
  have hsol : Sol M σ := fun x t hm => by
    rw [hσ]
    show sigN' M (rank x + 1) x = _
    unfold sigN'
    rw [hm]
    exact inst_congr t (fun i hi => sigN'_stable hr _ _ i (hr x t i hm hi) (Nat.lt_succ_self _))
  have hfree : ∀ x, M x = none → σ x = vT x := fun x hm => by
    rw [hσ]
    show sigN' M (rank x + 1) x = _
    unfold sigN'
    rw [hm]
  have hlv : ∀ x, LV (σ x) := fun x => by rw [hσ]; exact sigN'_lv _ _
  have hlow : ∀ n x y, x ≤ n → σ x = vT y → y ≤ x ∧ M y = none ∧ (M x ≠ none → y < x) := by
    intro n
    induction n with
    | zero =>
      intro x y hx he
      cases hm : M x with
      | none => have := vT_inj ((hfree x hm).symm.trans he); subst this; exact ⟨Nat.le_refl _, hm, fun h => absurd rfl h⟩
      | some t =>
        have h1 := hsol x t hm
        have hn : t.head < 0 := by
          refine Classical.byContradiction fun hn => ?_
          rw [inst_node hn, he] at h1
          have := congrArg T.head h1
          rw [vT_head] at this
          have h2 : -(y : Int) - 1 = t.head := this
          omega
        have := (hg x t hm).2.2 hn
        omega
    | succ n ih =>
      intro x y hx he
      cases hm : M x with
      | none => have := vT_inj ((hfree x hm).symm.trans he); subst this; exact ⟨Nat.le_refl _, hm, fun h => absurd rfl h⟩
      | some t =>
        have h1 := hsol x t hm
        have hn : t.head < 0 := by
          refine Classical.byContradiction fun hn => ?_
          rw [inst_node hn, he] at h1
          have := congrArg T.head h1
          rw [vT_head] at this
          have h2 : -(y : Int) - 1 = t.head := this
          omega
        have h2 := (hg x t hm).2.2 hn
        rw [inst_var hn, he] at h1
        have h3 := ih (vI t) y (by omega) h1.symm
        exact ⟨by omega, h3.2.1, fun _ => by omega⟩
  refine ⟨σ, ⟨hsol, fun θ hθ x => by rw [hσ]; exact sigN'_gen hθ _ x, hlv, fun x y he => ?_⟩, fun x => ⟨hfree x, fun he => ?_⟩⟩
  · have h1 := hlow x x y (Nat.le_refl _) he
    exact ⟨h1.1, hfree y h1.2.1⟩
  · exact (hlow x x x (Nat.le_refl _) he).2.1
end Go.Proofs.Ytlhnfdjidjgfgaa
