/-
  Plain: unification by taking out one variable after the other: never more than so many pairs wait.
-/
import Derived.Test.YtlhnfdjidjgfgaaMg2
namespace Go.Proofs.Ytlhnfdjidjgfgaa
open Go.RowKit Go.Shelf
set_option linter.unusedVariables false
set_option maxHeartbeats 400000

/-- the pairs that wait, in levels; the tree above each level -/
inductive Stk : List (T × T) → List T → Prop
  | base {l : List (T × T)} : l.length ≤ 1 → Stk l []
  | push {l ks : List (T × T)} {P : T} {ps : List T} : Stk l ps → ks.length ≤ 3 → (∀ e ∈ ks, e.1 ∈ preL P.kids) → (∀ R r, ps = R :: r → P ∈ preL R.kids) → Stk (l ++ ks) (P :: ps)
theorem Stk.length {l : List (T × T)} {ps : List T} (h : Stk l ps) : l.length ≤ 1 + 3 * ps.length := by
  induction h with
  | base h => simpa using h
  | push _ h2 _ _ ih => simp only [List.length_append, List.length_cons]; omega
theorem Stk.pop {e : T × T} : ∀ {ps : List T} {l m : List (T × T)}, Stk m ps → m = l ++ [e] → ∃ ps', Stk l ps' ∧ (∀ R r, ps' = R :: r → e.1 ∈ preL R.kids) ∧ ∀ P ∈ ps', P ∈ ps := by
  intro ps
  induction ps with
  | nil =>
    intro l m h he
    cases h with
    | base h =>
      rw [he] at h
      simp only [List.length_append, List.length_singleton] at h
      exact ⟨[], .base (by omega), (fun R r h => by cases h), fun P h => h⟩
  | cons P ps ih =>
    intro l m h he
    cases h with
    | push h1 h2 h3 h4 =>
      rename_i l1 ks
      by_cases hk : ks = []
      · subst hk
        rw [List.append_nil] at he
        obtain ⟨ps', g1, g2, g3⟩ := ih h1 he
        exact ⟨ps', g1, g2, fun P h => List.mem_cons_of_mem _ (g3 P h)⟩
      · obtain ⟨ks', e', rfl⟩ : ∃ k' e', ks = k' ++ [e'] := ⟨ks.dropLast, ks.getLast hk, (List.dropLast_concat_getLast hk).symm⟩
        rw [← List.append_assoc] at he
        obtain ⟨rfl, h5⟩ := List.append_inj' he rfl
        simp at h5; subst h5
        simp only [List.length_append, List.length_singleton] at h2
        exact ⟨P :: ps, .push h1 (by omega) (fun x hx => h3 x (by simp [hx])) h4, (fun R r h => by obtain ⟨rfl, rfl⟩ := List.cons.inj h; exact h3 _ (by simp)), fun P h => h⟩
theorem preL_inst {σ : Nat → T} {z : T} : ∀ {l : List T}, (∀ i, i < l.length → LV (gK l i)) → z ∈ preL l → z.inst σ ∈ preL (instL σ l) := by
  have key : ∀ t : T, LV t → z ∈ t.pre → z.inst σ ∈ (t.inst σ).pre := fun t => by
    induction t using T.ind with
    | h t ih =>
      intro hl hz
      rw [T.pre_eq] at hz
      rcases List.mem_cons.1 hz with rfl | hz
      · exact self_pre _
      · obtain ⟨i, hi, h2⟩ := mem_preL hz
        by_cases hn : t.head < 0
        · rw [hl t (self_pre t) hn] at hi; simp at hi
        · have := ih i hi (hl.kid hi) h2
          rw [inst_node hn, T.pre_eq]
          refine List.mem_cons_of_mem _ ?_
          refine kid_pre_mem (l := instL σ t.kids) (i := i) (by rw [instL_length]; exact hi) ?_
          rw [gK_instL σ hi]; exact this
  intro l hl hz
  obtain ⟨i, hi, h2⟩ := mem_preL hz
  refine kid_pre_mem (l := instL σ l) (i := i) (by rw [instL_length]; exact hi) ?_
  rw [gK_instL σ hi]; exact key _ (hl i hi) h2
theorem kids_inst {σ : Nat → T} {P z : T} (hl : LV P) (hn : ¬ P.head < 0) (hz : z ∈ preL P.kids) : z.inst σ ∈ preL (P.inst σ).kids := by
  rw [inst_node hn]
  exact preL_inst (fun i hi => hl.kid hi) hz
theorem Stk.map {σ : Nat → T} {l : List (T × T)} {ps : List T} (h : Stk l ps) (hp : ∀ P ∈ ps, LV P ∧ ¬ P.head < 0) : Stk (l.map fun e => (e.1.inst σ, e.2.inst σ)) (ps.map (T.inst σ)) := by
  induction h with
  | base h => exact .base (by simpa using h)
  | push h1 h2 h3 h4 ih =>
    rename_i l ks P ps
    rw [List.map_append, List.map_cons]
    have hP := hp P (by simp)
    refine .push (ih (fun R hR => hp R (by simp [hR]))) (by simpa using h2) (fun e he => ?_) (fun R r he => ?_)
    · obtain ⟨e0, he0, rfl⟩ := List.mem_map.1 he
      exact kids_inst hP.1 hP.2 (h3 e0 he0)
    · cases ps with
      | nil => cases he
      | cons R0 r0 =>
        simp only [List.map_cons, List.cons.injEq] at he
        obtain ⟨rfl, _⟩ := he
        have hR := hp R0 (by simp)
        exact kids_inst hR.1 hR.2 (h4 R0 r0 rfl)
theorem sub_size {t : T} : ∀ {z : T}, z ∈ t.pre → z.size ≤ t.size := by
  induction t using T.ind with
  | h t ih =>
    intro z hz
    rw [T.pre_eq] at hz
    rcases List.mem_cons.1 hz with rfl | hz
    · exact Nat.le_refl _
    · obtain ⟨i, hi, h2⟩ := mem_preL hz
      have h3 := ih i hi h2
      have h4 := size_kid_lt hi
      omega
theorem preL_size {z : T} {l : List T} (hz : z ∈ preL l) : z.size ≤ sizeL l := by
  obtain ⟨i, hi, h2⟩ := mem_preL hz
  have h3 := kid_size hi
  have h4 := sub_size h2
  omega
theorem Stk.sizes {l : List (T × T)} {ps : List T} (h : Stk l ps) : ps.Pairwise fun a b => a.size < b.size := by
  induction h with
  | base h => exact .nil
  | push h1 h2 h3 h4 ih =>
    rename_i l ks P ps
    refine List.pairwise_cons.2 ⟨fun R hR => ?_, ih⟩
    cases ps with
    | nil => cases hR
    | cons R0 r0 =>
      have h5 := preL_size (h4 R0 r0 rfl)
      have h6 := R0.size_eq
      rcases List.mem_cons.1 hR with rfl | hR
      · omega
      · have := (List.pairwise_cons.1 ih).1 R hR
        omega
theorem pw_count {f : T → Nat} {Q : List T} : ∀ {ps : List T} {m M : Nat}, (ps.Pairwise fun a b => a.size < b.size) → (∀ P ∈ ps, m < P.size ∧ P.size ≤ M ∧ ∃ q ∈ Q, f q = P.size) → m ≤ M → ps.length + cW f m Q ≤ cW f M Q
  | [], m, M, _, _, h => by simpa using cW_mono h Q
  | P :: ps, m, M, h1, h2, h => by
    obtain ⟨a1, a2, q, a3, a4⟩ := h2 P (by simp)
    have h3 := pw_count (f := f) (Q := Q) (ps := ps) (m := P.size) (M := M) (List.pairwise_cons.1 h1).2 (fun R hR => ⟨(List.pairwise_cons.1 h1).1 R hR, (h2 R (by simp [hR])).2⟩) a2
    have h4 := cW_step (f := f) (k := m) (m := P.size) (q := q) (by omega) (by omega) a3
    simp only [List.length_cons]; omega
/-- the whole state of the run -/
structure MS (N : Nat) (A B : T) (l : List (T × T)) (σ : Nat → T) : Prop where
  mg : MG N A B l σ
  st : ∃ ps, Stk l ps ∧ ∀ P ∈ ps, ¬ P.head < 0 ∧ Tm N (A.pre ++ B.pre) σ P
/-- the trees at the start are small -/
def Sml (A B : T) : Prop := A.size ≤ 40 ∧ B.size ≤ 40 ∧ ∀ q ∈ A.pre ++ B.pre, q.kids.length ≤ 3
theorem MS.length {N : Nat} {A B : T} {l : List (T × T)} {σ : Nat → T} (h : MS N A B l σ) (hs : Sml A B) : l.length ≤ 241 := by
  obtain ⟨ps, h1, h2⟩ := h.st
  have h3 := h1.length
  have h4 := pw_count (f := fun q => (q.inst σ).size) (Q := A.pre ++ B.pre) (ps := ps) (m := 0) (M := 205891132094649) h1.sizes (fun P hP => by
    obtain ⟨h5, h6⟩ := h2 P hP
    obtain ⟨q, hq, h7, h8⟩ := h6.cl P (self_pre P) h5
    refine ⟨P.size_pos, ?_, q, hq, by rw [h8]⟩
    exact cl_bound (f := fun q => (q.inst σ).size) hs.1 hs.2.1 hs.2.2 h6.lv (fun z hz hn => by
      obtain ⟨q, hq, h1, h2⟩ := h6.cl z hz hn
      exact ⟨q, hq, by rw [h2], by rw [h2, inst_node h1]; show q.kids.length = (instL σ q.kids).length; rw [instL_length]⟩)) (by omega)
  have h5 := cW_le (f := fun q : T => (q.inst σ).size) (k := 205891132094649) (A.pre ++ B.pre)
  rw [List.length_append, pre_length, pre_length] at h5
  have := hs.1; have := hs.2.1
  omega
theorem MS.tsize {N : Nat} {A B : T} {l : List (T × T)} {σ : Nat → T} {u : T} (hs : Sml A B) (h6 : Tm N (A.pre ++ B.pre) σ u) : u.size ≤ 205891132094649 :=
  cl_bound (f := fun q => (q.inst σ).size) hs.1 hs.2.1 hs.2.2 h6.lv (fun z hz hn => by
      obtain ⟨q, hq, h1, h2⟩ := h6.cl z hz hn
      exact ⟨q, hq, by rw [h2], by rw [h2, inst_node h1]; show q.kids.length = (instL σ q.kids).length; rw [instL_length]⟩)
theorem Tm.kids3 {N : Nat} {A B : T} {σ : Nat → T} {u : T} (hs : Sml A B) (h6 : Tm N (A.pre ++ B.pre) σ u) : ∀ z ∈ u.pre, z.kids.length ≤ 3 := fun z hz => by
  by_cases hn : z.head < 0
  · rw [h6.lv z hz hn]; simp
  · obtain ⟨q, hq, h1, h2⟩ := h6.cl z hz hn
    rw [h2, inst_node h1]
    show (instL σ q.kids).length ≤ 3
    rw [instL_length]
    exact hs.2.2 q hq
theorem MS.start {N : Nat} {A B : T} (h : MG N A B [(A, B)] vT) : MS N A B [(A, B)] vT := ⟨h, [], .base (by simp), fun P h => by cases h⟩
theorem MS.same {N : Nat} {A B : T} {l : List (T × T)} {a : T} {σ : Nat → T} (h : MS N A B (l ++ [(a, a)]) σ) : MS N A B l σ := by
  obtain ⟨ps, h1, h2⟩ := h.st
  obtain ⟨ps', g1, _, g3⟩ := h1.pop rfl
  exact ⟨h.mg.same, ps', g1, fun P hP => h2 P (g3 P hP)⟩
theorem zip_fst_mem {ks bs : List T} {e : T × T} (h : e ∈ ks.zip bs) : e.1 ∈ preL ks := by
  obtain ⟨i, h1, _, rfl⟩ := mem_zip_gK h
  exact kid_pre_mem h1 (self_pre _)
theorem MS.dec {N : Nat} {A B : T} {l : List (T × T)} {a b : T} {σ : Nat → T} (hs : Sml A B) (ha : ¬ a.head < 0) (hb : ¬ b.head < 0) (he : a.head = b.head) (hk : a.kids.length = b.kids.length) (h : MS N A B (l ++ [(a, b)]) σ) : MS N A B (l ++ a.kids.zip b.kids) σ := by
  obtain ⟨ps, h1, h2⟩ := h.st
  obtain ⟨ps', g1, g2, g3⟩ := h1.pop rfl
  have hab : Tm N (A.pre ++ B.pre) σ a ∧ Tm N (A.pre ++ B.pre) σ b := h.mg.tm (a, b) (by simp)
  refine ⟨h.mg.dec ha hb he hk, a :: ps', .push g1 ?_ (fun e he => zip_fst_mem he) g2, fun P hP => ?_⟩
  · have := hab.1.kids3 hs a (self_pre a)
    simp only [List.length_zip]; omega
  · rcases List.mem_cons.1 hP with rfl | hP
    · exact ⟨ha, hab.1⟩
    · exact h2 P (g3 P hP)
theorem MS.step {N : Nat} {A B : T} {l : List (T × T)} {a b : T} {σ : Nat → T} (hz : NZ A B) (h : MS N A B (l ++ [(a, b)]) σ) (hne : a ≠ b) (hn : ¬ (0 < a.head ∧ 0 < b.head)) (hx : ¬ (pick a b).2.has (vI (pick a b).1)) :
    MS N A B (l.map fun e => (e.1.inst (upd (vI (pick a b).1) (pick a b).2), e.2.inst (upd (vI (pick a b).1) (pick a b).2))) (fun y => (σ y).inst (upd (vI (pick a b).1) (pick a b).2)) := by
  obtain ⟨ps, h1, h2⟩ := h.st
  obtain ⟨ps', g1, _, g3⟩ := h1.pop rfl
  obtain ⟨_, s2, _, s4⟩ := h.mg.step hz hne hn
  refine ⟨s4 hx, ps'.map (T.inst _), g1.map (fun P hP => ⟨(h2 P (g3 P hP)).2.lv, (h2 P (g3 P hP)).1⟩), fun P hP => ?_⟩
  obtain ⟨P0, hP0, rfl⟩ := List.mem_map.1 hP
  obtain ⟨q1, q2⟩ := h2 P0 (g3 P0 hP0)
  exact ⟨by rw [inst_node q1]; exact q1, q2.upd s2 hx⟩
end Go.Proofs.Ytlhnfdjidjgfgaa
