/-
  Plain: unification by taking out one variable after the other: each step, sizes.
-/
import Derived.Test.YtlhnfdjidjgfgaaUn2
namespace Go.Proofs.Ytlhnfdjidjgfgaa
open Go.RowKit Go.Shelf
set_option linter.unusedVariables false
set_option maxHeartbeats 400000

/-- one variable has something in its place -/
def upd (x : Nat) (t : T) (y : Nat) : T := if y = x then t else vT y
theorem upd_self (x : Nat) (t : T) : upd x t x = t := if_pos rfl
theorem upd_other {x y : Nat} (t : T) (h : y ≠ x) : upd x t y = vT y := if_neg h
theorem inst_vT_lv : ∀ t : T, LV t → t.inst vT = t := fun t => by
  induction t using T.ind with
  | h t ih =>
    intro hl
    by_cases hn : t.head < 0
    · rw [inst_var hn, ← hl.leaf hn]
    · rw [inst_node hn]
      conv => rhs; rw [← T.node_eta t]
      congr 1
      have key : ∀ l : List T, (∀ i, i < l.length → (gK l i).inst vT = gK l i) → instL vT l = l := by
        intro l
        induction l with
        | nil => intro _; rfl
        | cons x r ihl =>
          intro h
          have h0 : x.inst vT = x := h 0 (by simp)
          simp only [instL]
          rw [h0, ihl (fun i hi => h (i + 1) (by simpa using hi))]
      exact key t.kids (fun i hi => ih i hi (hl.kid hi))
theorem has_vT {x y : Nat} (h : (vT x).has y) : y = x := by
  rcases has_cases h with h | h
  · rw [vT_head] at h; omega
  · simp [hasL, vT, T.kids, timesL] at h
theorem vT_has (x : Nat) : (vT x).has x := by have := has_var (vT_neg x); rw [show (-(vT x).head - 1).toNat = x from vI_vT x] at this; exact this
theorem has_inst {σ : Nat → T} {t : T} : LV t → ∀ {y : Nat}, (t.inst σ).has y → ∃ z, t.has z ∧ (σ z).has y := by
  induction t using T.ind with
  | h t ih =>
    intro hl y hy
    by_cases hn : t.head < 0
    · rw [inst_var hn] at hy
      exact ⟨vI t, has_var hn, hy⟩
    · rw [inst_node hn] at hy
      rcases has_cases hy with h | h
      · have : t.head = -(y : Int) - 1 := h
        omega
      · obtain ⟨j, hj, h3⟩ := hasL_kid h
        have hj' : j < t.kids.length := by simpa [T.kids, instL_length] using hj
        rw [show (T.node t.head (instL σ t.kids)).kids = instL σ t.kids from rfl, gK_instL σ hj'] at h3
        obtain ⟨z, h1, h2⟩ := ih j hj' (hl.kid hj') h3
        exact ⟨z, has_kid hj' h1, h2⟩
theorem pre_inst {σ : Nat → T} {t : T} : ∀ {z : T}, z ∈ (t.inst σ).pre → (∃ q ∈ t.pre, ¬ q.head < 0 ∧ z = q.inst σ) ∨ ∃ x, t.has x ∧ z ∈ (σ x).pre := by
  induction t using T.ind with
  | h t ih =>
    intro z hz
    by_cases hn : t.head < 0
    · rw [inst_var hn] at hz
      exact .inr ⟨vI t, has_var hn, hz⟩
    · have hz' := hz
      rw [inst_node hn, T.pre_eq] at hz'
      rcases List.mem_cons.1 hz' with h | h
      · exact .inl ⟨t, self_pre t, hn, by rw [inst_node hn]; exact h⟩
      · obtain ⟨i, hi, hx⟩ := mem_preL h
        have hi' : i < t.kids.length := by simpa [T.kids, instL_length] using hi
        rw [show (T.node t.head (instL σ t.kids)).kids = instL σ t.kids from rfl, gK_instL σ hi'] at hx
        rcases ih i hi' hx with ⟨q, h1, h2, h3⟩ | ⟨x, h1, h2⟩
        · exact .inl ⟨q, by rw [T.pre_eq]; exact List.mem_cons_of_mem _ (kid_pre_mem hi' h1), h2, h3⟩
        · exact .inr ⟨x, has_kid hi' h1, h2⟩
theorem pre_trans {t : T} : ∀ {z x : T}, z ∈ t.pre → x ∈ z.pre → x ∈ t.pre := by
  induction t using T.ind with
  | h t ih =>
    intro z x hz hx
    have hz' := hz
    rw [T.pre_eq] at hz'
    rcases List.mem_cons.1 hz' with rfl | h
    · exact hx
    · obtain ⟨i, hi, h2⟩ := mem_preL h
      rw [T.pre_eq]; exact List.mem_cons_of_mem _ (kid_pre_mem hi (ih i hi h2 hx))
theorem LV.sub {t z : T} (h : LV t) (hz : z ∈ t.pre) : LV z := fun x hx hn => h x (pre_trans hz hx) hn
theorem has_sub {t z : T} (hz : z ∈ t.pre) {y : Nat} (h : z.has y) : t.has y := by
  obtain ⟨u, hu, e⟩ := has_pre h
  have h1 := pre_has (pre_trans hz hu) (by omega)
  have : vI u = y := by unfold vI; omega
  rw [this] at h1; exact h1
theorem has_size_lv {t : T} {θ : Nat → T} : LV t → ∀ {y : Nat}, t.has y → (θ y).size ≤ (t.inst θ).size ∧ (¬ t.head < 0 → (θ y).size < (t.inst θ).size) := by
  induction t using T.ind with
  | h t ih =>
    intro hv y hy
    by_cases hn : t.head < 0
    · refine ⟨?_, fun h => absurd hn h⟩
      have h1 := hv.leaf hn
      rw [h1] at hy
      rw [inst_var hn, has_vT hy]; exact Nat.le_refl _
    · have h2 : (θ y).size < (t.inst θ).size := by
        rcases has_cases hy with h | h
        · omega
        · obtain ⟨j, hj, h3⟩ := hasL_kid h
          have h4 := (ih j hj (hv.kid hj) h3).1
          have h5 := inst_size_kid (θ := θ) hn hj
          omega
      exact ⟨by omega, fun _ => h2⟩

/-! sizes -/
def cW (f : T → Nat) (k : Nat) : List T → Nat
  | [] => 0
  | q :: r => (if f q ≤ k then 1 else 0) + cW f k r
def cP (f : T → Nat) (k : Nat) : List T → Nat
  | [] => 1
  | q :: r => (if f q ≤ k then max 1 q.kids.length else 1) * cP f k r
theorem cW_mono {f : T → Nat} {k m : Nat} (h : k ≤ m) : ∀ l, cW f k l ≤ cW f m l
  | [] => Nat.le_refl _
  | q :: r => by
    have := cW_mono (f := f) h r
    simp only [cW]
    by_cases h1 : f q ≤ k
    · rw [if_pos h1, if_pos (by omega)]; omega
    · rw [if_neg h1]; split <;> omega
theorem cP_pos {f : T → Nat} {k : Nat} : ∀ l, 1 ≤ cP f k l
  | [] => Nat.le_refl _
  | q :: r => by
    simp only [cP]
    have := cP_pos (f := f) (k := k) r
    refine Nat.mul_pos ?_ this
    split <;> omega
theorem cP_mono {f : T → Nat} {k m : Nat} (h : k ≤ m) : ∀ l, cP f k l ≤ cP f m l
  | [] => Nat.le_refl _
  | q :: r => by
    simp only [cP]
    refine Nat.mul_le_mul ?_ (cP_mono h r)
    by_cases h1 : f q ≤ k
    · rw [if_pos h1, if_pos (by omega)]; exact Nat.le_refl _
    · rw [if_neg h1]; split <;> omega
theorem cW_step {f : T → Nat} {k m : Nat} {q : T} (h1 : k < f q) (h2 : f q ≤ m) : ∀ {l : List T}, q ∈ l → cW f k l + 1 ≤ cW f m l
  | p :: r, hq => by
    simp only [cW]
    rcases List.mem_cons.1 hq with rfl | hq
    · rw [if_neg (by omega), if_pos h2]
      have := cW_mono (f := f) (k := k) (m := m) (by omega) r
      omega
    · have := cW_step h1 h2 hq
      have h3 : (if f p ≤ k then 1 else 0) ≤ (if f p ≤ m then 1 else 0) := by
        by_cases h4 : f p ≤ k
        · rw [if_pos h4, if_pos (by omega)]; exact Nat.le_refl _
        · rw [if_neg h4]; exact Nat.zero_le _
      omega
theorem cP_step {f : T → Nat} {k m : Nat} {q : T} (h1 : k < f q) (h2 : f q ≤ m) : ∀ {l : List T}, q ∈ l → max 1 q.kids.length * cP f k l ≤ cP f m l
  | p :: r, hq => by
    simp only [cP]
    rcases List.mem_cons.1 hq with rfl | hq
    · rw [if_neg (by omega), if_pos h2, Nat.one_mul]
      exact Nat.mul_le_mul (Nat.le_refl _) (cP_mono (by omega) r)
    · have := cP_step h1 h2 hq
      have h3 : (if f p ≤ k then max 1 p.kids.length else 1) ≤ (if f p ≤ m then max 1 p.kids.length else 1) := by
        by_cases h4 : f p ≤ k
        · rw [if_pos h4, if_pos (by omega)]; exact Nat.le_refl _
        · rw [if_neg h4]; split <;> omega
      calc _ = (if f p ≤ k then max 1 p.kids.length else 1) * (max 1 q.kids.length * cP f k r) := by rw [← Nat.mul_assoc, Nat.mul_comm (max 1 q.kids.length), Nat.mul_assoc]
        _ ≤ _ := Nat.mul_le_mul h3 this
theorem sizeL_le {M : Nat} : ∀ {l : List T}, (∀ i, i < l.length → (gK l i).size ≤ M) → sizeL l ≤ l.length * M
  | [], _ => by simp [sizeL]
  | x :: r, h => by
    have h0 : x.size ≤ M := h 0 (by simp)
    have := sizeL_le (l := r) (fun i hi => h (i + 1) (by simpa using hi))
    simp only [sizeL, List.length_cons, Nat.add_mul, Nat.one_mul]
    omega
theorem cl_size {f : T → Nat} {Q : List T} {u : T} : LV u → (∀ z ∈ u.pre, ¬ z.head < 0 → ∃ q ∈ Q, f q = z.size ∧ q.kids.length = z.kids.length) → u.size ≤ (cW f u.size Q + 1) * cP f u.size Q := by
  induction u using T.ind with
  | h u ih =>
    intro hl hc
    by_cases hn : u.head < 0
    · have h1 : u.size = 1 := by rw [T.size_eq, hl u (self_pre u) hn]; rfl
      have h2 := cP_pos (f := f) (k := u.size) Q
      have h3 : 1 * 1 ≤ (cW f u.size Q + 1) * cP f u.size Q := Nat.mul_le_mul (by omega) h2
      omega
    · obtain ⟨q, hq, h1, h2⟩ := hc u (self_pre u) hn
      have hpos := u.size_pos
      have hk : ∀ i, i < u.kids.length → (gK u.kids i).size ≤ (cW f (u.size - 1) Q + 1) * cP f (u.size - 1) Q := fun i hi => by
        have h3 := ih i hi (hl.kid hi) (fun z hz => hc z (by rw [T.pre_eq]; exact List.mem_cons_of_mem _ (kid_pre_mem hi hz)))
        have h4 := size_kid_lt hi
        refine Nat.le_trans h3 (Nat.mul_le_mul ?_ (cP_mono (by omega) Q))
        have := cW_mono (f := f) (show (gK u.kids i).size ≤ u.size - 1 by omega) Q
        omega
      have h3 := sizeL_le hk
      have h4 := cW_step (f := f) (k := u.size - 1) (m := u.size) (q := q) (by omega) (by omega) hq
      have h5 := cP_step (f := f) (k := u.size - 1) (m := u.size) (q := q) (by omega) (by omega) hq
      rw [h2] at h5
      obtain ⟨W, hW⟩ : ∃ W, W = cW f (u.size - 1) Q := ⟨_, rfl⟩
      obtain ⟨P, hP⟩ : ∃ P, P = cP f (u.size - 1) Q := ⟨_, rfl⟩
      rw [← hW, ← hP] at h3
      rw [← hW] at h4
      rw [← hP] at h5
      have hP1 : 1 ≤ P := hP ▸ cP_pos Q
      have h6 : (W + 2) * (max 1 u.kids.length * P) ≤ (cW f u.size Q + 1) * cP f u.size Q := Nat.mul_le_mul (by omega) h5
      have h7 : u.kids.length * ((W + 1) * P) ≤ (W + 1) * (max 1 u.kids.length * P) := by
        calc _ = (W + 1) * (u.kids.length * P) := by rw [← Nat.mul_assoc, Nat.mul_comm u.kids.length, Nat.mul_assoc]
          _ ≤ _ := Nat.mul_le_mul (Nat.le_refl _) (Nat.mul_le_mul (by omega) (Nat.le_refl _))
      have h8 : 1 ≤ max 1 u.kids.length * P := Nat.mul_pos (by omega) hP1
      have h9 : (W + 2) * (max 1 u.kids.length * P) = (W + 1) * (max 1 u.kids.length * P) + max 1 u.kids.length * P := by rw [Nat.add_mul, Nat.add_mul]; omega
      rw [T.size_eq u]
      rw [T.size_eq u] at h6
      omega
def sumA : List T → Nat
  | [] => 0
  | q :: r => q.kids.length + sumA r
theorem sumA_append : ∀ a b, sumA (a ++ b) = sumA a + sumA b
  | [], b => by simp [sumA]
  | q :: r, b => by simp only [List.cons_append, sumA, sumA_append r b]; omega
theorem sumA_pre (t : T) : sumA t.pre + 1 = t.size := by
  induction t using T.ind with
  | h t ih =>
    have key : ∀ l : List T, (∀ i, i < l.length → sumA (gK l i).pre + 1 = (gK l i).size) → sumA (preL l) + l.length = sizeL l := by
      intro l
      induction l with
      | nil => intro _; rfl
      | cons x r ihl =>
        intro h
        have h0 : sumA x.pre + 1 = x.size := h 0 (by simp)
        have := ihl (fun i hi => h (i + 1) (by simpa using hi))
        simp only [preL, sumA_append, sizeL, List.length_cons]
        omega
    have := key t.kids ih
    rw [T.pre_eq, T.size_eq, sumA]; omega
theorem cW_le {f : T → Nat} {k : Nat} : ∀ l, cW f k l ≤ l.length
  | [] => Nat.le_refl _
  | q :: r => by have := cW_le (f := f) (k := k) r; simp only [cW, List.length_cons]; split <;> omega
theorem cP_le {f : T → Nat} {k : Nat} : ∀ l : List T, (∀ q ∈ l, q.kids.length ≤ 3) → cP f k l ^ 3 ≤ 3 ^ sumA l
  | [], _ => by simp [cP, sumA]
  | q :: r, h => by
    have h1 := cP_le (f := f) (k := k) r (fun p hp => h p (List.mem_cons_of_mem _ hp))
    have h2 := h q (by simp)
    simp only [cP, sumA]
    rw [Nat.mul_pow, Nat.pow_add]
    refine Nat.mul_le_mul ?_ h1
    split
    · rcases (by omega : q.kids.length = 0 ∨ q.kids.length = 1 ∨ q.kids.length = 2 ∨ q.kids.length = 3) with h | h | h | h <;> rw [h] <;> decide
    · rw [Nat.one_pow]; exact Nat.pos_of_ne_zero (by simp)
theorem cl_bound {f : T → Nat} {A B u : T} (hA : A.size ≤ 40) (hB : B.size ≤ 40) (hk : ∀ q ∈ A.pre ++ B.pre, q.kids.length ≤ 3) (hl : LV u)
    (hc : ∀ z ∈ u.pre, ¬ z.head < 0 → ∃ q ∈ A.pre ++ B.pre, f q = z.size ∧ q.kids.length = z.kids.length) : u.size ≤ 205891132094649 := by
  have h1 := cl_size hl hc
  have h2 := cW_le (f := f) (k := u.size) (A.pre ++ B.pre)
  have h3 := cP_le (f := f) (k := u.size) (A.pre ++ B.pre) hk
  rw [List.length_append, pre_length, pre_length] at h2
  rw [sumA_append] at h3
  have h4 := sumA_pre A; have h5 := sumA_pre B
  have h6 : cP f u.size (A.pre ++ B.pre) ≤ 3 ^ 26 := by
    refine Classical.byContradiction fun hn => ?_
    have h7 : (3 ^ 26 + 1) ^ 3 ≤ cP f u.size (A.pre ++ B.pre) ^ 3 := Nat.pow_le_pow_left (by omega) 3
    have h8 : 3 ^ (sumA A.pre + sumA B.pre) ≤ 3 ^ 78 := Nat.pow_le_pow_right (by decide) (by omega)
    have h9 : (3 ^ 26 + 1) ^ 3 ≤ 3 ^ 78 := Nat.le_trans h7 (Nat.le_trans h3 h8)
    exact absurd h9 (by decide)
  have h7 : (cW f u.size (A.pre ++ B.pre) + 1) * cP f u.size (A.pre ++ B.pre) ≤ 81 * 3 ^ 26 := Nat.mul_le_mul (by omega) h6
  have h8 : (81 * 3 ^ 26 : Nat) = 205891132094649 := by decide
  omega
end Go.Proofs.Ytlhnfdjidjgfgaa
