/-
  Plain: how often a variable stands in a substituted tree.
-/
import Derived.Test.YtcckgfgobakphaaP2
import Derived.Test.YtcckgfgobakphaaT24
namespace Go.Proofs.Ytcckgfgobakphaa
open Go.RowKit Go.Shelf
set_option linter.unusedVariables false

def bsum (f : Nat → Nat) (bs : List T) (h : Int) : Nat → Nat
  | 0 => 0
  | i + 1 => bsum f bs h i + if boundB bs i = true then f i * (gK bs i).times h else 0
theorem bsum_zero (bs : List T) (h : Int) : ∀ n, bsum (fun _ => 0) bs h n = 0
  | 0 => rfl
  | n + 1 => by rw [bsum, bsum_zero bs h n]; simp
theorem bsum_add (f g : Nat → Nat) (bs : List T) (h : Int) : ∀ n, bsum (fun i => f i + g i) bs h n = bsum f bs h n + bsum g bs h n
  | 0 => rfl
  | n + 1 => by
    rw [bsum, bsum, bsum, bsum_add f g bs h n]
    split
    · rw [Nat.add_mul]; omega
    · omega
theorem bsum_congr {f g : Nat → Nat} {bs : List T} {h : Int} : ∀ {n : Nat}, (∀ i, i < n → f i = g i) → bsum f bs h n = bsum g bs h n
  | 0, _ => rfl
  | n + 1, he => by rw [bsum, bsum, bsum_congr (n := n) (fun i hi => he i (by omega)), he n (by omega)]
theorem bsum_more {f : Nat → Nat} {bs : List T} {h : Int} {n : Nat} : ∀ {m : Nat}, n ≤ m → (∀ i, n ≤ i → i < m → boundB bs i = true → f i = 0) → bsum f bs h m = bsum f bs h n
  | 0, hm, _ => by obtain rfl : n = 0 := by omega
                   rfl
  | m + 1, hm, hz => by
    by_cases e : n = m + 1
    · rw [e]
    · rw [bsum, bsum_more (m := m) (by omega) (fun i h1 h2 h3 => hz i h1 (by omega) h3)]
      split
      · rename_i hb; rw [hz m (by omega) (by omega) hb]; omega
      · omega
theorem bsum_one (bs : List T) (h : Int) (j : Nat) : ∀ n, bsum (fun i => if i = j then 1 else 0) bs h n = if j < n ∧ boundB bs j = true then (gK bs j).times h else 0
  | 0 => by simp [bsum]
  | n + 1 => by
    rw [bsum, bsum_one bs h j n]
    by_cases e : n = j
    · subst e
      rw [if_neg (by omega)]
      by_cases hb : boundB bs n = true
      · simp [hb]
      · simp [hb]
    · have hz : (if boundB bs n = true then (if n = j then 1 else 0) * (gK bs n).times h else 0) = 0 := by rw [if_neg e]; simp
      rw [hz]
      by_cases hb : boundB bs j = true
      · by_cases hl : j < n
        · rw [if_pos ⟨hl, hb⟩, if_pos ⟨Nat.lt_succ_of_lt hl, hb⟩, Nat.add_zero]
        · rw [if_neg (fun h => hl h.1), if_neg (fun h => absurd h.1 (by omega))]
      · rw [if_neg (fun h => hb h.2), if_neg (fun h => hb h.2)]
theorem times_leaf (h x : Int) : (T.node h []).times x = if h = x then 1 else 0 := by rw [T.times]; simp [timesL]
theorem bound_lt {bs : List T} {k : Nat} (h : boundB bs k = true) : k < bs.length := by
  simp only [boundB, Bool.and_eq_true, decide_eq_true_eq] at h; exact h.1
theorem timesL_node {x : Int} {t : T} (h : t.head ≠ x) : t.times x = timesL x t.kids := by rw [T.times_eq, if_neg h]; omega
theorem times_sub (bs : List T) (k n : Nat) (hn : bs.length ≤ n) (t : T) (h : ∀ x ∈ t.pre, okN x) :
    (t.sub bs).times (-(k : Int) - 1) = (if boundB bs k = true then 0 else t.times (-(k : Int) - 1)) + bsum (fun i => t.times (-(i : Int) - 1)) bs (-(k : Int) - 1) n := by
  induction t using T.ind with
  | h t ih =>
    by_cases hneg : t.head < 0
    · obtain ⟨j, hj⟩ : ∃ j : Nat, t.head = -(j : Int) - 1 := ⟨(-t.head - 1).toNat, by omega⟩
      have hv := var_leaf h hneg
      have hjt : (-t.head - 1).toNat = j := by omega
      have hone : ∀ i : Nat, t.times (-(i : Int) - 1) = if i = j then 1 else 0 := fun i => by
        rw [hv, times_leaf]
        by_cases e : i = j
        · rw [if_pos e, if_pos (by omega)]
        · rw [if_neg e, if_neg (by omega)]
      rw [bsum_congr (g := fun i => if i = j then 1 else 0) (fun i _ => hone i), bsum_one, hone, sub_stand t bs h hneg, hjt]
      unfold standF
      by_cases hb : boundB bs j = true
      · rw [if_pos hb, if_pos (show j < n ∧ boundB bs j = true from ⟨Nat.lt_of_lt_of_le (bound_lt hb) hn, hb⟩)]
        by_cases e : k = j
        · subst e; rw [if_pos hb]; omega
        · rw [if_neg e]; split <;> omega
      · rw [if_neg hb, if_neg (show ¬ (j < n ∧ boundB bs j = true) from fun h => hb h.2), times_leaf]
        by_cases e : k = j
        · subst e; rw [if_neg hb, if_pos rfl, if_pos rfl]
        · rw [if_neg (by omega), if_neg e]; split <;> rfl
    · rw [T.sub_pos hneg, timesL_node (t := t) (by omega), bsum_congr (g := fun i => timesL (-(i : Int) - 1) t.kids) (fun i _ => timesL_node (by omega)),
        timesL_node (t := .node t.head (t.kids.map (T.sub bs))) (by show t.head ≠ _; omega)]
      show timesL _ (t.kids.map (T.sub bs)) = _
      have key : ∀ l : List T, (∀ i, i < l.length → ((gK l i).sub bs).times (-(k : Int) - 1) = (if boundB bs k = true then 0 else (gK l i).times (-(k : Int) - 1)) + bsum (fun i' => (gK l i).times (-(i' : Int) - 1)) bs (-(k : Int) - 1) n) →
          timesL (-(k : Int) - 1) (l.map (T.sub bs)) = (if boundB bs k = true then 0 else timesL (-(k : Int) - 1) l) + bsum (fun i => timesL (-(i : Int) - 1) l) bs (-(k : Int) - 1) n := by
        intro l
        induction l with
        | nil => intro _; simp only [List.map_nil, timesL]; rw [bsum_zero]; simp
        | cons x r ihr =>
          intro hh
          have h0 := hh 0 (by simp)
          simp only [gK, List.getD_cons_zero] at h0
          have h1 := ihr (fun i hi => by have := hh (i + 1) (by simpa using hi); simpa only [gK, List.getD_cons_succ] using this)
          simp only [List.map_cons, timesL]
          rw [h0, h1, bsum_add]
          split <;> omega
      exact key t.kids (fun i hi => ih i hi (kids_pre h hi))
theorem times_most {t : T} {i : Nat} (h : t.most.toNat ≤ i) : t.times (-(i : Int) - 1) = 0 := by
  rw [← cntV_pre]
  have key : ∀ l : List T, (∀ x ∈ l, -x.head ≤ (i : Int)) → cntV (-(i : Int) - 1) l = 0 := by
    intro l
    induction l with
    | nil => intro _; rfl
    | cons x r ih => intro hh; rw [cntV, ih (fun y hy => hh y (List.mem_cons_of_mem _ hy)), if_neg (by have := hh x (by simp); omega)]
  exact key _ (fun x hx => by have := head_le_most t x hx; omega)
theorem sub_same {bs : List T} (t : T) (h : ∀ x ∈ t.pre, okN x) (hn : ∀ k : Nat, 0 < t.times (-(k : Int) - 1) → boundB bs k = false) : t.sub bs = t := by
  induction t using T.ind with
  | h t ih =>
    by_cases hneg : t.head < 0
    · have hb := hn (-t.head - 1).toNat (by rw [T.times_eq, if_pos (by omega)]; omega)
      exact T.sub_free hneg hb
    · rw [T.sub_pos hneg]
      have : t.kids.map (T.sub bs) = t.kids := by
        apply List.ext_getElem (by simp)
        intro i h1 h2
        have := ih i h2 (kids_pre h h2) (fun k hk => hn k (by
          rw [T.times_eq]
          have h3 : (gK t.kids i).times (-(k : Int) - 1) ≤ timesL (-(k : Int) - 1) t.kids := by
            have key : ∀ (l : List T) (i : Nat), i < l.length → (gK l i).times (-(k : Int) - 1) ≤ timesL (-(k : Int) - 1) l := by
              intro l
              induction l with
              | nil => intro i hi; simp at hi
              | cons x r ihr =>
                intro i hi
                rw [timesL]
                cases i with
                | zero => simp only [gK, List.getD_cons_zero]; omega
                | succ i => have := ihr i (by simpa using hi); simp only [gK, List.getD_cons_succ] at this ⊢; omega
            exact key _ _ h2
          omega))
        rw [gK_get h2] at this
        simpa using this
      rw [this, T.node_eta]
end Go.Proofs.Ytcckgfgobakphaa
