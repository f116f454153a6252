/-
  Plain: schedules, what the search has to answer.
-/
import Derived.Test.YtacaakcpkgipfaaTi1
namespace Go.Proofs.Ytacaakcpkgipfaa
set_option linter.unusedVariables false
set_option maxHeartbeats 400000

def Rival (x y : Jb) : Prop := x.mach = y.mach ∧ 0 < x.long ∧ 0 < y.long
instance (x y : Jb) : Decidable (Rival x y) := by unfold Rival; infer_instance
def gJ (js : List Jb) (i : Nat) : Jb := js.getD i ⟨0, 0, 0⟩
theorem gJ_get {js : List Jb} {i : Nat} (h : i < js.length) : gJ js i = js[i] := by simp [gJ, List.getD_eq_getElem?_getD, h]
def Clash (js : List Jb) (s : List Int) (i k : Nat) : Prop := Rival (gJ js i) (gJ js k) ∧ gT s k < gT s i + (gJ js i).long ∧ gT s i < gT s k + (gJ js k).long
instance (js : List Jb) (s : List Int) (i k : Nat) : Decidable (Clash js s i k) := by unfold Clash; infer_instance
def froms (js : List Jb) : List Int := js.map (·.from_)
def Valid (js : List Jb) (ws : List Wt) (s : List Int) : Prop := Feas (froms js) ws s ∧ ∀ i k, k < i → i < js.length → ¬ Clash js s i k
/-- the end of the last job -/
def spanL (js : List Jb) (s : List Int) : Nat → Int
  | 0 => 0
  | n + 1 => max (spanL js s n) (gT s n + (gJ js n).long)
def span (js : List Jb) (s : List Int) : Int := spanL js s js.length
theorem spanL_le {js : List Jb} {s t : List Int} : ∀ {n : Nat}, (∀ i, i < n → gT s i ≤ gT t i) → spanL js s n ≤ spanL js t n
  | 0, _ => Int.le_refl _
  | n + 1, h => by
    have h1 := spanL_le (js := js) (n := n) (fun i hi => h i (by omega))
    have h2 := h n (by omega)
    simp only [spanL]
    omega
/-- what a search over ws makes of what has been found -/
def SRel (js : List Jb) (ws : List Wt) (f : Bool) (l : Int) (S : List Int) (f' : Bool) (l' : Int) (S' : List Int) : Prop :=
  (f = true → f' = true ∧ l' ≤ l) ∧ (∀ s, Valid js ws s → f' = true ∧ l' ≤ span js s) ∧ ((f' = f ∧ l' = l ∧ S' = S) ∨ (f' = true ∧ Valid js ws S' ∧ l' = span js S'))
theorem SRel.none {js : List Jb} {ws : List Wt} {f : Bool} {l : Int} {S : List Int} (h : ∀ s, ¬ Feas (froms js) ws s) : SRel js ws f l S f l S :=
  ⟨fun h => ⟨h, Int.le_refl _⟩, fun s hs => absurd hs.1 (h s), .inl ⟨rfl, rfl, rfl⟩⟩
theorem SRel.worse {js : List Jb} {ws : List Wt} {f : Bool} {l : Int} {S r : List Int} (hf : f = true) (h : ∀ s, Feas (froms js) ws s → ∀ i, i < js.length → gT r i ≤ gT s i) (hl : l ≤ span js r) : SRel js ws f l S f l S :=
  ⟨fun h => ⟨h, Int.le_refl _⟩, fun s hs => ⟨hf, Int.le_trans hl (spanL_le (h s hs.1))⟩, .inl ⟨rfl, rfl, rfl⟩⟩
theorem SRel.best {js : List Jb} {ws : List Wt} {f : Bool} {l : Int} {S r : List Int} (hv : Valid js ws r) (h : ∀ s, Feas (froms js) ws s → ∀ i, i < js.length → gT r i ≤ gT s i) (hl : f = true → span js r < l) : SRel js ws f l S true (span js r) r :=
  ⟨fun h => ⟨rfl, by have := hl h; omega⟩, fun s hs => ⟨rfl, spanL_le (h s hs.1)⟩, .inr ⟨rfl, hv, rfl⟩⟩
theorem Valid.of_more {js : List Jb} {ws : List Wt} {w : Wt} {s : List Int} (h : Valid js (ws ++ [w]) s) : Valid js ws s :=
  ⟨⟨h.1.1, h.1.2.1, fun v hv => h.1.2.2 v (List.mem_append_left _ hv)⟩, h.2⟩
theorem Valid.more {js : List Jb} {ws : List Wt} {w : Wt} {s : List Int} (h : Valid js ws s) (hw : gT s w.a + w.by_ ≤ gT s w.b) : Valid js (ws ++ [w]) s :=
  ⟨⟨h.1.1, h.1.2.1, fun v hv => by
    rcases List.mem_append.1 hv with hv | hv
    · exact h.1.2.2 v hv
    · simp at hv; rw [hv]; exact hw⟩, h.2⟩
/-- both orders of two jobs that overlap -/
theorem SRel.both {js : List Jb} {ws : List Wt} {i k : Nat} {f f1 f2 : Bool} {l l1 l2 : Int} {S S1 S2 r : List Int} (hki : k < i) (hi : i < js.length) (hr : Rival (gJ js i) (gJ js k))
    (h1 : SRel js (ws ++ [⟨k, i, (gJ js k).long⟩]) f l S f1 l1 S1) (h2 : SRel js (ws ++ [⟨i, k, (gJ js i).long⟩]) f1 l1 S1 f2 l2 S2) : SRel js ws f l S f2 l2 S2 := by
  refine ⟨fun h => ?_, fun s hs => ?_, ?_⟩
  · obtain ⟨a, b⟩ := h1.1 h
    obtain ⟨c, d⟩ := h2.1 a
    exact ⟨c, by omega⟩
  · have h3 := hs.2 i k hki hi
    by_cases h4 : gT s k + (gJ js k).long ≤ gT s i
    · obtain ⟨a, b⟩ := h1.2.1 s (hs.more h4)
      obtain ⟨c, d⟩ := h2.1 a
      exact ⟨c, by omega⟩
    · have h5 : gT s i + (gJ js i).long ≤ gT s k := Classical.byContradiction fun h6 => h3 ⟨hr, by omega, by omega⟩
      exact h2.2.1 s (hs.more h5)
  · rcases h2.2.2 with ⟨a, b, c⟩ | ⟨a, b, c⟩
    · subst a b c
      rcases h1.2.2 with ⟨a, b, c⟩ | ⟨a, b, c⟩
      · exact .inl ⟨a, b, c⟩
      · exact .inr ⟨a, b.of_more, c⟩
    · exact .inr ⟨a, b.of_more, c⟩

/-- two jobs have an order by the waits -/
def Ordered (js : List Jb) (ws : List Wt) (i k : Nat) : Prop := ∃ w ∈ ws, (w.a = k ∧ w.b = i ∧ w.by_ = (gJ js k).long) ∨ (w.a = i ∧ w.b = k ∧ w.by_ = (gJ js i).long)
noncomputable instance (js : List Jb) (ws : List Wt) (i k : Nat) : Decidable (Ordered js ws i k) := Classical.propDecidable _
theorem Ordered.apart {js : List Jb} {ws : List Wt} {i k : Nat} {s : List Int} (h : Ordered js ws i k) (hs : Feas (froms js) ws s) : ¬ Clash js s i k := by
  obtain ⟨w, hw, h1 | h1⟩ := h
  · have h2 := hs.2.2 w hw
    rw [h1.1, h1.2.1, h1.2.2] at h2
    intro h3
    have := h3.2.2
    omega
  · have h2 := hs.2.2 w hw
    rw [h1.1, h1.2.1, h1.2.2] at h2
    intro h3
    have := h3.2.1
    omega
theorem Ordered.more {js : List Jb} {ws : List Wt} {i k : Nat} {w : Wt} (h : Ordered js ws i k) : Ordered js (ws ++ [w]) i k := by
  obtain ⟨v, hv, h1⟩ := h
  exact ⟨v, List.mem_append_left _ hv, h1⟩
/-- how many pairs of the first n jobs have no order yet -/
noncomputable def openR (js : List Jb) (ws : List Wt) (i : Nat) : Nat → Nat
  | 0 => 0
  | k + 1 => openR js ws i k + if Ordered js ws i k then 0 else 1
noncomputable def openN (js : List Jb) (ws : List Wt) : Nat → Nat
  | 0 => 0
  | i + 1 => openN js ws i + openR js ws i i
theorem openR_more {js : List Jb} {ws : List Wt} {w : Wt} {i : Nat} : ∀ {n : Nat}, openR js (ws ++ [w]) i n ≤ openR js ws i n ∧ ((∃ k, k < n ∧ ¬ Ordered js ws i k ∧ Ordered js (ws ++ [w]) i k) → openR js (ws ++ [w]) i n < openR js ws i n)
  | 0 => ⟨Nat.le_refl _, fun ⟨k, hk, _⟩ => by omega⟩
  | n + 1 => by
    obtain ⟨h1, h2⟩ := openR_more (js := js) (ws := ws) (w := w) (i := i) (n := n)
    simp only [openR]
    refine ⟨?_, fun ⟨k, hk, ha, hb⟩ => ?_⟩
    · by_cases e : Ordered js ws i n
      · rw [if_pos e, if_pos e.more]; omega
      · rw [if_neg e]; split <;> omega
    · rcases Nat.lt_succ_iff_lt_or_eq.1 hk with h3 | rfl
      · have h4 := h2 ⟨k, h3, ha, hb⟩
        by_cases e : Ordered js ws i n
        · rw [if_pos e, if_pos e.more]; omega
        · rw [if_neg e]; split <;> omega
      · rw [if_neg ha, if_pos hb]; omega
theorem openN_more {js : List Jb} {ws : List Wt} {w : Wt} : ∀ {n : Nat}, openN js (ws ++ [w]) n ≤ openN js ws n ∧ ((∃ i k, i < n ∧ k < i ∧ ¬ Ordered js ws i k ∧ Ordered js (ws ++ [w]) i k) → openN js (ws ++ [w]) n < openN js ws n)
  | 0 => ⟨Nat.le_refl _, fun ⟨i, k, hi, _⟩ => by omega⟩
  | n + 1 => by
    obtain ⟨h1, h2⟩ := openN_more (js := js) (ws := ws) (w := w) (n := n)
    obtain ⟨h3, h4⟩ := openR_more (js := js) (ws := ws) (w := w) (i := n) (n := n)
    simp only [openN]
    refine ⟨by omega, fun ⟨i, k, hi, hk, ha, hb⟩ => ?_⟩
    rcases Nat.lt_succ_iff_lt_or_eq.1 hi with h5 | rfl
    · have := h2 ⟨i, k, h5, hk, ha, hb⟩; omega
    · have := h4 ⟨k, hk, ha, hb⟩; omega
theorem openR_le {js : List Jb} {ws : List Wt} {i : Nat} : ∀ {n : Nat}, openR js ws i n ≤ n
  | 0 => Nat.le_refl _
  | n + 1 => by have := openR_le (js := js) (ws := ws) (i := i) (n := n); rw [openR]; split <;> omega
theorem openN_le {js : List Jb} {ws : List Wt} : ∀ {n : Nat}, openN js ws n ≤ n * n
  | 0 => Nat.le_refl _
  | n + 1 => by
    have h1 := openN_le (js := js) (ws := ws) (n := n)
    have h2 := openR_le (js := js) (ws := ws) (i := n) (n := n)
    rw [openN]
    have h3 : (n + 1) * (n + 1) = n * n + n + n + 1 := by rw [Nat.add_mul, Nat.mul_add]; omega
    omega
/-- what overlaps in starts that keep the waits has no order yet -/
theorem open_less {js : List Jb} {ws : List Wt} {i k : Nat} {s : List Int} (hs : Feas (froms js) ws s) (hki : k < i) (hi : i < js.length) (hc : Clash js s i k) :
    openN js (ws ++ [⟨k, i, (gJ js k).long⟩]) js.length < openN js ws js.length ∧ openN js (ws ++ [⟨i, k, (gJ js i).long⟩]) js.length < openN js ws js.length := by
  have h0 : ¬ Ordered js ws i k := fun h => h.apart hs hc
  exact ⟨openN_more.2 ⟨i, k, hi, hki, h0, _, List.mem_append_right _ (List.mem_singleton.2 rfl), .inl ⟨rfl, rfl, rfl⟩⟩, openN_more.2 ⟨i, k, hi, hki, h0, _, List.mem_append_right _ (List.mem_singleton.2 rfl), .inr ⟨rfl, rfl, rfl⟩⟩⟩
end Go.Proofs.Ytacaakcpkgipfaa
