/-
  Plain: how classes are made, step by step.
-/
import Derived.Test.YtcckgfgobakphabBase
import Derived.Test.YtcckgfgobakphabW4
namespace Go.Proofs.Ytcckgfgobakphab
set_option linter.unusedVariables false

/-- kids i of two terms are of one class -/
def kidEq (cl : List Nat) (a b : Tm) (i : Nat) : Bool := gN cl (gI a.kids i).toNat == gN cl (gI b.kids i).toNat
def kidsEq (cl : List Nat) (a b : Tm) : Bool := allB (kidEq cl a b) a.kids.length
def alikeN (cl : List Nat) (a b : Tm) : Bool := a.head == b.head && (a.kids.length == b.kids.length && kidsEq cl a b)

def stepP (ts : List Tm) (st : List Nat × Bool) (i k : Nat) : List Nat × Bool :=
  if (gN st.1 i != gN st.1 k) && alikeN st.1 (gT ts i) (gT ts k) then (merge st.1 i k, true) else st
def innerTo (ts : List Tm) (i : Nat) (st : List Nat × Bool) : Nat → List Nat × Bool
  | 0 => st
  | k + 1 => stepP ts (innerTo ts i st k) i k
def outerTo (ts : List Tm) (st : List Nat × Bool) : Nat → List Nat × Bool
  | 0 => st
  | i + 1 => innerTo ts i (outerTo ts st i) i
def roundOf (ts : List Tm) (cl : List Nat) : List Nat × Bool := outerTo ts (cl, false) ts.length

inductive SatTo (ts : List Tm) : List Nat → List Nat → Prop
  | done {c d : List Nat} (h : roundOf ts c = (d, false)) : SatTo ts c d
  | more {c c' d : List Nat} (h : roundOf ts c = (c', true)) (r : SatTo ts c' d) : SatTo ts c d

theorem SatTo.unique {ts : List Tm} {c d e : List Nat} (h : SatTo ts c d) (h' : SatTo ts c e) : d = e := by
  induction h with
  | done h1 =>
    cases h' with
    | done h2 => rw [h1] at h2; simpa using h2
    | more h2 _ => rw [h1] at h2; simp at h2
  | more h1 _ ih =>
    cases h' with
    | done h2 => rw [h1] at h2; simp at h2
    | more h2 r =>
      rw [h1] at h2
      simp only [Prod.mk.injEq, and_true] at h2
      subst h2
      exact ih r

def initTo (n : Nat) (ps : List (Int × Int)) : Nat → List Nat
  | 0 => List.range n
  | k + 1 => merge (initTo n ps k) (gP ps k).1.toNat (gP ps k).2.toNat

/-- classes: so many, each number below it -/
structure Good (n : Nat) (cl : List Nat) : Prop where
  len : cl.length = n
  lt : ∀ j, j < n → gN cl j < n

theorem Good.le {n : Nat} {cl : List Nat} (h : Good n cl) (j : Nat) : gN cl j ≤ n := by
  by_cases hj : j < n
  · exact Nat.le_of_lt (h.lt j hj)
  · have : ¬ j < cl.length := by rw [h.len]; exact hj
    simp [gN, Nat.not_lt.1 this]
theorem gN_merge {cl : List Nat} {a b j : Nat} (h : j < cl.length) : gN (merge cl a b) j = mergeW (min (gN cl a) (gN cl b)) (max (gN cl a) (gN cl b)) (gN cl j) := by
  rw [merge, gN_map h]
theorem Good.merge {n : Nat} {cl : List Nat} (h : Good n cl) {a b : Nat} (ha : a < n) (hb : b < n) : Good n (merge cl a b) := by
  refine ⟨by rw [merge_length, h.len], fun j hj => ?_⟩
  rw [gN_merge (by rw [h.len]; exact hj)]
  have h1 := h.lt a ha; have h2 := h.lt b hb; have h3 := h.lt j hj
  unfold mergeW; split <;> omega
theorem Good.range (n : Nat) : Good n (List.range n) := ⟨by simp, fun j hj => by rw [gN_get (by simpa using hj)]; simpa using hj⟩

theorem Good.stepP {ts : List Tm} {n : Nat} {st : List Nat × Bool} (h : Good n st.1) {i k : Nat} (hi : i < n) (hk : k < n) : Good n (stepP ts st i k).1 := by
  unfold Ytcckgfgobakphab.stepP; split
  · exact h.merge hi hk
  · exact h
theorem Good.innerTo {ts : List Tm} {n : Nat} {st : List Nat × Bool} (h : Good n st.1) {i : Nat} (hi : i < n) : ∀ {k : Nat}, k ≤ i → Good n (innerTo ts i st k).1
  | 0, _ => h
  | k + 1, hk => Good.stepP (Good.innerTo h hi (by omega)) hi (by omega)
theorem Good.outerTo {ts : List Tm} {n : Nat} {st : List Nat × Bool} (h : Good n st.1) : ∀ {i : Nat}, i ≤ n → Good n (outerTo ts st i).1
  | 0, _ => h
  | i + 1, hi => Good.innerTo (Good.outerTo h (by omega)) (by omega) (Nat.le_refl _)

/-! the sum of all numbers: each merge of two lowers it -/
theorem sum_map_le (f : Nat → Nat) (hf : ∀ c, f c ≤ c) (l : List Nat) : (l.map f).sum ≤ l.sum := by
  induction l with
  | nil => simp
  | cons x l ih => simp only [List.map_cons, List.sum_cons]; have := hf x; omega
theorem sum_map_lt (f : Nat → Nat) (hf : ∀ c, f c ≤ c) {l : List Nat} {x : Nat} (hx : x ∈ l) (h : f x < x) : (l.map f).sum < l.sum := by
  induction l with
  | nil => cases hx
  | cons y l ih =>
    simp only [List.map_cons, List.sum_cons]
    rcases List.mem_cons.1 hx with rfl | hx
    · have := sum_map_le f hf l; omega
    · have := ih hx; have := hf y; omega
theorem mergeW_le {X Y : Nat} (h : X ≤ Y) (c : Nat) : mergeW X Y c ≤ c := by unfold mergeW; split <;> omega
theorem gN_mem {l : List Nat} {j : Nat} (h : j < l.length) : gN l j ∈ l := by rw [gN_get h]; exact List.getElem_mem _
theorem merge_sum {cl : List Nat} {a b : Nat} (ha : a < cl.length) (hb : b < cl.length) (hne : gN cl a ≠ gN cl b) : (merge cl a b).sum < cl.sum := by
  have hXY : min (gN cl a) (gN cl b) ≤ max (gN cl a) (gN cl b) := by omega
  by_cases h : gN cl a ≤ gN cl b
  · exact sum_map_lt _ (mergeW_le hXY) (gN_mem hb) (by unfold mergeW; split <;> omega)
  · exact sum_map_lt _ (mergeW_le hXY) (gN_mem ha) (by unfold mergeW; split <;> omega)

/-- what a step, a row of steps, a round do to the sum: not more; less, if something has turned; else nothing has -/
structure Less (s t : List Nat × Bool) : Prop where
  le : t.1.sum ≤ s.1.sum
  lt : s.2 = false → t.2 = true → t.1.sum < s.1.sum
  same : t.2 = false → t = s
theorem Less.refl (s : List Nat × Bool) : Less s s := ⟨Nat.le_refl _, fun h h' => (by rw [h] at h'; cases h'), fun _ => rfl⟩
theorem Less.trans {s t u : List Nat × Bool} (h : Less s t) (k : Less t u) : Less s u := by
  refine ⟨Nat.le_trans k.le h.le, fun h1 h2 => ?_, fun h1 => ?_⟩
  · cases ht : t.2 with
    | true => exact Nat.lt_of_le_of_lt k.le (h.lt h1 ht)
    | false => exact Nat.lt_of_lt_of_le (k.lt ht h2) h.le
  · have e := k.same h1
    rw [e] at h1 ⊢
    exact h.same h1
theorem Less.stepP {ts : List Tm} {n : Nat} {st : List Nat × Bool} (h : Good n st.1) {i k : Nat} (hi : i < n) (hk : k < n) : Less st (stepP ts st i k) := by
  unfold Ytcckgfgobakphab.stepP; split
  · rename_i hc
    simp only [Bool.and_eq_true, bne_iff_ne, ne_eq] at hc
    have := merge_sum (a := i) (b := k) (by rw [h.len]; exact hi) (by rw [h.len]; exact hk) hc.1
    exact ⟨Nat.le_of_lt this, fun _ _ => this, fun h => (by cases h)⟩
  · exact Less.refl _
theorem Less.innerTo {ts : List Tm} {n : Nat} {st : List Nat × Bool} (h : Good n st.1) {i : Nat} (hi : i < n) : ∀ {k : Nat}, k ≤ i → Less st (innerTo ts i st k)
  | 0, _ => Less.refl _
  | k + 1, hk => (Less.innerTo h hi (by omega)).trans (Less.stepP (Good.innerTo h hi (by omega)) hi (by omega))
theorem Less.outerTo {ts : List Tm} {n : Nat} {st : List Nat × Bool} (h : Good n st.1) : ∀ {i : Nat}, i ≤ n → Less st (outerTo ts st i)
  | 0, _ => Less.refl _
  | i + 1, hi => (Less.outerTo h (by omega)).trans (Less.innerTo (Good.outerTo h (by omega)) (by omega) (Nat.le_refl _))

theorem round_good {ts : List Tm} {cl : List Nat} (h : Good ts.length cl) : Good ts.length (roundOf ts cl).1 := Good.outerTo (st := (cl, false)) h (Nat.le_refl _)
theorem round_less {ts : List Tm} {cl : List Nat} (h : Good ts.length cl) : Less (cl, false) (roundOf ts cl) := Less.outerTo (st := (cl, false)) h (Nat.le_refl _)

theorem sat_exists {ts : List Tm} : ∀ (m : Nat) (cl : List Nat), cl.sum ≤ m → Good ts.length cl → ∃ d, SatTo ts cl d := by
  intro m
  induction m with
  | zero =>
    intro cl hm h
    have hl := round_less h
    cases hr : roundOf ts cl with
    | mk c' b =>
      cases b with
      | false => exact ⟨_, .done hr⟩
      | true => rw [hr] at hl; have := hl.lt rfl rfl; simp only at this; omega
  | succ m ih =>
    intro cl hm h
    have hl := round_less h
    have hg := round_good h
    cases hr : roundOf ts cl with
    | mk c' b =>
      rw [hr] at hl hg
      cases b with
      | false => exact ⟨_, .done hr⟩
      | true =>
        obtain ⟨d, hd⟩ := ih c' (by have := hl.lt rfl rfl; simp only at this; omega) hg
        exact ⟨d, .more hr hd⟩

/-- what the classes come to -/
noncomputable def satOf (ts : List Tm) (cl : List Nat) : List Nat := open Classical in if h : ∃ d, SatTo ts cl d then Classical.choose h else []
theorem satOf_of {ts : List Tm} {cl d : List Nat} (h : SatTo ts cl d) : satOf ts cl = d := by
  have he : ∃ d, SatTo ts cl d := ⟨d, h⟩
  rw [satOf, dif_pos he]
  exact (Classical.choose_spec he).unique h
theorem satOf_spec {ts : List Tm} {cl : List Nat} (h : Good ts.length cl) : SatTo ts cl (satOf ts cl) := by
  obtain ⟨d, hd⟩ := sat_exists _ cl (Nat.le_refl _) h
  rw [satOf_of hd]; exact hd

noncomputable def classes (ts : List Tm) (ps : List (Int × Int)) : List Nat := satOf ts (initTo ts.length ps ps.length)

/-- all pairs speak of terms that there are -/
def pairsIn (n : Nat) (ps : List (Int × Int)) : Prop := ∀ j, j < ps.length → 0 ≤ (gP ps j).1 ∧ (gP ps j).1 < n ∧ 0 ≤ (gP ps j).2 ∧ (gP ps j).2 < n
/-- all kids speak of terms ahead -/
def kidsIn (ts : List Tm) : Prop := ∀ j, j < ts.length → (gT ts j).kids.length ≤ 8 ∧ ∀ i, i < (gT ts j).kids.length → 0 ≤ gI (gT ts j).kids i ∧ gI (gT ts j).kids i < j

theorem Good.initTo {n : Nat} {ps : List (Int × Int)} (hp : pairsIn n ps) : ∀ {k : Nat}, k ≤ ps.length → Good n (initTo n ps k)
  | 0, _ => Good.range n
  | k + 1, hk => by
    have := hp k (by omega)
    exact (Good.initTo hp (by omega)).merge (by omega) (by omega)
theorem SatTo.good {ts : List Tm} {c d : List Nat} (h : SatTo ts c d) : Good ts.length c → Good ts.length d := by
  induction h with
  | done h1 => intro hg; have := round_good hg; rw [h1] at this; exact this
  | more h1 _ ih => intro hg; have := round_good hg; rw [h1] at this; exact ih this
theorem classes_good {ts : List Tm} {ps : List (Int × Int)} (hp : pairsIn ts.length ps) : Good ts.length (classes ts ps) :=
  (satOf_spec (Good.initTo hp (Nat.le_refl _))).good (Good.initTo hp (Nat.le_refl _))
end Go.Proofs.Ytcckgfgobakphab
