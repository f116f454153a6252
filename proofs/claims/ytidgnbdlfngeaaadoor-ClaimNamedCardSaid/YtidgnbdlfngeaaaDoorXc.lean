/-
  Walks: the document's Times.
  Walks: the document's Most.
  Plain: the nodes of a tree in preorder; what is wrong with them, their greatest variable, how often a variable stands there.
-/
import Derived.Test.YtidgnbdlfngeaaaDoorProg
import Derived.Test.YtidgnbdlfngeaaaDoorBase
import Derived.Test.YtidgnbdlfngeaaaDoorXa
import Derived.Test.YtidgnbdlfngeaaaDoorXb
namespace Go.Proofs.YtidgnbdlfngeaaaDoor
open Go.RowKit Go.Shelf
set_option linter.unusedVariables false

mutual
def T.times (x : Int) : T → Nat
  | .node h ks => (if h = x then 1 else 0) + timesL x ks
def timesL (x : Int) : List T → Nat
  | [] => 0
  | t :: r => t.times x + timesL x r
end
theorem T.times_eq (x : Int) (t : T) : t.times x = (if t.head = x then 1 else 0) + timesL x t.kids := by cases t; rw [T.times]; rfl
theorem timesL_append (x : Int) : ∀ (a b : List T), timesL x (a ++ b) = timesL x a + timesL x b
  | [], b => by simp [timesL]
  | t :: r, b => by simp [timesL, timesL_append x r b, Nat.add_assoc]
theorem timesL_take (x : Int) {l : List T} {i : Nat} (h : i < l.length) : timesL x (l.take (i + 1)) = timesL x (l.take i) + (gK l i).times x := by
  rw [take_gK h, timesL_append]; simp [timesL]
theorem timesL_le_of (x : Int) : ∀ (l : List T), (∀ i, i < l.length → (gK l i).times x ≤ (gK l i).size) → timesL x l ≤ sizeL l
  | [], _ => by simp [timesL]
  | t :: r, h => by
    have h0 := h 0 (by simp)
    have h1 := timesL_le_of x r (fun i hi => by have := h (i + 1) (by simpa using hi); simpa [gK] using this)
    simp only [timesL, sizeL]
    simp [gK] at h0
    omega
theorem times_le (x : Int) (t : T) : t.times x ≤ t.size := by
  induction t using T.ind with
  | h t ih =>
    rw [T.times_eq, T.size_eq]
    have := timesL_le_of x t.kids ih
    split <;> omega
theorem timesL_le (x : Int) (l : List T) : timesL x l ≤ sizeL l := timesL_le_of x l fun i _ => times_le x (gK l i)

end Go.Proofs.YtidgnbdlfngeaaaDoor
namespace Go.Proofs.YtidgnbdlfngeaaaDoor
open Go.RowKit Go.Shelf
set_option linter.unusedVariables false

mutual
def T.most : T → Int
  | .node h ks => max (if h < 0 then -h else 0) (mostL ks)
def mostL : List T → Int
  | [] => 0
  | t :: r => max t.most (mostL r)
end
theorem T.most_eq (t : T) : t.most = max (if t.head < 0 then -t.head else 0) (mostL t.kids) := by cases t; rw [T.most]; rfl
theorem mostL_nonneg : ∀ l, 0 ≤ mostL l
  | [] => by simp [mostL]
  | t :: r => by simp only [mostL]; have := mostL_nonneg r; omega
theorem mostL_append : ∀ (a b : List T), mostL (a ++ b) = max (mostL a) (mostL b)
  | [], b => by simp only [List.nil_append, mostL]; have := mostL_nonneg b; omega
  | t :: r, b => by simp only [List.cons_append, mostL, mostL_append r b]; omega
theorem T.most_nonneg (t : T) : 0 ≤ t.most := by rw [T.most_eq]; have := mostL_nonneg t.kids; split <;> omega
theorem mostL_take {l : List T} {i : Nat} (h : i < l.length) : mostL (l.take (i + 1)) = max (mostL (l.take i)) (gK l i).most := by
  rw [take_gK h, mostL_append]; simp only [mostL]; have := (gK l i).most_nonneg; omega

set_option maxRecDepth 100000 in
set_option maxHeartbeats 4000000 in
theorem most30 (t : T) : ∀ (v : Value) (w : World), t.low → TreeAt w v t →
    Calls Tryd.prog 30 #[v] w fun e w' => e = .returned (.int .i64 t.most) ∧ Below w.heap.size w w' := by
  induction t using T.ind with
  | h t ih =>
  intro v w hlow ht
  obtain ⟨ao, sp, rfl, hr, hml⟩ := ht.open
  have hml : t.kids.length ≤ 9223372036854775807 := hml
  have HR := Lib.hid hr; have IH := Lib.hid ih
  have HLOW := Lib.hid ((T.low_eq t).1 hlow)
  have hlo : -1000 ≤ t.head := HLOW.out.1
  have hte := T.most_eq t
  clear ht hr ih hlow
  have hbx := heap_ofAlloc w (.cells #[.int .i64 t.head, .slice ao t.kids.length (t.kids.length + sp)] 45)
  have hb0 := (Below.refl w.heap.size w).alloc (Nat.le_refl _) (.cells #[.int .i64 t.head, .slice ao t.kids.length (t.kids.length + sp)] 45)
  by_cases hneg : t.head < 0
  · rw [if_pos hneg] at hte
    have HTS := Lib.hid hte; clear hte
    go_enter Tryd.func30, Tryd.ntmps30
    go_wp2_with fail
    generalize w.alloc (.cells #[.int .i64 t.head, .slice ao t.kids.length (t.kids.length + sp)] 45) = w0 at hbx hb0 ⊢
    have XB := Lib.hid hbx; have HB0 := Lib.hid hb0
    clear hbx
    go_loopw [3, 4, 5] (fun n i _ wr => ∃ (k : Nat) (N : Int), k ≤ t.kids.length ∧ i = .int .i64 k ∧ n = .int .i64 N ∧ N = max (-t.head) (mostL (t.kids.take k)) ∧ Below w0.heap.size w0 wr) (fun _ i _ _ => t.kids.length - (intOf i).toNat)
    case atStart => exact ⟨0, -t.head, by omega, by rfl, rfl, by simp [mostL] <;> omega, Below.refl _ _⟩
    case round =>
      obtain ⟨k, N, hk, rfl, rfl, hN, hb⟩ := hrel
      have HN := Lib.hid hN
      clear hN
      obtain ⟨⟨x0, _⟩, x1, _⟩ := box2 (Below.heapAt hb XB.out)
      clear x0
      by_cases hlt : k < t.kids.length
      · obtain ⟨b, off, ko, ksp, rfl, c1, c2, c3⟩ := (HR.out.below (Below.step HB0.out hb)) k hlt
        have HST := Lib.hid (mostL_take hlt)
        have HC := Lib.hid c3
        clear c3
        go_wp2_with fail
        refine (IH.out k hlt _ _ (HLOW.out.2 k hlt) HC.out).mono ?_
        rintro e w2 ⟨rfl, hb2⟩
        have hb3 := Below.step hb hb2
        clear hb2
        generalize hQ : (gK t.kids k).most = Q at HST ⊢
        clear hQ
        by_cases hgt : N < Q
        · go_wp2_with fail
          go_roundw
          case rel => exact ⟨k + 1, _, by omega, by go_num, rfl, by have h2 := HN.out; have h3 := HST.out; rw [h3]; omega, hb3⟩
          case measure => simp [intOf] <;> omega
        · go_wp2_with fail
          go_roundw
          case rel => exact ⟨k + 1, _, by omega, by go_num, rfl, by have h2 := HN.out; have h3 := HST.out; rw [h3]; omega, hb3⟩
          case measure => simp [intOf] <;> omega
      · obtain rfl : k = t.kids.length := by omega
        go_wp2_with fail
        go_ret
        exact ⟨ret_int (by have h2 := HN.out; rw [List.take_length] at h2; rw [HTS.out, h2]), Below.step HB0.out hb⟩
  · rw [if_neg hneg] at hte
    have HTS := Lib.hid hte; clear hte
    go_enter Tryd.func30, Tryd.ntmps30
    go_wp2_with fail
    generalize w.alloc (.cells #[.int .i64 t.head, .slice ao t.kids.length (t.kids.length + sp)] 45) = w0 at hbx hb0 ⊢
    have XB := Lib.hid hbx; have HB0 := Lib.hid hb0
    clear hbx
    go_loopw [3, 4, 5] (fun n i _ wr => ∃ (k : Nat) (N : Int), k ≤ t.kids.length ∧ i = .int .i64 k ∧ n = .int .i64 N ∧ N = max (0) (mostL (t.kids.take k)) ∧ Below w0.heap.size w0 wr) (fun _ i _ _ => t.kids.length - (intOf i).toNat)
    case atStart => exact ⟨0, 0, by omega, by rfl, rfl, by simp [mostL] <;> omega, Below.refl _ _⟩
    case round =>
      obtain ⟨k, N, hk, rfl, rfl, hN, hb⟩ := hrel
      have HN := Lib.hid hN
      clear hN
      obtain ⟨⟨x0, _⟩, x1, _⟩ := box2 (Below.heapAt hb XB.out)
      clear x0
      by_cases hlt : k < t.kids.length
      · obtain ⟨b, off, ko, ksp, rfl, c1, c2, c3⟩ := (HR.out.below (Below.step HB0.out hb)) k hlt
        have HST := Lib.hid (mostL_take hlt)
        have HC := Lib.hid c3
        clear c3
        go_wp2_with fail
        refine (IH.out k hlt _ _ (HLOW.out.2 k hlt) HC.out).mono ?_
        rintro e w2 ⟨rfl, hb2⟩
        have hb3 := Below.step hb hb2
        clear hb2
        generalize hQ : (gK t.kids k).most = Q at HST ⊢
        clear hQ
        by_cases hgt : N < Q
        · go_wp2_with fail
          go_roundw
          case rel => exact ⟨k + 1, _, by omega, by go_num, rfl, by have h2 := HN.out; have h3 := HST.out; rw [h3]; omega, hb3⟩
          case measure => simp [intOf] <;> omega
        · go_wp2_with fail
          go_roundw
          case rel => exact ⟨k + 1, _, by omega, by go_num, rfl, by have h2 := HN.out; have h3 := HST.out; rw [h3]; omega, hb3⟩
          case measure => simp [intOf] <;> omega
      · obtain rfl : k = t.kids.length := by omega
        go_wp2_with fail
        go_ret
        exact ⟨ret_int (by have h2 := HN.out; rw [List.take_length] at h2; rw [HTS.out, h2]), Below.step HB0.out hb⟩
end Go.Proofs.YtidgnbdlfngeaaaDoor
namespace Go.Proofs.YtidgnbdlfngeaaaDoor
open Go.RowKit Go.Shelf
set_option linter.unusedVariables false

mutual
def T.pre : T → List T
  | .node h ks => .node h ks :: preL ks
def preL : List T → List T
  | [] => []
  | t :: r => t.pre ++ preL r
end
theorem T.pre_eq (t : T) : t.pre = t :: preL t.kids := by cases t; rw [T.pre]; rfl
theorem preL_append : ∀ (a b : List T), preL (a ++ b) = preL a ++ preL b
  | [], b => by simp [preL]
  | t :: r, b => by simp [preL, preL_append r b]
theorem preL_take {l : List T} {i : Nat} (h : i < l.length) : preL (l.take (i + 1)) = preL (l.take i) ++ (gK l i).pre := by
  rw [take_gK h, preL_append]; simp [preL]
theorem preL_take_prefix (l : List T) (i : Nat) : preL (l.take i) <+: preL l := by
  refine ⟨preL (l.drop i), ?_⟩
  rw [← preL_append, List.take_append_drop]
theorem pre_length (t : T) : t.pre.length = t.size := by
  induction t using T.ind with
  | h t ih =>
    rw [T.pre_eq, T.size_eq]
    have key : ∀ l : List T, (∀ i, i < l.length → (gK l i).pre.length = (gK l i).size) → (preL l).length = sizeL l := by
      intro l
      induction l with
      | nil => intro _; simp [preL, sizeL]
      | cons x r ihr =>
        intro h
        have h0 := h 0 (by simp)
        simp [gK] at h0
        rw [preL, sizeL, List.length_append, h0, ihr (fun i hi => by have := h (i + 1) (by simpa using hi); simpa [gK] using this)]
    have := key t.kids ih
    simp only [List.length_cons]; omega

/-- the first bad one in a row of nodes, and its number -/
def scan : List T → Int → Int × Int
  | [], _ => (0, 0)
  | x :: r, a => if badHead x.head then (3, a) else if badKids x.head x.kids.length then (9, a) else scan r (a + 1)
def okN (x : T) : Prop := ¬ badHead x.head ∧ ¬ badKids x.head x.kids.length
theorem scan_append_ok {l r : List T} {a : Int} (h : ∀ x ∈ l, okN x) : scan (l ++ r) a = scan r (a + l.length) := by
  induction l generalizing a with
  | nil => simp
  | cons x l ih =>
    have hx := h x (by simp)
    rw [List.cons_append, scan, if_neg hx.1, if_neg hx.2, ih (fun y hy => h y (by simp [hy]))]
    congr 1; simp only [List.length_cons]; omega
theorem scan_bad {l r : List T} {x : T} {a : Int} (h : ∀ x ∈ l, okN x) (hx : ¬ okN x) : scan (l ++ x :: r) a = if badHead x.head then (3, a + l.length) else (9, a + l.length) := by
  rw [scan_append_ok h, scan]
  by_cases hb : badHead x.head
  · rw [if_pos hb, if_pos hb]
  · rw [if_neg hb, if_neg hb, if_pos (by by_cases hk : badKids x.head x.kids.length; exact hk; exact absurd ⟨hb, hk⟩ hx)]
theorem scan_ok {l : List T} {a : Int} (h : ∀ x ∈ l, okN x) : scan l a = (0, 0) := by
  have := scan_append_ok (r := []) (a := a) h
  rw [List.append_nil] at this; rw [this]; rfl
theorem scan_cases (l : List T) : (∀ x ∈ l, okN x) ∨ ∃ p x r, l = p ++ x :: r ∧ (∀ y ∈ p, okN y) ∧ ¬ okN x := by
  induction l with
  | nil => exact .inl (by simp)
  | cons x l ih =>
    by_cases hx : okN x
    · rcases ih with h | ⟨p, y, r, rfl, h1, h2⟩
      · exact .inl (by simpa using ⟨hx, h⟩)
      · exact .inr ⟨x :: p, y, r, rfl, by simpa using ⟨hx, h1⟩, h2⟩
    · exact .inr ⟨[], x, l, rfl, by simp, hx⟩
theorem scan_zero {l : List T} {a : Int} : (scan l a).1 = 0 ↔ ∀ x ∈ l, okN x := by
  constructor
  · intro h
    rcases scan_cases l with h1 | ⟨p, x, r, rfl, h1, h2⟩
    · exact h1
    · rw [scan_bad h1 h2] at h
      split at h <;> simp at h
  · intro h; rw [scan_ok h]

theorem nodes_scan (t : T) : ∀ a : Int, (t.nodes a).1 = scan t.pre a ∧ ((∀ x ∈ t.pre, okN x) → (t.nodes a).2 = a + t.pre.length) := by
  induction t using T.ind with
  | h t ih =>
    intro a
    have key : ∀ l : List T, (∀ i, i < l.length → ∀ a : Int, ((gK l i).nodes a).1 = scan (gK l i).pre a ∧ ((∀ x ∈ (gK l i).pre, okN x) → ((gK l i).nodes a).2 = a + (gK l i).pre.length)) →
        ∀ a : Int, (nodesL l a).1 = scan (preL l) a ∧ ((∀ x ∈ preL l, okN x) → (nodesL l a).2 = a + (preL l).length) := by
      intro l
      induction l with
      | nil => intro _ a; simp [nodesL, preL, scan]
      | cons x r ihr =>
        intro h a
        have h0 := h 0 (by simp) a
        simp only [gK, List.getD_cons_zero] at h0
        have hr := ihr (fun i hi => by have := h (i + 1) (by simpa using hi); simpa only [gK, List.getD_cons_succ] using this)
        rw [nodesL, preL]
        by_cases hx : ∀ y ∈ x.pre, okN y
        · have e := h0.2 hx
          have e0 : (x.nodes a).1 = (0, 0) := by rw [h0.1, scan_ok hx]
          simp only [e0, e, ne_eq, not_true_eq_false, if_false]
          rw [scan_append_ok hx]
          refine ⟨(hr _).1, fun ha => ?_⟩
          rw [(hr _).2 (fun y hy => ha y (by simp [hy]))]
          simp only [List.length_append]; omega
        · have hne : (x.nodes a).1.1 ≠ 0 := by rw [h0.1]; intro h; exact hx (scan_zero.1 h)
          rw [if_pos hne]
          refine ⟨?_, fun ha => absurd (fun y hy => ha y (by simp [hy])) hx⟩
          rw [h0.1]
          rcases scan_cases x.pre with h1 | ⟨p, y, q, e, h1, h2⟩
          · exact absurd h1 hx
          · rw [e, List.append_assoc, List.cons_append, scan_bad h1 h2, scan_bad h1 h2]
    have := key t.kids ih (a + 1)
    rw [T.nodes_eq, T.pre_eq, scan]
    by_cases hb : badHead t.head
    · rw [if_pos hb, if_pos hb]; exact ⟨rfl, fun h => absurd hb (h t (by simp)).1⟩
    · rw [if_neg hb, if_neg hb]
      by_cases hk : badKids t.head t.kids.length
      · rw [if_pos hk, if_pos hk]; exact ⟨rfl, fun h => absurd hk (h t (by simp)).2⟩
      · rw [if_neg hk, if_neg hk]
        refine ⟨this.1, fun h => ?_⟩
        rw [this.2 (fun y hy => h y (by simp [hy]))]
        simp only [List.length_cons]; omega
theorem treeF_pre (t : T) : treeF t = if 40 < t.size then (2, 0) else if 12 < t.deep then (10, 0) else scan t.pre 0 := by
  rw [treeF, (nodes_scan t 0).1]

/-- well formed -/
theorem treeF_ok {t : T} : (treeF t).1 = 0 ↔ t.size ≤ 40 ∧ t.deep ≤ 12 ∧ ∀ x ∈ t.pre, okN x := by
  rw [treeF_pre]
  by_cases h1 : 40 < t.size
  · rw [if_pos h1]; simp; omega
  · rw [if_neg h1]
    by_cases h2 : 12 < t.deep
    · rw [if_pos h2]; simp; omega
    · rw [if_neg h2, scan_zero]
      constructor
      · intro h; exact ⟨by omega, by omega, h⟩
      · intro h; exact h.2.2
theorem treeF_ok0 {t : T} (h : (treeF t).1 = 0) : treeF t = (0, 0) := by
  have h' := treeF_ok.1 h
  rw [treeF_pre, if_neg (by omega), if_neg (by omega), scan_ok h'.2.2]

/-- the greatest variable of a row of nodes -/
def maxV : List T → Int → Int
  | [], m => m
  | x :: r, m => maxV r (max m (-x.head))
theorem maxV_append : ∀ (a b : List T) (m : Int), maxV (a ++ b) m = maxV b (maxV a m)
  | [], b, m => rfl
  | x :: r, b, m => by rw [List.cons_append, maxV, maxV, maxV_append r b]
theorem maxV_le : ∀ (l : List T) (m : Int), m ≤ maxV l m
  | [], m => Int.le_refl _
  | x :: r, m => by rw [maxV]; have := maxV_le r (max m (-x.head)); omega
theorem maxV_max : ∀ (l : List T) (m k : Int), maxV l (max m k) = max k (maxV l m)
  | [], m, k => by simp only [maxV]; omega
  | x :: r, m, k => by
    rw [maxV, maxV, ← maxV_max r]
    congr 1; omega
theorem maxV_pre (t : T) : ∀ m : Int, 0 ≤ m → maxV t.pre m = max m t.most := by
  induction t using T.ind with
  | h t ih =>
    intro m hm
    have key : ∀ l : List T, (∀ i, i < l.length → ∀ m : Int, 0 ≤ m → maxV (gK l i).pre m = max m (gK l i).most) → ∀ m : Int, 0 ≤ m → maxV (preL l) m = max m (mostL l) := by
      intro l
      induction l with
      | nil => intro _ m hm; simp only [preL, maxV, mostL]; omega
      | cons x r ihr =>
        intro h m hm
        have h0 := h 0 (by simp) m hm
        simp only [gK, List.getD_cons_zero] at h0
        rw [preL, maxV_append, h0, ihr (fun i hi => by have := h (i + 1) (by simpa using hi); simpa only [gK, List.getD_cons_succ] using this) _ (by omega), mostL]
        omega
    rw [T.pre_eq, maxV, key t.kids ih _ (by omega), T.most_eq]
    have := mostL_nonneg t.kids
    split <;> omega
/-- how often a variable stands in a row of nodes -/
def cntV (x : Int) : List T → Nat
  | [] => 0
  | y :: r => (if y.head = x then 1 else 0) + cntV x r
theorem cntV_append (x : Int) : ∀ (a b : List T), cntV x (a ++ b) = cntV x a + cntV x b
  | [], b => by simp [cntV]
  | y :: r, b => by simp [cntV, cntV_append x r b, Nat.add_assoc]
theorem cntV_pre (x : Int) (t : T) : cntV x t.pre = t.times x := by
  induction t using T.ind with
  | h t ih =>
    have key : ∀ l : List T, (∀ i, i < l.length → cntV x (gK l i).pre = (gK l i).times x) → cntV x (preL l) = timesL x l := by
      intro l
      induction l with
      | nil => intro _; simp [preL, cntV, timesL]
      | cons y r ihr =>
        intro h
        have h0 := h 0 (by simp)
        simp only [gK, List.getD_cons_zero] at h0
        rw [preL, cntV_append, h0, timesL, ihr (fun i hi => by have := h (i + 1) (by simpa using hi); simpa only [gK, List.getD_cons_succ] using this)]
    rw [T.pre_eq, cntV, key t.kids ih, T.times_eq]
theorem cntV_le (x : Int) : ∀ l : List T, cntV x l ≤ l.length
  | [] => by simp [cntV]
  | y :: r => by have := cntV_le x r; simp only [cntV, List.length_cons]; split <;> omega
end Go.Proofs.YtidgnbdlfngeaaaDoor
