/-
  The value of a tree in a table: plain, and where it lies.
-/
import Derived.Test.YtidgnbdlfngeaaaDoorV1
import Derived.Test.YtidgnbdlfngeaaaDoorM2
import Derived.Test.YtidgnbdlfngeaaaDoorXc
namespace Go.Proofs.YtidgnbdlfngeaaaDoor
open Go.RowKit Go.Shelf
set_option linter.unusedVariables false
set_option maxHeartbeats 400000

mutual
/-- the value of a tree -/
def T.ev (s : Nat) (tb : List (List Int)) (th : List Int) : T → Int
  | .node h ks => if h < 0 then (if (th.length : Int) < -h then 0 else gI th (-h - 1).toNat) else gI (tb.getD (h - 1).toNat []) (evL s tb th ks 0).toNat
def evL (s : Nat) (tb : List (List Int)) (th : List Int) : List T → Int → Int
  | [], a => a
  | k :: r, a => evL s tb th r (a * s + k.ev s tb th)
end
theorem evL_append {s : Nat} {tb : List (List Int)} {th : List Int} : ∀ (l r : List T) (a : Int), evL s tb th (l ++ r) a = evL s tb th r (evL s tb th l a)
  | [], r, a => rfl
  | k :: l, r, a => by simp only [List.cons_append, evL]; exact evL_append l r _
theorem evL_take {s : Nat} {tb : List (List Int)} {th : List Int} {ks : List T} {i : Nat} (h : i < ks.length) (a : Int) : evL s tb th (ks.take (i + 1)) a = evL s tb th (ks.take i) a * s + (gK ks i).ev s tb th := by
  rw [List.take_succ_eq_append_getElem h, evL_append, gK_get h]; rfl
/-- a node fits the signs -/
def sigN (ar : List Int) (x : T) : Prop := x.head ≤ ar.length ∧ (0 < x.head → (x.kids.length : Int) = gI ar (x.head - 1).toNat)
structure T.sig (ar : List Int) (t : T) : Prop where
  all : ∀ x ∈ t.pre, okN x ∧ sigN ar x
theorem T.sig.kid {ar : List Int} {t : T} (h : t.sig ar) {i : Nat} (hi : i < t.kids.length) : (gK t.kids i).sig ar := by
  obtain ⟨hd, ks⟩ := t
  exact ⟨fun x hx => h.all x (List.mem_cons_of_mem _ (preL_mem hi hx))⟩
theorem T.sig.self {ar : List Int} {t : T} (h : t.sig ar) : okN t ∧ sigN ar t := by
  obtain ⟨hd, ks⟩ := t
  exact h.all _ (List.mem_cons_self ..)
theorem okN_num {x : T} (h : okN x) : x.head ≠ 0 ∧ -8 ≤ x.head ∧ x.head ≤ 12 ∧ x.kids.length ≤ 3 ∧ (x.head < 0 → x.kids.length = 0) := by
  obtain ⟨h1, h2⟩ := h
  unfold badHead at h1
  unfold badKids at h2
  refine ⟨?_, ?_, ?_, ?_, ?_⟩ <;> omega
/-- a table of s things for the signs -/
def TabOK (ar : List Int) (s : Nat) (tb : List (List Int)) : Prop :=
  1 ≤ s ∧ s ≤ 4 ∧ tb.length = ar.length ∧ ∀ (i : Nat) a l, ar[i]? = some a → tb[i]? = some l → 0 ≤ a ∧ a ≤ 3 ∧ l.length = s ^ a.toNat ∧ ∀ x ∈ l, 0 ≤ x ∧ x < (s : Int)
def ThOK (s : Nat) (th : List Int) : Prop := ∀ x ∈ th, 0 ≤ x ∧ x < (s : Int)
theorem gI_in {P : Int → Prop} {l : List Int} (h : ∀ x ∈ l, P x) {i : Nat} (hi : i < l.length) : P (gI l i) := by rw [gI_get hi]; exact h _ (List.getElem_mem hi)
/-- what the last step reads -/
theorem TabOK.last {ar : List Int} {s : Nat} {tb : List (List Int)} (hT : TabOK ar s tb) {t : T} (hs : t.sig ar) (hn : ¬ t.head < 0) {a : Int} (h0 : 0 ≤ a) (h1 : a < ((s ^ t.kids.length : Nat) : Int)) :
    (t.head - 1).toNat < tb.length ∧ ∃ l, tb[(t.head - 1).toNat]? = some l ∧ tb.getD (t.head - 1).toNat [] = l ∧ a.toNat < l.length ∧ ∀ x ∈ l, 0 ≤ x ∧ x < (s : Int) := by
  obtain ⟨h2, h3⟩ := hs.self
  have h4 := okN_num h2
  obtain ⟨_, _, h5, h6⟩ := hT
  have h7 := h3.2 (by omega)
  have hi : (t.head - 1).toNat < tb.length := by have := h3.1; omega
  have hj : (t.head - 1).toNat < ar.length := by omega
  obtain ⟨h8, h9, h10, h11⟩ := h6 (t.head - 1).toNat _ _ (List.getElem?_eq_getElem hj) (List.getElem?_eq_getElem hi)
  rw [gI_get hj] at h7
  refine ⟨hi, _, List.getElem?_eq_getElem hi, by rw [List.getD, List.getElem?_eq_getElem hi]; rfl, ?_, h11⟩
  rw [h10, ← h7]
  simp only [Int.toNat_natCast]; omega
theorem evL_range {s : Nat} {tb : List (List Int)} {th : List Int} (hs1 : 1 ≤ s) : ∀ (ks : List T) (a : Int) (m : Nat), (∀ i, i < ks.length → 0 ≤ (gK ks i).ev s tb th ∧ (gK ks i).ev s tb th < (s : Int)) → 0 ≤ a → a < ((s ^ m : Nat) : Int) →
    0 ≤ evL s tb th ks a ∧ evL s tb th ks a < ((s ^ (m + ks.length) : Nat) : Int)
  | [], a, m, _, h0, h1 => ⟨h0, h1⟩
  | k :: r, a, m, h, h0, h1 => by
    have hk : 0 ≤ k.ev s tb th ∧ k.ev s tb th < (s : Int) := h 0 (by simp)
    have hn : ((s ^ (m + 1) : Nat) : Int) = ((s ^ m : Nat) : Int) * s := by rw [Nat.pow_succ, Int.natCast_mul]
    have h2 : a * s + s ≤ ((s ^ m : Nat) : Int) * s := by
      have h3 : (a + 1) * (s : Int) ≤ ((s ^ m : Nat) : Int) * s := Int.mul_le_mul_of_nonneg_right (by omega) (by omega)
      rwa [Int.add_mul, Int.one_mul] at h3
    have h4 : 0 ≤ a * (s : Int) := Int.mul_nonneg h0 (by omega)
    have := evL_range hs1 r (a * s + k.ev s tb th) (m + 1) (fun i hi => h (i + 1) (by simpa using hi)) (by omega) (by omega)
    rw [show m + (k :: r).length = m + 1 + r.length by simp only [List.length_cons]; omega]
    exact this
theorem T.ev_range {ar : List Int} {s : Nat} {tb : List (List Int)} {th : List Int} (hT : TabOK ar s tb) (hth : ThOK s th) (t : T) : t.sig ar → 0 ≤ t.ev s tb th ∧ t.ev s tb th < (s : Int) := by
  induction t using T.ind with
  | h t ih =>
    intro hs
    have h1 := okN_num hs.self.1
    obtain ⟨hd, ks⟩ := t
    simp only [T.ev]
    by_cases hn : hd < 0
    · rw [if_pos hn]
      by_cases hl : (th.length : Int) < -hd
      · rw [if_pos hl]; have := hT.1; omega
      · rw [if_neg hl]; exact gI_in hth (by omega)
    · rw [if_neg hn]
      have hr := evL_range (tb := tb) (th := th) hT.1 ks 0 0 (fun i hi => ih i hi (hs.kid hi)) (by omega) (by simp)
      rw [Nat.zero_add] at hr
      obtain ⟨_, l, _, h3, h4, h5⟩ := hT.last hs hn hr.1 hr.2
      have h3 : tb.getD (hd - 1).toNat [] = l := h3
      rw [h3]
      exact gI_in h5 h4
end Go.Proofs.YtidgnbdlfngeaaaDoor
