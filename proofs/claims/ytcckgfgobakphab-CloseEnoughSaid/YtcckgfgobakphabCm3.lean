/-
  Plain: what is told is enough, and none of it may go: as close.Why's law reads it.
-/
import Derived.Test.YtcckgfgobakphabW22
namespace Go.Proofs.Ytcckgfgobakphab
set_option linter.unusedVariables false

theorem whyL_idx (ts : List Tm) (ps : List (Int × Int)) (a b : Nat) : ∃ p, whyL ts ps a b = idxOf p ps.length ∧ p = whyP ts ps a b ps.length (fun _ => true) := ⟨_, rfl, rfl⟩
theorem idxOf_mem {p : Nat → Bool} {n i : Nat} (h : i < (idxOf p n).length) : gN (idxOf p n) i < n ∧ p (gN (idxOf p n) i) = true := by
  have hm := gN_mem h
  unfold idxOf at hm
  rw [List.mem_filter, List.mem_range] at hm
  exact hm
theorem idxOf_lt {p : Nat → Bool} {n i j : Nat} (hij : i < j) (h : j < (idxOf p n).length) : gN (idxOf p n) i < gN (idxOf p n) j := by
  have hp : (idxOf p n).Pairwise (· < ·) := List.Pairwise.filter _ List.pairwise_lt_range
  rw [gN_get (by omega), gN_get h]
  exact List.pairwise_iff_getElem.1 hp i j (by omega) h hij
/-- the pairs told -/
def toldOf (ps : List (Int × Int)) (L : List Nat) (k : Nat) : List (Int × Int) := (L.take k).map (gP ps)
theorem toldOf_succ {ps : List (Int × Int)} {L : List Nat} {k : Nat} (h : k < L.length) : toldOf ps L (k + 1) = toldOf ps L k ++ [gP ps (gN L k)] := by
  rw [toldOf, List.take_succ_eq_append_getElem h, List.map_append, gN_get h]; rfl
theorem toldOf_len {ps : List (Int × Int)} {L : List Nat} {k : Nat} (h : k ≤ L.length) : (toldOf ps L k).length = k := by simp [toldOf]; omega
theorem toldOf_get {ps : List (Int × Int)} {L : List Nat} {k j : Nat} (h : k ≤ L.length) (hj : j < k) : gP (toldOf ps L k) j = gP ps (gN L j) := by
  have h2 : j < (toldOf ps L k).length := by rw [toldOf_len h]; exact hj
  rw [gN_get (by omega)]
  simp only [gP, List.getD_eq_getElem?_getD, toldOf, List.getElem?_map, List.getElem?_take, if_pos hj]
  rw [List.getElem?_eq_getElem (by omega)]
  simp [gP]

structure Told (ts : List Tm) (ps S : List (Int × Int)) (L : List Nat) (a b : Nat) : Prop where
  len : L.length ≤ ps.length
  slen : S.length = L.length
  lt : ∀ i, i < L.length → gN L i < ps.length
  up : ∀ i, i + 1 < L.length → gN L i < gN L (i + 1)
  inn : pairsIn ts.length S
  inn2 : ∀ i, pairsIn ts.length (pairsOf S (setP (fun _ => true) i false) S.length)
  rel : relD ts S a b = true
  none : ∀ i, i < S.length → relD ts (pairsOf S (setP (fun _ => true) i false) S.length) a b = false
  all : (whyL ts S a b).length = L.length
theorem told_of {ts : List Tm} {ps : List (Int × Int)} (hk : kidsIn ts) (hp : pairsIn ts.length ps) {a b : Nat} (ha : a < ts.length) (hb : b < ts.length) (hr : relD ts ps a b = true) :
    Told ts ps (toldOf ps (whyL ts ps a b) (whyL ts ps a b).length) (whyL ts ps a b) a b := by
  obtain ⟨h1, h2⟩ := whyL_spec hk hp ha hb hr
  obtain ⟨p, he, hpp⟩ := whyL_idx ts ps a b
  rw [← hpp] at h1 h2
  rw [he]
  have e : toldOf ps (idxOf p ps.length) (idxOf p ps.length).length = pairsOf ps p ps.length := by simp [toldOf, idxOf, pairsOf]
  have hS := toldOf_len (ps := ps) (L := idxOf p ps.length) (Nat.le_refl _)
  have hin : pairsIn ts.length (pairsOf ps p ps.length) := pairsOf_in hp (Nat.le_refl _)
  have hnone : ∀ i, i < (toldOf ps (idxOf p ps.length) (idxOf p ps.length).length).length → relD ts (pairsOf (toldOf ps (idxOf p ps.length) (idxOf p ps.length).length) (setP (fun _ => true) i false) (toldOf ps (idxOf p ps.length) (idxOf p ps.length).length).length) a b = false := by
    intro i hi
    have hi' : i < (idxOf p ps.length).length := by rw [← hS]; exact hi
    obtain ⟨m1, m2⟩ := idxOf_mem hi'
    cases hc : relD ts (pairsOf (toldOf ps (idxOf p ps.length) (idxOf p ps.length).length) (setP (fun _ => true) i false) (toldOf ps (idxOf p ps.length) (idxOf p ps.length).length).length) a b with
    | false => rfl
    | true =>
      have hx := relD_mono (ts := ts) (qs := pairsOf ps (setP p (gN (idxOf p ps.length) i) false) ps.length) hk (pairsOf_in (by rw [e]; exact hin) (Nat.le_refl _)) (pairsOf_in hp (Nat.le_refl _)) (fun x hx => by
        obtain ⟨j, q1, q2, q3⟩ := mem_pairsOf.1 hx
        rw [hS] at q1
        have hji : j ≠ i := by intro h; subst h; simp [setP] at q2
        obtain ⟨m3, m4⟩ := idxOf_mem q1
        refine mem_pairsOf.2 ⟨gN (idxOf p ps.length) j, m3, ?_, by rw [← q3, toldOf_get (Nat.le_refl _) q1]⟩
        have hne : gN (idxOf p ps.length) j ≠ gN (idxOf p ps.length) i := by
          rcases Nat.lt_or_gt_of_ne hji with h | h
          · have := idxOf_lt h hi'; omega
          · have := idxOf_lt h q1; omega
        simp only [setP]; rw [if_neg hne]; exact m4) ha hb hc
      rw [h2 _ m1 m2] at hx; cases hx
  exact ⟨idxOf_le p _, hS, fun i hi => (idxOf_mem hi).1, fun i hi => idxOf_lt (Nat.lt_succ_self i) hi, by rw [e]; exact hin, fun i => pairsOf_in (by rw [e]; exact hin) (Nat.le_refl _), by rw [e]; exact h1, hnone, by
    rw [whyL_all hnone]; exact hS⟩

theorem whyR_bad {ts : List Tm} {ps : List (Int × Int)} {a b : Int} (h : (whyR ts ps a b).2.1 ≠ 0) : (whyR ts ps a b).1 = [] := by
  unfold whyR at h ⊢
  split
  · rfl
  · rename_i h1; rw [if_neg h1] at h
    split
    · rfl
    · rename_i h2; rw [if_neg h2] at h
      split
      · rfl
      · rename_i h3; rw [if_neg h3] at h; simp at h
theorem whyR_good {ts : List Tm} {ps : List (Int × Int)} {a b : Int} (h : (whyR ts ps a b).2.1 = 0) : (checkF ts [ps]).1 = 0 ∧ (∃ na : Nat, a = na ∧ na < ts.length) ∧ (∃ nb : Nat, b = nb ∧ nb < ts.length) ∧
    relD ts ps a.toNat b.toNat = true ∧ whyR ts ps a b = (whyL ts ps a.toNat b.toNat, (0, 0)) := by
  unfold whyR at h ⊢
  split at h
  · rename_i h1; exact absurd h h1
  · rename_i h1
    split at h
    · simp at h
    · rename_i h2
      split at h
      · simp at h
      · rename_i h3
        have h1' : (checkF ts [ps]).1 = 0 := Classical.not_not.1 h1
        have h4 : inN ts.length a = true ∧ inN ts.length b = true := by
          constructor
          · cases hx : inN ts.length a with
            | true => rfl
            | false => exact absurd (.inl hx) h2
          · cases hx : inN ts.length b with
            | true => rfl
            | false => exact absurd (.inr hx) h2
        simp only [inN, decide_eq_true_eq] at h4
        refine ⟨h1', ⟨a.toNat, by omega, by omega⟩, ⟨b.toNat, by omega, by omega⟩, by simpa using h3, ?_⟩
        rw [if_neg (by rw [h1']; simp), if_neg h2, if_neg h3]
theorem check1_of {ts : List Tm} {ps qs : List (Int × Int)} (h : (checkF ts [ps]).1 = 0) (hl : qs.length ≤ 120) (hq : pairsIn ts.length qs) : (checkF ts [qs]).1 = 0 := by
  have ht : (termsF ts).1 = 0 := by
    by_cases h0 : (termsF ts).1 = 0
    · exact h0
    · rw [checkF, if_neg h0] at h; exact absurd h h0
  rw [checkF, if_pos ht, listsF_ok (by omega) (fun j hj => ?_)]
  · rfl
  · have := hq j hj
    simp only [pBad, inN, Bool.or_eq_false_iff, Bool.not_eq_false', decide_eq_true_eq]; omega
theorem whyR_yes {ts : List Tm} {qs : List (Int × Int)} {a b : Nat} (h : (checkF ts [qs]).1 = 0) (ha : a < ts.length) (hb : b < ts.length) (hr : relD ts qs a b = true) : whyR ts qs a b = (whyL ts qs a b, (0, 0)) := by
  have i1 : inN ts.length a = true := by simp [inN]; omega
  have i2 : inN ts.length b = true := by simp [inN]; omega
  rw [whyR, if_neg (by rw [h]; simp), if_neg (by rw [i1, i2]; simp), if_neg (by simp [hr])]
  simp
theorem whyR_no {ts : List Tm} {qs : List (Int × Int)} {a b : Nat} (h : (checkF ts [qs]).1 = 0) (ha : a < ts.length) (hb : b < ts.length) (hr : relD ts qs a b = false) : whyR ts qs a b = ([], (6, 0)) := by
  have i1 : inN ts.length a = true := by simp [inN]; omega
  have i2 : inN ts.length b = true := by simp [inN]; omega
  rw [whyR, if_neg (by rw [h]; simp), if_neg (by rw [i1, i2]; simp), if_pos (by simpa using hr)]
end Go.Proofs.Ytcckgfgobakphab
