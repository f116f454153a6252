/-
  Plain: what the document's Critical goes through is what pairs of rules say.
-/
import Derived.Test.YtlhnfdjidjgfgaaPa2
import Derived.Test.YtlhnfdjidjgfgaaCa2
import Derived.Test.YtlhnfdjidjgfgaaCq
import Derived.Test.YtlhnfdjidjgfgaaMu0
namespace Go.Proofs.Ytlhnfdjidjgfgaa
open Go.RowKit Go.Shelf
set_option linter.unusedVariables false
set_option maxHeartbeats 400000

theorem preP_get (t : T) : ∀ (p : List Int) (x : List Int × T), x ∈ t.preP p → ∃ q, x.1 = p ++ q ∧ (∀ i, t.get q i = (x.2, -1)) ∧ ∀ z ∈ q, 1 ≤ z ∧ z ≤ t.size := by
  induction t using T.ind with
  | h t ih =>
  intro p x hx
  rw [T.preP_eq] at hx
  rcases List.mem_cons.1 hx with rfl | hx
  · exact ⟨[], by simp, fun i => rfl, fun z hz => by cases hz⟩
  · have key : ∀ k, k ≤ t.kids.length → x ∈ prePL p 1 (t.kids.take k) → ∃ i, i < t.kids.length ∧ x ∈ (gK t.kids i).preP (p ++ [(i : Int) + 1]) := by
      intro k
      induction k with
      | zero => intro _ h; simp [prePL] at h
      | succ k ihk =>
        intro hk h
        rw [prePL_take p (show k < t.kids.length by omega)] at h
        rcases List.mem_append.1 h with h | h
        · exact ihk (by omega) h
        · exact ⟨k, by omega, h⟩
    obtain ⟨i, hi, h⟩ := key t.kids.length (Nat.le_refl _) (by rw [List.take_length]; exact hx)
    obtain ⟨q, e1, e2, e3⟩ := ih i hi _ _ h
    have hs := kid_size hi
    have hts := T.size_eq t
    have hlen := length_le_sizeL t.kids
    refine ⟨((i : Int) + 1) :: q, by rw [e1]; simp, fun j => ?_, fun z hz => ?_⟩
    · rw [T.get, if_neg (by omega), show ((i : Int) + 1 - 1).toNat = i by omega]
      exact e2 (j + 1)
    · rcases List.mem_cons.1 hz with rfl | hz
      · exact ⟨by omega, by omega⟩
      · have := e3 z hz
        exact ⟨this.1, by have := this.2; omega⟩
def nonv (x : List Int × T) : Bool := decide (¬ x.2.head < 0)
theorem nodesK_nonv (X Y : Ru) (sm : Bool) : ∀ (l : List (List Int × T)) (K : Option (List Ru)), nodesK X Y sm (l.filter nonv) K = nodesK X Y sm l K
  | [], K => rfl
  | x :: r, K => by
    have ih := nodesK_nonv X Y sm r
    by_cases h : x.2.head < 0
    · have h1 : nonv x = false := by unfold nonv; simp [h]
      rw [List.filter_cons, h1]
      show nodesK X Y sm (r.filter nonv) K = nodesK X Y sm r (nodeStep X Y sm K x)
      rw [ih]
      congr 1
      unfold nodeStep
      cases K with
      | none => rfl
      | some K => exact (if_pos (.inl h)).symm
    · have h1 : nonv x = true := by unfold nonv; simp [h]
      rw [List.filter_cons, h1]
      exact ih _
theorem plcs_nonv (l : List (List Int × T)) : plcs l = (l.filter nonv).map (·.1) := rfl
theorem bnd_tail {σ : Nat → T} {N M : Nat} (hNM : N ≤ M) (h : ∀ x, N ≤ x → σ x = vT x) (k : Nat) : boundB (listT M (bnd σ)) k = boundB (listT N (bnd σ)) k ∧ (boundB (listT N (bnd σ)) k = true → gK (listT M (bnd σ)) k = gK (listT N (bnd σ)) k) := by
  unfold boundB
  rw [listT_length, listT_length]
  by_cases h1 : k < N
  · rw [decide_eq_true h1, decide_eq_true (show k < M by omega), listT_gK h1, listT_gK (show k < M by omega)]
    exact ⟨rfl, fun _ => rfl⟩
  · rw [decide_eq_false h1]
    by_cases h2 : k < M
    · rw [decide_eq_true h2, listT_gK h2]
      have : bnd σ k = zeroT := by unfold bnd; rw [if_pos (h k (by omega))]
      rw [this]
      exact ⟨rfl, fun h => by simp at h⟩
    · rw [decide_eq_false h2]
      exact ⟨rfl, fun h => by simp at h⟩
theorem sub_tail {σ : Nat → T} {N M : Nat} (hNM : N ≤ M) (h : ∀ x, N ≤ x → σ x = vT x) (t : T) : t.sub (listT M (bnd σ)) = t.sub (listT N (bnd σ)) := by
  induction t using T.ind with
  | h t ih =>
  cases t with | node hd ks =>
  rw [T.sub, T.sub]
  by_cases hn : hd < 0
  · rw [if_pos hn, if_pos hn]
    obtain ⟨h1, h2⟩ := bnd_tail hNM h (-hd - 1).toNat
    rw [h1]
    by_cases hb : boundB (listT N (bnd σ)) (-hd - 1).toNat = true
    · rw [if_pos hb, if_pos hb, h2 hb]
    · rw [if_neg hb, if_neg hb]
  · rw [if_neg hn, if_neg hn, subL_map, subL_map]
    congr 1
    refine List.map_congr_left fun x hx => ?_
    obtain ⟨i, hi, rfl⟩ := List.getElem_of_mem hx
    have := ih i hi
    rw [show gK (T.node hd ks).kids i = ks[i] from gK_get hi] at this
    exact this
/-- beyond the terms' own variables a canonical unifier leaves all as it is -/
theorem can_tail {N : Nat} {A B : T} {σ : Nat → T} (vA : VA N A) (vB : VA N B) (h : Canon (fun θ => A.inst θ = B.inst θ) σ) : ∀ x, N ≤ x → σ x = vT x := fun x hx => by
  have hco : ∀ (θ : Nat → T), A.inst θ = B.inst θ → ∀ u : T, A.inst (fun z => if z = x then u else θ z) = B.inst (fun z => if z = x then u else θ z) := fun θ hθ u => by
    have e : ∀ t, VA N t → t.inst (fun z => if z = x then u else θ z) = t.inst θ := fun t ht => inst_congr t (fun i hi => by
      have := has_lt ht hi
      show (if i = x then u else θ i) = θ i
      rw [if_neg (by omega)])
    rw [e A vA, e B vB]; exact hθ
  -- an instance of σ x may be any leaf, so that it is a variable
  have h1 := h.gen (fun z => if z = x then lfx else σ z) (hco σ h.sol lfx) x
  have h2 := h.gen (fun z => if z = x then vT x else σ z) (hco σ h.sol (vT x)) x
  simp only [if_true] at h1 h2
  have hv : (σ x).head < 0 := by
    refine Classical.byContradiction fun hn => ?_
    have h3 := congrArg T.head h2
    rw [T.inst_eq, if_neg hn, vT_head] at h3
    have h4 : (σ x).head = -(x : Int) - 1 := h3
    omega
  have hl := (h.lv x).leaf hv
  rw [inst_var hv] at h2
  by_cases e : vI (σ x) = x
  · rw [hl, e]
  · rw [if_neg e] at h2
    have h5 := (h.low x (vI (σ x)) hl).2
    exact absurd (vT_inj (h5.symm.trans h2)) e
theorem mgu_pair {X Y : Ru} {A : T} (hok : PairOk X Y A) {M : Nat} (hM : uN A Y.1 ≤ M) {L : List T} {c : Nat} (k : MguAns A Y.1 M L c) (at_ : List Int) :
    c = 3 ∨ (c = 2 ∧ pairF X Y at_ A = none) ∨ (c = 0 ∧ pairF X Y at_ A = some none) ∨
      (c = 1 ∧ L.length = M ∧ (∀ i, i < L.length → (gK L i).size ≤ 40) ∧ Tame ((T.withAt at_ X.1 Y.2).sub L) ∧ Tame (X.2.sub L) ∧
        pairF X Y at_ A = if (treeF (npair ((T.withAt at_ X.1 Y.2).sub L) (X.2.sub L)).1).1 = 0 ∧ (treeF (npair ((T.withAt at_ X.1 Y.2).sub L) (X.2.sub L)).2).1 = 0 then some (some (npair ((T.withAt at_ X.1 Y.2).sub L) (X.2.sub L))) else none) := by
  obtain ⟨_, _, vA, vB, hN⟩ := hok.solve
  rcases k with ⟨rfl, rfl, hn⟩ | ⟨rfl, _⟩ | ⟨τ, hm, k⟩
  · exact .inr (.inr (.inl ⟨rfl, by unfold pairF; rw [canU_none hn]⟩))
  · exact .inl rfl
  · have hcan := hm.canon
    have htl := can_tail vA vB hcan
    rcases k with ⟨rfl, rfl, hk⟩ | ⟨rfl, _, x, hx, h5, h6⟩
    · have hf : ∀ x, τ x ≠ vT x → fitN 0 1 (τ x) := fun x hx => by
        have hxM : x < M := Classical.byContradiction fun h => hx (htl x (by omega))
        have := hk x hxM hx
        unfold fitN; omega
      obtain ⟨p1, p2, p3, p4, p5, p6⟩ := pair_tame hok hcan hf at_
      have e1 := sub_tail hM htl (T.withAt at_ X.1 Y.2)
      have e2 := sub_tail hM htl X.2
      refine .inr (.inr (.inr ⟨rfl, listT_length _ _, fun i hi => ?_, by rw [e1]; exact p4, by rw [e2]; exact p5, ?_⟩))
      · rw [listT_length] at hi
        rw [listT_gK hi]
        by_cases hi2 : i < uN A Y.1
        · have := p6 i (by rw [listT_length]; exact hi2)
          rw [listT_gK hi2] at this
          exact this
        · unfold bnd; rw [if_pos (htl i (by omega))]; decide
      · rw [e1, e2]
        unfold pairF
        rw [canU_some hcan]
        exact if_pos hf
    · refine .inr (.inl ⟨rfl, ?_⟩)
      unfold pairF
      rw [canU_some hcan]
      exact if_neg fun h => by
        have := h x h5
        unfold fitN at this; omega
end Go.Proofs.Ytlhnfdjidjgfgaa
