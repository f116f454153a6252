/-
  Plain law: the best of what was tried is the best of all.
-/
import Derived.Test.YtlpoedjipncbhaaProg
import Derived.Test.YtlpoedjipncbhaaTw5
namespace Go.Proofs.Ytlpoedjipncbhaa
open Go.RowKit Go.Shelf
set_option linter.unusedVariables false

theorem best_inv (f : Nat → Int) : ∀ (xs : List AX) (s : Option (Int × AX)), (∀ b y, s = some (b, y) → b = f y.k) →
    (xs.foldl (bstep f) s = none ↔ s = none ∧ xs = []) ∧
    ∀ b y, xs.foldl (bstep f) s = some (b, y) → b = f y.k ∧ ((s = some (b, y)) ∨ y ∈ xs) ∧ (∀ x ∈ xs, b ≤ f x.k) ∧ (∀ b0 y0, s = some (b0, y0) → b ≤ b0)
  | [], s, h => by
    refine ⟨by simp, fun b y e => ?_⟩
    have e : s = some (b, y) := e
    exact ⟨h b y e, .inl e, by simp, fun b0 y0 e0 => by rw [e] at e0; simp only [Option.some.injEq, Prod.mk.injEq] at e0; omega⟩
  | x :: r, s, h => by
    have hs : ∀ b y, bstep f s x = some (b, y) → b = f y.k := by
      intro b y e
      cases s with
      | none => simp only [bstep, Option.some.injEq, Prod.mk.injEq] at e; rw [← e.1, ← e.2]
      | some p =>
        obtain ⟨b0, y0⟩ := p
        simp only [bstep] at e
        split at e
        · simp only [Option.some.injEq, Prod.mk.injEq] at e; rw [← e.1, ← e.2]
        · simp only [Option.some.injEq, Prod.mk.injEq] at e; rw [← e.1, ← e.2]; exact h b0 y0 rfl
    have hne : bstep f s x ≠ none := by
      cases s with
      | none => simp [bstep]
      | some p => obtain ⟨b0, y0⟩ := p; simp only [bstep]; split <;> simp
    obtain ⟨i1, i2⟩ := best_inv f r (bstep f s x) hs
    refine ⟨by rw [List.foldl_cons, i1]; simp [hne], fun b y e => ?_⟩
    rw [List.foldl_cons] at e
    obtain ⟨h1, h2, h3, h4⟩ := i2 b y e
    have h5 : (bstep f s x = some (f x.k, x) ∧ ∀ b0 y0, s = some (b0, y0) → f x.k < b0) ∨ (bstep f s x = s ∧ ∃ b0 y0, s = some (b0, y0) ∧ b0 ≤ f x.k) := by
      cases s with
      | none => exact .inl ⟨rfl, fun _ _ e => by cases e⟩
      | some p =>
        obtain ⟨b0, y0⟩ := p
        by_cases hlt : f x.k < b0
        · exact .inl ⟨by simp only [bstep, if_pos hlt], fun b1 y1 e => by simp only [Option.some.injEq, Prod.mk.injEq] at e; omega⟩
        · exact .inr ⟨by simp only [bstep, if_neg hlt], b0, y0, rfl, by omega⟩
    rcases h5 with ⟨e5, h6⟩ | ⟨e5, b0, y0, e0, h6⟩
    · have h7 := h4 _ _ e5
      refine ⟨h1, ?_, fun z hz => ?_, fun b0 y0 e0 => by have := h6 b0 y0 e0; omega⟩
      · rcases h2 with h2 | h2
        · rw [e5] at h2; simp only [Option.some.injEq, Prod.mk.injEq] at h2; exact .inr (by rw [← h2.2]; simp)
        · exact .inr (by simp [h2])
      · rcases List.mem_cons.1 hz with rfl | hz
        · exact h7
        · exact h3 z hz
    · rw [e5] at h2 h4
      have h7 := h4 _ _ e0
      refine ⟨h1, ?_, fun z hz => ?_, h4⟩
      · rcases h2 with h2 | h2
        · exact .inl h2
        · exact .inr (by simp [h2])
      · rcases List.mem_cons.1 hz with rfl | hz
        · omega
        · exact h3 z hz
theorem rev_bits : ∀ k : Fin 32, ∃ j : Fin 32, asgL j.val = bitsL k.val 5 := by decide +kernel
theorem rev_asg : ∀ k : Fin 32, ∃ j : Fin 32, bitsL j.val 5 = asgL k.val := by decide +kernel
theorem mem_sats {cs : List (List Int)} {k : Nat} : k ∈ satsN cs 32 ↔ k < 32 ∧ allT (fB (asgL k)) cs = true := by unfold satsN; simp
theorem cnt_pos {cs : List (List Int)} : 0 < cntN cs 32 ↔ satsN cs 32 ≠ [] := by
  unfold cntN
  rw [List.length_pos_iff]
  constructor
  · intro h e
    obtain ⟨k, hk⟩ := List.exists_mem_of_ne_nil _ h
    rw [List.mem_filter, List.mem_range] at hk
    obtain ⟨j, hj⟩ := rev_bits ⟨k, hk.1⟩
    have : j.val ∈ satsN cs 32 := mem_sats.2 ⟨j.isLt, by rw [hj]; exact hk.2⟩
    rw [e] at this; cases this
  · intro h e
    obtain ⟨k, hk⟩ := List.exists_mem_of_ne_nil _ h
    obtain ⟨h1, h2⟩ := mem_sats.1 hk
    obtain ⟨j, hj⟩ := rev_asg ⟨k, h1⟩
    have : j.val ∈ (List.range 32).filter (fun k => allT (fB (bitsL k 5)) cs) := List.mem_filter.2 ⟨List.mem_range.2 j.isLt, by rw [hj]; exact h2⟩
    rw [e] at this; cases this
/-- what the law wants to know of the best -/
theorem law_none {cs ls : List (List Int)} {ws : List Int} {xs : List AX} (h : xs.map (·.k) = satsN cs 32) (hs : bestX (soF ls ws) xs = none) : cntN cs 32 = 0 := by
  have h1 := ((best_inv (soF ls ws) xs none (fun _ _ e => by cases e)).1.1 hs).2
  subst h1
  have : ¬ 0 < cntN cs 32 := fun hp => cnt_pos.1 hp (by rw [← h]; rfl)
  omega
theorem law_some {cs ls : List (List Int)} {ws : List Int} {xs : List AX} {b : Int} {y : AX} (h : xs.map (·.k) = satsN cs 32) (hs : bestX (soF ls ws) xs = some (b, y)) :
    0 < cntN cs 32 ∧ allT (fB (asgL y.k)) cs = true ∧ b = sumW ls ws (fB (asgL y.k)) ls.length ∧ ∀ k, k < 32 → allT (fB (bitsL k 5)) cs = true → b ≤ sumW ls ws (fB (bitsL k 5)) ls.length := by
  obtain ⟨h1, h2, h3, _⟩ := (best_inv (soF ls ws) xs none (fun _ _ e => by cases e)).2 b y hs
  have hy : y.k ∈ satsN cs 32 := by
    rw [← h]
    rcases h2 with h2 | h2
    · cases h2
    · exact List.mem_map_of_mem h2
  refine ⟨cnt_pos.2 (fun e => by rw [e] at hy; cases hy), (mem_sats.1 hy).2, h1, fun k hk ha => ?_⟩
  obtain ⟨j, hj⟩ := rev_bits ⟨k, hk⟩
  have hm : j.val ∈ satsN cs 32 := mem_sats.2 ⟨j.isLt, by rw [hj]; exact ha⟩
  rw [← h] at hm
  obtain ⟨x, hx, hxk⟩ := List.mem_map.1 hm
  have h5 := h3 x hx
  rw [hxk] at h5
  unfold soF at h5
  rw [hj] at h5
  exact h5
end Go.Proofs.Ytlpoedjipncbhaa
