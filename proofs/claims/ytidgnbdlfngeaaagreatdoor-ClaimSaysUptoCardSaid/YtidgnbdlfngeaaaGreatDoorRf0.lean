/-
  Plain: what is read is no greater than its text.
-/
import Derived.Test.YtidgnbdlfngeaaaGreatDoorRc
import Derived.Test.YtidgnbdlfngeaaaGreatDoorRs
namespace Go.Proofs.YtidgnbdlfngeaaaGreatDoor
open Go.RowKit Go.Shelf
set_option linter.unusedVariables false

theorem pos_le {s r : Bs} {n : Nat} (h : posO s = some (n, r)) : r.length ≤ s.length := by
  rw [posO_eq] at h
  split at h
  · have := numR_le s
    rw [← (Prod.mk.inj (Option.some.inj h)).2]; exact this
  · cases h
theorem take1_len {a : UInt8} {s r : Bs} (h : takeO [a] s = some r) : r.length + 1 = s.length := by rw [take_say h]; simp
theorem term_size : ∀ f, (∀ d s t r, termO f d s = some (t, r) → t.size + r.length ≤ s.length) ∧ (∀ d s ks r, kidsO f d s = some (ks, r) → sizeL ks + r.length ≤ s.length) := by
  intro f
  induction f with
  | zero => exact ⟨fun d s t r h => by simp [termO] at h, fun d s ks r h => by simp [kidsO] at h⟩
  | succ f ih =>
    constructor
    · intro d s t r h
      rw [termO] at h
      by_cases hd : 12 < d
      · rw [if_pos hd] at h; cases h
      · rw [if_neg hd] at h
        cases hx : takeO [120] s with
        | some r1 =>
          rw [hx] at h
          obtain ⟨⟨n, r2⟩, h1, h2⟩ := Option.map_eq_some_iff.1 h
          obtain ⟨rfl, rfl⟩ := Prod.mk.inj h2
          have h3 := pos_le h1
          have h4 := take1_len hx
          simp only [T.size, sizeL]; omega
        | none =>
          rw [hx] at h
          simp only [] at h
          cases hy : takeO [115] s with
          | none => rw [hy] at h; cases h
          | some r1 =>
            rw [hy] at h
            simp only [] at h
            cases h1 : posO r1 with
            | none => rw [h1] at h; cases h
            | some x =>
              obtain ⟨n, r2⟩ := x
              rw [h1] at h
              simp only [] at h
              have h4 := pos_le h1
              have h5 := take1_len hy
              cases hz : takeO [40] r2 with
              | some r3 =>
                rw [hz] at h
                obtain ⟨⟨ks, r4⟩, h2, h3⟩ := Option.map_eq_some_iff.1 h
                obtain ⟨rfl, rfl⟩ := Prod.mk.inj h3
                have h6 := ih.2 _ _ _ _ h2
                have h7 := take1_len hz
                simp only [T.size] at h6 ⊢; omega
              | none =>
                rw [hz] at h
                obtain ⟨rfl, rfl⟩ := Prod.mk.inj (Option.some.inj h)
                simp only [T.size, sizeL]; omega
    · intro d s ks r h
      rw [kidsO] at h
      cases h1 : termO f (d + 1) s with
      | none => rw [h1] at h; cases h
      | some x =>
        obtain ⟨k, r1⟩ := x
        rw [h1] at h
        simp only [] at h
        have h4 := ih.1 _ _ _ _ h1
        cases hx : takeO [44] r1 with
        | some r2 =>
          rw [hx] at h
          obtain ⟨⟨ks', r3⟩, h2, h3⟩ := Option.map_eq_some_iff.1 h
          obtain ⟨rfl, rfl⟩ := Prod.mk.inj h3
          have h5 := ih.2 _ _ _ _ h2
          have h6 := take1_len hx
          simp only [sizeL] at h5 ⊢; omega
        | none =>
          rw [hx] at h
          simp only [] at h
          cases hy : takeO [41] r1 with
          | none => rw [hy] at h; cases h
          | some r2 =>
            rw [hy] at h
            obtain ⟨rfl, rfl⟩ := Prod.mk.inj (Option.some.inj h)
            have h6 := take1_len hy
            simp only [sizeL]; omega
theorem not_le (s : Bs) : (notO s).2.length ≤ s.length := by
  have := congrArg List.length (notO_say s)
  rw [List.length_append] at this; omega
theorem fact_size {s r : Bs} {f : Fc} (h : factO s = some (f, r)) : f.l.size ≤ s.length ∧ f.r.size ≤ s.length ∧ r.length + 1 ≤ s.length := by
  unfold factO at h
  cases h1 : takeO [32] s with
  | none => rw [h1] at h; cases h
  | some s1 =>
    rw [h1] at h; simp only [] at h
    have e1 := take1_len h1
    cases h2 : termO (fT s1) 1 s1 with
    | none => rw [h2] at h; cases h
    | some x =>
      obtain ⟨a, s2⟩ := x
      rw [h2] at h; simp only [] at h
      have e2 := (term_size _).1 _ _ _ _ h2
      have e3 := not_le s2
      cases h3 : takeO [61] (notO s2).2 with
      | none => rw [h3] at h; cases h
      | some s3 =>
        rw [h3] at h; simp only [] at h
        have e4 := take1_len h3
        cases h4 : termO (fT s3) 1 s3 with
        | none => rw [h4] at h; cases h
        | some x =>
          obtain ⟨b, s4⟩ := x
          rw [h4] at h
          obtain ⟨rfl, rfl⟩ := Prod.mk.inj (Option.some.inj h)
          have e5 := (term_size _).1 _ _ _ _ h4
          simp only; omega
theorem gap_le {first : Bool} {s r : Bs} (h : gapO first s = some r) : r.length ≤ s.length := by
  unfold gapO at h
  cases first with
  | true => rw [if_pos rfl] at h; rw [← Option.some.inj h]; exact Nat.le_refl _
  | false => rw [if_neg (by simp)] at h; rw [take_say h]; simp; omega
theorem facts_size : ∀ n first s fs, factsL n first s = some fs → fs.length ≤ s.length ∧ ∀ f ∈ fs, f.l.size ≤ s.length ∧ f.r.size ≤ s.length
  | 0, first, s, fs, h => by simp [factsL] at h
  | n + 1, first, s, fs, h => by
    rw [factsL] at h
    split at h
    · rw [← Option.some.inj h]; simp
    · cases h1 : gapO first s with
      | none => rw [h1] at h; cases h
      | some s0 =>
        rw [h1] at h; simp only [] at h
        have e1 := gap_le h1
        cases h2 : factO s0 with
        | none => rw [h2] at h; cases h
        | some x =>
          obtain ⟨f, r⟩ := x
          rw [h2] at h; simp only [] at h
          have e2 := fact_size h2
          obtain ⟨l, h3, rfl⟩ := Option.map_eq_some_iff.1 h
          have e3 := facts_size n false r l h3
          refine ⟨by rw [List.length_cons]; omega, fun g hg => ?_⟩
          rcases List.mem_cons.1 hg with rfl | hg
          · omega
          · have := e3.2 g hg; omega
/-- a claim that is small -/
def smC (N : Nat) (c : List Fc) : Prop := c.length ≤ N ∧ ∀ f ∈ c, f.l.size ≤ N ∧ f.r.size ≤ N
theorem smC.mono {N M : Nat} {c : List Fc} (h : smC N c) (hm : N ≤ M) : smC M c := ⟨Nat.le_trans h.1 hm, fun f hf => ⟨Nat.le_trans (h.2 f hf).1 hm, Nat.le_trans (h.2 f hf).2 hm⟩⟩
theorem claim_size {s : Bs} {c : List Fc} (h : claimO s = some c) : smC s.length c := by
  unfold claimO at h
  cases h1 : takeO sClaim s with
  | none => rw [h1] at h; cases h
  | some r =>
    rw [h1] at h; simp only [] at h
    have e1 : r.length ≤ s.length := by rw [take_say h1]; simp
    have e2 := facts_size _ _ _ _ h
    exact smC.mono (N := r.length) e2 e1
theorem smC.trees {N : Nat} {c : List Fc} (h : smC N c) : ∀ t ∈ treesF c, t.size ≤ N := by
  obtain ⟨hl, h⟩ := h
  clear hl
  induction c with
  | nil => intro t ht; simp [treesF] at ht
  | cons f c ih =>
    intro t ht
    have e := h f (by simp)
    have : t = f.l ∨ t = f.r ∨ t ∈ treesF c := by simpa [treesF, or_assoc] using ht
    rcases this with rfl | rfl | h3
    · exact e.1
    · exact e.2
    · exact ih (fun g hg => h g (by simp [hg])) t h3
end Go.Proofs.YtidgnbdlfngeaaaGreatDoor
