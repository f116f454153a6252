/-
  Plain: what the law TreeSays needs of places and sizes.
-/
import Derived.Test.YtcckgfgobakphaaP5
namespace Go.Proofs.Ytcckgfgobakphaa
open Go.RowKit
set_option linter.unusedVariables false

theorem get_valid : ∀ (p : List Int) (t : T) (i : Int), 0 ≤ i → (t.get p i).2 < 0 → ∀ z ∈ p, 1 ≤ z ∧ z ≤ t.size
  | [], _, _, _, _, z, hz => by cases hz
  | k :: r, t, i, hi, h, z, hz => by
    rw [T.get_cons] at h
    by_cases hb : k < 1 ∨ (t.kids.length : Int) < k
    · rw [if_pos hb] at h; simp only at h; omega
    · rw [if_neg hb] at h
      have hl := length_le_sizeL t.kids
      have hs := t.size_eq
      rcases List.mem_cons.1 hz with rfl | hz
      · omega
      · have h1 := get_valid r _ (i + 1) (by omega) h z hz
        have h2 := kid_size (show (k - 1).toNat < t.kids.length by omega)
        omega
theorem mapIdx_size (g : T → T) (m : Nat) (hg : ∀ k : T, (g k).size ≤ k.size + m) (p : Int) : ∀ (l : List T) (c : Int), sizeL (l.mapIdx fun i k => if (i : Int) + c = p then g k else k) ≤ sizeL l + m
  | [], c => by simp [sizeL]
  | x :: r, c => by
    rw [List.mapIdx_cons]
    simp only [sizeL]
    by_cases h : ((0 : Nat) : Int) + c = p
    · rw [if_pos h]
      have e : (r.mapIdx fun i k => if ((i + 1 : Nat) : Int) + c = p then g k else k) = r := by
        apply List.ext_getElem (by simp)
        intro i h1 h2
        rw [List.getElem_mapIdx, if_neg (by omega)]
      rw [e]
      have := hg x; omega
    · rw [if_neg h]
      have e : (fun (i : Nat) (k : T) => if ((i + 1 : Nat) : Int) + c = p then g k else k) = fun (i : Nat) (k : T) => if (i : Int) + (c + 1) = p then g k else k := by
        funext i k
        have : (((i + 1 : Nat) : Int) + c = p) ↔ ((i : Int) + (c + 1) = p) := by omega
        simp only [this]
      rw [e]
      have := mapIdx_size g m hg p r (c + 1); omega
theorem withAt_size (s : T) : ∀ (p : List Int) (t : T), (T.withAt p t s).size ≤ t.size + s.size
  | [], t => by rw [T.withAt]; omega
  | p :: ps, t => by
    rw [withAt_cons, T.size_eq, T.size_eq t]
    have h := mapIdx_size (fun k => T.withAt ps k s) s.size (fun k => withAt_size s ps k) p t.kids 1
    simp only [T.kids] at h ⊢
    omega
end Go.Proofs.Ytcckgfgobakphaa
