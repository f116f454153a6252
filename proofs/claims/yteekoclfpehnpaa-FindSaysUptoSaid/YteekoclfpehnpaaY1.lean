/-
  Plain laws: to hold of all things, one by one, is to hold of each row of things.
-/
import Derived.Test.YteekoclfpehnpaaZ8
namespace Go.Proofs.Yteekoclfpehnpaa
open Go.RowKit Go.Shelf
set_option linter.unusedVariables false
set_option maxHeartbeats 400000

theorem allF_iff {s : Nat} {tb : List (List Int)} {fs : List Fc} : ∀ {m : Nat} {th : List Int}, allF s tb fs m th = true ↔ ∀ ds : List Int, ds.length = m → ThOK s ds → fs.any (factB s tb (th ++ ds)) = true
  | 0, th => by
    rw [allF]
    constructor
    · intro h ds hl _
      obtain rfl := List.eq_nil_of_length_eq_zero hl
      rw [List.append_nil]; exact h
    · intro h
      have := h [] rfl (fun x hx => by cases hx)
      rwa [List.append_nil] at this
  | m + 1, th => by
    rw [allF, List.all_eq_true]
    constructor
    · intro h ds hl hok
      cases ds with
      | nil => cases hl
      | cons d r =>
        obtain ⟨h0, h1⟩ := hok d (List.mem_cons_self ..)
        have h2 := h d.toNat (List.mem_range.2 (by omega))
        rw [Int.toNat_of_nonneg h0] at h2
        have := allF_iff.1 h2 r (by simpa using hl) (fun y hy => hok y (List.mem_cons_of_mem _ hy))
        rwa [List.append_assoc, List.singleton_append] at this
    · intro h n hn
      refine allF_iff.2 fun ds hl hok => ?_
      rw [List.append_assoc, List.singleton_append]
      refine h _ (by simp [hl]) fun y hy => ?_
      rcases List.mem_cons.1 hy with rfl | hy
      · have := List.mem_range.1 hn; omega
      · exact hok y hy
theorem wide_powC {s : Nat} (hs : 1 ≤ s) (fs : List Fc) : wideB s fs = decide (4096 < s ^ varsC fs) := by
  unfold wideB
  by_cases h : 1 * s ^ varsC fs ≤ 4096
  · rw [powN_of hs _ _ h]
    rw [Nat.one_mul]
    congr 1
    exact propext ⟨fun h => by omega, fun h => by omega⟩
  · have h2 : ¬ powN s 4096 (varsC fs) 1 ≤ 4096 := fun h3 => h (by rw [← powN_eq hs _ _ h3]; exact h3)
    rw [decide_eq_true (by omega), decide_eq_true (by omega)]
theorem allF_true {s : Nat} (hs : 1 ≤ s) {tb : List (List Int)} {fs : List Fc} (hw : wideB s fs = false) : allF s tb fs (varsC fs) [] = trueF s tb fs := by
  rw [wide_powC hs, decide_eq_false_iff_not] at hw
  unfold trueF
  rw [powN_of hs _ _ (by omega), Nat.one_mul, Bool.eq_iff_iff, allF_iff, List.all_eq_true]
  constructor
  · intro h k _
    exact h _ (dig_length _ _) (dig_ok hs _ _)
  · intro h ds hl hok
    obtain ⟨k, hk, he⟩ := dig_all hok
    rw [hl] at hk he
    have := h k (List.mem_range.2 hk)
    rw [he] at this
    exact this
end Go.Proofs.Yteekoclfpehnpaa
