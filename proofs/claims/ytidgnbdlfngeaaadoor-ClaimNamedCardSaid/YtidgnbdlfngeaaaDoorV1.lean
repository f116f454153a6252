/-
  Rows of rows of integers; slices.IndexFunc and ContainsFunc over integers, claims and facts; table.Power.
-/
import Derived.Test.YtidgnbdlfngeaaaDoorProg
import Derived.Test.YtidgnbdlfngeaaaDoorE6
import Derived.Test.YtidgnbdlfngeaaaDoorE4
import Derived.Test.YtidgnbdlfngeaaaDoorXb
import Derived.RegionTactic
import Derived.IntWalk
import Derived.Lib.QuietBelow
namespace Go.Proofs.YtidgnbdlfngeaaaDoor
open Go.RowKit Go.Shelf
set_option linter.unusedVariables false
set_option maxHeartbeats 400000

/-- a row of integers as an element -/
def intsE : Elt (List Int) where
  ty := 22
  n := 1
  is p w cs a := ∃ k sp, cs = [.slice k a.length (a.length + sp)] ∧ intE.Row p w k a ∧ a.length ≤ maxLen
  pos := by omega
  len := fun ⟨k, sp, e, _⟩ => by rw [e]; rfl
  one := fun ⟨k, sp, e, _⟩ u hu => by rw [e] at hu; simp at hu; subst hu; rfl
  keep := fun hk ⟨k, sp, e, h, h2⟩ => ⟨k, sp, e, h.keep hk, h2⟩
theorem Elt.Row.ints {p : Nat → Prop} {w : World} {ao : Option Addr} {cs : List (List Int)} (h : intsE.Row p w ao cs) {i : Nat} (hi : i < cs.length) : ∃ b off k sp, ao = some ⟨b, off, none⟩ ∧ p b ∧
    w.cell? ⟨b, off + i, none⟩ = some (.slice k cs[i].length (cs[i].length + sp)) ∧ intE.Row p w k cs[i] ∧ cs[i].length ≤ maxLen := by
  obtain ⟨b, off, c, e, hp, hc, k, sp, rfl, h1, h2⟩ := h i cs[i] (List.getElem?_eq_getElem hi)
  exact ⟨b, off, k, sp, e, hp, by have := hc 0 _ rfl; simpa [intsE] using this, h1, h2⟩
/-- of a list: the first that is so -/
def idxP {α : Type} (P : α → Bool) (l : List α) : Int := firstZ (fun i => (l[i]?).elim false P) l.length
theorem idxP_hit {α : Type} {P : α → Bool} {l : List α} {k : Nat} (hk : k < l.length) (hno : ∀ (j : Nat) x, j < k → l[j]? = some x → P x = false) (hp : P l[k] = true) : idxP P l = k :=
  firstZ_hit hk (fun j hj => by rw [List.getElem?_eq_getElem (by omega)]; exact hno j _ hj (List.getElem?_eq_getElem (by omega))) (by rw [List.getElem?_eq_getElem hk]; exact hp)
theorem idxP_none {α : Type} {P : α → Bool} {l : List α} (hno : ∀ (j : Nat) x, j < l.length → l[j]? = some x → P x = false) : idxP P l = -1 :=
  firstZ_none (fun j hj => by rw [List.getElem?_eq_getElem hj]; exact hno j _ hj (List.getElem?_eq_getElem hj))
theorem idxP_any {α : Type} {P : α → Bool} {l : List α} : (0 ≤ idxP P l) ↔ l.any P = true := by
  unfold idxP
  rw [firstZ_nonneg, anyB_iff, List.any_eq_true]
  constructor
  · rintro ⟨j, hj, h⟩
    rw [List.getElem?_eq_getElem hj] at h
    exact ⟨l[j], List.getElem_mem hj, h⟩
  · rintro ⟨x, hx, h⟩
    obtain ⟨j, hj, rfl⟩ := List.getElem_of_mem hx
    exact ⟨j, hj, by rw [List.getElem?_eq_getElem hj]; exact h⟩

set_option maxRecDepth 100000 in
theorem idxI (fn : Nat) (cap : Array Value) (eg : ∀ args w, (callFunc fn args).run Tryd.prog w = .ok (.enter fn args) w)
    (p : Nat → Prop) (ao : Option Addr) (xs : List Int) (cp : Nat) (P : Int → Bool) (w : World) (hn : xs.length ≤ maxLen) (hc : intE.Row p w ao xs)
    (hf : ∀ (i : Nat) x w1, xs[i]? = some x → Below w.heap.size w w1 → Calls Tryd.prog fn (#[.int .i64 x] ++ cap) w1 fun e w2 => e = .returned (.bool (P x)) ∧ Below w1.heap.size w1 w2) :
    Calls Tryd.prog 31 #[.slice ao xs.length cp, .func (.func fn) #[] cap] w fun e w' => e = .returned (.int .i64 (idxP P xs)) ∧ Below w.heap.size w w' := by
  have HF := Lib.hid hf
  have HC := Lib.hid hc
  have hn' : xs.length ≤ 9223372036854775807 := by unfold maxLen at hn; omega
  clear hf hc hn
  go_enter Tryd.func31, Tryd.ntmps31
  go_wp2
  go_loopw [5, 8] (fun _ i wr => ∃ k : Nat, k ≤ xs.length ∧ i = .int .i64 k ∧ (∀ (j : Nat) x, j < k → xs[j]? = some x → P x = false) ∧ Below w.heap.size w wr) (fun _ i _ => xs.length - (intOf i).toNat)
  case atStart => exact ⟨0, Nat.zero_le _, rfl, fun j x hj _ => by omega, Below.refl _ _⟩
  case round =>
    obtain ⟨k, hk, rfl, hno, hbel⟩ := hrel
    have HN := Lib.hid hno
    clear hno
    by_cases hlt : k < xs.length
    · obtain ⟨b, off, rfl, hpb, c1⟩ := (HC.out.kept hbel).int hlt
      have HX := Lib.hid (List.getElem?_eq_getElem hlt)
      go_wp2_with fail
      refine (HF.out k _ _ HX.out hbel).mono ?_
      rintro e w1 ⟨rfl, hb1⟩
      have hbel1 := Below.step hbel hb1
      cases hp : P xs[k] with
      | true =>
        have HP := Lib.hid hp; clear hp
        go_wp2
        go_ret
        exact ⟨ret_int (idxP_hit hlt HN.out HP.out).symm, hbel1⟩
      | false =>
        have HP := Lib.hid (no_step hlt HN.out hp); clear hp
        go_wp2
        go_roundw
        case rel => exact ⟨k + 1, by omega, by go_num, HP.out, hbel1⟩
        case measure => simp [intOf] <;> omega
    · obtain rfl : k = xs.length := by omega
      go_wp2
      go_ret
      exact ⟨ret_int (idxP_none HN.out).symm, hbel⟩

/-- a power, up to a limit, as the program reckons it -/
def powN (b : Nat) (most : Nat) : Nat → Nat → Nat
  | 0, out => out
  | n + 1, out => if most < out * b then out * b else powN b most n (out * b)
theorem powN_le {b most : Nat} (hb : b ≤ 4) (hm : 1 ≤ most) : ∀ (n out : Nat), out ≤ most → powN b most n out ≤ 4 * most
  | 0, out, h => by rw [powN]; omega
  | n + 1, out, h => by
    rw [powN]
    have h4 : out * b ≤ most * 4 := Nat.mul_le_mul h hb
    by_cases hx : most < out * b
    · rw [if_pos hx]; omega
    · rw [if_neg hx]; exact powN_le hb hm n _ (by omega)
theorem powN_eq {b most : Nat} (hb : 1 ≤ b) : ∀ (n out : Nat), powN b most n out ≤ most → powN b most n out = out * b ^ n
  | 0, out, h => by simp [powN]
  | n + 1, out, h => by
    rw [powN] at h ⊢
    by_cases hx : most < out * b
    · rw [if_pos hx] at h; omega
    · rw [if_neg hx] at h ⊢
      rw [powN_eq hb n _ h, Nat.pow_succ, Nat.mul_assoc, Nat.mul_comm b]
theorem powN_of {b most : Nat} (hb : 1 ≤ b) : ∀ (n out : Nat), out * b ^ n ≤ most → powN b most n out = out * b ^ n
  | 0, out, h => by simp [powN]
  | n + 1, out, h => by
    have e : out * b * b ^ n = out * b ^ (n + 1) := by rw [Nat.pow_succ, Nat.mul_assoc, Nat.mul_comm b]
    have hp : 1 ≤ b ^ n := Nat.one_le_pow _ _ hb
    have h1 : out * b ≤ out * b * b ^ n := Nat.le_mul_of_pos_right _ hp
    rw [powN, if_neg (by rw [← e] at h; omega), powN_of hb n _ (by rw [e]; exact h), e]

end Go.Proofs.YtidgnbdlfngeaaaDoor
