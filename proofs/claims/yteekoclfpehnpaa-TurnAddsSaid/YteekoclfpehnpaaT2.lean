/-
  Walks: the document's Size, Deep, Same of trees.
-/
import Derived.Test.YteekoclfpehnpaaProg
import Derived.Test.YteekoclfpehnpaaBase
import Derived.Test.YteekoclfpehnpaaT1
namespace Go.Proofs.Yteekoclfpehnpaa
open Go.RowKit Go.Shelf
set_option linter.unusedVariables false

mutual
def T.deep : T → Nat
  | .node _ ks => deepL ks + 1
def deepL : List T → Nat
  | [] => 0
  | t :: r => max t.deep (deepL r)
end
theorem T.deep_eq (t : T) : t.deep = deepL t.kids + 1 := by cases t; simp [T.deep, T.kids]
theorem deepL_append : ∀ (a b : List T), deepL (a ++ b) = max (deepL a) (deepL b)
  | [], b => by simp [deepL]
  | t :: r, b => by simp [deepL, deepL_append r b, Nat.max_assoc]
theorem deepL_take {l : List T} {i : Nat} (h : i < l.length) : deepL (l.take (i + 1)) = max (deepL (l.take i)) (gK l i).deep := by
  rw [take_gK h, deepL_append]; simp [deepL]
theorem deepL_take_le : ∀ (l : List T) (i : Nat), deepL (l.take i) ≤ deepL l
  | [], i => by simp [deepL]
  | t :: r, 0 => by simp [deepL]
  | t :: r, i + 1 => by simp only [List.take_succ_cons, deepL]; have := deepL_take_le r i; omega
theorem deep_le (t : T) : t.deep ≤ t.size := by
  induction t using T.ind with
  | h t ih =>
    rw [T.deep_eq, T.size_eq]
    have : ∀ k, k ≤ t.kids.length → deepL (t.kids.take k) ≤ sizeL (t.kids.take k) := by
      intro k
      induction k with
      | zero => intro _; simp [deepL]
      | succ k ihk =>
        intro hk
        rw [deepL_take (by omega), sizeL_take (by omega)]
        have h1 := ihk (by omega); have h2 := ih k (by omega)
        omega
    have := this t.kids.length (Nat.le_refl _)
    rw [List.take_length] at this
    omega

set_option maxRecDepth 100000 in
set_option maxHeartbeats 4000000 in
theorem size41 (t : T) : ∀ (v : Value) (w : World), t.size ≤ 1000000000 → TreeAt w v t →
    Calls Try.prog 70 #[v] w fun e w' => e = .returned (.int .i64 (t.size : Int)) ∧ Below w.heap.size w w' := by
  induction t using T.ind with
  | h t ih =>
  intro v w hsz ht
  obtain ⟨ao, sp, rfl, hr, hml⟩ := ht.open
  have hml : t.kids.length ≤ 9223372036854775807 := hml
  have HR := Lib.hid hr; have IH := Lib.hid ih
  have HSZ := Lib.hid (show sizeL t.kids < 1000000000 by rw [T.size_eq] at hsz; omega)
  have HTS := Lib.hid (T.size_eq t)
  clear ht hr ih hsz
  have hbx := heap_ofAlloc w (.cells #[.int .i64 t.head, .slice ao t.kids.length (t.kids.length + sp)] 44)
  have hb0 := (Below.refl w.heap.size w).alloc (Nat.le_refl _) (.cells #[.int .i64 t.head, .slice ao t.kids.length (t.kids.length + sp)] 44)
  go_enter Try.func70, Try.ntmps70
  go_wp2_with fail
  generalize w.alloc (.cells #[.int .i64 t.head, .slice ao t.kids.length (t.kids.length + sp)] 44) = w0 at hbx hb0 ⊢
  have XB := Lib.hid hbx; have HB0 := Lib.hid hb0
  clear hbx
  go_loopw [3, 4] (fun n i wr => ∃ (k : Nat) (N : Int), k ≤ t.kids.length ∧ i = .int .i64 k ∧ n = .int .i64 N ∧ N = 1 + (sizeL (t.kids.take k) : Int) ∧ Below w0.heap.size w0 wr) (fun _ i _ => t.kids.length - (intOf i).toNat)
  case atStart => exact ⟨0, 1, by omega, rfl, rfl, by simp [sizeL], Below.refl _ _⟩
  case round =>
    obtain ⟨k, N, hk, rfl, rfl, hN, hb⟩ := hrel
    have hle := sizeL_take_le t.kids k
    have hN0 : 0 ≤ N ∧ N ≤ 1000000000 := by have := HSZ.out; omega
    have HN := Lib.hid hN
    clear hN hle
    obtain ⟨⟨x0, _⟩, x1, _⟩ := box2 (Below.heapAt hb XB.out)
    clear x0
    by_cases hlt : k < t.kids.length
    · obtain ⟨b, off, ko, ksp, rfl, c1, c2, c3⟩ := (HR.out.below (Below.step HB0.out hb)) k hlt
      have HST := Lib.hid (sizeL_take hlt)
      have hs1 := kid_size hlt
      have hs2 : (gK t.kids k).size ≤ 1000000000 := by have := HSZ.out; omega
      have HC := Lib.hid c3
      clear c3 hs1
      go_wp2_with fail
      refine (IH.out k hlt _ _ hs2 HC.out).mono ?_
      rintro e w2 ⟨rfl, hb2⟩
      have hb3 := Below.step hb hb2
      clear hb2
      generalize hQ : (gK t.kids k).size = Q at hs2 HST ⊢
      clear hQ
      go_wp2_with fail
      go_roundw
      case rel => exact ⟨k + 1, _, by omega, by go_num, rfl, by have h2 := HN.out; have h3 := HST.out; rw [h3, h2]; omega, hb3⟩
      case measure => simp [intOf] <;> omega
    · obtain rfl : k = t.kids.length := by omega
      go_wp2_with fail
      go_ret
      exact ⟨ret_int (by have h2 := HN.out; rw [List.take_length] at h2; rw [HTS.out, h2]; omega), Below.step HB0.out hb⟩

set_option maxRecDepth 100000 in
set_option maxHeartbeats 4000000 in
theorem deep43 (t : T) : ∀ (v : Value) (w : World), t.deep ≤ 1000000000 → TreeAt w v t →
    Calls Try.prog 91 #[v] w fun e w' => e = .returned (.int .i64 (t.deep : Int)) ∧ Below w.heap.size w w' := by
  induction t using T.ind with
  | h t ih =>
  intro v w hsz ht
  obtain ⟨ao, sp, rfl, hr, hml⟩ := ht.open
  have hml : t.kids.length ≤ 9223372036854775807 := hml
  have HR := Lib.hid hr; have IH := Lib.hid ih
  have HSZ := Lib.hid (show deepL t.kids < 1000000000 by rw [T.deep_eq] at hsz; omega)
  have HTS := Lib.hid (T.deep_eq t)
  clear ht hr ih hsz
  have hbx := heap_ofAlloc w (.cells #[.int .i64 t.head, .slice ao t.kids.length (t.kids.length + sp)] 44)
  have hb0 := (Below.refl w.heap.size w).alloc (Nat.le_refl _) (.cells #[.int .i64 t.head, .slice ao t.kids.length (t.kids.length + sp)] 44)
  go_enter Try.func91, Try.ntmps91
  go_wp2_with fail
  generalize w.alloc (.cells #[.int .i64 t.head, .slice ao t.kids.length (t.kids.length + sp)] 44) = w0 at hbx hb0 ⊢
  have XB := Lib.hid hbx; have HB0 := Lib.hid hb0
  clear hbx
  go_loopw [3, 4, 5] (fun n i _ wr => ∃ (k : Nat) (N : Int), k ≤ t.kids.length ∧ i = .int .i64 k ∧ n = .int .i64 N ∧ N = (deepL (t.kids.take k) : Int) ∧ Below w0.heap.size w0 wr) (fun _ i _ _ => t.kids.length - (intOf i).toNat)
  case atStart => exact ⟨0, 0, by omega, rfl, rfl, by simp [deepL], Below.refl _ _⟩
  case round =>
    obtain ⟨k, N, hk, rfl, rfl, hN, hb⟩ := hrel
    have hle := deepL_take_le t.kids k
    have hN0 : 0 ≤ N ∧ N ≤ 1000000000 := by have := HSZ.out; omega
    have HN := Lib.hid hN
    clear hN hle
    obtain ⟨⟨x0, _⟩, x1, _⟩ := box2 (Below.heapAt hb XB.out)
    clear x0
    by_cases hlt : k < t.kids.length
    · obtain ⟨b, off, ko, ksp, rfl, c1, c2, c3⟩ := (HR.out.below (Below.step HB0.out hb)) k hlt
      have HST := Lib.hid (deepL_take hlt)
      have hs1 := deepL_take_le t.kids (k + 1)
      have hs2 : (gK t.kids k).deep ≤ 1000000000 := by have := HSZ.out; have h := HST.out; omega
      have HC := Lib.hid c3
      clear c3 hs1
      go_wp2_with fail
      refine (IH.out k hlt _ _ hs2 HC.out).mono ?_
      rintro e w2 ⟨rfl, hb2⟩
      have hb3 := Below.step hb hb2
      clear hb2
      generalize hQ : (gK t.kids k).deep = Q at hs2 HST ⊢
      clear hQ
      by_cases hgt : N < (Q : Int)
      · go_wp2_with fail
        go_roundw
        case rel => exact ⟨k + 1, _, by omega, by go_num, rfl, by have h2 := HN.out; have h3 := HST.out; rw [h3]; omega, hb3⟩
        case measure => simp [intOf] <;> omega
      · go_wp2_with fail
        go_roundw
        case rel => exact ⟨k + 1, _, by omega, by go_num, rfl, by have h2 := HN.out; have h3 := HST.out; rw [h3]; omega, hb3⟩
        case measure => simp [intOf] <;> omega
    · obtain rfl : k = t.kids.length := by omega
      go_wp2_with fail
      go_ret
      exact ⟨ret_int (by have h2 := HN.out; rw [List.take_length] at h2; rw [HTS.out, h2]; omega), Below.step HB0.out hb⟩

theorem fault42 (c at_ : Int) (w : World) : Calls Try.prog 72 #[.int .i64 c, .int .i64 at_] w fun e w' => e = .returned (.agg #[.int .i64 c, .int .i64 at_]) ∧ Below w.heap.size w w' := by
  go_enter Try.func72, Try.ntmps72
  go_wp2
  refine bodyPost_ret (v := .agg #[.int .i64 c, .int .i64 at_]) (by simp [results, Try.results72, go_sem]) rfl ⟨rfl, (Below.refl _ _).alloc (Nat.le_refl _) _⟩
theorem fault20 (c at_ : Int) (w : World) : Calls Try.prog 19 #[.int .i64 c, .int .i64 at_] w fun e w' => e = .returned (.agg #[.int .i64 c, .int .i64 at_]) ∧ Below w.heap.size w w' := by
  go_enter Try.func19, Try.ntmps19
  go_wp2
  refine bodyPost_ret (v := .agg #[.int .i64 c, .int .i64 at_]) (by simp [results, Try.results19, go_sem]) rfl ⟨rfl, (Below.refl _ _).alloc (Nat.le_refl _) _⟩
theorem in54 (n lo hi : Int) (w : World) : Calls Try.prog 71 #[.int .i64 n, .int .i64 lo, .int .i64 hi] w fun e w' => e = .returned (.bool (decide (lo ≤ n ∧ n ≤ hi))) ∧ w' = w := by
  go_enter Try.func71, Try.ntmps71
  go_wp2
  all_goals (go_ret; exact ⟨ret_bool (by simp; try omega), rfl⟩)
end Go.Proofs.Yteekoclfpehnpaa
