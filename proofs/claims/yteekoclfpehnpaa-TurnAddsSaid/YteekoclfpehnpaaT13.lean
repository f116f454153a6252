/-
  Walks: the document's Most.
-/
import Derived.Test.YteekoclfpehnpaaProg
import Derived.Test.YteekoclfpehnpaaBase
import Derived.Test.YteekoclfpehnpaaT10
namespace Go.Proofs.Yteekoclfpehnpaa
open Go.RowKit Go.Shelf
set_option linter.unusedVariables false

mutual
def T.most : T → Int
  | .node h ks => max (if h < 0 then -h else 0) (mostL ks)
def mostL : List T → Int
  | [] => 0
  | t :: r => max t.most (mostL r)
end
theorem T.most_eq (t : T) : t.most = max (if t.head < 0 then -t.head else 0) (mostL t.kids) := by cases t; rw [T.most]; rfl
theorem mostL_nonneg : ∀ l, 0 ≤ mostL l
  | [] => by simp [mostL]
  | t :: r => by simp only [mostL]; have := mostL_nonneg r; omega
theorem mostL_append : ∀ (a b : List T), mostL (a ++ b) = max (mostL a) (mostL b)
  | [], b => by simp only [List.nil_append, mostL]; have := mostL_nonneg b; omega
  | t :: r, b => by simp only [List.cons_append, mostL, mostL_append r b]; omega
theorem T.most_nonneg (t : T) : 0 ≤ t.most := by rw [T.most_eq]; have := mostL_nonneg t.kids; split <;> omega
theorem mostL_take {l : List T} {i : Nat} (h : i < l.length) : mostL (l.take (i + 1)) = max (mostL (l.take i)) (gK l i).most := by
  rw [take_gK h, mostL_append]; simp only [mostL]; have := (gK l i).most_nonneg; omega

set_option maxRecDepth 100000 in
set_option maxHeartbeats 4000000 in
theorem most30 (t : T) : ∀ (v : Value) (w : World), t.low → TreeAt w v t →
    Calls Try.prog 60 #[v] w fun e w' => e = .returned (.int .i64 t.most) ∧ Below w.heap.size w w' := by
  induction t using T.ind with
  | h t ih =>
  intro v w hlow ht
  obtain ⟨ao, sp, rfl, hr, hml⟩ := ht.open
  have hml : t.kids.length ≤ 9223372036854775807 := hml
  have HR := Lib.hid hr; have IH := Lib.hid ih
  have HLOW := Lib.hid ((T.low_eq t).1 hlow)
  have hlo : -1000 ≤ t.head := HLOW.out.1
  have hte := T.most_eq t
  clear ht hr ih hlow
  have hbx := heap_ofAlloc w (.cells #[.int .i64 t.head, .slice ao t.kids.length (t.kids.length + sp)] 44)
  have hb0 := (Below.refl w.heap.size w).alloc (Nat.le_refl _) (.cells #[.int .i64 t.head, .slice ao t.kids.length (t.kids.length + sp)] 44)
  by_cases hneg : t.head < 0
  · rw [if_pos hneg] at hte
    have HTS := Lib.hid hte; clear hte
    go_enter Try.func60, Try.ntmps60
    go_wp2_with fail
    generalize w.alloc (.cells #[.int .i64 t.head, .slice ao t.kids.length (t.kids.length + sp)] 44) = w0 at hbx hb0 ⊢
    have XB := Lib.hid hbx; have HB0 := Lib.hid hb0
    clear hbx
    go_loopw [3, 4, 5] (fun n i _ wr => ∃ (k : Nat) (N : Int), k ≤ t.kids.length ∧ i = .int .i64 k ∧ n = .int .i64 N ∧ N = max (-t.head) (mostL (t.kids.take k)) ∧ Below w0.heap.size w0 wr) (fun _ i _ _ => t.kids.length - (intOf i).toNat)
    case atStart => exact ⟨0, -t.head, by omega, by rfl, rfl, by simp [mostL] <;> omega, Below.refl _ _⟩
    case round =>
      obtain ⟨k, N, hk, rfl, rfl, hN, hb⟩ := hrel
      have HN := Lib.hid hN
      clear hN
      obtain ⟨⟨x0, _⟩, x1, _⟩ := box2 (Below.heapAt hb XB.out)
      clear x0
      by_cases hlt : k < t.kids.length
      · obtain ⟨b, off, ko, ksp, rfl, c1, c2, c3⟩ := (HR.out.below (Below.step HB0.out hb)) k hlt
        have HST := Lib.hid (mostL_take hlt)
        have HC := Lib.hid c3
        clear c3
        go_wp2_with fail
        refine (IH.out k hlt _ _ (HLOW.out.2 k hlt) HC.out).mono ?_
        rintro e w2 ⟨rfl, hb2⟩
        have hb3 := Below.step hb hb2
        clear hb2
        generalize hQ : (gK t.kids k).most = Q at HST ⊢
        clear hQ
        by_cases hgt : N < Q
        · go_wp2_with fail
          go_roundw
          case rel => exact ⟨k + 1, _, by omega, by go_num, rfl, by have h2 := HN.out; have h3 := HST.out; rw [h3]; omega, hb3⟩
          case measure => simp [intOf] <;> omega
        · go_wp2_with fail
          go_roundw
          case rel => exact ⟨k + 1, _, by omega, by go_num, rfl, by have h2 := HN.out; have h3 := HST.out; rw [h3]; omega, hb3⟩
          case measure => simp [intOf] <;> omega
      · obtain rfl : k = t.kids.length := by omega
        go_wp2_with fail
        go_ret
        exact ⟨ret_int (by have h2 := HN.out; rw [List.take_length] at h2; rw [HTS.out, h2]), Below.step HB0.out hb⟩
  · rw [if_neg hneg] at hte
    have HTS := Lib.hid hte; clear hte
    go_enter Try.func60, Try.ntmps60
    go_wp2_with fail
    generalize w.alloc (.cells #[.int .i64 t.head, .slice ao t.kids.length (t.kids.length + sp)] 44) = w0 at hbx hb0 ⊢
    have XB := Lib.hid hbx; have HB0 := Lib.hid hb0
    clear hbx
    go_loopw [3, 4, 5] (fun n i _ wr => ∃ (k : Nat) (N : Int), k ≤ t.kids.length ∧ i = .int .i64 k ∧ n = .int .i64 N ∧ N = max (0) (mostL (t.kids.take k)) ∧ Below w0.heap.size w0 wr) (fun _ i _ _ => t.kids.length - (intOf i).toNat)
    case atStart => exact ⟨0, 0, by omega, by rfl, rfl, by simp [mostL] <;> omega, Below.refl _ _⟩
    case round =>
      obtain ⟨k, N, hk, rfl, rfl, hN, hb⟩ := hrel
      have HN := Lib.hid hN
      clear hN
      obtain ⟨⟨x0, _⟩, x1, _⟩ := box2 (Below.heapAt hb XB.out)
      clear x0
      by_cases hlt : k < t.kids.length
      · obtain ⟨b, off, ko, ksp, rfl, c1, c2, c3⟩ := (HR.out.below (Below.step HB0.out hb)) k hlt
        have HST := Lib.hid (mostL_take hlt)
        have HC := Lib.hid c3
        clear c3
        go_wp2_with fail
        refine (IH.out k hlt _ _ (HLOW.out.2 k hlt) HC.out).mono ?_
        rintro e w2 ⟨rfl, hb2⟩
        have hb3 := Below.step hb hb2
        clear hb2
        generalize hQ : (gK t.kids k).most = Q at HST ⊢
        clear hQ
        by_cases hgt : N < Q
        · go_wp2_with fail
          go_roundw
          case rel => exact ⟨k + 1, _, by omega, by go_num, rfl, by have h2 := HN.out; have h3 := HST.out; rw [h3]; omega, hb3⟩
          case measure => simp [intOf] <;> omega
        · go_wp2_with fail
          go_roundw
          case rel => exact ⟨k + 1, _, by omega, by go_num, rfl, by have h2 := HN.out; have h3 := HST.out; rw [h3]; omega, hb3⟩
          case measure => simp [intOf] <;> omega
      · obtain rfl : k = t.kids.length := by omega
        go_wp2_with fail
        go_ret
        exact ⟨ret_int (by have h2 := HN.out; rw [List.take_length] at h2; rw [HTS.out, h2]), Below.step HB0.out hb⟩
end Go.Proofs.Yteekoclfpehnpaa
