/-
  Walks: the document's Times.
-/
import Derived.Test.YteekoclfpehnpaaProg
import Derived.Test.YteekoclfpehnpaaBase
import Derived.Test.YteekoclfpehnpaaT2
namespace Go.Proofs.Yteekoclfpehnpaa
open Go.RowKit Go.Shelf
set_option linter.unusedVariables false

mutual
def T.times (x : Int) : T → Nat
  | .node h ks => (if h = x then 1 else 0) + timesL x ks
def timesL (x : Int) : List T → Nat
  | [] => 0
  | t :: r => t.times x + timesL x r
end
theorem T.times_eq (x : Int) (t : T) : t.times x = (if t.head = x then 1 else 0) + timesL x t.kids := by cases t; rw [T.times]; rfl
theorem timesL_append (x : Int) : ∀ (a b : List T), timesL x (a ++ b) = timesL x a + timesL x b
  | [], b => by simp [timesL]
  | t :: r, b => by simp [timesL, timesL_append x r b, Nat.add_assoc]
theorem timesL_take (x : Int) {l : List T} {i : Nat} (h : i < l.length) : timesL x (l.take (i + 1)) = timesL x (l.take i) + (gK l i).times x := by
  rw [take_gK h, timesL_append]; simp [timesL]
theorem timesL_le_of (x : Int) : ∀ (l : List T), (∀ i, i < l.length → (gK l i).times x ≤ (gK l i).size) → timesL x l ≤ sizeL l
  | [], _ => by simp [timesL]
  | t :: r, h => by
    have h0 := h 0 (by simp)
    have h1 := timesL_le_of x r (fun i hi => by have := h (i + 1) (by simpa using hi); simpa [gK] using this)
    simp only [timesL, sizeL]
    simp [gK] at h0
    omega
theorem times_le (x : Int) (t : T) : t.times x ≤ t.size := by
  induction t using T.ind with
  | h t ih =>
    rw [T.times_eq, T.size_eq]
    have := timesL_le_of x t.kids ih
    split <;> omega
theorem timesL_le (x : Int) (l : List T) : timesL x l ≤ sizeL l := timesL_le_of x l fun i _ => times_le x (gK l i)

set_option maxRecDepth 100000 in
set_option maxHeartbeats 4000000 in
theorem times31 (x : Int) (t : T) : ∀ (v : Value) (w : World), t.size ≤ 1000000000 → TreeAt w v t →
    Calls Try.prog 36 #[v, .int .i64 x] w fun e w' => e = .returned (.int .i64 (t.times x : Int)) ∧ Below w.heap.size w w' := by
  induction t using T.ind with
  | h t ih =>
  intro v w hsz ht
  obtain ⟨ao, sp, rfl, hr, hml⟩ := ht.open
  have hml : t.kids.length ≤ 9223372036854775807 := hml
  have HR := Lib.hid hr; have IH := Lib.hid ih
  have HSZ := Lib.hid (show sizeL t.kids < 1000000000 by rw [T.size_eq] at hsz; omega)
  have hte := T.times_eq x t
  clear ht hr ih hsz
  have hbx := heap_ofAlloc w (.cells #[.int .i64 t.head, .slice ao t.kids.length (t.kids.length + sp)] 44)
  have hb0 := (Below.refl w.heap.size w).alloc (Nat.le_refl _) (.cells #[.int .i64 t.head, .slice ao t.kids.length (t.kids.length + sp)] 44)
  cases hh : (t.head == x) with
  | true =>
    rw [if_pos (eq_of_beq hh)] at hte
    have HTS := Lib.hid hte; clear hte
    go_enter Try.func36, Try.ntmps36
    go_wp2_with fail
    generalize w.alloc (.cells #[.int .i64 t.head, .slice ao t.kids.length (t.kids.length + sp)] 44) = w0 at hbx hb0 ⊢
    have XB := Lib.hid hbx; have HB0 := Lib.hid hb0
    clear hbx
    go_loopw [5, 6] (fun n i wr => ∃ (k : Nat) (N : Int), k ≤ t.kids.length ∧ i = .int .i64 k ∧ n = .int .i64 N ∧ N = 1 + (timesL x (t.kids.take k) : Int) ∧ Below w0.heap.size w0 wr) (fun _ i _ => t.kids.length - (intOf i).toNat)
    case atStart => exact ⟨0, 1, by omega, rfl, rfl, by simp [timesL], Below.refl _ _⟩
    case round =>
      obtain ⟨k, N, hk, rfl, rfl, hN, hb⟩ := hrel
      have hle := timesL_le x (t.kids.take k)
      have hle2 := sizeL_take_le t.kids k
      have hN0 : 0 ≤ N ∧ N ≤ 1000000000 := by have := HSZ.out; omega
      have HN := Lib.hid hN
      clear hN hle hle2
      obtain ⟨⟨x0, _⟩, x1, _⟩ := box2 (Below.heapAt hb XB.out)
      clear x0
      by_cases hlt : k < t.kids.length
      · obtain ⟨b, off, ko, ksp, rfl, c1, c2, c3⟩ := (HR.out.below (Below.step HB0.out hb)) k hlt
        have HST := Lib.hid (timesL_take x hlt)
        have hs1 := kid_size hlt
        have hs2 : (gK t.kids k).size ≤ 1000000000 := by have := HSZ.out; omega
        have hs3 := times_le x (gK t.kids k)
        have HC := Lib.hid c3
        clear c3 hs1
        go_wp2_with fail
        refine (IH.out k hlt _ _ hs2 HC.out).mono ?_
        rintro e w2 ⟨rfl, hb2⟩
        have hb3 := Below.step hb hb2
        clear hb2
        generalize hQ : (gK t.kids k).times x = Q at hs3 HST ⊢
        clear hQ
        have hq2 : Q ≤ 1000000000 := by omega
        go_wp2_with fail
        go_roundw
        case rel => exact ⟨k + 1, _, by omega, by go_num, rfl, by have h2 := HN.out; have h3 := HST.out; rw [h3, h2]; omega, hb3⟩
        case measure => simp [intOf] <;> omega
      · obtain rfl : k = t.kids.length := by omega
        go_wp2_with fail
        go_ret
        exact ⟨ret_int (by have h2 := HN.out; rw [List.take_length] at h2; rw [HTS.out, h2]; omega), Below.step HB0.out hb⟩
  | false =>
    rw [if_neg (by simpa using hh)] at hte
    have HTS := Lib.hid hte; clear hte
    go_enter Try.func36, Try.ntmps36
    go_wp2_with fail
    generalize w.alloc (.cells #[.int .i64 t.head, .slice ao t.kids.length (t.kids.length + sp)] 44) = w0 at hbx hb0 ⊢
    have XB := Lib.hid hbx; have HB0 := Lib.hid hb0
    clear hbx
    go_loopw [5, 6] (fun n i wr => ∃ (k : Nat) (N : Int), k ≤ t.kids.length ∧ i = .int .i64 k ∧ n = .int .i64 N ∧ N = 0 + (timesL x (t.kids.take k) : Int) ∧ Below w0.heap.size w0 wr) (fun _ i _ => t.kids.length - (intOf i).toNat)
    case atStart => exact ⟨0, 0, by omega, rfl, rfl, by simp [timesL], Below.refl _ _⟩
    case round =>
      obtain ⟨k, N, hk, rfl, rfl, hN, hb⟩ := hrel
      have hle := timesL_le x (t.kids.take k)
      have hle2 := sizeL_take_le t.kids k
      have hN0 : 0 ≤ N ∧ N ≤ 1000000000 := by have := HSZ.out; omega
      have HN := Lib.hid hN
      clear hN hle hle2
      obtain ⟨⟨x0, _⟩, x1, _⟩ := box2 (Below.heapAt hb XB.out)
      clear x0
      by_cases hlt : k < t.kids.length
      · obtain ⟨b, off, ko, ksp, rfl, c1, c2, c3⟩ := (HR.out.below (Below.step HB0.out hb)) k hlt
        have HST := Lib.hid (timesL_take x hlt)
        have hs1 := kid_size hlt
        have hs2 : (gK t.kids k).size ≤ 1000000000 := by have := HSZ.out; omega
        have hs3 := times_le x (gK t.kids k)
        have HC := Lib.hid c3
        clear c3 hs1
        go_wp2_with fail
        refine (IH.out k hlt _ _ hs2 HC.out).mono ?_
        rintro e w2 ⟨rfl, hb2⟩
        have hb3 := Below.step hb hb2
        clear hb2
        generalize hQ : (gK t.kids k).times x = Q at hs3 HST ⊢
        clear hQ
        have hq2 : Q ≤ 1000000000 := by omega
        go_wp2_with fail
        go_roundw
        case rel => exact ⟨k + 1, _, by omega, by go_num, rfl, by have h2 := HN.out; have h3 := HST.out; rw [h3, h2]; omega, hb3⟩
        case measure => simp [intOf] <;> omega
      · obtain rfl : k = t.kids.length := by omega
        go_wp2_with fail
        go_ret
        exact ⟨ret_int (by have h2 := HN.out; rw [List.take_length] at h2; rw [HTS.out, h2]; omega), Below.step HB0.out hb⟩
end Go.Proofs.Yteekoclfpehnpaa
