/-
  Walks: slices.IndexFunc and ContainsFunc over trees; tree.Deep.
-/
import Derived.Test.YteekoclfpehnpaaProg
import Derived.Test.YteekoclfpehnpaaBase
import Derived.Test.YteekoclfpehnpaaT3
namespace Go.Proofs.Yteekoclfpehnpaa
open Go.RowKit Go.Shelf
set_option linter.unusedVariables false
set_option maxHeartbeats 400000

set_option maxRecDepth 100000 in
theorem indexFunc67 (fn : Nat) (cap : Array Value) (eg : ∀ args w, (callFunc fn args).run Try.prog w = .ok (.enter fn args) w)
    (ao : Option Addr) (ks : List T) (n cp : Nat) (hn0 : ks.length = n) (p : Nat → Bool) (w : World) (hn : n ≤ 9223372036854775807) (hc : RowAt w ao ks)
    (hf : ∀ i w1 v, i < n → Below w.heap.size w w1 → TreeAt w1 v (gK ks i) → Calls Try.prog fn (#[v] ++ cap) w1 fun e w2 => e = .returned (.bool (p i)) ∧ Below w1.heap.size w1 w2) :
    Calls Try.prog 130 #[.slice ao n cp, .func (.func fn) #[] cap] w fun e w' => e = .returned (.int .i64 (firstZ p n)) ∧ Below w.heap.size w w' := by
  have HF := Lib.hid hf
  have HC := Lib.hid hc
  clear hf hc
  go_enter Try.func130, Try.ntmps130
  go_wp2
  go_loopw [5, 8] (fun _ i wr => ∃ k : Nat, k ≤ n ∧ i = .int .i64 k ∧ (∀ j, j < k → p j = false) ∧ Below w.heap.size w wr) (fun _ i _ => n - (intOf i).toNat)
  case atStart => exact ⟨0, Nat.zero_le _, rfl, by simp, Below.refl _ _⟩
  case round =>
    obtain ⟨k, hk, rfl, hno, hbel⟩ := hrel
    have HN := Lib.hid hno
    clear hno
    by_cases hlt : k < n
    · obtain ⟨b, off, ko, ksp, rfl, c1, c2, c3⟩ := (HC.out.below hbel) k (by omega)
      have H3 := Lib.hid c3
      clear c3 hn0
      go_wp2_with fail
      refine (HF.out k _ _ hlt hbel H3.out).mono ?_
      rintro e w1 ⟨rfl, hb1⟩
      have hbel1 := Below.step hbel hb1
      cases hp : p k with
      | true =>
        have HP := Lib.hid hp; clear hp
        go_wp2
        go_ret
        exact ⟨ret_int (firstZ_hit hlt HN.out HP.out).symm, hbel1⟩
      | false =>
        have HP := Lib.hid hp; clear hp
        go_wp2
        go_roundw
        case rel => exact ⟨k + 1, by omega, by go_num, fun j hj => (by rcases Nat.lt_succ_iff_lt_or_eq.1 hj with h | rfl; exact HN.out j h; exact HP.out), hbel1⟩
        case measure => simp [intOf] <;> omega
    · clear hn0
      go_wp2
      go_ret
      exact ⟨ret_int (firstZ_none (fun j hj => HN.out j (by omega))).symm, hbel⟩

set_option maxRecDepth 100000 in
theorem containsFunc60 (fn : Nat) (cap : Array Value) (eg : ∀ args w, (callFunc fn args).run Try.prog w = .ok (.enter fn args) w)
    (ao : Option Addr) (ks : List T) (n cp : Nat) (hn0 : ks.length = n) (p : Nat → Bool) (w : World) (hn : n ≤ 9223372036854775807) (hc : RowAt w ao ks)
    (hf : ∀ i w1 v, i < n → Below w.heap.size w w1 → TreeAt w1 v (gK ks i) → Calls Try.prog fn (#[v] ++ cap) w1 fun e w2 => e = .returned (.bool (p i)) ∧ Below w1.heap.size w1 w2) :
    Calls Try.prog 121 #[.slice ao n cp, .func (.func fn) #[] cap] w fun e w' => e = .returned (.bool (anyB p n)) ∧ Below w.heap.size w w' := by
  have H := Lib.hid (indexFunc67 fn cap eg ao ks n cp hn0 p w hn hc hf)
  clear hf hc eg hn0
  go_enter Try.func121, Try.ntmps121
  go_wp2_with fail
  refine H.out.mono ?_
  rintro e w1 ⟨rfl, hb1⟩
  go_wp2
  go_ret
  refine ⟨ret_bool ?_, hb1⟩
  rw [Bool.eq_iff_iff, ← firstZ_nonneg]; simp

theorem deep_kids (t : T) (m : Int) : ((t.deep : Int) ≤ m) ↔ 0 < m ∧ ∀ i, i < t.kids.length → ((gK t.kids i).deep : Int) ≤ m - 1 := by
  rw [T.deep_eq]
  have key : ∀ (l : List T) (n : Int), 0 ≤ n → (((deepL l : Nat) : Int) ≤ n ↔ ∀ i, i < l.length → ((gK l i).deep : Int) ≤ n) := by
    intro l n hn
    induction l with
    | nil => simp [deepL]; exact hn
    | cons x r ih =>
      simp only [deepL]
      constructor
      · intro h i hi
        cases i with
        | zero => simp [gK]; omega
        | succ i => have := (ih.1 (by omega)) i (by simpa using hi); simpa [gK] using this
      · intro h
        have h0 := h 0 (by simp)
        have h1 := ih.2 (fun i hi => by have := h (i + 1) (by simpa using hi); simpa [gK] using this)
        simp [gK] at h0
        omega
  constructor
  · intro h
    exact ⟨by omega, (key _ (m - 1) (by omega)).1 (by omega)⟩
  · rintro ⟨h0, h⟩
    have := (key t.kids (m - 1) (by omega)).2 h
    omega

set_option maxRecDepth 100000 in
set_option maxHeartbeats 4000000 in
theorem deep53 (t : T) : ∀ (m : Int) (v : Value) (w : World), -10 ≤ m → m ≤ 1000000 → TreeAt w v t →
    Calls Try.prog 107 #[v, .int .i64 m] w fun e w' => e = .returned (.bool (decide ((t.deep : Int) ≤ m))) ∧ Below w.heap.size w w' := by
  induction t using T.ind with
  | h t ih =>
  intro m v w hm0 hm ht
  obtain ⟨ao, sp, rfl, hr, hml⟩ := ht.open
  have hml : t.kids.length ≤ 9223372036854775807 := hml
  have HR := Lib.hid hr; have IH := Lib.hid ih
  clear ht hr ih
  have hbx := heap_ofAlloc (w.alloc (.cells #[.int .i64 t.head, .slice ao t.kids.length (t.kids.length + sp)] 44)) (.cells #[.int .i64 m] 3)
  rw [World.size_alloc] at hbx
  have hb0 := ((Below.refl w.heap.size w).alloc (Nat.le_refl _) (.cells #[.int .i64 t.head, .slice ao t.kids.length (t.kids.length + sp)] 44)).alloc (by simp) (.cells #[.int .i64 m] 3)
  by_cases h0 : 0 < m
  · have E := Lib.hid (deep_kids t m)
    go_enter Try.func107, Try.ntmps107
    go_wp2_with fail
    generalize (w.alloc (.cells #[.int .i64 t.head, .slice ao t.kids.length (t.kids.length + sp)] 44)).alloc (.cells #[.int .i64 m] 3) = w0 at hbx hb0 ⊢
    have XB := Lib.hid hbx; have HB0 := Lib.hid hb0
    clear hbx hb0
    refine (containsFunc60 122 #[.pointer (some ⟨w.heap.size + 1, 0, none⟩)] (enters_of Try.func122 (by kernel_rfl) rfl) ao t.kids t.kids.length (t.kids.length + sp) rfl (fun i => !decide (((gK t.kids i).deep : Int) ≤ m - 1)) w0 hml (HR.out.below HB0.out) (fun i w1 v hi hb1 hv => ?_)).mono ?_
    · have hx := (box1 (Below.heapAt hb1 XB.out)).1
      have hxl := heap_lt (Below.heapAt hb1 XB.out)
      obtain ⟨k, ksp, rfl⟩ := hv.form
      have HV := Lib.hid hv
      have hb2 := (Below.refl w1.heap.size w1).alloc (Nat.le_refl _) (.cells #[.int .i64 (gK t.kids i).head, .slice k (gK t.kids i).kids.length ((gK t.kids i).kids.length + ksp)] 44)
      have HI := Lib.hid (IH.out i hi (m - 1) _ _ (by omega) (by omega) (HV.out.kept hb2))
      clear hv
      go_enter Try.func122, Try.ntmps122
      go_wp2_with fail
      refine HI.out.mono ?_
      rintro e w2 ⟨rfl, hb3⟩
      go_wp2_with fail
      go_ret
      exact ⟨rfl, Below.step hb2 hb3⟩
    · rintro e w2 ⟨rfl, hb2⟩
      go_wp2_with fail
      go_ret
      refine ⟨ret_bool ?_, Below.step HB0.out hb2⟩
      rw [Bool.eq_iff_iff]
      simp only [Bool.not_eq_true', decide_eq_true_eq]
      rw [E.out]
      cases hq : anyB (fun i => !decide (((gK t.kids i).deep : Int) ≤ m - 1)) t.kids.length with
      | true =>
        obtain ⟨j, hj, hp⟩ := anyB_iff.1 hq
        simp only [Bool.not_eq_true', decide_eq_false_iff_not] at hp
        simp only [Bool.true_eq_false, false_iff]
        exact fun h => hp (h.2 j hj)
      | false =>
        simp only [true_iff]
        refine ⟨h0, fun i hi => ?_⟩
        by_cases hc : ((gK t.kids i).deep : Int) ≤ m - 1
        · exact hc
        · have : anyB (fun i => !decide (((gK t.kids i).deep : Int) ≤ m - 1)) t.kids.length = true := anyB_iff.2 ⟨i, hi, by simpa using hc⟩
          rw [hq] at this; cases this
  · have E := Lib.hid (show decide ((t.deep : Int) ≤ m) = false by rw [T.deep_eq]; simp; omega)
    go_enter Try.func107, Try.ntmps107
    go_wp2_with fail
    go_ret
    exact ⟨ret_bool E.out.symm, hb0⟩
end Go.Proofs.Yteekoclfpehnpaa
