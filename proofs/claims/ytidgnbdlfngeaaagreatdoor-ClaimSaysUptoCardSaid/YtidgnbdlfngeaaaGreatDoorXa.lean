/-
  Trees: the plain type, how one lies in memory; tree.Size.
  Walks: the document's Size, Deep, Same of trees.
  Walks: the document's Same of trees.
  Walks: slices.IndexFunc and ContainsFunc over trees; tree.Deep.
  Walks: the document's nodes and Tree.
  Walks: the document's Tree; the law's vast, none.
  Walks: the document's Bind.
  Trees with a footprint: p says in which blocks a tree's cells may lie. A store to a block outside p leaves the tree.
  Walks: tree.Copy.
-/
import Derived.Test.YtidgnbdlfngeaaaGreatDoorProg
import Derived.Test.YtidgnbdlfngeaaaGreatDoorBase
import Derived.Deep.RegionHeld3
import Derived.Deep.AppendLies
import Derived.Deep.OwnRows
import Derived.Deep.RegionLaw
import Derived.RegionTactic
namespace Go.Proofs.YtidgnbdlfngeaaaGreatDoor
open Go.RowKit Go.Shelf
set_option linter.unusedVariables false

inductive T where
  | node (head : Int) (kids : List T)
namespace T
def head : T → Int | node h _ => h
def kids : T → List T | node _ k => k
end T
instance : Inhabited T := ⟨.node 0 []⟩
def gK (l : List T) (j : Nat) : T := l.getD j default
theorem gK_get {l : List T} {j : Nat} (h : j < l.length) : gK l j = l[j] := by simp [gK, h]

mutual
def T.size : T → Nat
  | .node _ ks => 1 + sizeL ks
def sizeL : List T → Nat
  | [] => 0
  | t :: r => t.size + sizeL r
end
theorem T.size_eq (t : T) : t.size = 1 + sizeL t.kids := by cases t; simp [T.size, T.kids]
theorem T.size_pos (t : T) : 1 ≤ t.size := by rw [T.size_eq]; omega
theorem sizeL_append : ∀ (a b : List T), sizeL (a ++ b) = sizeL a + sizeL b
  | [], b => by simp [sizeL]
  | t :: r, b => by simp [sizeL, sizeL_append r b, Nat.add_assoc]
theorem take_gK {l : List T} {i : Nat} (h : i < l.length) : l.take (i + 1) = l.take i ++ [gK l i] := by rw [List.take_succ_eq_append_getElem h, gK_get h]
theorem sizeL_take {l : List T} {i : Nat} (h : i < l.length) : sizeL (l.take (i + 1)) = sizeL (l.take i) + (gK l i).size := by
  rw [take_gK h, sizeL_append]; simp [sizeL]
theorem sizeL_take_le : ∀ (l : List T) (i : Nat), sizeL (l.take i) ≤ sizeL l
  | [], i => by simp [sizeL]
  | t :: r, 0 => by simp [sizeL]
  | t :: r, i + 1 => by simp only [List.take_succ_cons, sizeL]; have := sizeL_take_le r i; omega
theorem kid_size {l : List T} {i : Nat} (h : i < l.length) : (gK l i).size ≤ sizeL l := by
  have h1 := sizeL_take h; have h2 := sizeL_take_le l (i + 1); omega

/-- a tree, as it lies in memory -/
inductive TreeAt (w : World) : Value → T → Prop
  | mk (h : Int) (ks : List T) (ao : Option Addr) (sp : Nat) (c0 c1 : Nat → Value) (hn : ks.length ≤ maxLen)
      (hc : ∀ i, i < ks.length → ∃ b off, ao = some ⟨b, off, none⟩ ∧ w.cell? ⟨b, off + i * 2, none⟩ = some (c0 i) ∧ w.cell? ⟨b, off + i * 2 + 1, none⟩ = some (c1 i))
      (ht : ∀ i, i < ks.length → TreeAt w (.agg #[c0 i, c1 i]) (gK ks i)) : TreeAt w (.agg #[.int .i64 h, .slice ao ks.length (ks.length + sp)]) (.node h ks)

theorem TreeAt.kept {w w' : World} (hb : Below w.heap.size w w') {v : Value} {t : T} (h : TreeAt w v t) : TreeAt w' v t := by
  induction h with
  | mk h ks ao sp c0 c1 hn hc ht ih =>
    refine .mk h ks ao sp c0 c1 hn (fun i hi => ?_) ih
    obtain ⟨b, off, e, h1, h2⟩ := hc i hi
    exact ⟨b, off, e, Below.cellOf hb h1, Below.cellOf hb h2⟩

/-- a row of trees behind an address -/
def RowAt (w : World) (ao : Option Addr) (ks : List T) : Prop :=
  ∀ i, i < ks.length → ∃ b off k sp, ao = some ⟨b, off, none⟩ ∧ w.cell? ⟨b, off + i * 2, none⟩ = some (.int .i64 (gK ks i).head) ∧
    w.cell? ⟨b, off + i * 2 + 1, none⟩ = some (.slice k (gK ks i).kids.length ((gK ks i).kids.length + sp)) ∧
    TreeAt w (.agg #[.int .i64 (gK ks i).head, .slice k (gK ks i).kids.length ((gK ks i).kids.length + sp)]) (gK ks i)
theorem RowAt.below {w w' : World} (hb : Below w.heap.size w w') {ao : Option Addr} {ks : List T} (h : RowAt w ao ks) : RowAt w' ao ks := fun i hi => by
  obtain ⟨b, off, k, sp, e, h1, h2, h3⟩ := h i hi
  exact ⟨b, off, k, sp, e, Below.cellOf hb h1, Below.cellOf hb h2, h3.kept hb⟩
theorem TreeAt.form {w : World} {v : Value} {t : T} (h : TreeAt w v t) : ∃ k sp, v = .agg #[.int .i64 t.head, .slice k t.kids.length (t.kids.length + sp)] := by
  cases h with
  | mk h ks ao sp c0 c1 hn hc ht => exact ⟨ao, sp, rfl⟩
theorem TreeAt.open {w : World} {v : Value} {t : T} (h : TreeAt w v t) : ∃ ao sp, v = .agg #[.int .i64 t.head, .slice ao t.kids.length (t.kids.length + sp)] ∧ RowAt w ao t.kids ∧ t.kids.length ≤ maxLen := by
  cases h with
  | mk h ks ao sp c0 c1 hn hc ht =>
    refine ⟨ao, sp, rfl, fun i hi => ?_, hn⟩
    obtain ⟨b, off, e, h1, h2⟩ := hc i hi
    have h3 := ht i hi
    obtain ⟨k, sp', e'⟩ := h3.form
    have e0 : c0 i = .int .i64 (gK ks i).head ∧ c1 i = .slice k (gK ks i).kids.length ((gK ks i).kids.length + sp') := by simpa using e'
    rw [e0.1] at h1 h3; rw [e0.2] at h2 h3
    exact ⟨b, off, k, sp', e, h1, h2, h3⟩
theorem TreeAt.close {w : World} {h : Int} {ks : List T} {ao : Option Addr} {sp : Nat} (hr : RowAt w ao ks) (hn : ks.length ≤ maxLen) : TreeAt w (.agg #[.int .i64 h, .slice ao ks.length (ks.length + sp)]) (.node h ks) := by
  have hr' : ∀ i, ∃ c0 c1, i < ks.length → (∃ b off, ao = some ⟨b, off, none⟩ ∧ w.cell? ⟨b, off + i * 2, none⟩ = some c0 ∧ w.cell? ⟨b, off + i * 2 + 1, none⟩ = some c1) ∧ TreeAt w (.agg #[c0, c1]) (gK ks i) := fun i => by
    by_cases hi : i < ks.length
    · obtain ⟨b, off, k, sp, e, h1, h2, h3⟩ := hr i hi
      exact ⟨_, _, fun _ => ⟨⟨b, off, e, h1, h2⟩, h3⟩⟩
    · exact ⟨default, default, fun h => absurd h hi⟩
  exact .mk h ks ao sp (fun i => Classical.choose (hr' i)) (fun i => Classical.choose (Classical.choose_spec (hr' i))) hn
    (fun i hi => (Classical.choose_spec (Classical.choose_spec (hr' i)) hi).1) (fun i hi => (Classical.choose_spec (Classical.choose_spec (hr' i)) hi).2)

/-- trees by their size -/
theorem T.ind {P : T → Prop} (h : ∀ t : T, (∀ i, i < t.kids.length → P (gK t.kids i)) → P t) (t : T) : P t := by
  have key : ∀ n (t : T), t.size ≤ n → P t := by
    intro n
    induction n with
    | zero => intro t ht; have := t.size_pos; omega
    | succ n ih =>
      intro t ht
      refine h t fun i hi => ih _ ?_
      have := kid_size hi
      rw [T.size_eq] at ht
      omega
  exact key _ t (Nat.le_refl _)

set_option maxRecDepth 100000 in
set_option maxHeartbeats 4000000 in
theorem size52 (t : T) : ∀ (m : Int) (v : Value) (w : World), 0 ≤ m → m ≤ 1000000 → TreeAt w v t →
    Calls Tryz.prog 52 #[v, .int .i64 m] w fun e w' => e = .returned (.int .i64 (min (t.size : Int) (m + 1))) ∧ Below w.heap.size w w' := by
  induction t using T.ind with
  | h t ih =>
  intro m v w hm0 hm ht
  have HT := Lib.hid ht
  obtain ⟨ao, sp, rfl, hr, hml⟩ := ht.open
  have hml : t.kids.length ≤ 9223372036854775807 := hml
  have HR := Lib.hid hr; have IH := Lib.hid ih
  clear ht hr ih
  go_enter Tryz.func52, Tryz.ntmps52
  go_wp2_with fail
  go_loopw [5, 7, 11] (fun n _ i wr => ∃ (k : Nat) (N : Int), k ≤ t.kids.length ∧ i = .int .i64 k ∧ n = .int .i64 N ∧ N = min (1 + (sizeL (t.kids.take k) : Int)) (m + 1) ∧ Below w.heap.size w wr) (fun _ _ i _ => t.kids.length - (intOf i).toNat)
  case atStart => exact ⟨0, 1, by omega, rfl, rfl, by simp [sizeL]; omega, (Below.refl _ _).alloc (Nat.le_refl _) _⟩
  case round =>
    obtain ⟨k, N, hk, rfl, rfl, hN, hb⟩ := hrel
    have hN0 : 0 ≤ N := by omega
    have hN1 : N ≤ m + 1 := by omega
    have HN := Lib.hid hN
    clear hN
    by_cases hlt : k < t.kids.length
    · obtain ⟨b, off, ko, ksp, rfl, c1, c2, c3⟩ := HR.out k hlt
      have d1 := Below.cellOf hb c1
      have d2 := Below.cellOf hb c2
      have HST := Lib.hid (sizeL_take hlt)
      have HC := Lib.hid (c3.kept hb)
      clear c1 c2 c3
      have hbs := hb.size
      by_cases hmore : m < N
      · go_wp2_with fail
        go_ret
        refine ⟨ret_int ?_, (hb.alloc hb.size _)⟩
        have := sizeL_take_le t.kids k
        have h2 := HN.out
        rw [T.size_eq]; omega
      · go_wp2_with fail
        refine (IH.out k hlt (m - N) _ _ (by omega) (by omega) (HC.out.kept ((Below.refl _ _).alloc (Nat.le_refl _) _))).mono ?_
        rintro e w2 ⟨rfl, hb2⟩
        have hb3 := Below.step (hb.alloc hb.size _) hb2
        obtain ⟨Q, hQ⟩ : ∃ Q : Int, Q = min ((gK t.kids k).size : Int) (m - N + 1) := ⟨_, rfl⟩
        rw [← hQ]
        have hQ0 : 0 ≤ Q := by omega
        have hQ1 : Q ≤ m - N + 1 := by omega
        have HQ := Lib.hid hQ
        clear hQ hb2
        go_wp2_with fail
        go_roundw
        case rel => exact ⟨k + 1, _, by omega, by go_num, rfl, by have h1 := HQ.out; have h2 := HN.out; have h3 := HST.out; rw [h3]; omega, hb3⟩
        case measure => simp [intOf] <;> omega
    · obtain rfl : k = t.kids.length := by omega
      go_wp2_with fail
      go_ret
      exact ⟨ret_int (by have h2 := HN.out; rw [List.take_length] at h2; rw [T.size_eq, h2]; omega), hb⟩
end Go.Proofs.YtidgnbdlfngeaaaGreatDoor
namespace Go.Proofs.YtidgnbdlfngeaaaGreatDoor
open Go.RowKit Go.Shelf
set_option linter.unusedVariables false

mutual
def T.deep : T → Nat
  | .node _ ks => deepL ks + 1
def deepL : List T → Nat
  | [] => 0
  | t :: r => max t.deep (deepL r)
end
theorem T.deep_eq (t : T) : t.deep = deepL t.kids + 1 := by cases t; simp [T.deep, T.kids]
theorem deepL_append : ∀ (a b : List T), deepL (a ++ b) = max (deepL a) (deepL b)
  | [], b => by simp [deepL]
  | t :: r, b => by simp [deepL, deepL_append r b, Nat.max_assoc]
theorem deepL_take {l : List T} {i : Nat} (h : i < l.length) : deepL (l.take (i + 1)) = max (deepL (l.take i)) (gK l i).deep := by
  rw [take_gK h, deepL_append]; simp [deepL]
theorem deepL_take_le : ∀ (l : List T) (i : Nat), deepL (l.take i) ≤ deepL l
  | [], i => by simp [deepL]
  | t :: r, 0 => by simp [deepL]
  | t :: r, i + 1 => by simp only [List.take_succ_cons, deepL]; have := deepL_take_le r i; omega
theorem deep_le (t : T) : t.deep ≤ t.size := by
  induction t using T.ind with
  | h t ih =>
    rw [T.deep_eq, T.size_eq]
    have : ∀ k, k ≤ t.kids.length → deepL (t.kids.take k) ≤ sizeL (t.kids.take k) := by
      intro k
      induction k with
      | zero => intro _; simp [deepL]
      | succ k ihk =>
        intro hk
        rw [deepL_take (by omega), sizeL_take (by omega)]
        have h1 := ihk (by omega); have h2 := ih k (by omega)
        omega
    have := this t.kids.length (Nat.le_refl _)
    rw [List.take_length] at this
    omega

set_option maxRecDepth 100000 in
set_option maxHeartbeats 4000000 in
theorem size41 (t : T) : ∀ (v : Value) (w : World), t.size ≤ 1000000000000000 → TreeAt w v t →
    Calls Tryz.prog 36 #[v] w fun e w' => e = .returned (.int .i64 (t.size : Int)) ∧ Below w.heap.size w w' := by
  induction t using T.ind with
  | h t ih =>
  intro v w hsz ht
  obtain ⟨ao, sp, rfl, hr, hml⟩ := ht.open
  have hml : t.kids.length ≤ 9223372036854775807 := hml
  have HR := Lib.hid hr; have IH := Lib.hid ih
  have HSZ := Lib.hid (show sizeL t.kids < 1000000000000000 by rw [T.size_eq] at hsz; omega)
  have HTS := Lib.hid (T.size_eq t)
  clear ht hr ih hsz
  have hbx := heap_ofAlloc w (.cells #[.int .i64 t.head, .slice ao t.kids.length (t.kids.length + sp)] 45)
  have hb0 := (Below.refl w.heap.size w).alloc (Nat.le_refl _) (.cells #[.int .i64 t.head, .slice ao t.kids.length (t.kids.length + sp)] 45)
  go_enter Tryz.func36, Tryz.ntmps36
  go_wp2_with fail
  generalize w.alloc (.cells #[.int .i64 t.head, .slice ao t.kids.length (t.kids.length + sp)] 45) = w0 at hbx hb0 ⊢
  have XB := Lib.hid hbx; have HB0 := Lib.hid hb0
  clear hbx
  go_loopw [3, 4] (fun n i wr => ∃ (k : Nat) (N : Int), k ≤ t.kids.length ∧ i = .int .i64 k ∧ n = .int .i64 N ∧ N = 1 + (sizeL (t.kids.take k) : Int) ∧ Below w0.heap.size w0 wr) (fun _ i _ => t.kids.length - (intOf i).toNat)
  case atStart => exact ⟨0, 1, by omega, rfl, rfl, by simp [sizeL], Below.refl _ _⟩
  case round =>
    obtain ⟨k, N, hk, rfl, rfl, hN, hb⟩ := hrel
    have hle := sizeL_take_le t.kids k
    have hN0 : 0 ≤ N ∧ N ≤ 1000000000000000 := by have := HSZ.out; omega
    have HN := Lib.hid hN
    clear hN hle
    obtain ⟨⟨x0, _⟩, x1, _⟩ := box2 (Below.heapAt hb XB.out)
    clear x0
    by_cases hlt : k < t.kids.length
    · obtain ⟨b, off, ko, ksp, rfl, c1, c2, c3⟩ := (HR.out.below (Below.step HB0.out hb)) k hlt
      have HST := Lib.hid (sizeL_take hlt)
      have hs1 := kid_size hlt
      have hs2 : (gK t.kids k).size ≤ 1000000000000000 := by have := HSZ.out; omega
      have HC := Lib.hid c3
      clear c3 hs1
      go_wp2_with fail
      refine (IH.out k hlt _ _ hs2 HC.out).mono ?_
      rintro e w2 ⟨rfl, hb2⟩
      have hb3 := Below.step hb hb2
      clear hb2
      generalize hQ : (gK t.kids k).size = Q at hs2 HST ⊢
      clear hQ
      go_wp2_with fail
      go_roundw
      case rel => exact ⟨k + 1, _, by omega, by go_num, rfl, by have h2 := HN.out; have h3 := HST.out; rw [h3, h2]; omega, hb3⟩
      case measure => simp [intOf] <;> omega
    · obtain rfl : k = t.kids.length := by omega
      go_wp2_with fail
      go_ret
      exact ⟨ret_int (by have h2 := HN.out; rw [List.take_length] at h2; rw [HTS.out, h2]; omega), Below.step HB0.out hb⟩

set_option maxRecDepth 100000 in
set_option maxHeartbeats 4000000 in
theorem deep43 (t : T) : ∀ (v : Value) (w : World), t.deep ≤ 1000000000 → TreeAt w v t →
    Calls Tryz.prog 50 #[v] w fun e w' => e = .returned (.int .i64 (t.deep : Int)) ∧ Below w.heap.size w w' := by
  induction t using T.ind with
  | h t ih =>
  intro v w hsz ht
  obtain ⟨ao, sp, rfl, hr, hml⟩ := ht.open
  have hml : t.kids.length ≤ 9223372036854775807 := hml
  have HR := Lib.hid hr; have IH := Lib.hid ih
  have HSZ := Lib.hid (show deepL t.kids < 1000000000 by rw [T.deep_eq] at hsz; omega)
  have HTS := Lib.hid (T.deep_eq t)
  clear ht hr ih hsz
  have hbx := heap_ofAlloc w (.cells #[.int .i64 t.head, .slice ao t.kids.length (t.kids.length + sp)] 45)
  have hb0 := (Below.refl w.heap.size w).alloc (Nat.le_refl _) (.cells #[.int .i64 t.head, .slice ao t.kids.length (t.kids.length + sp)] 45)
  go_enter Tryz.func50, Tryz.ntmps50
  go_wp2_with fail
  generalize w.alloc (.cells #[.int .i64 t.head, .slice ao t.kids.length (t.kids.length + sp)] 45) = w0 at hbx hb0 ⊢
  have XB := Lib.hid hbx; have HB0 := Lib.hid hb0
  clear hbx
  go_loopw [3, 4, 5] (fun n i _ wr => ∃ (k : Nat) (N : Int), k ≤ t.kids.length ∧ i = .int .i64 k ∧ n = .int .i64 N ∧ N = (deepL (t.kids.take k) : Int) ∧ Below w0.heap.size w0 wr) (fun _ i _ _ => t.kids.length - (intOf i).toNat)
  case atStart => exact ⟨0, 0, by omega, rfl, rfl, by simp [deepL], Below.refl _ _⟩
  case round =>
    obtain ⟨k, N, hk, rfl, rfl, hN, hb⟩ := hrel
    have hle := deepL_take_le t.kids k
    have hN0 : 0 ≤ N ∧ N ≤ 1000000000 := by have := HSZ.out; omega
    have HN := Lib.hid hN
    clear hN hle
    obtain ⟨⟨x0, _⟩, x1, _⟩ := box2 (Below.heapAt hb XB.out)
    clear x0
    by_cases hlt : k < t.kids.length
    · obtain ⟨b, off, ko, ksp, rfl, c1, c2, c3⟩ := (HR.out.below (Below.step HB0.out hb)) k hlt
      have HST := Lib.hid (deepL_take hlt)
      have hs1 := deepL_take_le t.kids (k + 1)
      have hs2 : (gK t.kids k).deep ≤ 1000000000 := by have := HSZ.out; have h := HST.out; omega
      have HC := Lib.hid c3
      clear c3 hs1
      go_wp2_with fail
      refine (IH.out k hlt _ _ hs2 HC.out).mono ?_
      rintro e w2 ⟨rfl, hb2⟩
      have hb3 := Below.step hb hb2
      clear hb2
      generalize hQ : (gK t.kids k).deep = Q at hs2 HST ⊢
      clear hQ
      by_cases hgt : N < (Q : Int)
      · go_wp2_with fail
        go_roundw
        case rel => exact ⟨k + 1, _, by omega, by go_num, rfl, by have h2 := HN.out; have h3 := HST.out; rw [h3]; omega, hb3⟩
        case measure => simp [intOf] <;> omega
      · go_wp2_with fail
        go_roundw
        case rel => exact ⟨k + 1, _, by omega, by go_num, rfl, by have h2 := HN.out; have h3 := HST.out; rw [h3]; omega, hb3⟩
        case measure => simp [intOf] <;> omega
    · obtain rfl : k = t.kids.length := by omega
      go_wp2_with fail
      go_ret
      exact ⟨ret_int (by have h2 := HN.out; rw [List.take_length] at h2; rw [HTS.out, h2]; omega), Below.step HB0.out hb⟩

theorem fault42 (c at_ : Int) (w : World) : Calls Tryz.prog 15 #[.int .i64 c, .int .i64 at_] w fun e w' => e = .returned (.agg #[.int .i64 c, .int .i64 at_]) ∧ Below w.heap.size w w' := by
  go_enter Tryz.func15, Tryz.ntmps15
  go_wp2
  refine bodyPost_ret (v := .agg #[.int .i64 c, .int .i64 at_]) (by simp [results, Tryz.results15, go_sem]) rfl ⟨rfl, (Below.refl _ _).alloc (Nat.le_refl _) _⟩
theorem fault20 (c at_ : Int) (w : World) : Calls Tryz.prog 8 #[.int .i64 c, .int .i64 at_] w fun e w' => e = .returned (.agg #[.int .i64 c, .int .i64 at_]) ∧ Below w.heap.size w w' := by
  go_enter Tryz.func8, Tryz.ntmps8
  go_wp2
  refine bodyPost_ret (v := .agg #[.int .i64 c, .int .i64 at_]) (by simp [results, Tryz.results8, go_sem]) rfl ⟨rfl, (Below.refl _ _).alloc (Nat.le_refl _) _⟩
theorem in54 (n lo hi : Int) (w : World) : Calls Tryz.prog 16 #[.int .i64 n, .int .i64 lo, .int .i64 hi] w fun e w' => e = .returned (.bool (decide (lo ≤ n ∧ n ≤ hi))) ∧ w' = w := by
  go_enter Tryz.func16, Tryz.ntmps16
  go_wp2
  all_goals (go_ret; exact ⟨ret_bool (by simp; try omega), rfl⟩)
end Go.Proofs.YtidgnbdlfngeaaaGreatDoor
namespace Go.Proofs.YtidgnbdlfngeaaaGreatDoor
open Go.RowKit Go.Shelf
set_option linter.unusedVariables false

noncomputable instance : DecidableEq T := fun _ _ => Classical.propDecidable _
theorem T.ext_of {a b : T} (h : a.head = b.head) (hl : a.kids.length = b.kids.length) (hk : ∀ j, j < a.kids.length → gK a.kids j = gK b.kids j) : a = b := by
  cases a with
  | node ha ka =>
    cases b with
    | node hb kb =>
      simp only [T.head, T.kids] at h hl hk
      subst h
      have : ka = kb := List.ext_getElem hl fun j h1 h2 => by rw [← gK_get h1, ← gK_get h2, hk j h1]
      rw [this]

set_option maxRecDepth 100000 in
set_option maxHeartbeats 4000000 in
theorem same22 (t : T) : ∀ (s : T) (v u : Value) (w : World), TreeAt w v t → TreeAt w u s →
    Calls Tryz.prog 64 #[v, u] w fun e w' => e = .returned (.bool (decide (t = s))) ∧ Below w.heap.size w w' := by
  induction t using T.ind with
  | h t ih =>
  intro s v u w ht hs
  obtain ⟨ao, sp, rfl, hr, hml⟩ := ht.open
  obtain ⟨ao2, sp2, rfl, hr2, hml2⟩ := hs.open
  have hml : t.kids.length ≤ 9223372036854775807 := hml
  have hml2 : s.kids.length ≤ 9223372036854775807 := hml2
  have HR := Lib.hid hr; have HR2 := Lib.hid hr2; have IH := Lib.hid ih
  clear ht hr hs hr2 ih
  have hbx := heap_alloc_old (o' := .cells #[.int .i64 s.head, .slice ao2 s.kids.length (s.kids.length + sp2)] 45) (heap_ofAlloc w (.cells #[.int .i64 t.head, .slice ao t.kids.length (t.kids.length + sp)] 45))
  have hby := heap_ofAlloc (w.alloc (.cells #[.int .i64 t.head, .slice ao t.kids.length (t.kids.length + sp)] 45)) (.cells #[.int .i64 s.head, .slice ao2 s.kids.length (s.kids.length + sp2)] 45)
  rw [World.size_alloc] at hby
  have hb0 := ((Below.refl w.heap.size w).alloc (Nat.le_refl _) (.cells #[.int .i64 t.head, .slice ao t.kids.length (t.kids.length + sp)] 45)).alloc (by simp) (.cells #[.int .i64 s.head, .slice ao2 s.kids.length (s.kids.length + sp2)] 45)
  by_cases hh : t.head = s.head
  · have hne : (t.head != s.head) = false := by simp [hh]
    by_cases hl : t.kids.length = s.kids.length
    · have hne2 : ((t.kids.length : Int) != (s.kids.length : Int)) = false := by simp [hl]
      have HL := Lib.hid hl; have HH := Lib.hid hh
      clear hl hh
      go_enter Tryz.func64, Tryz.ntmps64
      go_wp2_with fail
      generalize (w.alloc (.cells #[.int .i64 t.head, .slice ao t.kids.length (t.kids.length + sp)] 45)).alloc (.cells #[.int .i64 s.head, .slice ao2 s.kids.length (s.kids.length + sp2)] 45) = w0 at hbx hby hb0 ⊢
      have XB := Lib.hid hbx; have YB := Lib.hid hby; have HB0 := Lib.hid hb0
      clear hbx hby
      go_loopw [5] (fun i wr => ∃ (k : Nat), k ≤ t.kids.length ∧ i = .int .i64 k ∧ (∀ j, j < k → gK t.kids j = gK s.kids j) ∧ Below w0.heap.size w0 wr) (fun i _ => t.kids.length - (intOf i).toNat)
      case atStart => exact ⟨0, by omega, rfl, fun j hj => by omega, Below.refl _ _⟩
      case round =>
        obtain ⟨k, hk, rfl, hno, hb⟩ := hrel
        have HNO := Lib.hid hno; clear hno
        obtain ⟨⟨x0, _⟩, x1, _⟩ := box2 (Below.heapAt hb XB.out)
        obtain ⟨⟨y0, _⟩, y1, _⟩ := box2 (Below.heapAt hb YB.out)
        clear x0 y0
        by_cases hlt : k < t.kids.length
        · have hlt2 : k < s.kids.length := by have := HL.out; omega
          obtain ⟨b, off, ko, ksp, rfl, c1, c2, c3⟩ := (HR.out.below (Below.step HB0.out hb)) k hlt
          obtain ⟨b2, off2, ko2, ksp2, rfl, d1, d2, d3⟩ := (HR2.out.below (Below.step HB0.out hb)) k hlt2
          have HC := Lib.hid c3; have HD := Lib.hid d3
          clear c3 d3
          have r0 := cell_regrown x1
          have r1 := cell_regrown y1
          have r2 := cell_regrown c1
          have r3 := cell_regrown c2
          have r4 := cell_regrown d1
          have r5 := cell_regrown d2
          have CA := Lib.hid (fun d os => Calls.regrown_of (IH.out k hlt (gK s.kids k) _ _ (Go.Sort.grow (redrawn wr d) os) (HC.out.kept (below_regrown _ d os)) (HD.out.kept (below_regrown _ d os))))
          cases hq : decide (gK t.kids k = gK s.kids k) with
          | false =>
            rw [hq] at CA
            have HQ := Lib.hid hq; clear hq
            go_wp2_with fail
            refine wp_region_quiet_below (by kernel_rfl) (by kernel_rfl) ?_
            repeat (go_big_quiet_step (exact CA.out _ _))
            refine wpQuiet_nil ?_
            intro _ hw'
            obtain ⟨⟨dq, osq⟩, hw''⟩ := hw'
            subst hw''
            have hbq := Below.step hb (below_regrown wr dq osq)
            clear r0 r1 r2 r3 r4 r5
            generalize Go.Sort.grow (redrawn wr dq) osq = wq at hbq ⊢
            go_wp2_with fail
            go_ret
            refine ⟨ret_bool ?_, Below.step HB0.out hbq⟩
            have h := HQ.out
            simp only [decide_eq_false_iff_not] at h
            exact (decide_eq_false (fun e => h (by rw [e]))).symm
          | true =>
            rw [hq] at CA
            have HQ := Lib.hid hq; clear hq
            go_wp2_with fail
            refine wp_region_quiet_below (by kernel_rfl) (by kernel_rfl) ?_
            repeat (go_big_quiet_step (exact CA.out _ _))
            refine wpQuiet_nil ?_
            intro _ hw'
            obtain ⟨⟨dq, osq⟩, hw''⟩ := hw'
            subst hw''
            have hbq := Below.step hb (below_regrown wr dq osq)
            clear r0 r1 r2 r3 r4 r5
            generalize Go.Sort.grow (redrawn wr dq) osq = wq at hbq ⊢
            go_wp2_with fail
            go_roundw
            case rel => exact ⟨k + 1, by omega, by go_num, fun j hj => (by rcases Nat.lt_succ_iff_lt_or_eq.1 hj with h | rfl; exact HNO.out j h; exact of_decide_eq_true HQ.out), hbq⟩
            case measure => simp [intOf] <;> omega
        · obtain rfl : k = t.kids.length := by omega
          go_wp2_with fail
          go_ret
          exact ⟨ret_bool (decide_eq_true (T.ext_of HH.out HL.out HNO.out)).symm, Below.step HB0.out hb⟩
    · have hne2 : ((t.kids.length : Int) != (s.kids.length : Int)) = true := by simp; omega
      have E0 := Lib.hid (show decide (t = s) = false from decide_eq_false (fun e => hl (by rw [e])))
      clear hl hh
      go_enter Tryz.func64, Tryz.ntmps64
      go_wp2_with fail
      go_ret
      exact ⟨ret_bool E0.out.symm, hb0⟩
  · have hne : (t.head != s.head) = true := by simp [hh]
    have E0 := Lib.hid (show decide (t = s) = false from decide_eq_false (fun e => hh (by rw [e])))
    clear hh
    go_enter Tryz.func64, Tryz.ntmps64
    go_wp2_with fail
    go_ret
    exact ⟨ret_bool E0.out.symm, hb0⟩
end Go.Proofs.YtidgnbdlfngeaaaGreatDoor
namespace Go.Proofs.YtidgnbdlfngeaaaGreatDoor
open Go.RowKit Go.Shelf
set_option linter.unusedVariables false
set_option maxHeartbeats 400000

set_option maxRecDepth 100000 in
theorem indexFunc67 (fn : Nat) (cap : Array Value) (eg : ∀ args w, (callFunc fn args).run Tryz.prog w = .ok (.enter fn args) w)
    (ao : Option Addr) (ks : List T) (n cp : Nat) (hn0 : ks.length = n) (p : Nat → Bool) (w : World) (hn : n ≤ 9223372036854775807) (hc : RowAt w ao ks)
    (hf : ∀ i w1 v, i < n → Below w.heap.size w w1 → TreeAt w1 v (gK ks i) → Calls Tryz.prog fn (#[v] ++ cap) w1 fun e w2 => e = .returned (.bool (p i)) ∧ Below w1.heap.size w1 w2) :
    Calls Tryz.prog 80 #[.slice ao n cp, .func (.func fn) #[] cap] w fun e w' => e = .returned (.int .i64 (firstZ p n)) ∧ Below w.heap.size w w' := by
  have HF := Lib.hid hf
  have HC := Lib.hid hc
  clear hf hc
  go_enter Tryz.func80, Tryz.ntmps80
  go_wp2
  go_loopw [5, 8] (fun _ i wr => ∃ k : Nat, k ≤ n ∧ i = .int .i64 k ∧ (∀ j, j < k → p j = false) ∧ Below w.heap.size w wr) (fun _ i _ => n - (intOf i).toNat)
  case atStart => exact ⟨0, Nat.zero_le _, rfl, by simp, Below.refl _ _⟩
  case round =>
    obtain ⟨k, hk, rfl, hno, hbel⟩ := hrel
    have HN := Lib.hid hno
    clear hno
    by_cases hlt : k < n
    · obtain ⟨b, off, ko, ksp, rfl, c1, c2, c3⟩ := (HC.out.below hbel) k (by omega)
      have H3 := Lib.hid c3
      clear c3 hn0
      go_wp2_with fail
      refine (HF.out k _ _ hlt hbel H3.out).mono ?_
      rintro e w1 ⟨rfl, hb1⟩
      have hbel1 := Below.step hbel hb1
      cases hp : p k with
      | true =>
        have HP := Lib.hid hp; clear hp
        go_wp2
        go_ret
        exact ⟨ret_int (firstZ_hit hlt HN.out HP.out).symm, hbel1⟩
      | false =>
        have HP := Lib.hid hp; clear hp
        go_wp2
        go_roundw
        case rel => exact ⟨k + 1, by omega, by go_num, fun j hj => (by rcases Nat.lt_succ_iff_lt_or_eq.1 hj with h | rfl; exact HN.out j h; exact HP.out), hbel1⟩
        case measure => simp [intOf] <;> omega
    · clear hn0
      go_wp2
      go_ret
      exact ⟨ret_int (firstZ_none (fun j hj => HN.out j (by omega))).symm, hbel⟩

set_option maxRecDepth 100000 in
theorem containsFunc60 (fn : Nat) (cap : Array Value) (eg : ∀ args w, (callFunc fn args).run Tryz.prog w = .ok (.enter fn args) w)
    (ao : Option Addr) (ks : List T) (n cp : Nat) (hn0 : ks.length = n) (p : Nat → Bool) (w : World) (hn : n ≤ 9223372036854775807) (hc : RowAt w ao ks)
    (hf : ∀ i w1 v, i < n → Below w.heap.size w w1 → TreeAt w1 v (gK ks i) → Calls Tryz.prog fn (#[v] ++ cap) w1 fun e w2 => e = .returned (.bool (p i)) ∧ Below w1.heap.size w1 w2) :
    Calls Tryz.prog 65 #[.slice ao n cp, .func (.func fn) #[] cap] w fun e w' => e = .returned (.bool (anyB p n)) ∧ Below w.heap.size w w' := by
  have H := Lib.hid (indexFunc67 fn cap eg ao ks n cp hn0 p w hn hc hf)
  clear hf hc eg hn0
  go_enter Tryz.func65, Tryz.ntmps65
  go_wp2_with fail
  refine H.out.mono ?_
  rintro e w1 ⟨rfl, hb1⟩
  go_wp2
  go_ret
  refine ⟨ret_bool ?_, hb1⟩
  rw [Bool.eq_iff_iff, ← firstZ_nonneg]; simp

theorem deep_kids (t : T) (m : Int) : ((t.deep : Int) ≤ m) ↔ 0 < m ∧ ∀ i, i < t.kids.length → ((gK t.kids i).deep : Int) ≤ m - 1 := by
  rw [T.deep_eq]
  have key : ∀ (l : List T) (n : Int), 0 ≤ n → (((deepL l : Nat) : Int) ≤ n ↔ ∀ i, i < l.length → ((gK l i).deep : Int) ≤ n) := by
    intro l n hn
    induction l with
    | nil => simp [deepL]; exact hn
    | cons x r ih =>
      simp only [deepL]
      constructor
      · intro h i hi
        cases i with
        | zero => simp [gK]; omega
        | succ i => have := (ih.1 (by omega)) i (by simpa using hi); simpa [gK] using this
      · intro h
        have h0 := h 0 (by simp)
        have h1 := ih.2 (fun i hi => by have := h (i + 1) (by simpa using hi); simpa [gK] using this)
        simp [gK] at h0
        omega
  constructor
  · intro h
    exact ⟨by omega, (key _ (m - 1) (by omega)).1 (by omega)⟩
  · rintro ⟨h0, h⟩
    have := (key t.kids (m - 1) (by omega)).2 h
    omega

set_option maxRecDepth 100000 in
set_option maxHeartbeats 4000000 in
theorem deep53 (t : T) : ∀ (m : Int) (v : Value) (w : World), -10 ≤ m → m ≤ 1000000 → TreeAt w v t →
    Calls Tryz.prog 53 #[v, .int .i64 m] w fun e w' => e = .returned (.bool (decide ((t.deep : Int) ≤ m))) ∧ Below w.heap.size w w' := by
  induction t using T.ind with
  | h t ih =>
  intro m v w hm0 hm ht
  obtain ⟨ao, sp, rfl, hr, hml⟩ := ht.open
  have hml : t.kids.length ≤ 9223372036854775807 := hml
  have HR := Lib.hid hr; have IH := Lib.hid ih
  clear ht hr ih
  have hbx := heap_ofAlloc (w.alloc (.cells #[.int .i64 t.head, .slice ao t.kids.length (t.kids.length + sp)] 45)) (.cells #[.int .i64 m] 3)
  rw [World.size_alloc] at hbx
  have hb0 := ((Below.refl w.heap.size w).alloc (Nat.le_refl _) (.cells #[.int .i64 t.head, .slice ao t.kids.length (t.kids.length + sp)] 45)).alloc (by simp) (.cells #[.int .i64 m] 3)
  by_cases h0 : 0 < m
  · have E := Lib.hid (deep_kids t m)
    go_enter Tryz.func53, Tryz.ntmps53
    go_wp2_with fail
    generalize (w.alloc (.cells #[.int .i64 t.head, .slice ao t.kids.length (t.kids.length + sp)] 45)).alloc (.cells #[.int .i64 m] 3) = w0 at hbx hb0 ⊢
    have XB := Lib.hid hbx; have HB0 := Lib.hid hb0
    clear hbx hb0
    refine (containsFunc60 66 #[.pointer (some ⟨w.heap.size + 1, 0, none⟩)] (enters_of Tryz.func66 (by kernel_rfl) rfl) ao t.kids t.kids.length (t.kids.length + sp) rfl (fun i => !decide (((gK t.kids i).deep : Int) ≤ m - 1)) w0 hml (HR.out.below HB0.out) (fun i w1 v hi hb1 hv => ?_)).mono ?_
    · have hx := (box1 (Below.heapAt hb1 XB.out)).1
      have hxl := heap_lt (Below.heapAt hb1 XB.out)
      obtain ⟨k, ksp, rfl⟩ := hv.form
      have HV := Lib.hid hv
      have hb2 := (Below.refl w1.heap.size w1).alloc (Nat.le_refl _) (.cells #[.int .i64 (gK t.kids i).head, .slice k (gK t.kids i).kids.length ((gK t.kids i).kids.length + ksp)] 45)
      have HI := Lib.hid (IH.out i hi (m - 1) _ _ (by omega) (by omega) (HV.out.kept hb2))
      clear hv
      go_enter Tryz.func66, Tryz.ntmps66
      go_wp2_with fail
      refine HI.out.mono ?_
      rintro e w2 ⟨rfl, hb3⟩
      go_wp2_with fail
      go_ret
      exact ⟨rfl, Below.step hb2 hb3⟩
    · rintro e w2 ⟨rfl, hb2⟩
      go_wp2_with fail
      go_ret
      refine ⟨ret_bool ?_, Below.step HB0.out hb2⟩
      rw [Bool.eq_iff_iff]
      simp only [Bool.not_eq_true', decide_eq_true_eq]
      rw [E.out]
      cases hq : anyB (fun i => !decide (((gK t.kids i).deep : Int) ≤ m - 1)) t.kids.length with
      | true =>
        obtain ⟨j, hj, hp⟩ := anyB_iff.1 hq
        simp only [Bool.not_eq_true', decide_eq_false_iff_not] at hp
        simp only [Bool.true_eq_false, false_iff]
        exact fun h => hp (h.2 j hj)
      | false =>
        simp only [true_iff]
        refine ⟨h0, fun i hi => ?_⟩
        by_cases hc : ((gK t.kids i).deep : Int) ≤ m - 1
        · exact hc
        · have : anyB (fun i => !decide (((gK t.kids i).deep : Int) ≤ m - 1)) t.kids.length = true := anyB_iff.2 ⟨i, hi, by simpa using hc⟩
          rw [hq] at this; cases this
  · have E := Lib.hid (show decide ((t.deep : Int) ≤ m) = false by rw [T.deep_eq]; simp; omega)
    go_enter Tryz.func53, Tryz.ntmps53
    go_wp2_with fail
    go_ret
    exact ⟨ret_bool E.out.symm, hb0⟩
end Go.Proofs.YtidgnbdlfngeaaaGreatDoor
namespace Go.Proofs.YtidgnbdlfngeaaaGreatDoor
open Go.RowKit Go.Shelf
set_option linter.unusedVariables false
set_option maxHeartbeats 400000

def badHead (h : Int) : Prop := h = 0 ∨ h < -8 ∨ 12 < h
def badKids (h : Int) (n : Nat) : Prop := 3 < n ∨ (h < 0 ∧ 0 < n)
instance (h : Int) : Decidable (badHead h) := by unfold badHead; infer_instance
instance (h : Int) (n : Nat) : Decidable (badKids h n) := by unfold badKids; infer_instance
mutual
def T.nodes : T → Int → (Int × Int) × Int
  | .node h ks, a => if badHead h then ((3, a), a) else if badKids h ks.length then ((9, a), a) else nodesL ks (a + 1)
def nodesL : List T → Int → (Int × Int) × Int
  | [], a => ((0, 0), a)
  | t :: r, a => if (t.nodes a).1.1 ≠ 0 then t.nodes a else nodesL r (t.nodes a).2
end
theorem T.nodes_eq (t : T) (a : Int) : t.nodes a = if badHead t.head then ((3, a), a) else if badKids t.head t.kids.length then ((9, a), a) else nodesL t.kids (a + 1) := by cases t; rw [T.nodes]; rfl
theorem drop_gK {l : List T} {i : Nat} (h : i < l.length) : l.drop i = gK l i :: l.drop (i + 1) := by rw [List.drop_eq_getElem_cons h, gK_get h]
theorem nodes_le (t : T) : ∀ a : Int, a ≤ (t.nodes a).2 ∧ (t.nodes a).2 ≤ a + t.size ∧ (((t.nodes a).1.1 = 0) → (t.nodes a).1 = (0, 0)) := by
  induction t using T.ind with
  | h t ih =>
    intro a
    rw [T.nodes_eq, T.size_eq]
    split
    · exact ⟨by simp, by simp; omega, by simp⟩
    · split
      · exact ⟨by simp, by simp; omega, by simp⟩
      · have key : ∀ (l : List T), (∀ i, i < l.length → ∀ a : Int, a ≤ ((gK l i).nodes a).2 ∧ ((gK l i).nodes a).2 ≤ a + (gK l i).size ∧ (((gK l i).nodes a).1.1 = 0 → ((gK l i).nodes a).1 = (0, 0))) → ∀ a : Int, a ≤ (nodesL l a).2 ∧ (nodesL l a).2 ≤ a + sizeL l ∧ ((nodesL l a).1.1 = 0 → (nodesL l a).1 = (0, 0)) := by
          intro l
          induction l with
          | nil => intro _ a; simp [nodesL, sizeL]
          | cons x r ihr =>
            intro h a
            have h0 := h 0 (by simp) a
            have e : gK (x :: r) 0 = x := by simp [gK]
            rw [e] at h0
            have hr := ihr (fun i hi => by have := h (i + 1) (by simpa using hi); simpa [gK] using this)
            simp only [nodesL, sizeL]
            split
            · exact ⟨h0.1, by omega, h0.2.2⟩
            · have := hr (x.nodes a).2
              exact ⟨by omega, by omega, this.2.2⟩
        have := key t.kids ih (a + 1)
        exact ⟨by omega, by omega, this.2.2⟩

/-- a function's end whose first result lies in a block of two cells, its second in a slot -/
theorem ret_box2s {P : Program} {fn : Func} {R : Ending → World → Prop} {a : Act} {w : World} (p q : Value) (x : Value) (c : Nat) (T' : TypeId)
    (hc : w.heap[c]? = some (.cells #[p, q] T' (0, 0)))
    (hres : ∀ w' : World, w'.cell? ⟨c, 0, none⟩ = some p → w'.cell? ⟨c, 1, none⟩ = some q → (results fn a.tmps).run P w' = .ok (.tuple #[.agg #[p, q], x]) w') (hd : a.defers = [])
    (hR : R (.returned (.tuple #[.agg #[p, q], x])) w) : bodyPost P fn R .ret a w :=
  bodyPost_ret (hres w (box2 hc).1.1 (box2 hc).2.1) hd hR

set_option maxRecDepth 100000 in
set_option maxHeartbeats 4000000 in
theorem nodes44 (t : T) : ∀ (a : Int) (v : Value) (w : World), 0 ≤ a → a + t.size ≤ 1000000000 → TreeAt w v t →
    Calls Tryz.prog 51 #[v, .int .i64 a] w fun e w' => e = .returned (.tuple #[.agg #[.int .i64 (t.nodes a).1.1, .int .i64 (t.nodes a).1.2], .int .i64 (t.nodes a).2]) ∧ Below w.heap.size w w' := by
  induction t using T.ind with
  | h t ih =>
  intro a v w ha0 ha ht
  obtain ⟨ao, sp, rfl, hr, hml⟩ := ht.open
  have hml : t.kids.length ≤ 9223372036854775807 := hml
  have HR := Lib.hid hr; have IH := Lib.hid ih
  have HE := Lib.hid (T.nodes_eq t a)
  have HSZ := Lib.hid (show a + 1 + sizeL t.kids ≤ 1000000000 by rw [T.size_eq] at ha; omega)
  have ha1 : a ≤ 1000000000 := by omega
  clear ht hr ih ha
  have hbx := heap_alloc_old (o' := .cells #[.int .i64 0, .int .i64 0] 28) (heap_ofAlloc w (.cells #[.int .i64 t.head, .slice ao t.kids.length (t.kids.length + sp)] 45))
  have hby := heap_ofAlloc (w.alloc (.cells #[.int .i64 t.head, .slice ao t.kids.length (t.kids.length + sp)] 45)) (.cells #[.int .i64 0, .int .i64 0] 28)
  rw [World.size_alloc] at hby
  have hb0 := ((Below.refl w.heap.size w).alloc (Nat.le_refl _) (.cells #[.int .i64 t.head, .slice ao t.kids.length (t.kids.length + sp)] 45)).alloc (by simp) (.cells #[.int .i64 0, .int .i64 0] 28)
  by_cases hbh : badHead t.head
  · have HF := Lib.hid (show t.nodes a = ((3, a), a) by rw [HE.out, if_pos hbh])
    clear HE
    by_cases h0 : t.head = 0
    · have e1 : (t.head == 0) = true := by simp [h0]
      clear h0 hbh
      go_enter Tryz.func51, Tryz.ntmps51
      go_wp2_with fail
      refine (fault42 3 a _).mono ?_
      rintro e w2 ⟨rfl, hb2⟩
      have hy2 := Below.heapAt hb2 hby
      have hyl := heap_lt hy2
      have hbw := Below.step hb0 hb2
      obtain ⟨⟨y0, y1⟩, y2, y3⟩ := box2 hy2
      clear hbx hby hb0 hb2
      go_wp2_with fail
      refine ret_box2s (.int .i64 3) (.int .i64 a) (.int .i64 a) (w.heap.size + 1) 28 (box2_set hy2 _ _) (fun w' q0 q1 => by simp [results, Tryz.results51, go_sem, q0, q1]) rfl ?_
      exact ⟨by rw [HF.out], (hbw.setCell (p := ⟨w.heap.size + 1, 0, none⟩) (by simp) _).setCell (p := ⟨w.heap.size + 1, 1, none⟩) (by simp) _⟩
    · have e1 : (t.head == 0) = false := by simp [h0]
      by_cases h8 : t.head < -8
      · clear hbh h0
        go_enter Tryz.func51, Tryz.ntmps51
        go_wp2_with fail
        refine (fault42 3 a _).mono ?_
        rintro e w2 ⟨rfl, hb2⟩
        have hy2 := Below.heapAt hb2 hby
        have hyl := heap_lt hy2
        have hbw := Below.step hb0 hb2
        obtain ⟨⟨y0, y1⟩, y2, y3⟩ := box2 hy2
        clear hbx hby hb0 hb2
        go_wp2_with fail
        refine ret_box2s (.int .i64 3) (.int .i64 a) (.int .i64 a) (w.heap.size + 1) 28 (box2_set hy2 _ _) (fun w' q0 q1 => by simp [results, Tryz.results51, go_sem, q0, q1]) rfl ?_
        exact ⟨by rw [HF.out], (hbw.setCell (p := ⟨w.heap.size + 1, 0, none⟩) (by simp) _).setCell (p := ⟨w.heap.size + 1, 1, none⟩) (by simp) _⟩
      · have h12 : 12 < t.head := by simp only [badHead] at hbh; omega
        clear hbh h0
        go_enter Tryz.func51, Tryz.ntmps51
        go_wp2_with fail
        refine (fault42 3 a _).mono ?_
        rintro e w2 ⟨rfl, hb2⟩
        have hy2 := Below.heapAt hb2 hby
        have hyl := heap_lt hy2
        have hbw := Below.step hb0 hb2
        obtain ⟨⟨y0, y1⟩, y2, y3⟩ := box2 hy2
        clear hbx hby hb0 hb2
        go_wp2_with fail
        refine ret_box2s (.int .i64 3) (.int .i64 a) (.int .i64 a) (w.heap.size + 1) 28 (box2_set hy2 _ _) (fun w' q0 q1 => by simp [results, Tryz.results51, go_sem, q0, q1]) rfl ?_
        exact ⟨by rw [HF.out], (hbw.setCell (p := ⟨w.heap.size + 1, 0, none⟩) (by simp) _).setCell (p := ⟨w.heap.size + 1, 1, none⟩) (by simp) _⟩
  · by_cases hbk : badKids t.head t.kids.length
    · have HF := Lib.hid (show t.nodes a = ((9, a), a) by rw [HE.out, if_neg hbh, if_pos hbk])
      clear HE
      simp only [badHead, not_or] at hbh
      obtain ⟨g1, g2, g3⟩ := hbh
      have e1 : (t.head == 0) = false := by simp [g1]
      clear g1
      by_cases h3 : (3 : Int) < t.kids.length
      · clear hbk
        go_enter Tryz.func51, Tryz.ntmps51
        go_wp2_with fail
        refine (fault42 9 a _).mono ?_
        rintro e w2 ⟨rfl, hb2⟩
        have hy2 := Below.heapAt hb2 hby
        have hyl := heap_lt hy2
        have hbw := Below.step hb0 hb2
        obtain ⟨⟨y0, y1⟩, y2, y3⟩ := box2 hy2
        clear hbx hby hb0 hb2
        go_wp2_with fail
        refine ret_box2s (.int .i64 9) (.int .i64 a) (.int .i64 a) (w.heap.size + 1) 28 (box2_set hy2 _ _) (fun w' q0 q1 => by simp [results, Tryz.results51, go_sem, q0, q1]) rfl ?_
        exact ⟨by rw [HF.out], (hbw.setCell (p := ⟨w.heap.size + 1, 0, none⟩) (by simp) _).setCell (p := ⟨w.heap.size + 1, 1, none⟩) (by simp) _⟩
      · have h4 : t.head < 0 ∧ (0 : Int) < t.kids.length := by simp only [badKids] at hbk; omega
        obtain ⟨h4, h5⟩ := h4
        clear hbk
        go_enter Tryz.func51, Tryz.ntmps51
        go_wp2_with fail
        refine (fault42 9 a _).mono ?_
        rintro e w2 ⟨rfl, hb2⟩
        have hy2 := Below.heapAt hb2 hby
        have hyl := heap_lt hy2
        have hbw := Below.step hb0 hb2
        obtain ⟨⟨y0, y1⟩, y2, y3⟩ := box2 hy2
        clear hbx hby hb0 hb2
        go_wp2_with fail
        refine ret_box2s (.int .i64 9) (.int .i64 a) (.int .i64 a) (w.heap.size + 1) 28 (box2_set hy2 _ _) (fun w' q0 q1 => by simp [results, Tryz.results51, go_sem, q0, q1]) rfl ?_
        exact ⟨by rw [HF.out], (hbw.setCell (p := ⟨w.heap.size + 1, 0, none⟩) (by simp) _).setCell (p := ⟨w.heap.size + 1, 1, none⟩) (by simp) _⟩
    · have HE2 := Lib.hid (show t.nodes a = nodesL t.kids (a + 1) by rw [HE.out, if_neg hbh, if_neg hbk])
      simp only [badHead, badKids, not_or, not_and] at hbh hbk
      obtain ⟨g1, g2, g3⟩ := hbh
      obtain ⟨g4, g5⟩ := hbk
      have e1 : (t.head == 0) = false := by simp [g1]
      clear HE g1
      by_cases hneg : t.head < 0
      · have g6 : ¬ (0 : Int) < t.kids.length := by have := g5 hneg; omega
        clear g5
        go_enter Tryz.func51, Tryz.ntmps51
        go_wp2_with fail
        generalize (w.alloc (.cells #[.int .i64 t.head, .slice ao t.kids.length (t.kids.length + sp)] 45)).alloc (.cells #[.int .i64 0, .int .i64 0] 28) = w0 at hbx hby hb0 ⊢
        have XB := Lib.hid hbx; have YB := Lib.hid hby; have HB0 := Lib.hid hb0
        obtain ⟨by_, hby_⟩ : ∃ b, b = w.heap.size + 1 := ⟨_, rfl⟩
        rw [← hby_] at YB ⊢
        have HY := Lib.hid hby_
        clear hbx hby hby_ hb0
        go_loopw [1, 6, 7, 8] (fun at_ i _ _ wr => ∃ (k : Nat) (A : Int), k ≤ t.kids.length ∧ at_ = .int .i64 A ∧ i = .int .i64 k ∧ nodesL (t.kids.drop k) A = nodesL t.kids (a + 1) ∧ a + 1 ≤ A ∧ A ≤ a + 1 + sizeL (t.kids.take k) ∧ Below w0.heap.size w0 wr) (fun _ i _ _ _ => t.kids.length - (intOf i).toNat)
        case atStart => exact ⟨0, a + 1, by omega, by go_num, rfl, by simp, by omega, by simp [sizeL], Below.refl _ _⟩
        case round =>
          obtain ⟨k, A, hk, rfl, rfl, hnd, hA1, hA2, hb⟩ := hrel
          have HND := Lib.hid hnd
          have hle := sizeL_take_le t.kids k
          have hA3 : A ≤ 1000000000 := by have := HSZ.out; omega
          have HA2 := Lib.hid hA2
          obtain ⟨⟨x0, _⟩, x1, _⟩ := box2 (Below.heapAt hb XB.out)
          have hyb := Below.heapAt hb YB.out
          clear x0 hnd hle hA2
          by_cases hlt : k < t.kids.length
          · exact absurd hlt (by omega)
          · obtain rfl : k = t.kids.length := by omega
            have hyl := heap_lt hyb
            obtain ⟨⟨y0, y1⟩, y2, y3⟩ := box2 hyb
            have hbw := Below.step HB0.out hb
            have hly : w.heap.size ≤ by_ := by have := HY.out; omega
            go_wp2_with fail
            refine ret_box2s (.int .i64 0) (.int .i64 0) (.int .i64 A) by_ 28 (box2_set hyb _ _) (fun w' q0 q1 => by simp [results, Tryz.results51, go_sem, q0, q1]) rfl ?_
            exact ⟨by have h := HND.out; rw [List.drop_length, nodesL] at h; rw [HE2.out, ← h], (hbw.setCell (p := ⟨by_, 0, none⟩) hly _).setCell (p := ⟨by_, 1, none⟩) hly _⟩
      · clear g5
        go_enter Tryz.func51, Tryz.ntmps51
        go_wp2_with fail
        generalize (w.alloc (.cells #[.int .i64 t.head, .slice ao t.kids.length (t.kids.length + sp)] 45)).alloc (.cells #[.int .i64 0, .int .i64 0] 28) = w0 at hbx hby hb0 ⊢
        have XB := Lib.hid hbx; have YB := Lib.hid hby; have HB0 := Lib.hid hb0
        obtain ⟨by_, hby_⟩ : ∃ b, b = w.heap.size + 1 := ⟨_, rfl⟩
        rw [← hby_] at YB ⊢
        have HY := Lib.hid hby_
        clear hbx hby hby_ hb0
        go_loopw [1, 6, 7, 8] (fun at_ i _ _ wr => ∃ (k : Nat) (A : Int), k ≤ t.kids.length ∧ at_ = .int .i64 A ∧ i = .int .i64 k ∧ nodesL (t.kids.drop k) A = nodesL t.kids (a + 1) ∧ a + 1 ≤ A ∧ A ≤ a + 1 + sizeL (t.kids.take k) ∧ Below w0.heap.size w0 wr) (fun _ i _ _ _ => t.kids.length - (intOf i).toNat)
        case atStart => exact ⟨0, a + 1, by omega, by go_num, rfl, by simp, by omega, by simp [sizeL], Below.refl _ _⟩
        case round =>
          obtain ⟨k, A, hk, rfl, rfl, hnd, hA1, hA2, hb⟩ := hrel
          have HND := Lib.hid hnd
          have hle := sizeL_take_le t.kids k
          have hA3 : A ≤ 1000000000 := by have := HSZ.out; omega
          have HA2 := Lib.hid hA2
          obtain ⟨⟨x0, _⟩, x1, _⟩ := box2 (Below.heapAt hb XB.out)
          have hyb := Below.heapAt hb YB.out
          clear x0 hnd hle hA2
          by_cases hlt : k < t.kids.length
          · obtain ⟨b, off, ko, ksp, rfl, c1, c2, c3⟩ := (HR.out.below (Below.step HB0.out hb)) k hlt
            have HST := Lib.hid (sizeL_take hlt)
            have hs1 := sizeL_take_le t.kids (k + 1)
            have hs2 : A + (gK t.kids k).size ≤ 1000000000 := by have := HSZ.out; have h := HST.out; have h2 := HA2.out; omega
            have HC := Lib.hid c3
            have HNL := Lib.hid (nodes_le (gK t.kids k) A)
            have HND2 := Lib.hid (show nodesL (t.kids.drop k) A = if ((gK t.kids k).nodes A).1.1 ≠ 0 then (gK t.kids k).nodes A else nodesL (t.kids.drop (k + 1)) ((gK t.kids k).nodes A).2 by rw [drop_gK hlt, nodesL])
            clear c3 hs1
            go_wp2_with fail
            refine (IH.out k hlt A _ _ (by omega) hs2 HC.out).mono ?_
            rintro e w2 ⟨rfl, hb2⟩
            have hy2 := Below.heapAt hb2 hyb
            have hb3 := Below.step hb hb2
            clear hb2 hyb hs2
            generalize (gK t.kids k).nodes A = R at HNL HND2 ⊢
            obtain ⟨⟨rc, ra⟩, rn⟩ := R
            have hrn := HNL.out.2.1
            have hs3 : rn ≤ 1000000000 := by have h2 := HA2.out; have h3 := HST.out; have h4 := sizeL_take_le t.kids (k + 1); have := HSZ.out; simp only at hrn; omega
            clear hrn
            by_cases hc : rc = 0
            · have hcb : (rc != 0) = false := by simp [hc]
              have HCC := Lib.hid hc
              clear hc
              go_wp2_with fail
              go_roundw
              case rel =>
                have h1 := HND2.out
                have h2 := HNL.out
                have h3 := HST.out
                have h4 := HA2.out
                simp only [ne_eq] at h1 h2
                refine ⟨k + 1, rn, by omega, rfl, by go_num, ?_, by omega, by omega, hb3.alloc hb3.size _⟩
                rw [← HND.out, h1, if_neg (by simp [HCC.out])]
              case measure => simp [intOf] <;> omega
            · have hcb : (rc != 0) = true := by simp [hc]
              have HCC := Lib.hid hc
              clear hc
              have hyl := heap_lt hy2
              obtain ⟨⟨y0, y1⟩, y2, y3⟩ := box2 hy2
              have hbw := Below.step HB0.out hb3
              have hly : w.heap.size ≤ by_ := by have := HY.out; omega
              have hsz2 := hbw.size
              go_wp2_with fail
              refine ret_box2s (.int .i64 rc) (.int .i64 ra) (.int .i64 rn) by_ 28 (heap_alloc_old (box2_set hy2 _ _)) (fun w' q0 q1 => by simp [results, Tryz.results51, go_sem, q0, q1]) rfl ?_
              exact ⟨by rw [HE2.out, ← HND.out, HND2.out, if_pos (by simpa using HCC.out)], ((hbw.setCell (p := ⟨by_, 0, none⟩) hly _).setCell (p := ⟨by_, 1, none⟩) hly _).alloc (by simp; omega) _⟩
          · obtain rfl : k = t.kids.length := by omega
            have hyl := heap_lt hyb
            obtain ⟨⟨y0, y1⟩, y2, y3⟩ := box2 hyb
            have hbw := Below.step HB0.out hb
            have hly : w.heap.size ≤ by_ := by have := HY.out; omega
            go_wp2_with fail
            refine ret_box2s (.int .i64 0) (.int .i64 0) (.int .i64 A) by_ 28 (box2_set hyb _ _) (fun w' q0 q1 => by simp [results, Tryz.results51, go_sem, q0, q1]) rfl ?_
            exact ⟨by have h := HND.out; rw [List.drop_length, nodesL] at h; rw [HE2.out, ← h], (hbw.setCell (p := ⟨by_, 0, none⟩) hly _).setCell (p := ⟨by_, 1, none⟩) hly _⟩
end Go.Proofs.YtidgnbdlfngeaaaGreatDoor
namespace Go.Proofs.YtidgnbdlfngeaaaGreatDoor
open Go.RowKit Go.Shelf
set_option linter.unusedVariables false
set_option maxHeartbeats 400000

def treeF (t : T) : Int × Int := if 40 < t.size then (2, 0) else if 12 < t.deep then (10, 0) else (t.nodes 0).1
def FV (f : Int × Int) : Value := .agg #[.int .i64 f.1, .int .i64 f.2]

set_option maxRecDepth 100000 in
theorem tree18 (t : T) (v : Value) (w : World) (hs : t.size ≤ 1000000) (ht : TreeAt w v t) :
    Calls Tryz.prog 37 #[v] w fun e w' => e = .returned (FV (treeF t)) ∧ Below w.heap.size w w' := by
  obtain ⟨k, sp, rfl⟩ := ht.form
  have HT := Lib.hid ht; clear ht
  have hbx := heap_alloc_old (o' := .cells #[.int .i64 0, .int .i64 0] 28) (heap_ofAlloc w (.cells #[.int .i64 t.head, .slice k t.kids.length (t.kids.length + sp)] 45))
  have hby := heap_ofAlloc (w.alloc (.cells #[.int .i64 t.head, .slice k t.kids.length (t.kids.length + sp)] 45)) (.cells #[.int .i64 0, .int .i64 0] 28)
  rw [World.size_alloc] at hby
  have hb0 := ((Below.refl w.heap.size w).alloc (Nat.le_refl _) (.cells #[.int .i64 t.head, .slice k t.kids.length (t.kids.length + sp)] 45)).alloc (by simp) (.cells #[.int .i64 0, .int .i64 0] 28)
  have HS := Lib.hid (fun W h => size41 t (.agg #[.int .i64 t.head, .slice k t.kids.length (t.kids.length + sp)]) W (by omega) h)
  have HD := Lib.hid (fun W h => deep43 t (.agg #[.int .i64 t.head, .slice k t.kids.length (t.kids.length + sp)]) W (by have := deep_le t; omega) h)
  have HN := Lib.hid (fun W h => nodes44 t 0 (.agg #[.int .i64 t.head, .slice k t.kids.length (t.kids.length + sp)]) W (by omega) (by omega) h)
  by_cases h40 : (40 : Int) < t.size
  · have HF := Lib.hid (show treeF t = (2, 0) by rw [treeF, if_pos (by omega)])
    go_enter Tryz.func37, Tryz.ntmps37
    go_wp2_with fail
    refine (HS.out _ (HT.out.kept hb0)).mono ?_
    rintro e w1 ⟨rfl, hb1⟩
    have hy1 := Below.heapAt hb1 hby
    have hb01 := Below.step hb0 hb1
    clear hbx hby hb0 hb1
    go_wp2_with fail
    refine (fault42 2 0 _).mono ?_
    rintro e w2 ⟨rfl, hb2⟩
    have hy2 := Below.heapAt hb2 hy1
    have hyl := heap_lt hy2
    have hbw := Below.step hb01 hb2
    obtain ⟨⟨y0, y1⟩, y2, y3⟩ := box2 hy2
    clear hy1 hb01 hb2
    go_wp2_with fail
    refine ret_box2 (.int .i64 2) (.int .i64 0) (w.heap.size + 1) 28 (box2_set hy2 _ _) (fun w' q0 q1 => by simp [results, Tryz.results37, go_sem, q0, q1]) rfl ?_
    exact ⟨by rw [HF.out]; rfl, (hbw.setCell (p := ⟨w.heap.size + 1, 0, none⟩) (by simp) _).setCell (p := ⟨w.heap.size + 1, 1, none⟩) (by simp) _⟩
  · by_cases h12 : (12 : Int) < t.deep
    · have HF := Lib.hid (show treeF t = (10, 0) by rw [treeF, if_neg (by omega), if_pos (by omega)])
      go_enter Tryz.func37, Tryz.ntmps37
      go_wp2_with fail
      refine (HS.out _ (HT.out.kept hb0)).mono ?_
      rintro e w1 ⟨rfl, hb1⟩
      have hx1 := Below.heapAt hb1 hbx
      have hy1 := Below.heapAt hb1 hby
      have hb01 := Below.step hb0 hb1
      obtain ⟨⟨x0, _⟩, x1, _⟩ := box2 hx1
      clear hbx hby hb0 hb1
      go_wp2_with fail
      refine (HD.out _ (HT.out.kept hb01)).mono ?_
      rintro e w2 ⟨rfl, hb2⟩
      have hy2 := Below.heapAt hb2 hy1
      have hb02 := Below.step hb01 hb2
      clear hx1 hy1 hb01 hb2 x0 x1
      go_wp2_with fail
      refine (fault42 10 0 _).mono ?_
      rintro e w3 ⟨rfl, hb3⟩
      have hy3 := Below.heapAt hb3 hy2
      have hyl := heap_lt hy3
      have hbw := Below.step hb02 hb3
      obtain ⟨⟨y0, y1⟩, y2, y3⟩ := box2 hy3
      clear hy2 hb02 hb3
      go_wp2_with fail
      refine ret_box2 (.int .i64 10) (.int .i64 0) (w.heap.size + 1) 28 (box2_set hy3 _ _) (fun w' q0 q1 => by simp [results, Tryz.results37, go_sem, q0, q1]) rfl ?_
      exact ⟨by rw [HF.out]; rfl, (hbw.setCell (p := ⟨w.heap.size + 1, 0, none⟩) (by simp) _).setCell (p := ⟨w.heap.size + 1, 1, none⟩) (by simp) _⟩
    · have HF := Lib.hid (show treeF t = (t.nodes 0).1 by rw [treeF, if_neg (by omega), if_neg (by omega)])
      go_enter Tryz.func37, Tryz.ntmps37
      go_wp2_with fail
      refine (HS.out _ (HT.out.kept hb0)).mono ?_
      rintro e w1 ⟨rfl, hb1⟩
      have hx1 := Below.heapAt hb1 hbx
      have hy1 := Below.heapAt hb1 hby
      have hb01 := Below.step hb0 hb1
      obtain ⟨⟨x0, _⟩, x1, _⟩ := box2 hx1
      clear hbx hby hb0 hb1
      go_wp2_with fail
      refine (HD.out _ (HT.out.kept hb01)).mono ?_
      rintro e w2 ⟨rfl, hb2⟩
      have hx2 := Below.heapAt hb2 hx1
      have hy2 := Below.heapAt hb2 hy1
      have hb02 := Below.step hb01 hb2
      clear hx1 hy1 hb01 hb2 x0 x1
      obtain ⟨⟨x0, _⟩, x1, _⟩ := box2 hx2
      go_wp2_with fail
      refine (HN.out _ (HT.out.kept hb02)).mono ?_
      rintro e w3 ⟨rfl, hb3⟩
      have hy3 := Below.heapAt hb3 hy2
      have hyl := heap_lt hy3
      have hbw := Below.step hb02 hb3
      obtain ⟨⟨y0, y1⟩, y2, y3⟩ := box2 hy3
      clear hy2 hb02 hb3 x0 x1 hx2
      generalize t.nodes 0 = R at HF ⊢
      obtain ⟨⟨rc, ra⟩, rn⟩ := R
      go_wp2_with fail
      have hsz := hbw.size
      refine ret_box2 (.int .i64 rc) (.int .i64 ra) (w.heap.size + 1) 28 (heap_alloc_old (box2_set hy3 _ _)) (fun w' q0 q1 => by simp [results, Tryz.results37, go_sem, q0, q1]) rfl ?_
      exact ⟨by rw [HF.out]; rfl, ((hbw.setCell (p := ⟨w.heap.size + 1, 0, none⟩) (by simp) _).setCell (p := ⟨w.heap.size + 1, 1, none⟩) (by simp) _).alloc (by simp; omega) _⟩

theorem vast15 (t : T) (v : Value) (w : World) (hs : t.size ≤ 1000000000) (ht : TreeAt w v t) :
    Calls Tryz.prog 14 #[v] w fun e w' => e = .returned (.bool (decide ((200 : Int) < t.size))) ∧ Below w.heap.size w w' := by
  obtain ⟨k, sp, rfl⟩ := ht.form
  have HS := Lib.hid (fun W h => size41 t (.agg #[.int .i64 t.head, .slice k t.kids.length (t.kids.length + sp)]) W (by omega) h)
  have HT := Lib.hid ht; clear ht
  have hb0 := (Below.refl w.heap.size w).alloc (Nat.le_refl _) (.cells #[.int .i64 t.head, .slice k t.kids.length (t.kids.length + sp)] 45)
  go_enter Tryz.func14, Tryz.ntmps14
  go_wp2_with fail
  refine (HS.out _ (HT.out.kept hb0)).mono ?_
  rintro e w1 ⟨rfl, hb1⟩
  have hb01 := Below.step hb0 hb1
  go_wp2_with fail
  go_ret
  exact ⟨rfl, hb01⟩
end Go.Proofs.YtidgnbdlfngeaaaGreatDoor
namespace Go.Proofs.YtidgnbdlfngeaaaGreatDoor
open Go.RowKit Go.Shelf
set_option linter.unusedVariables false
set_option maxHeartbeats 400000

end Go.Proofs.YtidgnbdlfngeaaaGreatDoor
namespace Go.Proofs.YtidgnbdlfngeaaaGreatDoor
open Go.RowKit Go.Shelf
set_option linter.unusedVariables false

inductive TreeP (p : Nat → Prop) (w : World) : Value → T → Prop
  | mk (h : Int) (ks : List T) (ao : Option Addr) (sp : Nat) (c0 c1 : Nat → Value) (hn : ks.length ≤ maxLen)
      (hc : ∀ i, i < ks.length → ∃ b off, ao = some ⟨b, off, none⟩ ∧ p b ∧ w.cell? ⟨b, off + i * 2, none⟩ = some (c0 i) ∧ w.cell? ⟨b, off + i * 2 + 1, none⟩ = some (c1 i))
      (ht : ∀ i, i < ks.length → TreeP p w (.agg #[c0 i, c1 i]) (gK ks i)) : TreeP p w (.agg #[.int .i64 h, .slice ao ks.length (ks.length + sp)]) (.node h ks)

theorem TreeP.at {p : Nat → Prop} {w : World} {v : Value} {t : T} (h : TreeP p w v t) : TreeAt w v t := by
  induction h with
  | mk h ks ao sp c0 c1 hn hc ht ih =>
    exact .mk h ks ao sp c0 c1 hn (fun i hi => by obtain ⟨b, off, e, _, h1, h2⟩ := hc i hi; exact ⟨b, off, e, h1, h2⟩) ih
theorem TreeAt.foot {w : World} {v : Value} {t : T} (h : TreeAt w v t) : TreeP (fun b => b < w.heap.size) w v t := by
  induction h with
  | mk h ks ao sp c0 c1 hn hc ht ih =>
    exact .mk h ks ao sp c0 c1 hn (fun i hi => by obtain ⟨b, off, e, h1, h2⟩ := hc i hi; exact ⟨b, off, e, block_lt_of_cell h1, h1, h2⟩) ih
theorem TreeP.mono {p q : Nat → Prop} {w : World} {v : Value} {t : T} (h : TreeP p w v t) (hpq : ∀ b, p b → b < w.heap.size → q b) : TreeP q w v t := by
  induction h with
  | mk h ks ao sp c0 c1 hn hc ht ih =>
    exact .mk h ks ao sp c0 c1 hn (fun i hi => by obtain ⟨b, off, e, hp, h1, h2⟩ := hc i hi; exact ⟨b, off, e, hpq b hp (block_lt_of_cell h1), h1, h2⟩) ih
/-- whatever leaves the footprint's blocks leaves the tree -/
theorem TreeP.carry {p : Nat → Prop} {w w' : World} {v : Value} {t : T} (hk : ∀ b, p b → b < w.heap.size → w'.heap[b]? = w.heap[b]?) (h : TreeP p w v t) : TreeP p w' v t := by
  induction h with
  | mk h ks ao sp c0 c1 hn hc ht ih =>
    exact .mk h ks ao sp c0 c1 hn (fun i hi => by
      obtain ⟨b, off, e, hp, h1, h2⟩ := hc i hi
      have hb := hk b hp (block_lt_of_cell h1)
      exact ⟨b, off, e, hp, by rw [World.cell?_of_block (w := w) hb]; exact h1, by rw [World.cell?_of_block (w := w) hb]; exact h2⟩) ih
/-- a row of trees with their footprint -/
def RowP (p : Nat → Prop) (w : World) (ao : Option Addr) (ks : List T) : Prop :=
  ∀ i, i < ks.length → ∃ b off k sp, ao = some ⟨b, off, none⟩ ∧ p b ∧ w.cell? ⟨b, off + i * 2, none⟩ = some (.int .i64 (gK ks i).head) ∧
    w.cell? ⟨b, off + i * 2 + 1, none⟩ = some (.slice k (gK ks i).kids.length ((gK ks i).kids.length + sp)) ∧
    TreeP p w (.agg #[.int .i64 (gK ks i).head, .slice k (gK ks i).kids.length ((gK ks i).kids.length + sp)]) (gK ks i)
theorem TreeP.open {p : Nat → Prop} {w : World} {v : Value} {t : T} (h : TreeP p w v t) : ∃ ao sp, v = .agg #[.int .i64 t.head, .slice ao t.kids.length (t.kids.length + sp)] ∧ RowP p w ao t.kids ∧ t.kids.length ≤ maxLen := by
  cases h with
  | mk h ks ao sp c0 c1 hn hc ht =>
    refine ⟨ao, sp, rfl, fun i hi => ?_, hn⟩
    obtain ⟨b, off, e, hp, h1, h2⟩ := hc i hi
    have h3 := ht i hi
    obtain ⟨k, sp', e'⟩ := h3.at.form
    have e0 : c0 i = .int .i64 (gK ks i).head ∧ c1 i = .slice k (gK ks i).kids.length ((gK ks i).kids.length + sp') := by simpa using e'
    rw [e0.1] at h1 h3; rw [e0.2] at h2 h3
    exact ⟨b, off, k, sp', e, hp, h1, h2, h3⟩
theorem TreeP.close {p : Nat → Prop} {w : World} {h : Int} {ks : List T} {ao : Option Addr} {sp : Nat} (hr : RowP p w ao ks) (hn : ks.length ≤ maxLen) : TreeP p w (.agg #[.int .i64 h, .slice ao ks.length (ks.length + sp)]) (.node h ks) := by
  have hr' : ∀ i, ∃ c0 c1, i < ks.length → (∃ b off, ao = some ⟨b, off, none⟩ ∧ p b ∧ w.cell? ⟨b, off + i * 2, none⟩ = some c0 ∧ w.cell? ⟨b, off + i * 2 + 1, none⟩ = some c1) ∧ TreeP p w (.agg #[c0, c1]) (gK ks i) := fun i => by
    by_cases hi : i < ks.length
    · obtain ⟨b, off, k, sp, e, hp, h1, h2, h3⟩ := hr i hi
      exact ⟨_, _, fun _ => ⟨⟨b, off, e, hp, h1, h2⟩, h3⟩⟩
    · exact ⟨default, default, fun h => absurd h hi⟩
  exact .mk h ks ao sp (fun i => Classical.choose (hr' i)) (fun i => Classical.choose (Classical.choose_spec (hr' i))) hn
    (fun i hi => (Classical.choose_spec (Classical.choose_spec (hr' i)) hi).1) (fun i hi => (Classical.choose_spec (Classical.choose_spec (hr' i)) hi).2)
end Go.Proofs.YtidgnbdlfngeaaaGreatDoor
namespace Go.Proofs.YtidgnbdlfngeaaaGreatDoor
open Go.RowKit Go.Shelf
set_option linter.unusedVariables false
set_option maxHeartbeats 400000

theorem own_below {base : Nat} {e : TypeId} {k : Nat} {v : Value} {n : Nat} {xs : List Value} {w w' : World} (h : w.ownsRow base e k v n xs) (hb : Below w.heap.size w w') : w'.ownsRow base e k v n xs :=
  World.ownsRow.kept h (row := none) ⟨hb.os, hb.tape, hb.output, hb.size, fun k hk _ => hb.block k hk⟩ (by cases h : v.ownBlock with | none => exact .inl rfl | some x => exact .inr (by simp))

theorem length_le_sizeL : ∀ (l : List T), l.length ≤ sizeL l
  | [] => by simp
  | t :: r => by simp only [List.length_cons, sizeL]; have := length_le_sizeL r; have := t.size_pos; omega
theorem box2_set1 {w : World} {b : Nat} {x y : Value} {T : TypeId} (h : w.heap[b]? = some (.cells #[x, y] T (0, 0))) (v : Value) : (w.setCell ⟨b, 1, none⟩ v).heap[b]? = some (.cells #[x, v] T (0, 0)) := by
  simp [World.setCell, Array.getElem?_modify, h]

end Go.Proofs.YtidgnbdlfngeaaaGreatDoor
