/-
  Trees: the plain type, how one lies in memory; tree.Size.
-/
import Derived.Test.YteekoclfpehnpaaProg
import Derived.Test.YteekoclfpehnpaaBase
namespace Go.Proofs.Yteekoclfpehnpaa
open Go.RowKit Go.Shelf
set_option linter.unusedVariables false

inductive T where
  | node (head : Int) (kids : List T)
namespace T
def head : T → Int | node h _ => h
def kids : T → List T | node _ k => k
end T
instance : Inhabited T := ⟨.node 0 []⟩
def gK (l : List T) (j : Nat) : T := l.getD j default
theorem gK_get {l : List T} {j : Nat} (h : j < l.length) : gK l j = l[j] := by simp [gK, h]

mutual
def T.size : T → Nat
  | .node _ ks => 1 + sizeL ks
def sizeL : List T → Nat
  | [] => 0
  | t :: r => t.size + sizeL r
end
theorem T.size_eq (t : T) : t.size = 1 + sizeL t.kids := by cases t; simp [T.size, T.kids]
theorem T.size_pos (t : T) : 1 ≤ t.size := by rw [T.size_eq]; omega
theorem sizeL_append : ∀ (a b : List T), sizeL (a ++ b) = sizeL a + sizeL b
  | [], b => by simp [sizeL]
  | t :: r, b => by simp [sizeL, sizeL_append r b, Nat.add_assoc]
theorem take_gK {l : List T} {i : Nat} (h : i < l.length) : l.take (i + 1) = l.take i ++ [gK l i] := by rw [List.take_succ_eq_append_getElem h, gK_get h]
theorem sizeL_take {l : List T} {i : Nat} (h : i < l.length) : sizeL (l.take (i + 1)) = sizeL (l.take i) + (gK l i).size := by
  rw [take_gK h, sizeL_append]; simp [sizeL]
theorem sizeL_take_le : ∀ (l : List T) (i : Nat), sizeL (l.take i) ≤ sizeL l
  | [], i => by simp [sizeL]
  | t :: r, 0 => by simp [sizeL]
  | t :: r, i + 1 => by simp only [List.take_succ_cons, sizeL]; have := sizeL_take_le r i; omega
theorem kid_size {l : List T} {i : Nat} (h : i < l.length) : (gK l i).size ≤ sizeL l := by
  have h1 := sizeL_take h; have h2 := sizeL_take_le l (i + 1); omega

/-- a tree, as it lies in memory -/
inductive TreeAt (w : World) : Value → T → Prop
  | mk (h : Int) (ks : List T) (ao : Option Addr) (sp : Nat) (c0 c1 : Nat → Value) (hn : ks.length ≤ maxLen)
      (hc : ∀ i, i < ks.length → ∃ b off, ao = some ⟨b, off, none⟩ ∧ w.cell? ⟨b, off + i * 2, none⟩ = some (c0 i) ∧ w.cell? ⟨b, off + i * 2 + 1, none⟩ = some (c1 i))
      (ht : ∀ i, i < ks.length → TreeAt w (.agg #[c0 i, c1 i]) (gK ks i)) : TreeAt w (.agg #[.int .i64 h, .slice ao ks.length (ks.length + sp)]) (.node h ks)

theorem TreeAt.kept {w w' : World} (hb : Below w.heap.size w w') {v : Value} {t : T} (h : TreeAt w v t) : TreeAt w' v t := by
  induction h with
  | mk h ks ao sp c0 c1 hn hc ht ih =>
    refine .mk h ks ao sp c0 c1 hn (fun i hi => ?_) ih
    obtain ⟨b, off, e, h1, h2⟩ := hc i hi
    exact ⟨b, off, e, Below.cellOf hb h1, Below.cellOf hb h2⟩

/-- a row of trees behind an address -/
def RowAt (w : World) (ao : Option Addr) (ks : List T) : Prop :=
  ∀ i, i < ks.length → ∃ b off k sp, ao = some ⟨b, off, none⟩ ∧ w.cell? ⟨b, off + i * 2, none⟩ = some (.int .i64 (gK ks i).head) ∧
    w.cell? ⟨b, off + i * 2 + 1, none⟩ = some (.slice k (gK ks i).kids.length ((gK ks i).kids.length + sp)) ∧
    TreeAt w (.agg #[.int .i64 (gK ks i).head, .slice k (gK ks i).kids.length ((gK ks i).kids.length + sp)]) (gK ks i)
theorem RowAt.below {w w' : World} (hb : Below w.heap.size w w') {ao : Option Addr} {ks : List T} (h : RowAt w ao ks) : RowAt w' ao ks := fun i hi => by
  obtain ⟨b, off, k, sp, e, h1, h2, h3⟩ := h i hi
  exact ⟨b, off, k, sp, e, Below.cellOf hb h1, Below.cellOf hb h2, h3.kept hb⟩
theorem TreeAt.form {w : World} {v : Value} {t : T} (h : TreeAt w v t) : ∃ k sp, v = .agg #[.int .i64 t.head, .slice k t.kids.length (t.kids.length + sp)] := by
  cases h with
  | mk h ks ao sp c0 c1 hn hc ht => exact ⟨ao, sp, rfl⟩
theorem TreeAt.open {w : World} {v : Value} {t : T} (h : TreeAt w v t) : ∃ ao sp, v = .agg #[.int .i64 t.head, .slice ao t.kids.length (t.kids.length + sp)] ∧ RowAt w ao t.kids ∧ t.kids.length ≤ maxLen := by
  cases h with
  | mk h ks ao sp c0 c1 hn hc ht =>
    refine ⟨ao, sp, rfl, fun i hi => ?_, hn⟩
    obtain ⟨b, off, e, h1, h2⟩ := hc i hi
    have h3 := ht i hi
    obtain ⟨k, sp', e'⟩ := h3.form
    have e0 : c0 i = .int .i64 (gK ks i).head ∧ c1 i = .slice k (gK ks i).kids.length ((gK ks i).kids.length + sp') := by simpa using e'
    rw [e0.1] at h1 h3; rw [e0.2] at h2 h3
    exact ⟨b, off, k, sp', e, h1, h2, h3⟩
theorem TreeAt.close {w : World} {h : Int} {ks : List T} {ao : Option Addr} {sp : Nat} (hr : RowAt w ao ks) (hn : ks.length ≤ maxLen) : TreeAt w (.agg #[.int .i64 h, .slice ao ks.length (ks.length + sp)]) (.node h ks) := by
  have hr' : ∀ i, ∃ c0 c1, i < ks.length → (∃ b off, ao = some ⟨b, off, none⟩ ∧ w.cell? ⟨b, off + i * 2, none⟩ = some c0 ∧ w.cell? ⟨b, off + i * 2 + 1, none⟩ = some c1) ∧ TreeAt w (.agg #[c0, c1]) (gK ks i) := fun i => by
    by_cases hi : i < ks.length
    · obtain ⟨b, off, k, sp, e, h1, h2, h3⟩ := hr i hi
      exact ⟨_, _, fun _ => ⟨⟨b, off, e, h1, h2⟩, h3⟩⟩
    · exact ⟨default, default, fun h => absurd h hi⟩
  exact .mk h ks ao sp (fun i => Classical.choose (hr' i)) (fun i => Classical.choose (Classical.choose_spec (hr' i))) hn
    (fun i hi => (Classical.choose_spec (Classical.choose_spec (hr' i)) hi).1) (fun i hi => (Classical.choose_spec (Classical.choose_spec (hr' i)) hi).2)

/-- trees by their size -/
theorem T.ind {P : T → Prop} (h : ∀ t : T, (∀ i, i < t.kids.length → P (gK t.kids i)) → P t) (t : T) : P t := by
  have key : ∀ n (t : T), t.size ≤ n → P t := by
    intro n
    induction n with
    | zero => intro t ht; have := t.size_pos; omega
    | succ n ih =>
      intro t ht
      refine h t fun i hi => ih _ ?_
      have := kid_size hi
      rw [T.size_eq] at ht
      omega
  exact key _ t (Nat.le_refl _)

set_option maxRecDepth 100000 in
set_option maxHeartbeats 4000000 in
theorem size52 (t : T) : ∀ (m : Int) (v : Value) (w : World), 0 ≤ m → m ≤ 1000000 → TreeAt w v t →
    Calls Try.prog 106 #[v, .int .i64 m] w fun e w' => e = .returned (.int .i64 (min (t.size : Int) (m + 1))) ∧ Below w.heap.size w w' := by
  induction t using T.ind with
  | h t ih =>
  intro m v w hm0 hm ht
  have HT := Lib.hid ht
  obtain ⟨ao, sp, rfl, hr, hml⟩ := ht.open
  have hml : t.kids.length ≤ 9223372036854775807 := hml
  have HR := Lib.hid hr; have IH := Lib.hid ih
  clear ht hr ih
  go_enter Try.func106, Try.ntmps106
  go_wp2_with fail
  go_loopw [5, 7, 11] (fun n _ i wr => ∃ (k : Nat) (N : Int), k ≤ t.kids.length ∧ i = .int .i64 k ∧ n = .int .i64 N ∧ N = min (1 + (sizeL (t.kids.take k) : Int)) (m + 1) ∧ Below w.heap.size w wr) (fun _ _ i _ => t.kids.length - (intOf i).toNat)
  case atStart => exact ⟨0, 1, by omega, rfl, rfl, by simp [sizeL]; omega, (Below.refl _ _).alloc (Nat.le_refl _) _⟩
  case round =>
    obtain ⟨k, N, hk, rfl, rfl, hN, hb⟩ := hrel
    have hN0 : 0 ≤ N := by omega
    have hN1 : N ≤ m + 1 := by omega
    have HN := Lib.hid hN
    clear hN
    by_cases hlt : k < t.kids.length
    · obtain ⟨b, off, ko, ksp, rfl, c1, c2, c3⟩ := HR.out k hlt
      have d1 := Below.cellOf hb c1
      have d2 := Below.cellOf hb c2
      have HST := Lib.hid (sizeL_take hlt)
      have HC := Lib.hid (c3.kept hb)
      clear c1 c2 c3
      have hbs := hb.size
      by_cases hmore : m < N
      · go_wp2_with fail
        go_ret
        refine ⟨ret_int ?_, (hb.alloc hb.size _)⟩
        have := sizeL_take_le t.kids k
        have h2 := HN.out
        rw [T.size_eq]; omega
      · go_wp2_with fail
        refine (IH.out k hlt (m - N) _ _ (by omega) (by omega) (HC.out.kept ((Below.refl _ _).alloc (Nat.le_refl _) _))).mono ?_
        rintro e w2 ⟨rfl, hb2⟩
        have hb3 := Below.step (hb.alloc hb.size _) hb2
        obtain ⟨Q, hQ⟩ : ∃ Q : Int, Q = min ((gK t.kids k).size : Int) (m - N + 1) := ⟨_, rfl⟩
        rw [← hQ]
        have hQ0 : 0 ≤ Q := by omega
        have hQ1 : Q ≤ m - N + 1 := by omega
        have HQ := Lib.hid hQ
        clear hQ hb2
        go_wp2_with fail
        go_roundw
        case rel => exact ⟨k + 1, _, by omega, by go_num, rfl, by have h1 := HQ.out; have h2 := HN.out; have h3 := HST.out; rw [h3]; omega, hb3⟩
        case measure => simp [intOf] <;> omega
    · obtain rfl : k = t.kids.length := by omega
      go_wp2_with fail
      go_ret
      exact ⟨ret_int (by have h2 := HN.out; rw [List.take_length] at h2; rw [T.size_eq, h2]; omega), hb⟩
end Go.Proofs.Yteekoclfpehnpaa
