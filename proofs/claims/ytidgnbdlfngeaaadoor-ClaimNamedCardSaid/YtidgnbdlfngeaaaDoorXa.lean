/-
  Trees: the plain type, how one lies in memory; tree.Size.
  Walks: the document's Size, Deep, Same of trees.
  Walks: the document's Same of trees.
  Walks: slices.IndexFunc and ContainsFunc over trees; tree.Deep.
  Walks: the document's nodes and Tree.
  Walks: the document's Tree; the law's vast, none.
  Walks: the document's Bind.
  Trees with a footprint: p says in which blocks a tree's cells may lie. A store to a block outside p leaves the tree.
  Walks: tree.Copy.
-/
import Derived.Test.YtidgnbdlfngeaaaDoorProg
import Derived.Test.YtidgnbdlfngeaaaDoorBase
import Derived.Deep.RegionHeld3
import Derived.Deep.AppendLies
import Derived.Deep.OwnRows
import Derived.Deep.RegionLaw
import Derived.RegionTactic
namespace Go.Proofs.YtidgnbdlfngeaaaDoor
open Go.RowKit Go.Shelf
set_option linter.unusedVariables false

inductive T where
  | node (head : Int) (kids : List T)
namespace T
def head : T → Int | node h _ => h
def kids : T → List T | node _ k => k
end T
instance : Inhabited T := ⟨.node 0 []⟩
def gK (l : List T) (j : Nat) : T := l.getD j default
theorem gK_get {l : List T} {j : Nat} (h : j < l.length) : gK l j = l[j] := by simp [gK, h]

mutual
def T.size : T → Nat
  | .node _ ks => 1 + sizeL ks
def sizeL : List T → Nat
  | [] => 0
  | t :: r => t.size + sizeL r
end
theorem T.size_eq (t : T) : t.size = 1 + sizeL t.kids := by cases t; simp [T.size, T.kids]
theorem T.size_pos (t : T) : 1 ≤ t.size := by rw [T.size_eq]; omega
theorem sizeL_append : ∀ (a b : List T), sizeL (a ++ b) = sizeL a + sizeL b
  | [], b => by simp [sizeL]
  | t :: r, b => by simp [sizeL, sizeL_append r b, Nat.add_assoc]
theorem take_gK {l : List T} {i : Nat} (h : i < l.length) : l.take (i + 1) = l.take i ++ [gK l i] := by rw [List.take_succ_eq_append_getElem h, gK_get h]
theorem sizeL_take {l : List T} {i : Nat} (h : i < l.length) : sizeL (l.take (i + 1)) = sizeL (l.take i) + (gK l i).size := by
  rw [take_gK h, sizeL_append]; simp [sizeL]
theorem sizeL_take_le : ∀ (l : List T) (i : Nat), sizeL (l.take i) ≤ sizeL l
  | [], i => by simp [sizeL]
  | t :: r, 0 => by simp [sizeL]
  | t :: r, i + 1 => by simp only [List.take_succ_cons, sizeL]; have := sizeL_take_le r i; omega
theorem kid_size {l : List T} {i : Nat} (h : i < l.length) : (gK l i).size ≤ sizeL l := by
  have h1 := sizeL_take h; have h2 := sizeL_take_le l (i + 1); omega

/-- a tree, as it lies in memory -/
inductive TreeAt (w : World) : Value → T → Prop
  | mk (h : Int) (ks : List T) (ao : Option Addr) (sp : Nat) (c0 c1 : Nat → Value) (hn : ks.length ≤ maxLen)
      (hc : ∀ i, i < ks.length → ∃ b off, ao = some ⟨b, off, none⟩ ∧ w.cell? ⟨b, off + i * 2, none⟩ = some (c0 i) ∧ w.cell? ⟨b, off + i * 2 + 1, none⟩ = some (c1 i))
      (ht : ∀ i, i < ks.length → TreeAt w (.agg #[c0 i, c1 i]) (gK ks i)) : TreeAt w (.agg #[.int .i64 h, .slice ao ks.length (ks.length + sp)]) (.node h ks)

theorem TreeAt.kept {w w' : World} (hb : Below w.heap.size w w') {v : Value} {t : T} (h : TreeAt w v t) : TreeAt w' v t := by
  induction h with
  | mk h ks ao sp c0 c1 hn hc ht ih =>
    refine .mk h ks ao sp c0 c1 hn (fun i hi => ?_) ih
    obtain ⟨b, off, e, h1, h2⟩ := hc i hi
    exact ⟨b, off, e, Below.cellOf hb h1, Below.cellOf hb h2⟩

/-- a row of trees behind an address -/
def RowAt (w : World) (ao : Option Addr) (ks : List T) : Prop :=
  ∀ i, i < ks.length → ∃ b off k sp, ao = some ⟨b, off, none⟩ ∧ w.cell? ⟨b, off + i * 2, none⟩ = some (.int .i64 (gK ks i).head) ∧
    w.cell? ⟨b, off + i * 2 + 1, none⟩ = some (.slice k (gK ks i).kids.length ((gK ks i).kids.length + sp)) ∧
    TreeAt w (.agg #[.int .i64 (gK ks i).head, .slice k (gK ks i).kids.length ((gK ks i).kids.length + sp)]) (gK ks i)
theorem RowAt.below {w w' : World} (hb : Below w.heap.size w w') {ao : Option Addr} {ks : List T} (h : RowAt w ao ks) : RowAt w' ao ks := fun i hi => by
  obtain ⟨b, off, k, sp, e, h1, h2, h3⟩ := h i hi
  exact ⟨b, off, k, sp, e, Below.cellOf hb h1, Below.cellOf hb h2, h3.kept hb⟩
theorem TreeAt.form {w : World} {v : Value} {t : T} (h : TreeAt w v t) : ∃ k sp, v = .agg #[.int .i64 t.head, .slice k t.kids.length (t.kids.length + sp)] := by
  cases h with
  | mk h ks ao sp c0 c1 hn hc ht => exact ⟨ao, sp, rfl⟩
theorem TreeAt.open {w : World} {v : Value} {t : T} (h : TreeAt w v t) : ∃ ao sp, v = .agg #[.int .i64 t.head, .slice ao t.kids.length (t.kids.length + sp)] ∧ RowAt w ao t.kids ∧ t.kids.length ≤ maxLen := by
  cases h with
  | mk h ks ao sp c0 c1 hn hc ht =>
    refine ⟨ao, sp, rfl, fun i hi => ?_, hn⟩
    obtain ⟨b, off, e, h1, h2⟩ := hc i hi
    have h3 := ht i hi
    obtain ⟨k, sp', e'⟩ := h3.form
    have e0 : c0 i = .int .i64 (gK ks i).head ∧ c1 i = .slice k (gK ks i).kids.length ((gK ks i).kids.length + sp') := by simpa using e'
    rw [e0.1] at h1 h3; rw [e0.2] at h2 h3
    exact ⟨b, off, k, sp', e, h1, h2, h3⟩
theorem TreeAt.close {w : World} {h : Int} {ks : List T} {ao : Option Addr} {sp : Nat} (hr : RowAt w ao ks) (hn : ks.length ≤ maxLen) : TreeAt w (.agg #[.int .i64 h, .slice ao ks.length (ks.length + sp)]) (.node h ks) := by
  have hr' : ∀ i, ∃ c0 c1, i < ks.length → (∃ b off, ao = some ⟨b, off, none⟩ ∧ w.cell? ⟨b, off + i * 2, none⟩ = some c0 ∧ w.cell? ⟨b, off + i * 2 + 1, none⟩ = some c1) ∧ TreeAt w (.agg #[c0, c1]) (gK ks i) := fun i => by
    by_cases hi : i < ks.length
    · obtain ⟨b, off, k, sp, e, h1, h2, h3⟩ := hr i hi
      exact ⟨_, _, fun _ => ⟨⟨b, off, e, h1, h2⟩, h3⟩⟩
    · exact ⟨default, default, fun h => absurd h hi⟩
  exact .mk h ks ao sp (fun i => Classical.choose (hr' i)) (fun i => Classical.choose (Classical.choose_spec (hr' i))) hn
    (fun i hi => (Classical.choose_spec (Classical.choose_spec (hr' i)) hi).1) (fun i hi => (Classical.choose_spec (Classical.choose_spec (hr' i)) hi).2)

/-- trees by their size -/
theorem T.ind {P : T → Prop} (h : ∀ t : T, (∀ i, i < t.kids.length → P (gK t.kids i)) → P t) (t : T) : P t := by
  have key : ∀ n (t : T), t.size ≤ n → P t := by
    intro n
    induction n with
    | zero => intro t ht; have := t.size_pos; omega
    | succ n ih =>
      intro t ht
      refine h t fun i hi => ih _ ?_
      have := kid_size hi
      rw [T.size_eq] at ht
      omega
  exact key _ t (Nat.le_refl _)

set_option maxRecDepth 100000 in
set_option maxHeartbeats 4000000 in
theorem size52 (t : T) : ∀ (m : Int) (v : Value) (w : World), 0 ≤ m → m ≤ 1000000 → TreeAt w v t →
    Calls Tryd.prog 53 #[v, .int .i64 m] w fun e w' => e = .returned (.int .i64 (min (t.size : Int) (m + 1))) ∧ Below w.heap.size w w' := by
  induction t using T.ind with
  | h t ih =>
  intro m v w hm0 hm ht
  have HT := Lib.hid ht
  obtain ⟨ao, sp, rfl, hr, hml⟩ := ht.open
  have hml : t.kids.length ≤ 9223372036854775807 := hml
  have HR := Lib.hid hr; have IH := Lib.hid ih
  clear ht hr ih
  go_enter Tryd.func53, Tryd.ntmps53
  go_wp2_with fail
  go_loopw [5, 7, 11] (fun n _ i wr => ∃ (k : Nat) (N : Int), k ≤ t.kids.length ∧ i = .int .i64 k ∧ n = .int .i64 N ∧ N = min (1 + (sizeL (t.kids.take k) : Int)) (m + 1) ∧ Below w.heap.size w wr) (fun _ _ i _ => t.kids.length - (intOf i).toNat)
  case atStart => exact ⟨0, 1, by omega, rfl, rfl, by simp [sizeL]; omega, (Below.refl _ _).alloc (Nat.le_refl _) _⟩
  case round =>
    obtain ⟨k, N, hk, rfl, rfl, hN, hb⟩ := hrel
    have hN0 : 0 ≤ N := by omega
    have hN1 : N ≤ m + 1 := by omega
    have HN := Lib.hid hN
    clear hN
    by_cases hlt : k < t.kids.length
    · obtain ⟨b, off, ko, ksp, rfl, c1, c2, c3⟩ := HR.out k hlt
      have d1 := Below.cellOf hb c1
      have d2 := Below.cellOf hb c2
      have HST := Lib.hid (sizeL_take hlt)
      have HC := Lib.hid (c3.kept hb)
      clear c1 c2 c3
      have hbs := hb.size
      by_cases hmore : m < N
      · go_wp2_with fail
        go_ret
        refine ⟨ret_int ?_, (hb.alloc hb.size _)⟩
        have := sizeL_take_le t.kids k
        have h2 := HN.out
        rw [T.size_eq]; omega
      · go_wp2_with fail
        refine (IH.out k hlt (m - N) _ _ (by omega) (by omega) (HC.out.kept ((Below.refl _ _).alloc (Nat.le_refl _) _))).mono ?_
        rintro e w2 ⟨rfl, hb2⟩
        have hb3 := Below.step (hb.alloc hb.size _) hb2
        obtain ⟨Q, hQ⟩ : ∃ Q : Int, Q = min ((gK t.kids k).size : Int) (m - N + 1) := ⟨_, rfl⟩
        rw [← hQ]
        have hQ0 : 0 ≤ Q := by omega
        have hQ1 : Q ≤ m - N + 1 := by omega
        have HQ := Lib.hid hQ
        clear hQ hb2
        go_wp2_with fail
        go_roundw
        case rel => exact ⟨k + 1, _, by omega, by go_num, rfl, by have h1 := HQ.out; have h2 := HN.out; have h3 := HST.out; rw [h3]; omega, hb3⟩
        case measure => simp [intOf] <;> omega
    · obtain rfl : k = t.kids.length := by omega
      go_wp2_with fail
      go_ret
      exact ⟨ret_int (by have h2 := HN.out; rw [List.take_length] at h2; rw [T.size_eq, h2]; omega), hb⟩
end Go.Proofs.YtidgnbdlfngeaaaDoor
namespace Go.Proofs.YtidgnbdlfngeaaaDoor
open Go.RowKit Go.Shelf
set_option linter.unusedVariables false

mutual
def T.deep : T → Nat
  | .node _ ks => deepL ks + 1
def deepL : List T → Nat
  | [] => 0
  | t :: r => max t.deep (deepL r)
end
theorem T.deep_eq (t : T) : t.deep = deepL t.kids + 1 := by cases t; simp [T.deep, T.kids]
theorem deepL_append : ∀ (a b : List T), deepL (a ++ b) = max (deepL a) (deepL b)
  | [], b => by simp [deepL]
  | t :: r, b => by simp [deepL, deepL_append r b, Nat.max_assoc]
theorem deepL_take {l : List T} {i : Nat} (h : i < l.length) : deepL (l.take (i + 1)) = max (deepL (l.take i)) (gK l i).deep := by
  rw [take_gK h, deepL_append]; simp [deepL]
theorem deepL_take_le : ∀ (l : List T) (i : Nat), deepL (l.take i) ≤ deepL l
  | [], i => by simp [deepL]
  | t :: r, 0 => by simp [deepL]
  | t :: r, i + 1 => by simp only [List.take_succ_cons, deepL]; have := deepL_take_le r i; omega
theorem deep_le (t : T) : t.deep ≤ t.size := by
  induction t using T.ind with
  | h t ih =>
    rw [T.deep_eq, T.size_eq]
    have : ∀ k, k ≤ t.kids.length → deepL (t.kids.take k) ≤ sizeL (t.kids.take k) := by
      intro k
      induction k with
      | zero => intro _; simp [deepL]
      | succ k ihk =>
        intro hk
        rw [deepL_take (by omega), sizeL_take (by omega)]
        have h1 := ihk (by omega); have h2 := ih k (by omega)
        omega
    have := this t.kids.length (Nat.le_refl _)
    rw [List.take_length] at this
    omega

end Go.Proofs.YtidgnbdlfngeaaaDoor
namespace Go.Proofs.YtidgnbdlfngeaaaDoor
open Go.RowKit Go.Shelf
set_option linter.unusedVariables false

noncomputable instance : DecidableEq T := fun _ _ => Classical.propDecidable _
theorem T.ext_of {a b : T} (h : a.head = b.head) (hl : a.kids.length = b.kids.length) (hk : ∀ j, j < a.kids.length → gK a.kids j = gK b.kids j) : a = b := by
  cases a with
  | node ha ka =>
    cases b with
    | node hb kb =>
      simp only [T.head, T.kids] at h hl hk
      subst h
      have : ka = kb := List.ext_getElem hl fun j h1 h2 => by rw [← gK_get h1, ← gK_get h2, hk j h1]
      rw [this]

set_option maxRecDepth 100000 in
set_option maxHeartbeats 4000000 in
theorem same22 (t : T) : ∀ (s : T) (v u : Value) (w : World), TreeAt w v t → TreeAt w u s →
    Calls Tryd.prog 43 #[v, u] w fun e w' => e = .returned (.bool (decide (t = s))) ∧ Below w.heap.size w w' := by
  induction t using T.ind with
  | h t ih =>
  intro s v u w ht hs
  obtain ⟨ao, sp, rfl, hr, hml⟩ := ht.open
  obtain ⟨ao2, sp2, rfl, hr2, hml2⟩ := hs.open
  have hml : t.kids.length ≤ 9223372036854775807 := hml
  have hml2 : s.kids.length ≤ 9223372036854775807 := hml2
  have HR := Lib.hid hr; have HR2 := Lib.hid hr2; have IH := Lib.hid ih
  clear ht hr hs hr2 ih
  have hbx := heap_alloc_old (o' := .cells #[.int .i64 s.head, .slice ao2 s.kids.length (s.kids.length + sp2)] 45) (heap_ofAlloc w (.cells #[.int .i64 t.head, .slice ao t.kids.length (t.kids.length + sp)] 45))
  have hby := heap_ofAlloc (w.alloc (.cells #[.int .i64 t.head, .slice ao t.kids.length (t.kids.length + sp)] 45)) (.cells #[.int .i64 s.head, .slice ao2 s.kids.length (s.kids.length + sp2)] 45)
  rw [World.size_alloc] at hby
  have hb0 := ((Below.refl w.heap.size w).alloc (Nat.le_refl _) (.cells #[.int .i64 t.head, .slice ao t.kids.length (t.kids.length + sp)] 45)).alloc (by simp) (.cells #[.int .i64 s.head, .slice ao2 s.kids.length (s.kids.length + sp2)] 45)
  by_cases hh : t.head = s.head
  · have hne : (t.head != s.head) = false := by simp [hh]
    by_cases hl : t.kids.length = s.kids.length
    · have hne2 : ((t.kids.length : Int) != (s.kids.length : Int)) = false := by simp [hl]
      have HL := Lib.hid hl; have HH := Lib.hid hh
      clear hl hh
      go_enter Tryd.func43, Tryd.ntmps43
      go_wp2_with fail
      generalize (w.alloc (.cells #[.int .i64 t.head, .slice ao t.kids.length (t.kids.length + sp)] 45)).alloc (.cells #[.int .i64 s.head, .slice ao2 s.kids.length (s.kids.length + sp2)] 45) = w0 at hbx hby hb0 ⊢
      have XB := Lib.hid hbx; have YB := Lib.hid hby; have HB0 := Lib.hid hb0
      clear hbx hby
      go_loopw [5] (fun i wr => ∃ (k : Nat), k ≤ t.kids.length ∧ i = .int .i64 k ∧ (∀ j, j < k → gK t.kids j = gK s.kids j) ∧ Below w0.heap.size w0 wr) (fun i _ => t.kids.length - (intOf i).toNat)
      case atStart => exact ⟨0, by omega, rfl, fun j hj => by omega, Below.refl _ _⟩
      case round =>
        obtain ⟨k, hk, rfl, hno, hb⟩ := hrel
        have HNO := Lib.hid hno; clear hno
        obtain ⟨⟨x0, _⟩, x1, _⟩ := box2 (Below.heapAt hb XB.out)
        obtain ⟨⟨y0, _⟩, y1, _⟩ := box2 (Below.heapAt hb YB.out)
        clear x0 y0
        by_cases hlt : k < t.kids.length
        · have hlt2 : k < s.kids.length := by have := HL.out; omega
          obtain ⟨b, off, ko, ksp, rfl, c1, c2, c3⟩ := (HR.out.below (Below.step HB0.out hb)) k hlt
          obtain ⟨b2, off2, ko2, ksp2, rfl, d1, d2, d3⟩ := (HR2.out.below (Below.step HB0.out hb)) k hlt2
          have HC := Lib.hid c3; have HD := Lib.hid d3
          clear c3 d3
          have r0 := cell_regrown x1
          have r1 := cell_regrown y1
          have r2 := cell_regrown c1
          have r3 := cell_regrown c2
          have r4 := cell_regrown d1
          have r5 := cell_regrown d2
          have CA := Lib.hid (fun d os => Calls.regrown_of (IH.out k hlt (gK s.kids k) _ _ (Go.Sort.grow (redrawn wr d) os) (HC.out.kept (below_regrown _ d os)) (HD.out.kept (below_regrown _ d os))))
          cases hq : decide (gK t.kids k = gK s.kids k) with
          | false =>
            rw [hq] at CA
            have HQ := Lib.hid hq; clear hq
            go_wp2_with fail
            refine wp_region_quiet_below (by kernel_rfl) (by kernel_rfl) ?_
            repeat (go_big_quiet_step (exact CA.out _ _))
            refine wpQuiet_nil ?_
            intro _ hw'
            obtain ⟨⟨dq, osq⟩, hw''⟩ := hw'
            subst hw''
            have hbq := Below.step hb (below_regrown wr dq osq)
            clear r0 r1 r2 r3 r4 r5
            generalize Go.Sort.grow (redrawn wr dq) osq = wq at hbq ⊢
            go_wp2_with fail
            go_ret
            refine ⟨ret_bool ?_, Below.step HB0.out hbq⟩
            have h := HQ.out
            simp only [decide_eq_false_iff_not] at h
            exact (decide_eq_false (fun e => h (by rw [e]))).symm
          | true =>
            rw [hq] at CA
            have HQ := Lib.hid hq; clear hq
            go_wp2_with fail
            refine wp_region_quiet_below (by kernel_rfl) (by kernel_rfl) ?_
            repeat (go_big_quiet_step (exact CA.out _ _))
            refine wpQuiet_nil ?_
            intro _ hw'
            obtain ⟨⟨dq, osq⟩, hw''⟩ := hw'
            subst hw''
            have hbq := Below.step hb (below_regrown wr dq osq)
            clear r0 r1 r2 r3 r4 r5
            generalize Go.Sort.grow (redrawn wr dq) osq = wq at hbq ⊢
            go_wp2_with fail
            go_roundw
            case rel => exact ⟨k + 1, by omega, by go_num, fun j hj => (by rcases Nat.lt_succ_iff_lt_or_eq.1 hj with h | rfl; exact HNO.out j h; exact of_decide_eq_true HQ.out), hbq⟩
            case measure => simp [intOf] <;> omega
        · obtain rfl : k = t.kids.length := by omega
          go_wp2_with fail
          go_ret
          exact ⟨ret_bool (decide_eq_true (T.ext_of HH.out HL.out HNO.out)).symm, Below.step HB0.out hb⟩
    · have hne2 : ((t.kids.length : Int) != (s.kids.length : Int)) = true := by simp; omega
      have E0 := Lib.hid (show decide (t = s) = false from decide_eq_false (fun e => hl (by rw [e])))
      clear hl hh
      go_enter Tryd.func43, Tryd.ntmps43
      go_wp2_with fail
      go_ret
      exact ⟨ret_bool E0.out.symm, hb0⟩
  · have hne : (t.head != s.head) = true := by simp [hh]
    have E0 := Lib.hid (show decide (t = s) = false from decide_eq_false (fun e => hh (by rw [e])))
    clear hh
    go_enter Tryd.func43, Tryd.ntmps43
    go_wp2_with fail
    go_ret
    exact ⟨ret_bool E0.out.symm, hb0⟩
end Go.Proofs.YtidgnbdlfngeaaaDoor
namespace Go.Proofs.YtidgnbdlfngeaaaDoor
open Go.RowKit Go.Shelf
set_option linter.unusedVariables false
set_option maxHeartbeats 400000

set_option maxRecDepth 100000 in
theorem indexFunc67 (fn : Nat) (cap : Array Value) (eg : ∀ args w, (callFunc fn args).run Tryd.prog w = .ok (.enter fn args) w)
    (ao : Option Addr) (ks : List T) (n cp : Nat) (hn0 : ks.length = n) (p : Nat → Bool) (w : World) (hn : n ≤ 9223372036854775807) (hc : RowAt w ao ks)
    (hf : ∀ i w1 v, i < n → Below w.heap.size w w1 → TreeAt w1 v (gK ks i) → Calls Tryd.prog fn (#[v] ++ cap) w1 fun e w2 => e = .returned (.bool (p i)) ∧ Below w1.heap.size w1 w2) :
    Calls Tryd.prog 88 #[.slice ao n cp, .func (.func fn) #[] cap] w fun e w' => e = .returned (.int .i64 (firstZ p n)) ∧ Below w.heap.size w w' := by
  have HF := Lib.hid hf
  have HC := Lib.hid hc
  clear hf hc
  go_enter Tryd.func88, Tryd.ntmps88
  go_wp2
  go_loopw [5, 8] (fun _ i wr => ∃ k : Nat, k ≤ n ∧ i = .int .i64 k ∧ (∀ j, j < k → p j = false) ∧ Below w.heap.size w wr) (fun _ i _ => n - (intOf i).toNat)
  case atStart => exact ⟨0, Nat.zero_le _, rfl, by simp, Below.refl _ _⟩
  case round =>
    obtain ⟨k, hk, rfl, hno, hbel⟩ := hrel
    have HN := Lib.hid hno
    clear hno
    by_cases hlt : k < n
    · obtain ⟨b, off, ko, ksp, rfl, c1, c2, c3⟩ := (HC.out.below hbel) k (by omega)
      have H3 := Lib.hid c3
      clear c3 hn0
      go_wp2_with fail
      refine (HF.out k _ _ hlt hbel H3.out).mono ?_
      rintro e w1 ⟨rfl, hb1⟩
      have hbel1 := Below.step hbel hb1
      cases hp : p k with
      | true =>
        have HP := Lib.hid hp; clear hp
        go_wp2
        go_ret
        exact ⟨ret_int (firstZ_hit hlt HN.out HP.out).symm, hbel1⟩
      | false =>
        have HP := Lib.hid hp; clear hp
        go_wp2
        go_roundw
        case rel => exact ⟨k + 1, by omega, by go_num, fun j hj => (by rcases Nat.lt_succ_iff_lt_or_eq.1 hj with h | rfl; exact HN.out j h; exact HP.out), hbel1⟩
        case measure => simp [intOf] <;> omega
    · clear hn0
      go_wp2
      go_ret
      exact ⟨ret_int (firstZ_none (fun j hj => HN.out j (by omega))).symm, hbel⟩

set_option maxRecDepth 100000 in
theorem containsFunc60 (fn : Nat) (cap : Array Value) (eg : ∀ args w, (callFunc fn args).run Tryd.prog w = .ok (.enter fn args) w)
    (ao : Option Addr) (ks : List T) (n cp : Nat) (hn0 : ks.length = n) (p : Nat → Bool) (w : World) (hn : n ≤ 9223372036854775807) (hc : RowAt w ao ks)
    (hf : ∀ i w1 v, i < n → Below w.heap.size w w1 → TreeAt w1 v (gK ks i) → Calls Tryd.prog fn (#[v] ++ cap) w1 fun e w2 => e = .returned (.bool (p i)) ∧ Below w1.heap.size w1 w2) :
    Calls Tryd.prog 68 #[.slice ao n cp, .func (.func fn) #[] cap] w fun e w' => e = .returned (.bool (anyB p n)) ∧ Below w.heap.size w w' := by
  have H := Lib.hid (indexFunc67 fn cap eg ao ks n cp hn0 p w hn hc hf)
  clear hf hc eg hn0
  go_enter Tryd.func68, Tryd.ntmps68
  go_wp2_with fail
  refine H.out.mono ?_
  rintro e w1 ⟨rfl, hb1⟩
  go_wp2
  go_ret
  refine ⟨ret_bool ?_, hb1⟩
  rw [Bool.eq_iff_iff, ← firstZ_nonneg]; simp

theorem deep_kids (t : T) (m : Int) : ((t.deep : Int) ≤ m) ↔ 0 < m ∧ ∀ i, i < t.kids.length → ((gK t.kids i).deep : Int) ≤ m - 1 := by
  rw [T.deep_eq]
  have key : ∀ (l : List T) (n : Int), 0 ≤ n → (((deepL l : Nat) : Int) ≤ n ↔ ∀ i, i < l.length → ((gK l i).deep : Int) ≤ n) := by
    intro l n hn
    induction l with
    | nil => simp [deepL]; exact hn
    | cons x r ih =>
      simp only [deepL]
      constructor
      · intro h i hi
        cases i with
        | zero => simp [gK]; omega
        | succ i => have := (ih.1 (by omega)) i (by simpa using hi); simpa [gK] using this
      · intro h
        have h0 := h 0 (by simp)
        have h1 := ih.2 (fun i hi => by have := h (i + 1) (by simpa using hi); simpa [gK] using this)
        simp [gK] at h0
        omega
  constructor
  · intro h
    exact ⟨by omega, (key _ (m - 1) (by omega)).1 (by omega)⟩
  · rintro ⟨h0, h⟩
    have := (key t.kids (m - 1) (by omega)).2 h
    omega

set_option maxRecDepth 100000 in
set_option maxHeartbeats 4000000 in
theorem deep53 (t : T) : ∀ (m : Int) (v : Value) (w : World), -10 ≤ m → m ≤ 1000000 → TreeAt w v t →
    Calls Tryd.prog 54 #[v, .int .i64 m] w fun e w' => e = .returned (.bool (decide ((t.deep : Int) ≤ m))) ∧ Below w.heap.size w w' := by
  induction t using T.ind with
  | h t ih =>
  intro m v w hm0 hm ht
  obtain ⟨ao, sp, rfl, hr, hml⟩ := ht.open
  have hml : t.kids.length ≤ 9223372036854775807 := hml
  have HR := Lib.hid hr; have IH := Lib.hid ih
  clear ht hr ih
  have hbx := heap_ofAlloc (w.alloc (.cells #[.int .i64 t.head, .slice ao t.kids.length (t.kids.length + sp)] 45)) (.cells #[.int .i64 m] 3)
  rw [World.size_alloc] at hbx
  have hb0 := ((Below.refl w.heap.size w).alloc (Nat.le_refl _) (.cells #[.int .i64 t.head, .slice ao t.kids.length (t.kids.length + sp)] 45)).alloc (by simp) (.cells #[.int .i64 m] 3)
  by_cases h0 : 0 < m
  · have E := Lib.hid (deep_kids t m)
    go_enter Tryd.func54, Tryd.ntmps54
    go_wp2_with fail
    generalize (w.alloc (.cells #[.int .i64 t.head, .slice ao t.kids.length (t.kids.length + sp)] 45)).alloc (.cells #[.int .i64 m] 3) = w0 at hbx hb0 ⊢
    have XB := Lib.hid hbx; have HB0 := Lib.hid hb0
    clear hbx hb0
    refine (containsFunc60 69 #[.pointer (some ⟨w.heap.size + 1, 0, none⟩)] (enters_of Tryd.func69 (by kernel_rfl) rfl) ao t.kids t.kids.length (t.kids.length + sp) rfl (fun i => !decide (((gK t.kids i).deep : Int) ≤ m - 1)) w0 hml (HR.out.below HB0.out) (fun i w1 v hi hb1 hv => ?_)).mono ?_
    · have hx := (box1 (Below.heapAt hb1 XB.out)).1
      have hxl := heap_lt (Below.heapAt hb1 XB.out)
      obtain ⟨k, ksp, rfl⟩ := hv.form
      have HV := Lib.hid hv
      have hb2 := (Below.refl w1.heap.size w1).alloc (Nat.le_refl _) (.cells #[.int .i64 (gK t.kids i).head, .slice k (gK t.kids i).kids.length ((gK t.kids i).kids.length + ksp)] 45)
      have HI := Lib.hid (IH.out i hi (m - 1) _ _ (by omega) (by omega) (HV.out.kept hb2))
      clear hv
      go_enter Tryd.func69, Tryd.ntmps69
      go_wp2_with fail
      refine HI.out.mono ?_
      rintro e w2 ⟨rfl, hb3⟩
      go_wp2_with fail
      go_ret
      exact ⟨rfl, Below.step hb2 hb3⟩
    · rintro e w2 ⟨rfl, hb2⟩
      go_wp2_with fail
      go_ret
      refine ⟨ret_bool ?_, Below.step HB0.out hb2⟩
      rw [Bool.eq_iff_iff]
      simp only [Bool.not_eq_true', decide_eq_true_eq]
      rw [E.out]
      cases hq : anyB (fun i => !decide (((gK t.kids i).deep : Int) ≤ m - 1)) t.kids.length with
      | true =>
        obtain ⟨j, hj, hp⟩ := anyB_iff.1 hq
        simp only [Bool.not_eq_true', decide_eq_false_iff_not] at hp
        simp only [Bool.true_eq_false, false_iff]
        exact fun h => hp (h.2 j hj)
      | false =>
        simp only [true_iff]
        refine ⟨h0, fun i hi => ?_⟩
        by_cases hc : ((gK t.kids i).deep : Int) ≤ m - 1
        · exact hc
        · have : anyB (fun i => !decide (((gK t.kids i).deep : Int) ≤ m - 1)) t.kids.length = true := anyB_iff.2 ⟨i, hi, by simpa using hc⟩
          rw [hq] at this; cases this
  · have E := Lib.hid (show decide ((t.deep : Int) ≤ m) = false by rw [T.deep_eq]; simp; omega)
    go_enter Tryd.func54, Tryd.ntmps54
    go_wp2_with fail
    go_ret
    exact ⟨ret_bool E.out.symm, hb0⟩
end Go.Proofs.YtidgnbdlfngeaaaDoor
namespace Go.Proofs.YtidgnbdlfngeaaaDoor
open Go.RowKit Go.Shelf
set_option linter.unusedVariables false
set_option maxHeartbeats 400000

def badHead (h : Int) : Prop := h = 0 ∨ h < -8 ∨ 12 < h
def badKids (h : Int) (n : Nat) : Prop := 3 < n ∨ (h < 0 ∧ 0 < n)
instance (h : Int) : Decidable (badHead h) := by unfold badHead; infer_instance
instance (h : Int) (n : Nat) : Decidable (badKids h n) := by unfold badKids; infer_instance
mutual
def T.nodes : T → Int → (Int × Int) × Int
  | .node h ks, a => if badHead h then ((3, a), a) else if badKids h ks.length then ((9, a), a) else nodesL ks (a + 1)
def nodesL : List T → Int → (Int × Int) × Int
  | [], a => ((0, 0), a)
  | t :: r, a => if (t.nodes a).1.1 ≠ 0 then t.nodes a else nodesL r (t.nodes a).2
end
theorem T.nodes_eq (t : T) (a : Int) : t.nodes a = if badHead t.head then ((3, a), a) else if badKids t.head t.kids.length then ((9, a), a) else nodesL t.kids (a + 1) := by cases t; rw [T.nodes]; rfl
theorem drop_gK {l : List T} {i : Nat} (h : i < l.length) : l.drop i = gK l i :: l.drop (i + 1) := by rw [List.drop_eq_getElem_cons h, gK_get h]
theorem nodes_le (t : T) : ∀ a : Int, a ≤ (t.nodes a).2 ∧ (t.nodes a).2 ≤ a + t.size ∧ (((t.nodes a).1.1 = 0) → (t.nodes a).1 = (0, 0)) := by
  induction t using T.ind with
  | h t ih =>
    intro a
    rw [T.nodes_eq, T.size_eq]
    split
    · exact ⟨by simp, by simp; omega, by simp⟩
    · split
      · exact ⟨by simp, by simp; omega, by simp⟩
      · have key : ∀ (l : List T), (∀ i, i < l.length → ∀ a : Int, a ≤ ((gK l i).nodes a).2 ∧ ((gK l i).nodes a).2 ≤ a + (gK l i).size ∧ (((gK l i).nodes a).1.1 = 0 → ((gK l i).nodes a).1 = (0, 0))) → ∀ a : Int, a ≤ (nodesL l a).2 ∧ (nodesL l a).2 ≤ a + sizeL l ∧ ((nodesL l a).1.1 = 0 → (nodesL l a).1 = (0, 0)) := by
          intro l
          induction l with
          | nil => intro _ a; simp [nodesL, sizeL]
          | cons x r ihr =>
            intro h a
            have h0 := h 0 (by simp) a
            have e : gK (x :: r) 0 = x := by simp [gK]
            rw [e] at h0
            have hr := ihr (fun i hi => by have := h (i + 1) (by simpa using hi); simpa [gK] using this)
            simp only [nodesL, sizeL]
            split
            · exact ⟨h0.1, by omega, h0.2.2⟩
            · have := hr (x.nodes a).2
              exact ⟨by omega, by omega, this.2.2⟩
        have := key t.kids ih (a + 1)
        exact ⟨by omega, by omega, this.2.2⟩

/-- a function's end whose first result lies in a block of two cells, its second in a slot -/
theorem ret_box2s {P : Program} {fn : Func} {R : Ending → World → Prop} {a : Act} {w : World} (p q : Value) (x : Value) (c : Nat) (T' : TypeId)
    (hc : w.heap[c]? = some (.cells #[p, q] T' (0, 0)))
    (hres : ∀ w' : World, w'.cell? ⟨c, 0, none⟩ = some p → w'.cell? ⟨c, 1, none⟩ = some q → (results fn a.tmps).run P w' = .ok (.tuple #[.agg #[p, q], x]) w') (hd : a.defers = [])
    (hR : R (.returned (.tuple #[.agg #[p, q], x])) w) : bodyPost P fn R .ret a w :=
  bodyPost_ret (hres w (box2 hc).1.1 (box2 hc).2.1) hd hR

end Go.Proofs.YtidgnbdlfngeaaaDoor
namespace Go.Proofs.YtidgnbdlfngeaaaDoor
open Go.RowKit Go.Shelf
set_option linter.unusedVariables false
set_option maxHeartbeats 400000

def treeF (t : T) : Int × Int := if 40 < t.size then (2, 0) else if 12 < t.deep then (10, 0) else (t.nodes 0).1
def FV (f : Int × Int) : Value := .agg #[.int .i64 f.1, .int .i64 f.2]

end Go.Proofs.YtidgnbdlfngeaaaDoor
namespace Go.Proofs.YtidgnbdlfngeaaaDoor
open Go.RowKit Go.Shelf
set_option linter.unusedVariables false
set_option maxHeartbeats 400000

def bindL : List T → Int → Int × Int
  | [], _ => (0, 0)
  | t :: r, k => if t.head = 0 then (if 0 < t.kids.length then (5, -1 - k) else bindL r (k + 1)) else if (treeF t).1 ≠ 0 then ((treeF t).1, -1 - k) else bindL r (k + 1)
def bindF (bs : List T) : Int × Int := if 8 < bs.length then (2, -1) else bindL bs 0

end Go.Proofs.YtidgnbdlfngeaaaDoor
namespace Go.Proofs.YtidgnbdlfngeaaaDoor
open Go.RowKit Go.Shelf
set_option linter.unusedVariables false

inductive TreeP (p : Nat → Prop) (w : World) : Value → T → Prop
  | mk (h : Int) (ks : List T) (ao : Option Addr) (sp : Nat) (c0 c1 : Nat → Value) (hn : ks.length ≤ maxLen)
      (hc : ∀ i, i < ks.length → ∃ b off, ao = some ⟨b, off, none⟩ ∧ p b ∧ w.cell? ⟨b, off + i * 2, none⟩ = some (c0 i) ∧ w.cell? ⟨b, off + i * 2 + 1, none⟩ = some (c1 i))
      (ht : ∀ i, i < ks.length → TreeP p w (.agg #[c0 i, c1 i]) (gK ks i)) : TreeP p w (.agg #[.int .i64 h, .slice ao ks.length (ks.length + sp)]) (.node h ks)

theorem TreeP.at {p : Nat → Prop} {w : World} {v : Value} {t : T} (h : TreeP p w v t) : TreeAt w v t := by
  induction h with
  | mk h ks ao sp c0 c1 hn hc ht ih =>
    exact .mk h ks ao sp c0 c1 hn (fun i hi => by obtain ⟨b, off, e, _, h1, h2⟩ := hc i hi; exact ⟨b, off, e, h1, h2⟩) ih
theorem TreeAt.foot {w : World} {v : Value} {t : T} (h : TreeAt w v t) : TreeP (fun b => b < w.heap.size) w v t := by
  induction h with
  | mk h ks ao sp c0 c1 hn hc ht ih =>
    exact .mk h ks ao sp c0 c1 hn (fun i hi => by obtain ⟨b, off, e, h1, h2⟩ := hc i hi; exact ⟨b, off, e, block_lt_of_cell h1, h1, h2⟩) ih
theorem TreeP.mono {p q : Nat → Prop} {w : World} {v : Value} {t : T} (h : TreeP p w v t) (hpq : ∀ b, p b → b < w.heap.size → q b) : TreeP q w v t := by
  induction h with
  | mk h ks ao sp c0 c1 hn hc ht ih =>
    exact .mk h ks ao sp c0 c1 hn (fun i hi => by obtain ⟨b, off, e, hp, h1, h2⟩ := hc i hi; exact ⟨b, off, e, hpq b hp (block_lt_of_cell h1), h1, h2⟩) ih
/-- whatever leaves the footprint's blocks leaves the tree -/
theorem TreeP.carry {p : Nat → Prop} {w w' : World} {v : Value} {t : T} (hk : ∀ b, p b → b < w.heap.size → w'.heap[b]? = w.heap[b]?) (h : TreeP p w v t) : TreeP p w' v t := by
  induction h with
  | mk h ks ao sp c0 c1 hn hc ht ih =>
    exact .mk h ks ao sp c0 c1 hn (fun i hi => by
      obtain ⟨b, off, e, hp, h1, h2⟩ := hc i hi
      have hb := hk b hp (block_lt_of_cell h1)
      exact ⟨b, off, e, hp, by rw [World.cell?_of_block (w := w) hb]; exact h1, by rw [World.cell?_of_block (w := w) hb]; exact h2⟩) ih
theorem TreeP.kept {p : Nat → Prop} {w w' : World} (hb : Below w.heap.size w w') {v : Value} {t : T} (h : TreeP p w v t) : TreeP p w' v t := h.carry fun b _ hlt => hb.block b hlt
theorem TreeP.setCell {p : Nat → Prop} {w : World} {v : Value} {t : T} (h : TreeP p w v t) {a : Addr} (ha : ¬ p a.block) (u : Value) : TreeP p (w.setCell a u) v t :=
  h.carry fun b hp _ => Below.heap_setCell w a u b (fun e => ha (e ▸ hp))

/-- a row of trees with their footprint -/
def RowP (p : Nat → Prop) (w : World) (ao : Option Addr) (ks : List T) : Prop :=
  ∀ i, i < ks.length → ∃ b off k sp, ao = some ⟨b, off, none⟩ ∧ p b ∧ w.cell? ⟨b, off + i * 2, none⟩ = some (.int .i64 (gK ks i).head) ∧
    w.cell? ⟨b, off + i * 2 + 1, none⟩ = some (.slice k (gK ks i).kids.length ((gK ks i).kids.length + sp)) ∧
    TreeP p w (.agg #[.int .i64 (gK ks i).head, .slice k (gK ks i).kids.length ((gK ks i).kids.length + sp)]) (gK ks i)
theorem TreeP.open {p : Nat → Prop} {w : World} {v : Value} {t : T} (h : TreeP p w v t) : ∃ ao sp, v = .agg #[.int .i64 t.head, .slice ao t.kids.length (t.kids.length + sp)] ∧ RowP p w ao t.kids ∧ t.kids.length ≤ maxLen := by
  cases h with
  | mk h ks ao sp c0 c1 hn hc ht =>
    refine ⟨ao, sp, rfl, fun i hi => ?_, hn⟩
    obtain ⟨b, off, e, hp, h1, h2⟩ := hc i hi
    have h3 := ht i hi
    obtain ⟨k, sp', e'⟩ := h3.at.form
    have e0 : c0 i = .int .i64 (gK ks i).head ∧ c1 i = .slice k (gK ks i).kids.length ((gK ks i).kids.length + sp') := by simpa using e'
    rw [e0.1] at h1 h3; rw [e0.2] at h2 h3
    exact ⟨b, off, k, sp', e, hp, h1, h2, h3⟩
theorem TreeP.close {p : Nat → Prop} {w : World} {h : Int} {ks : List T} {ao : Option Addr} {sp : Nat} (hr : RowP p w ao ks) (hn : ks.length ≤ maxLen) : TreeP p w (.agg #[.int .i64 h, .slice ao ks.length (ks.length + sp)]) (.node h ks) := by
  have hr' : ∀ i, ∃ c0 c1, i < ks.length → (∃ b off, ao = some ⟨b, off, none⟩ ∧ p b ∧ w.cell? ⟨b, off + i * 2, none⟩ = some c0 ∧ w.cell? ⟨b, off + i * 2 + 1, none⟩ = some c1) ∧ TreeP p w (.agg #[c0, c1]) (gK ks i) := fun i => by
    by_cases hi : i < ks.length
    · obtain ⟨b, off, k, sp, e, hp, h1, h2, h3⟩ := hr i hi
      exact ⟨_, _, fun _ => ⟨⟨b, off, e, hp, h1, h2⟩, h3⟩⟩
    · exact ⟨default, default, fun h => absurd h hi⟩
  exact .mk h ks ao sp (fun i => Classical.choose (hr' i)) (fun i => Classical.choose (Classical.choose_spec (hr' i))) hn
    (fun i hi => (Classical.choose_spec (Classical.choose_spec (hr' i)) hi).1) (fun i hi => (Classical.choose_spec (Classical.choose_spec (hr' i)) hi).2)
end Go.Proofs.YtidgnbdlfngeaaaDoor
namespace Go.Proofs.YtidgnbdlfngeaaaDoor
open Go.RowKit Go.Shelf
set_option linter.unusedVariables false
set_option maxHeartbeats 400000

theorem info24 : (Tryd.prog.info? 45).map (fun i => (i.zero, i.size, i.bytes)) = some (some (.agg #[.int .i64 0, .slice none 0 0]), 2, 32) := by kernel_rfl

theorem own_below {base : Nat} {e : TypeId} {k : Nat} {v : Value} {n : Nat} {xs : List Value} {w w' : World} (h : w.ownsRow base e k v n xs) (hb : Below w.heap.size w w') : w'.ownsRow base e k v n xs :=
  World.ownsRow.kept h (row := none) ⟨hb.os, hb.tape, hb.output, hb.size, fun k hk _ => hb.block k hk⟩ (by cases h : v.ownBlock with | none => exact .inl rfl | some x => exact .inr (by simp))

/-- a row of trees that the call itself has gathered -/
def RowOwn (p : Nat → Prop) (B : Nat) (w : World) (o : Value) (ks : List T) : Prop :=
  ∃ cs, w.ownsRow B 45 2 o ks.length cs ∧ ∀ i, i < ks.length → ∃ k sp, cs[i * 2]? = some (.int .i64 (gK ks i).head) ∧ cs[i * 2 + 1]? = some (.slice k (gK ks i).kids.length ((gK ks i).kids.length + sp)) ∧
    TreeP (fun b => p b ∧ o.ownBlock ≠ some b) w (.agg #[.int .i64 (gK ks i).head, .slice k (gK ks i).kids.length ((gK ks i).kids.length + sp)]) (gK ks i)
theorem RowOwn.nil (p : Nat → Prop) (B : Nat) (w : World) : RowOwn p B w (.slice none 0 0) [] := ⟨[], World.ownsRow_nil _ _ _ _, fun i hi => by simp at hi⟩
theorem RowOwn.row {p : Nat → Prop} {B : Nat} {w : World} {o : Value} {ks : List T} (h : RowOwn p B w o ks) (hp : ∀ b, B ≤ b → p b) : ∃ ao sp, o = .slice ao ks.length (ks.length + sp) ∧ RowP p w ao ks ∧ ks.length ≤ maxLen := by
  obtain ⟨cs, ho, hk⟩ := h
  obtain ⟨_, h2⟩ := ho
  rcases h2 with ⟨rfl, hn⟩ | ⟨g, cap, cur, rfl, hB, hh, hnc, hm, hsz, htk⟩
  · have : ks = [] := List.eq_nil_of_length_eq_zero hn
    subst this
    exact ⟨none, 0, rfl, fun j hj => by simp at hj, by simp⟩
  · refine ⟨some ⟨g, 0, none⟩, cap - ks.length, by congr 1; omega, fun j hj => ?_, by omega⟩
    obtain ⟨k, sp, c1, c2, c3⟩ := hk j hj
    refine ⟨g, 0, k, sp, rfl, hp g hB, ?_, ?_, c3.mono (fun b h _ => h.1)⟩
    · rw [← htk, List.getElem?_take, if_pos (by omega)] at c1
      simp only [World.cell?, hh, Nat.zero_add, Option.isSome_none]
      rw [← Array.getElem?_toList, c1]; simp
    · rw [← htk, List.getElem?_take, if_pos (by omega)] at c2
      simp only [World.cell?, hh, Nat.zero_add, Option.isSome_none]
      rw [← Array.getElem?_toList, c2]; simp
theorem gK_append_lt {ks : List T} {x : T} {i : Nat} (h : i < ks.length) : gK (ks ++ [x]) i = gK ks i := by simp [gK, List.getElem?_append_left h]
theorem gK_append_eq {ks : List T} {x : T} : gK (ks ++ [x]) ks.length = x := by simp [gK]
theorem RowOwn.push {p : Nat → Prop} {B : Nat} {w : World} {o : Value} {ks : List T} {x : T} {cs : List Value} {k : Option Addr} {sp : Nat} (ho : w.ownsRow B 45 2 o (ks.length + 1) (cs ++ [.int .i64 x.head, .slice k x.kids.length (x.kids.length + sp)])) (hl : cs.length = ks.length * 2)
    (hk : ∀ i, i < ks.length → ∃ k sp, cs[i * 2]? = some (.int .i64 (gK ks i).head) ∧ cs[i * 2 + 1]? = some (.slice k (gK ks i).kids.length ((gK ks i).kids.length + sp)) ∧
      TreeP (fun b => p b ∧ o.ownBlock ≠ some b) w (.agg #[.int .i64 (gK ks i).head, .slice k (gK ks i).kids.length ((gK ks i).kids.length + sp)]) (gK ks i))
    (hx : TreeP (fun b => p b ∧ o.ownBlock ≠ some b) w (.agg #[.int .i64 x.head, .slice k x.kids.length (x.kids.length + sp)]) x) : RowOwn p B w o (ks ++ [x]) := by
  refine ⟨_, by simpa using ho, fun i hi => ?_⟩
  by_cases h : i < ks.length
  · rw [gK_append_lt h]
    obtain ⟨k, sp, c1, c2, c3⟩ := hk i h
    exact ⟨k, sp, by rw [List.getElem?_append_left (by omega)]; exact c1, by rw [List.getElem?_append_left (by omega)]; exact c2, c3⟩
  · have e : i = ks.length := by simp at hi; omega
    subst e
    rw [gK_append_eq]
    exact ⟨k, sp, by rw [List.getElem?_append_right (by omega)]; simp [hl], by rw [List.getElem?_append_right (by omega)]; simp [hl], hx⟩

theorem length_le_sizeL : ∀ (l : List T), l.length ≤ sizeL l
  | [] => by simp
  | t :: r => by simp only [List.length_cons, sizeL]; have := length_le_sizeL r; have := t.size_pos; omega
theorem box2_set1 {w : World} {b : Nat} {x y : Value} {T : TypeId} (h : w.heap[b]? = some (.cells #[x, y] T (0, 0))) (v : Value) : (w.setCell ⟨b, 1, none⟩ v).heap[b]? = some (.cells #[x, v] T (0, 0)) := by
  simp [World.setCell, Array.getElem?_modify, h]

end Go.Proofs.YtidgnbdlfngeaaaDoor
