/-
  Small words and lemmas on lists of numbers in memory; no program is named here.
-/
import Derived.WalkKit
import Derived.WalkLawsBesides
import Derived.WalkSpells
import Derived.BigQuiet
import Derived.Deep.QuietTactic
import Derived.Lib.Hide
import Derived.Lib.QuietBelow
import Derived.RangeFuncNested
import Derived.RangeFuncBox
import Derived.Shelf.Abstract
import Derived.Shelf.RegionOpen
import Derived.Deep.LoopGhost
import Derived.StillTailTactics
namespace Go.Proofs.YtidgnbdlfngeaaaGreatDoor
open Go.RowKit
set_option linter.unusedVariables false

/-- element j of a list of integers -/
def gI (l : List Int) (j : Nat) : Int := l.getD j 0
theorem gI_get {l : List Int} {j : Nat} (h : j < l.length) : gI l j = l[j] := by simp [gI, h]
theorem Below.cellOf {w w' : World} (h : Below w.heap.size w w') {a : Addr} {v : Value} (hc : w.cell? a = some v) : w'.cell? a = some v := by
  rw [h.cell (p := a) (block_lt_of_cell hc)]; exact hc

/-- two steps: what was there first lies as it lay -/
theorem Below.step {w w1 w2 : World} (h : Below w.heap.size w w1) (k : Below w1.heap.size w1 w2) : Below w.heap.size w w2 := h.trans (k.mono h.size)

/-- the first number below n with p -/
def firstI (p : Nat → Bool) : Nat → Option Nat
  | 0 => none
  | n + 1 => match firstI p n with
    | some i => some i
    | none => if p n then some n else none
def firstZ (p : Nat → Bool) (n : Nat) : Int := match firstI p n with | some i => i | none => -1

theorem firstI_none {p : Nat → Bool} {n : Nat} (hno : ∀ j, j < n → p j = false) : firstI p n = none := by
  induction n with
  | zero => rfl
  | succ n ih => simp [firstI, ih (fun j hj => hno j (by omega)), hno n (by omega)]
theorem firstI_hit {p : Nat → Bool} {n k : Nat} (hk : k < n) (hno : ∀ j, j < k → p j = false) (hp : p k = true) : firstI p n = some k := by
  induction n with
  | zero => omega
  | succ n ih =>
    by_cases e : k = n
    · subst e; simp [firstI, firstI_none hno, hp]
    · simp [firstI, ih (by omega)]
theorem firstZ_hit {p : Nat → Bool} {n k : Nat} (hk : k < n) (hno : ∀ j, j < k → p j = false) (hp : p k = true) : firstZ p n = k := by
  simp [firstZ, firstI_hit hk hno hp]
theorem firstZ_none {p : Nat → Bool} {n : Nat} (hno : ∀ j, j < n → p j = false) : firstZ p n = -1 := by
  simp [firstZ, firstI_none hno]

/-- is there one below n with p? -/
def anyB (p : Nat → Bool) : Nat → Bool
  | 0 => false
  | n + 1 => anyB p n || p n
theorem anyB_iff {p : Nat → Bool} {n : Nat} : anyB p n = true ↔ ∃ j, j < n ∧ p j = true := by
  induction n with
  | zero => simp [anyB]
  | succ n ih =>
    simp only [anyB, Bool.or_eq_true, ih]
    constructor
    · rintro (⟨j, hj, hp⟩ | hp)
      · exact ⟨j, by omega, hp⟩
      · exact ⟨n, by omega, hp⟩
    · rintro ⟨j, hj, hp⟩
      by_cases e : j = n
      · subst e; exact .inr hp
      · exact .inl ⟨j, by omega, hp⟩
theorem firstZ_nonneg {p : Nat → Bool} {n : Nat} : (0 ≤ firstZ p n) ↔ anyB p n = true := by
  unfold firstZ
  induction n with
  | zero => simp [firstI, anyB]
  | succ n ih =>
    simp only [firstI, anyB]
    cases h : firstI p n with
    | some i => rw [h] at ih; simp only [Bool.or_eq_true]; simp at ih; simp [ih]
    | none =>
      rw [h] at ih; simp at ih
      by_cases hp : p n <;> simp [hp, ih]

theorem Below.heapAt {w w' : World} (h : Below w.heap.size w w') {b : Nat} {o : Obj} (hb : w.heap[b]? = some o) : w'.heap[b]? = some o :=
  (h.block b (Array.getElem?_eq_some_iff.1 hb).1).trans hb
theorem heap_ofAlloc (w : World) (o : Obj) : (w.alloc o).heap[w.heap.size]? = some o := World.alloc_heap_new w o
theorem heap_alloc_old {w : World} {b : Nat} {o o' : Obj} (hb : w.heap[b]? = some o) : (w.alloc o').heap[b]? = some o :=
  (Below.heap_alloc w o' b (Array.getElem?_eq_some_iff.1 hb).1).trans hb
theorem heap_lt {w : World} {b : Nat} {o : Obj} (hb : w.heap[b]? = some o) : b < w.heap.size := (Array.getElem?_eq_some_iff.1 hb).1
/-- a block of two cells, read out -/
theorem box1 {w : World} {b : Nat} {x : Value} {T : TypeId} (h : w.heap[b]? = some (.cells #[x] T (0, 0))) :
    w.cell? ⟨b, 0, none⟩ = some x ∧ w.frozen? ⟨b, 0, none⟩ = false := by
  constructor <;> simp [World.cell?, World.frozen?, h]
theorem box2 {w : World} {b : Nat} {x y : Value} {T : TypeId} (h : w.heap[b]? = some (.cells #[x, y] T (0, 0))) :
    (w.cell? ⟨b, 0, none⟩ = some x ∧ w.frozen? ⟨b, 0, none⟩ = false) ∧ (w.cell? ⟨b, 1, none⟩ = some y ∧ w.frozen? ⟨b, 1, none⟩ = false) := by
  refine ⟨⟨?_, ?_⟩, ?_, ?_⟩ <;> simp [World.cell?, World.frozen?, h]
theorem box2_set {w : World} {b : Nat} {x y : Value} {T : TypeId} (h : w.heap[b]? = some (.cells #[x, y] T (0, 0))) (u v : Value) :
    ((w.setCell ⟨b, 0, none⟩ u).setCell ⟨b, 1, none⟩ v).heap[b]? = some (.cells #[u, v] T (0, 0)) := by
  simp [World.setCell, Array.getElem?_modify, h]
theorem heap_set_other {w : World} {b : Nat} {o : Obj} {a : Addr} {u : Value} (h : w.heap[b]? = some o) (hne : b ≠ a.block) : (w.setCell a u).heap[b]? = some o :=
  (Below.heap_setCell _ _ _ _ hne).trans h
/-- a function's end whose one result lies in a block of two cells -/
theorem ret_box2 {P : Program} {fn : Func} {R : Ending → World → Prop} {a : Act} {w : World} (x y : Value) (b : Nat) (T : TypeId) (hb : w.heap[b]? = some (.cells #[x, y] T (0, 0)))
    (hres : ∀ w' : World, w'.cell? ⟨b, 0, none⟩ = some x → w'.cell? ⟨b, 1, none⟩ = some y → (results fn a.tmps).run P w' = .ok (.agg #[x, y]) w') (hd : a.defers = [])
    (hR : R (.returned (.agg #[x, y])) w) : bodyPost P fn R .ret a w := bodyPost_ret (hres w (box2 hb).1.1 (box2 hb).2.1) hd hR

theorem ret_bool {a b : Bool} (h : a = b) : Ending.returned (.bool a) = Ending.returned (.bool b) := by rw [h]
theorem ret_int {k : IntKind} {a b : Int} (h : a = b) : Ending.returned (.int k a) = Ending.returned (.int k b) := by rw [h]

end Go.Proofs.YtidgnbdlfngeaaaGreatDoor
