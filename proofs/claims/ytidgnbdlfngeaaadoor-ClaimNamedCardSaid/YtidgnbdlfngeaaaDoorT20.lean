/-
  Walks: tree.Do.
-/
import Derived.Test.YtidgnbdlfngeaaaDoorProg
import Derived.Test.YtidgnbdlfngeaaaDoorBase
import Derived.Test.YtidgnbdlfngeaaaDoorXa
import Derived.Test.YtidgnbdlfngeaaaDoorXd
import Derived.Test.YtidgnbdlfngeaaaDoorT19
namespace Go.Proofs.YtidgnbdlfngeaaaDoor
open Go.RowKit Go.Shelf
set_option linter.unusedVariables false
set_option maxHeartbeats 400000


/-- tree.Do, plain -/
def zeroT : T := .node 0 []
def doF (t : T) (bs : List T) : T × (Int × Int) := if (treeF t).1 ≠ 0 then (zeroT, treeF t) else if (bindF bs).1 ≠ 0 then (zeroT, bindF bs) else if (treeF (t.sub bs)).1 ≠ 0 then (zeroT, (10, 0)) else (t.sub bs, (0, 0))

theorem low_of_pre (t : T) (h : ∀ x ∈ t.pre, okN x) : t.low := low_of_nodes t 0 (by rw [(nodes_scan t 0).1, scan_ok h])
theorem RowAt.foot {w : World} {ao : Option Addr} {ks : List T} (h : RowAt w ao ks) : RowP (fun b => b < w.heap.size) w ao ks := fun i hi => by
  obtain ⟨b, off, k, sp, e, h1, h2, h3⟩ := h i hi
  exact ⟨b, off, k, sp, e, block_lt_of_cell h1, h1, h2, h3.foot⟩
theorem bindL_ok : ∀ (bs : List T) (k : Int), (bindL bs k).1 = 0 → ∀ i, i < bs.length → (gK bs i).head = 0 ∧ (gK bs i).kids = [] ∨ (gK bs i).head ≠ 0 ∧ (treeF (gK bs i)).1 = 0
  | [], _, _, i, hi => by simp at hi
  | t :: r, k, h, i, hi => by
    rw [bindL] at h
    by_cases h0 : t.head = 0
    · rw [if_pos h0] at h
      by_cases hk : 0 < t.kids.length
      · rw [if_pos hk] at h; simp at h
      · rw [if_neg hk] at h
        cases i with
        | zero => exact .inl ⟨by simpa [gK] using h0, by simpa [gK] using List.eq_nil_of_length_eq_zero (by omega)⟩
        | succ i => have := bindL_ok r (k + 1) h i (by simpa using hi); simpa only [gK, List.getD_cons_succ] using this
    · rw [if_neg h0] at h
      by_cases hk : (treeF t).1 ≠ 0
      · rw [if_pos hk] at h; exact absurd h hk
      · rw [if_neg hk] at h
        cases i with
        | zero => exact .inr ⟨by simpa [gK] using h0, by simpa [gK] using hk⟩
        | succ i => have := bindL_ok r (k + 1) h i (by simpa using hi); simpa only [gK, List.getD_cons_succ] using this
theorem bindF_ok {bs : List T} (h : (bindF bs).1 = 0) : bs.length ≤ 8 ∧ ∀ i, i < bs.length → (gK bs i).head = 0 ∧ (gK bs i).kids = [] ∨ (gK bs i).head ≠ 0 ∧ (treeF (gK bs i)).1 = 0 := by
  rw [bindF] at h
  by_cases h8 : 8 < bs.length
  · rw [if_pos h8] at h; simp at h
  · rw [if_neg h8] at h; exact ⟨by omega, bindL_ok bs 0 h⟩
theorem bind_size {bs : List T} (h : (bindF bs).1 = 0) : ∀ i, i < bs.length → (gK bs i).size ≤ 40 := fun i hi => by
  rcases (bindF_ok h).2 i hi with ⟨_, h2⟩ | ⟨_, h2⟩
  · rw [T.size_eq, h2]; simp [sizeL]
  · exact (treeF_ok.1 h2).1

theorem ret_box22 {P : Program} {fn : Func} {R : Ending → World → Prop} {a : Act} {w : World} (x y p q : Value) (b c : Nat) (T T' : TypeId) (hb : w.heap[b]? = some (.cells #[x, y] T (0, 0))) (hc : w.heap[c]? = some (.cells #[p, q] T' (0, 0)))
    (hres : ∀ w' : World, w'.cell? ⟨b, 0, none⟩ = some x → w'.cell? ⟨b, 1, none⟩ = some y → w'.cell? ⟨c, 0, none⟩ = some p → w'.cell? ⟨c, 1, none⟩ = some q → (results fn a.tmps).run P w' = .ok (.tuple #[.agg #[x, y], .agg #[p, q]]) w') (hd : a.defers = [])
    (hR : R (.returned (.tuple #[.agg #[x, y], .agg #[p, q]])) w) : bodyPost P fn R .ret a w := bodyPost_ret (hres w (box2 hb).1.1 (box2 hb).2.1 (box2 hc).1.1 (box2 hc).2.1) hd hR

theorem two22 {w : World} {b c : Nat} {x0 y0 p0 q0 : Value} {T T' : TypeId} (hb : w.heap[b]? = some (.cells #[x0, y0] T (0, 0))) (hc : w.heap[c]? = some (.cells #[p0, q0] T' (0, 0))) (hne : b < c) (x y p q : Value) :
    ((((w.setCell ⟨b, 0, none⟩ x).setCell ⟨b, 1, none⟩ y).setCell ⟨c, 0, none⟩ p).setCell ⟨c, 1, none⟩ q).heap[b]? = some (.cells #[x, y] T (0, 0)) ∧
    ((((w.setCell ⟨b, 0, none⟩ x).setCell ⟨b, 1, none⟩ y).setCell ⟨c, 0, none⟩ p).setCell ⟨c, 1, none⟩ q).heap[c]? = some (.cells #[p, q] T' (0, 0)) :=
  ⟨heap_set_other (heap_set_other (box2_set hb x y) (by simp; omega)) (by simp; omega), box2_set (heap_set_other (heap_set_other hc (by simp; omega)) (by simp; omega)) p q⟩
theorem below22 {w0 w : World} {B b c : Nat} (h : Below B w0 w) (hb : B ≤ b) (hc : B ≤ c) (x y p q : Value) :
    Below B w0 ((((w.setCell ⟨b, 0, none⟩ x).setCell ⟨b, 1, none⟩ y).setCell ⟨c, 0, none⟩ p).setCell ⟨c, 1, none⟩ q) :=
  (((h.setCell (p := ⟨b, 0, none⟩) hb x).setCell (p := ⟨b, 1, none⟩) hb y).setCell (p := ⟨c, 0, none⟩) hc p).setCell (p := ⟨c, 1, none⟩) hc q
theorem field28_0 (c a : Int) (w : World) : (Instr.field 28 (.agg #[.int .i64 c, .int .i64 a]) 0).run Tryd.prog w = .ok (.int .i64 c) w := by kernel_rfl
def DoPost (r : T × (Int × Int)) (w : World) (e : Ending) (w' : World) : Prop := ∃ u, e = .returned (.tuple #[u, FV r.2]) ∧ TreeAt w' u r.1 ∧ Below w.heap.size w w'
theorem TreeAt.zero (w : World) : TreeAt w (.agg #[.int .i64 0, .slice none 0 0]) zeroT := (TreeP.leaf (fun _ => True) w 0).at

def DoPostP (p0 : Nat → Prop) (r : T × (Int × Int)) (w : World) (e : Ending) (w' : World) : Prop := ∃ u, e = .returned (.tuple #[u, FV r.2]) ∧ TreeP (fun b => p0 b ∨ w.heap.size ≤ b) w' u r.1 ∧ Below w.heap.size w w'
theorem TreeP.zero (p : Nat → Prop) (w : World) : TreeP p w (.agg #[.int .i64 0, .slice none 0 0]) zeroT := TreeP.leaf p w 0
theorem RowP.at {p : Nat → Prop} {w : World} {ao : Option Addr} {ks : List T} (h : RowP p w ao ks) : RowAt w ao ks := fun i hi => by
  obtain ⟨b, off, k, sp, e, _, h1, h2, h3⟩ := h i hi
  exact ⟨b, off, k, sp, e, h1, h2, h3.at⟩

end Go.Proofs.YtidgnbdlfngeaaaDoor
