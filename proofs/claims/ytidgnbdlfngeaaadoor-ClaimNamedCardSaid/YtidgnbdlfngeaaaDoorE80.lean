/-
  The document's Norm of a claim, plain; small lemmas for its walk.
-/
import Derived.Test.YtidgnbdlfngeaaaDoorProg
import Derived.Test.YtidgnbdlfngeaaaDoorE7
namespace Go.Proofs.YtidgnbdlfngeaaaDoor
open Go.RowKit Go.Shelf
set_option linter.unusedVariables false
set_option maxHeartbeats 400000

def reFc (l : List Int) (f : Fc) : Fc := ⟨f.neg, f.l.renum l, f.r.renum l⟩
def normF (fs : List Fc) : List Fc := fs.map (reFc (orderL (treesF fs) []))
theorem info54 : (Tryd.prog.info? 47).map (fun i => (i.zero, i.size, i.bytes)) = some (some (.agg #[.bool false, .int .i64 0, .slice none 0 0, .int .i64 0, .slice none 0 0]), 5, 72) := by kernel_rfl
theorem map_take {α β : Type} (g : α → β) {fs : List α} {k : Nat} (h : k < fs.length) : (fs.take (k + 1)).map g = (fs.take k).map g ++ [g fs[k]] := by
  rw [List.take_succ_eq_append_getElem h, List.map_append]; rfl
theorem sizeL_le_of : ∀ {ts : List T} {N : Nat}, (∀ (i : Nat) t, ts[i]? = some t → t.size ≤ N) → sizeL ts ≤ ts.length * N
  | [], N, _ => by simp [sizeL]
  | t :: r, N, h => by
    have h1 := h 0 t rfl
    have h2 := sizeL_le_of (ts := r) (N := N) (fun i t ht => h (i + 1) t (by simpa using ht))
    simp only [sizeL, List.length_cons, Nat.succ_mul]; omega

theorem treesF_at : ∀ {fs : List Fc} {k : Nat} (h : k < fs.length), (treesF fs)[2 * k]? = some fs[k].l ∧ (treesF fs)[2 * k + 1]? = some fs[k].r
  | f :: r, 0, _ => ⟨rfl, rfl⟩
  | f :: r, k + 1, h => by
    have := treesF_at (fs := r) (k := k) (by simpa using h)
    rw [show 2 * (k + 1) = 2 * k + 1 + 1 by omega]
    simp only [treesF, List.getElem?_cons_succ, List.getElem_cons_succ]
    exact this

theorem ret_box1 {P : Program} {fn : Func} {R : Ending → World → Prop} {a : Act} {w : World} (x : Value) (b : Nat) (T : TypeId) (hb : w.heap[b]? = some (.cells #[x] T (0, 0)))
    (hres : ∀ w' : World, w'.cell? ⟨b, 0, none⟩ = some x → (results fn a.tmps).run P w' = .ok (.agg #[x]) w') (hd : a.defers = [])
    (hR : R (.returned (.agg #[x])) w) : bodyPost P fn R .ret a w := bodyPost_ret (hres w (box1 hb).1) hd hR

end Go.Proofs.YtidgnbdlfngeaaaDoor
