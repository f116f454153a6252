/-
  Walks: index.Over, index.Under, index.Meet.
  Plain: what a most general unifier of good terms is made of; and its use.
  The document's Norm of a claim, plain; small lemmas for its walk.
-/
import Derived.Test.YtlhnfdjidjgfgaaProg
import Derived.Test.YtlhnfdjidjgfgaaT25
import Derived.Test.YtlhnfdjidjgfgaaXd
import Derived.Test.YtlhnfdjidjgfgaaSh
import Derived.Test.YtlhnfdjidjgfgaaPa4
import Derived.Test.YtlhnfdjidjgfgaaUx5
import Derived.Test.YtlhnfdjidjgfgaaG2
import Derived.RegionTactic
import Derived.Deep.DeepCutAuto
import Derived.Test.YtlhnfdjidjgfgaaMx
import Derived.Test.YtlhnfdjidjgfgaaSt3
import Derived.Test.YtlhnfdjidjgfgaaM2
namespace Go.Proofs.Ytlhnfdjidjgfgaa
open Go.RowKit Go.Shelf
set_option linter.unusedVariables false
set_option maxHeartbeats 400000

theorem ok_parts {t : T} (h : (treeF t).1 = 0) : (∀ z ∈ t.pre, okN z) ∧ t.size ≤ 40 ∧ t.deep ≤ 12 := by
  have := treeF_ok.1 h
  exact ⟨this.2.2, this.1, this.2.1⟩
theorem ok_thin {t : T} (h : (treeF t).1 = 0) : t.thin := fun z hz => by
  have := ((ok_parts h).1 z hz).2
  exact Nat.le_of_not_lt fun e => this (.inl (by omega))
theorem sh_size (b : Int) (t : T) : (shT b t).size = t.size := by
  induction t using T.ind with
  | h t ih =>
    rw [shT_eq, T.size_eq, T.size_eq t]
    congr 1
    show sizeL (shL b t.kids) = sizeL t.kids
    have key : ∀ ks : List T, (∀ i, i < ks.length → (shT b (gK ks i)).size = (gK ks i).size) → sizeL (shL b ks) = sizeL ks := by
      intro ks
      induction ks with
      | nil => intro _; rfl
      | cons k r ihr =>
        intro h
        have h0 : (shT b k).size = k.size := h 0 (by simp)
        simp only [shL, sizeL]
        rw [h0, ihr (fun i hi => h (i + 1) (by simpa using hi))]
    exact key t.kids ih
theorem gK_shL (b : Int) : ∀ {l : List T} {i : Nat}, i < l.length → gK (shL b l) i = shT b (gK l i)
  | [], i, h => by simp at h
  | k :: r, 0, _ => rfl
  | k :: r, i + 1, h => by
    have := gK_shL b (l := r) (i := i) (by simpa using h)
    simpa [shL, gK] using this
end Go.Proofs.Ytlhnfdjidjgfgaa
namespace Go.Proofs.Ytlhnfdjidjgfgaa
open Go.RowKit
set_option linter.unusedVariables false
set_option maxHeartbeats 400000

def lfx : T := .node 2 []
end Go.Proofs.Ytlhnfdjidjgfgaa
namespace Go.Proofs.Ytlhnfdjidjgfgaa
open Go.RowKit Go.Shelf
set_option linter.unusedVariables false
set_option maxHeartbeats 400000

def reFc (l : List Int) (f : Fc) : Fc := ⟨f.neg, f.l.renum l, f.r.renum l⟩
def normF (fs : List Fc) : List Fc := fs.map (reFc (orderL (treesF fs) []))
theorem info54 : (Try.prog.info? 62).map (fun i => (i.zero, i.size, i.bytes)) = some (some (.agg #[.bool false, .int .i64 0, .slice none 0 0, .int .i64 0, .slice none 0 0]), 5, 72) := by kernel_rfl
theorem map_take {α β : Type} (g : α → β) {fs : List α} {k : Nat} (h : k < fs.length) : (fs.take (k + 1)).map g = (fs.take k).map g ++ [g fs[k]] := by
  rw [List.take_succ_eq_append_getElem h, List.map_append]; rfl
theorem sizeL_le_of : ∀ {ts : List T} {N : Nat}, (∀ (i : Nat) t, ts[i]? = some t → t.size ≤ N) → sizeL ts ≤ ts.length * N
  | [], N, _ => by simp [sizeL]
  | t :: r, N, h => by
    have h1 := h 0 t rfl
    have h2 := sizeL_le_of (ts := r) (N := N) (fun i t ht => h (i + 1) t (by simpa using ht))
    simp only [sizeL, List.length_cons, Nat.succ_mul]; omega

theorem treesF_at : ∀ {fs : List Fc} {k : Nat} (h : k < fs.length), (treesF fs)[2 * k]? = some fs[k].l ∧ (treesF fs)[2 * k + 1]? = some fs[k].r
  | f :: r, 0, _ => ⟨rfl, rfl⟩
  | f :: r, k + 1, h => by
    have := treesF_at (fs := r) (k := k) (by simpa using h)
    rw [show 2 * (k + 1) = 2 * k + 1 + 1 by omega]
    simp only [treesF, List.getElem?_cons_succ, List.getElem_cons_succ]
    exact this

theorem ret_box1 {P : Program} {fn : Func} {R : Ending → World → Prop} {a : Act} {w : World} (x : Value) (b : Nat) (T : TypeId) (hb : w.heap[b]? = some (.cells #[x] T (0, 0)))
    (hres : ∀ w' : World, w'.cell? ⟨b, 0, none⟩ = some x → (results fn a.tmps).run P w' = .ok (.agg #[x]) w') (hd : a.defers = [])
    (hR : R (.returned (.agg #[x])) w) : bodyPost P fn R .ret a w := bodyPost_ret (hres w (box1 hb).1) hd hR

end Go.Proofs.Ytlhnfdjidjgfgaa
