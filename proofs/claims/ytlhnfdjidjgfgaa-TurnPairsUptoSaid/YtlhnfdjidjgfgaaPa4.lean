/-
  Plain: matching.
  Walks: tree.Same, slices.EqualFunc over rows of trees.
  Walks: the document's Down.
  Walks: fit.match.
  Walks: fit.Match, fit.Do.
  Walks: binds; what fit.Do says over a state; a made row.
  Plain: instances of trees; what matching says.
  Walks: are two facts, two claims the same?
  Walks: is a lore vast?
  Walks: claim.SameFact; the function that trace.Once hands on.
  Walks: claim.Same; is a claim among these?
  Walks: is a claim among these?
-/
import Derived.Test.YtlhnfdjidjgfgaaSt3
import Derived.Test.YtlhnfdjidjgfgaaXa
import Derived.Test.YtlhnfdjidjgfgaaXc
import Derived.Test.YtlhnfdjidjgfgaaProg
import Derived.Test.YtlhnfdjidjgfgaaBase
import Derived.Test.YtlhnfdjidjgfgaaXb
import Derived.Test.YtlhnfdjidjgfgaaT25
import Derived.Test.YtlhnfdjidjgfgaaXd
import Derived.IntWalk
import Derived.Deep.DeepCutAuto
import Derived.OwnWalk
import Derived.RegionTactic
namespace Go.Proofs.Ytlhnfdjidjgfgaa
open Go.RowKit
set_option linter.unusedVariables false

end Go.Proofs.Ytlhnfdjidjgfgaa
namespace Go.Proofs.Ytlhnfdjidjgfgaa
open Go.RowKit Go.Shelf
set_option linter.unusedVariables false
set_option maxHeartbeats 400000

end Go.Proofs.Ytlhnfdjidjgfgaa
namespace Go.Proofs.Ytlhnfdjidjgfgaa
open Go.RowKit Go.Shelf
set_option linter.unusedVariables false
set_option maxHeartbeats 400000

theorem TreeP.row {p : Nat → Prop} {w : World} {h0 : Int} {ao : Option Addr} {n c : Nat} {x : T} (h : TreeP p w (.agg #[.int .i64 h0, .slice ao n c]) x) : RowP p w ao x.kids ∧ x.kids.length ≤ maxLen := by
  obtain ⟨ao', sp', e, h1, h2⟩ := h.open
  simp at e
  rw [e.2.1]; exact ⟨h1, h2⟩
def DownPost (p : Nat → Prop) (r : T × Int) (w : World) (e : Ending) (w' : World) : Prop := ∃ k sp, e = .returned (.tuple #[.agg #[.int .i64 r.1.head, .slice k r.1.kids.length (r.1.kids.length + sp)], .int .i64 r.2]) ∧ TreeP p w (.agg #[.int .i64 r.1.head, .slice k r.1.kids.length (r.1.kids.length + sp)]) r.1 ∧ Below w.heap.size w w'

end Go.Proofs.Ytlhnfdjidjgfgaa
namespace Go.Proofs.Ytlhnfdjidjgfgaa
open Go.RowKit Go.Shelf
set_option linter.unusedVariables false
set_option maxHeartbeats 400000

end Go.Proofs.Ytlhnfdjidjgfgaa
namespace Go.Proofs.Ytlhnfdjidjgfgaa
open Go.RowKit Go.Shelf
set_option linter.unusedVariables false
set_option maxHeartbeats 400000

end Go.Proofs.Ytlhnfdjidjgfgaa
namespace Go.Proofs.Ytlhnfdjidjgfgaa
open Go.RowKit Go.Shelf
set_option linter.unusedVariables false
set_option maxHeartbeats 400000

end Go.Proofs.Ytlhnfdjidjgfgaa
namespace Go.Proofs.Ytlhnfdjidjgfgaa
open Go.RowKit
set_option linter.unusedVariables false

theorem okN_num {x : T} (h : okN x) : x.head ≠ 0 ∧ -8 ≤ x.head ∧ x.head ≤ 12 ∧ x.kids.length ≤ 3 ∧ (x.head < 0 → x.kids.length = 0) := by
  obtain ⟨h1, h2⟩ := h
  unfold badHead at h1
  unfold badKids at h2
  refine ⟨?_, ?_, ?_, ?_, ?_⟩ <;> omega
theorem mem_preL : ∀ {ks : List T} {x : T}, x ∈ preL ks → ∃ i, i < ks.length ∧ x ∈ (gK ks i).pre
  | [], x, h => by cases h
  | t :: r, x, h => by
    have h : x ∈ t.pre ++ preL r := h
    rcases List.mem_append.1 h with h | h
    · exact ⟨0, by simp, h⟩
    · obtain ⟨i, hi, hx⟩ := mem_preL h
      exact ⟨i + 1, by simpa using hi, hx⟩
theorem gK_map {f : T → T} {l : List T} {i : Nat} (h : i < l.length) : gK (l.map f) i = f (gK l i) := by simp [gK, h]
theorem ret_box2b {P : Program} {fn : Func} {R : Ending → World → Prop} {a : Act} {w : World} (x y z : Value) (b : Nat) (T : TypeId) (hb : w.heap[b]? = some (.cells #[x, y] T (0, 0)))
    (hres : ∀ w' : World, w'.cell? ⟨b, 0, none⟩ = some x → w'.cell? ⟨b, 1, none⟩ = some y → (results fn a.tmps).run P w' = .ok (.tuple #[.agg #[x, y], z]) w') (hd : a.defers = [])
    (hR : R (.returned (.tuple #[.agg #[x, y], z])) w) : bodyPost P fn R .ret a w := bodyPost_ret (hres w (box2 hb).1.1 (box2 hb).2.1) hd hR


theorem T.node_eta (t : T) : T.node t.head t.kids = t := by cases t; rfl
mutual
def T.inst (σ : Nat → T) : T → T
  | .node h ks => if h < 0 then σ (-h - 1).toNat else .node h (instL σ ks)
def instL (σ : Nat → T) : List T → List T
  | [] => []
  | k :: r => k.inst σ :: instL σ r
end
theorem T.inst_eq (σ : Nat → T) (t : T) : t.inst σ = if t.head < 0 then σ (-t.head - 1).toNat else .node t.head (instL σ t.kids) := by cases t; rw [T.inst]; rfl
theorem instL_length (σ : Nat → T) : ∀ l : List T, (instL σ l).length = l.length
  | [] => rfl
  | k :: r => by simp [instL, instL_length σ r]
/-- variable i stands in a tree -/
def T.has (t : T) (i : Nat) : Prop := 0 < t.times (-(i : Int) - 1)
theorem has_var {t : T} (h : t.head < 0) : t.has (-t.head - 1).toNat := by
  unfold T.has; rw [T.times_eq, if_pos (by omega)]; omega
theorem timesL_kid (x : Int) : ∀ {l : List T} {i : Nat}, i < l.length → (gK l i).times x ≤ timesL x l
  | [], i, h => by simp at h
  | k :: r, 0, _ => by simp only [gK, List.getD_cons_zero, timesL]; omega
  | k :: r, i + 1, h => by have := timesL_kid x (l := r) (i := i) (by simpa using h); simp only [gK, List.getD_cons_succ, timesL] at this ⊢; omega
theorem has_kid {t : T} {i j : Nat} (hj : j < t.kids.length) (h : (gK t.kids j).has i) : t.has i := by
  unfold T.has at h ⊢
  have := timesL_kid (-(i : Int) - 1) hj
  rw [T.times_eq]; omega
def hasL (l : List T) (i : Nat) : Prop := 0 < timesL (-(i : Int) - 1) l
theorem hasL_cons {k : T} {r : List T} {i : Nat} : hasL (k :: r) i ↔ k.has i ∨ hasL r i := by unfold hasL T.has; simp only [timesL]; omega
theorem has_cases {t : T} {i : Nat} (h : t.has i) : t.head = -(i : Int) - 1 ∨ hasL t.kids i := by
  unfold T.has at h; unfold hasL; rw [T.times_eq] at h
  by_cases e : t.head = -(i : Int) - 1
  · exact .inl e
  · rw [if_neg e] at h; right; omega
theorem instL_congr {σ τ : Nat → T} : ∀ {l : List T}, (∀ j, j < l.length → (gK l j).inst σ = (gK l j).inst τ) → instL σ l = instL τ l
  | [], _ => rfl
  | k :: r, h => by
    have h0 := h 0 (by simp)
    simp only [gK, List.getD_cons_zero] at h0
    rw [instL, instL, h0, instL_congr (l := r) (fun j hj => by have := h (j + 1) (by simpa using hj); simpa only [gK, List.getD_cons_succ] using this)]
theorem inst_congr {σ τ : Nat → T} (t : T) (h : ∀ i, t.has i → σ i = τ i) : t.inst σ = t.inst τ := by
  induction t using T.ind with
  | h t ih =>
    rw [T.inst_eq, T.inst_eq]
    by_cases hn : t.head < 0
    · rw [if_pos hn, if_pos hn]; exact h _ (has_var hn)
    · rw [if_neg hn, if_neg hn, instL_congr (fun j hj => ih j hj (fun i hi => h i (has_kid hj hi)))]

theorem self_pre (t : T) : t ∈ t.pre := by rw [T.pre_eq]; simp
end Go.Proofs.Ytlhnfdjidjgfgaa
namespace Go.Proofs.Ytlhnfdjidjgfgaa
open Go.RowKit Go.Shelf
set_option linter.unusedVariables false
set_option maxHeartbeats 400000

noncomputable instance : DecidableEq Fc := fun _ _ => Classical.propDecidable _
theorem St.cell {w0 w : World} {l : List Fct} (S : St w0 w l) (i : Nat) {b : Nat} {cs : Array Value} {T : TypeId} (j : Nat) {v : Value} (hj : cs[j]? = some v) (hi : Fct.at l i = Fct.box b cs T := by rfl) : w.cell? ⟨b, j, none⟩ = some v ∧ w.frozen? ⟨b, j, none⟩ = false := by
  have h := S.block i hi
  simp [World.cell?, World.frozen?, h, hj]
end Go.Proofs.Ytlhnfdjidjgfgaa
namespace Go.Proofs.Ytlhnfdjidjgfgaa
open Go.RowKit Go.Shelf
set_option linter.unusedVariables false
set_option maxHeartbeats 400000

theorem any_take {α : Type} {p : α → Bool} {l : List α} {k : Nat} {x : α} (hx : l[k]? = some x) (h : p x = true) : l.any p = true := List.any_eq_true.2 ⟨x, List.mem_of_getElem? hx, h⟩
theorem any_none {α : Type} {p : α → Bool} {l : List α} (h : ∀ (j : Nat) x, j < l.length → l[j]? = some x → p x = false) : l.any p = false := by
  rw [List.any_eq_false]
  intro x hx
  obtain ⟨j, hj, rfl⟩ := List.getElem_of_mem hx
  rw [h j _ hj (List.getElem?_eq_getElem hj)]; simp
theorem no_step {α : Type} {p : α → Bool} {l : List α} {k : Nat} (hk : k < l.length) (h : ∀ (j : Nat) x, j < k → l[j]? = some x → p x = false) (h2 : p l[k] = false) : ∀ (j : Nat) x, j < k + 1 → l[j]? = some x → p x = false := fun j x hj hx => by
  rcases Nat.lt_succ_iff_lt_or_eq.1 hj with h3 | rfl
  · exact h j x h3 hx
  · rw [List.getElem?_eq_getElem hk] at hx
    obtain rfl := Option.some.inj hx
    exact h2
end Go.Proofs.Ytlhnfdjidjgfgaa
namespace Go.Proofs.Ytlhnfdjidjgfgaa
open Go.RowKit Go.Shelf
set_option linter.unusedVariables false
set_option maxHeartbeats 400000

end Go.Proofs.Ytlhnfdjidjgfgaa
namespace Go.Proofs.Ytlhnfdjidjgfgaa
open Go.RowKit Go.Shelf
set_option linter.unusedVariables false
set_option maxHeartbeats 400000

end Go.Proofs.Ytlhnfdjidjgfgaa
namespace Go.Proofs.Ytlhnfdjidjgfgaa
open Go.RowKit Go.Shelf
set_option linter.unusedVariables false
set_option maxHeartbeats 400000

end Go.Proofs.Ytlhnfdjidjgfgaa
