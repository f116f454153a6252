/-
  Walks: turn.checkRule. A set of variables as a map to true.
-/
import Derived.Test.YtidgnbdlfngeaaaDoorProg
import Derived.Test.YtidgnbdlfngeaaaDoorM2
import Derived.Test.YtidgnbdlfngeaaaDoorT23
import Derived.Test.YtidgnbdlfngeaaaDoorE5
import Derived.Maps.OwnIn
namespace Go.Proofs.YtidgnbdlfngeaaaDoor
open Go.RowKit Go.Shelf Go.Maps
set_option linter.unusedVariables false
set_option maxHeartbeats 400000
attribute [local go_sem] Oper.semAt_some

theorem zero4 (w : World) : (zeroValue 4).run Tryd.prog w = .ok (.bool false) w := by kernel_rfl
set_option maxRecDepth 100000 in
theorem plainElem_bool_inv {v : Value} {d : DataW Unit} {ps : List MemPlace} (h : plainElem Tryd.prog 4 v = some (d, ps)) : ∃ b, v = .bool b ∧ d = .lit (.bool b) := by
  unfold plainElem at h
  rw [Tryd.underlying4] at h
  cases v <;> simp at h
  exact ⟨_, rfl, h.1.symm⟩
/-- block b is a map that holds true at the numbers of the list -/
def MapB (b : Nat) (X : List Int) (w : World) : Prop :=
  ∃ D : DataW Unit, w.ownsMap Tryd.prog 3 (plainElem Tryd.prog 4) b X.length D ∧ Maps.IsMap D ∧ ∀ z : Int, D.atKey (.int .i64 z) (.lit (.bool false)) = .lit (.bool (decide (z ∈ X)))
theorem MapB.made (w : World) : MapB w.heap.size [] (w.alloc (.map #[] 0)) := ⟨.map [], World.ownsMap_made _ _ _ _, isMap_empty, fun z => by simp [DataW.atKey]⟩
theorem MapB.lt {b : Nat} {X : List Int} {w : World} (h : MapB b X w) : b < w.heap.size := by
  obtain ⟨D, h1, _⟩ := h
  exact h1.lt
theorem MapB.carry {b : Nat} {X : List Int} {w w' : World} (h : MapB b X w) (hb : w'.heap[b]? = w.heap[b]?) : MapB b X w' := by
  obtain ⟨D, ⟨es, clock, hm, r⟩, r2⟩ := h
  exact ⟨D, ⟨es, clock, hb.trans hm, r⟩, r2⟩
theorem MapB.put {b : Nat} {X : List Int} {w1 : World} {D : DataW Unit} {z : Int} (h2 : Maps.IsMap D) (h3 : ∀ z : Int, D.atKey (.int .i64 z) (.lit (.bool false)) = .lit (.bool (decide (z ∈ X))))
    (ho : w1.ownsMap Tryd.prog 3 (plainElem Tryd.prog 4) b (X.length + 1) (D.put (.int .i64 z) (.lit (.bool true)))) : MapB b (X ++ [z]) w1 := by
  have hk : WideAt.IsKeyLit (.int .i64 z) := by simp [WideAt.IsKeyLit]
  refine ⟨_, by simpa using ho, h2.put _ _, fun y => ?_⟩
  by_cases e : y = z
  · subst e; rw [atKey_put_same h2 hk]; simp
  · rw [atKey_put_other (fun h => e (by injection h)), h3]; simp [e]

def badV (hs : List Int) (ns : List T) : Bool := ns.any fun x => decide (x.head < 0) && !decide (x.head ∈ hs)
def heads (ns : List T) : List Int := ns.map T.head
def ruleF (l r : T) : Int := if (treeF l).1 ≠ 0 then (treeF l).1 else if (treeF r).1 ≠ 0 then (treeF r).1 else if l.head < 0 then 5 else if badV (heads l.pre) r.pre then 5 else 0
theorem ret_cell1 {P : Program} {fn : Func} {R : Ending → World → Prop} {a : Act} {w : World} (x : Value) (b : Nat) (T : TypeId) (hb : w.heap[b]? = some (.cells #[x] T (0, 0)))
    (hres : ∀ w' : World, w'.cell? ⟨b, 0, none⟩ = some x → (results fn a.tmps).run P w' = .ok x w') (hd : a.defers = [])
    (hR : R (.returned x) w) : bodyPost P fn R .ret a w := bodyPost_ret (hres w (box1 hb).1) hd hR

theorem retM_cell1 {n B : Nat} {P : Program} {fn : Func} {tmps : Array Value} {R : Ending → World → Prop} (ds : List Nat) {w : World} (x : Value) (b : Nat) (T : TypeId) (hb : w.heap[b]? = some (.cells #[x] T (0, 0))) (hm : Marks B w ds) (hB : B ≤ w.heap.size)
    (hres : ∀ w' : World, w'.cell? ⟨b, 0, none⟩ = some x → (results fn tmps).run P w' = .ok x w') (hR : ∀ w', Below B w w' → R (.returned x) w') :
    bodyPostM Fence.wide n P fn R .ret { tmps := tmps, defers := ds.map mark } w :=
  bodyM_marks hm hB (fun w' h1 h2 => ⟨x, hres w' (box1 ((h2 _ _ _ _ hb).trans hb)).1, hR w' h1⟩)
theorem KpN.grown {n₀ m₀ : Nat} {W W' : World} {b : Nat} (hg : W.grownBy W' (some b)) (h : n₀ ≤ b) (h2 : b < m₀) (h0 : n₀ ≤ W.heap.size) : KpN n₀ m₀ W W' :=
  ⟨(Below.refl n₀ W).grown hg h0 (fun c hc => by cases hc; exact h), fun c cur ty fz hc _ hx => hg.block c (Array.getElem?_eq_some_iff.1 hx).1 (fun e => by cases e; omega)⟩

theorem marks2 {B : Nat} {W : World} {D D2 : Nat} (h1 : B ≤ D) (h2 : W.heap[D]? = some (.deferred (some []))) (h3 : B ≤ D2) (h4 : W.heap[D2]? = some (.deferred (some []))) (h5 : D < D2) : Marks B W [D2, D] := by
  refine ⟨by simp; omega, fun b hb => ?_⟩
  simp at hb
  rcases hb with rfl | rfl
  · exact ⟨h3, h4⟩
  · exact ⟨h1, h2⟩
theorem ownFrom_mapB {β : Type} {f : β → List Int} (bm B : Nat) (hB : bm < B) : OwnFrom B (fun (s : β) V => MapB bm (f s) V) :=
  fun s X Y row hs hg hr => hs.carry (hg.block bm hs.lt (fun e => by have := (hr bm e.symm).1; omega))
theorem frame_size' {V W2 : World} {bn : Nat} (h : ∀ b, b < W2.heap.size → b ≠ bn → V.heap[b]? = W2.heap[b]?) (hlv : bn < V.heap.size) (hlw : bn < W2.heap.size) : W2.heap.size ≤ V.heap.size := by
  by_cases h0 : W2.heap.size ≤ V.heap.size
  · exact h0
  · have h2 := h V.heap.size (by omega) (by omega)
    rw [Array.getElem?_eq_getElem (show V.heap.size < W2.heap.size by omega)] at h2
    have := (Array.getElem?_eq_some_iff.1 h2).1
    omega

end Go.Proofs.YtidgnbdlfngeaaaDoor
