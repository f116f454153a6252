/-
  Walks: tree.Vars.
-/
import Derived.Test.YtidgnbdlfngeaaaDoorProg
import Derived.Test.YtidgnbdlfngeaaaDoorBase
import Derived.Test.YtidgnbdlfngeaaaDoorXd
import Derived.Test.YtidgnbdlfngeaaaDoorT20
import Derived.Test.YtidgnbdlfngeaaaDoorT23
import Derived.Laws.OwnMore
namespace Go.Proofs.YtidgnbdlfngeaaaDoor
open Go.RowKit Go.Shelf
set_option linter.unusedVariables false
set_option maxHeartbeats 400000
attribute [local go_sem] Oper.semAt_some

/-- a row of integers of the call's own, place by place -/
def RowI (w : World) (base : Nat) (v : Value) (m : Nat) (p : Nat → Int) : Prop := w.ownsRow base 3 1 v m ((List.range m).map fun j => .int .i64 (p j))
def setI (p : Nat → Int) (j : Nat) (x : Int) : Nat → Int := fun i => if i = j then x else p i
theorem RowI.cell {w : World} {base g m cap : Nat} {p : Nat → Int} (h : RowI w base (.slice (some ⟨g, 0, none⟩) m cap) m p) {j : Nat} (hj : j < m) :
    w.cell? ⟨g, j, none⟩ = some (.int .i64 (p j)) ∧ w.frozen? ⟨g, j, none⟩ = false := by
  refine ⟨?_, h.frozenAt j⟩
  rw [h.cellAt j (by omega)]
  simp [hj]
theorem RowI.set {w : World} {base g m cap : Nat} {p : Nat → Int} (h : RowI w base (.slice (some ⟨g, 0, none⟩) m cap) m p) (j : Nat) (b : Int) :
    RowI (w.setCell ⟨g, j, none⟩ (.int .i64 b)) base (.slice (some ⟨g, 0, none⟩) m cap) m (setI p j b) := by
  have := (h.stored j (.int .i64 b)).1
  unfold RowI
  have e : ((List.range m).map fun i => Value.int .i64 (p i)).set j (.int .i64 b) = (List.range m).map fun i => Value.int .i64 (setI p j b i) := by
    apply List.ext_getElem (by simp)
    intro i h1 h2
    simp only [List.getElem_set, List.getElem_map, List.getElem_range, setI]
    by_cases hij : j = i
    · subst hij; simp
    · have : ¬ i = j := fun h => hij h.symm
      simp [hij, this]
  rw [e] at this
  exact this
theorem RowI.below {w w' : World} {base g m cap : Nat} {p : Nat → Int} (h : RowI w base (.slice (some ⟨g, 0, none⟩) m cap) m p) (hb : Below w.heap.size w w') :
    RowI w' base (.slice (some ⟨g, 0, none⟩) m cap) m p :=
  World.ownsRow.kept h (row := none) ⟨hb.os, hb.tape, hb.output, hb.size, fun k hk _ => hb.block k hk⟩ (.inr (by simp [Value.ownBlock]))
theorem RowI.lt {w : World} {base g m cap : Nat} {p : Nat → Int} (h : RowI w base (.slice (some ⟨g, 0, none⟩) m cap) m p) : base ≤ g ∧ g < w.heap.size := World.ownsRow.lt h g rfl
theorem RowI.congr {w : World} {base m : Nat} {v : Value} {p q : Nat → Int} (h : RowI w base v m p) (he : ∀ j, j < m → p j = q j) : RowI w base v m q := by
  unfold RowI at h ⊢
  rw [List.map_congr_left (g := fun j => Value.int .i64 (q j)) (fun j hj => by rw [he j (by simpa using hj)])] at h
  exact h
theorem RowI.block {w : World} {base g m cap : Nat} {p : Nat → Int} (h : RowI w base (.slice (some ⟨g, 0, none⟩) m cap) m p) : ∃ cur, w.heap[g]? = some (.cells cur 3 (0, 0)) := by
  rcases h.2 with ⟨h1, _⟩ | ⟨g', cap', cur, h1, _, h2, _⟩
  · cases h1
  · simp at h1; rw [h1.1]; exact ⟨cur, h2⟩
theorem RowI.own {β : Type} (base g m cap : Nat) (p : β → Nat → Int) : Own (fun s W => RowI W base (.slice (some ⟨g, 0, none⟩) m cap) m (p s)) := fun s A B row hs hg hr =>
  World.ownsRow.kept hs hg (.inr (fun e => by
    obtain ⟨o, ho, hc⟩ := hr g (by simpa [Value.ownBlock] using e.symm)
    obtain ⟨cur, h2⟩ := RowI.block hs
    rw [h2] at ho; cases ho; cases hc))
theorem RowI.ints {w : World} {base m : Nat} {v : Value} {p : Nat → Int} (h : RowI w base v m p) : IntsAt w v ((List.range m).map p) := by
  have e : (List.range m).map (fun j => Value.int .i64 (p j)) = ((List.range m).map p).map (Value.int .i64) := by rw [List.map_map]; rfl
  unfold RowI at h
  rw [e] at h
  exact IntsAt.ofOwn (base := base) (by simpa using h)

theorem head_le_most (t : T) : ∀ x ∈ t.pre, -x.head ≤ t.most := by
  intro x hx
  have h1 := maxV_pre t 0 (by omega)
  have key : ∀ (l : List T) (m : Int), ∀ x ∈ l, -x.head ≤ maxV l m := by
    intro l
    induction l with
    | nil => intro m x hx; cases hx
    | cons y r ih =>
      intro m x hx
      rw [maxV]
      rcases List.mem_cons.1 hx with rfl | hx
      · have := maxV_le r (max m (-x.head)); omega
      · exact ih _ x hx
  have h2 := key t.pre 0 x hx
  have := t.most_nonneg
  omega
theorem most_le (t : T) (h : ∀ x ∈ t.pre, okN x) : t.most ≤ 8 := by
  have h1 := maxV_pre t 0 (by omega)
  have key : ∀ (l : List T) (m : Int), m ≤ 8 → (∀ x ∈ l, okN x) → maxV l m ≤ 8 := by
    intro l
    induction l with
    | nil => intro m hm _; exact hm
    | cons y r ih =>
      intro m hm hx
      rw [maxV]
      have := (hx y (by simp)).1
      exact ih _ (by simp only [badHead] at this; omega) (fun x h => hx x (by simp [h]))
  have h2 := key t.pre 0 (by omega) h
  have := t.most_nonneg
  omega

def countsOf (t : T) : List Int := (List.range t.most.toNat).map fun (k : Nat) => ((t.times (-(k : Int) - 1) : Nat) : Int)
def varsF (t : T) : List Int := if (treeF t).1 = 0 then countsOf t else []
def VarsPost (t : T) (w : World) (e : Ending) (w' : World) : Prop := ∃ v, e = .returned (.tuple #[v, FV (treeF t)]) ∧ IntsAt w' v (varsF t) ∧ Below w.heap.size w w'

end Go.Proofs.YtidgnbdlfngeaaaDoor
