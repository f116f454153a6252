/-
  Walks: tree.Max.
-/
import Derived.Test.YtidgnbdlfngeaaaGreatDoorProg
import Derived.Test.YtidgnbdlfngeaaaGreatDoorBase
import Derived.Test.YtidgnbdlfngeaaaGreatDoorXd
namespace Go.Proofs.YtidgnbdlfngeaaaGreatDoor
open Go.RowKit Go.Shelf
set_option linter.unusedVariables false
set_option maxHeartbeats 400000
attribute [local go_sem] Oper.semAt_some

def mark (D : Nat) : Deferred := { target := .collected D, args := #[] }
def Marks (B : Nat) (W : World) (ds : List Nat) : Prop := ds.Nodup ∧ ∀ D ∈ ds, B ≤ D ∧ W.heap[D]? = some (.deferred (some []))
theorem Marks.nil (B : Nat) (W : World) : Marks B W [] := ⟨List.nodup_nil, fun D h => by cases h⟩
theorem Marks.kept {B : Nat} {W W' : World} {ds : List Nat} (h : Marks B W ds) (hk : ∀ (D : Nat), W.heap[D]? = some (Obj.deferred (some [])) → W'.heap[D]? = W.heap[D]?) : Marks B W' ds :=
  ⟨h.1, fun D hD => ⟨(h.2 D hD).1, (hk D (h.2 D hD).2).trans (h.2 D hD).2⟩⟩
theorem Marks.cons {B : Nat} {W W' : World} {ds : List Nat} {D : Nat} (h : Marks B W ds) (hk : ∀ (b : Nat), b < W.heap.size → W.heap[b]? = some (Obj.deferred (some [])) → W'.heap[b]? = W.heap[b]?) (hD : W'.heap[D]? = some (.deferred (some []))) (hB : B ≤ D) (hn : W.heap.size ≤ D) : Marks B W' (D :: ds) := by
  have h' : Marks B W' ds := h.kept fun b hb => hk b (Array.getElem?_eq_some_iff.1 hb).1 hb
  refine ⟨List.nodup_cons.2 ⟨fun hm => ?_, h'.1⟩, fun b hb => ?_⟩
  · have := (Array.getElem?_eq_some_iff.1 (h.2 D hm).2).1; omega
  · rcases List.mem_cons.1 hb with rfl | hb
    · exact ⟨hB, hD⟩
    · exact h'.2 b hb
/-- the marks are taken up: what is no mark lies as it lay -/
theorem leaves_marks {n B : Nat} {P : Program} {fn : Func} {tmps : Array Value} {R : Ending → World → Prop} : ∀ (ds : List Nat) (w : World), Marks B w ds →
    (∀ w', Below B w w' → (∀ (b : Nat) (cs : Array Value) (ty : TypeId) (fz : Nat × Nat), w.heap[b]? = some (Obj.cells cs ty fz) → w'.heap[b]? = w.heap[b]?) → ∃ v, (results fn tmps).run P w' = .ok v w' ∧ R (.returned v) w') → B ≤ w.heap.size →
    LeavesInM Fence.wide n P fn tmps R (ds.map mark) .returning w
  | [], w, _, H, _ => H w (Below.refl _ _) (fun _ _ _ _ _ => rfl)
  | D :: ds, w, hm, H, hB => by
    have hD := hm.2 D (by simp)
    have hn := List.nodup_cons.1 hm.1
    refine ⟨by simp, .inl ⟨D, w.putObj D (.deferred none), rfl, run_takeDeferred hD.2, ?_⟩⟩
    have hbD : Below B w (w.putObj D (.deferred none)) := (Below.refl B w).grown (grownBy_putObj' w D _) hB (fun k e => by cases e; exact hD.1)
    refine leaves_marks ds _ ⟨hn.2, fun b hb => ⟨(hm.2 b (by simp [hb])).1, (World.putObj_heap_other (fun e => hn.1 (by rw [← e]; exact hb))).trans (hm.2 b (by simp [hb])).2⟩⟩ ?_ (by simpa using hB)
    intro w' hb' hk'
    refine H w' (hbD.trans hb') fun b cs ty fz hb => ?_
    have hne : b ≠ D := fun e => by subst e; rw [hD.2] at hb; cases hb
    have e1 : (w.putObj D (.deferred none)).heap[b]? = w.heap[b]? := World.putObj_heap_other hne
    exact (hk' b cs ty fz (e1.trans hb)).trans e1
theorem bodyM_marks {n B : Nat} {P : Program} {fn : Func} {tmps : Array Value} {R : Ending → World → Prop} {ds : List Nat} {w : World} (hm : Marks B w ds) (hB : B ≤ w.heap.size)
    (H : ∀ w', Below B w w' → (∀ (b : Nat) (cs : Array Value) (ty : TypeId) (fz : Nat × Nat), w.heap[b]? = some (Obj.cells cs ty fz) → w'.heap[b]? = w.heap[b]?) → ∃ v, (results fn tmps).run P w' = .ok v w' ∧ R (.returned v) w') :
    bodyPostM Fence.wide n P fn R .ret { tmps := tmps, defers := ds.map mark } w := leaves_marks ds w hm H hB

theorem ownFrom_frame {β : Type} (W2 : World) (bn B : Nat) (hB : W2.heap.size ≤ B) : OwnFrom B (fun (_ : β) V => ∀ b, b < W2.heap.size → b ≠ bn → V.heap[b]? = W2.heap[b]?) :=
  fun _ X Y row hs hg hr b h1 h2 => by
    have hX := hs b h1 h2
    have hlt : b < X.heap.size := by
      rw [Array.getElem?_eq_getElem h1] at hX
      exact (Array.getElem?_eq_some_iff.1 hX).1
    exact (hg.block b hlt (fun e => by have := (hr b e.symm).1; omega)).trans hX
theorem frame_size {V W2 : World} {bn : Nat} {o : Obj} (h : ∀ b, b < W2.heap.size → b ≠ bn → V.heap[b]? = W2.heap[b]?) (hb : W2.heap[bn]? = some o) (hlv : bn < V.heap.size) : W2.heap.size ≤ V.heap.size := by
  by_cases h0 : W2.heap.size ≤ V.heap.size
  · exact h0
  · have h1 : V.heap.size < W2.heap.size := by omega
    have h2 := h V.heap.size h1 (by omega)
    rw [Array.getElem?_eq_getElem h1] at h2
    have := (Array.getElem?_eq_some_iff.1 h2).1
    omega

end Go.Proofs.YtidgnbdlfngeaaaGreatDoor
