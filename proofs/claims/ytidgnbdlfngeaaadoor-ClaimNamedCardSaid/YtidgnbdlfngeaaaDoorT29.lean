/-
  A row of trees that the call itself has made (make(api.Bind, n)), written place by place.
-/
import Derived.Test.YtidgnbdlfngeaaaDoorProg
import Derived.Test.YtidgnbdlfngeaaaDoorBase
import Derived.Test.YtidgnbdlfngeaaaDoorT24
namespace Go.Proofs.YtidgnbdlfngeaaaDoor
open Go.RowKit Go.Shelf
set_option linter.unusedVariables false
set_option maxHeartbeats 400000

def RowSet (p : Nat → Prop) (B : Nat) (w : World) (g n : Nat) (ks : Nat → T) : Prop :=
  ∃ cs : List Value, w.ownsRow B 45 2 (.slice (some ⟨g, 0, none⟩) n n) n cs ∧ ∀ i, i < n → ∃ k sp, cs[i * 2]? = some (.int .i64 (ks i).head) ∧ cs[i * 2 + 1]? = some (.slice k (ks i).kids.length ((ks i).kids.length + sp)) ∧
    TreeP (fun b => p b ∧ b ≠ g) w (.agg #[.int .i64 (ks i).head, .slice k (ks i).kids.length ((ks i).kids.length + sp)]) (ks i)
theorem RowSet.lt {p : Nat → Prop} {B : Nat} {w : World} {g n : Nat} {ks : Nat → T} (h : RowSet p B w g n ks) : B ≤ g ∧ g < w.heap.size := by
  obtain ⟨cs, h1, _⟩ := h; exact World.ownsRow.lt h1 g rfl
theorem RowSet.get {p : Nat → Prop} {B : Nat} {w : World} {g n : Nat} {ks : Nat → T} (h : RowSet p B w g n ks) {i : Nat} (hi : i < n) :
    ∃ k sp, w.cell? ⟨g, i * 2, none⟩ = some (.int .i64 (ks i).head) ∧ w.cell? ⟨g, i * 2 + 1, none⟩ = some (.slice k (ks i).kids.length ((ks i).kids.length + sp)) ∧
      w.frozen? ⟨g, i * 2, none⟩ = false ∧ w.frozen? ⟨g, i * 2 + 1, none⟩ = false ∧
      TreeP (fun b => p b ∧ b ≠ g) w (.agg #[.int .i64 (ks i).head, .slice k (ks i).kids.length ((ks i).kids.length + sp)]) (ks i) := by
  obtain ⟨cs, h1, h2⟩ := h
  obtain ⟨k, sp, e1, e2, e3⟩ := h2 i hi
  refine ⟨k, sp, ?_, ?_, h1.frozenAt _, h1.frozenAt _, e3⟩
  · rw [h1.cellAt _ (by omega)]; exact e1
  · rw [h1.cellAt _ (by omega)]; exact e2
theorem RowSet.below {p : Nat → Prop} {B : Nat} {w w' : World} {g n : Nat} {ks : Nat → T} (h : RowSet p B w g n ks) (hb : Below w.heap.size w w') : RowSet p B w' g n ks := by
  obtain ⟨cs, h1, h2⟩ := h
  refine ⟨cs, own_below h1 hb, fun i hi => ?_⟩
  obtain ⟨k, sp, e1, e2, e3⟩ := h2 i hi
  exact ⟨k, sp, e1, e2, e3.kept hb⟩
theorem RowSet.other {p : Nat → Prop} {B : Nat} {w : World} {g n : Nat} {ks : Nat → T} (h : RowSet p B w g n ks) {a : Addr} (hg : a.block ≠ g) (hp : ¬ p a.block) (u : Value) : RowSet p B (w.setCell a u) g n ks := by
  obtain ⟨cs, h1, h2⟩ := h
  refine ⟨cs, ownsRow_setCell_other h1 (by simp [Value.ownBlock]; exact fun e => hg e.symm) u, fun i hi => ?_⟩
  obtain ⟨k, sp, e1, e2, e3⟩ := h2 i hi
  exact ⟨k, sp, e1, e2, e3.setCell (fun h => hp h.1) u⟩
def setT (ks : Nat → T) (j : Nat) (t : T) : Nat → T := fun i => if i = j then t else ks i
theorem RowSet.set {p : Nat → Prop} {B : Nat} {w : World} {g n : Nat} {ks : Nat → T} (h : RowSet p B w g n ks) {j : Nat} (hj : j < n) {t : T} {k : Option Addr} {sp : Nat}
    (ht : TreeP (fun b => p b ∧ b ≠ g) w (.agg #[.int .i64 t.head, .slice k t.kids.length (t.kids.length + sp)]) t) :
    RowSet p B ((w.setCell ⟨g, j * 2, none⟩ (.int .i64 t.head)).setCell ⟨g, j * 2 + 1, none⟩ (.slice k t.kids.length (t.kids.length + sp))) g n (setT ks j t) := by
  obtain ⟨cs, h1, h2⟩ := h
  have hcl : cs.length = n * 2 := h1.1
  refine ⟨(cs.set (j * 2) (.int .i64 t.head)).set (j * 2 + 1) (.slice k t.kids.length (t.kids.length + sp)), ((h1.stored (j * 2) _).1.stored (j * 2 + 1) _).1, fun i hi => ?_⟩
  by_cases e : i = j
  · subst e
    refine ⟨k, sp, ?_, ?_, ?_⟩
    · simp only [setT, if_pos]
      rw [List.getElem?_set_ne (by omega), List.getElem?_set_self (by omega)]
    · simp only [setT, if_pos]
      rw [List.getElem?_set_self (by simp; omega)]
    · simp only [setT, if_pos]
      exact (ht.setCell (a := ⟨g, i * 2, none⟩) (fun h => h.2 rfl) _).setCell (a := ⟨g, i * 2 + 1, none⟩) (fun h => h.2 rfl) _
  · obtain ⟨k', sp', e1, e2, e3⟩ := h2 i hi
    simp only [setT, if_neg e]
    refine ⟨k', sp', ?_, ?_, (e3.setCell (a := ⟨g, j * 2, none⟩) (fun h => h.2 rfl) _).setCell (a := ⟨g, j * 2 + 1, none⟩) (fun h => h.2 rfl) _⟩
    · rw [List.getElem?_set_ne (by omega), List.getElem?_set_ne (by omega)]; exact e1
    · rw [List.getElem?_set_ne (by omega), List.getElem?_set_ne (by omega)]; exact e2
theorem RowSet.congr {p : Nat → Prop} {B : Nat} {w : World} {g n : Nat} {ks ls : Nat → T} (h : RowSet p B w g n ks) (he : ∀ i, i < n → ks i = ls i) : RowSet p B w g n ls := by
  obtain ⟨cs, h1, h2⟩ := h
  refine ⟨cs, h1, fun i hi => ?_⟩
  rw [← he i hi]; exact h2 i hi
theorem RowSet.mono {p q : Nat → Prop} {B : Nat} {w : World} {g n : Nat} {ks : Nat → T} (h : RowSet p B w g n ks) (hpq : ∀ b, p b → b < w.heap.size → q b) : RowSet q B w g n ks := by
  obtain ⟨cs, h1, h2⟩ := h
  refine ⟨cs, h1, fun i hi => ?_⟩
  obtain ⟨k, sp, e1, e2, e3⟩ := h2 i hi
  exact ⟨k, sp, e1, e2, e3.mono (fun b h h2 => ⟨hpq b h.1 h2, h.2⟩)⟩
def listT (n : Nat) (ks : Nat → T) : List T := (List.range n).map ks
theorem listT_length (n : Nat) (ks : Nat → T) : (listT n ks).length = n := by simp [listT]
theorem listT_gK {n : Nat} {ks : Nat → T} {i : Nat} (hi : i < n) : gK (listT n ks) i = ks i := by simp [listT, gK, hi]
theorem RowSet.row {p : Nat → Prop} {B : Nat} {w : World} {g n : Nat} {ks : Nat → T} (h : RowSet p B w g n ks) : RowP (fun b => (p b ∧ b ≠ g) ∨ b = g) w (some ⟨g, 0, none⟩) (listT n ks) := fun i hi => by
  rw [listT_length] at hi
  obtain ⟨k, sp, e1, e2, _, _, e3⟩ := h.get hi
  rw [listT_gK hi]
  exact ⟨g, 0, k, sp, rfl, .inr rfl, by simpa using e1, by simpa using e2, e3.mono (fun b h _ => .inl h)⟩
theorem RowSet.made {w w' : World} {g n : Nat} {B : Nat} (h : w'.ownsRow B 45 2 (.slice (some ⟨g, 0, none⟩) n n) n (madeCells (Value.agg #[.int .i64 0, .slice none 0 0]).cells (n * 2)).toList) (p : Nat → Prop) : RowSet p B w' g n (fun _ => zeroT) := by
  have e0 : (i0 : Nat) → i0 < n * 2 → (madeCells (Value.agg #[.int .i64 0, .slice none 0 0]).cells (n * 2)).toList[i0]? = some (#[Value.int .i64 0, .slice none 0 0][i0 % 2]!) := by
    intro i0 hi0
    have hz : (Value.agg #[.int .i64 0, .slice none 0 0]).cells = #[Value.int .i64 0, .slice none 0 0] := by rfl
    rw [hz]
    simp [madeCells, hi0]
  refine ⟨_, h, fun i hi => ⟨none, 0, ?_, ?_, TreeP.zero _ _⟩⟩
  · rw [e0 _ (by omega), Nat.mul_mod_left]; rfl
  · rw [e0 _ (by omega), show (i * 2 + 1) % 2 = 1 by omega]; rfl
end Go.Proofs.YtidgnbdlfngeaaaDoor
