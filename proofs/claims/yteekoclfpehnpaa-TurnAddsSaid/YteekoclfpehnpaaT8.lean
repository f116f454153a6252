/-
  Trees with a footprint: p says in which blocks a tree's cells may lie. A store to a block outside p leaves the tree.
-/
import Derived.Test.YteekoclfpehnpaaProg
import Derived.Test.YteekoclfpehnpaaBase
import Derived.Test.YteekoclfpehnpaaT7
namespace Go.Proofs.Yteekoclfpehnpaa
open Go.RowKit Go.Shelf
set_option linter.unusedVariables false

inductive TreeP (p : Nat → Prop) (w : World) : Value → T → Prop
  | mk (h : Int) (ks : List T) (ao : Option Addr) (sp : Nat) (c0 c1 : Nat → Value) (hn : ks.length ≤ maxLen)
      (hc : ∀ i, i < ks.length → ∃ b off, ao = some ⟨b, off, none⟩ ∧ p b ∧ w.cell? ⟨b, off + i * 2, none⟩ = some (c0 i) ∧ w.cell? ⟨b, off + i * 2 + 1, none⟩ = some (c1 i))
      (ht : ∀ i, i < ks.length → TreeP p w (.agg #[c0 i, c1 i]) (gK ks i)) : TreeP p w (.agg #[.int .i64 h, .slice ao ks.length (ks.length + sp)]) (.node h ks)

theorem TreeP.at {p : Nat → Prop} {w : World} {v : Value} {t : T} (h : TreeP p w v t) : TreeAt w v t := by
  induction h with
  | mk h ks ao sp c0 c1 hn hc ht ih =>
    exact .mk h ks ao sp c0 c1 hn (fun i hi => by obtain ⟨b, off, e, _, h1, h2⟩ := hc i hi; exact ⟨b, off, e, h1, h2⟩) ih
theorem TreeAt.foot {w : World} {v : Value} {t : T} (h : TreeAt w v t) : TreeP (fun b => b < w.heap.size) w v t := by
  induction h with
  | mk h ks ao sp c0 c1 hn hc ht ih =>
    exact .mk h ks ao sp c0 c1 hn (fun i hi => by obtain ⟨b, off, e, h1, h2⟩ := hc i hi; exact ⟨b, off, e, block_lt_of_cell h1, h1, h2⟩) ih
theorem TreeP.mono {p q : Nat → Prop} {w : World} {v : Value} {t : T} (h : TreeP p w v t) (hpq : ∀ b, p b → b < w.heap.size → q b) : TreeP q w v t := by
  induction h with
  | mk h ks ao sp c0 c1 hn hc ht ih =>
    exact .mk h ks ao sp c0 c1 hn (fun i hi => by obtain ⟨b, off, e, hp, h1, h2⟩ := hc i hi; exact ⟨b, off, e, hpq b hp (block_lt_of_cell h1), h1, h2⟩) ih
/-- whatever leaves the footprint's blocks leaves the tree -/
theorem TreeP.carry {p : Nat → Prop} {w w' : World} {v : Value} {t : T} (hk : ∀ b, p b → b < w.heap.size → w'.heap[b]? = w.heap[b]?) (h : TreeP p w v t) : TreeP p w' v t := by
  induction h with
  | mk h ks ao sp c0 c1 hn hc ht ih =>
    exact .mk h ks ao sp c0 c1 hn (fun i hi => by
      obtain ⟨b, off, e, hp, h1, h2⟩ := hc i hi
      have hb := hk b hp (block_lt_of_cell h1)
      exact ⟨b, off, e, hp, by rw [World.cell?_of_block (w := w) hb]; exact h1, by rw [World.cell?_of_block (w := w) hb]; exact h2⟩) ih
theorem TreeP.kept {p : Nat → Prop} {w w' : World} (hb : Below w.heap.size w w') {v : Value} {t : T} (h : TreeP p w v t) : TreeP p w' v t := h.carry fun b _ hlt => hb.block b hlt
theorem TreeP.setCell {p : Nat → Prop} {w : World} {v : Value} {t : T} (h : TreeP p w v t) {a : Addr} (ha : ¬ p a.block) (u : Value) : TreeP p (w.setCell a u) v t :=
  h.carry fun b hp _ => Below.heap_setCell w a u b (fun e => ha (e ▸ hp))

/-- a row of trees with their footprint -/
def RowP (p : Nat → Prop) (w : World) (ao : Option Addr) (ks : List T) : Prop :=
  ∀ i, i < ks.length → ∃ b off k sp, ao = some ⟨b, off, none⟩ ∧ p b ∧ w.cell? ⟨b, off + i * 2, none⟩ = some (.int .i64 (gK ks i).head) ∧
    w.cell? ⟨b, off + i * 2 + 1, none⟩ = some (.slice k (gK ks i).kids.length ((gK ks i).kids.length + sp)) ∧
    TreeP p w (.agg #[.int .i64 (gK ks i).head, .slice k (gK ks i).kids.length ((gK ks i).kids.length + sp)]) (gK ks i)
theorem TreeP.open {p : Nat → Prop} {w : World} {v : Value} {t : T} (h : TreeP p w v t) : ∃ ao sp, v = .agg #[.int .i64 t.head, .slice ao t.kids.length (t.kids.length + sp)] ∧ RowP p w ao t.kids ∧ t.kids.length ≤ maxLen := by
  cases h with
  | mk h ks ao sp c0 c1 hn hc ht =>
    refine ⟨ao, sp, rfl, fun i hi => ?_, hn⟩
    obtain ⟨b, off, e, hp, h1, h2⟩ := hc i hi
    have h3 := ht i hi
    obtain ⟨k, sp', e'⟩ := h3.at.form
    have e0 : c0 i = .int .i64 (gK ks i).head ∧ c1 i = .slice k (gK ks i).kids.length ((gK ks i).kids.length + sp') := by simpa using e'
    rw [e0.1] at h1 h3; rw [e0.2] at h2 h3
    exact ⟨b, off, k, sp', e, hp, h1, h2, h3⟩
theorem TreeP.close {p : Nat → Prop} {w : World} {h : Int} {ks : List T} {ao : Option Addr} {sp : Nat} (hr : RowP p w ao ks) (hn : ks.length ≤ maxLen) : TreeP p w (.agg #[.int .i64 h, .slice ao ks.length (ks.length + sp)]) (.node h ks) := by
  have hr' : ∀ i, ∃ c0 c1, i < ks.length → (∃ b off, ao = some ⟨b, off, none⟩ ∧ p b ∧ w.cell? ⟨b, off + i * 2, none⟩ = some c0 ∧ w.cell? ⟨b, off + i * 2 + 1, none⟩ = some c1) ∧ TreeP p w (.agg #[c0, c1]) (gK ks i) := fun i => by
    by_cases hi : i < ks.length
    · obtain ⟨b, off, k, sp, e, hp, h1, h2, h3⟩ := hr i hi
      exact ⟨_, _, fun _ => ⟨⟨b, off, e, hp, h1, h2⟩, h3⟩⟩
    · exact ⟨default, default, fun h => absurd h hi⟩
  exact .mk h ks ao sp (fun i => Classical.choose (hr' i)) (fun i => Classical.choose (Classical.choose_spec (hr' i))) hn
    (fun i hi => (Classical.choose_spec (Classical.choose_spec (hr' i)) hi).1) (fun i hi => (Classical.choose_spec (Classical.choose_spec (hr' i)) hi).2)
end Go.Proofs.Yteekoclfpehnpaa
