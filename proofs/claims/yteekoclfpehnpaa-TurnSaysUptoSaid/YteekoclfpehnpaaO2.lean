/-
  How rows of rules as arguments read: their trees are not larger than the reading's bulk.
-/
import Derived.Test.YteekoclfpehnpaaRows
import Derived.Test.YteekoclfpehnpaaO1
import Derived.Test.YteekoclfpehnpaaR2
namespace Go.Proofs.Yteekoclfpehnpaa
open Go.ChangeShapes Go.WideShapes Go.ChangeAt Go.RowKit
set_option linter.unusedVariables false

section
variable {H : Type} {enc : TypeId × Value → H} {W : World} {held : Bool}
def muR (f : Ru) : Nat := f.1.size + f.2.size + 1
instance : Inhabited Ru := ⟨⟨.node 0 [], .node 0 []⟩⟩
set_option maxRecDepth 100000 in
theorem rule_of (n : Nat) (cs : List Value) (x : DataW H × List MemPlace) (h : DataW.trod enc Try.prog W 0 (fun _ => true) held n 86 cs = some x) : EltOf ruleE muR W cs x.1 := by
  have hc86 : Try.prog.cellsOf 86 = 4 := by kernel_rfl
  have hc44 : Try.prog.cellsOf 44 = 2 := by kernel_rfl
  obtain ⟨xs, m, hm, rfl, hl, hxl, hf⟩ := DataW.trod_struct Try.underlying86 h
  rw [hc86] at hl
  match cs, hl, xs, hxl with
  | [c1, c2, c3, c4], _, [y1, y2], _ =>
    have z1 : DataW.trod enc Try.prog W 0 (fun _ => true) held m 44 ([c1, c2, c3, c4].take (Try.prog.cellsOf 44)) = some y1 := hf 0 _ rfl
    have z2 : DataW.trod enc Try.prog W 0 (fun _ => true) held m 44 ([c3, c4].take (Try.prog.cellsOf 44)) = some y2 := hf 1 _ rfl
    rw [hc44] at z1 z2
    obtain ⟨t1, g1, s1⟩ := tree_of m _ _ z1
    obtain ⟨t2, g2, s2⟩ := tree_of m _ _ z2
    obtain ⟨k1, p1, e1⟩ := g1.form
    obtain ⟨k2, p2, e2⟩ := g2.form
    have e1' : c1 = .int .i64 t1.head ∧ c2 = .slice k1 t1.kids.length (t1.kids.length + p1) := by simpa using e1
    have e2' : c3 = .int .i64 t2.head ∧ c4 = .slice k2 t2.kids.length (t2.kids.length + p2) := by simpa using e2
    rw [e1] at g1; rw [e2] at g2
    refine ⟨⟨t1, t2⟩, ⟨k1, p1, k2, p2, by rw [e1'.1, e1'.2, e2'.1, e2'.2], g1.foot, g2.foot⟩, ?_⟩
    simp only [muR, List.map_cons, List.map_nil, Rows.uptoBulk, Rows.uptoBulkAll]; omega
theorem rules_arg {d : DataW H} {pl : List MemPlace} {ao : Option Addr} {len cap : Nat} (h : DataW.Trod enc Try.prog W 0 (fun _ => true) held 69 (.slice ao len cap) d pl) :
    ∃ rs, len = rs.length ∧ ruleE.Row (fun b => b < W.heap.size) W ao rs ∧ sumE muR rs + 1 ≤ Rows.uptoBulk d := by
  obtain ⟨fuel, hf⟩ := h
  obtain ⟨ao', cap', rs, e, _, _, hr, hs⟩ := rowE_of ruleE muR Try.underlying69 (by kernel_rfl) hf (fun n _ cs x h => rule_of n cs x h)
  simp [Value.cells] at e
  obtain ⟨rfl, rfl, rfl⟩ := e
  exact ⟨rs, rfl, hr, hs⟩
theorem rules_size {rs : List Ru} {i : Nat} {f : Ru} (h : rs[i]? = some f) : f.1.size ≤ sumE muR rs ∧ f.2.size ≤ sumE muR rs := by
  have h1 : muR f ≤ sumE muR rs := sumE_le h
  have h2 : muR f = f.1.size + f.2.size + 1 := rfl
  constructor <;> omega
theorem rules_length : ∀ rs : List Ru, 3 * rs.length ≤ sumE muR rs
  | [] => by simp [sumE]
  | f :: r => by have h1 := f.1.size_pos; have h2 := f.2.size_pos; have h3 := rules_length r; simp only [sumE, muR, List.length_cons]; omega
end
end Go.Proofs.Yteekoclfpehnpaa
