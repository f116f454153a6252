/-
  How steps of a derivation as arguments read.
-/
import Derived.Test.YtlhnfdjidjgfgaaKe
import Derived.Test.YtlhnfdjidjgfgaaXo
namespace Go.Proofs.Ytlhnfdjidjgfgaa
open Go.ChangeShapes Go.WideShapes Go.ChangeAt Go.RowKit
set_option linter.unusedVariables false

section
variable {H : Type} {enc : TypeId × Value → H} {W : World} {held : Bool}
theorem trod_cap {t e : TypeId} {fuel : Nat} {ao : Option Addr} {len cap : Nat} {x : DataW H × List MemPlace} (ht : Try.prog.underlying t = some (.slice e)) (h : DataW.trod enc Try.prog W 0 (fun _ => true) held fuel t [.slice ao len cap] = some x) : cap ≤ maxLen := by
  rcases DataW.trod_slice ht h with ⟨e, _⟩ | ⟨a, l2, c2, elems, rest, n, hn, e, rfl, hb, hl, hm, _⟩
  · simp at e; omega
  · simp at e; omega
def muG (g : Gt) : Nat := sumE T.size g.bs + 1
theorem treeE_of (n : Nat) (cs : List Value) (x : DataW H × List MemPlace) (h : DataW.trod enc Try.prog W 0 (fun _ => true) held n 38 cs = some x) : EltOf treeE T.size W cs x.1 := by
  obtain ⟨t, h1, h2⟩ := tree_of n cs x h
  obtain ⟨k, sp, e⟩ := h1.form
  rw [e] at h1
  exact ⟨t, ⟨k, sp, by simpa using e, h1.foot⟩, h2⟩
set_option maxRecDepth 100000 in
theorem got_of (n : Nat) (cs : List Value) (x : DataW H × List MemPlace) (h : DataW.trod enc Try.prog W 0 (fun _ => true) held n 35 cs = some x) : EltOf gotE muG W cs x.1 := by
  have hc35 : Try.prog.cellsOf 35 = 8 := by kernel_rfl
  have hc3 : Try.prog.cellsOf 3 = 1 := by kernel_rfl
  have hc4 : Try.prog.cellsOf 4 = 1 := by kernel_rfl
  have hc22 : Try.prog.cellsOf 22 = 1 := by kernel_rfl
  have hc33 : Try.prog.cellsOf 33 = 1 := by kernel_rfl
  obtain ⟨xs, m, hm, rfl, hl, hxl, hf⟩ := DataW.trod_struct Try.underlying35 h
  rw [hc35] at hl
  match cs, hl, xs, hxl with
  | [c0, c1, c2, c3, c4, c5, c6, c7], _, [y0, y1, y2, y3, y4, y5, y6, y7], _ =>
    have z0 : DataW.trod enc Try.prog W 0 (fun _ => true) held m 3 ([c0, c1, c2, c3, c4, c5, c6, c7].take (Try.prog.cellsOf 3)) = some y0 := hf 0 _ rfl
    have z1 : DataW.trod enc Try.prog W 0 (fun _ => true) held m 3 ([c1, c2, c3, c4, c5, c6, c7].take (Try.prog.cellsOf 3)) = some y1 := hf 1 _ rfl
    have z2 : DataW.trod enc Try.prog W 0 (fun _ => true) held m 3 ([c2, c3, c4, c5, c6, c7].take (Try.prog.cellsOf 3)) = some y2 := hf 2 _ rfl
    have z3 : DataW.trod enc Try.prog W 0 (fun _ => true) held m 3 ([c3, c4, c5, c6, c7].take (Try.prog.cellsOf 3)) = some y3 := hf 3 _ rfl
    have z4 : DataW.trod enc Try.prog W 0 (fun _ => true) held m 3 ([c4, c5, c6, c7].take (Try.prog.cellsOf 3)) = some y4 := hf 4 _ rfl
    have z5 : DataW.trod enc Try.prog W 0 (fun _ => true) held m 4 ([c5, c6, c7].take (Try.prog.cellsOf 4)) = some y5 := hf 5 _ rfl
    have z6 : DataW.trod enc Try.prog W 0 (fun _ => true) held m 22 ([c6, c7].take (Try.prog.cellsOf 22)) = some y6 := hf 6 _ rfl
    have z7 : DataW.trod enc Try.prog W 0 (fun _ => true) held m 33 ([c7].take (Try.prog.cellsOf 33)) = some y7 := hf 7 _ rfl
    rw [hc3] at z0 z1 z2 z3 z4; rw [hc4] at z5; rw [hc22] at z6; rw [hc33] at z7
    obtain ⟨i0, e0, _⟩ := DataW.trod_int Try.underlying3 z0
    obtain ⟨i1, e1, _⟩ := DataW.trod_int Try.underlying3 z1
    obtain ⟨i2, e2, _⟩ := DataW.trod_int Try.underlying3 z2
    obtain ⟨i3, e3, _⟩ := DataW.trod_int Try.underlying3 z3
    obtain ⟨i4, e4, _⟩ := DataW.trod_int Try.underlying3 z4
    obtain ⟨b5, e5, _⟩ := DataW.trod_bool Try.underlying4 z5
    obtain ⟨po, pcap, pl, e6, hlc6, hml6, hr6, _⟩ := rowE_of intE (fun _ => 0) Try.underlying22 (by kernel_rfl) z6 (fun n _ cs x h => int_of n cs x h)
    obtain ⟨bo, bcap, bs, e7, hlc7, hml7, hr7, hs7⟩ := rowE_of treeE T.size Try.underlying33 (by kernel_rfl) z7 (fun n _ cs x h => treeE_of n cs x h)
    rw [e6] at z6; rw [e7] at z7
    have hc6 := trod_cap Try.underlying22 z6
    have hc7 := trod_cap Try.underlying33 z7
    simp at e0 e1 e2 e3 e4 e5 e6 e7
    subst e0 e1 e2 e3 e4 e5 e6 e7
    obtain ⟨pc, rfl⟩ : ∃ pc, pcap = pl.length + pc := ⟨pcap - pl.length, by omega⟩
    obtain ⟨bc, rfl⟩ : ∃ bc, bcap = bs.length + bc := ⟨bcap - bs.length, by omega⟩
    refine ⟨⟨i0, i1, i2, i3, i4, b5, pl, bs⟩, ⟨po, pc, bo, bc, rfl, hr6, hr7, hc6, hc7⟩, ?_⟩
    simp only [muG, List.map_cons, List.map_nil, Rows.uptoBulk, Rows.uptoBulkAll]; omega
theorem gots_arg {d : DataW H} {pl : List MemPlace} {ao : Option Addr} {len cap : Nat} (h : DataW.Trod enc Try.prog W 0 (fun _ => true) held 26 (.slice ao len cap) d pl) : ∃ xs, len = xs.length ∧ len ≤ cap ∧ cap ≤ maxLen ∧ gotE.Row (fun b => b < W.heap.size) W ao xs ∧ sumE muG xs + 1 ≤ Rows.uptoBulk d := by
  obtain ⟨fuel, hf⟩ := h
  obtain ⟨ao', cap', xs, e, hlc, hm, hr, hb⟩ := rowE_of gotE muG Try.underlying26 (by kernel_rfl) hf (fun n _ cs x h => got_of n cs x h)
  have hf2 : DataW.trod enc Try.prog W 0 (fun _ => true) held fuel 26 [.slice ao len cap] = some (d, pl) := hf
  have hcap := trod_cap Try.underlying26 hf2
  simp [Value.cells] at e
  obtain ⟨rfl, rfl, rfl⟩ := e
  exact ⟨xs, rfl, hlc, hcap, hr, hb⟩
end
end Go.Proofs.Ytlhnfdjidjgfgaa
