/-
  How lores and tables as arguments read.
-/
import Derived.Test.YteekoclfpehnpaaRows
import Derived.Test.YteekoclfpehnpaaO1
import Derived.Test.YteekoclfpehnpaaV1
namespace Go.Proofs.Yteekoclfpehnpaa
open Go.ChangeShapes Go.WideShapes Go.ChangeAt Go.RowKit
set_option linter.unusedVariables false

section
variable {H : Type} {enc : TypeId × Value → H} {W : World} {held : Bool}
set_option maxRecDepth 100000 in
theorem int_of (n : Nat) (cs : List Value) (x : DataW H × List MemPlace) (h : DataW.trod enc Try.prog W 0 (fun _ => true) held n 3 cs = some x) : EltOf intE (fun _ => 0) W cs x.1 := by
  obtain ⟨a, e, _⟩ := DataW.trod_int Try.underlying3 h
  exact ⟨a, e, Nat.zero_le _⟩
set_option maxRecDepth 100000 in
theorem ints_of (n : Nat) (cs : List Value) (x : DataW H × List MemPlace) (h : DataW.trod enc Try.prog W 0 (fun _ => true) held n 27 cs = some x) : EltOf intsE (fun _ => 0) W cs x.1 := by
  obtain ⟨ao, cap, xs, e, hlc, hml, hr, _⟩ := rowE_of intE (fun _ => 0) Try.underlying27 (by kernel_rfl) h (fun n _ cs x h => int_of n cs x h)
  obtain ⟨sp, rfl⟩ : ∃ sp, cap = xs.length + sp := ⟨cap - xs.length, by omega⟩
  exact ⟨xs, ⟨ao, sp, e, hr, hml⟩, Nat.zero_le _⟩
set_option maxRecDepth 100000 in
theorem lore_arg {v : Value} {d : DataW H} {pl : List MemPlace} (hv : ∃ cs, v = .agg cs ∧ cs.size = Try.prog.cellsOf 29) (h : DataW.Trod enc Try.prog W 0 (fun _ => true) held 29 v d pl) :
    ∃ ao ar ca co cs cp, v = .agg #[.slice ao ar.length ca, .slice co cs.length (cs.length + cp)] ∧ intE.Row (fun b => b < W.heap.size) W ao ar ∧ claimE.Row (fun b => b < W.heap.size) W co cs ∧ ar.length ≤ maxLen ∧ cs.length ≤ maxLen ∧ sumE muC cs + 1 ≤ Rows.uptoBulk d := by
  obtain ⟨fuel, hf⟩ := h
  obtain ⟨vs, rfl, hsz⟩ := hv
  have hc29 : Try.prog.cellsOf 29 = 2 := by kernel_rfl
  have hc27 : Try.prog.cellsOf 27 = 1 := by kernel_rfl
  have hc26 : Try.prog.cellsOf 26 = 1 := by kernel_rfl
  obtain ⟨xs, m, hm, hx, hl, hxl, hff⟩ := DataW.trod_struct Try.underlying29 hf
  simp only [Prod.mk.injEq] at hx
  obtain ⟨rfl, rfl⟩ := hx
  rw [hc29] at hl
  obtain ⟨c0, c1, hcs⟩ : ∃ c0 c1, vs = #[c0, c1] := by
    have h2 : vs.size = 2 := by rw [hsz, hc29]
    exact ⟨vs[0], vs[1], by apply Array.ext (by simp [h2]); intro i h3 h4; rcases (show i = 0 ∨ i = 1 by omega) with rfl | rfl <;> rfl⟩
  subst hcs
  match xs, hxl with
  | [y0, y1], _ =>
    have z0 : DataW.trod enc Try.prog W 0 (fun _ => true) held m 27 ([c0, c1].take (Try.prog.cellsOf 27)) = some y0 := hff 0 _ rfl
    have z1 : DataW.trod enc Try.prog W 0 (fun _ => true) held m 26 ([c1].take (Try.prog.cellsOf 26)) = some y1 := hff 1 _ rfl
    rw [hc27] at z0; rw [hc26] at z1
    obtain ⟨ao, ca, ar, e0, _, hml0, hr0, _⟩ := rowE_of intE (fun _ => 0) Try.underlying27 (by kernel_rfl) z0 (fun n _ cs x h => int_of n cs x h)
    obtain ⟨co, cc, cs, e1, hlc, hml1, hr1, hs1⟩ := rowE_of claimE muC Try.underlying26 (by kernel_rfl) z1 (fun n _ cs x h => claim_of n cs x h)
    simp at e0 e1
    subst e0 e1
    obtain ⟨cp, rfl⟩ : ∃ cp, cc = cs.length + cp := ⟨cc - cs.length, by omega⟩
    exact ⟨ao, ar, ca, co, cs, cp, rfl, hr0, hr1, hml0, hml1, by simp only [List.map_cons, List.map_nil, Rows.uptoBulk, Rows.uptoBulkAll]; omega⟩
set_option maxRecDepth 100000 in
theorem table_arg {v : Value} {d : DataW H} {pl : List MemPlace} (hv : ∃ cs, v = .agg cs ∧ cs.size = Try.prog.cellsOf 41) (h : DataW.Trod enc Try.prog W 0 (fun _ => true) held 41 v d pl) :
    ∃ sz to_ tb ct, v = .agg #[.int .i64 sz, .slice to_ tb.length (tb.length + ct)] ∧ intsE.Row (fun b => b < W.heap.size) W to_ tb ∧ tb.length ≤ maxLen := by
  obtain ⟨fuel, hf⟩ := h
  obtain ⟨vs, rfl, hsz⟩ := hv
  have hc41 : Try.prog.cellsOf 41 = 2 := by kernel_rfl
  have hc3 : Try.prog.cellsOf 3 = 1 := by kernel_rfl
  have hc39 : Try.prog.cellsOf 39 = 1 := by kernel_rfl
  obtain ⟨xs, m, hm, hx, hl, hxl, hff⟩ := DataW.trod_struct Try.underlying41 hf
  simp only [Prod.mk.injEq] at hx
  obtain ⟨rfl, rfl⟩ := hx
  rw [hc41] at hl
  obtain ⟨c0, c1, hcs⟩ : ∃ c0 c1, vs = #[c0, c1] := by
    have h2 : vs.size = 2 := by rw [hsz, hc41]
    exact ⟨vs[0], vs[1], by apply Array.ext (by simp [h2]); intro i h3 h4; rcases (show i = 0 ∨ i = 1 by omega) with rfl | rfl <;> rfl⟩
  subst hcs
  match xs, hxl with
  | [y0, y1], _ =>
    have z0 : DataW.trod enc Try.prog W 0 (fun _ => true) held m 3 ([c0, c1].take (Try.prog.cellsOf 3)) = some y0 := hff 0 _ rfl
    have z1 : DataW.trod enc Try.prog W 0 (fun _ => true) held m 39 ([c1].take (Try.prog.cellsOf 39)) = some y1 := hff 1 _ rfl
    rw [hc3] at z0; rw [hc39] at z1
    obtain ⟨sz, e0, _⟩ := DataW.trod_int Try.underlying3 z0
    obtain ⟨to_, ct, tb, e1, hlc, hml1, hr1, _⟩ := rowE_of intsE (fun _ => 0) Try.underlying39 (by kernel_rfl) z1 (fun n _ cs x h => ints_of n cs x h)
    simp at e0 e1
    subst e0 e1
    obtain ⟨cp, rfl⟩ : ∃ cp, ct = tb.length + cp := ⟨ct - tb.length, by omega⟩
    exact ⟨sz, to_, tb, cp, rfl, hr1, hml1⟩
end
end Go.Proofs.Yteekoclfpehnpaa
