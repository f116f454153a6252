/-
  How a lore as an argument reads, with the length of its signs; the sizes of its claims.
-/
import Derived.Test.YtidgnbdlfngeaaaGreatDoorRows
import Derived.Test.YtidgnbdlfngeaaaGreatDoorXo
namespace Go.Proofs.YtidgnbdlfngeaaaGreatDoor
open Go.ChangeShapes Go.WideShapes Go.ChangeAt Go.RowKit
set_option linter.unusedVariables false

section
variable {H : Type} {enc : TypeId × Value → H} {W : World} {held : Bool}
set_option maxRecDepth 100000 in
theorem loreB_arg {v : Value} {d : DataW H} {pl : List MemPlace} (hv : ∃ cs, v = .agg cs ∧ cs.size = Tryz.prog.cellsOf 25) (h : DataW.Trod enc Tryz.prog W 0 (fun _ => true) held 25 v d pl) :
    ∃ ao ar ca co cs cp, v = .agg #[.slice ao ar.length ca, .slice co cs.length (cs.length + cp)] ∧ intE.Row (fun b => b < W.heap.size) W ao ar ∧ claimE.Row (fun b => b < W.heap.size) W co cs ∧ ar.length ≤ maxLen ∧ cs.length ≤ maxLen ∧ ar.length + sumE muC cs + 1 ≤ Rows.uptoBulk d := by
  obtain ⟨fuel, hf⟩ := h
  obtain ⟨vs, rfl, hsz⟩ := hv
  have hc29 : Tryz.prog.cellsOf 25 = 2 := by kernel_rfl
  have hc27 : Tryz.prog.cellsOf 22 = 1 := by kernel_rfl
  have hc26 : Tryz.prog.cellsOf 23 = 1 := by kernel_rfl
  obtain ⟨xs, m, hm, hx, hl, hxl, hff⟩ := DataW.trod_struct Tryz.underlying25 hf
  simp only [Prod.mk.injEq] at hx
  obtain ⟨rfl, rfl⟩ := hx
  rw [hc29] at hl
  obtain ⟨c0, c1, hcs⟩ : ∃ c0 c1, vs = #[c0, c1] := by
    have h2 : vs.size = 2 := by rw [hsz, hc29]
    exact ⟨vs[0], vs[1], by apply Array.ext (by simp [h2]); intro i h3 h4; rcases (show i = 0 ∨ i = 1 by omega) with rfl | rfl <;> rfl⟩
  subst hcs
  match xs, hxl with
  | [y0, y1], _ =>
    have z0 : DataW.trod enc Tryz.prog W 0 (fun _ => true) held m 22 ([c0, c1].take (Tryz.prog.cellsOf 22)) = some y0 := hff 0 _ rfl
    have z1 : DataW.trod enc Tryz.prog W 0 (fun _ => true) held m 23 ([c1].take (Tryz.prog.cellsOf 23)) = some y1 := hff 1 _ rfl
    rw [hc27] at z0; rw [hc26] at z1
    obtain ⟨ao, ca, ar, e0, _, hml0, hr0, hs0⟩ := rowE_of intE (fun _ => 1) Tryz.underlying22 (by kernel_rfl) z0 (fun n _ cs x h => int1_of n cs x h)
    obtain ⟨co, cc, cs, e1, hlc, hml1, hr1, hs1⟩ := rowE_of claimE muC Tryz.underlying23 (by kernel_rfl) z1 (fun n _ cs x h => claim_of n cs x h)
    simp at e0 e1
    subst e0 e1
    obtain ⟨cp, rfl⟩ : ∃ cp, cc = cs.length + cp := ⟨cc - cs.length, by omega⟩
    exact ⟨ao, ar, ca, co, cs, cp, rfl, hr0, hr1, hml0, hml1, by have h1 := sumE_length (mu := fun _ : Int => 1) (fun _ => Nat.le_refl 1) ar; simp only [List.map_cons, List.map_nil, Rows.uptoBulk, Rows.uptoBulkAll]; omega⟩
theorem claims_length : ∀ cs : List (List Fc), 2 * cs.length ≤ sumE muC cs
  | [] => by simp [sumE]
  | c :: r => by have h3 := claims_length r; simp only [sumE, muC, List.length_cons]; omega
theorem claims_small {cs : List (List Fc)} {i : Nat} {c : List Fc} (h : cs[i]? = some c) : 4 * c.length ≤ sumE muC cs ∧ ∀ (j : Nat) t, (treesF c)[j]? = some t → t.size ≤ sumE muC cs := by
  have h1 := sumE_le (mu := muC) h
  have h2 := sumF_length c
  refine ⟨by simp only [muC] at h1; omega, fun j t ht => ?_⟩
  have h3 := treesF_size ht
  simp only [muC] at h1; omega
end
end Go.Proofs.YtidgnbdlfngeaaaGreatDoor
