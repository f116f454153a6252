/-
  umpiragelaw7.PatHolds returns true for every input (no condition), and each argument reads behind the call as it read before.
-/
import Derived.Test.YtlhnfdjidjgfgaaRows
import Derived.Test.YtlhnfdjidjgfgaaPq2
import Derived.Test.YtlhnfdjidjgfgaaO4
import Derived.WalkKit
import Derived.ProofKit
import Derived.OpenShut
import Derived.ChangeOld
import Derived.Below
import Derived.JoinedCond
namespace Go.Proofs.Ytlhnfdjidjgfgaa.pho
open Go.ChangeShapes Go.WideShapes Go.ChangeAt Go.RowKit
set_option linter.unusedVariables false

section
variable {W : World} {H : Type} {enc : TypeId × Value → H} {held : Bool}
theorem row_arg {d : DataW H} {pl : List MemPlace} {ao : Option Addr} {len cap : Nat} (h : DataW.Trod enc Try.prog W 0 (fun _ => true) held 32 (.slice ao len cap) d pl) : ∃ ks, len = ks.length ∧ ks.length ≤ 9223372036854775807 ∧ RowAt W ao ks := by
  obtain ⟨fuel, hf⟩ := h
  obtain ⟨ao', cap', ks, e, hlc, hcm, hr, hs⟩ := row_of Try.underlying32 hf (fun n _ cs x h => tree_of n cs x h)
  simp [Value.cells] at e
  obtain ⟨rfl, rfl, rfl⟩ := e
  exact ⟨ks, rfl, hcm, hr⟩
end
theorem rowE_of {w : World} {ao : Option Addr} {ks : List T} (h : RowAt w ao ks) : treeE.Row (fun b => b < w.heap.size) w ao ks := fun i x hi => by
  have hlt := (List.getElem?_eq_some_iff.1 hi).1
  obtain ⟨b, off, k, sp, e, c1, c2, h3⟩ := h i hlt
  have hx : gK ks i = x := by rw [gK_get hlt]; exact (List.getElem?_eq_some_iff.1 hi).2
  rw [hx] at c1 c2 h3
  refine ⟨b, off, [.int .i64 x.head, .slice k x.kids.length (x.kids.length + sp)], e, block_lt_of_cell c1, fun j u hu => ?_, k, sp, rfl, h3.foot⟩
  match j, hu with
  | 0, hu => simp at hu; subst hu; exact c1
  | 1, hu => simp at hu; subst hu; exact c2
theorem own : ownKnob Try.prog.godebug = none := by kernel_rfl
theorem laidOut : laidOutB Try.prog = true := by kernel_rfl

set_option maxRecDepth 100000 in
theorem lifted (os : Os) (started : os.Started) (H : Type) (enc : TypeId × Value → H) :
    ReturnsInHanded {} Try.checked os 7 .any (Rows.patHoldsSpec.pre6 enc Try.prog Try.f7 Rows.patHoldsRow.domain false) (Rows.patHoldsSpec.post enc Try.prog Try.f7 false true false false) := by
  refine returnsInHanded_of_change (C := Try.checked) own started (by kernel_rfl) Try.func7
    (ChangeSpec.witness6 (enc := enc) (C := Try.checked) false ⟨#[], #[.agg #[.slice none 0 0, .slice none 0 0], .slice none 0 0, .agg #[.int .i64 0, .slice none 0 0]], []⟩ 8 (by kernel_rfl) (by kernel_rfl) (by kernel_rfl) (by kernel_rfl)) ?_
  intro W base args ds gs before hval0 hW hcnd _
  have hval : ∀ (j : Nat) t v, Try.f7.params[j]? = some t → args[j]? = some v → Value.okWide Try.prog W .any base t v := hval0
  have hW' := hW
  obtain ⟨p, q, hA0, hV, rfl, hfz, hnd⟩ := hW
  have hA : DataW.TrodAll enc Try.prog W 0 (fun _ => true) true Try.f7.params.toList args.toList ds p := hA0
  rw [Try.params7] at hA hval
  obtain ⟨v0, vs0, d0, ds0, p0, q0, hargs, rfl, rfl, h0, r0⟩ := trodAll_cons hA
  obtain ⟨v1, vs1, d1, ds1, p1, q1, rfl, rfl, rfl, h1, r1⟩ := trodAll_cons r0
  obtain ⟨v2, vs2, d2, ds2, p2, q2, rfl, rfl, rfl, h2, r2⟩ := trodAll_cons r1
  obtain ⟨rfl, rfl, rfl⟩ := trodAll_nil r2
  obtain rfl : args = #[v0, v1, v2] := by cases args; simp_all
  obtain ⟨rfl, rfl⟩ := trodVars_none hV
  have k0 := h0
  have lt0 : ∀ x ∈ p0, x.block < W.heap.size := by obtain ⟨m, hm⟩ := k0; exact DataW.trod_lt m _ _ _ hm
  have k1 := h1
  have lt1 : ∀ x ∈ p1, x.block < W.heap.size := by obtain ⟨m, hm⟩ := k1; exact DataW.trod_lt m _ _ _ hm
  obtain ⟨ao0, ar0, ca0, co0, cs0, cp0, rfl, ga0, gc0, la0, lc0, s0⟩ := lore_arg (okWide_struct Try.underlying25 (hval 0 25 v0 rfl rfl)) h0
  obtain ⟨a1, len1, cap1, rfl⟩ := okWide_slice Try.underlying32 (hval 1 32 v1 rfl rfl)
  obtain ⟨gs1, rfl, hn1, gg1⟩ := row_arg h1
  have k2 := h2
  have lt2 : ∀ x ∈ p2, x.block < W.heap.size := by obtain ⟨m, hm⟩ := k2; exact DataW.trod_lt m _ _ _ hm
  obtain ⟨sz2, to2, tb2, ct2, rfl, gt2, lt_2⟩ := table_arg (okWide_struct Try.underlying55 (hval 2 55 v2 rfl rfl)) h2
  clear hA0 hval0
  refine (patHolds7 ar0 cs0 gs1 sz2 tb2 ao0 co0 a1 to2 ca0 _ _ ct2 W ga0 gc0 (rowE_of gg1) gt2 la0 lc0 (by unfold maxLen; exact hn1) lt_2).mono fun e W' ⟨he, bel⟩ => ?_
  subst he
  exact ⟨_, rfl, _, _, _, [], _, [], hW', trodAll_mk1 (shut_bool Try.underlying4 _),
    (trodAll_cons_mk (Below.trod laidOut (by kernel_rfl) (of_decide_eq_true (by kernel_rfl)) k0 bel lt0) (trodAll_cons_mk (Below.trod laidOut (by kernel_rfl) (of_decide_eq_true (by kernel_rfl)) k1 bel lt1) (trodAll_cons_mk (Below.trod laidOut (by kernel_rfl) (of_decide_eq_true (by kernel_rfl)) k2 bel lt2) trodAll_mk0))), rfl, bel.frame _, fun h => by cases h⟩

theorem over : Rows.patHoldsRow.holds Try.pinned (OpenSpec.ofChange Rows.patHoldsSpec) :=
  OpenClaim.holds_of_wide 7 Try.f7 rfl rfl rfl rfl rfl rfl rfl ⟨rfl, rfl, rfl, rfl, rfl⟩ rfl rfl rfl rfl rfl (by kernel_rfl) Try.func7 (by kernel_rfl)
    (of_decide_eq_true (by kernel_rfl)) (by unfold Func.isWrapper; first | (rw [if_pos (by decide +kernel)]; kernel_rfl) | (rw [if_neg (by decide +kernel)]; exact ⟨rfl, rfl⟩))
    (fun os started H enc _ => lifted os started H enc)

theorem proved : Rows.PatHoldsSaid := over
end Go.Proofs.Ytlhnfdjidjgfgaa.pho
