/-
  umpiragelaw7.PatSays returns true for every input (where the arguments are together of bulk at most 1048576), and each argument reads behind the call as it read before.
-/
import Derived.Test.YtlhnfdjidjgfgaaRows
import Derived.Test.YtlhnfdjidjgfgaaPl
import Derived.Test.YtlhnfdjidjgfgaaO6
import Derived.WalkKit
import Derived.ProofKit
import Derived.OpenShut
import Derived.ChangeOld
import Derived.Below
import Derived.JoinedCond
namespace Go.Proofs.Ytlhnfdjidjgfgaa.pls
open Go.ChangeShapes Go.WideShapes Go.ChangeAt Go.RowKit
set_option linter.unusedVariables false

section
variable {W : World} {H : Type} {enc : TypeId × Value → H} {held : Bool}
theorem treeE_of (n : Nat) (cs : List Value) (x : DataW H × List MemPlace) (h : DataW.trod enc Try.prog W 0 (fun _ => true) held n 38 cs = some x) : EltOf treeE T.size W cs x.1 := by
  obtain ⟨t, h1, h2⟩ := tree_of n cs x h
  obtain ⟨k, sp, e⟩ := h1.form
  rw [e] at h1
  exact ⟨t, ⟨k, sp, by simpa using e, h1.foot⟩, h2⟩
theorem treesB_arg {d : DataW H} {pl : List MemPlace} {ao : Option Addr} {len cap : Nat} (h : DataW.Trod enc Try.prog W 0 (fun _ => true) held 32 (.slice ao len cap) d pl) : ∃ xs, len = xs.length ∧ xs.length ≤ maxLen ∧ treeE.Row (fun b => b < W.heap.size) W ao xs ∧ sumE T.size xs + 1 ≤ Rows.uptoBulk d := by
  obtain ⟨fuel, hf⟩ := h
  obtain ⟨ao', cap', xs, e, hlc, hml, hr, hs⟩ := rowE_of treeE T.size Try.underlying32 (by kernel_rfl) hf (fun n _ cs x h => treeE_of n cs x h)
  simp [Value.cells] at e
  obtain ⟨rfl, rfl, rfl⟩ := e
  exact ⟨xs, rfl, by omega, hr, hs⟩
end
theorem own : ownKnob Try.prog.godebug = none := by kernel_rfl
theorem laidOut : laidOutB Try.prog = true := by kernel_rfl

set_option maxRecDepth 100000 in
theorem lifted (os : Os) (started : os.Started) (H : Type) (enc : TypeId × Value → H) (F : Stop.Interp) :
    ReturnsInHanded {} Try.checked os 6 .any ((Rows.OpenSpec.upto Rows.patSaysSpec).pre6 enc Try.prog Try.f6 Rows.patSaysUptoRow.domain false) (((Rows.OpenSpec.upto Rows.patSaysSpec).at F).post enc Try.prog Try.f6 false true false false) := by
  refine returnsInHanded_of_cond (C := Try.checked) (s := Rows.OpenSpec.upto Rows.patSaysSpec) (k := Rows.uptoSmall) rfl own started (by kernel_rfl) Try.func6
    (OpenSpec.witness (enc := enc) (C := Try.checked) (s := Rows.OpenSpec.upto Rows.patSaysSpec) (k := Rows.uptoSmall) rfl false ⟨#[], #[.agg #[.slice none 0 0, .slice none 0 0], .slice none 0 0], []⟩ 8 (by kernel_rfl) (by kernel_rfl) (by kernel_rfl)
      (x := ([.agg [.nil, .nil], .nil], [], [])) (by kernel_rfl) rfl (by kernel_rfl)) ?_
  intro W base args ds gs before hval0 hW _ hk _
  have hval : ∀ (j : Nat) t v, Try.f6.params[j]? = some t → args[j]? = some v → Value.okWide Try.prog W .any base t v := hval0
  have hW' := hW
  obtain ⟨p, q, hA0, hV, rfl, hfz, hnd⟩ := hW
  have hA : DataW.TrodAll enc Try.prog W 0 (fun _ => true) true Try.f6.params.toList args.toList ds p := hA0
  rw [Try.params6] at hA hval
  obtain ⟨v0, vs0, d0, ds0, p0, q0, hargs, rfl, rfl, h0, r0⟩ := trodAll_cons hA
  obtain ⟨v1, vs1, d1, ds1, p1, q1, rfl, rfl, rfl, h1, r1⟩ := trodAll_cons r0
  obtain ⟨rfl, rfl, rfl⟩ := trodAll_nil r1
  obtain rfl : args = #[v0, v1] := by cases args; simp_all
  obtain ⟨rfl, rfl⟩ := trodVars_none hV
  have hkk := of_decide_eq_true hk
  simp only [List.append_nil, Rows.uptoBulkAll] at hkk
  have k0 := h0
  have lt0 : ∀ x ∈ p0, x.block < W.heap.size := by obtain ⟨m, hm⟩ := k0; exact DataW.trod_lt m _ _ _ hm
  obtain ⟨ao0, ar0, ca0, co0, cs0, cp0, rfl, ga0, gc0, la0, lc0, s0⟩ := loreB_arg (okWide_struct Try.underlying25 (hval 0 25 v0 rfl rfl)) h0
  have k1 := h1
  have lt1 : ∀ x ∈ p1, x.block < W.heap.size := by obtain ⟨m, hm⟩ := k1; exact DataW.trod_lt m _ _ _ hm
  obtain ⟨a1, len1, cap1, rfl⟩ := okWide_slice Try.underlying32 (hval 1 32 v1 rfl rfl)
  obtain ⟨gs1, rfl, lgm1, gg1, s1⟩ := treesB_arg h1
  clear hA0 hval0
  have hcl := claims_length cs0
  refine (patSays6 ar0 cs0 gs1 ao0 co0 a1 ca0 (cs0.length + cp0) cap1 W ga0 gc0 gg1 (by omega) (by omega) (by omega) (fun i c hc => by have := (claims_small hc).1; omega) (fun i c hc j t ht => by have := (claims_small hc).2 j t ht; omega) (fun t ht => by obtain ⟨i, hi⟩ := List.mem_iff_getElem?.1 ht; have h1 := sumE_le (mu := T.size) hi; omega)).mono fun e W' ⟨he, bel⟩ => ?_
  subst he
  exact ⟨_, rfl, _, _, _, [], _, [], hW', trodAll_mk1 (shut_bool Try.underlying4 _),
    (trodAll_cons_mk (Below.trod laidOut (by kernel_rfl) (of_decide_eq_true (by kernel_rfl)) k0 bel lt0) (trodAll_cons_mk (Below.trod laidOut (by kernel_rfl) (of_decide_eq_true (by kernel_rfl)) k1 bel lt1) trodAll_mk0)), rfl, bel.frame _, fun h => by cases h⟩

theorem over : Rows.patSaysUptoRow.holds Try.pinned (Rows.OpenSpec.upto Rows.patSaysSpec) :=
  OpenClaim.holds_of_cond 6 Try.f6 rfl rfl rfl rfl rfl rfl rfl ⟨rfl, rfl, rfl, rfl, rfl⟩ rfl rfl rfl rfl rfl (by kernel_rfl) Try.func6 (by kernel_rfl)
    (of_decide_eq_true (by kernel_rfl)) (by unfold Func.isWrapper; first | (rw [if_pos (by decide +kernel)]; kernel_rfl) | (rw [if_neg (by decide +kernel)]; exact ⟨rfl, rfl⟩))
    (fun os started H enc _ F => lifted os started H enc F)

theorem proved : Rows.PatSaysUptoSaid := over
end Go.Proofs.Ytlhnfdjidjgfgaa.pls
