/-
  umpiragetop.TopWishes returns true for every input (no condition), and each argument reads behind the call as it read before.
-/
import Derived.Test.YtlpoedjipncbhaaRows
import Derived.Test.YtlpoedjipncbhaaTw6
import Derived.Test.YtlpoedjipncbhaaTw16
import Derived.Test.YtlpoedjipncbhaaT34
import Derived.WalkKit
import Derived.ProofKit
import Derived.OpenShut
import Derived.ChangeOld
import Derived.Below
import Derived.JoinedCond
namespace Go.Proofs.Ytlpoedjipncbhaa.twg
open Go.ChangeShapes Go.WideShapes Go.ChangeAt Go.RowKit
set_option linter.unusedVariables false

theorem own : ownKnob Try.prog.godebug = none := by kernel_rfl
theorem laidOut : laidOutB Try.prog = true := by kernel_rfl
theorem row_of {w : World} {ao : Option Addr} {zs : List Int} (h : CellsAt w ao zs.length (fun i => .int .i64 (gI zs i))) : intE.Row (fun b => b < w.heap.size) w ao zs := fun i x hx => by
  obtain ⟨hi, hv⟩ := List.getElem?_eq_some_iff.1 hx
  obtain ⟨b, off, e, hc⟩ := h i hi
  replace hc : w.cell? ⟨b, off + i, none⟩ = some (.int .i64 (gI zs i)) := hc
  rw [gI_get hi, hv] at hc
  refine ⟨b, off, [.int .i64 x], e, block_lt_of_cell hc, fun j u hu => ?_, rfl⟩
  cases j with
  | zero =>
    have e2 : Value.int .i64 x = u := by simpa using hu
    rw [← e2, show off + i * intE.n + 0 = off + i from by show off + i * 1 + 0 = off + i; omega]
    exact hc
  | succ j => simp at hu

set_option maxRecDepth 100000 in
theorem lifted (os : Os) (started : os.Started) (H : Type) (enc : TypeId × Value → H) :
    ReturnsInHanded {} Try.checked os 3 .any (Rows.topWishesSpec.pre6 enc Try.prog Try.f3 Rows.topWishesRow.domain false) (Rows.topWishesSpec.post enc Try.prog Try.f3 false true false false) := by
  refine returnsInHanded_of_change (C := Try.checked) own started (by kernel_rfl) Try.func3
    (ChangeSpec.witness6 (enc := enc) (C := Try.checked) false ⟨#[], #[.slice none 0 0, .slice none 0 0, .slice none 0 0], []⟩ 8 (by kernel_rfl) (by kernel_rfl) (by kernel_rfl) (by kernel_rfl)) ?_
  intro W base args ds gs before hval0 hW hcnd _
  have hval : ∀ (j : Nat) t v, Try.f3.params[j]? = some t → args[j]? = some v → Value.okWide Try.prog W .any base t v := hval0
  have hW' := hW
  obtain ⟨p, q, hA0, hV, rfl, hfz, hnd⟩ := hW
  have hA : DataW.TrodAll enc Try.prog W 0 (fun _ => true) true Try.f3.params.toList args.toList ds p := hA0
  rw [Try.params3] at hA hval
  obtain ⟨v0, vs0, d0, ds0, p0, q0, hargs, rfl, rfl, h0, r0⟩ := trodAll_cons hA
  obtain ⟨v1, vs1, d1, ds1, p1, q1, rfl, rfl, rfl, h1, r1⟩ := trodAll_cons r0
  obtain ⟨v2, vs2, d2, ds2, p2, q2, rfl, rfl, rfl, h2, r2⟩ := trodAll_cons r1
  obtain ⟨rfl, rfl, rfl⟩ := trodAll_nil r2
  obtain rfl : args = #[v0, v1, v2] := by cases args; simp_all
  obtain ⟨rfl, rfl⟩ := trodVars_none hV
  have k0 := h0
  have lt0 : ∀ x ∈ p0, x.block < W.heap.size := by obtain ⟨m, hm⟩ := k0; exact DataW.trod_lt m _ _ _ hm
  have k1 := h1
  have lt1 : ∀ x ∈ p1, x.block < W.heap.size := by obtain ⟨m, hm⟩ := k1; exact DataW.trod_lt m _ _ _ hm
  have k2 := h2
  have lt2 : ∀ x ∈ p2, x.block < W.heap.size := by obtain ⟨m, hm⟩ := k2; exact DataW.trod_lt m _ _ _ hm
  obtain ⟨a0, len0, cap0, rfl⟩ := okWide_slice Try.underlying22 (hval 0 22 v0 rfl rfl)
  obtain ⟨a1, len1, cap1, rfl⟩ := okWide_slice Try.underlying22 (hval 1 22 v1 rfl rfl)
  obtain ⟨a2, len2, cap2, rfl⟩ := okWide_slice Try.underlying22 (hval 2 22 v2 rfl rfl)
  obtain ⟨z0, rfl, g0, l0, m0, _⟩ := ints_arg h0
  obtain ⟨z1, rfl, g1, l1, m1, _⟩ := ints_arg h1
  obtain ⟨z2, rfl, g2, l2, m2, _⟩ := ints_arg h2
  clear hA0 hval0
  refine (topWishes3 sure9 z0 z1 z2 a0 a1 a2 cap0 cap1 cap2 W (row_of g0) (row_of g1) (row_of g2) (by unfold maxLen; omega) (by unfold maxLen; omega) (by unfold maxLen; omega) l0 l1).mono fun e W' ⟨he, bel⟩ => ?_
  subst he
  exact ⟨_, rfl, _, _, _, [], _, [], hW', trodAll_mk1 (shut_bool Try.underlying4 _),
    (trodAll_cons_mk (Below.trod laidOut (by kernel_rfl) (of_decide_eq_true (by kernel_rfl)) k0 bel lt0) (trodAll_cons_mk (Below.trod laidOut (by kernel_rfl) (of_decide_eq_true (by kernel_rfl)) k1 bel lt1) (trodAll_cons_mk (Below.trod laidOut (by kernel_rfl) (of_decide_eq_true (by kernel_rfl)) k2 bel lt2) trodAll_mk0))), rfl, bel.frame _, fun h => by cases h⟩

theorem over : Rows.topWishesRow.holds Try.pinned (OpenSpec.ofChange Rows.topWishesSpec) :=
  OpenClaim.holds_of_wide 3 Try.f3 rfl rfl rfl rfl rfl rfl rfl ⟨rfl, rfl, rfl, rfl, rfl⟩ rfl rfl rfl rfl rfl (by kernel_rfl) Try.func3 (by kernel_rfl)
    (of_decide_eq_true (by kernel_rfl)) (by unfold Func.isWrapper; first | (rw [if_pos (by decide +kernel)]; kernel_rfl) | (rw [if_neg (by decide +kernel)]; exact ⟨rfl, rfl⟩))
    (fun os started H enc _ => lifted os started H enc)

theorem proved : Rows.TopWishesSaid := over
end Go.Proofs.Ytlpoedjipncbhaa.twg
