/-
  Walks: tableFact.
-/
import Derived.Test.YteekoclfpehnpaaProg
import Derived.Test.YteekoclfpehnpaaV13
import Derived.Test.YteekoclfpehnpaaRinv
import Derived.Test.YteekoclfpehnpaaXc
import Derived.Test.YteekoclfpehnpaaXd
import Derived.RegionTactic
namespace Go.Proofs.Yteekoclfpehnpaa
open Go.RowKit Go.Shelf
set_option linter.unusedVariables false
set_option maxHeartbeats 400000

def anyP : Nat → Prop := fun _ => True
theorem row_ints {p : Nat → Prop} {w : World} {g : Nat} {cs : Array Value} {xs : List Int} (hb : w.heap[g]? = some (.cells cs 3 (0, 0))) (hp : p g) (h : cs = (xs.map (Value.int .i64)).toArray) : intE.Row p w (some ⟨g, 0, none⟩) xs :=
  row_tc hp (by rw [hb, h]; rfl)
/-- the lore of the closed fact -/
def LoreT (w : World) (v : Value) : Prop := ∃ g0 g3, v = .agg #[.slice (some ⟨g0, 0, none⟩) 2 2, .slice (some ⟨g3, 0, none⟩) 1 1] ∧ intE.Row anyP w (some ⟨g0, 0, none⟩) [0, 1] ∧ claimE.Row anyP w (some ⟨g3, 0, none⟩) [clT]
theorem setCell_same {W : World} {b j : Nat} {cs : Array Value} {T : TypeId} {v : Value} (h : W.heap[b]? = some (.cells cs T (0, 0))) (hj : cs[j]? = some v) : W.setCell ⟨b, j, none⟩ v = W := by
  obtain ⟨hb, he⟩ := Array.getElem?_eq_some_iff.1 h
  obtain ⟨hjl, hje⟩ := Array.getElem?_eq_some_iff.1 hj
  have hc : cs.setIfInBounds j v = cs := by
    apply Array.ext
    · simp
    · intro i h1 h2
      rw [Array.getElem_setIfInBounds (by simpa using h1)]
      split
      · rename_i e; subst e; exact hje.symm
      · rfl
  have hh : (W.setCell ⟨b, j, none⟩ v).heap = W.heap := by
    apply Array.ext
    · simp [World.setCell]
    · intro i h1 h2
      simp only [World.setCell, Array.getElem_modify]
      split
      · rename_i e
        have e : b = i := e
        subst e
        rw [he]
        simp [hc]
      · rfl
  show { W with heap := (W.setCell ⟨b, j, none⟩ v).heap } = W
  rw [hh]
theorem row_two {W' : World} {g a1 a2 : Nat} (hb : W'.heap[g]? = some (.cells #[.slice (some ⟨a1, 0, none⟩) 1 1, .slice (some ⟨a2, 0, none⟩) 2 2] 27 (0, 0))) (h1 : intE.Row anyP W' (some ⟨a1, 0, none⟩) [1]) {x y : Int} (h2 : intE.Row anyP W' (some ⟨a2, 0, none⟩) [x, y]) : intsE.Row anyP W' (some ⟨g, 0, none⟩) [[1], [x, y]] :=
  row_block intsE hb trivial [[.slice (some ⟨a1, 0, none⟩) 1 1], [.slice (some ⟨a2, 0, none⟩) 2 2]] [[1], [x, y]] rfl rfl (fun i c z hc hx => by
    rcases i with _ | _ | i
    · simp at hc hx; subst hc hx
      exact ⟨_, 0, rfl, h1, by unfold maxLen; simp⟩
    · simp at hc hx; subst hc hx
      exact ⟨_, 0, rfl, h2, by unfold maxLen; simp⟩
    · simp at hc)
theorem row_leaf {W : World} {g : Nat} (hb : W.heap[g]? = some (.cells #[.int .i64 (-1), .slice none 0 0] 44 (0, 0))) : RowAt W (some ⟨g, 0, none⟩) [.node (-1) []] := fun i hi => by
  obtain rfl : i = 0 := by simp at hi; omega
  exact ⟨g, 0, none, 0, rfl, (box2 hb).1.1, (box2 hb).2.1, (TreeP.leaf anyP _ (-1)).at⟩
structure FactV (w7 : World) (lv : Value) (c0 c1 c2 c3 c4 c5 c6 c7 c8 c9 c10 c11 c12 c13 c14 : Bool) (s26 s27 s28 s29 s30 s31 s32 s33 s34 s35 s25 s36 s37 s5 s4 : Value) (W : World) : Prop where
  bel : Below w7.heap.size w7 W
  l0 : c0 = true → s26 = lv
  l1 : c1 = true → ∃ a1, s27 = .slice (some ⟨a1, 0, none⟩) 1 1 ∧ intE.Row anyP W (some ⟨a1, 0, none⟩) [1]
  l2 : c2 = true → ∃ a2, s28 = .slice (some ⟨a2, 0, none⟩) 2 2 ∧ intE.Row anyP W (some ⟨a2, 0, none⟩) [1, 0]
  l3 : c3 = true → ∃ a3, s29 = .slice (some ⟨a3, 0, none⟩) 2 2 ∧ intsE.Row anyP W (some ⟨a3, 0, none⟩) [[1], [1, 0]]
  l4 : c4 = true → ∃ a4, s30 = .agg #[.int .i64 2, .slice (some ⟨a4, 0, none⟩) 2 2] ∧ intsE.Row anyP W (some ⟨a4, 0, none⟩) [[1], [1, 0]]
  l5 : c5 = true → s31 = .agg #[.int .i64 (-1), .slice none 0 0]
  l6 : c6 = true → ∃ a6, s32 = .slice (some ⟨a6, 0, none⟩) 1 1 ∧ RowAt W (some ⟨a6, 0, none⟩) [.node (-1) []]
  l7 : c7 = true → ∃ a7, s33 = .agg #[.int .i64 2, .slice (some ⟨a7, 0, none⟩) 1 1] ∧ TreeAt W (.agg #[.int .i64 2, .slice (some ⟨a7, 0, none⟩) 1 1]) xT
  l8 : c8 = true → ∃ a8, s34 = .slice (some ⟨a8, 0, none⟩) 1 1 ∧ intE.Row anyP W (some ⟨a8, 0, none⟩) [1]
  l9 : c9 = true → s35 = .tuple #[.int .i64 0, .agg #[.int .i64 0, .int .i64 0]]
  l10 : c10 = true → s25 = .tuple #[.int .i64 0, .agg #[.int .i64 0, .int .i64 0]]
  l11 : c11 = true → s36 = .int .i64 0
  l12 : c12 = true → s37 = .agg #[.int .i64 0, .int .i64 0]
  l13 : c13 = true → ∃ a13, s5 = .pointer (some ⟨a13, 0, none⟩) ∧ (W.heap[a13]? = some (.cells #[.int .i64 0, .int .i64 0] 32 (0, 0)) ∧ w7.heap.size ≤ a13)
  l14 : c14 = true → s4 = .int .i64 0
theorem FactV.mono {w7 : World} {lv : Value} {c0 c1 c2 c3 c4 c5 c6 c7 c8 c9 c10 c11 c12 c13 c14 : Bool} {s26 s27 s28 s29 s30 s31 s32 s33 s34 s35 s25 s36 s37 s5 s4 : Value} {W W' : World} (h : FactV w7 lv c0 c1 c2 c3 c4 c5 c6 c7 c8 c9 c10 c11 c12 c13 c14 s26 s27 s28 s29 s30 s31 s32 s33 s34 s35 s25 s36 s37 s5 s4 W) (hb : Below W.heap.size W W') : FactV w7 lv c0 c1 c2 c3 c4 c5 c6 c7 c8 c9 c10 c11 c12 c13 c14 s26 s27 s28 s29 s30 s31 s32 s33 s34 s35 s25 s36 s37 s5 s4 W' where
  bel := Below.step h.bel hb
  l0 := h.l0
  l1 := fun hc => by obtain ⟨a1, e1, e2⟩ := h.l1 hc; exact ⟨a1, e1, e2.kept hb⟩
  l2 := fun hc => by obtain ⟨a2, e1, e2⟩ := h.l2 hc; exact ⟨a2, e1, e2.kept hb⟩
  l3 := fun hc => by obtain ⟨a3, e1, e2⟩ := h.l3 hc; exact ⟨a3, e1, e2.kept hb⟩
  l4 := fun hc => by obtain ⟨a4, e1, e2⟩ := h.l4 hc; exact ⟨a4, e1, e2.kept hb⟩
  l5 := h.l5
  l6 := fun hc => by obtain ⟨a6, e1, e2⟩ := h.l6 hc; exact ⟨a6, e1, RowAt.below hb e2⟩
  l7 := fun hc => by obtain ⟨a7, e1, e2⟩ := h.l7 hc; exact ⟨a7, e1, e2.kept hb⟩
  l8 := fun hc => by obtain ⟨a8, e1, e2⟩ := h.l8 hc; exact ⟨a8, e1, e2.kept hb⟩
  l9 := h.l9
  l10 := h.l10
  l11 := h.l11
  l12 := h.l12
  l13 := fun hc => by obtain ⟨a13, e1, e2⟩ := h.l13 hc; exact ⟨a13, e1, ⟨Below.heapAt hb e2.1, e2.2⟩⟩
  l14 := h.l14

set_option maxRecDepth 100000 in
set_option maxHeartbeats 8000000 in
theorem tableFact33 (w : World) : Calls Try.prog 33 #[] w fun e w' => e = .returned (.bool true) ∧ Below w.heap.size w w' := by
  have S0 := St.start w
  obtain ⟨g0, hg0⟩ : ∃ g, g = w.heap.size := ⟨_, rfl⟩
  have S1 := S0.box hg0.symm #[.int .i64 0, .int .i64 1] 3
  go_enter Try.func33, Try.ntmps33
  go_wp2_with fail
  rw [← hg0]
  refine S1.gen (z := g0 + 1) (by simp [hg0]) ?_
  intro w1 z1 S
  clear S1 S0 hg0
  refine (S.quiet (leaf25 (-1) w1)).mono ?_
  rintro e w2 ⟨rfl, z2, S2⟩
  obtain ⟨g1, hg1⟩ : ∃ g, g = w2.heap.size := ⟨_, rfl⟩
  have S3 := S2.box hg1.symm #[.int .i64 (-1), .slice none 0 0] 44
  clear S S2
  go_wp2_with fail
  rw [← hg1]
  refine S3.gen (z := g1 + 1) (by simp [hg1]) ?_
  intro w3 z3 S
  have HG1 := Lib.hid (show g0 + 1 ≤ g1 by omega)
  clear S3 hg1
  refine (S.quiet (leaf25 1 w3)).mono ?_
  rintro e w4 ⟨rfl, z4, S4⟩
  obtain ⟨g2, hg2⟩ : ∃ g, g = w4.heap.size := ⟨_, rfl⟩
  have S5 := (((((S4.box hg2.symm #[.bool false, .int .i64 2, .slice (some ⟨g1, 0, none⟩) 1 1, .int .i64 1, .slice none 0 0] 54).box (b := g2 + 1) (by simp [hg2]) #[.slice (some ⟨g2, 0, none⟩) 1 1] 24).box (b := g2 + 1 + 1) (by simp [hg2]) #[.slice (some ⟨g0, 0, none⟩) 2 2, .slice (some ⟨g2 + 1, 0, none⟩) 1 1] 29).box (b := g2 + 1 + 1 + 1) (by simp [hg2]) #[.int .i64 1] 3).box (b := g2 + 1 + 1 + 1 + 1) (by simp [hg2]) #[.int .i64 1, .int .i64 1] 3).box (b := g2 + 1 + 1 + 1 + 1 + 1) (by simp [hg2]) #[.slice (some ⟨g2 + 1 + 1 + 1, 0, none⟩) 1 1, .slice (some ⟨g2 + 1 + 1 + 1 + 1, 0, none⟩) 2 2] 27
  clear S S4
  go_wp2_with fail
  rw [← hg2]
  refine S5.gen (z := g2 + 6) (by simp [hg2]) ?_
  intro w5 z6 S
  clear S5 hg2
  have hkT : RowAt w5 (some ⟨g1, 0, none⟩) [.node (-1) []] := fun i hi => by
    obtain rfl : i = 0 := by simp at hi; omega
    exact ⟨g1, 0, none, 0, rfl, (S.two 1).1.1, (S.two 1).2.1, (TreeP.leaf anyP _ (-1)).at⟩
  have hxT : TreeAt w5 (.agg #[.int .i64 2, .slice (some ⟨g1, 0, none⟩) 1 1]) xT := TreeAt.close (h := 2) (ks := [.node (-1) []]) (sp := 0) hkT (by unfold maxLen; decide)
  have hcl : factE.Row anyP w5 (some ⟨g2, 0, none⟩) clT := row_block factE (S.block 2) trivial [[.bool false, .int .i64 2, .slice (some ⟨g1, 0, none⟩) 1 1, .int .i64 1, .slice none 0 0]] clT rfl rfl (fun i c x hc hx => by
    rcases i with _ | i
    · simp [clT] at hc hx; subst hc hx
      exact ⟨some ⟨g1, 0, none⟩, 0, none, 0, rfl, hxT.foot.mono (fun _ _ _ => trivial), TreeP.leaf _ _ 1⟩
    · simp at hc)
  have htb : intsE.Row anyP w5 (some ⟨g2 + 1 + 1 + 1 + 1 + 1, 0, none⟩) [[1], [1, 1]] := row_block intsE (S.block 7) trivial [[.slice (some ⟨g2 + 1 + 1 + 1, 0, none⟩) 1 1], [.slice (some ⟨g2 + 1 + 1 + 1 + 1, 0, none⟩) 2 2]] [[1], [1, 1]] rfl rfl (fun i c x hc hx => by
    rcases i with _ | _ | i
    · simp at hc hx; subst hc hx
      exact ⟨_, 0, rfl, row_ints (S.block 5) trivial rfl, by unfold maxLen; decide⟩
    · simp at hc hx; subst hc hx
      exact ⟨_, 0, rfl, row_ints (S.block 6) trivial rfl, by unfold maxLen; decide⟩
    · simp at hc)
  have hA : intE.Row anyP w5 (some ⟨g0, 0, none⟩) [0, 1] := row_ints (S.block 0) trivial rfl
  have hCl : claimE.Row anyP w5 (some ⟨g2 + 1, 0, none⟩) [clT] := row_block claimE (S.block 3) trivial [[.slice (some ⟨g2, 0, none⟩) 1 1]] [clT] rfl rfl (fun i c x hc hx => by
    rcases i with _ | i
    · simp at hc hx; subst hc hx
      exact ⟨some ⟨g2, 0, none⟩, 0, rfl, hcl, by unfold maxLen; decide⟩
    · simp at hc)
  have H := holds25 [0, 1] [clT] 2 [[1], [1, 1]] anyP anyP anyP (some ⟨g0, 0, none⟩) (some ⟨g2 + 1, 0, none⟩) (some ⟨g2 + 1 + 1 + 1 + 1 + 1, 0, none⟩) 2 1 0 w5 hA hCl htb (by unfold maxLen; decide) (by unfold maxLen; decide) (by unfold maxLen; decide)
  rw [holdsT] at H
  refine H.mono ?_
  rintro e w6 ⟨ro, sp, rfl, hrow, hb⟩
  have S := S.pick [4]
  have HA := Lib.hid (hA.kept hb)
  have HCL := Lib.hid (hCl.kept hb)
  have S6 := S.step hb
  have z7 := hb.size
  have HRO := Lib.hid hrow
  clear hkT hxT hcl htb hA hCl H S hrow hb
  simp only [FV]
  obtain ⟨b3, hb3⟩ : ∃ b, b = w6.heap.size := ⟨_, rfl⟩
  have S7 := S6.box hb3.symm #[.int .i64 0, .int .i64 0] 32
  have z8 : b3 + 1 ≤ (w6.alloc (.cells #[.int .i64 0, .int .i64 0] 32)).heap.size := by simp [hb3]
  have HR2 := Lib.hid (HRO.out.kept ((Below.refl _ w6).alloc (Nat.le_refl _) (.cells #[.int .i64 0, .int .i64 0] 32)))
  have HA2 := Lib.hid (HA.out.kept ((Below.refl _ w6).alloc (Nat.le_refl _) (.cells #[.int .i64 0, .int .i64 0] 32)))
  have HC2 := Lib.hid (HCL.out.kept ((Below.refl _ w6).alloc (Nat.le_refl _) (.cells #[.int .i64 0, .int .i64 0] 32)))
  have S8 := ((S7.add (.rowE boolE _ ro [true]) HR2.out).add (.rowE intE anyP _ [0, 1]) HA2.out).add (.rowE claimE anyP _ [clT]) HC2.out
  clear HRO HA HCL HR2 HA2 HC2 S6 S7
  go_wp2_with fail
  rw [← hb3]
  refine S8.genC (z := b3 + 1) z8 ?_
  intro w7 z9 S
  clear S8 z8 hb3
  obtain ⟨⟨x0, _⟩, x1, _⟩ := S.two 0
  have HA7 := Lib.hid (S.rowE intE 3); have HC7 := Lib.hid (S.rowE claimE 4)
  refine wp_region_inv (by kernel_rfl) (by kernel_rfl) (fun L a W => ∃ s26 s27 s28 s29 s30 s31 s32 s33 s34 s35 s25 s36 s37 s5 s4 : Value, a = { tmps := #[.bool false, .pointer (some ⟨g2 + 1 + 1, 0, none⟩), .slice ro 1 (1 + sp), .pointer (some ⟨b3, 0, none⟩), s4, s5, .slice (some ⟨g0, 0, none⟩) 2 2, .agg #[.int .i64 (-1), .slice none 0 0], .slice (some ⟨g1, 0, none⟩) 1 1, .agg #[.int .i64 2, .slice (some ⟨g1, 0, none⟩) 1 1], .agg #[.int .i64 1, .slice none 0 0], .agg #[.bool false, .int .i64 2, .slice (some ⟨g1, 0, none⟩) 1 1, .int .i64 1, .slice none 0 0], .slice (some ⟨g2, 0, none⟩) 1 1, .agg #[.slice (some ⟨g2, 0, none⟩) 1 1], .slice (some ⟨g2 + 1, 0, none⟩) 1 1, .agg #[.slice (some ⟨g0, 0, none⟩) 2 2, .slice (some ⟨g2 + 1, 0, none⟩) 1 1], .tuple #[.slice ro [true].length ([true].length + sp), .agg #[.int .i64 0, .int .i64 0]], .agg #[.slice (some ⟨g0, 0, none⟩) 2 2, .slice (some ⟨g2 + 1, 0, none⟩) 1 1], .slice (some ⟨g2 + 1 + 1 + 1, 0, none⟩) 1 1, .slice (some ⟨g2 + 1 + 1 + 1 + 1, 0, none⟩) 2 2, .slice (some ⟨g2 + 1 + 1 + 1 + 1 + 1, 0, none⟩) 2 2, .agg #[.int .i64 2, .slice (some ⟨g2 + 1 + 1 + 1 + 1 + 1, 0, none⟩) 2 2], .tuple #[.slice ro [true].length ([true].length + sp), .agg #[.int .i64 0, .int .i64 0]], .slice ro 1 (1 + sp), .agg #[.int .i64 0, .int .i64 0], s25, s26, s27, s28, s29, s30, s31, s32, s33, s34, s35, s36, s37, undef, undef, undef, undef, undef, undef, undef, undef, undef, undef, undef, undef, undef, undef, undef, undef, undef, undef, undef, undef, undef, undef], defers := [] } ∧ FactV w7 (.agg #[.slice (some ⟨g0, 0, none⟩) 2 2, .slice (some ⟨g2 + 1, 0, none⟩) 1 1]) (L 0) (L 1) (L 2) (L 3) (L 4) (L 5) (L 6) (L 7) (L 8) (L 9) (L 10) (L 11) (L 12) (L 13) (L 14) s26 s27 s28 s29 s30 s31 s32 s33 s34 s35 s25 s36 s37 s5 s4 W) ?h0 ?step ?fin
  case h0 =>
    refine ⟨_, _, _, _, _, _, _, _, _, _, _, _, _, _, _, rfl, ⟨(Below.refl _ _).drew, ?_, ?_, ?_, ?_, ?_, ?_, ?_, ?_, ?_, ?_, ?_, ?_, ?_, ?_, ?_⟩⟩
    all_goals (intro h; cases h)
  case step =>
    rintro L a W i o ho ⟨s26, s27, s28, s29, s30, s31, s32, s33, s34, s35, s25, s36, s37, s5, s4, rfl, hM⟩ hLi hdep K hK
    have hi : i < 16 := by
      have := (Array.getElem?_eq_some_iff.1 ho).1
      simpa using this
    rcases (show i = 0 ∨ i = 1 ∨ i = 2 ∨ i = 3 ∨ i = 4 ∨ i = 5 ∨ i = 6 ∨ i = 7 ∨ i = 8 ∨ i = 9 ∨ i = 10 ∨ i = 11 ∨ i = 12 ∨ i = 13 ∨ i = 14 ∨ i = 15 by omega) with rfl | rfl | rfl | rfl | rfl | rfl | rfl | rfl | rfl | rfl | rfl | rfl | rfl | rfl | rfl | rfl
    all_goals
      simp only [List.getElem?_toArray, List.getElem?_cons_succ, List.getElem?_cons_zero, Option.some.injEq] at ho
      subst ho
      simp [Region.binds] at hdep
    · have HM := Lib.hid hM
      have z0 := Below.cellOf HM.out.bel x0
      have z1 := Below.cellOf HM.out.bel x1
      clear hM hdep hLi
      go_simp
      refine hK _ _ ?_
      exact ⟨_, s27, s28, s29, s30, s31, s32, s33, s34, s35, s25, s36, s37, s5, s4, rfl, { HM.out with l0 := fun _ => rfl }⟩
    · have HM := Lib.hid hM
      clear hM hdep hLi
      go_simp
      have hb := fun o => (Below.refl W.heap.size W).alloc (Nat.le_refl _) o
      refine hK _ _ ?_
      exact ⟨s26, _, s28, s29, s30, s31, s32, s33, s34, s35, s25, s36, s37, s5, s4, rfl, { HM.out.mono (hb _) with l1 := fun _ => ⟨_, rfl, row_ints (heap_ofAlloc W _) trivial rfl⟩ }⟩
    · have HM := Lib.hid hM
      clear hM hdep hLi
      go_simp
      have hb := fun o => (Below.refl W.heap.size W).alloc (Nat.le_refl _) o
      refine hK _ _ ?_
      exact ⟨s26, s27, _, s29, s30, s31, s32, s33, s34, s35, s25, s36, s37, s5, s4, rfl, { HM.out.mono (hb _) with l2 := fun _ => ⟨_, rfl, row_ints (heap_ofAlloc W _) trivial rfl⟩ }⟩
    · obtain ⟨a1, rfl, hp1⟩ := hM.l1 (by first | exact hdep | simp [hdep])
      have HP1 := Lib.hid hp1
      clear hp1
      obtain ⟨a2, rfl, hp2⟩ := hM.l2 (by first | exact hdep | simp [hdep])
      have HP2 := Lib.hid hp2
      clear hp2
      have HM := Lib.hid hM
      clear hM hdep hLi
      go_simp
      have hb := fun o => (Below.refl W.heap.size W).alloc (Nat.le_refl _) o
      refine hK _ _ ?_
      exact ⟨s26, _, _, _, s30, s31, s32, s33, s34, s35, s25, s36, s37, s5, s4, rfl, { HM.out.mono (hb _) with l3 := fun _ => ⟨_, rfl, row_two (heap_ofAlloc W _) (HP1.out.kept (hb _)) (HP2.out.kept (hb _))⟩ }⟩
    · obtain ⟨a3, rfl, hp3⟩ := hM.l3 (by first | exact hdep | simp [hdep])
      have HP3 := Lib.hid hp3
      clear hp3
      have HM := Lib.hid hM
      clear hM hdep hLi
      go_simp
      refine hK _ _ ?_
      exact ⟨s26, s27, s28, _, _, s31, s32, s33, s34, s35, s25, s36, s37, s5, s4, rfl, { HM.out with l4 := fun _ => ⟨_, rfl, HP3.out⟩ }⟩
    · have HM := Lib.hid hM
      clear hM hdep hLi
      go_simp
      refine (leaf25 (-1) W).mono ?_
      rintro e W' ⟨rfl, hb⟩
      refine hK _ _ ?_
      exact ⟨s26, s27, s28, s29, s30, _, s32, s33, s34, s35, s25, s36, s37, s5, s4, rfl, { HM.out.mono hb with l5 := fun _ => rfl }⟩
    · obtain rfl := hM.l5 (by first | exact hdep | simp [hdep])
      have HM := Lib.hid hM
      clear hM hdep hLi
      go_simp
      have hb := fun o => (Below.refl W.heap.size W).alloc (Nat.le_refl _) o
      refine hK _ _ ?_
      exact ⟨s26, s27, s28, s29, s30, _, _, s33, s34, s35, s25, s36, s37, s5, s4, rfl, { HM.out.mono (hb _) with l6 := fun _ => ⟨_, rfl, row_leaf (heap_ofAlloc W _)⟩ }⟩
    · obtain ⟨a6, rfl, hp6⟩ := hM.l6 (by first | exact hdep | simp [hdep])
      have HP6 := Lib.hid hp6
      clear hp6
      have HM := Lib.hid hM
      clear hM hdep hLi
      go_simp
      refine hK _ _ ?_
      exact ⟨s26, s27, s28, s29, s30, s31, _, _, s34, s35, s25, s36, s37, s5, s4, rfl, { HM.out with l7 := fun _ => ⟨_, rfl, TreeAt.close (h := 2) (ks := [.node (-1) []]) (sp := 0) HP6.out (by unfold maxLen; decide)⟩ }⟩
    · have HM := Lib.hid hM
      clear hM hdep hLi
      go_simp
      have hb := fun o => (Below.refl W.heap.size W).alloc (Nat.le_refl _) o
      refine hK _ _ ?_
      exact ⟨s26, s27, s28, s29, s30, s31, s32, s33, _, s35, s25, s36, s37, s5, s4, rfl, { HM.out.mono (hb _) with l8 := fun _ => ⟨_, rfl, row_ints (heap_ofAlloc W _) trivial rfl⟩ }⟩
    · obtain rfl := hM.l0 (by first | exact hdep | simp [hdep])
      obtain ⟨a4, rfl, hp4⟩ := hM.l4 (by first | exact hdep | simp [hdep])
      have HP4 := Lib.hid hp4
      clear hp4
      obtain ⟨a7, rfl, hp7⟩ := hM.l7 (by first | exact hdep | simp [hdep])
      have HP7 := Lib.hid hp7
      clear hp7
      obtain ⟨a8, rfl, hp8⟩ := hM.l8 (by first | exact hdep | simp [hdep])
      have HP8 := Lib.hid hp8
      clear hp8
      have HM := Lib.hid hM
      have HV := value24 [0, 1] [clT] 2 [[1], [1, 0]] xT [1] anyP anyP anyP anyP (some ⟨g0, 0, none⟩) (some ⟨g2 + 1, 0, none⟩) (some ⟨a4, 0, none⟩) (some ⟨a8, 0, none⟩) 2 1 0 1 _ W (HA7.out.kept HM.out.bel) (HC7.out.kept HM.out.bel) HP4.out HP7.out HP8.out (by unfold maxLen; decide) (by unfold maxLen; decide) (by unfold maxLen; decide) (by unfold maxLen; decide) (by decide)
      rw [valueT] at HV
      simp only [FV] at HV
      clear hM hdep hLi
      go_simp
      refine HV.mono ?_
      rintro e W' ⟨rfl, hb⟩
      refine hK _ _ ?_
      exact ⟨_, s27, s28, s29, _, s31, s32, _, _, _, s25, s36, s37, s5, s4, rfl, { HM.out.mono hb with l9 := fun _ => rfl }⟩
    · obtain rfl := hM.l9 (by first | exact hdep | simp [hdep])
      have HM := Lib.hid hM
      clear hM hdep hLi
      go_simp
      refine hK _ _ ?_
      exact ⟨s26, s27, s28, s29, s30, s31, s32, s33, s34, _, _, s36, s37, s5, s4, rfl, { HM.out with l10 := fun _ => rfl }⟩
    · obtain rfl := hM.l10 (by first | exact hdep | simp [hdep])
      have HM := Lib.hid hM
      clear hM hdep hLi
      go_simp
      refine hK _ _ ?_
      exact ⟨s26, s27, s28, s29, s30, s31, s32, s33, s34, s35, _, _, s37, s5, s4, rfl, { HM.out with l11 := fun _ => rfl }⟩
    · obtain rfl := hM.l10 (by first | exact hdep | simp [hdep])
      have HM := Lib.hid hM
      clear hM hdep hLi
      go_simp
      refine hK _ _ ?_
      exact ⟨s26, s27, s28, s29, s30, s31, s32, s33, s34, s35, _, s36, _, s5, s4, rfl, { HM.out with l12 := fun _ => rfl }⟩
    · have HM := Lib.hid hM
      clear hM hdep hLi
      go_simp
      have hb := fun o => (Below.refl W.heap.size W).alloc (Nat.le_refl _) o
      refine hK _ _ ?_
      exact ⟨s26, s27, s28, s29, s30, s31, s32, s33, s34, s35, s25, s36, s37, _, s4, rfl, { HM.out.mono (hb _) with l13 := fun _ => ⟨_, rfl, heap_ofAlloc W _, HM.out.bel.size⟩ }⟩
    · obtain rfl := hM.l11 (by first | exact hdep | simp [hdep])
      have HM := Lib.hid hM
      clear hM hdep hLi
      go_simp
      refine hK _ _ ?_
      exact ⟨s26, s27, s28, s29, s30, s31, s32, s33, s34, s35, s25, _, s37, s5, _, rfl, { HM.out with l14 := fun _ => rfl }⟩
    · obtain ⟨a13, rfl, hp13⟩ := hM.l13 (by first | exact hdep | simp [hdep])
      have HP13 := Lib.hid hp13
      clear hp13
      obtain rfl := hM.l12 (by first | exact hdep | simp [hdep])
      have HM := Lib.hid hM
      obtain ⟨⟨q0, q1⟩, q2, q3⟩ := box2 HP13.out.1
      have hlq := heap_lt HP13.out.1
      clear hM hdep hLi
      go_simp
      rw [setCell_same HP13.out.1 rfl, setCell_same HP13.out.1 rfl]
      refine hK _ _ ?_
      exact ⟨s26, s27, s28, s29, s30, s31, s32, s33, s34, s35, s25, s36, _, _, s4, rfl, { HM.out with bel := HM.out.bel }⟩
  case fin =>
    rintro L a W hall ⟨s26, s27, s28, s29, s30, s31, s32, s33, s34, s35, s25, s36, s37, s5, s4, rfl, hM⟩
    obtain rfl := hM.l0 (hall 0 (by decide))
    obtain ⟨a1, rfl, hp1⟩ := hM.l1 (hall 1 (by decide))
    obtain ⟨a2, rfl, hp2⟩ := hM.l2 (hall 2 (by decide))
    obtain ⟨a3, rfl, hp3⟩ := hM.l3 (hall 3 (by decide))
    obtain ⟨a4, rfl, hp4⟩ := hM.l4 (hall 4 (by decide))
    obtain rfl := hM.l5 (hall 5 (by decide))
    obtain ⟨a6, rfl, hp6⟩ := hM.l6 (hall 6 (by decide))
    obtain ⟨a7, rfl, hp7⟩ := hM.l7 (hall 7 (by decide))
    obtain ⟨a8, rfl, hp8⟩ := hM.l8 (hall 8 (by decide))
    obtain rfl := hM.l9 (hall 9 (by decide))
    obtain rfl := hM.l10 (hall 10 (by decide))
    obtain rfl := hM.l11 (hall 11 (by decide))
    obtain rfl := hM.l12 (hall 12 (by decide))
    obtain ⟨a13, rfl, hp13⟩ := hM.l13 (hall 13 (by decide))
    obtain rfl := hM.l14 (hall 14 (by decide))
    have hbel := hM.bel
    clear hM hall
    have SF := S.step hbel
    have hbb := SF.rowE boolE 2
    obtain ⟨bb, boff, hro, _, hbc⟩ := hbb.bool (i := 0) (by simp)
    subst hro
    have hbc2 : W.cell? ⟨bb, boff, none⟩ = some (.bool true) := hbc
    clear hbc
    obtain ⟨⟨v0, _⟩, v1, _⟩ := SF.two 1
    obtain ⟨⟨q0, q1⟩, q2, q3⟩ := box2 hp13.1
    have SE := Lib.hid SF.bel
    clear S SF hp1 hp2 hp3 hp4 hp6 hp7 hp8 hbb hbel HA7 HC7
    go_wp2_with fail
    go_ret
    exact ⟨rfl, SE.out⟩
end Go.Proofs.Yteekoclfpehnpaa
