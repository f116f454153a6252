/-
  Walk: the closed fact of the laws on matching.
-/
import Derived.Test.YtcckgfgobakphaaProg
import Derived.Test.YtcckgfgobakphaaBase
import Derived.Test.YtcckgfgobakphaaT27
import Derived.Test.YtcckgfgobakphaaT42
namespace Go.Proofs.Ytcckgfgobakphaa
open Go.RowKit Go.Shelf
set_option linter.unusedVariables false
set_option maxHeartbeats 400000

def leafT (h : Int) : T := .node h []
def twoT (h : Int) (a b : T) : T := .node h [a, b]
theorem St.leaf {w0 w : World} {l : List Fct} (S : St w0 w l) (h : Int) : TreeAt w (.agg #[.int .i64 h, .slice none 0 0]) (.node h []) := (TreeP.leaf (fun _ => True) w h).at
theorem St.oneT {P : Program} {n : Nat} {a : Array Value} {w0 w : World} {l : List Fct} (S : St w0 w l) {t : T} (h : Calls P n a w (OneTree t w)) :
    Calls P n a w fun e w' => ∃ k sp, e = .returned (.agg #[.int .i64 t.head, .slice k t.kids.length (t.kids.length + sp)]) ∧ w.heap.size ≤ w'.heap.size ∧ St w0 w' (fsnoc l (.treeP (fun b => b < w'.heap.size) (.agg #[.int .i64 t.head, .slice k t.kids.length (t.kids.length + sp)]) t)) :=
  h.mono fun e w' ⟨u, h1, h2, h3⟩ => by
    obtain ⟨k, sp, rfl⟩ := h2.form
    exact ⟨k, sp, h1, h3.size, (S.step h3).add (.treeP _ _ t) h2.foot⟩
theorem leaf_tree (h : Int) (h0 : h ≠ 0) (h1 : -8 ≤ h) (h2 : h ≤ 12) : (treeF (.node h [])) = (0, 0) := by
  have e1 : badHead h = False := by simp [badHead]; omega
  simp [treeF, T.size, sizeL, T.deep, deepL, T.nodes, nodesL, e1, badKids]
theorem two_tree (h : Int) (a b : Int) (h0 : h ≠ 0) (h1 : 0 < h) (h2 : h ≤ 12) (ha0 : a ≠ 0) (ha1 : -8 ≤ a) (ha2 : a ≤ 12) (hb0 : b ≠ 0) (hb1 : -8 ≤ b) (hb2 : b ≤ 12) : treeF (.node h [.node a [], .node b []]) = (0, 0) := by
  have e1 : badHead h = False := by simp [badHead]; omega
  have e2 : badHead a = False := by simp [badHead]; omega
  have e3 : badHead b = False := by simp [badHead]; omega
  have e4 : ¬ h < 0 := by omega
  simp [treeF, T.size, sizeL, T.deep, deepL, T.nodes, nodesL, e1, e2, e3, badKids, e4]
theorem fit_fact1 : fitD (.node 1 [.node (-1) [], .node (-1) []]) (.node 1 [.node 2 [], .node 2 []]) = ([.node 2 []], true, 0, 0) := by
  have h1 := two_tree 1 (-1) (-1) (by decide) (by decide) (by decide) (by decide) (by decide) (by decide) (by decide) (by decide) (by decide)
  have h2 := two_tree 1 2 2 (by decide) (by decide) (by decide) (by decide) (by decide) (by decide) (by decide) (by decide) (by decide)
  have hf : T.fit (.node 1 [.node (-1) [], .node (-1) []]) (.node 1 [.node 2 [], .node 2 []]) (fun _ => zeroT) = some (setT (fun _ => zeroT) 0 (.node 2 [])) := by
    simp [T.fit, fitL, T.head, T.kids, zeroT, setT]
  have hm : (T.node 1 [.node (-1) [], .node (-1) []]).most.toNat = 1 := by decide
  have hF : fitF (.node 1 [.node (-1) [], .node (-1) []]) (.node 1 [.node 2 [], .node 2 []]) = some [.node 2 []] := by
    rw [fitF, hf, hm]; simp [listT, setT]
  rw [fitD, h1, h2, fitLst, hF]; simp
theorem fit_fact2 : fitD (.node 1 [.node (-1) [], .node (-1) []]) (.node 1 [.node 2 [], .node 3 []]) = ([], false, 0, 0) := by
  have h1 := two_tree 1 (-1) (-1) (by decide) (by decide) (by decide) (by decide) (by decide) (by decide) (by decide) (by decide) (by decide)
  have h2 := two_tree 1 2 3 (by decide) (by decide) (by decide) (by decide) (by decide) (by decide) (by decide) (by decide) (by decide)
  have hf : T.fit (.node 1 [.node (-1) [], .node (-1) []]) (.node 1 [.node 2 [], .node 3 []]) (fun _ => zeroT) = none := by
    simp [T.fit, fitL, T.head, T.kids, zeroT, setT]
  have hF : fitF (.node 1 [.node (-1) [], .node (-1) []]) (.node 1 [.node 2 [], .node 3 []]) = none := by rw [fitF, hf]; rfl
  rw [fitD, h1, h2, fitLst, hF]; simp

set_option maxRecDepth 100000 in
set_option maxHeartbeats 4000000 in
theorem fitFact37 (w : World) : Calls Try.prog 37 #[] w fun e w' => e = .returned (.bool true) ∧ Below w.heap.size w w' := by
  have S0 := St.start w
  go_enter Try.func37, Try.ntmps37
  go_wp2_with fail
  refine (S0.quiet (leaf25 (-1) w)).mono ?_
  rintro e w1 ⟨rfl, z1, S1⟩
  go_wp2_with fail
  refine (S1.quiet (leaf25 (-1) w1)).mono ?_
  rintro e w2 ⟨rfl, z2, S2⟩
  go_wp2_with fail
  refine (S2.oneT (two46 1 (.node (-1) []) (.node (-1) []) _ _ w2 (S2.leaf _) (S2.leaf _))).mono ?_
  rintro e w3 ⟨k3, sp3, rfl, z3, S3⟩
  go_wp2_with fail
  refine (S3.quiet (leaf25 2 w3)).mono ?_
  rintro e w4 ⟨rfl, z4, S4⟩
  go_wp2_with fail
  refine (S4.quiet (leaf25 2 w4)).mono ?_
  rintro e w5 ⟨rfl, z5, S5⟩
  go_wp2_with fail
  refine (S5.oneT (two46 1 (.node 2 []) (.node 2 []) _ _ w5 (S5.leaf _) (S5.leaf _))).mono ?_
  rintro e w6 ⟨k6, sp6, rfl, z6, S6⟩
  go_wp2_with fail
  refine (S6.fitted (do34 _ _ _ _ w6 (S6.treeP 0).at (S6.treeP 1).at)).mono ?_
  rintro e w7 ⟨L, ok, c, d, ro, rc, rfl, HD, z7, S7⟩
  obtain ⟨rfl, rfl, rfl, rfl⟩ : [T.node 2 []] = L ∧ true = ok ∧ 0 = c ∧ 0 = d := by have h := HD.out; rw [fit_fact1] at h; simpa using h
  have S8 := S7.box rfl #[.int .i64 0, .int .i64 0] 28
  clear S0 S1 S2 S3 S4 S5 S6 S7
  go_wp2_with fail
  refine St.gen S8 (z := w7.heap.size + 1) (by simp) ?_
  intro w8 z8 S9
  refine (S9.quiet (leaf25 (-1) w8)).mono ?_
  rintro e w9 ⟨rfl, z9, S10⟩
  go_wp2_with fail
  refine (S10.quiet (leaf25 (-1) w9)).mono ?_
  rintro e w10 ⟨rfl, z10, S11⟩
  go_wp2_with fail
  refine (S11.oneT (two46 1 (.node (-1) []) (.node (-1) []) _ _ w10 (S11.leaf _) (S11.leaf _))).mono ?_
  rintro e w11 ⟨k11, sp11, rfl, z11, S12⟩
  go_wp2_with fail
  refine (S12.quiet (leaf25 2 w11)).mono ?_
  rintro e w12 ⟨rfl, z12, S13⟩
  go_wp2_with fail
  refine (S13.quiet (leaf25 3 w12)).mono ?_
  rintro e w13 ⟨rfl, z13, S14⟩
  go_wp2_with fail
  refine (S14.oneT (two46 1 (.node 2 []) (.node 3 []) _ _ w13 (S14.leaf _) (S14.leaf _))).mono ?_
  rintro e w14 ⟨k14, sp14, rfl, z14, S15⟩
  go_wp2_with fail
  refine (S15.fitted (do34 _ _ _ _ w14 (S15.treeP 4).at (S15.treeP 5).at)).mono ?_
  rintro e w15 ⟨L, ok, c, d, ro2, rc2, rfl, HD2, z15, S16⟩
  obtain ⟨rfl, rfl, rfl, rfl⟩ : ([] : List T) = L ∧ false = ok ∧ 0 = c ∧ 0 = d := by have h := HD2.out; rw [fit_fact2] at h; simpa using h
  have S17 := S16.box rfl #[.int .i64 0, .int .i64 0] 28
  clear S8 S9 S10 S11 S12 S13 S14 S15 S16
  obtain ⟨⟨x0, _⟩, x1, _⟩ := S17.two 3
  have hl3 := S17.lt 3
  go_wp2_with fail
  refine St.gen S17 (z := w15.heap.size + 1) (by simp) ?_
  intro w16 z16 S18
  clear x0 x1 hl3 S17
  refine (S18.quiet (leaf25 2 w16)).mono ?_
  rintro e w17 ⟨rfl, z17, S19⟩
  have S20 := S19.box rfl #[.int .i64 2, .slice none 0 0] 24
  go_wp2_with fail
  refine St.gen S20 (z := w17.heap.size + 1) (by simp) ?_
  intro w18 z18 S21
  refine (S21.quiet (binds36 [.node 2 []] [.node 2 []] ro _ rc _ w18 (S21.row 2).at (row_leaf (S21.block 8)) (by simp) (by simp))).mono ?_
  rintro e w19 ⟨rfl, z19, S22⟩
  simp only [decide_true]
  go_wp2_with fail
  refine bodyPost_ret (v := .bool true) (by simp [results, Try.results37, go_sem]) rfl ⟨rfl, S22.bel⟩
end Go.Proofs.Ytcckgfgobakphaa
