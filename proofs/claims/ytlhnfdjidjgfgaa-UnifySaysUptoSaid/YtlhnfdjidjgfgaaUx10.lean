/-
  Walks: the closed fact of the unification laws.
-/
import Derived.Test.YtlhnfdjidjgfgaaProg
import Derived.Test.YtlhnfdjidjgfgaaUx9
import Derived.Test.YtlhnfdjidjgfgaaUn3
namespace Go.Proofs.Ytlhnfdjidjgfgaa
open Go.RowKit Go.Shelf
set_option linter.unusedVariables false
set_option maxHeartbeats 400000

theorem St.did33 {P : Program} {n : Nat} {a : Array Value} {w0 w : World} {l : List Fct} (S : St w0 w l) {A B : T} (h : Calls P n a w (Do33Post A B w)) :
    Calls P n a w fun e w' => ∃ (L : List T) (ok : Bool) (f : Int × Int) (ro : Option Addr) (rc : Nat), e = .returned (.tuple #[.slice ro L.length rc, .bool ok, .agg #[.int .i64 f.1, .int .i64 f.2]]) ∧ Hid (UAns A B L ok f) ∧ w.heap.size ≤ w'.heap.size ∧ St w0 w' (fsnoc l (.row w.heap.size w'.heap.size ro L)) :=
  h.mono fun e w' ⟨L, ok, f, ro, rc, h1, h2, h3, h4⟩ => ⟨L, ok, f, ro, rc, h1, h2, h4.size, (S.step h4).add (.row _ _ ro _) h3⟩
theorem St.two9 {P : Program} {n : Nat} {a : Array Value} {w0 w : World} {l : List Fct} (S : St w0 w l) {R : T} (h : Calls P n a w (OneP (fun _ => False) R w)) :
    Calls P n a w fun e w' => ∃ k sp, e = .returned (.agg #[.int .i64 R.head, .slice k R.kids.length (R.kids.length + sp)]) ∧ w.heap.size ≤ w'.heap.size ∧ St w0 w' (fsnoc l (.treeP (fun b => w.heap.size ≤ b) (.agg #[.int .i64 R.head, .slice k R.kids.length (R.kids.length + sp)]) R)) :=
  h.mono fun e w' ⟨u, h1, h2, h3⟩ => by
    obtain ⟨k, sp, rfl⟩ := h2.at.form
    exact ⟨k, sp, h1, h3.size, (S.step h3).add (.treeP _ _ _) (h2.mono fun b hb hl => hb.resolve_left (fun h => h))⟩

set_option maxRecDepth 100000 in
set_option maxHeartbeats 4000000 in
theorem fact36 (w : World) : Calls Try.prog 36 #[] w fun e w' => e = .returned (.bool true) ∧ Below w.heap.size w w' := by
  have S0 := St.start w
  go_enter Try.func36, Try.ntmps36
  go_wp2_with fail
  refine (S0.quiet (leaf25 (-1) w)).mono ?_
  rintro e w1 ⟨rfl, z1, S1⟩
  clear S0
  go_wp2_with fail
  refine (S1.quiet (leaf25 2 w1)).mono ?_
  rintro e w2 ⟨rfl, z2, S2⟩
  clear S1
  go_wp2_with fail
  refine (S2.two9 (two39 (fun _ => False) 1 (vT 0) lf2 _ _ w2 (fun b h => h.elim) (TreeP.leaf _ _ _) (TreeP.leaf _ _ _))).mono ?_
  rintro e w3 ⟨k3, s3, rfl, z3, S3⟩
  clear S2
  go_wp2_with fail
  refine (S3.quiet (leaf25 (-2) w3)).mono ?_
  rintro e w4 ⟨rfl, z4, S4⟩
  clear S3
  go_wp2_with fail
  refine (S4.quiet (leaf25 (-1) w4)).mono ?_
  rintro e w5 ⟨rfl, z5, S5⟩
  clear S4
  go_wp2_with fail
  refine (S5.two9 (two39 (fun _ => False) 1 (vT 1) (vT 0) _ _ w5 (fun b h => h.elim) (TreeP.leaf _ _ _) (TreeP.leaf _ _ _))).mono ?_
  rintro e w6 ⟨k6, s6, rfl, z6, S6⟩
  clear S5
  go_wp2_with fail
  refine (S6.did33 (unify33 fA fB _ _ w6 (S6.treeP 0).at (S6.treeP 1).at)).mono ?_
  rintro e w7 ⟨L, ok, f, ro, rc, rfl, HU, z7, S7⟩
  obtain ⟨rfl, rfl, rfl⟩ := factU1 HU.out
  have S8 := (S7.pick [2]).box (b := w7.heap.size) rfl #[.int .i64 0, .int .i64 0] 29
  clear S6 S7
  go_upto_region 2 with fail
  refine S8.genC (z := w7.heap.size + 1) (by simp) ?_
  intro w8 z8 S9
  clear S8 HU
  go_wp2_with fail
  refine (S9.quiet (leaf25 (-1) w8)).mono ?_
  rintro e w9 ⟨rfl, z9, S10⟩
  clear S9
  go_wp2_with fail
  refine (S10.quiet (leaf25 (-1) w9)).mono ?_
  rintro e w10 ⟨rfl, z10, S11⟩
  clear S10
  go_wp2_with fail
  refine (S11.quiet (leaf25 2 w10)).mono ?_
  rintro e w11 ⟨rfl, z11, S12⟩
  clear S11
  go_wp2_with fail
  refine (S12.two9 (two39 (fun _ => False) 1 (vT 0) lf2 _ _ w11 (fun b h => h.elim) (TreeP.leaf _ _ _) (TreeP.leaf _ _ _))).mono ?_
  rintro e w12 ⟨k12, s12, rfl, z12, S13⟩
  clear S12
  go_wp2_with fail
  refine (S13.did33 (unify33 (vT 0) fC _ _ w12 (TreeP.leaf (fun _ => True) _ _).at (S13.treeP 2).at)).mono ?_
  rintro e w13 ⟨L, ok, f, ro2, rc2, rfl, HU, z13, S14⟩
  obtain ⟨rfl, rfl, rfl⟩ := factU2 HU.out
  have S15 := (S14.pick [0, 1]).box (b := w13.heap.size) rfl #[.int .i64 0, .int .i64 0] 29
  clear S13 S14
  go_upto_region 3 with fail
  refine S15.genC (z := w13.heap.size + 1) (by simp) ?_
  intro w14 z14 S16
  clear S15 HU
  obtain ⟨⟨x0, _⟩, x1, _⟩ := S16.two 1
  obtain ⟨⟨y0, _⟩, y1, _⟩ := S16.two 2
  go_wp2_with fail
  refine (S16.quiet (leaf25 2 w14)).mono ?_
  rintro e w15 ⟨rfl, z15, S17⟩
  clear S16 x0 x1 y0 y1
  go_wp2_with fail
  refine (S17.quiet (leaf25 2 w15)).mono ?_
  rintro e w16 ⟨rfl, z16, S18⟩
  have S19 := S18.box (b := w16.heap.size) rfl #[.int .i64 2, .slice none 0 0, .int .i64 2, .slice none 0 0] 38
  clear S17 S18
  go_wp2_with fail
  refine S19.gen (z := w16.heap.size + 1) (by simp) ?_
  intro w17 z17 S20
  clear S19
  have hr1 : RowAt w17 ro [lf2, lf2] := (S20.row 0).at
  have hr2 : RowAt w17 (some ⟨w16.heap.size, 0, none⟩) [lf2, lf2] := (row2 (p := fun _ => True) (ka := none) (kc := none) (sa := 0) (sc := 0) (a := lf2) (c := lf2) (S20.block 3) trivial (TreeP.leaf _ _ _) (TreeP.leaf _ _ _)).at
  refine (S20.quiet (binds35 [lf2, lf2] [lf2, lf2] ro _ rc 2 w17 hr1 hr2 (by simp) (by simp))).mono ?_
  rintro e w18 ⟨rfl, z18, S21⟩
  have HB := Lib.hid S21.bel
  clear S20 S21 hr1 hr2
  go_wp2_with fail
  go_ret
  exact ⟨by simp, HB.out⟩
end Go.Proofs.Ytlhnfdjidjgfgaa
