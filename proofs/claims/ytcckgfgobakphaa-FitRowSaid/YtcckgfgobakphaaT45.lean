/-
  Walk: the law FitRow.
-/
import Derived.Test.YtcckgfgobakphaaProg
import Derived.Test.YtcckgfgobakphaaBase
import Derived.Test.YtcckgfgobakphaaT44
import Derived.Test.YtcckgfgobakphaaP9
namespace Go.Proofs.Ytcckgfgobakphaa
open Go.RowKit Go.Shelf
set_option linter.unusedVariables false
set_option maxHeartbeats 400000

set_option maxRecDepth 100000 in
set_option maxHeartbeats 8000000 in
theorem fitRow9 (a b c : T) (va vb vc : Value) (w : World) (ha : TreeAt w va a) (hb : TreeAt w vb b) (hc : TreeAt w vc c) :
    Calls Try.prog 9 #[va, vb, vc] w fun e w' => e = .returned (.bool true) ∧ Below w.heap.size w w' := by
  obtain ⟨ao, asp, rfl⟩ := ha.form
  obtain ⟨bo, bsp, rfl⟩ := hb.form
  obtain ⟨co, csp, rfl⟩ := hc.form
  have HA := Lib.hid ha; have HB := Lib.hid hb; have HC := Lib.hid hc
  clear ha hb hc
  have S0 := (((St.start w).box rfl #[.int .i64 a.head, .slice ao a.kids.length (a.kids.length + asp)] 24).box (b := w.heap.size + 1) (by simp) #[.int .i64 b.head, .slice bo b.kids.length (b.kids.length + bsp)] 24).box (b := w.heap.size + 1 + 1) (by simp) #[.int .i64 c.head, .slice co c.kids.length (c.kids.length + csp)] 24
  go_enter Try.func9, Try.ntmps9
  go_wp2_with fail
  refine St.gen S0 (z := w.heap.size + 3) (by simp) ?_
  intro w1 z1 S1
  refine (S1.quiet (fitFact37 w1)).mono ?_
  rintro e w2 ⟨rfl, z2, S2⟩
  clear S0 S1
  obtain ⟨⟨x0, _⟩, x1, _⟩ := S2.two 0
  obtain ⟨⟨x2, _⟩, x3, _⟩ := S2.two 1
  have hl1 := S2.lt 1; have hl0 := S2.lt 0
  go_wp2_with fail
  refine (S2.fitted (do34 a b _ _ w2 (HA.out.kept S2.bel) (HB.out.kept S2.bel))).mono ?_
  rintro e w3 ⟨L1, x, c1, d1, r1, rc1, rfl, HD1, z3, S3⟩
  have S4 := S3.box rfl #[.int .i64 c1, .int .i64 d1] 28
  clear x0 x1 x2 x3 hl1 hl0 S2 S3
  obtain ⟨⟨x0, _⟩, x1, _⟩ := S4.two 1
  obtain ⟨⟨x2, _⟩, x3, _⟩ := S4.two 2
  have hl1 := S4.lt 1; have hl0 := S4.lt 2
  go_wp2_with fail
  refine St.gen S4 (z := w3.heap.size + 1) (by simp) ?_
  intro w4 z4 S5
  refine (S5.fitted (do34 b c _ _ w4 (HB.out.kept S5.bel) (HC.out.kept S5.bel))).mono ?_
  rintro e w5 ⟨L2, y, c2, d2, r2, rc2, rfl, HD2, z5, S6⟩
  have S7 := S6.box rfl #[.int .i64 c2, .int .i64 d2] 28
  clear x0 x1 x2 x3 hl1 hl0 S4 S5 S6
  obtain ⟨⟨x0, _⟩, x1, _⟩ := S7.two 0
  obtain ⟨⟨x2, _⟩, x3, _⟩ := S7.two 2
  have hl1 := S7.lt 0; have hl0 := S7.lt 2
  go_wp2_with fail
  refine St.gen S7 (z := w5.heap.size + 1) (by simp) ?_
  intro w6 z6 S8
  refine (S8.fitted (do34 a c _ _ w6 (HA.out.kept S8.bel) (HC.out.kept S8.bel))).mono ?_
  rintro e w7 ⟨L3, z, c3, d3, r3, rc3, rfl, HD3, z7, S9⟩
  have S10 := S9.box rfl #[.int .i64 c3, .int .i64 d3] 28
  clear x0 x1 x2 x3 hl1 hl0 S7 S8 S9
  obtain ⟨⟨x0, _⟩, x1, _⟩ := S10.two 0
  have hl1 := S10.lt 0
  go_wp2_with fail
  refine St.gen S10 (z := w7.heap.size + 1) (by simp) ?_
  intro w8 z8 S11
  refine (S11.fitted (do34 a a _ _ w8 (HA.out.kept S11.bel) (HA.out.kept S11.bel))).mono ?_
  rintro e w9 ⟨L4, v, c4, d4, r4, rc4, rfl, HD4, z9, S12⟩
  have S13 := S12.box rfl #[.int .i64 c4, .int .i64 d4] 28
  clear x0 x1 hl1 S10 S11 S12
  obtain ⟨⟨x0, _⟩, x1, _⟩ := S13.two 4
  obtain ⟨⟨x2, _⟩, x3, _⟩ := S13.two 6
  obtain ⟨⟨x4, _⟩, x5, _⟩ := S13.two 8
  have hl4 := S13.lt 4; have hl6 := S13.lt 6; have hl8 := S13.lt 8
  cases hc1 : (c1 != 0) with
  | true =>
    go_wp2_with fail
    refine bodyPost_ret (v := .bool true) (by simp [results, Try.results9, go_sem]) rfl ⟨rfl, S13.bel⟩
  | false =>
    cases hc2 : (c2 != 0) with
    | true =>
      go_wp2_with fail
      refine bodyPost_ret (v := .bool true) (by simp [results, Try.results9, go_sem]) rfl ⟨rfl, S13.bel⟩
    | false =>
      cases hc3 : (c3 != 0) with
      | true =>
        go_wp2_with fail
        refine bodyPost_ret (v := .bool true) (by simp [results, Try.results9, go_sem]) rfl ⟨rfl, S13.bel⟩
      | false =>
        obtain rfl : c1 = 0 := by simpa using hc1
        obtain rfl : c2 = 0 := by simpa using hc2
        obtain rfl : c3 = 0 := by simpa using hc3
        obtain ⟨rfl, rfl, hxyz⟩ := fitRow_law HD1.out HD2.out HD3.out HD4.out
        have HX := Lib.hid hxyz
        clear hxyz hc1 hc2 hc3
        cases x with
        | false =>
          go_wp2_with fail
          refine bodyPost_ret (v := .bool true) (by simp [results, Try.results9, go_sem]) rfl ⟨rfl, S13.bel⟩
        | true =>
          cases y with
          | false =>
            go_wp2_with fail
            refine bodyPost_ret (v := .bool true) (by simp [results, Try.results9, go_sem]) rfl ⟨rfl, S13.bel⟩
          | true =>
            obtain rfl := HX.out rfl rfl
            go_wp2_with fail
            refine bodyPost_ret (v := .bool true) (by simp [results, Try.results9, go_sem]) rfl ⟨rfl, S13.bel⟩
end Go.Proofs.Ytcckgfgobakphaa
