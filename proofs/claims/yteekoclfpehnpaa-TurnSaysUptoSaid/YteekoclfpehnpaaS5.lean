/-
  Walks: turn.Once.
-/
import Derived.Test.YteekoclfpehnpaaProg
import Derived.Test.YteekoclfpehnpaaR5
import Derived.RegionTactic
namespace Go.Proofs.Yteekoclfpehnpaa
open Go.RowKit Go.Shelf
set_option linter.unusedVariables false
set_option maxHeartbeats 400000

noncomputable def onceF (rs : List Ru) (t : T) : T × Bool × (Int × Int) :=
  if (checkF rs t).1 ≠ 0 then (zeroT, false, checkF rs t)
  else if (treeF ((t.step rs).getD t)).1 ≠ 0 then (zeroT, false, (10, 0)) else ((t.step rs).getD t, (t.step rs).isSome, (0, 0))
def OnceP (r : T × Bool × (Int × Int)) (w : World) (e : Ending) (w' : World) : Prop :=
  ∃ u, e = .returned (.tuple #[u, .bool r.2.1, FV r.2.2]) ∧ TreeP (fun b => w.heap.size ≤ b) w' u r.1 ∧ Below w.heap.size w w'
theorem ret_box2o {P : Program} {fn : Func} {R : Ending → World → Prop} {a : Act} {w : World} (x y z p q : Value) (b c : Nat) (T T' : TypeId) (hb : w.heap[b]? = some (.cells #[x, y] T (0, 0))) (hc : w.heap[c]? = some (.cells #[p, q] T' (0, 0)))
    (hres : ∀ w' : World, w'.cell? ⟨b, 0, none⟩ = some x → w'.cell? ⟨b, 1, none⟩ = some y → w'.cell? ⟨c, 0, none⟩ = some p → w'.cell? ⟨c, 1, none⟩ = some q → (results fn a.tmps).run P w' = .ok (.tuple #[.agg #[x, y], z, .agg #[p, q]]) w') (hd : a.defers = [])
    (hR : R (.returned (.tuple #[.agg #[x, y], z, .agg #[p, q]])) w) : bodyPost P fn R .ret a w := bodyPost_ret (hres w (box2 hb).1.1 (box2 hb).2.1 (box2 hc).1.1 (box2 hc).2.1) hd hR

set_option maxRecDepth 100000 in
set_option maxHeartbeats 4000000 in
theorem once46 (rs : List Ru) (t : T) (p0 : Nat → Prop) (v : Value) (ao : Option Addr) (c : Nat) (w : World) (hp : ∀ b, p0 b → b < w.heap.size) (hrow : ruleE.Row p0 w ao rs) (ht : TreeP p0 w v t) (hn : rs.length ≤ 1000000) :
    Calls Try.prog 46 #[.slice ao rs.length c, v] w (OnceP (onceF rs t) w) := by
  obtain ⟨tk, ts, rfl⟩ := ht.at.form
  have HT := Lib.hid ht
  have HP := Lib.hid hp; have HW := Lib.hid hrow
  have hfld := field28_0
  obtain ⟨bx, hbx⟩ : ∃ b, b = w.heap.size := ⟨_, rfl⟩
  have S1 := (((St.start w).box hbx.symm #[.int .i64 t.head, .slice tk t.kids.length (t.kids.length + ts)] 44).box (b := bx + 1) (by simp [hbx]) #[.int .i64 0, .slice none 0 0] 44).box (b := bx + 2) (by simp [hbx]) #[.int .i64 0, .int .i64 0] 32
  have hsz1 : (((w.alloc (.cells #[.int .i64 t.head, .slice tk t.kids.length (t.kids.length + ts)] 44)).alloc (.cells #[.int .i64 0, .slice none 0 0] 44)).alloc (.cells #[.int .i64 0, .int .i64 0] 32)).heap.size = bx + 3 := by simp [hbx]
  clear ht hp hrow
  go_enter Try.func46, Try.ntmps46
  go_wp2_with fail
  rw [← hbx]
  refine S1.gen (z := bx + 3) (by omega) ?_
  intro w1 z1 S
  have HBX := Lib.hid hbx
  clear S1 hbx hsz1
  refine (S.faultF (check86 rs t p0 ao c _ w1 (HW.out.kept S.bel) (HT.out.kept S.bel).at (by omega))).mono ?_
  rintro e w2 ⟨xc, xd, rfl, HC, z2, S2⟩
  clear S
  obtain ⟨b9, hb9⟩ : ∃ b, b = w2.heap.size := ⟨_, rfl⟩
  have S := S2.box hb9.symm #[.int .i64 xc, .int .i64 xd] 32
  have z3 : b9 + 1 ≤ (w2.alloc (.cells #[.int .i64 xc, .int .i64 xd] 32)).heap.size := by simp [hb9]
  have HB9 := Lib.hid (show bx + 3 ≤ b9 by omega)
  clear S2
  by_cases hc : xc = 0
  · have hcb : (xc != 0) = false := by simp [hc]
    have HOK := Lib.hid (checkF_zero (show (checkF rs t).1 = 0 by rw [HC.out, hc]))
    have HC0 := Lib.hid (show ¬ (checkF rs t).1 ≠ 0 by rw [HC.out]; simpa using hc)
    clear hc
    obtain ⟨⟨x0, _⟩, x1, _⟩ := S.two 0
    go_wp2_with fail
    rw [← hb9]
    refine S.gen (z := b9 + 1) z3 ?_
    intro w3 z4 S
    clear x0 x1 z3 hb9
    have H := step93 rs HOK.out.2.1 hn t p0 _ ao c w3 (fun b hb => by have := HP.out b hb; have := S.bel.size; omega) (HW.out.kept S.bel) (HT.out.kept S.bel) (by have := (treeF_ok.1 HOK.out.2.2).1; omega)
    have HXS := Lib.hid (show ((t.step rs).getD t).size ≤ 1000000 by
      have h40 := (treeF_ok.1 HOK.out.2.2).1
      cases hst : t.step rs with
      | none => show t.size ≤ 1000000; omega
      | some x => show x.size ≤ 1000000; have := T.step_size (fun i f hf => (treeF_ok.1 (HOK.out.2.1 i f hf).2).1) hst; omega)
    obtain ⟨x, hx⟩ : ∃ x, x = (t.step rs).getD t := ⟨_, rfl⟩
    obtain ⟨ok, hok⟩ : ∃ ok, ok = (t.step rs).isSome := ⟨_, rfl⟩
    rw [← hx, ← hok] at H
    rw [← hx] at HXS
    have HX := Lib.hid hx; have HK := Lib.hid hok
    refine (S.stepped H).mono ?_
    rintro e w4 ⟨xk, xs, rfl, z5, S4⟩
    clear S H hx hok
    obtain ⟨b10, hb10⟩ : ∃ b, b = w4.heap.size := ⟨_, rfl⟩
    have S := S4.box hb10.symm #[.int .i64 x.head, .slice xk x.kids.length (x.kids.length + xs)] 44
    have z6 : b10 + 1 ≤ (w4.alloc (.cells #[.int .i64 x.head, .slice xk x.kids.length (x.kids.length + xs)] 44)).heap.size := by simp [hb10]
    have HB10 := Lib.hid (show b9 + 1 ≤ b10 by omega)
    clear S4
    obtain ⟨⟨x0, _⟩, x1, _⟩ := S.two 5
    have hlx := S.lt 5
    go_wp2_with fail
    rw [← hb10]
    refine S.gen (z := b10 + 1) z6 ?_
    intro w5 z7 S
    clear x0 x1 z6 hb10 hlx
    refine (S.faultF (check29 x _ w5 (S.treeP 4).at)).mono ?_
    rintro e w6 ⟨yc, yd, rfl, HCX, z8, S6⟩
    clear S
    by_cases hc : yc = 0
    · have hcb : (yc != 0) = false := by simp [hc]
      have HF := Lib.hid (show onceF rs t = (x, ok, (0, 0)) by unfold onceF; rw [if_neg HC0.out, ← HX.out, if_neg (by rw [HCX.out]; simpa using hc), ← HK.out])
      clear hc
      obtain ⟨⟨x0, _⟩, x1, _⟩ := S6.two 5
      have hlx := S6.lt 5
      go_wp2_with fail
      refine (copy50 x _ w6 (S6.treeP 4).at (by have := HXS.out; omega)).mono ?_
      rintro e w7 ⟨u2, rfl, hu2, hb7⟩
      obtain ⟨vk, vs, rfl⟩ := hu2.at.form
      have HU := Lib.hid hu2
      have S := S6.step hb7
      have z9 := Lib.hid (show bx + 3 ≤ w6.heap.size by have := HB9.out; have := HB10.out; omega)
      clear hu2 hb7 S6 x0 x1 hlx
      obtain ⟨⟨y0, y1⟩, y2, y3⟩ := S.two 1
      obtain ⟨⟨q0, q1⟩, q2, q3⟩ := S.two 2
      have hl1 := S.lt 1
      have hl2 := S.lt 2
      have SB := Lib.hid S
      clear S
      go_wp2_with fail
      refine ret_box2o (.int .i64 x.head) (.slice vk x.kids.length (x.kids.length + vs)) (.bool ok) (.int .i64 0) (.int .i64 0) (bx + 1) (bx + 2) 44 32 (two22 (SB.out.block 1) (SB.out.block 2) (by omega) _ _ _ _).1 (two22 (SB.out.block 1) (SB.out.block 2) (by omega) _ _ _ _).2 (fun w' z0 z1 z2 z3 => by simp [results, Try.results46, go_sem, z0, z1, z2, z3]) rfl ?_
      have hx := HBX.out
      rw [HF.out]
      refine ⟨_, rfl, ?_, below22 SB.out.bel (by omega) (by omega) _ _ _ _⟩
      have h9 := z9.out
      exact ((((HU.out.setCell (a := ⟨bx + 1, 0, none⟩) (by show ¬ w6.heap.size ≤ bx + 1; omega) _).setCell (a := ⟨bx + 1, 1, none⟩) (by show ¬ w6.heap.size ≤ bx + 1; omega) _).setCell (a := ⟨bx + 2, 0, none⟩) (by show ¬ w6.heap.size ≤ bx + 2; omega) _).setCell (a := ⟨bx + 2, 1, none⟩) (by show ¬ w6.heap.size ≤ bx + 2; omega) _).mono (fun b h _ => by have h : w6.heap.size ≤ b := h; omega)
    · have hcb : (yc != 0) = true := by simp [hc]
      have HF := Lib.hid (show onceF rs t = (zeroT, false, (10, 0)) by unfold onceF; rw [if_neg HC0.out, ← HX.out, if_pos (by rw [HCX.out]; exact hc)])
      have S := S6
      clear hc S6
      obtain ⟨⟨y0, y1⟩, y2, y3⟩ := S.two 1
      obtain ⟨⟨q0, q1⟩, q2, q3⟩ := S.two 2
      have hl1 := S.lt 1
      have hl2 := S.lt 2
      have SB := Lib.hid S
      clear S
      go_wp2_with fail
      refine ret_box2o (.int .i64 0) (.slice none 0 0) (.bool false) (.int .i64 10) (.int .i64 0) (bx + 1) (bx + 2) 44 32 (two22 (SB.out.block 1) (SB.out.block 2) (by omega) _ _ _ _).1 (two22 (SB.out.block 1) (SB.out.block 2) (by omega) _ _ _ _).2 (fun w' z0 z1 z2 z3 => by simp [results, Try.results46, go_sem, z0, z1, z2, z3]) rfl ?_
      have hx := HBX.out
      rw [HF.out]
      refine ⟨_, rfl, ?_, below22 SB.out.bel (by omega) (by omega) _ _ _ _⟩
      exact TreeP.zero _ _
  · have hcb : (xc != 0) = true := by simp [hc]
    have HF := Lib.hid (show onceF rs t = (zeroT, false, (xc, xd)) by unfold onceF; rw [if_pos (by rw [HC.out]; exact hc), HC.out])
    obtain ⟨⟨x0, _⟩, x1, _⟩ := S.two 3
    have hl3 := S.lt 3
    clear hc
    go_wp2_with fail
    rw [← hb9]
    refine S.genC (z := b9 + 1) z3 ?_
    intro w3 z4 S
    clear x0 x1 hl3 z3 hb9
    obtain ⟨⟨y0, y1⟩, y2, y3⟩ := S.two 1
    obtain ⟨⟨q0, q1⟩, q2, q3⟩ := S.two 2
    have hl1 := S.lt 1
    have hl2 := S.lt 2
    obtain ⟨⟨x0, _⟩, x1, _⟩ := S.two 3
    have SD := S.drew
    obtain ⟨⟨y4, y5⟩, y6, y7⟩ := SD.two 1
    obtain ⟨⟨q4, q5⟩, q6, q7⟩ := SD.two 2
    obtain ⟨⟨x4, _⟩, x5, _⟩ := SD.two 3
    have hl4 := SD.lt 1
    have hl5 := SD.lt 2
    have h9 := HB9.out
    have n1 : ¬ b9 = bx + 1 := by omega
    have n2 : ¬ b9 = bx + 2 := by omega
    have n3 : ¬ bx + 1 = b9 := by omega
    have n4 : ¬ bx + 2 = b9 := by omega
    have SB := Lib.hid SD
    clear S SD
    go_region
    all_goals
      go_wp2_with fail
      refine ret_box2o (.int .i64 0) (.slice none 0 0) (.bool false) (.int .i64 xc) (.int .i64 xd) (bx + 1) (bx + 2) 44 32 (two22 (SB.out.block 1) (SB.out.block 2) (by omega) _ _ _ _).1 (two22 (SB.out.block 1) (SB.out.block 2) (by omega) _ _ _ _).2 (fun w' z0 z1 z2 z3 => by simp [results, Try.results46, go_sem, z0, z1, z2, z3]) rfl ?_
      have hx := HBX.out
      rw [HF.out]
      refine ⟨_, rfl, ?_, below22 SB.out.bel (by omega) (by omega) _ _ _ _⟩
      exact TreeP.zero _ _
end Go.Proofs.Yteekoclfpehnpaa
