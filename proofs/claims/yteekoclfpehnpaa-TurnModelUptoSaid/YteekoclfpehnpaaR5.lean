/-
  Walks: turn.Do.
-/
import Derived.Test.YteekoclfpehnpaaProg
import Derived.Test.YteekoclfpehnpaaR4
import Derived.RegionTactic
namespace Go.Proofs.Yteekoclfpehnpaa
open Go.RowKit Go.Shelf
set_option linter.unusedVariables false
set_option maxHeartbeats 400000

noncomputable def doR (rs : List Ru) (t : T) (fuel : Int) : Int × T × (Int × Int) :=
  if (checkF rs t).1 ≠ 0 then (0, zeroT, checkF rs t) else if fuel < 0 ∨ 2000 < fuel then (0, zeroT, (3, -2))
  else if (normN rs fuel.toNat t).1 = 0 then (0, zeroT, (10, 0)) else ((normN rs fuel.toNat t).1, (normN rs fuel.toNat t).2, (0, 0))
def DoRP (r : Int × T × (Int × Int)) (w : World) (e : Ending) (w' : World) : Prop :=
  ∃ u, e = .returned (.tuple #[.int .i64 r.1, u, FV r.2.2]) ∧ TreeP (fun b => w.heap.size ≤ b) w' u r.2.1 ∧ Below w.heap.size w w'
theorem ret_box22i {P : Program} {fn : Func} {R : Ending → World → Prop} {a : Act} {w : World} (z x y p q : Value) (b c : Nat) (T T' : TypeId) (hb : w.heap[b]? = some (.cells #[x, y] T (0, 0))) (hc : w.heap[c]? = some (.cells #[p, q] T' (0, 0)))
    (hres : ∀ w' : World, w'.cell? ⟨b, 0, none⟩ = some x → w'.cell? ⟨b, 1, none⟩ = some y → w'.cell? ⟨c, 0, none⟩ = some p → w'.cell? ⟨c, 1, none⟩ = some q → (results fn a.tmps).run P w' = .ok (.tuple #[z, .agg #[x, y], .agg #[p, q]]) w') (hd : a.defers = [])
    (hR : R (.returned (.tuple #[z, .agg #[x, y], .agg #[p, q]])) w) : bodyPost P fn R .ret a w := bodyPost_ret (hres w (box2 hb).1.1 (box2 hb).2.1 (box2 hc).1.1 (box2 hc).2.1) hd hR
theorem firstR_zero : ∀ {rs : List Ru} {a : Int}, (firstR rs a).1 = 0 → ∀ (i : Nat) f, rs[i]? = some f → ruleF f.1 f.2 = 0
  | [], _, _, i, f, hf => by simp at hf
  | x :: r, a, h, i, f, hf => by
    rw [firstR] at h
    by_cases hx : ruleF x.1 x.2 ≠ 0
    · rw [if_pos hx] at h; exact absurd h hx
    · rw [if_neg hx] at h
      cases i with
      | zero => simp at hf; subst hf; simpa using hx
      | succ i => exact firstR_zero h i f (by simpa using hf)
theorem ruleF_zero {l r : T} (h : ruleF l r = 0) : (treeF l).1 = 0 ∧ (treeF r).1 = 0 := by
  unfold ruleF at h
  by_cases h1 : (treeF l).1 ≠ 0
  · rw [if_pos h1] at h; exact absurd h h1
  · rw [if_neg h1] at h
    by_cases h2 : (treeF r).1 ≠ 0
    · rw [if_pos h2] at h; exact absurd h h2
    · exact ⟨by simpa using h1, by simpa using h2⟩
theorem checkF_zero {rs : List Ru} {t : T} (h : (checkF rs t).1 = 0) : rs.length ≤ 30 ∧ (∀ (i : Nat) f, rs[i]? = some f → (treeF f.1).1 = 0 ∧ (treeF f.2).1 = 0) ∧ (treeF t).1 = 0 := by
  unfold checkF at h
  by_cases h1 : (rulesF rs).1 ≠ 0
  · rw [if_pos h1] at h; exact absurd h h1
  · rw [if_neg h1] at h
    have h1 : (rulesF rs).1 = 0 := by simpa using h1
    unfold rulesF at h1
    by_cases h3 : 30 < rs.length
    · rw [if_pos h3] at h1; cases h1
    · rw [if_neg h3] at h1
      refine ⟨by omega, fun i f hf => ruleF_zero (firstR_zero h1 i f hf), ?_⟩
      by_cases h2 : (treeF t).1 ≠ 0
      · rw [if_pos h2] at h; exact absurd h h2
      · simpa using h2

theorem normN_size {rs : List Ru} : ∀ (n : Nat) {t : T}, t.size ≤ 1000 → (normN rs n t).2.size ≤ 1000
  | 0, t, h => by rw [normN]; cases t.step rs <;> exact h
  | n + 1, t, h => by
    rw [normN]
    cases hs : t.step rs with
    | none => exact h
    | some x =>
      dsimp only
      by_cases hx : (treeF x).1 ≠ 0
      · rw [if_pos hx]; show 1 ≤ 1000; omega
      · rw [if_neg hx]
        have := (treeF_ok.1 (by simpa using hx)).1
        exact normN_size n (by omega)

set_option maxRecDepth 100000 in
set_option maxHeartbeats 4000000 in
theorem do37 (rs : List Ru) (t : T) (fuel : Int) (p0 : Nat → Prop) (v : Value) (ao : Option Addr) (c : Nat) (w : World) (hp : ∀ b, p0 b → b < w.heap.size) (hrow : ruleE.Row p0 w ao rs) (ht : TreeP p0 w v t) (hn : rs.length ≤ 1000000) :
    Calls Try.prog 37 #[.slice ao rs.length c, v, .int .i64 fuel] w (DoRP (doR rs t fuel) w) := by
  obtain ⟨tk, ts, rfl⟩ := ht.at.form
  have HT := Lib.hid ht
  have HP := Lib.hid hp; have HW := Lib.hid hrow
  obtain ⟨bx, hbx⟩ : ∃ b, b = w.heap.size := ⟨_, rfl⟩
  have S1 := (((St.start w).box hbx.symm #[.int .i64 t.head, .slice tk t.kids.length (t.kids.length + ts)] 44).box (b := bx + 1) (by simp [hbx]) #[.int .i64 0, .slice none 0 0] 44).box (b := bx + 2) (by simp [hbx]) #[.int .i64 0, .int .i64 0] 32
  have hsz1 : (((w.alloc (.cells #[.int .i64 t.head, .slice tk t.kids.length (t.kids.length + ts)] 44)).alloc (.cells #[.int .i64 0, .slice none 0 0] 44)).alloc (.cells #[.int .i64 0, .int .i64 0] 32)).heap.size = bx + 3 := by simp [hbx]
  clear ht hp hrow
  go_enter Try.func37, Try.ntmps37
  go_wp2_with fail
  rw [← hbx]
  refine S1.gen (z := bx + 3) (by omega) ?_
  intro w1 z1 S
  have HBX := Lib.hid hbx
  clear S1 hbx hsz1
  refine (S.faultF (check86 rs t p0 ao c _ w1 (HW.out.kept S.bel) (HT.out.kept S.bel).at (by omega))).mono ?_
  rintro e w2 ⟨xc, xd, rfl, HC, z2, S2⟩
  clear S
  obtain ⟨b9, hb9⟩ : ∃ b, b = w2.heap.size := ⟨_, rfl⟩
  have S := S2.box hb9.symm #[.int .i64 xc, .int .i64 xd] 32
  have z3 : b9 + 1 ≤ (w2.alloc (.cells #[.int .i64 xc, .int .i64 xd] 32)).heap.size := by simp [hb9]
  have HB9 := Lib.hid (show bx + 3 ≤ b9 by omega)
  clear S2
  by_cases hc : xc = 0
  · have hcb : (xc != 0) = false := by simp [hc]
    have HOK := Lib.hid (checkF_zero (show (checkF rs t).1 = 0 by rw [HC.out, hc]))
    have HC0 := Lib.hid (show ¬ (checkF rs t).1 ≠ 0 by rw [HC.out]; simpa using hc)
    clear hc
    by_cases hneg : fuel < 0
    · have HF := Lib.hid (show doR rs t fuel = (0, zeroT, (3, -2)) by unfold doR; rw [if_neg HC0.out, if_pos (.inl hneg)])
      obtain ⟨⟨y0, y1⟩, y2, y3⟩ := S.two 1
      obtain ⟨⟨q0, q1⟩, q2, q3⟩ := S.two 2
      have hl1 := S.lt 1
      have hl2 := S.lt 2
      have SB := Lib.hid S
      clear S
      go_wp2_with fail
      refine ret_box22i (.int .i64 0) (.int .i64 0) (.slice none 0 0) (.int .i64 3) (.int .i64 (-2)) (bx + 1) (bx + 2) 44 32 (two22 (SB.out.block 1) (SB.out.block 2) (by omega) _ _ _ _).1 (two22 (SB.out.block 1) (SB.out.block 2) (by omega) _ _ _ _).2 (fun w' z0 z1 z2 z3 => by simp [results, Try.results37, go_sem, z0, z1, z2, z3]) rfl ?_
      have hx := HBX.out
      rw [HF.out]
      refine ⟨_, rfl, ?_, below22 SB.out.bel (by omega) (by omega) _ _ _ _⟩
      exact TreeP.zero _ _
    · by_cases hbig : 2000 < fuel
      · have HF := Lib.hid (show doR rs t fuel = (0, zeroT, (3, -2)) by unfold doR; rw [if_neg HC0.out, if_pos (.inr hbig)])
        obtain ⟨⟨y0, y1⟩, y2, y3⟩ := S.two 1
        obtain ⟨⟨q0, q1⟩, q2, q3⟩ := S.two 2
        have hl1 := S.lt 1
        have hl2 := S.lt 2
        have SB := Lib.hid S
        clear S
        go_wp2_with fail
        refine ret_box22i (.int .i64 0) (.int .i64 0) (.slice none 0 0) (.int .i64 3) (.int .i64 (-2)) (bx + 1) (bx + 2) 44 32 (two22 (SB.out.block 1) (SB.out.block 2) (by omega) _ _ _ _).1 (two22 (SB.out.block 1) (SB.out.block 2) (by omega) _ _ _ _).2 (fun w' z0 z1 z2 z3 => by simp [results, Try.results37, go_sem, z0, z1, z2, z3]) rfl ?_
        have hx := HBX.out
        rw [HF.out]
        refine ⟨_, rfl, ?_, below22 SB.out.bel (by omega) (by omega) _ _ _ _⟩
        exact TreeP.zero _ _
      · have HF0 := Lib.hid (show doR rs t fuel = if (normN rs fuel.toNat t).1 = 0 then (0, zeroT, (10, 0)) else ((normN rs fuel.toNat t).1, (normN rs fuel.toNat t).2, (0, 0)) by unfold doR; rw [if_neg HC0.out, if_neg (by omega)])
        obtain ⟨⟨x0, _⟩, x1, _⟩ := S.two 0
        obtain ⟨fn, hfn⟩ : ∃ n : Nat, (n : Int) = fuel := ⟨fuel.toNat, by omega⟩
        subst hfn
        rw [Int.toNat_natCast] at HF0
        have hfn2 : fn ≤ 2000 := by omega
        go_wp2_with fail
        rw [← hb9]
        refine S.gen (z := b9 + 1) z3 ?_
        intro w3 z4 S
        clear x0 x1 z3 hb9
        refine (normal87 rs HOK.out.2.1 hn t fn p0 _ ao c w3 (fun b hb => by have := HP.out b hb; have := S.bel.size; omega) (HW.out.kept S.bel) (HT.out.kept S.bel) (by have := (treeF_ok.1 HOK.out.2.2).1; omega) (by omega)).mono ?_
        rintro e w4 ⟨u, rfl, hu, hb⟩
        obtain ⟨uk, us, rfl⟩ := hu.at.form
        obtain ⟨⟨rc, R⟩, hr⟩ : ∃ r, r = normN rs fn t := ⟨_, rfl⟩
        rw [← hr] at hu HF0
        rw [← hr]
        have S := ((S.step hb).box (b := w4.heap.size) rfl #[.int .i64 R.head, .slice uk R.kids.length (R.kids.length + us)] 44).add (.treeP _ _ R) (hu.kept ((Below.refl _ w4).alloc (Nat.le_refl _) (.cells #[.int .i64 R.head, .slice uk R.kids.length (R.kids.length + us)] 44)))
        have HRS := Lib.hid (show R.size ≤ 100000000 by have := normN_size (rs := rs) fn (t := t) (by have := (treeF_ok.1 HOK.out.2.2).1; omega); rw [← hr] at this; have h : R.size ≤ 1000 := this; omega)
        have z5 : bx + 3 ≤ (w4.alloc (.cells #[.int .i64 R.head, .slice uk R.kids.length (R.kids.length + us)] 44)).heap.size := by have := hb.size; have := HB9.out; simp; omega
        clear hu hb hr
        dsimp only at HF0
        by_cases hrc : rc = 0
        · have hrb : (rc == 0) = true := by simp [hrc]
          have HF := Lib.hid (show doR rs t fn = (0, zeroT, (10, 0)) by rw [HF0.out, if_pos hrc])
          obtain ⟨⟨y0, y1⟩, y2, y3⟩ := S.two 1
          obtain ⟨⟨q0, q1⟩, q2, q3⟩ := S.two 2
          have hl1 := S.lt 1
          have hl2 := S.lt 2
          have SB := Lib.hid S
          clear S hrc
          go_wp2_with fail
          refine ret_box22i (.int .i64 0) (.int .i64 0) (.slice none 0 0) (.int .i64 10) (.int .i64 0) (bx + 1) (bx + 2) 44 32 (two22 (SB.out.block 1) (SB.out.block 2) (by omega) _ _ _ _).1 (two22 (SB.out.block 1) (SB.out.block 2) (by omega) _ _ _ _).2 (fun w' z0 z1 z2 z3 => by simp [results, Try.results37, go_sem, z0, z1, z2, z3]) rfl ?_
          have hx := HBX.out
          rw [HF.out]
          refine ⟨_, rfl, ?_, below22 SB.out.bel (by omega) (by omega) _ _ _ _⟩
          exact TreeP.zero _ _
        · have hrb : (rc == 0) = false := by simp [hrc]
          have HF := Lib.hid (show doR rs t fn = (rc, R, (0, 0)) by rw [HF0.out, if_neg hrc])
          clear hrc
          go_wp2_with fail
          refine S.gen (z := bx + 3) z5 ?_
          intro w5 z6 S
          refine (copy50 R _ w5 (S.treeP 5).at HRS.out).mono ?_
          rintro e w6 ⟨u2, rfl, hu2, hb6⟩
          obtain ⟨vk, vs, rfl⟩ := hu2.at.form
          have HU := Lib.hid hu2
          have S := S.step hb6
          have z7 : bx + 3 ≤ w5.heap.size := z6
          clear hu2 hb6
          obtain ⟨⟨y0, y1⟩, y2, y3⟩ := S.two 1
          obtain ⟨⟨q0, q1⟩, q2, q3⟩ := S.two 2
          have hl1 := S.lt 1
          have hl2 := S.lt 2
          have SB := Lib.hid S
          clear S
          go_wp2_with fail
          refine ret_box22i (.int .i64 rc) (.int .i64 R.head) (.slice vk R.kids.length (R.kids.length + vs)) (.int .i64 0) (.int .i64 0) (bx + 1) (bx + 2) 44 32 (two22 (SB.out.block 1) (SB.out.block 2) (by omega) _ _ _ _).1 (two22 (SB.out.block 1) (SB.out.block 2) (by omega) _ _ _ _).2 (fun w' z0 z1 z2 z3 => by simp [results, Try.results37, go_sem, z0, z1, z2, z3]) rfl ?_
          have hx := HBX.out
          rw [HF.out]
          refine ⟨_, rfl, ?_, below22 SB.out.bel (by omega) (by omega) _ _ _ _⟩
          exact ((((HU.out.setCell (a := ⟨bx + 1, 0, none⟩) (by show ¬ w5.heap.size ≤ bx + 1; omega) _).setCell (a := ⟨bx + 1, 1, none⟩) (by show ¬ w5.heap.size ≤ bx + 1; omega) _).setCell (a := ⟨bx + 2, 0, none⟩) (by show ¬ w5.heap.size ≤ bx + 2; omega) _).setCell (a := ⟨bx + 2, 1, none⟩) (by show ¬ w5.heap.size ≤ bx + 2; omega) _).mono (fun b h _ => by have h : w5.heap.size ≤ b := h; omega)
  · have hcb : (xc != 0) = true := by simp [hc]
    have HF := Lib.hid (show doR rs t fuel = (0, zeroT, (xc, xd)) by unfold doR; rw [if_pos (by rw [HC.out]; exact hc), HC.out])
    obtain ⟨⟨x0, _⟩, x1, _⟩ := S.two 3
    have hl3 := S.lt 3
    clear hc
    go_wp2_with fail
    rw [← hb9]
    refine S.genC (z := b9 + 1) z3 ?_
    intro w3 z4 S
    clear x0 x1 hl3 z3 hb9
    obtain ⟨⟨y0, y1⟩, y2, y3⟩ := S.two 1
    obtain ⟨⟨q0, q1⟩, q2, q3⟩ := S.two 2
    have hl1 := S.lt 1
    have hl2 := S.lt 2
    obtain ⟨⟨x0, _⟩, x1, _⟩ := S.two 3
    have SD := S.drew
    obtain ⟨⟨y4, y5⟩, y6, y7⟩ := SD.two 1
    obtain ⟨⟨q4, q5⟩, q6, q7⟩ := SD.two 2
    obtain ⟨⟨x4, _⟩, x5, _⟩ := SD.two 3
    have hl4 := SD.lt 1
    have hl5 := SD.lt 2
    have h9 := HB9.out
    have n1 : ¬ b9 = bx + 1 := by omega
    have n2 : ¬ b9 = bx + 2 := by omega
    have n3 : ¬ bx + 1 = b9 := by omega
    have n4 : ¬ bx + 2 = b9 := by omega
    have SB := Lib.hid SD
    clear S SD
    go_region
    all_goals
      go_wp2_with fail
      refine ret_box22i (.int .i64 0) (.int .i64 0) (.slice none 0 0) (.int .i64 xc) (.int .i64 xd) (bx + 1) (bx + 2) 44 32 (two22 (SB.out.block 1) (SB.out.block 2) (by omega) _ _ _ _).1 (two22 (SB.out.block 1) (SB.out.block 2) (by omega) _ _ _ _).2 (fun w' z0 z1 z2 z3 => by simp [results, Try.results37, go_sem, z0, z1, z2, z3]) rfl ?_
      have hx := HBX.out
      rw [HF.out]
      refine ⟨_, rfl, ?_, below22 SB.out.bel (by omega) (by omega) _ _ _ _⟩
      exact TreeP.zero _ _
end Go.Proofs.Yteekoclfpehnpaa
