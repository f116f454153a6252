/-
  Walks: turn.Normal.
-/
import Derived.Test.YteekoclfpehnpaaProg
import Derived.Test.YteekoclfpehnpaaR3
import Derived.RegionTactic
namespace Go.Proofs.Yteekoclfpehnpaa
open Go.RowKit Go.Shelf
set_option linter.unusedVariables false
set_option maxHeartbeats 400000

noncomputable def normN (rs : List Ru) : Nat → T → Int × T
  | 0, t => match t.step rs with | some _ => (3, t) | none => (1, t)
  | n + 1, t => match t.step rs with | none => (1, t) | some x => if (treeF x).1 ≠ 0 then (0, zeroT) else normN rs n x
theorem ret_box2c {P : Program} {fn : Func} {R : Ending → World → Prop} {a : Act} {w : World} (z x y : Value) (b : Nat) (T : TypeId) (hb : w.heap[b]? = some (.cells #[x, y] T (0, 0)))
    (hres : ∀ w' : World, w'.cell? ⟨b, 0, none⟩ = some x → w'.cell? ⟨b, 1, none⟩ = some y → (results fn a.tmps).run P w' = .ok (.tuple #[z, .agg #[x, y]]) w') (hd : a.defers = [])
    (hR : R (.returned (.tuple #[z, .agg #[x, y]])) w) : bodyPost P fn R .ret a w := bodyPost_ret (hres w (box2 hb).1.1 (box2 hb).2.1) hd hR
def NormP (p0 : Nat → Prop) (r : Int × T) (w : World) (e : Ending) (w' : World) : Prop :=
  ∃ u, e = .returned (.tuple #[.int .i64 r.1, u]) ∧ TreeP (fun b => p0 b ∨ w.heap.size ≤ b) w' u r.2 ∧ Below w.heap.size w w'

set_option maxRecDepth 100000 in
set_option maxHeartbeats 4000000 in
theorem normal87 (rs : List Ru) (hok : ∀ (i : Nat) f, rs[i]? = some f → (treeF f.1).1 = 0 ∧ (treeF f.2).1 = 0) (hn : rs.length ≤ 1000000) (t : T) (fuel : Nat) (p0 : Nat → Prop) (v : Value) (ao : Option Addr) (c : Nat) (w : World) (hp : ∀ b, p0 b → b < w.heap.size) (hrow : ruleE.Row p0 w ao rs) (ht : TreeP p0 w v t) (hsz : t.size ≤ 1000) (hfu : fuel ≤ 1000000) :
    Calls Try.prog 87 #[.slice ao rs.length c, v, .int .i64 fuel] w (NormP p0 (normN rs fuel t) w) := by
  obtain ⟨tk, ts, rfl⟩ := ht.at.form
  have HT := Lib.hid ht
  have HP := Lib.hid hp; have HW := Lib.hid hrow; have HOK := Lib.hid hok
  have hfld := field28_0
  obtain ⟨bx, hbx⟩ : ∃ b, b = w.heap.size := ⟨_, rfl⟩
  have S1 := (((St.start w).box hbx.symm #[.int .i64 t.head, .slice tk t.kids.length (t.kids.length + ts)] 44).box (b := bx + 1) (by simp [hbx]) #[.int .i64 0, .slice none 0 0] 44)
  have S1 := S1.add (.treeP (fun b => b ≠ bx ∧ b ≠ bx + 1 ∧ (p0 b ∨ w.heap.size ≤ b)) (.agg #[.int .i64 t.head, .slice tk t.kids.length (t.kids.length + ts)]) t) ((ht.mono (fun b h _ => by have := hp b h; exact ⟨by omega, by omega, .inl h⟩)).kept (((Below.refl _ w).alloc (Nat.le_refl _) _).alloc (by simp) _))
  have hsz1 : ((w.alloc (.cells #[.int .i64 t.head, .slice tk t.kids.length (t.kids.length + ts)] 44)).alloc (.cells #[.int .i64 0, .slice none 0 0] 44)).heap.size = bx + 2 := by simp [hbx]
  clear ht hp hrow hok
  go_enter Try.func87, Try.ntmps87
  go_wp2_with fail
  rw [← hbx]
  refine S1.genC (z := bx + 2) (by omega) ?_
  intro w1 z1 S
  have HBX := Lib.hid hbx
  clear S1 hbx hsz1
  go_loopw [13] (fun i wr => ∃ (k : Nat) (cur : T) (ck : Option Addr) (cs : Nat), k ≤ fuel ∧ i = .int .i64 k ∧ cur.size ≤ 1000 ∧ normN rs fuel t = normN rs (fuel - k) cur ∧ bx + 2 ≤ wr.heap.size ∧
    St w wr [.box bx #[.int .i64 cur.head, .slice ck cur.kids.length (cur.kids.length + cs)] 44, .box (bx + 1) #[.int .i64 0, .slice none 0 0] 44, .treeP (fun b => b ≠ bx ∧ b ≠ bx + 1 ∧ (p0 b ∨ w.heap.size ≤ b)) (.agg #[.int .i64 cur.head, .slice ck cur.kids.length (cur.kids.length + cs)]) cur]) (fun i _ => fuel - (intOf i).toNat)
  case atStart => exact ⟨0, t, tk, ts, by omega, rfl, hsz, rfl, z1, S⟩
  case round =>
    clear S hsz
    obtain ⟨k, cur, ck, cs, hk, rfl, hcs, hfe, z2, S⟩ := hrel
    have HFE := Lib.hid hfe
    clear hfe
    obtain ⟨⟨x0, _⟩, x1, _⟩ := S.two 0
    have H := fun (W : World) (h1 : Below w.heap.size w W) (h2 : bx + 2 ≤ W.heap.size) (h3 : TreeP (fun b => b ≠ bx ∧ b ≠ bx + 1 ∧ (p0 b ∨ w.heap.size ≤ b)) W (.agg #[.int .i64 cur.head, .slice ck cur.kids.length (cur.kids.length + cs)]) cur) => step93 rs HOK.out hn cur (fun b => b ≠ bx ∧ b ≠ bx + 1 ∧ (p0 b ∨ w.heap.size ≤ b) ∧ b < W.heap.size) (.agg #[.int .i64 cur.head, .slice ck cur.kids.length (cur.kids.length + cs)]) ao c W (fun b h => h.2.2.2) ((HW.out.kept h1).mono (fun b h hl => by have := HP.out b h; have := HBX.out; exact ⟨by omega, by omega, .inl h, hl⟩)) (h3.mono (fun b h hl => ⟨h.1, h.2.1, h.2.2, hl⟩)) (by omega)
    have HH := Lib.hid H
    clear H
    by_cases hlt : k < fuel
    · have hlti : (k : Int) < (fuel : Int) := by omega
      go_wp2_with fail
      refine S.gen (z := bx + 2) z2 ?_
      intro w2 z3 S
      clear x0 x1
      have H := HH.out w2 S.bel z3 (S.treeP 2)
      cases hst : cur.step rs with
      | none =>
        rw [hst] at H
        refine (S.stepped H).mono ?_
        simp only [Option.getD_none, Option.isSome_none]
        rintro e w3 ⟨xk, xs, rfl, z4, S3⟩
        have HF := Lib.hid (show normN rs fuel t = (1, cur) by rw [HFE.out]; cases hq : fuel - k with | zero => omega | succ m => rw [normN, hst])
        have S := (S3.alloc (.cells #[.int .i64 cur.head, .slice xk cur.kids.length (cur.kids.length + xs)] 44)).pick [0, 1, 2]
        clear S3 H hst
        obtain ⟨⟨x0, _⟩, x1, _⟩ := S.two 0
        have hl0 := S.lt 0
        go_wp2_with fail
        have SD := S.drew
        obtain ⟨⟨x0, _⟩, x1, _⟩ := SD.two 0
        obtain ⟨⟨y0, y1⟩, y2, y3⟩ := SD.two 1
        have hl1 := SD.lt 1
        obtain ⟨⟨x4, _⟩, x5, _⟩ := S.two 0
        obtain ⟨⟨y4, y5⟩, y6, y7⟩ := S.two 1
        have hl2 := S.lt 1
        have SB := Lib.hid SD
        clear S SD
        go_region
        all_goals
          go_wp2_with fail
          refine ret_box2c (.int .i64 1) (.int .i64 cur.head) (.slice ck cur.kids.length (cur.kids.length + cs)) (bx + 1) 44 (box2_set (SB.out.block 1) _ _) (fun w' q0 q1 => by simp [results, Try.results87, go_sem, q0, q1]) rfl ?_
          have hx := HBX.out
          rw [HF.out]
          refine ⟨_, rfl, ?_, (SB.out.bel.setCell (p := ⟨bx + 1, 0, none⟩) (by show w.heap.size ≤ bx + 1; omega) _).setCell (p := ⟨bx + 1, 1, none⟩) (by show w.heap.size ≤ bx + 1; omega) _⟩
          have h8 := St.treeP SB.out 2 (p := (fun b => b ≠ bx ∧ b ≠ bx + 1 ∧ (p0 b ∨ w.heap.size ≤ b))) rfl
          exact ((h8.setCell (a := ⟨bx + 1, 0, none⟩) (fun h => h.2.1 rfl) _).setCell (a := ⟨bx + 1, 1, none⟩) (fun h => h.2.1 rfl) _).mono (fun b h _ => h.2.2)
      | some x =>
        rw [hst] at H
        refine (S.stepped H).mono ?_
        simp only [Option.getD_some, Option.isSome_some]
        rintro e w3 ⟨xk, xs, rfl, z4, S3⟩
        obtain ⟨b8, hb8⟩ : ∃ b, b = w3.heap.size := ⟨_, rfl⟩
        have S4 := (S3.box hb8.symm #[.int .i64 x.head, .slice xk x.kids.length (x.kids.length + xs)] 44)
        have S4 := S4.add (.treeP (fun b => b ≠ bx ∧ b ≠ bx + 1 ∧ (p0 b ∨ w.heap.size ≤ b)) (.agg #[.int .i64 x.head, .slice xk x.kids.length (x.kids.length + xs)]) x) ((S4.treeP 3).mono (fun b h _ => by
          have hx := HBX.out
          rcases h.1 with h | h
          · exact ⟨h.1, h.2.1, h.2.2.1⟩
          · exact ⟨by omega, by omega, .inr (by omega)⟩))
        have S4 := S4.pick [0, 1, 4, 5]
        have z5 : b8 + 1 ≤ (w3.alloc (.cells #[.int .i64 x.head, .slice xk x.kids.length (x.kids.length + xs)] 44)).heap.size := by simp [hb8]
        have HB8 := Lib.hid (show bx + 2 ≤ b8 by omega)
        clear S3 H S
        go_wp2_with fail
        rw [← hb8]
        refine S4.gen (z := b8 + 1) z5 ?_
        intro w4 z6 S
        clear S4 z5 hb8
        refine (S.faultF (check29 x _ w4 (S.treeP 3).at)).mono ?_
        rintro e w5 ⟨xc, xd, rfl, HC, z7, S5⟩
        clear S
        by_cases hc : xc = 0
        · have hcb : (xc != 0) = false := by simp [hc]
          have HXO := Lib.hid (treeF_ok.1 (show (treeF x).1 = 0 by rw [HC.out, hc]))
          have HN := Lib.hid (show normN rs fuel t = normN rs (fuel - (k + 1)) x by
            rw [HFE.out]; cases hq : fuel - k with
            | zero => omega
            | succ m => rw [normN, hst, show fuel - (k + 1) = m by omega]; simp only [HC.out, hc, ne_eq, not_true_eq_false, if_false])
          obtain ⟨⟨e0, _⟩, e1, _⟩ := S5.two 2
          obtain ⟨⟨x0, x1⟩, x2, x3⟩ := S5.two 0
          have hl0 := S5.lt 0
          have hx := HBX.out; have h8 := HB8.out
          have S6 := (S5.set2 0 rfl (.int .i64 x.head) (.slice xk x.kids.length (x.kids.length + xs)) (by omega) (by simp only [offs, offAll, Fct.at, List.map, fsnoc, Fct.box, Fct.treeP, and_true]; exact ⟨by omega, by omega, fun h => h.1 rfl⟩)).pick [0, 1, 3]
          have SB := Lib.hid S6
          have hz9 : bx + 2 ≤ ((w5.setCell ⟨bx, 0, none⟩ (.int .i64 x.head)).setCell ⟨bx, 1, none⟩ (.slice xk x.kids.length (x.kids.length + xs))).heap.size := by simp; omega
          clear S5 S6 hc hst hx h8
          go_wp2_with fail
          go_roundw
          case rel => exact ⟨k + 1, x, xk, xs, by omega, by go_num, by have := HXO.out.1; omega, HN.out, hz9, SB.out⟩
          case measure => simp [intOf] <;> omega
        · have hcb : (xc != 0) = true := by simp [hc]
          have HF := Lib.hid (show normN rs fuel t = (0, zeroT) by
            rw [HFE.out]; cases hq : fuel - k with
            | zero => omega
            | succ m => rw [normN, hst]; exact if_pos (by rw [HC.out]; exact hc))
          obtain ⟨⟨y0, y1⟩, y2, y3⟩ := S5.two 1
          have hl1 := S5.lt 1
          have SB := Lib.hid S5
          clear S5 hc hst
          go_wp2_with fail
          refine ret_box2c (.int .i64 0) (.int .i64 zeroT.head) (.slice none zeroT.kids.length (zeroT.kids.length + 0)) (bx + 1) 44 (box2_set (SB.out.block 1) _ _) (fun w' q0 q1 => by simp [results, Try.results87, go_sem, q0, q1]) rfl ?_
          have hx := HBX.out
          rw [HF.out]
          refine ⟨_, rfl, ?_, (SB.out.bel.setCell (p := ⟨bx + 1, 0, none⟩) (by show w.heap.size ≤ bx + 1; omega) _).setCell (p := ⟨bx + 1, 1, none⟩) (by show w.heap.size ≤ bx + 1; omega) _⟩
          exact TreeP.zero _ _
    · obtain rfl : k = fuel := by omega
      go_wp2_with fail
      refine S.gen (z := bx + 2) z2 ?_
      intro w2 z3 S
      clear x0 x1
      have H := HH.out w2 S.bel z3 (S.treeP 2)
      have hfe : normN rs k t = normN rs 0 cur := by rw [HFE.out, Nat.sub_self]
      cases hst : cur.step rs with
      | none =>
        rw [hst] at H
        refine (S.stepped H).mono ?_
        simp only [Option.getD_none, Option.isSome_none]
        rintro e w3 ⟨xk, xs, rfl, z4, S3⟩
        have HF := Lib.hid (show normN rs k t = (1, cur) by rw [hfe, normN, hst])
        have S := (S3.alloc (.cells #[.int .i64 cur.head, .slice xk cur.kids.length (cur.kids.length + xs)] 44)).pick [0, 1, 2]
        clear S3 H hst hfe
        obtain ⟨⟨x0, _⟩, x1, _⟩ := S.two 0
        have hl0 := S.lt 0
        go_wp2_with fail
        have SD := S.drew
        obtain ⟨⟨x0, _⟩, x1, _⟩ := SD.two 0
        obtain ⟨⟨y0, y1⟩, y2, y3⟩ := SD.two 1
        have hl1 := SD.lt 1
        obtain ⟨⟨x4, _⟩, x5, _⟩ := S.two 0
        obtain ⟨⟨y4, y5⟩, y6, y7⟩ := S.two 1
        have hl2 := S.lt 1
        have SB := Lib.hid SD
        clear S SD
        go_region
        all_goals
          go_wp2_with fail
          refine ret_box2c (.int .i64 1) (.int .i64 cur.head) (.slice ck cur.kids.length (cur.kids.length + cs)) (bx + 1) 44 (box2_set (SB.out.block 1) _ _) (fun w' q0 q1 => by simp [results, Try.results87, go_sem, q0, q1]) rfl ?_
          have hx := HBX.out
          rw [HF.out]
          refine ⟨_, rfl, ?_, (SB.out.bel.setCell (p := ⟨bx + 1, 0, none⟩) (by show w.heap.size ≤ bx + 1; omega) _).setCell (p := ⟨bx + 1, 1, none⟩) (by show w.heap.size ≤ bx + 1; omega) _⟩
          have h8 := St.treeP SB.out 2 (p := (fun b => b ≠ bx ∧ b ≠ bx + 1 ∧ (p0 b ∨ w.heap.size ≤ b))) rfl
          exact ((h8.setCell (a := ⟨bx + 1, 0, none⟩) (fun h => h.2.1 rfl) _).setCell (a := ⟨bx + 1, 1, none⟩) (fun h => h.2.1 rfl) _).mono (fun b h _ => h.2.2)
      | some x =>
        rw [hst] at H
        refine (S.stepped H).mono ?_
        simp only [Option.getD_some, Option.isSome_some]
        rintro e w3 ⟨xk, xs, rfl, z4, S3⟩
        have HF := Lib.hid (show normN rs k t = (3, cur) by rw [hfe, normN, hst])
        have S := (S3.alloc (.cells #[.int .i64 x.head, .slice xk x.kids.length (x.kids.length + xs)] 44)).pick [0, 1, 2]
        clear S3 H hst hfe
        obtain ⟨⟨x0, _⟩, x1, _⟩ := S.two 0
        have hl0 := S.lt 0
        go_wp2_with fail
        have SD := S.drew
        obtain ⟨⟨x0, _⟩, x1, _⟩ := SD.two 0
        obtain ⟨⟨y0, y1⟩, y2, y3⟩ := SD.two 1
        have hl1 := SD.lt 1
        obtain ⟨⟨x4, _⟩, x5, _⟩ := S.two 0
        obtain ⟨⟨y4, y5⟩, y6, y7⟩ := S.two 1
        have hl2 := S.lt 1
        have SB := Lib.hid SD
        clear S SD
        go_region
        all_goals
          go_wp2_with fail
          refine ret_box2c (.int .i64 3) (.int .i64 cur.head) (.slice ck cur.kids.length (cur.kids.length + cs)) (bx + 1) 44 (box2_set (SB.out.block 1) _ _) (fun w' q0 q1 => by simp [results, Try.results87, go_sem, q0, q1]) rfl ?_
          have hx := HBX.out
          rw [HF.out]
          refine ⟨_, rfl, ?_, (SB.out.bel.setCell (p := ⟨bx + 1, 0, none⟩) (by show w.heap.size ≤ bx + 1; omega) _).setCell (p := ⟨bx + 1, 1, none⟩) (by show w.heap.size ≤ bx + 1; omega) _⟩
          have h8 := St.treeP SB.out 2 (p := (fun b => b ≠ bx ∧ b ≠ bx + 1 ∧ (p0 b ∨ w.heap.size ≤ b))) rfl
          exact ((h8.setCell (a := ⟨bx + 1, 0, none⟩) (fun h => h.2.1 rfl) _).setCell (a := ⟨bx + 1, 1, none⟩) (fun h => h.2.1 rfl) _).mono (fun b h _ => h.2.2)
end Go.Proofs.Yteekoclfpehnpaa
