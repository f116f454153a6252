/-
  Walks: the document's Step.
-/
import Derived.Test.YteekoclfpehnpaaProg
import Derived.Test.YteekoclfpehnpaaR3
import Derived.Test.YteekoclfpehnpaaT40
import Derived.Test.YteekoclfpehnpaaT35
import Derived.Test.YteekoclfpehnpaaXb
import Derived.Test.YteekoclfpehnpaaXc
import Derived.Test.YteekoclfpehnpaaG2
namespace Go.Proofs.Yteekoclfpehnpaa
open Go.RowKit Go.Shelf
set_option linter.unusedVariables false
set_option maxHeartbeats 400000

theorem withAt_one {t x : T} {k : Nat} : T.withAt [(k : Int) + 1] t x = .node t.head (t.kids.set k x) := by
  rw [T.withAt]
  congr 1
  apply List.ext_getElem (by simp)
  intro i h1 h2
  simp only [List.getElem_mapIdx, List.getElem_set]
  by_cases e : i = k
  · subst e; simp [T.withAt]
  · rw [if_neg (by omega), if_neg (fun h => e h.symm)]

set_option maxRecDepth 100000 in
set_option maxHeartbeats 4000000 in
theorem step47 (rs : List Ru) (hok : ∀ (i : Nat) f, rs[i]? = some f → (treeF f.1).1 = 0 ∧ (treeF f.2).1 = 0) (hn : rs.length ≤ 1000000) (t : T) : ∀ (p0 : Nat → Prop) (v : Value) (ao : Option Addr) (c : Nat) (w : World), (∀ b, p0 b → b < w.heap.size) → ruleE.Row p0 w ao rs → TreeP p0 w v t → t.size ≤ 1000000 →
    Calls Try.prog 47 #[.slice ao rs.length c, v] w (StepP p0 ((t.step rs).getD t) (t.step rs).isSome w) := by
  induction t using T.ind with
  | h t ih =>
  intro p0 v ao c w hp hrow ht hsz
  obtain ⟨to_, sp, rfl, hr, hml⟩ := ht.open
  have hml : t.kids.length ≤ 9223372036854775807 := hml
  have HT := Lib.hid ht
  have HR := Lib.hid hr; have IH := Lib.hid ih; have HP := Lib.hid hp; have HW := Lib.hid hrow; have HOK := Lib.hid hok; have HSZ := Lib.hid hsz
  clear ht hr ih hp hrow hok hsz
  obtain ⟨bx, hbx⟩ : ∃ b, b = w.heap.size := ⟨_, rfl⟩
  have S1 := ((St.start w).box hbx.symm #[.int .i64 t.head, .slice to_ t.kids.length (t.kids.length + sp)] 44).box (b := bx + 1) (by simp [hbx]) #[.int .i64 0, .slice none 0 0] 44
  have hsz1 : ((w.alloc (.cells #[.int .i64 t.head, .slice to_ t.kids.length (t.kids.length + sp)] 44)).alloc (.cells #[.int .i64 0, .slice none 0 0] 44)).heap.size = bx + 2 := by simp [hbx]
  go_enter Try.func47, Try.ntmps47
  go_wp2_with fail
  rw [← hbx]
  refine S1.genC (z := bx + 2) (by omega) ?_
  intro w1 z1 S
  have HBX := Lib.hid hbx
  clear S1 hbx hsz1
  go_loopw [6] (fun i wr => ∃ k : Nat, k ≤ t.kids.length ∧ i = .int .i64 k ∧ (∀ j, j < k → (gK t.kids j).step rs = none) ∧ bx + 2 ≤ wr.heap.size ∧ St w wr [.box bx #[.int .i64 t.head, .slice to_ t.kids.length (t.kids.length + sp)] 44, .box (bx + 1) #[.int .i64 0, .slice none 0 0] 44]) (fun i _ => t.kids.length - (intOf i).toNat)
  case atStart => exact ⟨0, by omega, rfl, fun j hj => by omega, z1, S⟩
  case round =>
    clear S
    obtain ⟨k, hk, rfl, hno, z2, S⟩ := hrel
    have HNO := Lib.hid hno
    clear hno
    obtain ⟨⟨x0, _⟩, x1, _⟩ := S.two 0
    by_cases hlt : k < t.kids.length
    · have hlti : (k : Int) < (t.kids.length : Int) := by omega
      obtain ⟨bb, off, ko, ksp, rfl, hpb, c0', c1', c2⟩ := HR.out k hlt
      have c0 := Below.cellOf S.bel c0'
      have c1 := Below.cellOf S.bel c1'
      have HTK := Lib.hid c2
      have HKS := Lib.hid (show (gK t.kids k).size ≤ 1000000 by have h1 := kid_size hlt; have h2 := HSZ.out; rw [T.size_eq] at h2; omega)
      have hk6 : k ≤ 1000000 := by have h1 := length_le_sizeL t.kids; have h2 := HSZ.out; rw [T.size_eq] at h2; omega
      clear c0' c1' c2
      go_wp2_with fail
      refine S.gen (z := bx + 2) z2 ?_
      intro w2 z3 S
      clear c0 c1 z2 x0 x1
      obtain ⟨wv, hwv⟩ : ∃ W, W = wr := ⟨_, rfl⟩
      clear hwv
      have H := IH.out k hlt p0 (.agg #[.int .i64 (gK t.kids k).head, .slice ko (gK t.kids k).kids.length ((gK t.kids k).kids.length + ksp)]) ao c w2 (fun b hb => by have := HP.out b hb; have := S.bel.size; omega) (HW.out.kept S.bel) (HTK.out.kept S.bel) HKS.out
      cases hst : (gK t.kids k).step rs with
      | none =>
        rw [hst] at H
        refine (S.stepped H).mono ?_
        simp only [Option.getD_none, Option.isSome_none]
        rintro e w3 ⟨xk, xs, rfl, z4, S3⟩
        have HN := Lib.hid (show ∀ j, j < k + 1 → (gK t.kids j).step rs = none from fun j hj => by
          rcases Nat.lt_succ_iff_lt_or_eq.1 hj with h | rfl
          · exact HNO.out j h
          · exact hst)
        have S5 := Lib.hid ((S3.alloc (.cells #[.int .i64 (gK t.kids k).head, .slice xk (gK t.kids k).kids.length ((gK t.kids k).kids.length + xs)] 44)).pick [0, 1])
        have z5 : bx + 2 ≤ (w3.alloc (.cells #[.int .i64 (gK t.kids k).head, .slice xk (gK t.kids k).kids.length ((gK t.kids k).kids.length + xs)] 44)).heap.size := by simp; omega
        clear S3 S H hst
        go_wp2_with fail
        go_roundw
        case rel => exact ⟨k + 1, by omega, by go_num, HN.out, z5, S5.out⟩
        case measure => simp [intOf] <;> omega
      | some x =>
        rw [hst] at H
        refine (S.stepped H).mono ?_
        simp only [Option.getD_some, Option.isSome_some]
        rintro e w3 ⟨xk, xs, rfl, z4, S3⟩
        have HST := Lib.hid (show t.step rs = some (.node t.head (t.kids.set k x)) by rw [T.step_eq, stepL_hit hlt HNO.out hst])
        obtain ⟨b8, hb8⟩ : ∃ b, b = w3.heap.size := ⟨_, rfl⟩
        obtain ⟨⟨x0, _⟩, x1, _⟩ := S3.two 0
        have hl0 := S3.lt 0
        have S7 := (S3.box hb8.symm #[.int .i64 x.head, .slice xk x.kids.length (x.kids.length + xs)] 44).box (b := b8 + 1) (by simp [hb8]) #[.int .i64 ((k : Int) + 1)] 3
        have hz7 : b8 + 2 ≤ ((w3.alloc (.cells #[.int .i64 x.head, .slice xk x.kids.length (x.kids.length + xs)] 44)).alloc (.cells #[.int .i64 ((k : Int) + 1)] 3)).heap.size := by simp [hb8]
        have HB8 := Lib.hid (show bx + 2 ≤ b8 ∧ w2.heap.size ≤ b8 by omega)
        clear S3 S H hst
        go_wp2_with fail
        rw [← hb8]
        refine S7.gen (z := b8 + 2) hz7 ?_
        intro w4 z5 S
        clear S7 hz7 x0 x1 hl0 hb8
        refine (laid33 x [(k : Int) + 1] t (fun b => (p0 b ∨ w2.heap.size ≤ b) ∧ b < w4.heap.size) _ (some ⟨b8 + 1, 0, none⟩) 1 _ w4 (fun b h => h.2) ((HT.out.kept S.bel).mono (fun b h hl => ⟨.inl h, hl⟩)) ((St.treeP S 2 (p := fun b => (p0 b ∨ w2.heap.size ≤ b) ∧ b < w3.heap.size) rfl).mono (fun b h hl => ⟨h.1, hl⟩)) (fun j hj => by
          obtain rfl : j = 0 := by simp at hj; omega
          exact ⟨b8 + 1, 0, rfl, (S.one 4).1⟩) (by simp) (by omega) (by have := HSZ.out; omega) (fun z hz => by simp at hz; subst hz; omega)).mono ?_
        rintro e w5 ⟨u, rfl, hu, hb⟩
        rw [withAt_one] at hu
        obtain ⟨R, hR⟩ : ∃ R, R = T.node t.head (t.kids.set k x) := ⟨_, rfl⟩
        rw [← hR] at hu HST
        clear hR
        obtain ⟨uk, us, rfl⟩ := hu.at.form
        have S5 := S.step hb
        obtain ⟨⟨y0, y1⟩, y2, y3⟩ := S5.two 1
        have hl1 := S5.lt 1
        have HU := Lib.hid hu
        have SB := Lib.hid S5
        have hz8 := HB8.out
        clear S S5 hu hb
        go_wp2_with fail
        refine ret_box2b (.int .i64 R.head) (.slice uk R.kids.length (R.kids.length + us)) (.bool true) (bx + 1) 44 (by simpa using box2_set (SB.out.block 1) (.int .i64 R.head) (.slice uk R.kids.length (R.kids.length + us))) (fun w' q0 q1 => by simp [results, Try.results47, go_sem, q0, q1]) rfl ?_
        have hx := HBX.out
        rw [HST.out]
        refine ⟨_, rfl, ?_, (SB.out.bel.setCell (p := ⟨bx + 1, 0, none⟩) (by show w.heap.size ≤ bx + 1; omega) _).setCell (p := ⟨bx + 1, 1, none⟩) (by show w.heap.size ≤ bx + 1; omega) _⟩
        have h8 := HU.out.mono (q := fun b => (p0 b ∨ w.heap.size ≤ b) ∧ b ≠ bx + 1) (fun b h _ => by
          rcases h with ⟨h | h, _⟩ | h
          · have := HP.out b h; exact ⟨.inl h, by omega⟩
          · exact ⟨.inr (by omega), by omega⟩
          · exact ⟨.inr (by omega), by omega⟩)
        exact ((h8.setCell (a := ⟨bx + 1, 0, none⟩) (fun h => h.2 rfl) _).setCell (a := ⟨bx + 1, 1, none⟩) (fun h => h.2 rfl) _).mono (fun b h _ => h.1)
    · obtain rfl : k = t.kids.length := by omega
      have HS0 := Lib.hid (show t.step rs = rootS rs t by rw [T.step_eq, stepL_none HNO.out])
      go_wp2_with fail
      obtain ⟨wv, hwv⟩ : ∃ W, W = wr := ⟨_, rfl⟩
      subst hwv
      clear x0 x1
      go_loopw [9] (fun i wr => ∃ q : Nat, q ≤ rs.length ∧ i = .int .i64 q ∧ (∀ (j : Nat) f, j < q → rs[j]? = some f → fitF f.1 t = none) ∧ bx + 2 ≤ wr.heap.size ∧ St w wr [.box bx #[.int .i64 t.head, .slice to_ t.kids.length (t.kids.length + sp)] 44, .box (bx + 1) #[.int .i64 0, .slice none 0 0] 44]) (fun i _ => rs.length - (intOf i).toNat)
      case atStart => exact ⟨0, by omega, rfl, fun j f hj _ => by omega, z2, S⟩
      case round =>
        clear S
        obtain ⟨q, hq, rfl, hnr, z5, S⟩ := hrel
        have HNR := Lib.hid hnr
        clear hnr
        by_cases hltq : q < rs.length
        · have hltqi : (q : Int) < (rs.length : Int) := by omega
          obtain ⟨bb, off, ka, sa, kb, sb, rfl, hpb, c0, c1, c2, c3, t1, t2⟩ := HW.out.rule hltq
          obtain ⟨X, hX⟩ : ∃ X, X = rs[q].1 := ⟨_, rfl⟩
          obtain ⟨Y, hY⟩ : ∃ Y, Y = rs[q].2 := ⟨_, rfl⟩
          have HXY := Lib.hid (show rs[q]? = some (X, Y) by rw [hX, hY]; exact List.getElem?_eq_getElem hltq)
          rw [← hX] at c0 c1 t1
          rw [← hY] at c2 c3 t2
          have HXO := Lib.hid (treeF_ok.1 (HOK.out q _ HXY.out).1)
          have HYO := Lib.hid (treeF_ok.1 (HOK.out q _ HXY.out).2)
          have HXL := Lib.hid (low_of_pre X HXO.out.2.2)
          have FC := Lib.hid (fun (W : World) (hb : Below w.heap.size w W) => And.intro (Below.cellOf hb c0) (Below.cellOf hb c1))
          have FD := Lib.hid (fun (W : World) (hb : Below w.heap.size w W) => And.intro (Below.cellOf hb c2) (Below.cellOf hb c3))
          obtain ⟨nn, hnn⟩ : ∃ n : Nat, (n : Int) = X.most := ⟨X.most.toNat, by have := X.most_nonneg; omega⟩
          have hnb : nn ≤ 8 := by have := most_le X HXO.out.2.2; omega
          have hmk : ∀ W, (Instr.makeSlice 62 (.int .i64 X.most) (.int .i64 X.most)).run Try.prog W = .ok (.slice (some ⟨W.heap.size, 0, none⟩) nn nn) (W.alloc (.cells (madeCells #[Value.int .i64 0, .slice none 0 0] (nn * 2)) 44)) := fun W => by rw [← hnn]; exact make25 nn (by omega) W
          have HNN := Lib.hid hnn
          have hmn : X.most ≤ nn := by omega
          have S := (S.add (.treeP p0 (.agg #[.int .i64 X.head, .slice ka X.kids.length (X.kids.length + sa)]) X) (t1.kept S.bel)).add (.treeP p0 (.agg #[.int .i64 Y.head, .slice kb Y.kids.length (Y.kids.length + sb)]) Y) (t2.kept S.bel)
          clear hX hY t1 t2 c0 c1 c2 c3 hnn
          go_wp2_with fail
          refine S.genC (z := bx + 2) z5 ?_
          intro w3 z6 S
          clear z5
          have SD := S.drew
          clear S
          refine wpG_region 99 (fun W => (W.cell? ⟨bx, 0, none⟩ = some (.int .i64 t.head) ∧ W.cell? ⟨bx, 1, none⟩ = some (.slice to_ t.kids.length (t.kids.length + sp))) ∧ W.cell? ⟨bb, off + q * 4, none⟩ = some (.int .i64 X.head) ∧ W.cell? ⟨bb, off + q * 4 + 1, none⟩ = some (.slice ka X.kids.length (X.kids.length + sa))) (by kernel_rfl) ?_
          have HS := And.intro (And.intro (SD.two 0).1.1 (SD.two 0).2.1) (FC.out _ SD.bel)
          refine wpG.take0 (i := 0) (by kernel_rfl) (by kernel_rfl) (by kernel_rfl) (by kernel_rfl) HS ?_
          intro oi ho
          simp only [List.getElem?_toArray, List.getElem?_cons_zero, Option.some.injEq] at ho
          subst ho
          refine ⟨?_, Or.inl ⟨by rfl, ?_⟩, fun _ _ _ h => h, ?_⟩
          rotate_left 1
          · intro W hW
            try dsimp only at hW
            go_simp
            try with_reducible rfl
          simp only [Act.put, List.setIfInBounds_toArray, List.set_cons_zero, List.set_cons_succ]
          refine wpG.take0 (i := 1) (by kernel_rfl) (by kernel_rfl) (by kernel_rfl) (by kernel_rfl) HS ?_
          intro oi ho
          simp only [List.getElem?_toArray, List.getElem?_cons_succ, List.getElem?_cons_zero, Option.some.injEq] at ho
          subst ho
          refine ⟨?_, Or.inl ⟨by rfl, ?_⟩, fun _ _ _ h => h, ?_⟩
          rotate_left 1
          · intro W hW
            try dsimp only at hW
            go_simp
            try with_reducible rfl
          simp only [Act.put, List.setIfInBounds_toArray, List.set_cons_zero, List.set_cons_succ]
          refine wpG.take0 (i := 2) (by kernel_rfl) (by kernel_rfl) (by kernel_rfl) (by kernel_rfl) HS ?_
          intro oi ho
          simp only [List.getElem?_toArray, List.getElem?_cons_succ, List.getElem?_cons_zero, Option.some.injEq] at ho
          subst ho
          refine ⟨?_, Or.inl ⟨by rfl, ?_⟩, fun _ _ _ h => h, ?_⟩
          rotate_left 1
          · intro W hW
            try dsimp only at hW
            go_simp
            try with_reducible rfl
          simp only [Act.put, List.setIfInBounds_toArray, List.set_cons_zero, List.set_cons_succ]
          refine wpG.take0 (i := 3) (by kernel_rfl) (by kernel_rfl) (by kernel_rfl) (by kernel_rfl) HS ?_
          intro oi ho
          simp only [List.getElem?_toArray, List.getElem?_cons_succ, List.getElem?_cons_zero, Option.some.injEq] at ho
          subst ho
          refine ⟨?_, Or.inl ⟨by rfl, ?_⟩, fun _ _ _ h => h, ?_⟩
          rotate_left 1
          · intro W hW
            try dsimp only at hW
            go_simp
            try with_reducible rfl
          simp only [Act.put, List.setIfInBounds_toArray, List.set_cons_zero, List.set_cons_succ]
          refine wpG.take0 (i := 4) (by kernel_rfl) (by kernel_rfl) (by kernel_rfl) (by kernel_rfl) HS ?_
          intro oi ho
          simp only [List.getElem?_toArray, List.getElem?_cons_succ, List.getElem?_cons_zero, Option.some.injEq] at ho
          subst ho
          refine ⟨?_, Or.inl ⟨by rfl, ?_⟩, fun _ _ _ h => h, ?_⟩
          rotate_left 1
          · intro W hW
            try dsimp only at hW
            go_simp
            try with_reducible rfl
          simp only [Act.put, List.setIfInBounds_toArray, List.set_cons_zero, List.set_cons_succ]
          refine wpG.take0 (i := 5) (by kernel_rfl) (by kernel_rfl) (by kernel_rfl) (by kernel_rfl) HS ?_
          intro oi ho
          simp only [List.getElem?_toArray, List.getElem?_cons_succ, List.getElem?_cons_zero, Option.some.injEq] at ho
          subst ho
          refine ⟨?_, Or.inl ⟨by rfl, ?_⟩, fun _ _ _ h => h, ?_⟩
          rotate_left 1
          · intro W hW
            try dsimp only at hW
            go_simp
            try with_reducible rfl
          simp only [Act.put, List.setIfInBounds_toArray, List.set_cons_zero, List.set_cons_succ]
          refine wpG.take0 (i := 6) (by kernel_rfl) (by kernel_rfl) (by kernel_rfl) (by kernel_rfl) HS ?_
          intro oi ho
          simp only [List.getElem?_toArray, List.getElem?_cons_succ, List.getElem?_cons_zero, Option.some.injEq] at ho
          subst ho
          refine ⟨?_, Or.inl ⟨by rfl, ?_⟩, fun _ _ _ h => h, ?_⟩
          rotate_left 1
          · intro W hW
            try dsimp only at hW
            go_simp
            try with_reducible rfl
          simp only [Act.put, List.setIfInBounds_toArray, List.set_cons_zero, List.set_cons_succ]
          refine wpG.take0 (i := 7) (by kernel_rfl) (by kernel_rfl) (by kernel_rfl) (by kernel_rfl) HS ?_
          intro oi ho
          simp only [List.getElem?_toArray, List.getElem?_cons_succ, List.getElem?_cons_zero, Option.some.injEq] at ho
          subst ho
          refine ⟨?_, Or.inl ⟨by rfl, ?_⟩, fun _ _ _ h => h, ?_⟩
          rotate_left 1
          · intro W hW
            try dsimp only at hW
            go_simp
            try with_reducible rfl
          simp only [Act.put, List.setIfInBounds_toArray, List.set_cons_zero, List.set_cons_succ]
          refine wpG.take0 (i := 8) (by kernel_rfl) (by kernel_rfl) (by kernel_rfl) (by kernel_rfl) HS ?_
          intro oi ho
          simp only [List.getElem?_toArray, List.getElem?_cons_succ, List.getElem?_cons_zero, Option.some.injEq] at ho
          subst ho
          refine ⟨?_, Or.inl ⟨by rfl, ?_⟩, fun _ _ _ h => h, ?_⟩
          rotate_left 1
          · intro W hW
            try dsimp only at hW
            go_simp
            try with_reducible rfl
          simp only [Act.put, List.setIfInBounds_toArray, List.set_cons_zero, List.set_cons_succ]
          refine wpG.take0 (i := 9) (by kernel_rfl) (by kernel_rfl) (by kernel_rfl) (by kernel_rfl) HS ?_
          intro oi ho
          simp only [List.getElem?_toArray, List.getElem?_cons_succ, List.getElem?_cons_zero, Option.some.injEq] at ho
          subst ho
          refine ⟨?_, Or.inl ⟨by rfl, ?_⟩, fun _ _ _ h => h, ?_⟩
          rotate_left 1
          · intro W hW
            try dsimp only at hW
            go_simp
            try with_reducible rfl
          simp only [Act.put, List.setIfInBounds_toArray, List.set_cons_zero, List.set_cons_succ]
          refine wpG.take0 (i := 10) (by kernel_rfl) (by kernel_rfl) (by kernel_rfl) (by kernel_rfl) HS ?_
          intro oi ho
          simp only [List.getElem?_toArray, List.getElem?_cons_succ, List.getElem?_cons_zero, Option.some.injEq] at ho
          subst ho
          refine ⟨?_, Or.inl ⟨by rfl, ?_⟩, fun _ _ _ h => h, ?_⟩
          rotate_left 1
          · intro W hW
            try dsimp only at hW
            go_simp
            try with_reducible rfl
          simp only [Act.put, List.setIfInBounds_toArray, List.set_cons_zero, List.set_cons_succ]
          refine wpG.one (i := 11) (by kernel_rfl) ?_
          intro oi ho
          simp only [List.getElem?_toArray, List.getElem?_cons_succ, List.getElem?_cons_zero, Option.some.injEq] at ho
          subst ho
          intro K hK
          have HK := Lib.hid hK
          have HSH := Lib.hid HS
          clear hK HS
          go_simp
          go_at_call 60
          refine (SD.quiet (most30 X _ _ HXL.out (SD.treeP 2).at)).mono ?_
          rintro e w4 ⟨rfl, z4, S4⟩
          have z4 : w3.heap.size ≤ w4.heap.size := z4
          dsimp only
          refine HK.out _ _ (fun _ => And.intro (And.intro (S4.two 0).1.1 (S4.two 0).2.1) (FC.out _ S4.bel)) ?_
          have HS := And.intro (And.intro (S4.two 0).1.1 (S4.two 0).2.1) (FC.out _ S4.bel)
          try simp only [Act.put, List.setIfInBounds_toArray, List.set_cons_zero, List.set_cons_succ]
          refine wpG.one (i := 12) (by kernel_rfl) ?_
          intro oi ho
          simp only [List.getElem?_toArray, List.getElem?_cons_succ, List.getElem?_cons_zero, Option.some.injEq] at ho
          subst ho
          intro K hK
          have HK := Lib.hid hK
          have HSH := Lib.hid HS
          clear hK HS
          have SA := S4.box (b := w4.heap.size) rfl (madeCells #[Value.int .i64 0, .slice none 0 0] (nn * 2)) 44
          go_simp
          refine HK.out _ _ (fun _ => And.intro (And.intro (SA.two 0).1.1 (SA.two 0).2.1) (FC.out _ SA.bel)) ?_
          have HS := And.intro (And.intro (SA.two 0).1.1 (SA.two 0).2.1) (FC.out _ SA.bel)
          try simp only [Act.put, List.setIfInBounds_toArray, List.set_cons_zero, List.set_cons_succ]
          refine wpG.one (i := 13) (by kernel_rfl) ?_
          intro oi ho
          simp only [List.getElem?_toArray, List.getElem?_cons_succ, List.getElem?_cons_zero, Option.some.injEq] at ho
          subst ho
          intro K hK
          have HK := Lib.hid hK
          have HSH := Lib.hid HS
          clear hK HS
          go_simp
          go_at_call 95
          obtain ⟨wA, hwA⟩ : ∃ W, W = w4.alloc (.cells (madeCells #[Value.int .i64 0, .slice none 0 0] (nn * 2)) 44) := ⟨_, rfl⟩
          rw [← hwA] at SA ⊢
          have zA : w4.heap.size + 1 ≤ wA.heap.size := by rw [hwA]; simp
          clear hwA
          refine (fit35 nn X t (fun _ => zeroT) (fun b => (p0 b ∨ w3.heap.size ≤ b) ∧ b < wA.heap.size) _ _ (some ⟨w4.heap.size, 0, none⟩) nn wA (fun b h => h.2) ((SA.treeP 2).mono (fun b h hl => ⟨.inl h, hl⟩)) ((HT.out.kept SA.bel).mono (fun b h hl => ⟨.inl h, hl⟩)) (RowP.made (SA.block 4) _ ⟨.inr z4, by omega⟩) (by omega) (by omega)).mono ?_
          rintro e w6 ⟨ro, rc, rfl, hfr, hb6⟩
          have S6 := SA.step hb6
          dsimp only
          refine HK.out _ _ (fun _ => And.intro (And.intro (S6.two 0).1.1 (S6.two 0).2.1) (FC.out _ S6.bel)) ?_
          have HS := And.intro (And.intro (S6.two 0).1.1 (S6.two 0).2.1) (FC.out _ S6.bel)
          try simp only [Act.put, List.setIfInBounds_toArray, List.set_cons_zero, List.set_cons_succ]
          refine wpG.take0 (i := 14) (by kernel_rfl) (by kernel_rfl) (by kernel_rfl) (by kernel_rfl) HS ?_
          intro oi ho
          simp only [List.getElem?_toArray, List.getElem?_cons_succ, List.getElem?_cons_zero, Option.some.injEq] at ho
          subst ho
          refine ⟨?_, Or.inl ⟨by rfl, ?_⟩, fun _ _ _ h => h, ?_⟩
          rotate_left 1
          · intro W hW
            try dsimp only at hW
            go_simp
            try with_reducible rfl
          simp only [Act.put, List.setIfInBounds_toArray, List.set_cons_zero, List.set_cons_succ]
          refine wpG.take0 (i := 15) (by kernel_rfl) (by kernel_rfl) (by kernel_rfl) (by kernel_rfl) HS ?_
          intro oi ho
          simp only [List.getElem?_toArray, List.getElem?_cons_succ, List.getElem?_cons_zero, Option.some.injEq] at ho
          subst ho
          refine ⟨?_, Or.inl ⟨by rfl, ?_⟩, fun _ _ _ h => h, ?_⟩
          rotate_left 1
          · intro W hW
            try dsimp only at hW
            go_simp
            try with_reducible rfl
          simp only [Act.put, List.setIfInBounds_toArray, List.set_cons_zero, List.set_cons_succ]
          refine wpG.take0 (i := 16) (by kernel_rfl) (by kernel_rfl) (by kernel_rfl) (by kernel_rfl) HS ?_
          intro oi ho
          simp only [List.getElem?_toArray, List.getElem?_cons_succ, List.getElem?_cons_zero, Option.some.injEq] at ho
          subst ho
          refine ⟨?_, Or.inl ⟨by rfl, ?_⟩, fun _ _ _ h => h, ?_⟩
          rotate_left 1
          · intro W hW
            try dsimp only at hW
            go_simp
            try with_reducible rfl
          simp only [Act.put, List.setIfInBounds_toArray, List.set_cons_zero, List.set_cons_succ]
          refine wpG.take0 (i := 17) (by kernel_rfl) (by kernel_rfl) (by kernel_rfl) (by kernel_rfl) HS ?_
          intro oi ho
          simp only [List.getElem?_toArray, List.getElem?_cons_succ, List.getElem?_cons_zero, Option.some.injEq] at ho
          subst ho
          refine ⟨?_, Or.inl ⟨by rfl, ?_⟩, fun _ _ _ h => h, ?_⟩
          rotate_left 1
          · intro W hW
            try dsimp only at hW
            go_simp
            try with_reducible rfl
          simp only [Act.put, List.setIfInBounds_toArray, List.set_cons_zero, List.set_cons_succ]
          refine wpG.take0 (i := 18) (by kernel_rfl) (by kernel_rfl) (by kernel_rfl) (by kernel_rfl) HS ?_
          intro oi ho
          simp only [List.getElem?_toArray, List.getElem?_cons_succ, List.getElem?_cons_zero, Option.some.injEq] at ho
          subst ho
          refine ⟨?_, Or.inl ⟨by rfl, ?_⟩, fun _ _ _ h => h, ?_⟩
          rotate_left 1
          · intro W hW
            try dsimp only at hW
            go_simp
            try with_reducible rfl
          simp only [Act.put, List.setIfInBounds_toArray, List.set_cons_zero, List.set_cons_succ]
          refine wpG.done (by kernel_rfl) ?_
          have hb3 : w3.drew.heap.size = w3.heap.size := rfl
          have hfe : fitF X t = (X.fit t (fun _ => zeroT)).map (listT nn) := by unfold fitF; rw [show X.most.toNat = nn by have := HNN.out; omega]
          have SB6 := S6.pick [0, 1, 3]
          clear S6 SA S4 SD
          cases hf : X.fit t (fun _ => zeroT) with
          | none =>
            have HN := Lib.hid (show ∀ (j : Nat) f, j < q + 1 → rs[j]? = some f → fitF f.1 t = none from fun j f hj hfj => by
              rcases Nat.lt_succ_iff_lt_or_eq.1 hj with h | rfl
              · exact HNR.out j f h hfj
              · rw [HXY.out] at hfj; obtain rfl := Option.some.inj hfj
                rw [hfe, hf]; rfl)
            have S5 := Lib.hid (SB6.pick [0, 1])
            have z7 : bx + 2 ≤ w6.heap.size := by have := hb6.size; omega
            clear SB6 hf hfr hfe
            go_wp2_with fail
            go_roundw
            case rel => exact ⟨q + 1, by omega, by go_num, HN.out, z7, S5.out⟩
            case measure => simp [intOf] <;> omega
          | some r =>
            have hrow := hfr r hf
            have hbs : fitF X t = some (listT nn r) := by rw [hfe, hf]; rfl
            have HST := Lib.hid (show t.step rs = some (Y.sub (listT nn r)) by rw [HS0.out, rootS_hit HNR.out HXY.out hbs])
            have HRW := Lib.hid hrow
            obtain ⟨d0, d1⟩ := FD.out _ SB6.bel
            have z7 : bx + 2 ≤ w6.heap.size := by have := hb6.size; omega
            clear hf hfr hfe hrow hbs
            go_wp2_with fail
            have H := with19 (listT nn r) Y (fun b => (p0 b ∨ w3.heap.size ≤ b) ∧ b < w6.heap.size) (.agg #[.int .i64 Y.head, .slice kb Y.kids.length (Y.kids.length + sb)]) ro rc w6 (fun b h => h.2) (by rw [listT_length]; omega) ((SB6.treeP 2).mono (fun b h hl => ⟨.inl h, hl⟩)) (RowP.mono HRW.out (fun b h hl => ⟨by rcases h with h | h; exact h.1; exact .inr (by omega), hl⟩)) (low_of_pre Y HYO.out.2.2) (by have := HYO.out.1; omega)
            rw [listT_length] at H
            refine H.mono ?_
            rintro e w7 ⟨u, rfl, hu, hb7⟩
            obtain ⟨R, hR⟩ : ∃ R, R = Y.sub (listT nn r) := ⟨_, rfl⟩
            rw [← hR] at hu HST
            clear H hR
            obtain ⟨uk, us, rfl⟩ := hu.at.form
            have S5 := SB6.step hb7
            obtain ⟨⟨y0, y1⟩, y2, y3⟩ := S5.two 1
            have hl1 := S5.lt 1
            have HU := Lib.hid hu
            have SB := Lib.hid S5
            clear SB6 S5 hu hb7 d0 d1
            go_wp2_with fail
            refine ret_box2b (.int .i64 R.head) (.slice uk R.kids.length (R.kids.length + us)) (.bool true) (bx + 1) 44 (box2_set (SB.out.block 1) _ _) (fun w' q0 q1 => by simp [results, Try.results47, go_sem, q0, q1]) rfl ?_
            have hx := HBX.out
            rw [HST.out]
            refine ⟨_, rfl, ?_, (SB.out.bel.setCell (p := ⟨bx + 1, 0, none⟩) (by show w.heap.size ≤ bx + 1; omega) _).setCell (p := ⟨bx + 1, 1, none⟩) (by show w.heap.size ≤ bx + 1; omega) _⟩
            have h8 := HU.out.mono (q := fun b => (p0 b ∨ w.heap.size ≤ b) ∧ b ≠ bx + 1) (fun b h _ => by
              rcases h with ⟨h | h, _⟩ | h
              · have := HP.out b h; exact ⟨.inl h, by omega⟩
              · exact ⟨.inr (by omega), by omega⟩
              · exact ⟨.inr (by omega), by omega⟩)
            exact ((h8.setCell (a := ⟨bx + 1, 0, none⟩) (fun h => h.2 rfl) _).setCell (a := ⟨bx + 1, 1, none⟩) (fun h => h.2 rfl) _).mono (fun b h _ => h.1)
        · obtain rfl : q = rs.length := by omega
          have HST := Lib.hid (show t.step rs = none by rw [HS0.out, rootS_none HNR.out])
          obtain ⟨⟨x0, _⟩, x1, _⟩ := S.two 0
          obtain ⟨⟨y0, y1⟩, y2, y3⟩ := S.two 1
          have hl1 := S.lt 1
          have SB := Lib.hid S
          clear S
          go_wp2_with fail
          refine ret_box2b (.int .i64 t.head) (.slice to_ t.kids.length (t.kids.length + sp)) (.bool false) (bx + 1) 44 (box2_set (SB.out.block 1) _ _) (fun w' q0 q1 => by simp [results, Try.results47, go_sem, q0, q1]) rfl ?_
          have hx := HBX.out
          rw [HST.out]
          refine ⟨_, rfl, ?_, (SB.out.bel.setCell (p := ⟨bx + 1, 0, none⟩) (by show w.heap.size ≤ bx + 1; omega) _).setCell (p := ⟨bx + 1, 1, none⟩) (by show w.heap.size ≤ bx + 1; omega) _⟩
          have h8 := (HT.out.kept SB.out.bel).mono (q := fun b => (p0 b ∨ w.heap.size ≤ b) ∧ b ≠ bx + 1) (fun b h _ => by have := HP.out b h; exact ⟨.inl h, by omega⟩)
          exact ((h8.setCell (a := ⟨bx + 1, 0, none⟩) (fun h => h.2 rfl) _).setCell (a := ⟨bx + 1, 1, none⟩) (fun h => h.2 rfl) _).mono (fun b h _ => h.1)
end Go.Proofs.Yteekoclfpehnpaa
