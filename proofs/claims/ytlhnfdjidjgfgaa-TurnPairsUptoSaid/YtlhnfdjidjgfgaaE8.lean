/-
  Walks: the document's Norm of a claim.
-/
import Derived.Test.YtlhnfdjidjgfgaaProg
import Derived.Test.YtlhnfdjidjgfgaaE80
import Derived.Test.YtlhnfdjidjgfgaaG2
namespace Go.Proofs.Ytlhnfdjidjgfgaa
open Go.RowKit Go.Shelf
set_option linter.unusedVariables false
set_option maxHeartbeats 400000

set_option maxRecDepth 100000 in
set_option maxHeartbeats 4000000 in
theorem norm21 (fs : List Fc) (p : Nat → Prop) (ao : Option Addr) (sp : Nat) (w : World) (h : factE.Row p w ao fs) (hn : fs.length ≤ 1000) (hp : ∀ b, p b → b < w.heap.size) (hs : ∀ (i : Nat) t, (treesF fs)[i]? = some t → t.size ≤ 10000) :
    Calls Try.prog 50 #[.agg #[.slice ao fs.length (fs.length + sp)]] w fun e w' => ∃ ro rsp, e = .returned (.agg #[.slice ro (normF fs).length ((normF fs).length + rsp)]) ∧ factE.Row (fun b => w.heap.size ≤ b) w' ro (normF fs) ∧ Below w.heap.size w w' := by
  have HR := Lib.hid h; have HP := Lib.hid hp; have HS := Lib.hid hs
  obtain ⟨i54, gi, gz0, gz1, gz2⟩ := info_parts info54
  obtain ⟨bx, hbx⟩ : ∃ b, b = w.heap.size := ⟨_, rfl⟩
  have S1 := ((St.start w).box hbx.symm #[.slice ao fs.length (fs.length + sp)] 41).box (b := bx + 1) (by simp [hbx]) #[.slice none 0 0] 41
  clear h hp hs
  have hT : (treesF fs).length ≤ 2000 := by rw [treesF_length]; omega
  have HSL := Lib.hid (show sizeL (treesF fs) ≤ 20000000 by have h1 := sizeL_le_of HS.out; have h2 := Nat.mul_le_mul_right 10000 hT; omega)
  go_enter Try.func50, Try.ntmps50
  go_wp2_with fail
  refine S1.gen (z := bx + 2) (by simp [hbx]) ?_
  rw [← hbx]
  intro w1 z1 S
  have HBX := Lib.hid hbx
  clear S1 hbx
  refine (S.trees (trees64 fs p ao sp w1 (HR.out.kept S.bel) (by omega) (fun b hb => by have := HP.out b hb; have := HBX.out; omega))).mono ?_
  rintro e w2 ⟨to_, tsp, rfl, z2, S2⟩
  have HTR := Lib.hid (S2.rowE treeE 2)
  clear S
  go_wp2_with fail
  go_loopw [3, 5] (fun u i wr => ∃ k : Nat, k ≤ (treesF fs).length ∧ i = .int .i64 k ∧ w2.heap.size ≤ wr.heap.size ∧ St w2 wr [.owns intE w2.heap.size pF u (orderL ((treesF fs).take k) [])]) (fun _ i _ => (treesF fs).length - (intOf i).toNat)
  case atStart => exact ⟨0, by omega, rfl, Nat.le_refl _, ((St.start w2).add (.owns intE w2.heap.size pF (.slice none 0 0) []) (Elt.Own.nil _ _ _ _))⟩
  case round =>
    obtain ⟨k, hk, rfl, z3, T⟩ := hrel
    by_cases hlt : k < (treesF fs).length
    · have hlti : (k : Int) < ((treesF fs).length : Int) := by omega
      obtain ⟨b, off, ka, sa, rfl, hpb, c0', c1', ht⟩ := HTR.out.rowP k hlt
      have c0 := Below.cellOf T.bel c0'
      have c1 := Below.cellOf T.bel c1'
      have HTK := Lib.hid (ht.mono (q := fun b => b < w2.heap.size) (fun b _ h => h))
      have HOT := Lib.hid (orderL_take hlt [])
      clear c0' c1' ht
      go_wp2_with fail
      refine (order68 _ _ w2 wr w2.heap.size [] u3 _ _ (fun b h => h) (Nat.le_refl _) z3 HTK.out T (fun b _ => trivial) (by
        have h2 := orderL_length ((treesF fs).take k) []
        have h3 := sizeL_take hlt
        have h4 := sizeL_take_le (treesF fs) (k + 1)
        have h5 := HSL.out
        simp at h2; omega)).mono ?_
      rintro e w3 ⟨o2, rfl, z4, _, T2⟩
      rw [← HOT.out] at T2
      clear T c0 c1
      go_wp2_with fail
      go_roundw
      case rel => exact ⟨k + 1, by omega, by go_num, by omega, T2⟩
      case measure => simp [intOf] <;> omega
    · obtain rfl : k = (treesF fs).length := by omega
      rw [List.take_length] at T
      obtain ⟨L, hL⟩ : ∃ L, L = orderL (treesF fs) [] := ⟨_, rfl⟩
      rw [← hL] at T
      obtain ⟨lo, lsp, rfl, hrow, hlm⟩ := ((T.owns intE 0).mono (q := fun _ => True) (fun b _ => trivial)).row (fun b _ => trivial)
      have HLR := Lib.hid hrow
      have HNF := Lib.hid (show normF fs = fs.map (reFc L) by unfold normF; rw [hL])
      have hLl : L.length ≤ 100000000 := by rw [hL]; have h1 := orderL_length (treesF fs) []; have h2 := HSL.out; simp at h1; omega
      have S3 := Lib.hid (S2.step T.bel)
      clear hL hrow T S2
      have U := ((St.start wr).box rfl #[.slice none 0 0] 41).add (.owns factE (wr.heap.size + 1) (fun b => wr.heap.size + 1 ≤ b) (.slice none 0 0) []) (Elt.Own.nil _ _ _ _)
      obtain ⟨bo, hbo⟩ : ∃ b, b = wr.heap.size := ⟨_, rfl⟩
      have hszw : (wr.alloc (.cells #[.slice none 0 0] 41)).heap.size = bo + 1 := by simp [hbo]
      rw [← hbo] at U
      obtain ⟨wB, hwB⟩ : ∃ W, W = wr := ⟨_, rfl⟩
      rw [← hwB] at S3 HLR hbo U hszw
      have HBO := Lib.hid hbo
      go_wp2_with fail
      rw [← hwB, ← hbo]
      clear hwB hbo
      go_loopw [7] (fun i wr => ∃ (k : Nat) (o : Value), k ≤ fs.length ∧ i = .int .i64 k ∧ bo + 1 ≤ wr.heap.size ∧ St wB wr [.box bo #[o] 41, .owns factE (bo + 1) (fun b => bo + 1 ≤ b) o ((fs.take k).map (reFc L))]) (fun i _ => fs.length - (intOf i).toNat)
      case atStart => exact ⟨0, _, by omega, rfl, by omega, U⟩
      case round =>
        clear U
        obtain ⟨k, o, hk, rfl, z4, U⟩ := hrel
        by_cases hlt2 : k < fs.length
        · have hlti2 : (k : Int) < (fs.length : Int) := by omega
          obtain ⟨b, off, ka, sa, kb, sb, rfl, hpb, c0, c1, c2, c3, c4, t1, t2⟩ := (HR.out.kept S3.out.bel).fact hlt2
          have HMT := Lib.hid (map_take (reFc L) hlt2)
          have hlk : ((fs.take k).map (reFc L)).length = k := by simp; omega
          have SD := Lib.hid U.drew
          have FC := Lib.hid (fun (W : World) (hb : Below wB.heap.size wB W) => And.intro (Below.cellOf hb (S3.out.one 0).1) (And.intro (Below.cellOf hb c0) (And.intro (Below.cellOf hb c1) (And.intro (Below.cellOf hb c2) (And.intro (Below.cellOf hb c3) (Below.cellOf hb c4))))))
          have T1 := Lib.hid t1
          have T2 := Lib.hid t2
          have HS1 := Lib.hid (show fs[k].l.size ≤ 100000000 by
            have h1 := HS.out (2 * k) fs[k].l (treesF_at hlt2).1; omega)
          have HS2 := Lib.hid (show fs[k].r.size ≤ 100000000 by
            have h1 := HS.out (2 * k + 1) fs[k].r (treesF_at hlt2).2; omega)
          obtain ⟨X0, _⟩ := FC.out _ U.bel
          go_wp2_with fail
          obtain ⟨y0, _⟩ := SD.out.one 0
          have hly := SD.out.lt 0
          obtain ⟨x0, d0, d1, d2, d3, d4⟩ := FC.out _ SD.out.bel
          have hzd : wr.drew.heap.size = wr.heap.size := rfl
          clear c0 c1 c2 c3 c4 t1 t2 X0 U
          have BAL := Lib.hid (fun (W : World) (o : Obj) => (Below.refl W.heap.size W).alloc (Nat.le_refl _) o)
          refine wpG_region 28 (fun W => W.cell? ⟨bo, 0, none⟩ = some o ∧ W.cell? ⟨bx, 0, none⟩ = some (.slice (some ⟨b, off, none⟩) fs.length (fs.length + sp)) ∧ W.cell? ⟨b, off + k * 5, none⟩ = some (.bool fs[k].neg) ∧ W.cell? ⟨b, off + k * 5 + 1, none⟩ = some (.int .i64 fs[k].l.head) ∧ W.cell? ⟨b, off + k * 5 + 2, none⟩ = some (.slice ka fs[k].l.kids.length (fs[k].l.kids.length + sa)) ∧ W.cell? ⟨b, off + k * 5 + 3, none⟩ = some (.int .i64 fs[k].r.head) ∧ W.cell? ⟨b, off + k * 5 + 4, none⟩ = some (.slice kb fs[k].r.kids.length (fs[k].r.kids.length + sb))) (by kernel_rfl) ?_
          have HS := And.intro (SD.out.one 0).1 (FC.out _ SD.out.bel)
          refine wpG.take (i := 0) (by kernel_rfl) (by kernel_rfl) (by kernel_rfl) (by kernel_rfl) (by kernel_rfl) HS ?_
          intro oi ho
          simp only [List.getElem?_toArray, List.getElem?_cons_zero, Option.some.injEq] at ho
          subst ho
          refine ⟨?_, Or.inl ⟨by rfl, ?_⟩, fun _ _ _ h => h, ?_⟩
          rotate_left 1
          · intro W hW
            try dsimp only at hW
            go_simp
            try with_reducible rfl
          simp only [Act.put, List.setIfInBounds_toArray, List.set_cons_zero, List.set_cons_succ]
          refine wpG.take (i := 1) (by kernel_rfl) (by kernel_rfl) (by kernel_rfl) (by kernel_rfl) (by kernel_rfl) HS ?_
          intro oi ho
          simp only [List.getElem?_toArray, List.getElem?_cons_succ, List.getElem?_cons_zero, Option.some.injEq] at ho
          subst ho
          refine ⟨?_, Or.inl ⟨by rfl, ?_⟩, fun _ _ _ h => h, ?_⟩
          rotate_left 1
          · intro W hW
            try dsimp only at hW
            go_simp
            try with_reducible rfl
          simp only [Act.put, List.setIfInBounds_toArray, List.set_cons_zero, List.set_cons_succ]
          refine wpG.take (i := 2) (by kernel_rfl) (by kernel_rfl) (by kernel_rfl) (by kernel_rfl) (by kernel_rfl) HS ?_
          intro oi ho
          simp only [List.getElem?_toArray, List.getElem?_cons_succ, List.getElem?_cons_zero, Option.some.injEq] at ho
          subst ho
          refine ⟨?_, Or.inl ⟨by rfl, ?_⟩, fun _ _ _ h => h, ?_⟩
          rotate_left 1
          · intro W hW
            try dsimp only at hW
            go_simp
            try with_reducible rfl
          simp only [Act.put, List.setIfInBounds_toArray, List.set_cons_zero, List.set_cons_succ]
          refine wpG.take (i := 3) (by kernel_rfl) (by kernel_rfl) (by kernel_rfl) (by kernel_rfl) (by kernel_rfl) HS ?_
          intro oi ho
          simp only [List.getElem?_toArray, List.getElem?_cons_succ, List.getElem?_cons_zero, Option.some.injEq] at ho
          subst ho
          refine ⟨?_, Or.inl ⟨by rfl, ?_⟩, fun _ _ _ h => h, ?_⟩
          rotate_left 1
          · intro W hW
            try dsimp only at hW
            go_simp
            try with_reducible rfl
          simp only [Act.put, List.setIfInBounds_toArray, List.set_cons_zero, List.set_cons_succ]
          refine wpG.take (i := 4) (by kernel_rfl) (by kernel_rfl) (by kernel_rfl) (by kernel_rfl) (by kernel_rfl) HS ?_
          intro oi ho
          simp only [List.getElem?_toArray, List.getElem?_cons_succ, List.getElem?_cons_zero, Option.some.injEq] at ho
          subst ho
          refine ⟨?_, Or.inl ⟨by rfl, ?_⟩, fun _ _ _ h => h, ?_⟩
          rotate_left 1
          · intro W hW
            try dsimp only at hW
            go_simp
            try with_reducible rfl
          simp only [Act.put, List.setIfInBounds_toArray, List.set_cons_zero, List.set_cons_succ]
          refine wpG.take (i := 5) (by kernel_rfl) (by kernel_rfl) (by kernel_rfl) (by kernel_rfl) (by kernel_rfl) HS ?_
          intro oi ho
          simp only [List.getElem?_toArray, List.getElem?_cons_succ, List.getElem?_cons_zero, Option.some.injEq] at ho
          subst ho
          refine ⟨?_, Or.inl ⟨by rfl, ?_⟩, fun _ _ _ h => h, ?_⟩
          rotate_left 1
          · intro W hW
            try dsimp only at hW
            go_simp
            try with_reducible rfl
          simp only [Act.put, List.setIfInBounds_toArray, List.set_cons_zero, List.set_cons_succ]
          refine wpG.take (i := 6) (by kernel_rfl) (by kernel_rfl) (by kernel_rfl) (by kernel_rfl) (by kernel_rfl) HS ?_
          intro oi ho
          simp only [List.getElem?_toArray, List.getElem?_cons_succ, List.getElem?_cons_zero, Option.some.injEq] at ho
          subst ho
          refine ⟨?_, Or.inl ⟨by rfl, ?_⟩, fun _ _ _ h => h, ?_⟩
          rotate_left 1
          · intro W hW
            try dsimp only at hW
            go_simp
            try with_reducible rfl
          simp only [Act.put, List.setIfInBounds_toArray, List.set_cons_zero, List.set_cons_succ]
          refine wpG.take (i := 7) (by kernel_rfl) (by kernel_rfl) (by kernel_rfl) (by kernel_rfl) (by kernel_rfl) HS ?_
          intro oi ho
          simp only [List.getElem?_toArray, List.getElem?_cons_succ, List.getElem?_cons_zero, Option.some.injEq] at ho
          subst ho
          refine ⟨?_, Or.inl ⟨by rfl, ?_⟩, fun _ _ _ h => h, ?_⟩
          rotate_left 1
          · intro W hW
            try dsimp only at hW
            go_simp
            try with_reducible rfl
          simp only [Act.put, List.setIfInBounds_toArray, List.set_cons_zero, List.set_cons_succ]
          refine wpG.take (i := 8) (by kernel_rfl) (by kernel_rfl) (by kernel_rfl) (by kernel_rfl) (by kernel_rfl) HS ?_
          intro oi ho
          simp only [List.getElem?_toArray, List.getElem?_cons_succ, List.getElem?_cons_zero, Option.some.injEq] at ho
          subst ho
          refine ⟨?_, Or.inl ⟨by rfl, ?_⟩, fun _ _ _ h => h, ?_⟩
          rotate_left 1
          · intro W hW
            try dsimp only at hW
            go_simp
            try with_reducible rfl
          simp only [Act.put, List.setIfInBounds_toArray, List.set_cons_zero, List.set_cons_succ]
          refine wpG.take (i := 9) (by kernel_rfl) (by kernel_rfl) (by kernel_rfl) (by kernel_rfl) (by kernel_rfl) HS ?_
          intro oi ho
          simp only [List.getElem?_toArray, List.getElem?_cons_succ, List.getElem?_cons_zero, Option.some.injEq] at ho
          subst ho
          refine ⟨?_, Or.inl ⟨by rfl, ?_⟩, fun _ _ _ h => h, ?_⟩
          rotate_left 1
          · intro W hW
            try dsimp only at hW
            go_simp
            try with_reducible rfl
          simp only [Act.put, List.setIfInBounds_toArray, List.set_cons_zero, List.set_cons_succ]
          refine wpG.take (i := 10) (by kernel_rfl) (by kernel_rfl) (by kernel_rfl) (by kernel_rfl) (by kernel_rfl) HS ?_
          intro oi ho
          simp only [List.getElem?_toArray, List.getElem?_cons_succ, List.getElem?_cons_zero, Option.some.injEq] at ho
          subst ho
          refine ⟨?_, Or.inl ⟨by rfl, ?_⟩, fun _ _ _ h => h, ?_⟩
          rotate_left 1
          · intro W hW
            try dsimp only at hW
            go_simp
            try with_reducible rfl
          simp only [Act.put, List.setIfInBounds_toArray, List.set_cons_zero, List.set_cons_succ]
          refine wpG.take (i := 11) (by kernel_rfl) (by kernel_rfl) (by kernel_rfl) (by kernel_rfl) (by kernel_rfl) HS ?_
          intro oi ho
          simp only [List.getElem?_toArray, List.getElem?_cons_succ, List.getElem?_cons_zero, Option.some.injEq] at ho
          subst ho
          refine ⟨?_, Or.inl ⟨by rfl, ?_⟩, fun _ _ _ h => h, ?_⟩
          rotate_left 1
          · intro W hW
            try dsimp only at hW
            go_simp
            try with_reducible rfl
          simp only [Act.put, List.setIfInBounds_toArray, List.set_cons_zero, List.set_cons_succ]
          refine wpG.take (i := 12) (by kernel_rfl) (by kernel_rfl) (by kernel_rfl) (by kernel_rfl) (by kernel_rfl) HS ?_
          intro oi ho
          simp only [List.getElem?_toArray, List.getElem?_cons_succ, List.getElem?_cons_zero, Option.some.injEq] at ho
          subst ho
          refine ⟨?_, Or.inl ⟨by rfl, ?_⟩, fun _ _ _ h => h, ?_⟩
          rotate_left 1
          · intro W hW
            try dsimp only at hW
            go_simp
            try with_reducible rfl
          simp only [Act.put, List.setIfInBounds_toArray, List.set_cons_zero, List.set_cons_succ]
          refine wpG.take (i := 13) (by kernel_rfl) (by kernel_rfl) (by kernel_rfl) (by kernel_rfl) (by kernel_rfl) HS ?_
          intro oi ho
          simp only [List.getElem?_toArray, List.getElem?_cons_succ, List.getElem?_cons_zero, Option.some.injEq] at ho
          subst ho
          refine ⟨?_, Or.inl ⟨by rfl, ?_⟩, fun _ _ _ h => h, ?_⟩
          rotate_left 1
          · intro W hW
            try dsimp only at hW
            go_simp
            try with_reducible rfl
          simp only [Act.put, List.setIfInBounds_toArray, List.set_cons_zero, List.set_cons_succ]
          refine wpG.take (i := 14) (by kernel_rfl) (by kernel_rfl) (by kernel_rfl) (by kernel_rfl) (by kernel_rfl) HS ?_
          intro oi ho
          simp only [List.getElem?_toArray, List.getElem?_cons_succ, List.getElem?_cons_zero, Option.some.injEq] at ho
          subst ho
          refine ⟨?_, Or.inl ⟨by rfl, ?_⟩, fun _ _ _ h => h, ?_⟩
          rotate_left 1
          · intro W hW
            try dsimp only at hW
            go_simp
            try with_reducible rfl
          simp only [Act.put, List.setIfInBounds_toArray, List.set_cons_zero, List.set_cons_succ]
          refine wpG.take (i := 16) (by kernel_rfl) (by kernel_rfl) (by kernel_rfl) (by kernel_rfl) (by kernel_rfl) HS ?_
          intro oi ho
          simp only [List.getElem?_toArray, List.getElem?_cons_succ, List.getElem?_cons_zero, Option.some.injEq] at ho
          subst ho
          refine ⟨?_, Or.inl ⟨by rfl, ?_⟩, fun _ _ _ h => h, ?_⟩
          rotate_left 1
          · intro W hW
            try dsimp only at hW
            go_simp
            try with_reducible rfl
          simp only [Act.put, List.setIfInBounds_toArray, List.set_cons_zero, List.set_cons_succ]
          refine wpG.take (i := 17) (by kernel_rfl) (by kernel_rfl) (by kernel_rfl) (by kernel_rfl) (by kernel_rfl) HS ?_
          intro oi ho
          simp only [List.getElem?_toArray, List.getElem?_cons_succ, List.getElem?_cons_zero, Option.some.injEq] at ho
          subst ho
          refine ⟨?_, Or.inl ⟨by rfl, ?_⟩, fun _ _ _ h => h, ?_⟩
          rotate_left 1
          · intro W hW
            try dsimp only at hW
            go_simp
            try with_reducible rfl
          simp only [Act.put, List.setIfInBounds_toArray, List.set_cons_zero, List.set_cons_succ]
          refine wpG.take (i := 18) (by kernel_rfl) (by kernel_rfl) (by kernel_rfl) (by kernel_rfl) (by kernel_rfl) HS ?_
          intro oi ho
          simp only [List.getElem?_toArray, List.getElem?_cons_succ, List.getElem?_cons_zero, Option.some.injEq] at ho
          subst ho
          refine ⟨?_, Or.inl ⟨by rfl, ?_⟩, fun _ _ _ h => h, ?_⟩
          rotate_left 1
          · intro W hW
            try dsimp only at hW
            go_simp
            try with_reducible rfl
          simp only [Act.put, List.setIfInBounds_toArray, List.set_cons_zero, List.set_cons_succ]
          refine wpG.take (i := 19) (by kernel_rfl) (by kernel_rfl) (by kernel_rfl) (by kernel_rfl) (by kernel_rfl) HS ?_
          intro oi ho
          simp only [List.getElem?_toArray, List.getElem?_cons_succ, List.getElem?_cons_zero, Option.some.injEq] at ho
          subst ho
          refine ⟨?_, Or.inl ⟨by rfl, ?_⟩, fun _ _ _ h => h, ?_⟩
          rotate_left 1
          · intro W hW
            try dsimp only at hW
            go_simp
            try with_reducible rfl
          simp only [Act.put, List.setIfInBounds_toArray, List.set_cons_zero, List.set_cons_succ]
          refine wpG.take (i := 20) (by kernel_rfl) (by kernel_rfl) (by kernel_rfl) (by kernel_rfl) (by kernel_rfl) HS ?_
          intro oi ho
          simp only [List.getElem?_toArray, List.getElem?_cons_succ, List.getElem?_cons_zero, Option.some.injEq] at ho
          subst ho
          refine ⟨?_, Or.inl ⟨by rfl, ?_⟩, fun _ _ _ h => h, ?_⟩
          rotate_left 1
          · intro W hW
            try dsimp only at hW
            go_simp
            try with_reducible rfl
          simp only [Act.put, List.setIfInBounds_toArray, List.set_cons_zero, List.set_cons_succ]
          refine wpG.take (i := 21) (by kernel_rfl) (by kernel_rfl) (by kernel_rfl) (by kernel_rfl) (by kernel_rfl) HS ?_
          intro oi ho
          simp only [List.getElem?_toArray, List.getElem?_cons_succ, List.getElem?_cons_zero, Option.some.injEq] at ho
          subst ho
          refine ⟨?_, Or.inl ⟨by rfl, ?_⟩, fun _ _ _ h => h, ?_⟩
          rotate_left 1
          · intro W hW
            try dsimp only at hW
            go_simp
            try with_reducible rfl
          simp only [Act.put, List.setIfInBounds_toArray, List.set_cons_zero, List.set_cons_succ]
          refine wpG.take (i := 22) (by kernel_rfl) (by kernel_rfl) (by kernel_rfl) (by kernel_rfl) (by kernel_rfl) HS ?_
          intro oi ho
          simp only [List.getElem?_toArray, List.getElem?_cons_succ, List.getElem?_cons_zero, Option.some.injEq] at ho
          subst ho
          refine ⟨?_, Or.inl ⟨by rfl, ?_⟩, fun _ _ _ h => h, ?_⟩
          rotate_left 1
          · intro W hW
            try dsimp only at hW
            go_simp
            try with_reducible rfl
          simp only [Act.put, List.setIfInBounds_toArray, List.set_cons_zero, List.set_cons_succ]
          refine wpG.one (i := 15) (by kernel_rfl) ?_
          intro oi ho
          simp only [List.getElem?_toArray, List.getElem?_cons_succ, List.getElem?_cons_zero, Option.some.injEq] at ho
          subst ho
          intro K hK
          have HK := Lib.hid hK
          have HSH := Lib.hid HS
          clear hK HS
          go_simp
          go_at_call 98
          refine (SD.out.made (renumbered69 L hLl fs[k].l _ _ _ _ lo _ (T1.out.kept SD.out.bel) (HLR.out.kept SD.out.bel) HS1.out)).mono ?_
          rintro e w4 ⟨k4, s4, rfl, hz4, S4⟩
          have hz4 : wr.heap.size ≤ w4.heap.size := hz4
          dsimp only
          refine HK.out _ _ (fun _ => ⟨(S4.one 0).1, FC.out _ S4.bel⟩) ?_
          have HS := And.intro (S4.one 0).1 (FC.out _ S4.bel)
          try simp only [Act.put, List.setIfInBounds_toArray, List.set_cons_zero, List.set_cons_succ]
          refine wpG.one (i := 23) (by kernel_rfl) ?_
          intro oi ho
          simp only [List.getElem?_toArray, List.getElem?_cons_succ, List.getElem?_cons_zero, Option.some.injEq] at ho
          subst ho
          intro K hK
          have HK := Lib.hid hK
          have HSH := Lib.hid HS
          clear hK HS
          go_simp
          go_at_call 98
          refine (S4.made (renumbered69 L hLl fs[k].r _ _ _ _ lo _ (T2.out.kept S4.bel) (HLR.out.kept S4.bel) HS2.out)).mono ?_
          rintro e w5 ⟨k5, s5, rfl, hz5, S5⟩
          dsimp only
          refine HK.out _ _ (fun _ => ⟨(S5.one 0).1, FC.out _ S5.bel⟩) ?_
          have HS := And.intro (S5.one 0).1 (FC.out _ S5.bel)
          try simp only [Act.put, List.setIfInBounds_toArray, List.set_cons_zero, List.set_cons_succ]
          refine wpG.take (i := 24) (by kernel_rfl) (by kernel_rfl) (by kernel_rfl) (by kernel_rfl) (by kernel_rfl) HS ?_
          intro oi ho
          simp only [List.getElem?_toArray, List.getElem?_cons_succ, List.getElem?_cons_zero, Option.some.injEq] at ho
          subst ho
          refine ⟨?_, Or.inl ⟨by rfl, ?_⟩, fun _ _ _ h => h, ?_⟩
          rotate_left 1
          · intro W hW
            try dsimp only at hW
            go_simp
            try with_reducible rfl
          simp only [Act.put, List.setIfInBounds_toArray, List.set_cons_zero, List.set_cons_succ]
          refine wpG.one (i := 25) (by kernel_rfl) ?_
          intro oi ho
          simp only [List.getElem?_toArray, List.getElem?_cons_succ, List.getElem?_cons_zero, Option.some.injEq] at ho
          subst ho
          intro K hK
          have HK := Lib.hid hK
          have HSH := Lib.hid HS
          clear hK HS
          have SA := S5.alloc (.cells #[.bool fs[k].neg, .int .i64 (fs[k].l.renum L).head, .slice k4 (fs[k].l.renum L).kids.length ((fs[k].l.renum L).kids.length + s4), .int .i64 (fs[k].r.renum L).head, .slice k5 (fs[k].r.renum L).kids.length ((fs[k].r.renum L).kids.length + s5)] 62)
          go_simp
          refine HK.out _ _ (fun _ => ⟨(SA.one 0).1, FC.out _ SA.bel⟩) ?_
          have HS := And.intro (SA.one 0).1 (FC.out _ SA.bel)
          try simp only [Act.put, List.setIfInBounds_toArray, List.set_cons_zero, List.set_cons_succ]
          refine wpG.one (i := 26) (by kernel_rfl) ?_
          intro oi ho
          simp only [List.getElem?_toArray, List.getElem?_cons_succ, List.getElem?_cons_zero, Option.some.injEq] at ho
          subst ho
          intro K hK
          have HK := Lib.hid hK
          have HSH := Lib.hid HS
          clear hK HS
          refine step_app (by rfl) (.tmp 30) (.tmp 54) 39 (by rfl) factE S5 1 rfl (x := reFc L fs[k]) (q := fun b => wr.heap.size ≤ b ∧ b < w5.heap.size) (p' := fun b => bo + 1 ≤ b) ⟨k4, s4, k5, s5, rfl, (S5.tree 2).mono (fun b h _ => ⟨h.1, by have := h.2; omega⟩), (S5.tree 3).mono (fun b h _ => ⟨by have h1 : w4.heap.size ≤ b := h.1; omega, h.2⟩)⟩ Try.underlying39 gi gz0 gz1 gz2 (by rfl) (by rfl) (by rfl) (by rfl) (by unfold maxLen; omega) (by omega) (by omega) (by have := HBO.out; omega)
                (fun bb h1 h2 h3 => by have h4 : bb < wr.heap.size := (SD.out.ownlt factE 1 rfl bb h1).2; simp only [fsnoc, offs, offAll, Fct.box, Fct.tree, and_true]; omega) (fun bb h1 h2 => by have h4 : bb < wr.heap.size := (SD.out.ownlt factE 1 rfl bb h2).2; have h5 := h1.1; omega) (fun bb h1 => by rcases h1 with h1 | h1; exact h1; have h5 := h1.1; omega) ?_
          intro gg cap w6 S6 hs6 hgg hat6
          refine HK.out _ _ (fun _ => ⟨(S6.one 0).1, FC.out _ S6.bel⟩) ?_
          have HS := And.intro (S6.one 0).1 (FC.out _ S6.bel)
          try simp only [Act.put, List.setIfInBounds_toArray, List.set_cons_zero, List.set_cons_succ]
          refine wpG.take (i := 27) (by kernel_rfl) (by kernel_rfl) (by kernel_rfl) (by kernel_rfl) (by kernel_rfl) HS ?_
          intro oi ho
          simp only [List.getElem?_toArray, List.getElem?_cons_succ, List.getElem?_cons_zero, Option.some.injEq] at ho
          subst ho
          refine ⟨?_, Or.inl ⟨by rfl, ?_⟩, fun _ _ _ h => h, ?_⟩
          rotate_left 1
          · intro W hW
            try dsimp only at hW
            go_simp
            try with_reducible rfl
          simp only [Act.put, List.setIfInBounds_toArray, List.set_cons_zero, List.set_cons_succ]
          refine wpG.one (i := 28) (by kernel_rfl) ?_
          intro oi ho
          simp only [List.getElem?_toArray, List.getElem?_cons_succ, List.getElem?_cons_zero, Option.some.injEq] at ho
          subst ho
          intro K hK
          have HK := Lib.hid hK
          have HSH := Lib.hid HS
          clear hK HS
          obtain ⟨u0, u1⟩ := S6.one 0
          go_simp
          refine HK.out _ _ (fun h => absurd rfl h) ?_
          try simp only [Act.put, List.setIfInBounds_toArray, List.set_cons_zero, List.set_cons_succ]
          refine wpG.done (by kernel_rfl) ?_
          rw [hlk] at S6
          have S7 := (S6.set1 0 rfl (.slice (some ⟨gg, 0, none⟩) (k + 1) cap) (by have := HBO.out; omega) (by simp only [fset, fsnoc, offs, offAll, Fct.box, Fct.tree, Fct.owns, and_true]; refine ⟨fun e => ?_, by omega, by omega⟩; rcases e with e | e; have h8 := (S6.ownlt factE 1 rfl bo e).1; omega; omega)).pick [0, 1]
          have S8 := Lib.hid (show St wB (w6.setCell ⟨bo, 0, none⟩ (.slice (some ⟨gg, 0, none⟩) (k + 1) cap)) [.box bo #[.slice (some ⟨gg, 0, none⟩) (k + 1) cap] 41, .owns factE (bo + 1) (fun b => bo + 1 ≤ b) (.slice (some ⟨gg, 0, none⟩) (k + 1) cap) ((fs.take (k + 1)).map (reFc L))] by rw [HMT.out]; exact S7)
          clear S7 S6 S5 S4 SA HS u0 u1 y0 x0 d0 d1 d2 d3 d4
          go_wp2_with fail
          go_roundw
          case rel => exact ⟨k + 1, _, by omega, by go_num, by simp; omega, S8.out⟩
          case measure => simp [intOf] <;> omega
        · obtain rfl : k = fs.length := by omega
          rw [List.take_length, ← HNF.out] at U
          have HNL := Lib.hid (show (normF fs).length = fs.length by simp [normF])
          obtain ⟨ro, rsp, rfl, hrow, hml2⟩ := (U.owns factE 1).row (fun b h => h)
          have HT := Lib.hid hrow
          have S9 := S3.out.step U.bel
          have SB := Lib.hid S9
          obtain ⟨x0, _⟩ := S9.one 0
          obtain ⟨y0, y1⟩ := S9.one 1
          obtain ⟨v0, _⟩ := U.one 0
          have hl1 := S9.lt 1
          clear hrow S9 U
          go_wp2_with fail
          refine ret_box1 (.slice ro (normF fs).length ((normF fs).length + rsp)) (bx + 1) 41 (box1_set' (SB.out.block 1) _ rfl) (fun w' q0 => by simp [results, Try.results50, go_sem, q0]) rfl ?_
          have hl := S3.out.lt 1
          refine ⟨_, _, rfl, HT.out.keep (fun b h1 h2 => ⟨Below.heap_setCell _ _ _ _ (by have := HBO.out; show b ≠ bx + 1; omega), by have := HBX.out; have := HBO.out; omega⟩), SB.out.bel.setCell (p := ⟨bx + 1, 0, none⟩) (by have := HBX.out; show w.heap.size ≤ bx + 1; omega) _⟩
end Go.Proofs.Ytlhnfdjidjgfgaa
