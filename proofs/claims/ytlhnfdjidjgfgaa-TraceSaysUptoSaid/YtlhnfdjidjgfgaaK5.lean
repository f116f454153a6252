/-
  Walk: trace.Once.
-/
import Derived.Test.YtlhnfdjidjgfgaaProg
import Derived.Test.YtlhnfdjidjgfgaaTr0
import Derived.Test.YtlhnfdjidjgfgaaK4
import Derived.Test.YtlhnfdjidjgfgaaMp
import Derived.Test.YtlhnfdjidjgfgaaV1
import Derived.Deep.DeepCutAuto
namespace Go.Proofs.Ytlhnfdjidjgfgaa
open Go.RowKit Go.Shelf
set_option linter.unusedVariables false
set_option maxHeartbeats 400000

theorem Elt.Row.take {α : Type} {E : Elt α} {p : Nat → Prop} {w : World} {ao : Option Addr} {xs : List α} (h : E.Row p w ao xs) (k : Nat) : E.Row p w ao (xs.take k) := fun i x hi => h i x (by
  rw [List.getElem?_take] at hi
  split at hi
  · exact hi
  · simp at hi)
set_option maxRecDepth 100000 in
set_option maxHeartbeats 4000000 in
theorem once112 (fs : List Fc) (p : Nat → Prop) (ao : Option Addr) (sp : Nat) (w : World) (hp : ∀ c, p c → c < w.heap.size) (h : factE.Row p w ao fs) (hn : fs.length ≤ 1000) (hsz : ∀ t, t ∈ treesF fs → t.size ≤ 1000) :
    Calls Try.prog 112 #[.agg #[.slice ao fs.length (fs.length + sp)]] w fun e w' => ∃ ro rsp, e = .returned (.agg #[.slice ro (onceF fs).length ((onceF fs).length + rsp)]) ∧ factE.Row (fun c => w.heap.size ≤ c) w' ro (onceF fs) ∧ Below w.heap.size w w' := by
  have HR := Lib.hid h; have HP := Lib.hid hp
  have HF := Lib.hid (fun (W : World) (v : Value) (t : T) (ht : t ∈ treesF fs) (_ : Below w.heap.size w W) (hv : TreeP p W v t) => show Calls Try.prog 113 #[v] W fun e w' => ∃ u, e = .returned u ∧ TreeP (fun b => pF b ∨ W.heap.size ≤ b) w' u t ∧ Below W.heap.size W w' from
    (copy50 t v W hv.at (by have := hsz t ht; omega)).mono fun e w' ⟨u, h1, h2, h3⟩ => ⟨u, h1, h2.mono (fun b h _ => .inr h), h3⟩)
  obtain ⟨i54, gi, gz0, gz1, gz2⟩ := info_parts info54
  obtain ⟨bx, hbx⟩ : ∃ b, b = w.heap.size := ⟨_, rfl⟩
  have S1 := (((St.start w).box hbx.symm #[.slice ao fs.length (fs.length + sp)] 41).box (b := bx + 1) (by simp [hbx]) #[.slice none 0 0] 41).box (b := bx + 2) (by simp [hbx]) #[.slice none 0 0] 41
  have hsz1 : (((w.alloc (.cells #[.slice ao fs.length (fs.length + sp)] 41)).alloc (.cells #[.slice none 0 0] 41)).alloc (.cells #[.slice none 0 0] 41)).heap.size = bx + 3 := by simp [hbx]
  have S1 := S1.add (.owns factE (bx + 3) (fun c => pF c ∨ bx + 3 ≤ c) (.slice none 0 0) (onceF (fs.take 0))) (Elt.Own.nil _ _ _ _)
  clear h hp hsz
  go_enter Try.func112, Try.ntmps112
  go_wp2_with fail
  rw [← hbx]
  refine S1.genC (z := bx + 3) (by omega) ?_
  intro w1 z1 S
  have HBX := Lib.hid hbx
  clear S1 hbx hsz1
  obtain ⟨xx0, _⟩ := S.one 0
  go_wp2_with fail
  go_loopw [9] (fun i wr => ∃ (k : Nat) (o : Value), k ≤ fs.length ∧ i = .int .i64 k ∧ bx + 3 ≤ wr.heap.size ∧ St w wr [.box bx #[.slice ao fs.length (fs.length + sp)] 41, .box (bx + 1) #[.slice none 0 0] 41, .box (bx + 2) #[o] 41, .owns factE (bx + 3) (fun c => pF c ∨ bx + 3 ≤ c) o (onceF (fs.take k))]) (fun i _ => fs.length - (intOf i).toNat)
  case atStart => exact ⟨0, _, by omega, rfl, z1, S⟩
  case round =>
    clear S xx0
    obtain ⟨k, o, hk, rfl, z3, S⟩ := hrel
    by_cases hlt : k < fs.length
    · have hlti : (k : Int) < (fs.length : Int) := by omega
      obtain ⟨bk, hbk⟩ : ∃ b, b = wr.heap.size := ⟨_, rfl⟩
      obtain ⟨bb, off, ka, sa, kb, sb, rfl, hpb, c0', c1', c2', c3', c4', t1, t2⟩ := (HR.out.kept S.bel).fact hlt
      have c0 := c0'; have c1 := c1'; have c2 := c2'; have c3 := c3'; have c4 := c4'
      have HPR := treesF_mem2 hlt
      have HTK := onceF_take hlt
      obtain ⟨X, hX⟩ : ∃ X, X = fs[k].l := ⟨_, rfl⟩
      obtain ⟨Y, hY⟩ : ∃ Y, Y = fs[k].r := ⟨_, rfl⟩
      obtain ⟨N, hN⟩ : ∃ N, N = fs[k].neg := ⟨_, rfl⟩
      have hfk : fs[k] = ⟨N, X, Y⟩ := by rw [hN, hX, hY]
      rw [hfk] at HTK
      rw [← hX, ← hY] at HPR
      rw [← hX] at c1 c2 t1
      rw [← hY] at c3 c4 t2
      rw [← hN] at c0
      have HPX := Lib.hid HPR.1; have HPY := Lib.hid HPR.2
      have HT := Lib.hid HTK
      have T1' := Lib.hid t1; have T2' := Lib.hid t2
      have HOW := Lib.hid (show ∀ c, o.ownBlock = some c → bx + 3 ≤ c ∧ c < bk from fun c hc => by rw [hbk]; exact S.ownlt factE 3 rfl c hc)
      have SK := S.box hbk.symm #[.bool N, .int .i64 X.head, .slice ka X.kids.length (X.kids.length + sa), .int .i64 Y.head, .slice kb Y.kids.length (Y.kids.length + sb)] 62
      have HBA := Lib.hid (show Below wr.heap.size wr (wr.alloc (.cells #[.bool N, .int .i64 X.head, .slice ka X.kids.length (X.kids.length + sa), .int .i64 Y.head, .slice kb Y.kids.length (Y.kids.length + sb)] 62)) from (Below.refl _ _).alloc (Nat.le_refl _) _)
      obtain ⟨RL, hRL⟩ : ∃ RL, RL = onceF (fs.take k) := ⟨_, rfl⟩
      have hlk : RL.length ≤ k := by rw [hRL]; have := onceF_len (fs.take k); simp at this; omega
      have HRL := Lib.hid hRL
      rw [← hRL] at SK
      clear c0' c1' c2' c3' c4' S hRL hX hY hN HPR t1 t2 HTK hfk
      go_upto_region 5 with fail
      rw [← hbk]
      have TT := And.intro (T1'.out.kept HBA.out) (T2'.out.kept HBA.out)
      have G := And.intro SK TT
      have z4' : bk + 1 ≤ (wr.alloc (.cells #[.bool N, .int .i64 X.head, .slice ka X.kids.length (X.kids.length + sa), .int .i64 Y.head, .slice kb Y.kids.length (Y.kids.length + sb)] 62)).heap.size := by simp [hbk]
      generalize wr.alloc (.cells #[.bool N, .int .i64 X.head, .slice ka X.kids.length (X.kids.length + sa), .int .i64 Y.head, .slice kb Y.kids.length (Y.kids.length + sb)] 62) = w2 at G z4' ⊢
      obtain ⟨S, t1, t2⟩ := G
      have T1w := Lib.hid t1; have T2w := Lib.hid t2
      have HBK := Lib.hid (show bx + 3 ≤ bk by omega)
      have z4 : bk + 1 ≤ w2.heap.size := z4'
      clear SK hbk c0 c1 c2 c3 c4 TT t1 t2 HBA T1' T2' z4'
      change St w w2 [.box bx #[.slice (some ⟨bb, off, none⟩) fs.length (fs.length + sp)] 41, .box (bx + 1) #[.slice none 0 0] 41, .box (bx + 2) #[o] 41, .owns factE (bx + 3) (fun c => pF c ∨ bx + 3 ≤ c) o RL, .box bk #[.bool N, .int .i64 X.head, .slice ka X.kids.length (X.kids.length + sa), .int .i64 Y.head, .slice kb Y.kids.length (Y.kids.length + sb)] 62] at S
      have HBLK := Lib.hid (S.block 4)
      have HLN := Lib.hid (show (fs.take k).length = k by simp; omega)
      have HCO := Lib.hid (fun (W : World) (hS : Below w2.heap.size w2 W) (hb : Below w.heap.size w W) => show Calls Try.prog 120 #[.slice (some ⟨bb, off, none⟩) k (fs.length + sp), .func (.func 143) #[] #[.pointer (some ⟨bk, 0, none⟩)]] W fun e w' => e = .returned (.bool (decide ((⟨N, X, Y⟩ : Fc) ∈ fs.take k))) ∧ Below W.heap.size W w' by
        have h := contF 143 #[.pointer (some ⟨bk, 0, none⟩)] (fun _ _ => rfl) p (some ⟨bb, off, none⟩) (fs.take k) (fs.length + sp) (fun x => decide (x = (⟨N, X, Y⟩ : Fc))) W (by unfold maxLen; simp; omega) ((HR.out.kept hb).take k)
          (fun i x k0 s0 k2 s2 W1 hx hb1 h1 h2 => once143 x ⟨N, X, Y⟩ k0 k2 ka kb s0 s2 sa sb bk W1 h1.at h2.at ((T1w.out.at.kept hS).kept hb1) ((T2w.out.at.kept hS).kept hb1) ((hb1.block _ (Nat.lt_of_lt_of_le (heap_lt HBLK.out) hS.size)).trans ((hS.block _ (heap_lt HBLK.out)).trans HBLK.out)))
        rw [HLN.out] at h
        refine h.mono fun e w' ⟨h1, h2⟩ => ⟨?_, h2⟩
        rw [h1]
        congr 2
        rw [Bool.eq_iff_iff, List.any_eq_true, decide_eq_true_eq]
        exact ⟨fun ⟨x, hx, e⟩ => by rw [← of_decide_eq_true e]; exact hx, fun h => ⟨_, h, decide_eq_true rfl⟩⟩)
      go_cut [30] (fun t30 W => t30 = .bool (decide (skipP (fs.take k) ⟨N, X, Y⟩)) ∧ bk + 1 ≤ W.heap.size ∧ Below w2.heap.size w2 W ∧ St w W [.box bx #[.slice (some ⟨bb, off, none⟩) fs.length (fs.length + sp)] 41, .box (bx + 1) #[.slice none 0 0] 41, .box (bx + 2) #[o] 41, .owns factE (bx + 3) (fun c => pF c ∨ bx + 3 ≤ c) o RL, .box bk #[.bool N, .int .i64 X.head, .slice ka X.kids.length (X.kids.length + sa), .int .i64 Y.head, .slice kb Y.kids.length (Y.kids.length + sb)] 62])
      case first =>
        obtain ⟨x0, x1, x2, x3, x4⟩ := boxF5 (S.block 4)
        obtain ⟨xx0, _⟩ := S.one 0
        have hki : (k : Int) ≤ ((fs.length + sp : Nat) : Int) := by omega
        cases N with
        | true =>
          go_wp2_with fail
          refine (same68 X Y _ _ w2 T1w.out.at T2w.out.at).mono ?_
          rintro e w3 ⟨rfl, hb3⟩
          have S3 := S.step hb3
          have HB3 := Lib.hid hb3
          clear hb3 S x0 x1 x2 x3 x4 xx0
          cases hxy : decide (X = Y) with
          | true =>
            have HSK := Lib.hid (show decide (skipP (fs.take k) ⟨true, X, Y⟩) = true from decide_eq_true (.inl ⟨rfl, of_decide_eq_true hxy⟩))
            clear hxy
            go_wp2_with fail
            go_meet
            case rel => exact ⟨congrArg Value.bool HSK.out.symm, by have := HB3.out.size; omega, HB3.out, S3⟩
          | false =>
            have HSK := Lib.hid (show decide (skipP (fs.take k) ⟨true, X, Y⟩) = decide ((⟨true, X, Y⟩ : Fc) ∈ fs.take k) from decide_eq_decide.2 ⟨fun h => h.elim (fun h => absurd h.2 (of_decide_eq_false hxy)) id, .inr⟩)
            clear hxy
            obtain ⟨xx0, _⟩ := S3.one 0
            go_wp2_with fail
            refine (HCO.out w3 HB3.out S3.bel).mono ?_
            rintro e w4 ⟨rfl, hb4⟩
            have S4 := S3.step hb4
            have HB4 := Lib.hid (Below.step HB3.out hb4)
            clear hb4 S3 xx0
            go_wp2_with fail
            go_meet
            case rel => exact ⟨congrArg Value.bool HSK.out.symm, by have := HB4.out.size; omega, HB4.out, S4⟩
        | false =>
          have HSK := Lib.hid (show decide (skipP (fs.take k) ⟨false, X, Y⟩) = decide ((⟨false, X, Y⟩ : Fc) ∈ fs.take k) from decide_eq_decide.2 ⟨fun h => h.elim (fun h => by cases h.1) id, .inr⟩)
          go_wp2_with fail
          refine (HCO.out w2 (Below.refl _ _) S.bel).mono ?_
          rintro e w4 ⟨rfl, hb4⟩
          have S4 := S.step hb4
          have HB4 := Lib.hid hb4
          clear hb4 S x0 x1 x2 x3 x4 xx0
          go_wp2_with fail
          go_meet
          case rel => exact ⟨congrArg Value.bool HSK.out.symm, by have := HB4.out.size; omega, HB4.out, S4⟩
      case rest =>
      clear S z4
      obtain ⟨ht30, z5, hb5, S⟩ := hcut
      subst ht30
      have T1 := Lib.hid ((T1w.out.kept hb5).kept (Below.refl wc.heap.size wc).drew); have T2 := Lib.hid ((T2w.out.kept hb5).kept (Below.refl wc.heap.size wc).drew)
      clear hb5
      cases hsk : decide (skipP (fs.take k) ⟨N, X, Y⟩) with
      | true =>
        have S8 := Lib.hid (show St w wc [.box bx #[.slice (some ⟨bb, off, none⟩) fs.length (fs.length + sp)] 41, .box (bx + 1) #[.slice none 0 0] 41, .box (bx + 2) #[o] 41, .owns factE (bx + 3) (fun c => pF c ∨ bx + 3 ≤ c) o (onceF (fs.take (k + 1)))] by rw [HT.out, if_pos (of_decide_eq_true hsk), List.append_nil, ← HRL.out]; exact S.pick [0, 1, 2, 3])
        have hz : bx + 3 ≤ wc.heap.size := by have := HBK.out; omega
        clear S hsk
        go_wp2_with fail
        go_roundw
        case rel => exact ⟨k + 1, _, by omega, by go_num, hz, S8.out⟩
        case measure => simp [intOf] <;> omega
      | false =>
        have HT2 := Lib.hid (show onceF (fs.take (k + 1)) = RL ++ [⟨N, X, Y⟩] by rw [HT.out, if_neg (of_decide_eq_false hsk), ← HRL.out])
        clear hsk
        have SD := Lib.hid (show St w wc.drew [.box bx #[.slice (some ⟨bb, off, none⟩) fs.length (fs.length + sp)] 41, .box (bx + 1) #[.slice none 0 0] 41, .box (bx + 2) #[o] 41, .owns factE (bx + 3) (fun c => pF c ∨ bx + 3 ≤ c) o RL, .box bk #[.bool N, .int .i64 X.head, .slice ka X.kids.length (X.kids.length + sa), .int .i64 Y.head, .slice kb Y.kids.length (Y.kids.length + sb)] 62] from S.drew)
        obtain ⟨y0, _⟩ := SD.out.one 2
        have hzd : wc.drew.heap.size = wc.heap.size := rfl
        obtain ⟨x0, x1, x2, x3, x4⟩ := boxF5 (SD.out.block 4)
        clear S
        go_step
        go_upto_region 6 with fail
        refine wpG_region 14 (fun W => W.cell? ⟨bx + 2, 0, none⟩ = some o ∧ W.cell? ⟨bk, 0, none⟩ = some (.bool N) ∧ W.cell? ⟨bk, 1, none⟩ = some (.int .i64 X.head) ∧ W.cell? ⟨bk, 2, none⟩ = some (.slice ka X.kids.length (X.kids.length + sa)) ∧ W.cell? ⟨bk, 3, none⟩ = some (.int .i64 Y.head) ∧ W.cell? ⟨bk, 4, none⟩ = some (.slice kb Y.kids.length (Y.kids.length + sb))) (by kernel_rfl) ?_
        have HS := And.intro (SD.out.one 2).1 (boxF5 (SD.out.block 4))
        refine wpG.take (i := 0) (by kernel_rfl) (by kernel_rfl) (by kernel_rfl) (by kernel_rfl) (by kernel_rfl) HS ?_
        intro oi ho
        simp only [List.getElem?_toArray, List.getElem?_cons_zero, Option.some.injEq] at ho
        subst ho
        refine ⟨?_, Or.inl ⟨by rfl, ?_⟩, fun _ _ _ h => h, ?_⟩
        rotate_left 1
        · intro W hW
          try dsimp only at hW
          go_simp
          try with_reducible rfl
        simp only [Act.put, List.setIfInBounds_toArray, List.set_cons_zero, List.set_cons_succ]
        refine wpG.take (i := 1) (by kernel_rfl) (by kernel_rfl) (by kernel_rfl) (by kernel_rfl) (by kernel_rfl) HS ?_
        intro oi ho
        simp only [List.getElem?_toArray, List.getElem?_cons_succ, List.getElem?_cons_zero, Option.some.injEq] at ho
        subst ho
        refine ⟨?_, Or.inl ⟨by rfl, ?_⟩, fun _ _ _ h => h, ?_⟩
        rotate_left 1
        · intro W hW
          try dsimp only at hW
          go_simp
          try with_reducible rfl
        simp only [Act.put, List.setIfInBounds_toArray, List.set_cons_zero, List.set_cons_succ]
        refine wpG.take (i := 2) (by kernel_rfl) (by kernel_rfl) (by kernel_rfl) (by kernel_rfl) (by kernel_rfl) HS ?_
        intro oi ho
        simp only [List.getElem?_toArray, List.getElem?_cons_succ, List.getElem?_cons_zero, Option.some.injEq] at ho
        subst ho
        refine ⟨?_, Or.inl ⟨by rfl, ?_⟩, fun _ _ _ h => h, ?_⟩
        rotate_left 1
        · intro W hW
          try dsimp only at hW
          go_simp
          try with_reducible rfl
        simp only [Act.put, List.setIfInBounds_toArray, List.set_cons_zero, List.set_cons_succ]
        refine wpG.take (i := 3) (by kernel_rfl) (by kernel_rfl) (by kernel_rfl) (by kernel_rfl) (by kernel_rfl) HS ?_
        intro oi ho
        simp only [List.getElem?_toArray, List.getElem?_cons_succ, List.getElem?_cons_zero, Option.some.injEq] at ho
        subst ho
        refine ⟨?_, Or.inl ⟨by rfl, ?_⟩, fun _ _ _ h => h, ?_⟩
        rotate_left 1
        · intro W hW
          try dsimp only at hW
          go_simp
          try with_reducible rfl
        simp only [Act.put, List.setIfInBounds_toArray, List.set_cons_zero, List.set_cons_succ]
        refine wpG.take (i := 4) (by kernel_rfl) (by kernel_rfl) (by kernel_rfl) (by kernel_rfl) (by kernel_rfl) HS ?_
        intro oi ho
        simp only [List.getElem?_toArray, List.getElem?_cons_succ, List.getElem?_cons_zero, Option.some.injEq] at ho
        subst ho
        refine ⟨?_, Or.inl ⟨by rfl, ?_⟩, fun _ _ _ h => h, ?_⟩
        rotate_left 1
        · intro W hW
          try dsimp only at hW
          go_simp
          try with_reducible rfl
        simp only [Act.put, List.setIfInBounds_toArray, List.set_cons_zero, List.set_cons_succ]
        refine wpG.take (i := 5) (by kernel_rfl) (by kernel_rfl) (by kernel_rfl) (by kernel_rfl) (by kernel_rfl) HS ?_
        intro oi ho
        simp only [List.getElem?_toArray, List.getElem?_cons_succ, List.getElem?_cons_zero, Option.some.injEq] at ho
        subst ho
        refine ⟨?_, Or.inl ⟨by rfl, ?_⟩, fun _ _ _ h => h, ?_⟩
        rotate_left 1
        · intro W hW
          try dsimp only at hW
          go_simp
          try with_reducible rfl
        simp only [Act.put, List.setIfInBounds_toArray, List.set_cons_zero, List.set_cons_succ]
        refine wpG.take (i := 7) (by kernel_rfl) (by kernel_rfl) (by kernel_rfl) (by kernel_rfl) (by kernel_rfl) HS ?_
        intro oi ho
        simp only [List.getElem?_toArray, List.getElem?_cons_succ, List.getElem?_cons_zero, Option.some.injEq] at ho
        subst ho
        refine ⟨?_, Or.inl ⟨by rfl, ?_⟩, fun _ _ _ h => h, ?_⟩
        rotate_left 1
        · intro W hW
          try dsimp only at hW
          go_simp
          try with_reducible rfl
        simp only [Act.put, List.setIfInBounds_toArray, List.set_cons_zero, List.set_cons_succ]
        refine wpG.take (i := 8) (by kernel_rfl) (by kernel_rfl) (by kernel_rfl) (by kernel_rfl) (by kernel_rfl) HS ?_
        intro oi ho
        simp only [List.getElem?_toArray, List.getElem?_cons_succ, List.getElem?_cons_zero, Option.some.injEq] at ho
        subst ho
        refine ⟨?_, Or.inl ⟨by rfl, ?_⟩, fun _ _ _ h => h, ?_⟩
        rotate_left 1
        · intro W hW
          try dsimp only at hW
          go_simp
          try with_reducible rfl
        simp only [Act.put, List.setIfInBounds_toArray, List.set_cons_zero, List.set_cons_succ]
        refine wpG.one (i := 6) (by kernel_rfl) ?_
        intro oi ho
        simp only [List.getElem?_toArray, List.getElem?_cons_succ, List.getElem?_cons_zero, Option.some.injEq] at ho
        subst ho
        intro K hK
        have HK := Lib.hid hK
        have HSH := Lib.hid HS
        clear hK HS
        go_simp
        refine (SD.out.madeP (HF.out wc.drew _ X HPX.out (SD.out.bel) T1.out)).mono ?_
        rintro e w4 ⟨k4, s4, rfl, hz4, hb4', S4⟩
        have hz4 : wc.heap.size ≤ w4.heap.size := hz4
        dsimp only
        refine HK.out _ _ (fun _ => ⟨(S4.one 2).1, boxF5 (S4.block 4)⟩) ?_
        have HS := And.intro (S4.one 2).1 (boxF5 (S4.block 4))
        try simp only [Act.put, List.setIfInBounds_toArray, List.set_cons_zero, List.set_cons_succ]
        refine wpG.one (i := 9) (by kernel_rfl) ?_
        intro oi ho
        simp only [List.getElem?_toArray, List.getElem?_cons_succ, List.getElem?_cons_zero, Option.some.injEq] at ho
        subst ho
        intro K hK
        have HK := Lib.hid hK
        have HSH := Lib.hid HS
        clear hK HS
        have hb4 := Lib.hid hb4'
        go_simp
        refine (S4.madeP (HF.out w4 _ Y HPY.out S4.bel (T2.out.kept hb4.out))).mono ?_
        rintro e w5 ⟨k5, s5, rfl, hz5, hb5', S5⟩
        dsimp only
        refine HK.out _ _ (fun _ => ⟨(S5.one 2).1, boxF5 (S5.block 4)⟩) ?_
        have HS := And.intro (S5.one 2).1 (boxF5 (S5.block 4))
        try simp only [Act.put, List.setIfInBounds_toArray, List.set_cons_zero, List.set_cons_succ]
        refine wpG.take (i := 10) (by kernel_rfl) (by kernel_rfl) (by kernel_rfl) (by kernel_rfl) (by kernel_rfl) HS ?_
        intro oi ho
        simp only [List.getElem?_toArray, List.getElem?_cons_succ, List.getElem?_cons_zero, Option.some.injEq] at ho
        subst ho
        refine ⟨?_, Or.inl ⟨by rfl, ?_⟩, fun _ _ _ h => h, ?_⟩
        rotate_left 1
        · intro W hW
          try dsimp only at hW
          go_simp
          try with_reducible rfl
        simp only [Act.put, List.setIfInBounds_toArray, List.set_cons_zero, List.set_cons_succ]
        refine wpG.one (i := 11) (by kernel_rfl) ?_
        intro oi ho
        simp only [List.getElem?_toArray, List.getElem?_cons_succ, List.getElem?_cons_zero, Option.some.injEq] at ho
        subst ho
        intro K hK
        have HK := Lib.hid hK
        have HSH := Lib.hid HS
        clear hK HS
        have SA := S5.alloc (.cells #[.bool N, .int .i64 X.head, .slice k4 X.kids.length (X.kids.length + s4), .int .i64 Y.head, .slice k5 Y.kids.length (Y.kids.length + s5)] 62)
        go_simp
        refine HK.out _ _ (fun _ => ⟨(SA.one 2).1, boxF5 (SA.block 4)⟩) ?_
        have HS := And.intro (SA.one 2).1 (boxF5 (SA.block 4))
        try simp only [Act.put, List.setIfInBounds_toArray, List.set_cons_zero, List.set_cons_succ]
        refine wpG.one (i := 12) (by kernel_rfl) ?_
        intro oi ho
        simp only [List.getElem?_toArray, List.getElem?_cons_succ, List.getElem?_cons_zero, Option.some.injEq] at ho
        subst ho
        intro K hK
        have HK := Lib.hid hK
        have HSH := Lib.hid HS
        clear hK HS
        refine step_app (by rfl) (.tmp 32) (.tmp 42) 39 (by rfl) factE S5 3 rfl (x := ⟨N, X, Y⟩) (q := fun b => pF b ∨ (wc.heap.size ≤ b ∧ b < w5.heap.size)) (p' := fun b => pF b ∨ bx + 3 ≤ b) ⟨k4, s4, k5, s5, rfl, (S5.treeP 5).mono (fun b h _ => by rcases h with h | h; exact .inl h; exact .inr ⟨h.1, by have := h.2; omega⟩), (S5.treeP 6).mono (fun b h _ => by rcases h with h | h; exact .inl h; exact .inr ⟨by have h1 : w4.heap.size ≤ b := h.1; omega, h.2⟩)⟩ Try.underlying39 gi gz0 gz1 gz2 (by rfl) (by rfl) (by rfl) (by rfl) (by unfold maxLen; omega) (by omega) (by have := HBK.out; omega) (by have := HBX.out; omega)
            (fun bb h1 h2 h3 => by have h4 := (HOW.out bb h1).2; simp only [fsnoc, offs, offAll, Fct.box, Fct.treeP, and_true]; have := HBX.out; refine ⟨by omega, by omega, by omega, by omega, fun e => ?_, fun e => ?_⟩ <;> (rcases e with e | e; exact e.elim; have := e.1; omega)) (fun bb h1 h2 => by have h4 := (HOW.out bb h2).2; have h6 := (HOW.out bb h2).1; have := HBX.out; rcases h1 with h1 | h1; exact h1.elim; have := h1.1; omega) (fun bb h1 => by have h6 := HBK.out; rcases h1 with h1 | h1; exact h1; rcases h1 with h1 | h1; exact .inl h1; exact .inr (by have h5 := h1.1; omega)) ?_
        intro gg cap w6 S6 hs6 hgg hat6
        refine HK.out _ _ (fun _ => ⟨(S6.one 2).1, boxF5 (S6.block 4)⟩) ?_
        have HS := And.intro (S6.one 2).1 (boxF5 (S6.block 4))
        try simp only [Act.put, List.setIfInBounds_toArray, List.set_cons_zero, List.set_cons_succ]
        refine wpG.take (i := 13) (by kernel_rfl) (by kernel_rfl) (by kernel_rfl) (by kernel_rfl) (by kernel_rfl) HS ?_
        intro oi ho
        simp only [List.getElem?_toArray, List.getElem?_cons_succ, List.getElem?_cons_zero, Option.some.injEq] at ho
        subst ho
        refine ⟨?_, Or.inl ⟨by rfl, ?_⟩, fun _ _ _ h => h, ?_⟩
        rotate_left 1
        · intro W hW
          try dsimp only at hW
          go_simp
          try with_reducible rfl
        simp only [Act.put, List.setIfInBounds_toArray, List.set_cons_zero, List.set_cons_succ]
        refine wpG.one (i := 14) (by kernel_rfl) ?_
        intro oi ho
        simp only [List.getElem?_toArray, List.getElem?_cons_succ, List.getElem?_cons_zero, Option.some.injEq] at ho
        subst ho
        intro K hK
        have HK := Lib.hid hK
        have HSH := Lib.hid HS
        clear hK HS
        obtain ⟨u0, u1⟩ := S6.one 2
        go_simp
        refine HK.out _ _ (fun h => absurd rfl h) ?_
        try simp only [Act.put, List.setIfInBounds_toArray, List.set_cons_zero, List.set_cons_succ]
        refine wpG.done (by kernel_rfl) ?_
        have S7 := (S6.set1 2 rfl (.slice (some ⟨gg, 0, none⟩) (RL.length + 1) cap) (by have := HBX.out; omega) (by
          have h8 := (S6.ownlt factE 3 rfl gg rfl).1
          simp only [fset, fsnoc, offs, offAll, Fct.box, Fct.treeP, Fct.owns, and_true]; have := HBX.out; have := HBK.out
          refine ⟨by omega, by omega, fun e => ?_, by omega, fun e => ?_, fun e => ?_⟩
          · rcases e with e | e | e
            · have e' : gg = bx + 2 := by simpa [Value.ownBlock] using e
              omega
            · exact e.elim
            · omega
          · rcases e with e | e
            · exact e.elim
            · have := e.1; omega
          · rcases e with e | e
            · exact e.elim
            · have := e.1; omega)).pick [0, 1, 2, 3]
        have S8 := Lib.hid (show St w (w6.setCell ⟨bx + 2, 0, none⟩ (.slice (some ⟨gg, 0, none⟩) (RL.length + 1) cap)) [.box bx #[.slice (some ⟨bb, off, none⟩) fs.length (fs.length + sp)] 41, .box (bx + 1) #[.slice none 0 0] 41, .box (bx + 2) #[(.slice (some ⟨gg, 0, none⟩) (RL.length + 1) cap)] 41, .owns factE (bx + 3) (fun c => pF c ∨ bx + 3 ≤ c) (.slice (some ⟨gg, 0, none⟩) (RL.length + 1) cap) (onceF (fs.take (k + 1)))] by rw [HT2.out]; exact S7)
        clear S7 S6 S5 S4 SA u0 u1 x0 x1 x2 x3 x4 y0
        go_wp2_with fail
        go_roundw
        case rel => exact ⟨k + 1, _, by omega, by go_num, by have := HBK.out; simp; omega, S8.out⟩
        case measure => simp [intOf] <;> omega
    · obtain rfl : k = fs.length := by omega
      rw [List.take_length] at S
      obtain ⟨ro, rsp, rfl, hrow, hml2⟩ := (S.owns factE 3).row (fun b h => Or.inr h)
      have HT := Lib.hid hrow
      have SB := Lib.hid S
      obtain ⟨x0, _⟩ := S.one 1
      obtain ⟨y0, y1⟩ := S.one 2
      have hl1 := S.lt 1
      clear hrow S
      go_wp2_with fail
      refine ret_box1 (.slice ro (onceF fs).length ((onceF fs).length + rsp)) (bx + 1) 41 (box1_set' (SB.out.block 1) _ rfl) (fun w' q0 => by simp [results, Try.results112, go_sem, q0]) rfl ?_
      have hx1 := HBX.out
      refine ⟨_, _, rfl, HT.out.keep (fun b h1 h2 => ⟨Below.heap_setCell _ _ _ _ (by show b ≠ bx + 1; rcases h1 with h1 | h1; exact h1.elim; omega), by rcases h1 with h1 | h1; exact h1.elim; omega⟩), SB.out.bel.setCell (p := ⟨bx + 1, 0, none⟩) (by show w.heap.size ≤ bx + 1; omega) _⟩
end Go.Proofs.Ytlhnfdjidjgfgaa
