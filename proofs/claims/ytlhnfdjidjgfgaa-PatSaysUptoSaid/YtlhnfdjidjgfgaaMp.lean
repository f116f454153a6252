/-
  Walks: claim.Map with any function.
-/
import Derived.Test.YtlhnfdjidjgfgaaProg
import Derived.Test.YtlhnfdjidjgfgaaE80
import Derived.Test.YtlhnfdjidjgfgaaF1
import Derived.Test.YtlhnfdjidjgfgaaG1
import Derived.Deep.RegionLaw
import Derived.RegionTactic
namespace Go.Proofs.Ytlhnfdjidjgfgaa
open Go.RowKit Go.Shelf
set_option linter.unusedVariables false
set_option maxHeartbeats 400000

def mapC (F : T → T) (fs : List Fc) : List Fc := fs.map fun f => ⟨f.neg, F f.l, F f.r⟩
theorem mapC_take {F : T → T} {fs : List Fc} {k : Nat} (h : k < fs.length) : mapC F (fs.take (k + 1)) = mapC F (fs.take k) ++ [⟨fs[k].neg, F fs[k].l, F fs[k].r⟩] := map_take _ h
theorem mapC_length (F : T → T) (fs : List Fc) : (mapC F fs).length = fs.length := by simp [mapC]
theorem boxF5 {w : World} {b : Nat} {v0 v1 v2 v3 v4 : Value} {T : TypeId} (h : w.heap[b]? = some (.cells #[v0, v1, v2, v3, v4] T (0, 0))) :
    w.cell? ⟨b, 0, none⟩ = some v0 ∧ w.cell? ⟨b, 1, none⟩ = some v1 ∧ w.cell? ⟨b, 2, none⟩ = some v2 ∧ w.cell? ⟨b, 3, none⟩ = some v3 ∧ w.cell? ⟨b, 4, none⟩ = some v4 := by
  simp [World.cell?, h]
theorem St.madeP {P : Program} {n : Nat} {a : Array Value} {w0 w : World} {l : List Fct} (S : St w0 w l) {t : T} {p2 : Nat → Prop} (h : Calls P n a w fun e w' => ∃ u, e = .returned u ∧ TreeP (fun b => p2 b ∨ w.heap.size ≤ b) w' u t ∧ Below w.heap.size w w') :
    Calls P n a w fun e w' => ∃ k sp, e = .returned (.agg #[.int .i64 t.head, .slice k t.kids.length (t.kids.length + sp)]) ∧ w.heap.size ≤ w'.heap.size ∧ Below w.heap.size w w' ∧
      St w0 w' (fsnoc l (.treeP (fun b => p2 b ∨ (w.heap.size ≤ b ∧ b < w'.heap.size)) (.agg #[.int .i64 t.head, .slice k t.kids.length (t.kids.length + sp)]) t)) :=
  h.mono fun e w' ⟨u, h1, h2, h3⟩ => by
    obtain ⟨k, sp, rfl⟩ := h2.at.form
    exact ⟨k, sp, h1, h3.size, h3, (S.step h3).add (.treeP _ _ _) (h2.mono (fun b h hl => by rcases h with h | h; exact .inl h; exact .inr ⟨h, hl⟩))⟩
theorem treesF_mem2 {fs : List Fc} {k : Nat} (h : k < fs.length) : fs[k].l ∈ treesF fs ∧ fs[k].r ∈ treesF fs := by
  have h1 := treesF_pair h
  exact ⟨List.mem_of_getElem? h1.1, List.mem_of_getElem? h1.2⟩

set_option maxRecDepth 100000 in
set_option maxHeartbeats 4000000 in
theorem mapAny (F : T → T) (fn : Nat) (cpt : Array Value) (eg : ∀ args w, (callFunc fn args).run Try.prog w = .ok (.enter fn args) w) (fs : List Fc) (p p2 : Nat → Prop) (ao : Option Addr) (sp : Nat) (w : World) (hp : ∀ c, p c → c < w.heap.size) (hp2 : ∀ c, p2 c → c < w.heap.size) (h : factE.Row p w ao fs) (hn : fs.length ≤ 1000000)
    (hf : ∀ W v t, t ∈ treesF fs → Below w.heap.size w W → TreeP p W v t → Calls Try.prog fn (#[v] ++ cpt) W fun e w' => ∃ u, e = .returned u ∧ TreeP (fun b => p2 b ∨ W.heap.size ≤ b) w' u (F t) ∧ Below W.heap.size W w') :
    Calls Try.prog 109 #[.agg #[.slice ao fs.length (fs.length + sp)], .func (.func fn) #[] cpt] w fun e w' => ∃ ro rsp, e = .returned (.agg #[.slice ro (mapC F fs).length ((mapC F fs).length + rsp)]) ∧ factE.Row (fun c => p2 c ∨ w.heap.size ≤ c) w' ro (mapC F fs) ∧ Below w.heap.size w w' := by
  have HR := Lib.hid h; have HP := Lib.hid hp; have HP2' := Lib.hid hp2; have HF := Lib.hid hf
  obtain ⟨i54, gi, gz0, gz1, gz2⟩ := info_parts info54
  obtain ⟨bx, hbx⟩ : ∃ b, b = w.heap.size := ⟨_, rfl⟩
  have S1 := (((St.start w).box hbx.symm #[.slice ao fs.length (fs.length + sp)] 41).box (b := bx + 1) (by simp [hbx]) #[.slice none 0 0] 41).box (b := bx + 2) (by simp [hbx]) #[.slice none 0 0] 41
  have hsz1 : (((w.alloc (.cells #[.slice ao fs.length (fs.length + sp)] 41)).alloc (.cells #[.slice none 0 0] 41)).alloc (.cells #[.slice none 0 0] 41)).heap.size = bx + 3 := by simp [hbx]
  have S1 := S1.add (.owns factE (bx + 3) (fun c => p2 c ∨ bx + 3 ≤ c) (.slice none 0 0) (mapC F (fs.take 0))) (Elt.Own.nil _ _ _ _)
  have HP2 := Lib.hid (show ∀ c, p2 c → c < bx from fun c hc => by rw [hbx]; exact HP2'.out c hc)
  clear h hp hp2 hf
  go_enter Try.func109, Try.ntmps109
  go_wp2_with fail
  rw [← hbx]
  refine S1.genC (z := bx + 3) (by omega) ?_
  intro w1 z1 S
  have HBX := Lib.hid hbx
  clear S1 hbx hsz1
  go_loopw [11] (fun i wr => ∃ (k : Nat) (o : Value), k ≤ fs.length ∧ i = .int .i64 k ∧ bx + 3 ≤ wr.heap.size ∧ St w wr [.box bx #[.slice ao fs.length (fs.length + sp)] 41, .box (bx + 1) #[.slice none 0 0] 41, .box (bx + 2) #[o] 41, .owns factE (bx + 3) (fun c => p2 c ∨ bx + 3 ≤ c) o (mapC F (fs.take k))]) (fun i _ => fs.length - (intOf i).toNat)
  case atStart => exact ⟨0, _, by omega, rfl, z1, S⟩
  case round =>
    clear S
    obtain ⟨k, o, hk, rfl, z3, S⟩ := hrel
    by_cases hlt : k < fs.length
    · have hlti : (k : Int) < (fs.length : Int) := by omega
      obtain ⟨bk, hbk⟩ : ∃ b, b = wr.heap.size := ⟨_, rfl⟩
      obtain ⟨bb, off, ka, sa, kb, sb, rfl, hpb, c0', c1', c2', c3', c4', t1, t2⟩ := (HR.out.kept S.bel).fact hlt
      have c0 := c0'; have c1 := c1'; have c2 := c2'; have c3 := c3'; have c4 := c4'
      have HPR := treesF_mem2 hlt
      have HTK := mapC_take (F := F) hlt
      obtain ⟨X, hX⟩ : ∃ X, X = fs[k].l := ⟨_, rfl⟩
      obtain ⟨Y, hY⟩ : ∃ Y, Y = fs[k].r := ⟨_, rfl⟩
      obtain ⟨N, hN⟩ : ∃ N, N = fs[k].neg := ⟨_, rfl⟩
      rw [← hX, ← hY] at HPR HTK
      rw [← hN] at HTK
      rw [← hX] at c1 c2 t1
      rw [← hY] at c3 c4 t2
      rw [← hN] at c0
      have HPX := Lib.hid HPR.1; have HPY := Lib.hid HPR.2
      have HT := Lib.hid HTK
      have T1' := Lib.hid t1; have T2' := Lib.hid t2
      have HOW := Lib.hid (show ∀ c, o.ownBlock = some c → bx + 3 ≤ c ∧ c < bk from fun c hc => by rw [hbk]; exact S.ownlt factE 3 rfl c hc)
      have SK := S.box hbk.symm #[.bool N, .int .i64 X.head, .slice ka X.kids.length (X.kids.length + sa), .int .i64 Y.head, .slice kb Y.kids.length (Y.kids.length + sb)] 62
      have HBA := Lib.hid (show Below wr.heap.size wr (wr.alloc (.cells #[.bool N, .int .i64 X.head, .slice ka X.kids.length (X.kids.length + sa), .int .i64 Y.head, .slice kb Y.kids.length (Y.kids.length + sb)] 62)) from (Below.refl _ _).alloc (Nat.le_refl _) _)
      obtain ⟨RL, hRL⟩ : ∃ RL, RL = mapC F (fs.take k) := ⟨_, rfl⟩
      have hlk : RL.length = k := by rw [hRL, mapC_length]; simp; omega
      have HRL := Lib.hid hRL
      rw [← hRL] at SK
      clear c0' c1' c2' c3' c4' S hRL hX hY hN HPR t1 t2 HTK
      go_wp2_with fail
      rw [← hbk]
      have TT := And.intro (T1'.out.kept HBA.out) (T2'.out.kept HBA.out)
      have G := And.intro SK TT
      have z4' : bk + 1 ≤ (wr.alloc (.cells #[.bool N, .int .i64 X.head, .slice ka X.kids.length (X.kids.length + sa), .int .i64 Y.head, .slice kb Y.kids.length (Y.kids.length + sb)] 62)).heap.size := by simp [hbk]
      generalize wr.alloc (.cells #[.bool N, .int .i64 X.head, .slice ka X.kids.length (X.kids.length + sa), .int .i64 Y.head, .slice kb Y.kids.length (Y.kids.length + sb)] 62) = w2 at G z4' ⊢
      obtain ⟨S, t1, t2⟩ := G
      have T1 := Lib.hid (t1.kept (Below.refl w2.heap.size w2).drew); have T2 := Lib.hid (t2.kept (Below.refl w2.heap.size w2).drew)
      have HBK := Lib.hid (show bx + 3 ≤ bk by omega)
      have z4 : bk + 1 ≤ w2.heap.size := z4'
      clear SK hbk c0 c1 c2 c3 c4 TT t1 t2 HBA T1' T2' z4'
      have SD := Lib.hid S.drew
      obtain ⟨y0, _⟩ := SD.out.one 2
      have hzd : w2.drew.heap.size = w2.heap.size := rfl
      obtain ⟨x0, x1, x2, x3, x4⟩ := boxF5 (SD.out.block 4)
      clear S
      refine wpG_region 16 (fun W => W.cell? ⟨bx + 2, 0, none⟩ = some o ∧ W.cell? ⟨bk, 0, none⟩ = some (.bool N) ∧ W.cell? ⟨bk, 1, none⟩ = some (.int .i64 X.head) ∧ W.cell? ⟨bk, 2, none⟩ = some (.slice ka X.kids.length (X.kids.length + sa)) ∧ W.cell? ⟨bk, 3, none⟩ = some (.int .i64 Y.head) ∧ W.cell? ⟨bk, 4, none⟩ = some (.slice kb Y.kids.length (Y.kids.length + sb))) (by kernel_rfl) ?_
      have HS := And.intro (SD.out.one 2).1 (boxF5 (SD.out.block 4))
      refine wpG.take (i := 0) (by kernel_rfl) (by kernel_rfl) (by kernel_rfl) (by kernel_rfl) (by kernel_rfl) HS ?_
      intro oi ho
      simp only [List.getElem?_toArray, List.getElem?_cons_zero, Option.some.injEq] at ho
      subst ho
      refine ⟨?_, Or.inl ⟨by rfl, ?_⟩, fun _ _ _ h => h, ?_⟩
      rotate_left 1
      · intro W hW
        try dsimp only at hW
        go_simp
        try with_reducible rfl
      simp only [Act.put, List.setIfInBounds_toArray, List.set_cons_zero, List.set_cons_succ]
      refine wpG.take (i := 1) (by kernel_rfl) (by kernel_rfl) (by kernel_rfl) (by kernel_rfl) (by kernel_rfl) HS ?_
      intro oi ho
      simp only [List.getElem?_toArray, List.getElem?_cons_succ, List.getElem?_cons_zero, Option.some.injEq] at ho
      subst ho
      refine ⟨?_, Or.inl ⟨by rfl, ?_⟩, fun _ _ _ h => h, ?_⟩
      rotate_left 1
      · intro W hW
        try dsimp only at hW
        go_simp
        try with_reducible rfl
      simp only [Act.put, List.setIfInBounds_toArray, List.set_cons_zero, List.set_cons_succ]
      refine wpG.take (i := 2) (by kernel_rfl) (by kernel_rfl) (by kernel_rfl) (by kernel_rfl) (by kernel_rfl) HS ?_
      intro oi ho
      simp only [List.getElem?_toArray, List.getElem?_cons_succ, List.getElem?_cons_zero, Option.some.injEq] at ho
      subst ho
      refine ⟨?_, Or.inl ⟨by rfl, ?_⟩, fun _ _ _ h => h, ?_⟩
      rotate_left 1
      · intro W hW
        try dsimp only at hW
        go_simp
        try with_reducible rfl
      simp only [Act.put, List.setIfInBounds_toArray, List.set_cons_zero, List.set_cons_succ]
      refine wpG.take (i := 3) (by kernel_rfl) (by kernel_rfl) (by kernel_rfl) (by kernel_rfl) (by kernel_rfl) HS ?_
      intro oi ho
      simp only [List.getElem?_toArray, List.getElem?_cons_succ, List.getElem?_cons_zero, Option.some.injEq] at ho
      subst ho
      refine ⟨?_, Or.inl ⟨by rfl, ?_⟩, fun _ _ _ h => h, ?_⟩
      rotate_left 1
      · intro W hW
        try dsimp only at hW
        go_simp
        try with_reducible rfl
      simp only [Act.put, List.setIfInBounds_toArray, List.set_cons_zero, List.set_cons_succ]
      refine wpG.take (i := 4) (by kernel_rfl) (by kernel_rfl) (by kernel_rfl) (by kernel_rfl) (by kernel_rfl) HS ?_
      intro oi ho
      simp only [List.getElem?_toArray, List.getElem?_cons_succ, List.getElem?_cons_zero, Option.some.injEq] at ho
      subst ho
      refine ⟨?_, Or.inl ⟨by rfl, ?_⟩, fun _ _ _ h => h, ?_⟩
      rotate_left 1
      · intro W hW
        try dsimp only at hW
        go_simp
        try with_reducible rfl
      simp only [Act.put, List.setIfInBounds_toArray, List.set_cons_zero, List.set_cons_succ]
      refine wpG.take (i := 5) (by kernel_rfl) (by kernel_rfl) (by kernel_rfl) (by kernel_rfl) (by kernel_rfl) HS ?_
      intro oi ho
      simp only [List.getElem?_toArray, List.getElem?_cons_succ, List.getElem?_cons_zero, Option.some.injEq] at ho
      subst ho
      refine ⟨?_, Or.inl ⟨by rfl, ?_⟩, fun _ _ _ h => h, ?_⟩
      rotate_left 1
      · intro W hW
        try dsimp only at hW
        go_simp
        try with_reducible rfl
      simp only [Act.put, List.setIfInBounds_toArray, List.set_cons_zero, List.set_cons_succ]
      refine wpG.take (i := 6) (by kernel_rfl) (by kernel_rfl) (by kernel_rfl) (by kernel_rfl) (by kernel_rfl) HS ?_
      intro oi ho
      simp only [List.getElem?_toArray, List.getElem?_cons_succ, List.getElem?_cons_zero, Option.some.injEq] at ho
      subst ho
      refine ⟨?_, Or.inl ⟨by rfl, ?_⟩, fun _ _ _ h => h, ?_⟩
      rotate_left 1
      · intro W hW
        try dsimp only at hW
        go_simp
        try with_reducible rfl
      simp only [Act.put, List.setIfInBounds_toArray, List.set_cons_zero, List.set_cons_succ]
      refine wpG.take (i := 8) (by kernel_rfl) (by kernel_rfl) (by kernel_rfl) (by kernel_rfl) (by kernel_rfl) HS ?_
      intro oi ho
      simp only [List.getElem?_toArray, List.getElem?_cons_succ, List.getElem?_cons_zero, Option.some.injEq] at ho
      subst ho
      refine ⟨?_, Or.inl ⟨by rfl, ?_⟩, fun _ _ _ h => h, ?_⟩
      rotate_left 1
      · intro W hW
        try dsimp only at hW
        go_simp
        try with_reducible rfl
      simp only [Act.put, List.setIfInBounds_toArray, List.set_cons_zero, List.set_cons_succ]
      refine wpG.take (i := 9) (by kernel_rfl) (by kernel_rfl) (by kernel_rfl) (by kernel_rfl) (by kernel_rfl) HS ?_
      intro oi ho
      simp only [List.getElem?_toArray, List.getElem?_cons_succ, List.getElem?_cons_zero, Option.some.injEq] at ho
      subst ho
      refine ⟨?_, Or.inl ⟨by rfl, ?_⟩, fun _ _ _ h => h, ?_⟩
      rotate_left 1
      · intro W hW
        try dsimp only at hW
        go_simp
        try with_reducible rfl
      simp only [Act.put, List.setIfInBounds_toArray, List.set_cons_zero, List.set_cons_succ]
      refine wpG.take (i := 10) (by kernel_rfl) (by kernel_rfl) (by kernel_rfl) (by kernel_rfl) (by kernel_rfl) HS ?_
      intro oi ho
      simp only [List.getElem?_toArray, List.getElem?_cons_succ, List.getElem?_cons_zero, Option.some.injEq] at ho
      subst ho
      refine ⟨?_, Or.inl ⟨by rfl, ?_⟩, fun _ _ _ h => h, ?_⟩
      rotate_left 1
      · intro W hW
        try dsimp only at hW
        go_simp
        try with_reducible rfl
      simp only [Act.put, List.setIfInBounds_toArray, List.set_cons_zero, List.set_cons_succ]
      refine wpG.one (i := 7) (by kernel_rfl) ?_
      intro oi ho
      simp only [List.getElem?_toArray, List.getElem?_cons_succ, List.getElem?_cons_zero, Option.some.injEq] at ho
      subst ho
      intro K hK
      have HK := Lib.hid hK
      have HSH := Lib.hid HS
      clear hK HS
      go_simp
      refine (SD.out.madeP (HF.out w2.drew _ X HPX.out (SD.out.bel) T1.out)).mono ?_
      rintro e w4 ⟨k4, s4, rfl, hz4, hb4', S4⟩
      have hz4 : w2.heap.size ≤ w4.heap.size := hz4
      dsimp only
      refine HK.out _ _ (fun _ => ⟨(S4.one 2).1, boxF5 (S4.block 4)⟩) ?_
      have HS := And.intro (S4.one 2).1 (boxF5 (S4.block 4))
      try simp only [Act.put, List.setIfInBounds_toArray, List.set_cons_zero, List.set_cons_succ]
      refine wpG.one (i := 11) (by kernel_rfl) ?_
      intro oi ho
      simp only [List.getElem?_toArray, List.getElem?_cons_succ, List.getElem?_cons_zero, Option.some.injEq] at ho
      subst ho
      intro K hK
      have HK := Lib.hid hK
      have HSH := Lib.hid HS
      clear hK HS
      have hb4 := Lib.hid hb4'
      go_simp
      refine (S4.madeP (HF.out w4 _ Y HPY.out S4.bel (T2.out.kept hb4.out))).mono ?_
      rintro e w5 ⟨k5, s5, rfl, hz5, hb5', S5⟩
      dsimp only
      refine HK.out _ _ (fun _ => ⟨(S5.one 2).1, boxF5 (S5.block 4)⟩) ?_
      have HS := And.intro (S5.one 2).1 (boxF5 (S5.block 4))
      try simp only [Act.put, List.setIfInBounds_toArray, List.set_cons_zero, List.set_cons_succ]
      refine wpG.take (i := 12) (by kernel_rfl) (by kernel_rfl) (by kernel_rfl) (by kernel_rfl) (by kernel_rfl) HS ?_
      intro oi ho
      simp only [List.getElem?_toArray, List.getElem?_cons_succ, List.getElem?_cons_zero, Option.some.injEq] at ho
      subst ho
      refine ⟨?_, Or.inl ⟨by rfl, ?_⟩, fun _ _ _ h => h, ?_⟩
      rotate_left 1
      · intro W hW
        try dsimp only at hW
        go_simp
        try with_reducible rfl
      simp only [Act.put, List.setIfInBounds_toArray, List.set_cons_zero, List.set_cons_succ]
      refine wpG.one (i := 13) (by kernel_rfl) ?_
      intro oi ho
      simp only [List.getElem?_toArray, List.getElem?_cons_succ, List.getElem?_cons_zero, Option.some.injEq] at ho
      subst ho
      intro K hK
      have HK := Lib.hid hK
      have HSH := Lib.hid HS
      clear hK HS
      have SA := S5.alloc (.cells #[.bool N, .int .i64 (F X).head, .slice k4 (F X).kids.length ((F X).kids.length + s4), .int .i64 (F Y).head, .slice k5 (F Y).kids.length ((F Y).kids.length + s5)] 62)
      go_simp
      refine HK.out _ _ (fun _ => ⟨(SA.one 2).1, boxF5 (SA.block 4)⟩) ?_
      have HS := And.intro (SA.one 2).1 (boxF5 (SA.block 4))
      try simp only [Act.put, List.setIfInBounds_toArray, List.set_cons_zero, List.set_cons_succ]
      refine wpG.one (i := 14) (by kernel_rfl) ?_
      intro oi ho
      simp only [List.getElem?_toArray, List.getElem?_cons_succ, List.getElem?_cons_zero, Option.some.injEq] at ho
      subst ho
      intro K hK
      have HK := Lib.hid hK
      have HSH := Lib.hid HS
      clear hK HS
      refine step_app (by rfl) (.tmp 16) (.tmp 28) 39 (by rfl) factE S5 3 rfl (x := ⟨N, F X, F Y⟩) (q := fun b => p2 b ∨ (w2.heap.size ≤ b ∧ b < w5.heap.size)) (p' := fun b => p2 b ∨ bx + 3 ≤ b) ⟨k4, s4, k5, s5, rfl, (S5.treeP 5).mono (fun b h _ => by rcases h with h | h; exact .inl h; exact .inr ⟨h.1, by have := h.2; omega⟩), (S5.treeP 6).mono (fun b h _ => by rcases h with h | h; exact .inl h; exact .inr ⟨by have h1 : w4.heap.size ≤ b := h.1; omega, h.2⟩)⟩ Try.underlying39 gi gz0 gz1 gz2 (by rfl) (by rfl) (by rfl) (by rfl) (by unfold maxLen; omega) (by omega) (by have := HBK.out; omega) (by have := HBX.out; omega)
            (fun bb h1 h2 h3 => by have h4 := (HOW.out bb h1).2; simp only [fsnoc, offs, offAll, Fct.box, Fct.treeP, and_true]; have := HBX.out; refine ⟨by omega, by omega, by omega, by omega, fun e => ?_, fun e => ?_⟩ <;> (rcases e with e | e; have := HP2.out bb e; omega; have := e.1; omega)) (fun bb h1 h2 => by have h4 := (HOW.out bb h2).2; have h6 := (HOW.out bb h2).1; have := HBX.out; rcases h1 with h1 | h1; have := HP2.out bb h1; omega; have := h1.1; omega) (fun bb h1 => by have h6 := HBK.out; rcases h1 with h1 | h1; exact h1; rcases h1 with h1 | h1; exact .inl h1; exact .inr (by have h5 := h1.1; omega)) ?_
      intro gg cap w6 S6 hs6 hgg hat6
      refine HK.out _ _ (fun _ => ⟨(S6.one 2).1, boxF5 (S6.block 4)⟩) ?_
      have HS := And.intro (S6.one 2).1 (boxF5 (S6.block 4))
      try simp only [Act.put, List.setIfInBounds_toArray, List.set_cons_zero, List.set_cons_succ]
      refine wpG.take (i := 15) (by kernel_rfl) (by kernel_rfl) (by kernel_rfl) (by kernel_rfl) (by kernel_rfl) HS ?_
      intro oi ho
      simp only [List.getElem?_toArray, List.getElem?_cons_succ, List.getElem?_cons_zero, Option.some.injEq] at ho
      subst ho
      refine ⟨?_, Or.inl ⟨by rfl, ?_⟩, fun _ _ _ h => h, ?_⟩
      rotate_left 1
      · intro W hW
        try dsimp only at hW
        go_simp
        try with_reducible rfl
      simp only [Act.put, List.setIfInBounds_toArray, List.set_cons_zero, List.set_cons_succ]
      refine wpG.one (i := 16) (by kernel_rfl) ?_
      intro oi ho
      simp only [List.getElem?_toArray, List.getElem?_cons_succ, List.getElem?_cons_zero, Option.some.injEq] at ho
      subst ho
      intro K hK
      have HK := Lib.hid hK
      have HSH := Lib.hid HS
      clear hK HS
      obtain ⟨u0, u1⟩ := S6.one 2
      go_simp
      refine HK.out _ _ (fun h => absurd rfl h) ?_
      try simp only [Act.put, List.setIfInBounds_toArray, List.set_cons_zero, List.set_cons_succ]
      refine wpG.done (by kernel_rfl) ?_
      rw [hlk] at S6
      have S7 := (S6.set1 2 rfl (.slice (some ⟨gg, 0, none⟩) (k + 1) cap) (by have := HBX.out; omega) (by
        have h8 := (S6.ownlt factE 3 rfl gg rfl).1
        simp only [fset, fsnoc, offs, offAll, Fct.box, Fct.treeP, Fct.owns, and_true]; have := HBX.out; have := HBK.out
        refine ⟨by omega, by omega, fun e => ?_, by omega, fun e => ?_, fun e => ?_⟩
        · rcases e with e | e | e
          · have e' : gg = bx + 2 := by simpa [Value.ownBlock] using e
            omega
          · have := HP2.out _ e; omega
          · omega
        · rcases e with e | e
          · have := HP2.out _ e; omega
          · have := e.1; omega
        · rcases e with e | e
          · have := HP2.out _ e; omega
          · have := e.1; omega)).pick [0, 1, 2, 3]
      have S8 := Lib.hid (show St w (w6.setCell ⟨bx + 2, 0, none⟩ (.slice (some ⟨gg, 0, none⟩) (k + 1) cap)) [.box bx #[.slice (some ⟨bb, off, none⟩) fs.length (fs.length + sp)] 41, .box (bx + 1) #[.slice none 0 0] 41, .box (bx + 2) #[(.slice (some ⟨gg, 0, none⟩) (k + 1) cap)] 41, .owns factE (bx + 3) (fun c => p2 c ∨ bx + 3 ≤ c) (.slice (some ⟨gg, 0, none⟩) (k + 1) cap) (mapC F (fs.take (k + 1)))] by rw [HT.out, ← HRL.out]; exact S7)
      clear S7 S6 S5 S4 SA u0 u1 x0 x1 x2 x3 x4 y0
      go_wp2_with fail
      go_roundw
      case rel => exact ⟨k + 1, _, by omega, by go_num, by have := HBK.out; simp; omega, S8.out⟩
      case measure => simp [intOf] <;> omega
    · obtain rfl : k = fs.length := by omega
      rw [List.take_length] at S
      obtain ⟨ro, rsp, rfl, hrow, hml2⟩ := (S.owns factE 3).row (fun b h => Or.inr h)
      have HT := Lib.hid hrow
      have SB := Lib.hid S
      obtain ⟨x0, _⟩ := S.one 1
      obtain ⟨y0, y1⟩ := S.one 2
      have hl1 := S.lt 1
      clear hrow S
      go_wp2_with fail
      refine ret_box1 (.slice ro (mapC F fs).length ((mapC F fs).length + rsp)) (bx + 1) 41 (box1_set' (SB.out.block 1) _ rfl) (fun w' q0 => by simp [results, Try.results109, go_sem, q0]) rfl ?_
      have hx1 := HBX.out
      refine ⟨_, _, rfl, HT.out.keep (fun b h1 h2 => ⟨Below.heap_setCell _ _ _ _ (by show b ≠ bx + 1; rcases h1 with h1 | h1; have := HP2.out b h1; omega; omega), by rcases h1 with h1 | h1; exact .inl h1; exact .inr (by omega)⟩), SB.out.bel.setCell (p := ⟨bx + 1, 0, none⟩) (by show w.heap.size ≤ bx + 1; omega) _⟩
end Go.Proofs.Ytlhnfdjidjgfgaa
