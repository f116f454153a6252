/-
  Walks: claim.Map with Renamer.Term, claim.Renamed, claim.Norm.
-/
import Derived.Test.YtidgnbdlfngeaaaDoorProg
import Derived.Test.YtidgnbdlfngeaaaDoorM2
import Derived.Test.YtidgnbdlfngeaaaDoorE80
import Derived.Test.YtidgnbdlfngeaaaDoorF1
import Derived.Test.YtidgnbdlfngeaaaDoorG1
namespace Go.Proofs.YtidgnbdlfngeaaaDoor
open Go.RowKit Go.Shelf Go.Maps
set_option linter.unusedVariables false
set_option maxHeartbeats 400000

def rnF (L : List Int) (f : Fc) : Fc := ⟨f.neg, f.l.ren L, f.r.ren L⟩
def rnA (fs : List Fc) : List Fc := fs.map (rnF (orderL (treesF fs) []))
theorem rnF_ext {a b : List Int} (h : Ext a b) : ∀ {fs : List Fc}, covL a (treesF fs) → fs.map (rnF b) = fs.map (rnF a)
  | [], _ => rfl
  | f :: r, hc => by
    have hc : f.l.cov a ∧ f.r.cov a ∧ covL a (treesF r) := hc
    simp only [List.map_cons, rnF]
    rw [(T.cov_ext h hc.1).2, (T.cov_ext h hc.2.1).2, rnF_ext h hc.2.2]
theorem rnA_step {fs : List Fc} {k : Nat} (h : k < fs.length) {M M1 M2 : List Int} (hM : M = orderL (treesF (fs.take k)) []) (h1 : M1 = fs[k].l.order M) (h2 : M2 = fs[k].r.order M1) :
    orderL (treesF (fs.take (k + 1))) [] = M2 ∧ (fs.take (k + 1)).map (rnF M2) = (fs.take k).map (rnF M) ++ [⟨fs[k].neg, fs[k].l.ren M1, fs[k].r.ren M2⟩] := by
  have e : fs.take (k + 1) = fs.take k ++ [fs[k]] := List.take_succ_eq_append_getElem h
  have x1 := T.order_ext fs[k].l M
  have x2 := T.order_ext fs[k].r M1
  rw [← h1] at x1
  rw [← h2] at x2
  have c0 : covL M (treesF (fs.take k)) := by rw [hM]; exact (orderL_ext _ _).2
  refine ⟨?_, ?_⟩
  · rw [e, treesF_append, orderL_append, ← hM]
    show orderL [fs[k].l, fs[k].r] M = M2
    simp only [orderL]
    rw [← h1, ← h2]
  · rw [e, List.map_append, rnF_ext (x1.1.trans x2.1) c0]
    simp only [List.map_cons, List.map_nil, rnF]
    rw [(T.cov_ext x2.1 x1.2).2]
theorem box5 {w : World} {b : Nat} {v0 v1 v2 v3 v4 : Value} {T : TypeId} (h : w.heap[b]? = some (.cells #[v0, v1, v2, v3, v4] T (0, 0))) :
    w.cell? ⟨b, 0, none⟩ = some v0 ∧ w.cell? ⟨b, 1, none⟩ = some v1 ∧ w.cell? ⟨b, 2, none⟩ = some v2 ∧ w.cell? ⟨b, 3, none⟩ = some v3 ∧ w.cell? ⟨b, 4, none⟩ = some v4 := by
  simp [World.cell?, h]

set_option maxRecDepth 100000 in
set_option maxHeartbeats 4000000 in
theorem map104 (fs : List Fc) (p : Nat → Prop) (w0 w : World) (b : Nat) (ao : Option Addr) (sp : Nat) (hp : ∀ c, p c → c < w0.heap.size) (hbw : w0.heap.size ≤ b) (h : factE.Row p w0 ao fs) (SM : St w0 w [.mapI b []]) (hn : fs.length ≤ 1000)
    (hs : ∀ (i : Nat) t, (treesF fs)[i]? = some t → lowT t ∧ t.size ≤ 10000) :
    Calls Tryd.prog 41 #[.agg #[.slice ao fs.length (fs.length + sp)], .func (.func 42) #[.map (some b)] #[]] w fun e w' => ∃ ro rsp, e = .returned (.agg #[.slice ro (rnA fs).length ((rnA fs).length + rsp)]) ∧ factE.Row (fun c => w.heap.size ≤ c) w' ro (rnA fs) ∧ (∀ c, c < w.heap.size → c ≠ b → w'.heap[c]? = w.heap[c]?) ∧ w.heap.size ≤ w'.heap.size ∧ Below w0.heap.size w0 w' := by
  have HR := Lib.hid h; have HP := Lib.hid hp; have HS := Lib.hid hs; have HBW := Lib.hid hbw
  have HB := Lib.hid (show b < w.heap.size from (SM.mapI 0).lt)
  have HSL := Lib.hid (show sizeL (treesF fs) ≤ 20000000 by
    have hT : (treesF fs).length ≤ 2000 := by rw [treesF_length]; omega
    have h1 := sizeL_le_of (fun i t ht => (hs i t ht).2); have h2 := Nat.mul_le_mul_right 10000 hT; omega)
  obtain ⟨i54, gi, gz0, gz1, gz2⟩ := info_parts info54
  obtain ⟨bx, hbx⟩ : ∃ b, b = w.heap.size := ⟨_, rfl⟩
  have S1 := ((SM.box hbx.symm #[.slice ao fs.length (fs.length + sp)] 37).box (b := bx + 1) (by simp [hbx]) #[.slice none 0 0] 37).box (b := bx + 2) (by simp [hbx]) #[.slice none 0 0] 37
  have HK0 : ∀ c, c < w.heap.size → (((w.alloc (.cells #[.slice ao fs.length (fs.length + sp)] 37)).alloc (.cells #[.slice none 0 0] 37)).alloc (.cells #[.slice none 0 0] 37)).heap[c]? = w.heap[c]? := fun c hc => ((((Below.refl w.heap.size w).alloc (Nat.le_refl _) _).alloc (by simp) _).alloc (by simp; omega) _).block c hc
  have hsz1 : (((w.alloc (.cells #[.slice ao fs.length (fs.length + sp)] 37)).alloc (.cells #[.slice none 0 0] 37)).alloc (.cells #[.slice none 0 0] 37)).heap.size = bx + 3 := by simp [hbx]
  have S1 := (S1.add (.owns factE (bx + 3) (fun c => bx + 3 ≤ c) (.slice none 0 0) []) (Elt.Own.nil _ _ _ _)).add (.kept w b) (fun c hc _ => HK0 c hc)
  clear h hp hs hbw SM
  go_enter Tryd.func41, Tryd.ntmps41
  go_wp2_with fail
  rw [← hbx]
  refine S1.genC (z := bx + 3) (by omega) ?_
  intro w1 z1 S
  have HBX := Lib.hid hbx
  clear S1 hbx hsz1 HK0
  go_loopw [11] (fun i wr => ∃ (k : Nat) (o : Value), k ≤ fs.length ∧ i = .int .i64 k ∧ bx + 3 ≤ wr.heap.size ∧ St w0 wr [.mapI b (orderL (treesF (fs.take k)) []), .box bx #[.slice ao fs.length (fs.length + sp)] 37, .box (bx + 1) #[.slice none 0 0] 37, .box (bx + 2) #[o] 37,
    .owns factE (bx + 3) (fun c => bx + 3 ≤ c) o ((fs.take k).map (rnF (orderL (treesF (fs.take k)) []))), .kept w b]) (fun i _ => fs.length - (intOf i).toNat)
  case atStart => exact ⟨0, _, by omega, rfl, z1, S⟩
  case round =>
    clear S
    obtain ⟨k, o, hk, rfl, z3, S⟩ := hrel
    by_cases hlt : k < fs.length
    · have hlti : (k : Int) < (fs.length : Int) := by omega
      obtain ⟨bk, hbk⟩ : ∃ b, b = wr.heap.size := ⟨_, rfl⟩
      obtain ⟨bb, off, ka, sa, kb, sb, rfl, hpb, c0', c1', c2', c3', c4', t1, t2⟩ := HR.out.fact hlt
      have c0 := Below.cellOf S.bel c0'
      have c1 := Below.cellOf S.bel c1'
      have c2 := Below.cellOf S.bel c2'
      have c3 := Below.cellOf S.bel c3'
      have c4 := Below.cellOf S.bel c4'
      have HPR := treesF_pair hlt
      obtain ⟨M, hM⟩ : ∃ M, M = orderL (treesF (fs.take k)) [] := ⟨_, rfl⟩
      obtain ⟨X, hX⟩ : ∃ X, X = fs[k].l := ⟨_, rfl⟩
      obtain ⟨Y, hY⟩ : ∃ Y, Y = fs[k].r := ⟨_, rfl⟩
      obtain ⟨N, hN⟩ : ∃ N, N = fs[k].neg := ⟨_, rfl⟩
      have HRS := Lib.hid (rnA_step hlt hM rfl rfl)
      have HML := Lib.hid (show M.length ≤ 20000000 by
        have h1 := orderL_length (treesF (fs.take k)) []
        rw [← hM] at h1
        have h2 := HSL.out
        have e : treesF fs = treesF (fs.take k) ++ treesF (fs.drop k) := by rw [← treesF_append, List.take_append_drop]
        have h3 : sizeL (treesF fs) = sizeL (treesF (fs.take k)) + sizeL (treesF (fs.drop k)) := by rw [e, sizeL_append]
        simp at h1; omega)
      rw [← hX, ← hY] at HPR
      rw [← hX] at c1 c2 t1 HRS
      rw [← hY] at c3 c4 t2 HRS
      rw [← hN] at c0 HRS
      have HLX := Lib.hid (HS.out _ _ HPR.1)
      have HLY := Lib.hid (HS.out _ _ HPR.2)
      have T1 := Lib.hid t1; have T2 := Lib.hid t2
      have HOW := Lib.hid (show ∀ c, o.ownBlock = some c → bx + 3 ≤ c ∧ c < bk from fun c hc => by rw [hbk]; exact S.ownlt factE 4 rfl c hc)
      have SK := S.box hbk.symm #[.bool N, .int .i64 X.head, .slice ka X.kids.length (X.kids.length + sa), .int .i64 Y.head, .slice kb Y.kids.length (Y.kids.length + sb)] 47
      obtain ⟨RL, hRL⟩ : ∃ RL, RL = (fs.take k).map (rnF M) := ⟨_, rfl⟩
      have hlk : RL.length = k := by rw [hRL]; simp; omega
      rw [← hM] at SK
      rw [← hRL] at HRS SK
      clear c0' c1' c2' c3' c4' S hM hRL hX hY hN HPR t1 t2
      go_wp2_with fail
      rw [← hbk]
      refine SK.genC (z := bk + 1) (by simp [hbk]) ?_
      intro w2 z4 S
      have HBK := Lib.hid (show bx + 3 ≤ bk by omega)
      clear SK hbk c0 c1 c2 c3 c4
      have SD := Lib.hid S.drew
      obtain ⟨y0, _⟩ := SD.out.one 3
      have hzd : w2.drew.heap.size = w2.heap.size := rfl
      obtain ⟨x0, x1, x2, x3, x4⟩ := box5 (SD.out.block 6)
      clear S
      refine wpG_region 16 (fun W => W.cell? ⟨bx + 2, 0, none⟩ = some o ∧ W.cell? ⟨bk, 0, none⟩ = some (.bool N) ∧ W.cell? ⟨bk, 1, none⟩ = some (.int .i64 X.head) ∧ W.cell? ⟨bk, 2, none⟩ = some (.slice ka X.kids.length (X.kids.length + sa)) ∧ W.cell? ⟨bk, 3, none⟩ = some (.int .i64 Y.head) ∧ W.cell? ⟨bk, 4, none⟩ = some (.slice kb Y.kids.length (Y.kids.length + sb))) (by kernel_rfl) ?_
      have HS := And.intro (SD.out.one 3).1 (box5 (SD.out.block 6))
      refine wpG.take (i := 0) (by kernel_rfl) (by kernel_rfl) (by kernel_rfl) (by kernel_rfl) (by kernel_rfl) HS ?_
      intro oi ho
      simp only [List.getElem?_toArray, List.getElem?_cons_zero, Option.some.injEq] at ho
      subst ho
      refine ⟨?_, Or.inl ⟨by rfl, ?_⟩, fun _ _ _ h => h, ?_⟩
      rotate_left 1
      · intro W hW
        try dsimp only at hW
        go_simp
        try with_reducible rfl
      simp only [Act.put, List.setIfInBounds_toArray, List.set_cons_zero, List.set_cons_succ]
      refine wpG.take (i := 1) (by kernel_rfl) (by kernel_rfl) (by kernel_rfl) (by kernel_rfl) (by kernel_rfl) HS ?_
      intro oi ho
      simp only [List.getElem?_toArray, List.getElem?_cons_succ, List.getElem?_cons_zero, Option.some.injEq] at ho
      subst ho
      refine ⟨?_, Or.inl ⟨by rfl, ?_⟩, fun _ _ _ h => h, ?_⟩
      rotate_left 1
      · intro W hW
        try dsimp only at hW
        go_simp
        try with_reducible rfl
      simp only [Act.put, List.setIfInBounds_toArray, List.set_cons_zero, List.set_cons_succ]
      refine wpG.take (i := 2) (by kernel_rfl) (by kernel_rfl) (by kernel_rfl) (by kernel_rfl) (by kernel_rfl) HS ?_
      intro oi ho
      simp only [List.getElem?_toArray, List.getElem?_cons_succ, List.getElem?_cons_zero, Option.some.injEq] at ho
      subst ho
      refine ⟨?_, Or.inl ⟨by rfl, ?_⟩, fun _ _ _ h => h, ?_⟩
      rotate_left 1
      · intro W hW
        try dsimp only at hW
        go_simp
        try with_reducible rfl
      simp only [Act.put, List.setIfInBounds_toArray, List.set_cons_zero, List.set_cons_succ]
      refine wpG.take (i := 3) (by kernel_rfl) (by kernel_rfl) (by kernel_rfl) (by kernel_rfl) (by kernel_rfl) HS ?_
      intro oi ho
      simp only [List.getElem?_toArray, List.getElem?_cons_succ, List.getElem?_cons_zero, Option.some.injEq] at ho
      subst ho
      refine ⟨?_, Or.inl ⟨by rfl, ?_⟩, fun _ _ _ h => h, ?_⟩
      rotate_left 1
      · intro W hW
        try dsimp only at hW
        go_simp
        try with_reducible rfl
      simp only [Act.put, List.setIfInBounds_toArray, List.set_cons_zero, List.set_cons_succ]
      refine wpG.take (i := 4) (by kernel_rfl) (by kernel_rfl) (by kernel_rfl) (by kernel_rfl) (by kernel_rfl) HS ?_
      intro oi ho
      simp only [List.getElem?_toArray, List.getElem?_cons_succ, List.getElem?_cons_zero, Option.some.injEq] at ho
      subst ho
      refine ⟨?_, Or.inl ⟨by rfl, ?_⟩, fun _ _ _ h => h, ?_⟩
      rotate_left 1
      · intro W hW
        try dsimp only at hW
        go_simp
        try with_reducible rfl
      simp only [Act.put, List.setIfInBounds_toArray, List.set_cons_zero, List.set_cons_succ]
      refine wpG.take (i := 5) (by kernel_rfl) (by kernel_rfl) (by kernel_rfl) (by kernel_rfl) (by kernel_rfl) HS ?_
      intro oi ho
      simp only [List.getElem?_toArray, List.getElem?_cons_succ, List.getElem?_cons_zero, Option.some.injEq] at ho
      subst ho
      refine ⟨?_, Or.inl ⟨by rfl, ?_⟩, fun _ _ _ h => h, ?_⟩
      rotate_left 1
      · intro W hW
        try dsimp only at hW
        go_simp
        try with_reducible rfl
      simp only [Act.put, List.setIfInBounds_toArray, List.set_cons_zero, List.set_cons_succ]
      refine wpG.take (i := 6) (by kernel_rfl) (by kernel_rfl) (by kernel_rfl) (by kernel_rfl) (by kernel_rfl) HS ?_
      intro oi ho
      simp only [List.getElem?_toArray, List.getElem?_cons_succ, List.getElem?_cons_zero, Option.some.injEq] at ho
      subst ho
      refine ⟨?_, Or.inl ⟨by rfl, ?_⟩, fun _ _ _ h => h, ?_⟩
      rotate_left 1
      · intro W hW
        try dsimp only at hW
        go_simp
        try with_reducible rfl
      simp only [Act.put, List.setIfInBounds_toArray, List.set_cons_zero, List.set_cons_succ]
      refine wpG.take (i := 8) (by kernel_rfl) (by kernel_rfl) (by kernel_rfl) (by kernel_rfl) (by kernel_rfl) HS ?_
      intro oi ho
      simp only [List.getElem?_toArray, List.getElem?_cons_succ, List.getElem?_cons_zero, Option.some.injEq] at ho
      subst ho
      refine ⟨?_, Or.inl ⟨by rfl, ?_⟩, fun _ _ _ h => h, ?_⟩
      rotate_left 1
      · intro W hW
        try dsimp only at hW
        go_simp
        try with_reducible rfl
      simp only [Act.put, List.setIfInBounds_toArray, List.set_cons_zero, List.set_cons_succ]
      refine wpG.take (i := 9) (by kernel_rfl) (by kernel_rfl) (by kernel_rfl) (by kernel_rfl) (by kernel_rfl) HS ?_
      intro oi ho
      simp only [List.getElem?_toArray, List.getElem?_cons_succ, List.getElem?_cons_zero, Option.some.injEq] at ho
      subst ho
      refine ⟨?_, Or.inl ⟨by rfl, ?_⟩, fun _ _ _ h => h, ?_⟩
      rotate_left 1
      · intro W hW
        try dsimp only at hW
        go_simp
        try with_reducible rfl
      simp only [Act.put, List.setIfInBounds_toArray, List.set_cons_zero, List.set_cons_succ]
      refine wpG.take (i := 10) (by kernel_rfl) (by kernel_rfl) (by kernel_rfl) (by kernel_rfl) (by kernel_rfl) HS ?_
      intro oi ho
      simp only [List.getElem?_toArray, List.getElem?_cons_succ, List.getElem?_cons_zero, Option.some.injEq] at ho
      subst ho
      refine ⟨?_, Or.inl ⟨by rfl, ?_⟩, fun _ _ _ h => h, ?_⟩
      rotate_left 1
      · intro W hW
        try dsimp only at hW
        go_simp
        try with_reducible rfl
      simp only [Act.put, List.setIfInBounds_toArray, List.set_cons_zero, List.set_cons_succ]
      refine wpG.one (i := 7) (by kernel_rfl) ?_
      intro oi ho
      simp only [List.getElem?_toArray, List.getElem?_cons_succ, List.getElem?_cons_zero, Option.some.injEq] at ho
      subst ho
      intro K hK
      have HK := Lib.hid hK
      have HSH := Lib.hid HS
      clear hK HS
      go_simp
      go_at_call 42
      refine (SD.out.madeM 0 rfl (by simp only [fsnoc, offs, offAll, Fct.box, Fct.owns, Fct.kept, and_true]; have := HB.out; have := HBX.out; have := HBK.out; refine ⟨by omega, by omega, by omega, fun e => ?_, by omega, by omega⟩; rcases e with e | e; have h8 := (HOW.out b e).1; omega; omega) (term105 X p w0 w2.drew b _ M HP.out HBW.out T1.out (SD.out.pick [0]) HLX.out.1 (by have h1 := HML.out; have h3 := HLX.out.2; omega))).mono ?_
      rintro e w4 ⟨k4, s4, rfl, hz4, S4⟩
      have hz4 : w2.heap.size ≤ w4.heap.size := hz4
      dsimp only
      refine HK.out _ _ (fun _ => ⟨(S4.one 3).1, box5 (S4.block 6)⟩) ?_
      have HS := And.intro (S4.one 3).1 (box5 (S4.block 6))
      try simp only [Act.put, List.setIfInBounds_toArray, List.set_cons_zero, List.set_cons_succ]
      refine wpG.one (i := 11) (by kernel_rfl) ?_
      intro oi ho
      simp only [List.getElem?_toArray, List.getElem?_cons_succ, List.getElem?_cons_zero, Option.some.injEq] at ho
      subst ho
      intro K hK
      have HK := Lib.hid hK
      have HSH := Lib.hid HS
      clear hK HS
      go_simp
      go_at_call 42
      refine (S4.madeM 0 rfl (by simp only [fset, fsnoc, offs, offAll, Fct.box, Fct.tree, Fct.owns, Fct.kept, and_true]; have := HB.out; have := HBX.out; have := HBK.out; refine ⟨by omega, by omega, by omega, fun e => ?_, by omega, by omega, by omega⟩; rcases e with e | e; have h8 := (HOW.out b e).1; omega; omega) (term105 Y p w0 w4 b _ (X.order M) HP.out HBW.out T2.out (S4.pick [0]) HLY.out.1 (by have h1 := HML.out; have h2 := HLY.out.2; have h3 := HLX.out.2; have h4 := T.order_length X M; omega))).mono ?_
      rintro e w5 ⟨k5, s5, rfl, hz5, S5⟩
      dsimp only
      refine HK.out _ _ (fun _ => ⟨(S5.one 3).1, box5 (S5.block 6)⟩) ?_
      have HS := And.intro (S5.one 3).1 (box5 (S5.block 6))
      try simp only [Act.put, List.setIfInBounds_toArray, List.set_cons_zero, List.set_cons_succ]
      refine wpG.take (i := 12) (by kernel_rfl) (by kernel_rfl) (by kernel_rfl) (by kernel_rfl) (by kernel_rfl) HS ?_
      intro oi ho
      simp only [List.getElem?_toArray, List.getElem?_cons_succ, List.getElem?_cons_zero, Option.some.injEq] at ho
      subst ho
      refine ⟨?_, Or.inl ⟨by rfl, ?_⟩, fun _ _ _ h => h, ?_⟩
      rotate_left 1
      · intro W hW
        try dsimp only at hW
        go_simp
        try with_reducible rfl
      simp only [Act.put, List.setIfInBounds_toArray, List.set_cons_zero, List.set_cons_succ]
      refine wpG.one (i := 13) (by kernel_rfl) ?_
      intro oi ho
      simp only [List.getElem?_toArray, List.getElem?_cons_succ, List.getElem?_cons_zero, Option.some.injEq] at ho
      subst ho
      intro K hK
      have HK := Lib.hid hK
      have HSH := Lib.hid HS
      clear hK HS
      have SA := S5.alloc (.cells #[.bool N, .int .i64 (X.ren (X.order M)).head, .slice k4 (X.ren (X.order M)).kids.length ((X.ren (X.order M)).kids.length + s4), .int .i64 (Y.ren (Y.order (X.order M))).head, .slice k5 (Y.ren (Y.order (X.order M))).kids.length ((Y.ren (Y.order (X.order M))).kids.length + s5)] 47)
      go_simp
      refine HK.out _ _ (fun _ => ⟨(SA.one 3).1, box5 (SA.block 6)⟩) ?_
      have HS := And.intro (SA.one 3).1 (box5 (SA.block 6))
      try simp only [Act.put, List.setIfInBounds_toArray, List.set_cons_zero, List.set_cons_succ]
      refine wpG.one (i := 14) (by kernel_rfl) ?_
      intro oi ho
      simp only [List.getElem?_toArray, List.getElem?_cons_succ, List.getElem?_cons_zero, Option.some.injEq] at ho
      subst ho
      intro K hK
      have HK := Lib.hid hK
      have HSH := Lib.hid HS
      clear hK HS
      refine step_app (by rfl) (.tmp 16) (.tmp 28) 35 (by rfl) factE S5 4 rfl (x := ⟨N, X.ren (X.order M), Y.ren (Y.order (X.order M))⟩) (q := fun b => w2.heap.size ≤ b ∧ b < w5.heap.size) (p' := fun b => bx + 3 ≤ b) ⟨k4, s4, k5, s5, rfl, (S5.tree 7).mono (fun b h _ => ⟨h.1, by have := h.2; omega⟩), (S5.tree 8).mono (fun b h _ => ⟨by have h1 : w4.heap.size ≤ b := h.1; omega, h.2⟩)⟩ Tryd.underlying35 gi gz0 gz1 gz2 (by rfl) (by rfl) (by rfl) (by rfl) (by unfold maxLen; omega) (by omega) (by have := HBK.out; omega) (by have := HBW.out; have := HB.out; have := HBX.out; omega)
            (fun bb h1 h2 h3 => by have h4 := (HOW.out bb h1).2; simp only [fset, fsnoc, offs, offAll, Fct.box, Fct.tree, Fct.mapI, Fct.kept, and_true]; have := HB.out; have := HBX.out; omega) (fun bb h1 h2 => by have h4 := (HOW.out bb h2).2; have h5 := h1.1; omega) (fun bb h1 => by have h6 := HBK.out; rcases h1 with h1 | h1; exact h1; have h5 := h1.1; omega) ?_
      intro gg cap w6 S6 hs6 hgg hat6
      refine HK.out _ _ (fun _ => ⟨(S6.one 3).1, box5 (S6.block 6)⟩) ?_
      have HS := And.intro (S6.one 3).1 (box5 (S6.block 6))
      try simp only [Act.put, List.setIfInBounds_toArray, List.set_cons_zero, List.set_cons_succ]
      refine wpG.take (i := 15) (by kernel_rfl) (by kernel_rfl) (by kernel_rfl) (by kernel_rfl) (by kernel_rfl) HS ?_
      intro oi ho
      simp only [List.getElem?_toArray, List.getElem?_cons_succ, List.getElem?_cons_zero, Option.some.injEq] at ho
      subst ho
      refine ⟨?_, Or.inl ⟨by rfl, ?_⟩, fun _ _ _ h => h, ?_⟩
      rotate_left 1
      · intro W hW
        try dsimp only at hW
        go_simp
        try with_reducible rfl
      simp only [Act.put, List.setIfInBounds_toArray, List.set_cons_zero, List.set_cons_succ]
      refine wpG.one (i := 16) (by kernel_rfl) ?_
      intro oi ho
      simp only [List.getElem?_toArray, List.getElem?_cons_succ, List.getElem?_cons_zero, Option.some.injEq] at ho
      subst ho
      intro K hK
      have HK := Lib.hid hK
      have HSH := Lib.hid HS
      clear hK HS
      obtain ⟨u0, u1⟩ := S6.one 3
      go_simp
      refine HK.out _ _ (fun h => absurd rfl h) ?_
      try simp only [Act.put, List.setIfInBounds_toArray, List.set_cons_zero, List.set_cons_succ]
      refine wpG.done (by kernel_rfl) ?_
      rw [hlk] at S6
      have S7 := (S6.set1 3 rfl (.slice (some ⟨gg, 0, none⟩) (k + 1) cap) (by have := HBW.out; have := HB.out; have := HBX.out; omega) (by
        have h8 := (S6.ownlt factE 4 rfl gg rfl).1
        simp only [fset, fsnoc, offs, offAll, Fct.box, Fct.tree, Fct.mapI, Fct.kept, Fct.owns, and_true]; have := HB.out; have := HBX.out; have := HBK.out
        refine ⟨by omega, by omega, by omega, fun e => ?_, by omega, by omega, by omega, by omega⟩
        rcases e with e | e
        · have e' : gg = bx + 2 := by simpa [Value.ownBlock] using e
          omega
        · omega)).pick [0, 1, 2, 3, 4, 5]
      have S8 := Lib.hid (show St w0 (w6.setCell ⟨bx + 2, 0, none⟩ (.slice (some ⟨gg, 0, none⟩) (k + 1) cap)) [.mapI b (orderL (treesF (fs.take (k + 1))) []), .box bx #[.slice (some ⟨bb, off, none⟩) fs.length (fs.length + sp)] 37, .box (bx + 1) #[.slice none 0 0] 37, .box (bx + 2) #[.slice (some ⟨gg, 0, none⟩) (k + 1) cap] 37,
        .owns factE (bx + 3) (fun c => bx + 3 ≤ c) (.slice (some ⟨gg, 0, none⟩) (k + 1) cap) ((fs.take (k + 1)).map (rnF (orderL (treesF (fs.take (k + 1))) []))), .kept w b] by rw [HRS.out.1, HRS.out.2]; exact S7)
      clear S7 S6 S5 S4 SA HS u0 u1 x0 x1 x2 x3 x4 y0
      go_wp2_with fail
      go_roundw
      case rel => exact ⟨k + 1, _, by omega, by go_num, by have := HBK.out; simp; omega, S8.out⟩
      case measure => simp [intOf] <;> omega
    · obtain rfl : k = fs.length := by omega
      rw [List.take_length] at S
      have HNL := Lib.hid (show fs.map (rnF (orderL (treesF fs) [])) = rnA fs from rfl)
      rw [HNL.out] at S
      obtain ⟨ro, rsp, rfl, hrow, hml2⟩ := (S.owns factE 4).row (fun b h => h)
      have HT := Lib.hid hrow
      have SB := Lib.hid S
      obtain ⟨x0, _⟩ := S.one 1
      obtain ⟨y0, y1⟩ := S.one 2
      obtain ⟨v0, _⟩ := S.one 3
      have hl1 := S.lt 2
      clear hrow S
      go_wp2_with fail
      refine ret_box1 (.slice ro (rnA fs).length ((rnA fs).length + rsp)) (bx + 1) 37 (box1_set' (SB.out.block 2) _ rfl) (fun w' q0 => by simp [results, Tryd.results41, go_sem, q0]) rfl ?_
      have hb1 := HB.out; have hx1 := HBX.out; have hw1 := HBW.out
      refine ⟨_, _, rfl, HT.out.keep (fun b h1 h2 => ⟨Below.heap_setCell _ _ _ _ (by show b ≠ bx + 1; omega), by omega⟩), fun c h1 h2 => (Below.heap_setCell _ _ _ _ (by show c ≠ bx + 1; omega)).trans (SB.out.kept 5 rfl c h1 h2), by simp; omega, SB.out.bel.setCell (p := ⟨bx + 1, 0, none⟩) (by show w0.heap.size ≤ bx + 1; omega) _⟩
end Go.Proofs.YtidgnbdlfngeaaaDoor
