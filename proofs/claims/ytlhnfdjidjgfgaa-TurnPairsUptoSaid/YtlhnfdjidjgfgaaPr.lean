/-
  Walk: turn.pair.
-/
import Derived.Test.YtlhnfdjidjgfgaaProg
import Derived.Test.YtlhnfdjidjgfgaaCp
import Derived.Test.YtlhnfdjidjgfgaaTm
import Derived.Test.YtlhnfdjidjgfgaaCq
import Derived.Test.YtlhnfdjidjgfgaaSt3
import Derived.Test.YtlhnfdjidjgfgaaG4
import Derived.Deep.CutBlock
import Derived.Deep.DeepCutAuto
import Derived.RegionTactic
namespace Go.Proofs.Ytlhnfdjidjgfgaa
open Go.RowKit Go.Shelf Go.Maps
set_option linter.unusedVariables false
set_option maxHeartbeats 400000

theorem ret_box4 {P : Program} {fn : Func} {R : Ending → World → Prop} {a : Act} {w : World} (x y z u v1 v2 : Value) (b : Nat) (T : TypeId) (hb : w.heap[b]? = some (.cells #[x, y, z, u] T (0, 0)))
    (hres : ∀ w' : World, w'.cell? ⟨b, 0, none⟩ = some x → w'.cell? ⟨b, 1, none⟩ = some y → w'.cell? ⟨b, 2, none⟩ = some z → w'.cell? ⟨b, 3, none⟩ = some u → (results fn a.tmps).run P w' = .ok (.tuple #[.agg #[x, y, z, u], v1, v2]) w') (hd : a.defers = [])
    (hR : R (.returned (.tuple #[.agg #[x, y, z, u], v1, v2])) w) : bodyPost P fn R .ret a w := bodyPost_ret (hres w (box4 hb).1.1 (box4 hb).2.1.1 (box4 hb).2.2.1.1 (box4 hb).2.2.2.1) hd hR
theorem St.set4 {w0 w : World} {l : List Fct} (S : St w0 w l) (i : Nat) {b : Nat} {x y z u : Value} {T : TypeId} (hi : Fct.at l i = Fct.box b #[x, y, z, u] T) (x' y' z' u' : Value) (h0 : w0.heap.size ≤ b) (hoff : offs b i l) :
    St w0 ((((w.setCell ⟨b, 0, Option.none⟩ x').setCell ⟨b, 1, Option.none⟩ y').setCell ⟨b, 2, Option.none⟩ z').setCell ⟨b, 3, Option.none⟩ u') (fset l i (.box b #[x', y', z', u'] T)) :=
  S.put i hi h0 hoff (fun h => (((h.setCell (p := ⟨b, 0, Option.none⟩) h0 _).setCell (p := ⟨b, 1, Option.none⟩) h0 _).setCell (p := ⟨b, 2, Option.none⟩) h0 _).setCell (p := ⟨b, 3, Option.none⟩) h0 _)
    (fun c hc => (Below.heap_setCell _ _ _ _ hc).trans ((Below.heap_setCell _ _ _ _ hc).trans ((Below.heap_setCell _ _ _ _ hc).trans (Below.heap_setCell _ _ _ _ hc)))) (fun h => by simp [World.setCell, Array.getElem?_modify, h])
theorem St.fourP {w0 w : World} {l : List Fct} (S : St w0 w l) (i : Nat) {b : Nat} {x y z u : Value} {T : TypeId} (hi : Fct.at l i = Fct.box b #[x, y, z, u] T := by rfl) :
    (w.cell? ⟨b, 0, Option.none⟩ = some x ∧ w.frozen? ⟨b, 0, Option.none⟩ = false) ∧ (w.cell? ⟨b, 1, Option.none⟩ = some y ∧ w.frozen? ⟨b, 1, Option.none⟩ = false) ∧ (w.cell? ⟨b, 2, Option.none⟩ = some z ∧ w.frozen? ⟨b, 2, Option.none⟩ = false) ∧ (w.cell? ⟨b, 3, Option.none⟩ = some u ∧ w.frozen? ⟨b, 3, Option.none⟩ = false) := box4 (S.block i hi)
def PairP (r : Option (Option (T × T))) (w : World) (e : Ending) (w' : World) : Prop :=
  ∃ (P Q : T) (u1 u2 : Option Addr) (v1 v2 : Nat) (ok sm : Bool), e = .returned (.tuple #[.agg #[.int .i64 P.head, .slice u1 P.kids.length (P.kids.length + v1), .int .i64 Q.head, .slice u2 Q.kids.length (Q.kids.length + v2)], .bool ok, .bool sm]) ∧ ((sm = false ∧ r = none) ∨ (sm = true ∧ ok = false ∧ r = some none) ∨ (sm = true ∧ ok = true ∧ r = some (some (P, Q)))) ∧
    TreeP (fun b => w.heap.size ≤ b) w' (.agg #[.int .i64 P.head, .slice u1 P.kids.length (P.kids.length + v1)]) P ∧ TreeP (fun b => w.heap.size ≤ b) w' (.agg #[.int .i64 Q.head, .slice u2 Q.kids.length (Q.kids.length + v2)]) Q ∧ Below w.heap.size w w'

set_option maxRecDepth 100000 in
set_option maxHeartbeats 8000000 in
theorem pair101 (X Y : T × T) (A : T) (at_ : List Int) (p : Nat → Prop) (k1 k2 k3 k4 k5 ao : Option Addr) (s1 s2 s3 s4 s5 n cap : Nat) (w : World) (hok : PairOk X Y A) (hp : ∀ b, p b → b < w.heap.size)
    (h1 : TreeP p w (.agg #[.int .i64 X.1.head, .slice k1 X.1.kids.length (X.1.kids.length + s1)]) X.1) (h2 : TreeP p w (.agg #[.int .i64 X.2.head, .slice k2 X.2.kids.length (X.2.kids.length + s2)]) X.2) (h3 : TreeP p w (.agg #[.int .i64 Y.1.head, .slice k3 Y.1.kids.length (Y.1.kids.length + s3)]) Y.1) (h4 : TreeP p w (.agg #[.int .i64 Y.2.head, .slice k4 Y.2.kids.length (Y.2.kids.length + s4)]) Y.2) (h5 : TreeP p w (.agg #[.int .i64 A.head, .slice k5 A.kids.length (A.kids.length + s5)]) A)
    (ha : CellsAt w ao at_.length (fun j => .int .i64 (gI at_ j))) (hn : n = at_.length) (hc : n ≤ cap) (hcm : cap ≤ 9223372036854775807) :
    Calls Try.prog 101 #[.agg #[.int .i64 X.1.head, .slice k1 X.1.kids.length (X.1.kids.length + s1), .int .i64 X.2.head, .slice k2 X.2.kids.length (X.2.kids.length + s2)], .agg #[.int .i64 Y.1.head, .slice k3 Y.1.kids.length (Y.1.kids.length + s3), .int .i64 Y.2.head, .slice k4 Y.2.kids.length (Y.2.kids.length + s4)], .slice ao n cap, .agg #[.int .i64 A.head, .slice k5 A.kids.length (A.kids.length + s5)]] w (PairP (pairF X Y at_ A) w) := by
  subst hn
  have HP := Lib.hid hp; have H1 := Lib.hid h1; have H2 := Lib.hid h2; have H3 := Lib.hid h3; have H4 := Lib.hid h4; have H5 := Lib.hid h5; have HAT := Lib.hid ha; have HOK := Lib.hid hok
  have HSO := Lib.hid hok.solve
  have HY2 := Lib.hid (show Y.2.size ≤ 40 by obtain ⟨m, B, C, hm, hB, hC, e⟩ := hok.y; have := (sh_okg hC m hm).2; rw [e]; exact this)
  have hmm := @run_makeMap Try.prog
  obtain ⟨bx, hbx⟩ : ∃ b, b = w.heap.size := ⟨_, rfl⟩
  have S1 := ((((St.start w).box hbx.symm #[.int .i64 X.1.head, .slice k1 X.1.kids.length (X.1.kids.length + s1), .int .i64 X.2.head, .slice k2 X.2.kids.length (X.2.kids.length + s2)] 134).box (b := bx + 1) (by simp [hbx]) #[.int .i64 Y.1.head, .slice k3 Y.1.kids.length (Y.1.kids.length + s3), .int .i64 Y.2.head, .slice k4 Y.2.kids.length (Y.2.kids.length + s4)] 134).box (b := bx + 2) (by simp [hbx]) #[.int .i64 A.head, .slice k5 A.kids.length (A.kids.length + s5)] 38).box (b := bx + 3) (by simp [hbx]) #[.int .i64 0, .slice none 0 0, .int .i64 0, .slice none 0 0] 100
  have hsz1 : ((((w.alloc (.cells #[.int .i64 X.1.head, .slice k1 X.1.kids.length (X.1.kids.length + s1), .int .i64 X.2.head, .slice k2 X.2.kids.length (X.2.kids.length + s2)] 134)).alloc (.cells #[.int .i64 Y.1.head, .slice k3 Y.1.kids.length (Y.1.kids.length + s3), .int .i64 Y.2.head, .slice k4 Y.2.kids.length (Y.2.kids.length + s4)] 134)).alloc (.cells #[.int .i64 A.head, .slice k5 A.kids.length (A.kids.length + s5)] 38)).alloc (.cells #[.int .i64 0, .slice none 0 0, .int .i64 0, .slice none 0 0] 100)).heap.size = bx + 4 := by simp [hbx]
  obtain ⟨⟨y0, _⟩, ⟨y1, _⟩, _⟩ := S1.fourP 1
  obtain ⟨⟨a0, _⟩, a1, _⟩ := S1.two 2
  clear h1 h2 h3 h4 h5 ha hok hp
  go_enter Try.func101, Try.ntmps101
  go_wp2_with fail
  rw [← hbx]
  refine S1.gen (z := bx + 4) (by omega) ?_
  intro w1 z1 S
  have HBX := Lib.hid (show w.heap.size ≤ bx ∧ bx ≤ w.heap.size by omega)
  clear S1 hsz1 hbx y0 y1 a0 a1
  refine (solve84g (uN A Y.1) A Y.1 _ _ w1 (H5.out.at.kept S.bel) (H3.out.at.kept S.bel) HSO.out.1 HSO.out.2.1 HSO.out.2.2.1 HSO.out.2.2.2.1 HSO.out.2.2.2.2 (uN_eq A Y.1)).mono ?_
  rintro e w2 ⟨hb2, hs⟩
  have S2 := S.step hb2
  have z2 := hb2.size
  have HS2 := Lib.hid hs
  clear hs S hb2
  obtain ⟨⟨r0, r0f⟩, ⟨r1, r1f⟩, ⟨r2, r2f⟩, r3, r3f⟩ := S2.fourP 3
  have hl3 := S2.lt 3
  have SZ := Lib.hid (S2.set4 3 rfl (.int .i64 0) (.slice none 0 0) (.int .i64 0) (.slice none 0 0) (by have := HBX.out; omega) (by simp only [fsnoc, offs, offAll, Fct.box, and_true]; omega))
  rcases HS2.out with ⟨rfl, hno⟩ | ⟨σ, hcan, htl, ⟨rfl, hbig⟩ | ⟨hfit, g, rfl, hrow⟩⟩
  · have HR := Lib.hid (show pairF X Y at_ A = some none by unfold pairF; rw [canU_none hno])
    clear hno HS2
    go_wp2_with fail
    refine ret_box4 (.int .i64 0) (.slice none 0 0) (.int .i64 0) (.slice none 0 0) (.bool false) (.bool true) (bx + 3) 100 (SZ.out.block 3) (fun w' q0 q1 q2 q3 => by simp [results, Try.results101, go_sem, q0, q1, q2, q3]) rfl ?_
    exact ⟨zeroT, zeroT, none, none, 0, 0, false, true, rfl, .inr (.inl ⟨rfl, rfl, HR.out⟩), TreeP.leaf _ _ _, TreeP.leaf _ _ _, SZ.out.bel⟩
  · have HR := Lib.hid (show pairF X Y at_ A = none by
      obtain ⟨x, _, e1, e2⟩ := hbig
      unfold pairF; rw [canU_some hcan]; exact if_neg (fun h => e2 (h x e1)))
    clear hcan htl hbig HS2
    go_wp2_with fail
    refine ret_box4 (.int .i64 0) (.slice none 0 0) (.int .i64 0) (.slice none 0 0) (.bool true) (.bool false) (bx + 3) 100 (SZ.out.block 3) (fun w' q0 q1 q2 q3 => by simp [results, Try.results101, go_sem, q0, q1, q2, q3]) rfl ?_
    exact ⟨zeroT, zeroT, none, none, 0, 0, true, false, rfl, .inl ⟨rfl, HR.out⟩, TreeP.leaf _ _ _, TreeP.leaf _ _ _, SZ.out.bel⟩
  · have HTA := Lib.hid (pair_tame HOK.out hcan hfit at_)
    have HR := Lib.hid (show ∀ P Q, P = (npair ((T.withAt at_ X.1 Y.2).sub (listT (uN A Y.1) (bnd σ))) (X.2.sub (listT (uN A Y.1) (bnd σ)))).1 → Q = (npair ((T.withAt at_ X.1 Y.2).sub (listT (uN A Y.1) (bnd σ))) (X.2.sub (listT (uN A Y.1) (bnd σ)))).2 →
        pairF X Y at_ A = if (treeF P).1 = 0 ∧ (treeF Q).1 = 0 then some (some (P, Q)) else none from fun P Q hP hQ => by
      unfold pairF; rw [canU_some hcan]; dsimp only; rw [if_pos hfit, hP, hQ])
    have HN := Lib.hid HSO.out.2.2.2.2
    clear hcan htl hfit HS2 r0 r0f r1 r1f r2 r2f r3 r3f hl3 SZ
    obtain ⟨L, hL⟩ : ∃ L, L = listT (uN A Y.1) (bnd σ) := ⟨_, rfl⟩
    have hLn : uN A Y.1 = L.length := by rw [hL, listT_length]
    rw [← hL] at HTA HR hrow
    rw [hLn] at HN ⊢
    clear hLn hL
    obtain ⟨bm, hbm⟩ : ∃ b, b = w2.heap.size := ⟨_, rfl⟩
    have HROW := Lib.hid (show RowP (fun c => w1.heap.size ≤ c ∧ c < bm) w2 (some ⟨g, 0, none⟩) L from hrow.mono (fun c h h2 => ⟨h, by omega⟩))
    have hM := MapI.made w2
    rw [← hbm] at hM
    have S3 := ((S2.add (.rowE treeE (fun c => w1.heap.size ≤ c ∧ c < bm) (some ⟨g, 0, none⟩) L) HROW.out.elt).alloc (.map #[] 0)).add (.mapI bm []) hM
    have hsz3 : (w2.alloc (.map #[] 0)).heap.size = bm + 1 := by simp [hbm]
    obtain ⟨⟨x0, _⟩, ⟨x1, _⟩, _⟩ := S3.fourP 0
    obtain ⟨_, _, ⟨y2, _⟩, y3, _⟩ := S3.fourP 1
    have HBM := Lib.hid (show bx + 4 ≤ bm ∧ w1.heap.size ≤ bm by omega)
    clear hrow hM S2
    go_wp2_with fail
    rw [← hbm]
    refine S3.gen (z := bm + 1) (by omega) ?_
    intro w3 z3 S
    clear S3 hsz3 hbm x0 x1 y2 y3
    refine (S.made (with51 Y.2 at_ X.1 _ ao cap _ w3 (H1.out.at.kept S.bel) (H4.out.at.kept S.bel) (HAT.out.below S.bel) hc hcm (by have := (ok_okg HOK.out.x1).2; omega) (by have := HY2.out; omega))).mono ?_
    rintro e w4 ⟨k6, s6, rfl, z4, S4⟩
    clear S
    go_wp2_with fail
    refine (S4.madeP (apply45 L (T.withAt at_ X.1 Y.2) (fun b => b < w4.heap.size ∧ b ≠ bm) _ _ _ w4 (fun b h => h.1) (by have := HN.out; omega) ((S4.tree 6).mono (fun b h h2 => ⟨h2, by omega⟩)) ((S4.rowE treeE 4).rowP.mono (fun b h h2 => ⟨h2, by omega⟩)) HTA.out.1 (by have := HTA.out.2.1; omega) (fun i hi => by have := HTA.out.2.2.2.2.2 i hi; omega))).mono ?_
    rintro e w5 ⟨k7, s7, rfl, z5, hb5, S5⟩
    clear S4 hb5
    obtain ⟨P0, hP0⟩ : ∃ P0, P0 = (T.withAt at_ X.1 Y.2).sub L := ⟨_, rfl⟩
    rw [← hP0] at HTA HR S5 ⊢
    have HP0 := Lib.hid hP0
    clear hP0
    go_wp2_with fail
    have S5 : St w w5 [.box bx #[.int .i64 X.1.head, .slice k1 X.1.kids.length (X.1.kids.length + s1), .int .i64 X.2.head, .slice k2 X.2.kids.length (X.2.kids.length + s2)] 134, .box (bx + 1) #[.int .i64 Y.1.head, .slice k3 Y.1.kids.length (Y.1.kids.length + s3), .int .i64 Y.2.head, .slice k4 Y.2.kids.length (Y.2.kids.length + s4)] 134, .box (bx + 2) #[.int .i64 A.head, .slice k5 A.kids.length (A.kids.length + s5)] 38, .box (bx + 3) #[.int .i64 0, .slice none 0 0, .int .i64 0, .slice none 0 0] 100, .rowE treeE (fun c => w1.heap.size ≤ c ∧ c < bm) (some ⟨g, 0, none⟩) L, .mapI bm [], .treeP (fun b => (b < w4.heap.size ∧ b ≠ bm) ∨ (w4.heap.size ≤ b ∧ b < w5.heap.size)) (.agg #[.int .i64 P0.head, .slice k7 P0.kids.length (P0.kids.length + s7)]) P0] := S5.pick [0, 1, 2, 3, 4, 5, 7]
    refine (S5.madeM 5 rfl (by have := HBM.out; simp only [offs, offAll, Fct.box, Fct.rowE, Fct.treeP, and_true]; omega) (termG P0 (fun b => (b < w4.heap.size ∧ b ≠ bm) ∨ (w4.heap.size ≤ b ∧ b < w5.heap.size)) w w5 bm _ [] (fun c h => by omega) (by have := HBM.out; have := HBX.out; omega) (S5.treeP 6) (S5.pick [5]) HTA.out.2.2.2.1.hd (by have := HTA.out.2.2.2.1.size; simp; omega))).mono ?_
    rintro e w6 ⟨u1, v1, rfl, z6, S6⟩
    clear S5
    obtain ⟨P, hP⟩ : ∃ P, P = P0.ren (P0.order []) := ⟨_, rfl⟩
    rw [← hP] at S6 ⊢
    have HPE := Lib.hid hP
    clear hP
    obtain ⟨O, hO⟩ : ∃ O, O = P0.order [] := ⟨_, rfl⟩
    rw [← hO] at S6
    have HO := Lib.hid hO
    clear hO
    obtain ⟨b15, hb15⟩ : ∃ b, b = w6.heap.size := ⟨_, rfl⟩
    have S6 : St w w6 [.box bx #[.int .i64 X.1.head, .slice k1 X.1.kids.length (X.1.kids.length + s1), .int .i64 X.2.head, .slice k2 X.2.kids.length (X.2.kids.length + s2)] 134, .box (bx + 1) #[.int .i64 Y.1.head, .slice k3 Y.1.kids.length (Y.1.kids.length + s3), .int .i64 Y.2.head, .slice k4 Y.2.kids.length (Y.2.kids.length + s4)] 134, .box (bx + 2) #[.int .i64 A.head, .slice k5 A.kids.length (A.kids.length + s5)] 38, .box (bx + 3) #[.int .i64 0, .slice none 0 0, .int .i64 0, .slice none 0 0] 100, .rowE treeE (fun c => w1.heap.size ≤ c ∧ c < bm) (some ⟨g, 0, none⟩) L, .mapI bm O, .tree w5.heap.size w6.heap.size (.agg #[.int .i64 P.head, .slice u1 P.kids.length (P.kids.length + v1)]) P] := S6.pick [0, 1, 2, 3, 4, 5, 7]
    have S7 := S6.box hb15.symm #[.int .i64 P.head, .slice u1 P.kids.length (P.kids.length + v1)] 38
    have hsz7 : (w6.alloc (.cells #[.int .i64 P.head, .slice u1 P.kids.length (P.kids.length + v1)] 38)).heap.size = b15 + 1 := by simp [hb15]
    have HB15 := Lib.hid (show w4.heap.size ≤ w5.heap.size ∧ w5.heap.size ≤ b15 ∧ bm + 1 ≤ w4.heap.size ∧ w6.heap.size ≤ b15 by omega)
    obtain ⟨_, _, ⟨x2, _⟩, x3, _⟩ := S7.fourP 0
    clear S6
    go_wp2_with fail
    rw [← hb15]
    refine S7.gen (z := b15 + 1) (by omega) ?_
    intro w7 z7 S
    clear S7 hsz7 hb15 x2 x3 z4 z5 z6
    refine (S.madeP (apply45 L X.2 (fun b => b < w7.heap.size ∧ b ≠ bm) _ _ _ w7 (fun b h => h.1) (by have := HN.out; omega) ((H2.out.kept S.bel).mono (fun b h h2 => ⟨h2, by have := HP.out b h; have := HBX.out; have := HBM.out; omega⟩)) ((S.rowE treeE 4).rowP.mono (fun b h h2 => ⟨h2, by omega⟩)) HTA.out.2.2.1 (by have := (ok_okg HOK.out.x2).2; omega) (fun i hi => by have := HTA.out.2.2.2.2.2 i hi; omega))).mono ?_
    rintro e w8 ⟨k8, s8, rfl, z8, hb8, S8⟩
    clear S hb8
    obtain ⟨Q0, hQ0⟩ : ∃ Q0, Q0 = X.2.sub L := ⟨_, rfl⟩
    rw [← hQ0] at HTA HR S8 ⊢
    have HQ0 := Lib.hid hQ0
    clear hQ0
    go_wp2_with fail
    have S8 : St w w8 [.box bx #[.int .i64 X.1.head, .slice k1 X.1.kids.length (X.1.kids.length + s1), .int .i64 X.2.head, .slice k2 X.2.kids.length (X.2.kids.length + s2)] 134, .box (bx + 1) #[.int .i64 Y.1.head, .slice k3 Y.1.kids.length (Y.1.kids.length + s3), .int .i64 Y.2.head, .slice k4 Y.2.kids.length (Y.2.kids.length + s4)] 134, .box (bx + 2) #[.int .i64 A.head, .slice k5 A.kids.length (A.kids.length + s5)] 38, .box (bx + 3) #[.int .i64 0, .slice none 0 0, .int .i64 0, .slice none 0 0] 100, .mapI bm O, .tree w5.heap.size w6.heap.size (.agg #[.int .i64 P.head, .slice u1 P.kids.length (P.kids.length + v1)]) P, .box b15 #[.int .i64 P.head, .slice u1 P.kids.length (P.kids.length + v1)] 38, .treeP (fun b => (b < w7.heap.size ∧ b ≠ bm) ∨ (w7.heap.size ≤ b ∧ b < w8.heap.size)) (.agg #[.int .i64 Q0.head, .slice k8 Q0.kids.length (Q0.kids.length + s8)]) Q0] := S8.pick [0, 1, 2, 3, 5, 6, 7, 8]
    refine (S8.madeM 4 rfl (by have := HBM.out; have := HB15.out; simp only [offs, offAll, Fct.box, Fct.tree, Fct.treeP, and_true]; omega) (termG Q0 (fun b => (b < w7.heap.size ∧ b ≠ bm) ∨ (w7.heap.size ≤ b ∧ b < w8.heap.size)) w w8 bm _ O (fun c h => by have := HB15.out; omega) (by have := HBM.out; have := HBX.out; omega) (S8.treeP 7) (S8.pick [4]) HTA.out.2.2.2.2.1.hd (by have := HTA.out.2.2.2.2.1.size; have := HTA.out.2.2.2.1.size; have h9 := T.order_length P0 []; rw [← HO.out] at h9; simp at h9; omega))).mono ?_
    rintro e w9 ⟨u2, v2, rfl, z9, S9⟩
    clear S8
    obtain ⟨Q, hQ⟩ : ∃ Q, Q = Q0.ren (Q0.order O) := ⟨_, rfl⟩
    rw [← hQ] at S9 ⊢
    have HRR := Lib.hid (show pairF X Y at_ A = if (treeF P).1 = 0 ∧ (treeF Q).1 = 0 then some (some (P, Q)) else none from HR.out P Q (by rw [HPE.out]; exact (npair_ren HTA.out.2.2.2.1.lv HTA.out.2.2.2.2.1.lv).1) (by rw [hQ, HO.out]; exact (npair_ren HTA.out.2.2.2.1.lv HTA.out.2.2.2.2.1.lv).2))
    clear hQ
    obtain ⟨b16, hb16⟩ : ∃ b, b = w9.heap.size := ⟨_, rfl⟩
    have S9 : St w w9 [.box (bx + 3) #[.int .i64 0, .slice none 0 0, .int .i64 0, .slice none 0 0] 100, .tree w5.heap.size w6.heap.size (.agg #[.int .i64 P.head, .slice u1 P.kids.length (P.kids.length + v1)]) P, .box b15 #[.int .i64 P.head, .slice u1 P.kids.length (P.kids.length + v1)] 38, .tree w8.heap.size w9.heap.size (.agg #[.int .i64 Q.head, .slice u2 Q.kids.length (Q.kids.length + v2)]) Q] := S9.pick [3, 5, 6, 8]
    have S10 := S9.box hb16.symm #[.int .i64 Q.head, .slice u2 Q.kids.length (Q.kids.length + v2)] 38
    have hsz10 : b16 + 1 ≤ (w9.alloc (.cells #[.int .i64 Q.head, .slice u2 Q.kids.length (Q.kids.length + v2)] 38)).heap.size := by simp [hb16]
    have HB16 := Lib.hid (show b15 + 1 ≤ w8.heap.size ∧ w8.heap.size ≤ b16 by omega)
    clear S9
    go_upto_region 7 with fail
    rw [← hb16]
    refine S10.genC (z := b16 + 1) hsz10 ?_
    intro w10 z10 S
    clear S10 hsz10 hb16 z8 z9 z7
    have hw6 : w.heap.size ≤ w5.heap.size := by have := HB15.out; have := HBM.out; have := HBX.out; omega
    have HW8 := Lib.hid (show w.heap.size ≤ w5.heap.size ∧ w.heap.size ≤ w8.heap.size by have := HB16.out; have := HB15.out; omega)
    clear hw6
    have FC := Lib.hid (show ∀ (W : World), Below w10.heap.size w10 W → (W.cell? ⟨b15, 0, none⟩ = some (.int .i64 P.head) ∧ W.cell? ⟨b15, 1, none⟩ = some (.slice u1 P.kids.length (P.kids.length + v1)) ∧ W.cell? ⟨b16, 0, none⟩ = some (.int .i64 Q.head) ∧ W.cell? ⟨b16, 1, none⟩ = some (.slice u2 Q.kids.length (Q.kids.length + v2))) from fun W h => ⟨Below.cellOf h (S.two 2).1.1, Below.cellOf h (S.two 2).2.1, Below.cellOf h (S.two 4).1.1, Below.cellOf h (S.two 4).2.1⟩)
    have SD := Lib.hid S.drew
    have HTP := Lib.hid (show ∀ W, Below w10.heap.size w10 W → TreeAt W (.agg #[.int .i64 P.head, .slice u1 P.kids.length (P.kids.length + v1)]) P ∧ TreeAt W (.agg #[.int .i64 Q.head, .slice u2 Q.kids.length (Q.kids.length + v2)]) Q from fun W h => ⟨(S.tree 1).at.kept h, (S.tree 3).at.kept h⟩)
    clear S
    obtain ⟨c, d, hcd⟩ : ∃ c d, treeF P = (c, d) := ⟨_, _, rfl⟩
    obtain ⟨c2, d2, hcd2⟩ : ∃ c d, treeF Q = (c, d) := ⟨_, _, rfl⟩
    have HCP := Lib.hid hcd; have HCQ := Lib.hid hcd2
    rw [hcd, hcd2] at HRR
    clear hcd hcd2
    dsimp only at HRR
    by_cases hc0 : c = 0
    · subst hc0
      by_cases hc2 : c2 = 0
      · subst hc2
        have HRZ : Hid (pairF X Y at_ A = some (some (P, Q))) := Lib.hid (HRR.out.trans (if_pos ⟨rfl, rfl⟩))
        refine wpH_region [] (fun W => W.cell? ⟨b15, 0, none⟩ = some (.int .i64 P.head) ∧ W.cell? ⟨b15, 1, none⟩ = some (.slice u1 P.kids.length (P.kids.length + v1)) ∧ W.cell? ⟨b16, 0, none⟩ = some (.int .i64 Q.head) ∧ W.cell? ⟨b16, 1, none⟩ = some (.slice u2 Q.kids.length (Q.kids.length + v2))) (by kernel_rfl) ?_
        have HS := FC.out _ (Below.refl _ w10).drew
        refine wpH.take (i := 0) (by kernel_rfl) (by kernel_rfl) (by kernel_rfl) (by kernel_rfl) (by kernel_rfl) HS ?_
        intro oi ho
        simp only [List.getElem?_toArray, List.getElem?_cons_zero, Option.some.injEq] at ho
        subst ho
        refine ⟨?_, Or.inl ⟨by rfl, ?_⟩, fun _ _ _ h => h, ?_⟩
        rotate_left 1
        · intro W hW
          try dsimp only at hW
          go_simp
          try with_reducible rfl
        simp only [Act.put, List.setIfInBounds_toArray, List.set_cons_zero, List.set_cons_succ]
        refine wpH.take (i := 1) (by kernel_rfl) (by kernel_rfl) (by kernel_rfl) (by kernel_rfl) (by kernel_rfl) HS ?_
        intro oi ho
        simp only [List.getElem?_toArray, List.getElem?_cons_succ, List.getElem?_cons_zero, Option.some.injEq] at ho
        subst ho
        refine ⟨?_, Or.inl ⟨by rfl, ?_⟩, fun _ _ _ h => h, ?_⟩
        rotate_left 1
        · intro W hW
          try dsimp only at hW
          go_simp
          try with_reducible rfl
        simp only [Act.put, List.setIfInBounds_toArray, List.set_cons_zero, List.set_cons_succ]
        refine wpH.take (i := 2) (by kernel_rfl) (by kernel_rfl) (by kernel_rfl) (by kernel_rfl) (by kernel_rfl) HS ?_
        intro oi ho
        simp only [List.getElem?_toArray, List.getElem?_cons_succ, List.getElem?_cons_zero, Option.some.injEq] at ho
        subst ho
        refine ⟨?_, Or.inl ⟨by rfl, ?_⟩, fun _ _ _ h => h, ?_⟩
        rotate_left 1
        · intro W hW
          try dsimp only at hW
          go_simp
          try with_reducible rfl
        simp only [Act.put, List.setIfInBounds_toArray, List.set_cons_zero, List.set_cons_succ]
        refine wpH.take (i := 3) (by kernel_rfl) (by kernel_rfl) (by kernel_rfl) (by kernel_rfl) (by kernel_rfl) HS ?_
        intro oi ho
        simp only [List.getElem?_toArray, List.getElem?_cons_succ, List.getElem?_cons_zero, Option.some.injEq] at ho
        subst ho
        refine ⟨?_, Or.inl ⟨by rfl, ?_⟩, fun _ _ _ h => h, ?_⟩
        rotate_left 1
        · intro W hW
          try dsimp only at hW
          go_simp
          try with_reducible rfl
        simp only [Act.put, List.setIfInBounds_toArray, List.set_cons_zero, List.set_cons_succ]
        refine wpH.one (i := 4) (by kernel_rfl) ?_
        intro oi ho
        simp only [List.getElem?_toArray, List.getElem?_cons_succ, List.getElem?_cons_zero, Option.some.injEq] at ho
        subst ho
        intro K hK
        have HK := Lib.hid hK
        clear hK
        go_simp
        go_at_call 83
        refine (check29 P _ _ (HTP.out _ (Below.refl _ w10).drew).1).mono ?_
        rintro e w11 ⟨rfl, hb11⟩
        have S11 := Lib.hid (SD.out.step hb11)
        have HB11 := Lib.hid (Below.step (Below.refl _ w10).drew hb11)
        clear hb11
        rw [HCP.out]
        dsimp only [FV]
        refine HK.out _ _ (fun _ => FC.out _ HB11.out) ?_
        have HS := FC.out _ HB11.out
        try simp only [Act.put, List.setIfInBounds_toArray, List.set_cons_zero, List.set_cons_succ]
        refine wpH.take (i := 5) (by kernel_rfl) (by kernel_rfl) (by kernel_rfl) (by kernel_rfl) (by kernel_rfl) HS ?_
        intro oi ho
        simp only [List.getElem?_toArray, List.getElem?_cons_succ, List.getElem?_cons_zero, Option.some.injEq] at ho
        subst ho
        refine ⟨?_, Or.inl ⟨by rfl, ?_⟩, fun _ _ _ h => h, ?_⟩
        rotate_left 1
        · intro W hW
          try dsimp only at hW
          go_simp
          rw [field28_0]
          rfl
        simp only [Act.put, List.setIfInBounds_toArray, List.set_cons_zero, List.set_cons_succ]
        refine wpH.take (i := 6) (by kernel_rfl) (by kernel_rfl) (by kernel_rfl) (by kernel_rfl) (by kernel_rfl) HS ?_
        intro oi ho
        simp only [List.getElem?_toArray, List.getElem?_cons_succ, List.getElem?_cons_zero, Option.some.injEq] at ho
        subst ho
        refine ⟨?_, Or.inl ⟨by rfl, ?_⟩, fun _ _ _ h => h, ?_⟩
        rotate_left 1
        · intro W hW
          try dsimp only at hW
          go_simp
          try with_reducible rfl
        simp only [Act.put, List.setIfInBounds_toArray, List.set_cons_zero, List.set_cons_succ]
        refine wpH.take (i := 7) (by kernel_rfl) (by kernel_rfl) (by kernel_rfl) (by kernel_rfl) (by kernel_rfl) HS ?_
        intro oi ho
        simp only [List.getElem?_toArray, List.getElem?_cons_succ, List.getElem?_cons_zero, Option.some.injEq] at ho
        subst ho
        refine ⟨?_, Or.inl ⟨by rfl, ?_⟩, fun _ _ _ h => h, ?_⟩
        rotate_left 1
        · intro W hW
          try dsimp only at hW
          go_simp
          try with_reducible rfl
        simp only [Act.put, List.setIfInBounds_toArray, List.set_cons_zero, List.set_cons_succ]
        refine wpH.take (i := 8) (by kernel_rfl) (by kernel_rfl) (by kernel_rfl) (by kernel_rfl) (by kernel_rfl) HS ?_
        intro oi ho
        simp only [List.getElem?_toArray, List.getElem?_cons_succ, List.getElem?_cons_zero, Option.some.injEq] at ho
        subst ho
        refine ⟨?_, Or.inl ⟨by rfl, ?_⟩, fun _ _ _ h => h, ?_⟩
        rotate_left 1
        · intro W hW
          try dsimp only at hW
          go_simp
          try with_reducible rfl
        simp only [Act.put, List.setIfInBounds_toArray, List.set_cons_zero, List.set_cons_succ]
        refine wpH.one (i := 9) (by kernel_rfl) ?_
        intro oi ho
        simp only [List.getElem?_toArray, List.getElem?_cons_succ, List.getElem?_cons_zero, Option.some.injEq] at ho
        subst ho
        intro K hK
        have HK := Lib.hid hK
        clear hK
        go_simp
        go_at_call 83
        refine (check29 Q _ _ (HTP.out _ HB11.out).2).mono ?_
        rintro e w12 ⟨rfl, hb12⟩
        have S12 := Lib.hid (S11.out.step hb12)
        have HB12 := Lib.hid (Below.step HB11.out hb12)
        clear hb12
        rw [HCQ.out]
        dsimp only [FV]
        refine HK.out _ _ (fun _ => FC.out _ HB12.out) ?_
        have HS := FC.out _ HB12.out
        try simp only [Act.put, List.setIfInBounds_toArray, List.set_cons_zero, List.set_cons_succ]
        refine wpH.take (i := 10) (by kernel_rfl) (by kernel_rfl) (by kernel_rfl) (by kernel_rfl) (by kernel_rfl) HS ?_
        intro oi ho
        simp only [List.getElem?_toArray, List.getElem?_cons_succ, List.getElem?_cons_zero, Option.some.injEq] at ho
        subst ho
        refine ⟨?_, Or.inl ⟨by rfl, ?_⟩, fun _ _ _ h => h, ?_⟩
        rotate_left 1
        · intro W hW
          try dsimp only at hW
          go_simp
          rw [field28_0]
          rfl
        simp only [Act.put, List.setIfInBounds_toArray, List.set_cons_zero, List.set_cons_succ]
        refine wpH.take (i := 11) (by kernel_rfl) (by kernel_rfl) (by kernel_rfl) (by kernel_rfl) (by kernel_rfl) HS ?_
        intro oi ho
        simp only [List.getElem?_toArray, List.getElem?_cons_succ, List.getElem?_cons_zero, Option.some.injEq] at ho
        subst ho
        refine ⟨?_, Or.inl ⟨by rfl, ?_⟩, fun _ _ _ h => h, ?_⟩
        rotate_left 1
        · intro W hW
          try dsimp only at hW
          go_simp
          try with_reducible rfl
        simp only [Act.put, List.setIfInBounds_toArray, List.set_cons_zero, List.set_cons_succ]
        refine wpH.take (i := 12) (by kernel_rfl) (by kernel_rfl) (by kernel_rfl) (by kernel_rfl) (by kernel_rfl) HS ?_
        intro oi ho
        simp only [List.getElem?_toArray, List.getElem?_cons_succ, List.getElem?_cons_zero, Option.some.injEq] at ho
        subst ho
        refine ⟨?_, Or.inl ⟨by rfl, ?_⟩, fun _ _ _ h => h, ?_⟩
        rotate_left 1
        · intro W hW
          try dsimp only at hW
          go_simp
          try with_reducible rfl
        simp only [Act.put, List.setIfInBounds_toArray, List.set_cons_zero, List.set_cons_succ]
        refine wpH.one (i := 13) (by kernel_rfl) ?_
        intro oi ho
        simp only [List.getElem?_toArray, List.getElem?_cons_succ, List.getElem?_cons_zero, Option.some.injEq] at ho
        subst ho
        intro K hK
        have HK := Lib.hid hK
        clear hK
        go_simp
        obtain ⟨⟨r0, r0f⟩, ⟨r1, r1f⟩, ⟨r2, r2f⟩, r3, r3f⟩ := S12.out.fourP 0
        have hl3 := S12.out.lt 0
        try go_simp
        have S13 := S12.out.set4 0 rfl (.int .i64 P.head) (.slice u1 P.kids.length (P.kids.length + v1)) (.int .i64 Q.head) (.slice u2 Q.kids.length (Q.kids.length + v2)) (by have := HBX.out; omega) (by have := HBM.out; have := HB15.out; have := HB16.out; simp only [fsnoc, offs, offAll, Fct.box, Fct.tree, and_true]; omega)
        have HS := (show _ ∧ _ ∧ _ ∧ _ from ⟨(S13.two 2).1.1, (S13.two 2).2.1, (S13.two 4).1.1, (S13.two 4).2.1⟩)
        refine HK.out _ _ (fun _ => HS) ?_
        try simp only [Act.put, List.setIfInBounds_toArray, List.set_cons_zero, List.set_cons_succ]
        refine wpH.one (i := 14) (by kernel_rfl) ?_
        intro oi ho
        simp only [List.getElem?_toArray, List.getElem?_cons_succ, List.getElem?_cons_zero, Option.some.injEq] at ho
        subst ho
        intro K hK
        have HK := Lib.hid hK
        clear hK
        go_simp
        refine HK.out _ _ (fun _ => HS) ?_
        try simp only [Act.put, List.setIfInBounds_toArray, List.set_cons_zero, List.set_cons_succ]
        refine wpH.one (i := 15) (by kernel_rfl) ?_
        intro oi ho
        simp only [List.getElem?_toArray, List.getElem?_cons_succ, List.getElem?_cons_zero, Option.some.injEq] at ho
        subst ho
        intro K hK
        have HK := Lib.hid hK
        clear hK
        go_simp
        refine HK.out _ _ (fun _ => HS) ?_
        try simp only [Act.put, List.setIfInBounds_toArray, List.set_cons_zero, List.set_cons_succ]
        refine wpH.done (by kernel_rfl) ?_
        have SF := Lib.hid S13
        clear S13 HS
        try go_wp2_with fail
        refine ret_box4 (.int .i64 P.head) (.slice u1 P.kids.length (P.kids.length + v1)) (.int .i64 Q.head) (.slice u2 Q.kids.length (Q.kids.length + v2)) (.bool true) (.bool true) (bx + 3) 100 (SF.out.block 0) (fun w' q0 q1 q2 q3 => by simp [results, Try.results101, go_sem, q0, q1, q2, q3]) rfl ?_
        exact ⟨P, Q, u1, u2, v1, v2, true, true, rfl, .inr (.inr ⟨rfl, rfl, HRZ.out⟩), (SF.out.tree 1).mono (fun b h _ => by have := HW8.out; omega), (SF.out.tree 3).mono (fun b h _ => by have := HW8.out; omega), SF.out.bel⟩
      · have hcb : (c2 == 0) = false := by simp [hc2]
        have HRZ : Hid (pairF X Y at_ A = none) := Lib.hid (HRR.out.trans (if_neg (fun h => hc2 h.2)))
        clear hc2
        refine wpH_region [] (fun W => W.cell? ⟨b15, 0, none⟩ = some (.int .i64 P.head) ∧ W.cell? ⟨b15, 1, none⟩ = some (.slice u1 P.kids.length (P.kids.length + v1)) ∧ W.cell? ⟨b16, 0, none⟩ = some (.int .i64 Q.head) ∧ W.cell? ⟨b16, 1, none⟩ = some (.slice u2 Q.kids.length (Q.kids.length + v2))) (by kernel_rfl) ?_
        have HS := FC.out _ (Below.refl _ w10).drew
        refine wpH.take (i := 0) (by kernel_rfl) (by kernel_rfl) (by kernel_rfl) (by kernel_rfl) (by kernel_rfl) HS ?_
        intro oi ho
        simp only [List.getElem?_toArray, List.getElem?_cons_zero, Option.some.injEq] at ho
        subst ho
        refine ⟨?_, Or.inl ⟨by rfl, ?_⟩, fun _ _ _ h => h, ?_⟩
        rotate_left 1
        · intro W hW
          try dsimp only at hW
          go_simp
          try with_reducible rfl
        simp only [Act.put, List.setIfInBounds_toArray, List.set_cons_zero, List.set_cons_succ]
        refine wpH.take (i := 1) (by kernel_rfl) (by kernel_rfl) (by kernel_rfl) (by kernel_rfl) (by kernel_rfl) HS ?_
        intro oi ho
        simp only [List.getElem?_toArray, List.getElem?_cons_succ, List.getElem?_cons_zero, Option.some.injEq] at ho
        subst ho
        refine ⟨?_, Or.inl ⟨by rfl, ?_⟩, fun _ _ _ h => h, ?_⟩
        rotate_left 1
        · intro W hW
          try dsimp only at hW
          go_simp
          try with_reducible rfl
        simp only [Act.put, List.setIfInBounds_toArray, List.set_cons_zero, List.set_cons_succ]
        refine wpH.take (i := 2) (by kernel_rfl) (by kernel_rfl) (by kernel_rfl) (by kernel_rfl) (by kernel_rfl) HS ?_
        intro oi ho
        simp only [List.getElem?_toArray, List.getElem?_cons_succ, List.getElem?_cons_zero, Option.some.injEq] at ho
        subst ho
        refine ⟨?_, Or.inl ⟨by rfl, ?_⟩, fun _ _ _ h => h, ?_⟩
        rotate_left 1
        · intro W hW
          try dsimp only at hW
          go_simp
          try with_reducible rfl
        simp only [Act.put, List.setIfInBounds_toArray, List.set_cons_zero, List.set_cons_succ]
        refine wpH.take (i := 3) (by kernel_rfl) (by kernel_rfl) (by kernel_rfl) (by kernel_rfl) (by kernel_rfl) HS ?_
        intro oi ho
        simp only [List.getElem?_toArray, List.getElem?_cons_succ, List.getElem?_cons_zero, Option.some.injEq] at ho
        subst ho
        refine ⟨?_, Or.inl ⟨by rfl, ?_⟩, fun _ _ _ h => h, ?_⟩
        rotate_left 1
        · intro W hW
          try dsimp only at hW
          go_simp
          try with_reducible rfl
        simp only [Act.put, List.setIfInBounds_toArray, List.set_cons_zero, List.set_cons_succ]
        refine wpH.one (i := 4) (by kernel_rfl) ?_
        intro oi ho
        simp only [List.getElem?_toArray, List.getElem?_cons_succ, List.getElem?_cons_zero, Option.some.injEq] at ho
        subst ho
        intro K hK
        have HK := Lib.hid hK
        clear hK
        go_simp
        go_at_call 83
        refine (check29 P _ _ (HTP.out _ (Below.refl _ w10).drew).1).mono ?_
        rintro e w11 ⟨rfl, hb11⟩
        have S11 := Lib.hid (SD.out.step hb11)
        have HB11 := Lib.hid (Below.step (Below.refl _ w10).drew hb11)
        clear hb11
        rw [HCP.out]
        dsimp only [FV]
        refine HK.out _ _ (fun _ => FC.out _ HB11.out) ?_
        have HS := FC.out _ HB11.out
        try simp only [Act.put, List.setIfInBounds_toArray, List.set_cons_zero, List.set_cons_succ]
        refine wpH.take (i := 5) (by kernel_rfl) (by kernel_rfl) (by kernel_rfl) (by kernel_rfl) (by kernel_rfl) HS ?_
        intro oi ho
        simp only [List.getElem?_toArray, List.getElem?_cons_succ, List.getElem?_cons_zero, Option.some.injEq] at ho
        subst ho
        refine ⟨?_, Or.inl ⟨by rfl, ?_⟩, fun _ _ _ h => h, ?_⟩
        rotate_left 1
        · intro W hW
          try dsimp only at hW
          go_simp
          rw [field28_0]
          rfl
        simp only [Act.put, List.setIfInBounds_toArray, List.set_cons_zero, List.set_cons_succ]
        refine wpH.take (i := 6) (by kernel_rfl) (by kernel_rfl) (by kernel_rfl) (by kernel_rfl) (by kernel_rfl) HS ?_
        intro oi ho
        simp only [List.getElem?_toArray, List.getElem?_cons_succ, List.getElem?_cons_zero, Option.some.injEq] at ho
        subst ho
        refine ⟨?_, Or.inl ⟨by rfl, ?_⟩, fun _ _ _ h => h, ?_⟩
        rotate_left 1
        · intro W hW
          try dsimp only at hW
          go_simp
          try with_reducible rfl
        simp only [Act.put, List.setIfInBounds_toArray, List.set_cons_zero, List.set_cons_succ]
        refine wpH.take (i := 7) (by kernel_rfl) (by kernel_rfl) (by kernel_rfl) (by kernel_rfl) (by kernel_rfl) HS ?_
        intro oi ho
        simp only [List.getElem?_toArray, List.getElem?_cons_succ, List.getElem?_cons_zero, Option.some.injEq] at ho
        subst ho
        refine ⟨?_, Or.inl ⟨by rfl, ?_⟩, fun _ _ _ h => h, ?_⟩
        rotate_left 1
        · intro W hW
          try dsimp only at hW
          go_simp
          try with_reducible rfl
        simp only [Act.put, List.setIfInBounds_toArray, List.set_cons_zero, List.set_cons_succ]
        refine wpH.take (i := 8) (by kernel_rfl) (by kernel_rfl) (by kernel_rfl) (by kernel_rfl) (by kernel_rfl) HS ?_
        intro oi ho
        simp only [List.getElem?_toArray, List.getElem?_cons_succ, List.getElem?_cons_zero, Option.some.injEq] at ho
        subst ho
        refine ⟨?_, Or.inl ⟨by rfl, ?_⟩, fun _ _ _ h => h, ?_⟩
        rotate_left 1
        · intro W hW
          try dsimp only at hW
          go_simp
          try with_reducible rfl
        simp only [Act.put, List.setIfInBounds_toArray, List.set_cons_zero, List.set_cons_succ]
        refine wpH.one (i := 9) (by kernel_rfl) ?_
        intro oi ho
        simp only [List.getElem?_toArray, List.getElem?_cons_succ, List.getElem?_cons_zero, Option.some.injEq] at ho
        subst ho
        intro K hK
        have HK := Lib.hid hK
        clear hK
        go_simp
        go_at_call 83
        refine (check29 Q _ _ (HTP.out _ HB11.out).2).mono ?_
        rintro e w12 ⟨rfl, hb12⟩
        have S12 := Lib.hid (S11.out.step hb12)
        have HB12 := Lib.hid (Below.step HB11.out hb12)
        clear hb12
        rw [HCQ.out]
        dsimp only [FV]
        refine HK.out _ _ (fun _ => FC.out _ HB12.out) ?_
        have HS := FC.out _ HB12.out
        try simp only [Act.put, List.setIfInBounds_toArray, List.set_cons_zero, List.set_cons_succ]
        refine wpH.take (i := 10) (by kernel_rfl) (by kernel_rfl) (by kernel_rfl) (by kernel_rfl) (by kernel_rfl) HS ?_
        intro oi ho
        simp only [List.getElem?_toArray, List.getElem?_cons_succ, List.getElem?_cons_zero, Option.some.injEq] at ho
        subst ho
        refine ⟨?_, Or.inl ⟨by rfl, ?_⟩, fun _ _ _ h => h, ?_⟩
        rotate_left 1
        · intro W hW
          try dsimp only at hW
          go_simp
          rw [field28_0]
          rfl
        simp only [Act.put, List.setIfInBounds_toArray, List.set_cons_zero, List.set_cons_succ]
        refine wpH.take (i := 11) (by kernel_rfl) (by kernel_rfl) (by kernel_rfl) (by kernel_rfl) (by kernel_rfl) HS ?_
        intro oi ho
        simp only [List.getElem?_toArray, List.getElem?_cons_succ, List.getElem?_cons_zero, Option.some.injEq] at ho
        subst ho
        refine ⟨?_, Or.inl ⟨by rfl, ?_⟩, fun _ _ _ h => h, ?_⟩
        rotate_left 1
        · intro W hW
          try dsimp only at hW
          go_simp
          try with_reducible rfl
        simp only [Act.put, List.setIfInBounds_toArray, List.set_cons_zero, List.set_cons_succ]
        refine wpH.take (i := 12) (by kernel_rfl) (by kernel_rfl) (by kernel_rfl) (by kernel_rfl) (by kernel_rfl) HS ?_
        intro oi ho
        simp only [List.getElem?_toArray, List.getElem?_cons_succ, List.getElem?_cons_zero, Option.some.injEq] at ho
        subst ho
        refine ⟨?_, Or.inl ⟨by rfl, ?_⟩, fun _ _ _ h => h, ?_⟩
        rotate_left 1
        · intro W hW
          try dsimp only at hW
          go_simp
          try with_reducible rfl
        simp only [Act.put, List.setIfInBounds_toArray, List.set_cons_zero, List.set_cons_succ]
        refine wpH.one (i := 13) (by kernel_rfl) ?_
        intro oi ho
        simp only [List.getElem?_toArray, List.getElem?_cons_succ, List.getElem?_cons_zero, Option.some.injEq] at ho
        subst ho
        intro K hK
        have HK := Lib.hid hK
        clear hK
        go_simp
        obtain ⟨⟨r0, r0f⟩, ⟨r1, r1f⟩, ⟨r2, r2f⟩, r3, r3f⟩ := S12.out.fourP 0
        have hl3 := S12.out.lt 0
        try go_simp
        have S13 := S12.out.set4 0 rfl (.int .i64 P.head) (.slice u1 P.kids.length (P.kids.length + v1)) (.int .i64 Q.head) (.slice u2 Q.kids.length (Q.kids.length + v2)) (by have := HBX.out; omega) (by have := HBM.out; have := HB15.out; have := HB16.out; simp only [fsnoc, offs, offAll, Fct.box, Fct.tree, and_true]; omega)
        have HS := (show _ ∧ _ ∧ _ ∧ _ from ⟨(S13.two 2).1.1, (S13.two 2).2.1, (S13.two 4).1.1, (S13.two 4).2.1⟩)
        refine HK.out _ _ (fun _ => HS) ?_
        try simp only [Act.put, List.setIfInBounds_toArray, List.set_cons_zero, List.set_cons_succ]
        refine wpH.one (i := 14) (by kernel_rfl) ?_
        intro oi ho
        simp only [List.getElem?_toArray, List.getElem?_cons_succ, List.getElem?_cons_zero, Option.some.injEq] at ho
        subst ho
        intro K hK
        have HK := Lib.hid hK
        clear hK
        go_simp
        refine HK.out _ _ (fun _ => HS) ?_
        try simp only [Act.put, List.setIfInBounds_toArray, List.set_cons_zero, List.set_cons_succ]
        refine wpH.one (i := 15) (by kernel_rfl) ?_
        intro oi ho
        simp only [List.getElem?_toArray, List.getElem?_cons_succ, List.getElem?_cons_zero, Option.some.injEq] at ho
        subst ho
        intro K hK
        have HK := Lib.hid hK
        clear hK
        go_simp
        refine HK.out _ _ (fun _ => HS) ?_
        try simp only [Act.put, List.setIfInBounds_toArray, List.set_cons_zero, List.set_cons_succ]
        refine wpH.done (by kernel_rfl) ?_
        have SF := Lib.hid S13
        clear S13 HS
        try go_wp2_with fail
        refine ret_box4 (.int .i64 P.head) (.slice u1 P.kids.length (P.kids.length + v1)) (.int .i64 Q.head) (.slice u2 Q.kids.length (Q.kids.length + v2)) (.bool true) (.bool false) (bx + 3) 100 (SF.out.block 0) (fun w' q0 q1 q2 q3 => by simp [results, Try.results101, go_sem, q0, q1, q2, q3]) rfl ?_
        exact ⟨P, Q, u1, u2, v1, v2, true, false, rfl, .inl ⟨rfl, HRZ.out⟩, (SF.out.tree 1).mono (fun b h _ => by have := HW8.out; omega), (SF.out.tree 3).mono (fun b h _ => by have := HW8.out; omega), SF.out.bel⟩
    · have hcb : (c == 0) = false := by simp [hc0]
      have HRZ : Hid (pairF X Y at_ A = none) := Lib.hid (HRR.out.trans (if_neg (fun h => hc0 h.1)))
      clear hc0
      refine wpH_region [] (fun W => W.cell? ⟨b15, 0, none⟩ = some (.int .i64 P.head) ∧ W.cell? ⟨b15, 1, none⟩ = some (.slice u1 P.kids.length (P.kids.length + v1)) ∧ W.cell? ⟨b16, 0, none⟩ = some (.int .i64 Q.head) ∧ W.cell? ⟨b16, 1, none⟩ = some (.slice u2 Q.kids.length (Q.kids.length + v2))) (by kernel_rfl) ?_
      have HS := FC.out _ (Below.refl _ w10).drew
      refine wpH.take (i := 0) (by kernel_rfl) (by kernel_rfl) (by kernel_rfl) (by kernel_rfl) (by kernel_rfl) HS ?_
      intro oi ho
      simp only [List.getElem?_toArray, List.getElem?_cons_zero, Option.some.injEq] at ho
      subst ho
      refine ⟨?_, Or.inl ⟨by rfl, ?_⟩, fun _ _ _ h => h, ?_⟩
      rotate_left 1
      · intro W hW
        try dsimp only at hW
        go_simp
        try with_reducible rfl
      simp only [Act.put, List.setIfInBounds_toArray, List.set_cons_zero, List.set_cons_succ]
      refine wpH.take (i := 1) (by kernel_rfl) (by kernel_rfl) (by kernel_rfl) (by kernel_rfl) (by kernel_rfl) HS ?_
      intro oi ho
      simp only [List.getElem?_toArray, List.getElem?_cons_succ, List.getElem?_cons_zero, Option.some.injEq] at ho
      subst ho
      refine ⟨?_, Or.inl ⟨by rfl, ?_⟩, fun _ _ _ h => h, ?_⟩
      rotate_left 1
      · intro W hW
        try dsimp only at hW
        go_simp
        try with_reducible rfl
      simp only [Act.put, List.setIfInBounds_toArray, List.set_cons_zero, List.set_cons_succ]
      refine wpH.take (i := 2) (by kernel_rfl) (by kernel_rfl) (by kernel_rfl) (by kernel_rfl) (by kernel_rfl) HS ?_
      intro oi ho
      simp only [List.getElem?_toArray, List.getElem?_cons_succ, List.getElem?_cons_zero, Option.some.injEq] at ho
      subst ho
      refine ⟨?_, Or.inl ⟨by rfl, ?_⟩, fun _ _ _ h => h, ?_⟩
      rotate_left 1
      · intro W hW
        try dsimp only at hW
        go_simp
        try with_reducible rfl
      simp only [Act.put, List.setIfInBounds_toArray, List.set_cons_zero, List.set_cons_succ]
      refine wpH.take (i := 3) (by kernel_rfl) (by kernel_rfl) (by kernel_rfl) (by kernel_rfl) (by kernel_rfl) HS ?_
      intro oi ho
      simp only [List.getElem?_toArray, List.getElem?_cons_succ, List.getElem?_cons_zero, Option.some.injEq] at ho
      subst ho
      refine ⟨?_, Or.inl ⟨by rfl, ?_⟩, fun _ _ _ h => h, ?_⟩
      rotate_left 1
      · intro W hW
        try dsimp only at hW
        go_simp
        try with_reducible rfl
      simp only [Act.put, List.setIfInBounds_toArray, List.set_cons_zero, List.set_cons_succ]
      refine wpH.one (i := 4) (by kernel_rfl) ?_
      intro oi ho
      simp only [List.getElem?_toArray, List.getElem?_cons_succ, List.getElem?_cons_zero, Option.some.injEq] at ho
      subst ho
      intro K hK
      have HK := Lib.hid hK
      clear hK
      go_simp
      go_at_call 83
      refine (check29 P _ _ (HTP.out _ (Below.refl _ w10).drew).1).mono ?_
      rintro e w11 ⟨rfl, hb11⟩
      have S11 := Lib.hid (SD.out.step hb11)
      have HB11 := Lib.hid (Below.step (Below.refl _ w10).drew hb11)
      clear hb11
      rw [HCP.out]
      dsimp only [FV]
      refine HK.out _ _ (fun _ => FC.out _ HB11.out) ?_
      have HS := FC.out _ HB11.out
      try simp only [Act.put, List.setIfInBounds_toArray, List.set_cons_zero, List.set_cons_succ]
      refine wpH.take (i := 5) (by kernel_rfl) (by kernel_rfl) (by kernel_rfl) (by kernel_rfl) (by kernel_rfl) HS ?_
      intro oi ho
      simp only [List.getElem?_toArray, List.getElem?_cons_succ, List.getElem?_cons_zero, Option.some.injEq] at ho
      subst ho
      refine ⟨?_, Or.inl ⟨by rfl, ?_⟩, fun _ _ _ h => h, ?_⟩
      rotate_left 1
      · intro W hW
        try dsimp only at hW
        go_simp
        rw [field28_0]
        rfl
      simp only [Act.put, List.setIfInBounds_toArray, List.set_cons_zero, List.set_cons_succ]
      refine wpH.take (i := 6) (by kernel_rfl) (by kernel_rfl) (by kernel_rfl) (by kernel_rfl) (by kernel_rfl) HS ?_
      intro oi ho
      simp only [List.getElem?_toArray, List.getElem?_cons_succ, List.getElem?_cons_zero, Option.some.injEq] at ho
      subst ho
      refine ⟨?_, Or.inl ⟨by rfl, ?_⟩, fun _ _ _ h => h, ?_⟩
      rotate_left 1
      · intro W hW
        try dsimp only at hW
        go_simp
        try with_reducible rfl
      simp only [Act.put, List.setIfInBounds_toArray, List.set_cons_zero, List.set_cons_succ]
      refine wpH.take (i := 7) (by kernel_rfl) (by kernel_rfl) (by kernel_rfl) (by kernel_rfl) (by kernel_rfl) HS ?_
      intro oi ho
      simp only [List.getElem?_toArray, List.getElem?_cons_succ, List.getElem?_cons_zero, Option.some.injEq] at ho
      subst ho
      refine ⟨?_, Or.inl ⟨by rfl, ?_⟩, fun _ _ _ h => h, ?_⟩
      rotate_left 1
      · intro W hW
        try dsimp only at hW
        go_simp
        try with_reducible rfl
      simp only [Act.put, List.setIfInBounds_toArray, List.set_cons_zero, List.set_cons_succ]
      refine wpH.one (i := 8) (by kernel_rfl) ?_
      intro oi ho
      simp only [List.getElem?_toArray, List.getElem?_cons_succ, List.getElem?_cons_zero, Option.some.injEq] at ho
      subst ho
      intro K hK
      have HK := Lib.hid hK
      clear hK
      go_simp
      refine HK.out _ _ (fun _ => HS) ?_
      try simp only [Act.put, List.setIfInBounds_toArray, List.set_cons_zero, List.set_cons_succ]
      refine wpH.one (i := 9) (by kernel_rfl) ?_
      intro oi ho
      simp only [List.getElem?_toArray, List.getElem?_cons_succ, List.getElem?_cons_zero, Option.some.injEq] at ho
      subst ho
      intro K hK
      have HK := Lib.hid hK
      clear hK
      go_simp
      refine HK.out _ _ (fun _ => HS) ?_
      try simp only [Act.put, List.setIfInBounds_toArray, List.set_cons_zero, List.set_cons_succ]
      refine wpH.take (i := 10) (by kernel_rfl) (by kernel_rfl) (by kernel_rfl) (by kernel_rfl) (by kernel_rfl) HS ?_
      intro oi ho
      simp only [List.getElem?_toArray, List.getElem?_cons_succ, List.getElem?_cons_zero, Option.some.injEq] at ho
      subst ho
      refine ⟨undef, Or.inr ⟨by rfl, by rfl⟩, fun _ _ _ h => h, ?_⟩
      simp only [Act.put, List.setIfInBounds_toArray, List.set_cons_zero, List.set_cons_succ]
      refine wpH.take (i := 11) (by kernel_rfl) (by kernel_rfl) (by kernel_rfl) (by kernel_rfl) (by kernel_rfl) HS ?_
      intro oi ho
      simp only [List.getElem?_toArray, List.getElem?_cons_succ, List.getElem?_cons_zero, Option.some.injEq] at ho
      subst ho
      refine ⟨undef, Or.inr ⟨by rfl, by rfl⟩, fun _ _ _ h => h, ?_⟩
      simp only [Act.put, List.setIfInBounds_toArray, List.set_cons_zero, List.set_cons_succ]
      refine wpH.take (i := 12) (by kernel_rfl) (by kernel_rfl) (by kernel_rfl) (by kernel_rfl) (by kernel_rfl) HS ?_
      intro oi ho
      simp only [List.getElem?_toArray, List.getElem?_cons_succ, List.getElem?_cons_zero, Option.some.injEq] at ho
      subst ho
      refine ⟨?_, Or.inl ⟨by rfl, ?_⟩, fun _ _ _ h => h, ?_⟩
      rotate_left 1
      · intro W hW
        try dsimp only at hW
        go_simp
        try with_reducible rfl
      simp only [Act.put, List.setIfInBounds_toArray, List.set_cons_zero, List.set_cons_succ]
      refine wpH.one (i := 13) (by kernel_rfl) ?_
      intro oi ho
      simp only [List.getElem?_toArray, List.getElem?_cons_succ, List.getElem?_cons_zero, Option.some.injEq] at ho
      subst ho
      intro K hK
      have HK := Lib.hid hK
      clear hK
      go_simp
      obtain ⟨⟨r0, r0f⟩, ⟨r1, r1f⟩, ⟨r2, r2f⟩, r3, r3f⟩ := S11.out.fourP 0
      have hl3 := S11.out.lt 0
      try go_simp
      have S13 := S11.out.set4 0 rfl (.int .i64 P.head) (.slice u1 P.kids.length (P.kids.length + v1)) (.int .i64 Q.head) (.slice u2 Q.kids.length (Q.kids.length + v2)) (by have := HBX.out; omega) (by have := HBM.out; have := HB15.out; have := HB16.out; simp only [fsnoc, offs, offAll, Fct.box, Fct.tree, and_true]; omega)
      have HS := (show _ ∧ _ ∧ _ ∧ _ from ⟨(S13.two 2).1.1, (S13.two 2).2.1, (S13.two 4).1.1, (S13.two 4).2.1⟩)
      refine HK.out _ _ (fun _ => HS) ?_
      try simp only [Act.put, List.setIfInBounds_toArray, List.set_cons_zero, List.set_cons_succ]
      refine wpH.one (i := 14) (by kernel_rfl) ?_
      intro oi ho
      simp only [List.getElem?_toArray, List.getElem?_cons_succ, List.getElem?_cons_zero, Option.some.injEq] at ho
      subst ho
      intro K hK
      have HK := Lib.hid hK
      clear hK
      go_simp
      refine HK.out _ _ (fun _ => HS) ?_
      try simp only [Act.put, List.setIfInBounds_toArray, List.set_cons_zero, List.set_cons_succ]
      refine wpH.one (i := 15) (by kernel_rfl) ?_
      intro oi ho
      simp only [List.getElem?_toArray, List.getElem?_cons_succ, List.getElem?_cons_zero, Option.some.injEq] at ho
      subst ho
      intro K hK
      have HK := Lib.hid hK
      clear hK
      go_simp
      refine HK.out _ _ (fun _ => HS) ?_
      try simp only [Act.put, List.setIfInBounds_toArray, List.set_cons_zero, List.set_cons_succ]
      refine wpH.done (by kernel_rfl) ?_
      have SF := Lib.hid S13
      clear S13 HS
      try go_wp2_with fail
      refine ret_box4 (.int .i64 P.head) (.slice u1 P.kids.length (P.kids.length + v1)) (.int .i64 Q.head) (.slice u2 Q.kids.length (Q.kids.length + v2)) (.bool true) (.bool false) (bx + 3) 100 (SF.out.block 0) (fun w' q0 q1 q2 q3 => by simp [results, Try.results101, go_sem, q0, q1, q2, q3]) rfl ?_
      exact ⟨P, Q, u1, u2, v1, v2, true, false, rfl, .inl ⟨rfl, HRZ.out⟩, (SF.out.tree 1).mono (fun b h _ => by have := HW8.out; omega), (SF.out.tree 3).mono (fun b h _ => by have := HW8.out; omega), SF.out.bel⟩
end Go.Proofs.Ytlhnfdjidjgfgaa
