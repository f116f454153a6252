/-
  Walks: slices.Clone of a table; dia.Combined with 'and'.
-/
import Derived.Test.YtacaakcpkgipfaaProg
import Derived.Test.YtacaakcpkgipfaaTd13
import Derived.Test.YtacaakcpkgipfaaG7
import Derived.Test.YtacaakcpkgipfaaEk1
import Derived.RegionTactic
import Derived.BigQuiet
import Derived.Deep.CutBlock
import Derived.Deep.DeepCutAuto
namespace Go.Proofs.Ytacaakcpkgipfaa
open Go.RowKit Go.Shelf Go.Maps
set_option linter.unusedVariables false
set_option linter.unusedSimpArgs false
set_option maxHeartbeats 400000

theorem by_css {B : Nat} {p : Nat → Prop} {w : World} {o : Value} {xs : List Nat} (h : byteE.Own p B w o xs) : w.ownsRow B 5 1 o xs.length (xs.map byV) := by
  obtain ⟨css, hcl, ho, hk⟩ := h
  have e : css = xs.map (fun x => [byV x]) := by
    refine List.ext_getElem (by simp [hcl]) fun i h1 h2 => ?_
    have h3 : i < xs.length := by omega
    have := hk i css[i] xs[i] (List.getElem?_eq_getElem h1) (List.getElem?_eq_getElem h3)
    rw [List.getElem_map]
    exact this
  have e2 : css.flatten = xs.map byV := by
    rw [e]
    clear e hk ho hcl
    induction xs with
    | nil => rfl
    | cons x r ih => simp only [List.map_cons, List.flatten_cons, ih]; rfl
  rw [← e2]
  exact ho
theorem by_own {B : Nat} {p : Nat → Prop} {w : World} {o : Value} {xs : List Nat} (h : w.ownsRow B 5 1 o xs.length (xs.map byV)) : byteE.Own p B w o xs := by
  refine ⟨xs.map (fun x => [byV x]), by simp, ?_, fun i cs x h1 h2 => ?_⟩
  · have e2 : (xs.map (fun x => [byV x])).flatten = xs.map byV := by
      clear h
      induction xs with
      | nil => rfl
      | cons x r ih => simp only [List.map_cons, List.flatten_cons, ih]; rfl
    rw [e2]; exact h
  · rw [List.getElem?_map, h2] at h1
    simp at h1
    exact h1.symm
theorem own_getU {B : Nat} {p : Nat → Prop} {w : World} {lo : Option Addr} {n c : Nat} {xs : List Nat} (h : byteE.Own p B w (.slice lo n c) xs) {j : Nat} (hj : j < xs.length) :
    ∃ g, lo = some ⟨g, 0, none⟩ ∧ B ≤ g ∧ g < w.heap.size ∧ n = xs.length ∧ w.cell? ⟨g, j, none⟩ = some (byV xs[j]) ∧ w.frozen? ⟨g, j, none⟩ = false := by
  obtain ⟨_, h2⟩ := by_css h
  rcases h2 with ⟨_, hn⟩ | ⟨g, cap, cur, e, hB, hh, hnc, hm, hsz, htk⟩
  · omega
  · simp only [Value.slice.injEq] at e
    have h4 : cur[j]? = some (byV xs[j]) := by
      have : (cur.toList.take (xs.length * 1))[j]? = some (byV xs[j]) := by rw [htk]; simp [hj]
      rw [List.getElem?_take, if_pos (by omega), Array.getElem?_toList] at this
      exact this
    exact ⟨g, e.1, hB, heap_lt hh, e.2.1, by simp [World.cell?, hh, h4], by simp [World.frozen?, hh]⟩
theorem own_frzU {B : Nat} {p : Nat → Prop} {w : World} {g n c : Nat} {xs : List Nat} (h : byteE.Own p B w (.slice (some ⟨g, 0, none⟩) n c) xs) {j : Nat} (hj : j < xs.length) : w.frozen? ⟨g, j, none⟩ = false := by
  obtain ⟨g', e, _, _, _, _, h⟩ := own_getU h hj
  simp only [Option.some.injEq, Addr.mk.injEq, and_true] at e
  rw [e]; exact h
theorem own_setU {B g n c j : Nat} {p : Nat → Prop} {w : World} {xs : List Nat} (h : byteE.Own p B w (.slice (some ⟨g, 0, none⟩) n c) xs) (hj : j < xs.length) (v : Nat) : byteE.Own p B (w.setCell ⟨g, j, none⟩ (byV v)) (.slice (some ⟨g, 0, none⟩) n c) (xs.set j v) := by
  refine by_own ?_
  obtain ⟨h1, h2⟩ := by_css h
  refine ⟨by simp, ?_⟩
  rcases h2 with ⟨_, hn⟩ | ⟨g', cap, cur, e, hB, hh, hnc, hm, hsz, htk⟩
  · omega
  · have e' := e
    simp only [Value.slice.injEq, Option.some.injEq, Addr.mk.injEq, and_true] at e'
    obtain ⟨rfl, rfl, rfl⟩ := e'
    refine .inr ⟨g, c, cur.setIfInBounds j (byV v), by simp, hB, by simp [World.setCell, Array.getElem?_modify, hh], by simpa using hnc, hm, by simp [hsz], ?_⟩
    rw [Array.toList_setIfInBounds, List.length_set, List.map_set, ← htk]
    exact List.take_set ..
theorem St.setU {w0 w : World} {l : List Fct} (S : St w0 w l) (i : Nat) {B g n c j : Nat} {p : Nat → Prop} {xs : List Nat} (hi : Fct.at l i = Fct.owns byteE B p (.slice (some ⟨g, 0, none⟩) n c) xs) (hj : j < xs.length) (v : Nat) (h0 : w0.heap.size ≤ g) (hoff : offs g i l) :
    St w0 (w.setCell ⟨g, j, none⟩ (byV v)) (fset l i (.owns byteE B p (.slice (some ⟨g, 0, none⟩) n c) (xs.set j v))) := by
  refine ⟨S.bel.setCell (p := ⟨g, j, none⟩) h0 _, fun k => ?_⟩
  by_cases hk : k = i
  · subst hk
    rcases at_fset_same (.owns byteE B p (.slice (some ⟨g, 0, none⟩) n c) (xs.set j v)) l k with h | h
    · rw [h]; exact own_setU (S.owns byteE k hi) hj v
    · rw [h]; trivial
  · rw [at_fset_other _ _ _ _ hk]
    exact (Fct.at l k).stable w _ (fun b hb hl => Below.heap_setCell _ _ _ _ (fun e => offs_at hoff k hk (by rw [← show b = g from e]; exact hb))) (S.2 k)

set_option maxRecDepth 100000 in
theorem clone43 (ws : List Nat) (p : Nat → Prop) (ad : Addr) (c : Nat) (w : World) (hr : byteE.Row p w (some ad) ws) (hp : ∀ b, p b → b < w.heap.size) (h0 : 0 < ws.length) (hn : ws.length ≤ 1000) :
    Calls Try.prog 43 #[.slice (some ad) ws.length c] w fun e w' => ∃ v, e = .returned v ∧ byteE.Own (fun _ => False) w.heap.size w' v ws ∧ Below w.heap.size w w' := by
  have HR := Lib.hid hr; have HP := Lib.hid hp
  clear hr hp
  obtain ⟨iI, gi, gz0, gz1, gz2⟩ := info_parts infoU
  obtain ⟨bx, hbx⟩ : ∃ b, b = w.heap.size := ⟨_, rfl⟩
  have S1 : St w (w.alloc (.cells #[] 5)) [.owns byteE bx (fun _ => False) (.slice (some ⟨bx, 0, none⟩) 0 0) []] := by
    have h := (St.start w).alloc (.cells #[] 5)
    refine h.add (.owns byteE bx (fun _ => False) (.slice (some ⟨bx, 0, none⟩) 0 0) []) ⟨[], rfl, ⟨by simp, .inr ⟨bx, 0, #[], rfl, Nat.le_refl _, by rw [hbx]; exact heap_ofAlloc w _, Nat.le_refl _, by simp, by simp, by simp⟩⟩, fun i cs x h => by simp at h⟩
  have HBX := Lib.hid hbx
  have hnil := fun (w : World) a n c => Lib.run_eql_slice_nil (P := Try.prog) w 63 5 a n c 0 0 Try.underlying63
  have hl0 : ws.length = 0 → False := fun h => by omega
  go_enter Try.func43, Try.ntmps43
  go_wp2_with (at_builtin; rw [← hbx]; refine wpList_appRow rfl (.tmp 5) (.tmp 6) 63 rfl byteE S1 0 rfl (q := p) (p' := p) (ad := ad) (c := c) (HR.out.kept S1.bel) h0 Try.underlying63 gi gz0 gz1 gz2 rfl rfl ?v1 ?v2 ?c1 ?c2 ?c3 ?c4 ?c5 ?c6 ?c7 ?_)
  case v1 => rfl
  case v2 => rfl
  case c1 => unfold maxLen; simp; omega
  case c2 => simp; omega
  case c3 => simp; omega
  case c4 => omega
  case c5 => intro b h1 h2 h3; simp only [offs, offAll]
  case c6 => intro b h1 h2; have h3 := HP.out b h1; have h4 : bx = b := by simpa [Value.ownBlock] using h2
             omega
  case c7 => intro b h1; rcases h1 with h1 | h1; exact False.elim h1; exact h1
  intro gg cap w3 S2 hs3 hgg hat
  have SE := Lib.hid S2.bel
  have SO := Lib.hid (S2.owns byteE 0)
  clear S1 S2
  go_wp2_with fail
  go_ret
  refine ⟨_, rfl, ?_, SE.out⟩
  obtain ⟨css, h1, h2, h3⟩ := SO.out
  first | exact ⟨css, h1, h2, fun i cs x e1 e2 => h3 i cs x e1 e2⟩ | (rw [HBX.out] at h2; exact ⟨css, h1, h2, fun i cs x e1 e2 => h3 i cs x e1 e2⟩)
theorem comb_step {A B : List Nat} {j c : Nat} (ha : j < A.length) (hb : j < B.length) (hc : (if A[j] = 1 ∧ B[j] = 1 then 1 else 0) = c) : (andT A B).take (j + 1) ++ A.drop (j + 1) = ((andT A B).take j ++ A.drop j).set j c := by
  have hl : (andT A B).length = min A.length B.length := by simp [andT]
  have hj : j < (andT A B).length := by omega
  have hg : (andT A B)[j] = c := by simp only [andT, List.getElem_zipWith]; exact hc
  have h2 : ((andT A B).take j).length = j := by simp; omega
  rw [List.set_append_right _ _ (by omega), h2, Nat.sub_self, List.drop_eq_getElem_cons ha, List.set_cons_zero, List.take_succ_eq_append_getElem hj, hg, List.append_assoc]
  rfl
set_option maxRecDepth 100000 in
set_option maxHeartbeats 8000000 in
theorem combined27 (A B : List Nat) (p q : Nat → Prop) (ao bo : Option Addr) (ca cb : Nat) (w : World) (hA : A.length = 64) (hB : B.length = 64) (a01 : ∀ x ∈ A, x < 2) (b01 : ∀ x ∈ B, x < 2) (hra : byteE.Row p w ao A) (hrb : byteE.Row q w bo B) (hp : ∀ b, p b → b < w.heap.size) :
    Calls Try.prog 27 #[.int .i64 8, .slice ao 64 ca, .slice bo 64 cb] w fun e w' => ∃ lo sp, e = .returned (.slice lo 64 (64 + sp)) ∧ byteE.Row (fun b => w.heap.size ≤ b) w' lo (andT A B) ∧ Below w.heap.size w w' := by
  obtain ⟨ba, oa, rfl, _, hx1⟩ := hra.byte (i := 0) (by omega)
  obtain ⟨bb, ob, rfl, _, hx2⟩ := hrb.byte (i := 0) (by omega)
  have HRA := Lib.hid hra; have HRB := Lib.hid hrb; have HAL := Lib.hid hA; have HBL := Lib.hid hB; have HA01 := Lib.hid a01; have HB01 := Lib.hid b01
  have HC := clone43 A p ⟨ba, oa, none⟩ ca w hra hp (by omega) (by omega)
  rw [hA] at HC
  have HCC := Lib.hid HC
  clear hx1 hx2 hra hrb hA hB a01 b01 HC
  go_enter Try.func27, Try.ntmps27
  go_wp2_with fail
  refine HCC.out.mono ?_
  rintro e w1 ⟨v, rfl, hown, hb1⟩
  have S := ((St.start w).step hb1).add (.owns byteE w.heap.size (fun _ => False) v ((andT A B).take 0 ++ A.drop 0)) (by rw [List.take_zero, List.drop_zero, List.nil_append]; exact hown)
  obtain ⟨lo, sp, rfl, hrr, _⟩ := (show byteE.Own (fun b => w.heap.size ≤ b) w.heap.size w1 v A from Elt.Own.mono (p := fun _ => False) hown (fun b h => h.elim)).row (fun b h => h)
  rw [HAL.out] at S
  have HS0 := Lib.hid S
  clear hown hb1 S hrr
  rw [HAL.out]
  go_wp2_with fail
  go_loopw [13] (fun i wr => ∃ j : Nat, j ≤ 64 ∧ i = .int .i64 j ∧ St w wr [.owns byteE w.heap.size (fun _ => False) (.slice lo 64 (64 + sp)) ((andT A B).take j ++ A.drop j)]) (fun i _ => 64 - (intOf i).toNat)
  case atStart => exact ⟨0, by omega, rfl, HS0.out⟩
  case round =>
    clear HS0
    obtain ⟨j, hj, rfl, S⟩ := hrel
    have HLL := Lib.hid (show ((andT A B).take j ++ A.drop j).length = 64 by rw [List.length_append, List.length_take, List.length_drop]; unfold andT; rw [List.length_zipWith, HAL.out, HBL.out]; omega)
    by_cases hlt : j < 64
    · have hlti : (j : Int) < 64 := by omega
      obtain ⟨g, rfl, hgB, hgl, hn64, d0, f0⟩ := own_getU (S.owns byteE 0) (j := j) (by rw [HLL.out]; exact hlt)
      obtain ⟨ba2, oa2, e1, _, c0⟩ := (HRA.out.kept S.bel).byte (i := j) (by rw [HAL.out]; exact hlt)
      obtain ⟨bb2, ob2, e2, _, c1⟩ := (HRB.out.kept S.bel).byte (i := j) (by rw [HBL.out]; exact hlt)
      simp only [Option.some.injEq, Addr.mk.injEq, and_true] at e1 e2
      obtain ⟨rfl, rfl⟩ := e1
      obtain ⟨rfl, rfl⟩ := e2
      have hja : j < A.length := by rw [HAL.out]; exact hlt
      have hjb : j < B.length := by rw [HBL.out]; exact hlt
      have x01 := HA01.out A[j] (List.getElem_mem hja)
      have y01 := HB01.out B[j] (List.getElem_mem hjb)
      obtain ⟨X, hX⟩ : ∃ X, X = A[j] := ⟨_, rfl⟩
      obtain ⟨Y, hY⟩ : ∃ Y, Y = B[j] := ⟨_, rfl⟩
      rw [← hX] at c0 x01; rw [← hY] at c1 y01
      obtain ⟨Z, hZ⟩ : ∃ Z, Z = (if X = 1 ∧ Y = 1 then 1 else 0) := ⟨_, rfl⟩
      have HST2 := Lib.hid (comb_step (c := Z) hja hjb (by rw [← hX, ← hY, hZ]))
      have hZZ : bits BinOp.and .i64 ((8 : Int) / 2 ^ (2 * (X : Int) + (Y : Int)).toNat) 1 = (Z : Int) := (by
        rw [hZ]
        rcases (by omega : X = 0 ∨ X = 1) with rfl | rfl <;> rcases (by omega : Y = 0 ∨ Y = 1) with rfl | rfl <;> decide +kernel)
      have hz1 : Z ≤ 1 := by rw [hZ]; split <;> omega
      have hwz : IntKind.u8.wrap (Z : Int) = (Z : Int) := by rcases (by omega : Z = 0 ∨ Z = 1) with h | h <;> rw [h] <;> decide +kernel
      have HDA := Lib.hid (And.intro c0 c1)
      have SD := Lib.hid S.drew
      have HGB := Lib.hid hgB
      have HFZ := Lib.hid f0
      have HD0 := Lib.hid d0
      have hgl2 : g < wr.drew.heap.size := hgl
      have hw1 : IntKind.u8.wrap (2 * (X : Int)) = 2 * (X : Int) := by rcases (by omega : X = 0 ∨ X = 1) with rfl | rfl <;> decide +kernel
      have hw2 : IntKind.u8.wrap (2 * (X : Int) + (Y : Int)) = ((2 * X + Y : Nat) : Int) := by rcases (by omega : X = 0 ∨ X = 1) with rfl | rfl <;> rcases (by omega : Y = 0 ∨ Y = 1) with rfl | rfl <;> decide +kernel
      clear hX hY hZ hja hjb c0 c1 S hn64 d0 hgB f0
      go_upto_region 5 with fail
      refine wpT_region [17] (fun W => W.cell? ⟨ba, oa + j, none⟩ = some (.int .u8 (X : Int)) ∧ W.cell? ⟨bb, ob + j, none⟩ = some (.int .u8 (Y : Int))) (by kernel_rfl) ?_
      have HS : wr.drew.cell? ⟨ba, oa + j, none⟩ = some (.int .u8 (X : Int)) ∧ wr.drew.cell? ⟨bb, ob + j, none⟩ = some (.int .u8 (Y : Int)) := HDA.out
      try simp only [Act.put, List.setIfInBounds_toArray, List.set_cons_zero, List.set_cons_succ]
      refine wpT.take (i := 0) (by kernel_rfl) (by kernel_rfl) (by kernel_rfl) (by kernel_rfl) (by kernel_rfl) (fun _ => HS) ?_
      intro oi ho
      simp only [List.getElem?_toArray, List.getElem?_cons_succ, List.getElem?_cons_zero, Option.some.injEq] at ho
      subst ho
      refine ⟨?_, Or.inl ⟨by rfl, ?_⟩, fun _ _ _ h => h, ?_⟩
      rotate_left 1
      · intro W hW
        try (subst hW)
        try dsimp only at hW
        go_simp
        try with_reducible rfl
      try simp only [Act.put, List.setIfInBounds_toArray, List.set_cons_zero, List.set_cons_succ]
      refine wpT.take (i := 1) (by kernel_rfl) (by kernel_rfl) (by kernel_rfl) (by kernel_rfl) (by kernel_rfl) (fun _ => HS) ?_
      intro oi ho
      simp only [List.getElem?_toArray, List.getElem?_cons_succ, List.getElem?_cons_zero, Option.some.injEq] at ho
      subst ho
      refine ⟨?_, Or.inl ⟨by rfl, ?_⟩, fun _ _ _ h => h, ?_⟩
      rotate_left 1
      · intro W hW
        try (subst hW)
        try dsimp only at hW
        go_simp
        try with_reducible rfl
      try simp only [Act.put, List.setIfInBounds_toArray, List.set_cons_zero, List.set_cons_succ]
      refine wpT.take (i := 2) (by kernel_rfl) (by kernel_rfl) (by kernel_rfl) (by kernel_rfl) (by kernel_rfl) (fun _ => HS) ?_
      intro oi ho
      simp only [List.getElem?_toArray, List.getElem?_cons_succ, List.getElem?_cons_zero, Option.some.injEq] at ho
      subst ho
      refine ⟨?_, Or.inl ⟨by rfl, ?_⟩, fun _ _ _ h => h, ?_⟩
      rotate_left 1
      · intro W hW
        try (subst hW)
        try dsimp only at hW
        go_simp
        try with_reducible rfl
      try simp only [Act.put, List.setIfInBounds_toArray, List.set_cons_zero, List.set_cons_succ]
      refine wpT.take (i := 3) (by kernel_rfl) (by kernel_rfl) (by kernel_rfl) (by kernel_rfl) (by kernel_rfl) (fun _ => HS) ?_
      intro oi ho
      simp only [List.getElem?_toArray, List.getElem?_cons_succ, List.getElem?_cons_zero, Option.some.injEq] at ho
      subst ho
      refine ⟨?_, Or.inl ⟨by rfl, ?_⟩, fun _ _ _ h => h, ?_⟩
      rotate_left 1
      · intro W hW
        try (subst hW)
        try dsimp only at hW
        go_simp
        try with_reducible rfl
      try simp only [Act.put, List.setIfInBounds_toArray, List.set_cons_zero, List.set_cons_succ]
      refine wpT.take (i := 4) (by kernel_rfl) (by kernel_rfl) (by kernel_rfl) (by kernel_rfl) (by kernel_rfl) (fun _ => HS) ?_
      intro oi ho
      simp only [List.getElem?_toArray, List.getElem?_cons_succ, List.getElem?_cons_zero, Option.some.injEq] at ho
      subst ho
      refine ⟨?_, Or.inl ⟨by rfl, ?_⟩, fun _ _ _ h => h, ?_⟩
      rotate_left 1
      · intro W hW
        try (subst hW)
        try dsimp only at hW
        go_simp
        try with_reducible rfl
      try simp only [Act.put, List.setIfInBounds_toArray, List.set_cons_zero, List.set_cons_succ]
      refine wpT.take (i := 5) (by kernel_rfl) (by kernel_rfl) (by kernel_rfl) (by kernel_rfl) (by kernel_rfl) (fun _ => HS) ?_
      intro oi ho
      simp only [List.getElem?_toArray, List.getElem?_cons_succ, List.getElem?_cons_zero, Option.some.injEq] at ho
      subst ho
      refine ⟨?_, Or.inl ⟨by rfl, ?_⟩, fun _ _ _ h => h, ?_⟩
      rotate_left 1
      · intro W hW
        try (subst hW)
        try dsimp only at hW
        go_simp
        try with_reducible rfl
      try simp only [Act.put, List.setIfInBounds_toArray, List.set_cons_zero, List.set_cons_succ]
      refine wpT.take (i := 6) (by kernel_rfl) (by kernel_rfl) (by kernel_rfl) (by kernel_rfl) (by kernel_rfl) (fun _ => HS) ?_
      intro oi ho
      simp only [List.getElem?_toArray, List.getElem?_cons_succ, List.getElem?_cons_zero, Option.some.injEq] at ho
      subst ho
      refine ⟨?_, Or.inl ⟨by rfl, ?_⟩, fun _ _ _ h => h, ?_⟩
      rotate_left 1
      · intro W hW
        try (subst hW)
        try dsimp only at hW
        go_simp
        try with_reducible rfl
      try simp only [Act.put, List.setIfInBounds_toArray, List.set_cons_zero, List.set_cons_succ]
      refine wpT.take (i := 7) (by kernel_rfl) (by kernel_rfl) (by kernel_rfl) (by kernel_rfl) (by kernel_rfl) (fun _ => HS) ?_
      intro oi ho
      simp only [List.getElem?_toArray, List.getElem?_cons_succ, List.getElem?_cons_zero, Option.some.injEq] at ho
      subst ho
      refine ⟨?_, Or.inl ⟨by rfl, ?_⟩, fun _ _ _ h => h, ?_⟩
      rotate_left 1
      · intro W hW
        try (subst hW)
        try dsimp only at hW
        go_simp
        try with_reducible rfl
      try simp only [Act.put, List.setIfInBounds_toArray, List.set_cons_zero, List.set_cons_succ]
      refine wpT.take (i := 8) (by kernel_rfl) (by kernel_rfl) (by kernel_rfl) (by kernel_rfl) (by kernel_rfl) (fun _ => HS) ?_
      intro oi ho
      simp only [List.getElem?_toArray, List.getElem?_cons_succ, List.getElem?_cons_zero, Option.some.injEq] at ho
      subst ho
      refine ⟨?_, Or.inl ⟨by rfl, ?_⟩, fun _ _ _ h => h, ?_⟩
      rotate_left 1
      · intro W hW
        try (subst hW)
        try dsimp only at hW
        go_simp
        try with_reducible rfl
      try simp only [Act.put, List.setIfInBounds_toArray, List.set_cons_zero, List.set_cons_succ]
      refine wpT.take (i := 9) (by kernel_rfl) (by kernel_rfl) (by kernel_rfl) (by kernel_rfl) (by kernel_rfl) (fun _ => HS) ?_
      intro oi ho
      simp only [List.getElem?_toArray, List.getElem?_cons_succ, List.getElem?_cons_zero, Option.some.injEq] at ho
      subst ho
      refine ⟨?_, Or.inl ⟨by rfl, ?_⟩, fun _ _ _ h => h, ?_⟩
      rotate_left 1
      · intro W hW
        try (subst hW)
        try dsimp only at hW
        go_simp
        try with_reducible rfl
      try simp only [Act.put, List.setIfInBounds_toArray, List.set_cons_zero, List.set_cons_succ]
      refine wpT.take (i := 10) (by kernel_rfl) (by kernel_rfl) (by kernel_rfl) (by kernel_rfl) (by kernel_rfl) (fun _ => HS) ?_
      intro oi ho
      simp only [List.getElem?_toArray, List.getElem?_cons_succ, List.getElem?_cons_zero, Option.some.injEq] at ho
      subst ho
      refine ⟨?_, Or.inl ⟨by rfl, ?_⟩, fun _ _ _ h => h, ?_⟩
      rotate_left 1
      · intro W hW
        try (subst hW)
        try dsimp only at hW
        go_simp
        try with_reducible rfl
      try simp only [Act.put, List.setIfInBounds_toArray, List.set_cons_zero, List.set_cons_succ]
      refine wpT.take (i := 11) (by kernel_rfl) (by kernel_rfl) (by kernel_rfl) (by kernel_rfl) (by kernel_rfl) (fun _ => HS) ?_
      intro oi ho
      simp only [List.getElem?_toArray, List.getElem?_cons_succ, List.getElem?_cons_zero, Option.some.injEq] at ho
      subst ho
      refine ⟨?_, Or.inl ⟨by rfl, ?_⟩, fun _ _ _ h => h, ?_⟩
      rotate_left 1
      · intro W hW
        try (subst hW)
        try dsimp only at hW
        go_simp
        try with_reducible rfl
      try simp only [Act.put, List.setIfInBounds_toArray, List.set_cons_zero, List.set_cons_succ]
      refine wpT.take (i := 12) (by kernel_rfl) (by kernel_rfl) (by kernel_rfl) (by kernel_rfl) (by kernel_rfl) (fun _ => HS) ?_
      intro oi ho
      simp only [List.getElem?_toArray, List.getElem?_cons_succ, List.getElem?_cons_zero, Option.some.injEq] at ho
      subst ho
      refine ⟨?_, Or.inl ⟨by rfl, ?_⟩, fun _ _ _ h => h, ?_⟩
      rotate_left 1
      · intro W hW
        try (subst hW)
        try dsimp only at hW
        go_simp
        try with_reducible rfl
      try simp only [Act.put, List.setIfInBounds_toArray, List.set_cons_zero, List.set_cons_succ]
      refine wpT.take (i := 13) (by kernel_rfl) (by kernel_rfl) (by kernel_rfl) (by kernel_rfl) (by kernel_rfl) (fun _ => HS) ?_
      intro oi ho
      simp only [List.getElem?_toArray, List.getElem?_cons_succ, List.getElem?_cons_zero, Option.some.injEq] at ho
      subst ho
      refine ⟨?_, Or.inl ⟨by rfl, ?_⟩, fun _ _ _ h => h, ?_⟩
      rotate_left 1
      · intro W hW
        try (subst hW)
        try dsimp only at hW
        go_simp
        try with_reducible rfl
      try simp only [Act.put, List.setIfInBounds_toArray, List.set_cons_zero, List.set_cons_succ]
      refine wpT.take (i := 14) (by kernel_rfl) (by kernel_rfl) (by kernel_rfl) (by kernel_rfl) (by kernel_rfl) (fun _ => HS) ?_
      intro oi ho
      simp only [List.getElem?_toArray, List.getElem?_cons_succ, List.getElem?_cons_zero, Option.some.injEq] at ho
      subst ho
      refine ⟨?_, Or.inl ⟨by rfl, ?_⟩, fun _ _ _ h => h, ?_⟩
      rotate_left 1
      · intro W hW
        try (subst hW)
        try dsimp only at hW
        go_simp
        try with_reducible rfl
      try simp only [Act.put, List.setIfInBounds_toArray, List.set_cons_zero, List.set_cons_succ]
      refine wpT.take (i := 15) (by kernel_rfl) (by kernel_rfl) (by kernel_rfl) (by kernel_rfl) (by kernel_rfl) (fun _ => HS) ?_
      intro oi ho
      simp only [List.getElem?_toArray, List.getElem?_cons_succ, List.getElem?_cons_zero, Option.some.injEq] at ho
      subst ho
      refine ⟨?_, Or.inl ⟨by rfl, ?_⟩, fun _ _ _ h => h, ?_⟩
      rotate_left 1
      · intro W hW
        try (subst hW)
        try dsimp only at hW
        go_simp
        try with_reducible rfl
      try simp only [Act.put, List.setIfInBounds_toArray, List.set_cons_zero, List.set_cons_succ]
      refine wpT.take (i := 16) (by kernel_rfl) (by kernel_rfl) (by kernel_rfl) (by kernel_rfl) (by kernel_rfl) (fun _ => HS) ?_
      intro oi ho
      simp only [List.getElem?_toArray, List.getElem?_cons_succ, List.getElem?_cons_zero, Option.some.injEq] at ho
      subst ho
      refine ⟨?_, Or.inl ⟨by rfl, ?_⟩, fun _ _ _ h => h, ?_⟩
      rotate_left 1
      · intro W hW
        try (subst hW)
        try dsimp only at hW
        go_simp
        try with_reducible rfl
      have e0 : wr.drew.cell? ⟨g, j, none⟩ = some (byV (((andT A B).take j ++ A.drop j)[j]'(by rw [HLL.out]; exact hlt))) := HD0.out
      have e1 : wr.drew.frozen? ⟨g, j, none⟩ = false := HFZ.out
      try simp only [Act.put, List.setIfInBounds_toArray, List.set_cons_zero, List.set_cons_succ]
      refine wpT.one (i := 17) (by kernel_rfl) ?_
      intro oi ho
      simp only [List.getElem?_toArray, List.getElem?_cons_succ, List.getElem?_cons_zero, Option.some.injEq] at ho
      subst ho
      intro K' hK
      have HK := Lib.hid hK
      clear hK
      go_simp
      have SN := Lib.hid (SD.out.setU 0 rfl (j := j) (by rw [HLL.out]; exact hlt) Z HGB.out (by simp only [offs, offAll]))
      refine HK.out _ _ (fun h => absurd h (by decide)) ?_
      try simp only [Act.put, List.setIfInBounds_toArray, List.set_cons_zero, List.set_cons_succ]
      refine wpT.done (by kernel_rfl) ?_
      clear HS e0 e1 hZZ hwz hw1 hw2
      go_wp2_with fail
      go_roundw
      case rel => exact ⟨j + 1, by omega, by go_num, by rw [HST2.out]; exact SN.out⟩
      case measure => simp [intOf] <;> omega
    · obtain rfl : j = 64 := by omega
      have hl64 : (andT A B).length = 64 := by unfold andT; rw [List.length_zipWith, HAL.out, HBL.out]; omega
      have HFIN := Lib.hid (show (andT A B).take 64 ++ A.drop 64 = andT A B by rw [List.take_of_length_le (by omega), List.drop_eq_nil_of_le (by rw [HAL.out]; exact Nat.le_refl _), List.append_nil])
      have HO := S.owns byteE 0
      rw [HFIN.out] at HO
      obtain ⟨lo2, sp2, e2, hr2, _⟩ := (show byteE.Own (fun b => w.heap.size ≤ b) w.heap.size wr _ (andT A B) from Elt.Own.mono (p := fun _ => False) HO (fun b h => h.elim)).row (fun b h => h)
      simp only [Value.slice.injEq] at e2
      have HRR := Lib.hid (show byteE.Row (fun b => w.heap.size ≤ b) wr lo (andT A B) by rw [e2.1]; exact hr2)
      have SB := Lib.hid S.bel
      clear S HO hr2 e2 hl64
      go_wp2_with fail
      go_ret
      exact ⟨lo, sp, rfl, HRR.out, SB.out⟩
end Go.Proofs.Ytacaakcpkgipfaa
