/-
  Walks: a row of waits copied; times.Do.
-/
import Derived.Test.YtacaakcpkgipfaaProg
import Derived.Test.YtacaakcpkgipfaaTi9
import Derived.Test.YtacaakcpkgipfaaEk1
import Derived.RegionTactic
import Derived.BigQuiet
import Derived.Deep.DeepCutAuto
namespace Go.Proofs.Ytacaakcpkgipfaa
open Go.RowKit Go.Shelf
set_option linter.unusedVariables false
set_option maxHeartbeats 400000

set_option maxRecDepth 100000 in
theorem clone15 (ws : List Wt) (p : Nat → Prop) (wo : Option Addr) (c : Nat) (w : World) (hr : waitE.Row p w wo ws) (hp : ∀ b, p b → b < w.heap.size) (hc : (wo = none ∧ ws = [] ∧ c = 0) ∨ (∃ ad, wo = some ad ∧ 0 < ws.length)) (hn : ws.length ≤ 1000) :
    Calls Try.prog 15 #[.slice wo ws.length c] w fun e w' => ∃ v, e = .returned v ∧ waitE.Own (fun _ => False) w.heap.size w' v ws ∧ Below w.heap.size w w' := by
  have HR := Lib.hid hr; have HP := Lib.hid hp
  clear hr hp
  rcases hc with ⟨rfl, rfl, rfl⟩ | ⟨ad, rfl, h0⟩
  · go_enter Try.func15, Try.ntmps15
    have hnn : ∀ w : World, (Sem.run Try.prog (binOp BinOp.eql 27 (Value.slice none 0 0) (Value.slice none 0 0)) w) = .ok (.bool true) w := fun w => Lib.run_eql_slice_nil (P := Try.prog) w 27 29 none 0 0 0 0 Try.underlying27
    go_wp2_with fail
    go_ret
    exact ⟨_, rfl, Elt.Own.nil _ _ _ _, Below.refl _ _⟩
  obtain ⟨iI, gi, gz0, gz1, gz2⟩ := info_parts infoW
  obtain ⟨bx, hbx⟩ : ∃ b, b = w.heap.size := ⟨_, rfl⟩
  have S1 : St w (w.alloc (.cells #[] 29)) [.owns waitE bx (fun _ => False) (.slice (some ⟨bx, 0, none⟩) 0 0) []] := by
    have h := (St.start w).alloc (.cells #[] 29)
    refine h.add (.owns waitE bx (fun _ => False) (.slice (some ⟨bx, 0, none⟩) 0 0) []) ⟨[], rfl, ⟨by simp, .inr ⟨bx, 0, #[], rfl, Nat.le_refl _, by rw [hbx]; exact heap_ofAlloc w _, Nat.le_refl _, by simp, by simp, by simp⟩⟩, fun i cs x h => by simp at h⟩
  have HBX := Lib.hid hbx
  have hnil := fun (w : World) a n c => Lib.run_eql_slice_nil (P := Try.prog) w 27 29 a n c 0 0 Try.underlying27
  have hl0 : ws.length = 0 → False := fun h => by omega
  go_enter Try.func15, Try.ntmps15
  go_wp2_with (at_builtin; rw [← hbx]; refine wpList_appRow rfl (.tmp 5) (.tmp 6) 27 rfl waitE S1 0 rfl (q := p) (p' := p) (ad := ad) (c := c) (HR.out.kept S1.bel) h0 Try.underlying27 gi gz0 gz1 gz2 rfl rfl ?v1 ?v2 ?c1 ?c2 ?c3 ?c4 ?c5 ?c6 ?c7 ?_)
  case v1 => rfl
  case v2 => rfl
  case c1 => unfold maxLen; simp; omega
  case c2 => simp; omega
  case c3 => simp; omega
  case c4 => omega
  case c5 => intro b h1 h2 h3; simp only [offs, offAll]
  case c6 => intro b h1 h2; have h3 := HP.out b h1; have h4 : bx = b := by simpa [Value.ownBlock] using h2
             omega
  case c7 => intro b h1; rcases h1 with h1 | h1; exact False.elim h1; exact h1
  intro gg cap w3 S2 hs3 hgg hat
  have SE := Lib.hid S2.bel
  have SO := Lib.hid (S2.owns waitE 0)
  clear S1 S2
  go_wp2_with fail
  go_ret
  refine ⟨_, rfl, ?_, SE.out⟩
  obtain ⟨css, h1, h2, h3⟩ := SO.out
  first | exact ⟨css, h1, h2, fun i cs x e1 e2 => h3 i cs x e1 e2⟩ | (rw [HBX.out] at h2; exact ⟨css, h1, h2, fun i cs x e1 e2 => h3 i cs x e1 e2⟩)
theorem Elt.Own.low {α : Type} {E : Elt α} {p : Nat → Prop} {B B' : Nat} {w : World} {o : Value} {xs : List α} (h : E.Own p B' w o xs) (hb : B ≤ B') : E.Own p B w o xs := by
  obtain ⟨css, h1, h2, h3⟩ := h
  refine ⟨css, h1, ⟨h2.1, ?_⟩, h3⟩
  rcases h2.2 with h | ⟨g, cap, cur, e, hB, h⟩
  · exact .inl h
  · exact .inr ⟨g, cap, cur, e, by omega, h⟩
def DoP (js : List Jb) (ws : List Wt) (w : World) (e : Ending) (w' : World) : Prop :=
  ∃ (st l : Int) (so : Option Addr) (S : List Int) (sc : Nat), e = .returned (.tuple #[.int .i64 st, .int .i64 l, .slice so S.length (S.length + sc), .agg #[.int .i64 0, .int .i64 0]]) ∧ intE.Row (fun _ => True) w' so S ∧ Below w.heap.size w w' ∧ okS S ∧
    ((st = 2 ∧ l = 0 ∧ S = [] ∧ ∀ s, ¬ Valid js ws s) ∨ (st = 1 ∧ Valid js ws S ∧ l = span js S ∧ ∀ s, Valid js ws s → l ≤ span js s))

set_option maxRecDepth 100000 in
set_option maxHeartbeats 4000000 in
theorem do6 (js : List Jb) (ws : List Wt) (p q : Nat → Prop) (jo wo : Option Addr) (jc wc_ : Nat) (w : World) (hj : jobE.Row p w jo js) (hw : waitE.Row q w wo ws) (hq : ∀ b, q b → b < w.heap.size) (hoj : okJ js) (how : okW js.length ws) (hjn : js.length ≤ 3) (hjc : js.length ≤ jc) (hwn : ws.length ≤ 3) (hc : (wo = none ∧ ws = [] ∧ wc_ = 0) ∨ (∃ ad, wo = some ad ∧ 0 < ws.length)) :
    Calls Try.prog 6 #[.slice jo js.length jc, .slice wo ws.length wc_, .int .i64 2000] w (DoP js ws w) := by
  have HJ := Lib.hid hj; have HW := Lib.hid hw; have HOJ := Lib.hid hoj; have HOW := Lib.hid how; have HQ := Lib.hid hq; have HCC := Lib.hid hc
  obtain ⟨bx, hbx⟩ : ∃ b, b = w.heap.size := ⟨_, rfl⟩
  have S1 := (St.start w).box hbx.symm #[.int .i64 0, .int .i64 0] 31
  have HBX := Lib.hid hbx
  clear hj hw hoj how hq hc
  go_enter Try.func6, Try.ntmps6
  go_wp2_with fail
  rw [← hbx]
  refine S1.gen (z := bx + 1) (by simp [hbx]) ?_
  intro w1 z1 S
  clear S1 hbx
  refine (S.quiet (check14 js ws p q jo wo jc wc_ w1 (HJ.out.kept S.bel) (HW.out.kept S.bel) HOJ.out HOW.out hjn (by omega))).mono ?_
  rintro e w2 ⟨rfl, z2, S2⟩
  clear S
  have S3 := S2.alloc (.cells #[.int .i64 0, .int .i64 0] 31)
  have hz3 : bx + 1 ≤ (w2.alloc (.cells #[.int .i64 0, .int .i64 0] 31)).heap.size := by simp; omega
  clear S2
  go_wp2_with fail
  refine S3.gen (z := bx + 1) hz3 ?_
  clear S3 hz3 z1 z2
  intro w3 z3 S
  refine (clone15 ws q wo wc_ w3 (HW.out.kept S.bel) (fun b h => by have := HQ.out b h; have := S.bel.size; omega) HCC.out (by omega)).mono ?_
  rintro e w4 ⟨v0, rfl, hown, hb4⟩
  obtain ⟨lo, lsp, rfl, _, _⟩ := (show waitE.Own (fun b => w3.heap.size ≤ b) w3.heap.size w4 v0 ws from Elt.Own.mono (p := fun _ => False) hown (fun b h => False.elim h)).row (fun b h => h)
  have S4 := (S.step hb4).add (.owns waitE w.heap.size (fun _ => False) (.slice lo ws.length (ws.length + lsp)) ws) (hown.low (by have := S.bel.size; omega))
  have HOB := Lib.hid (show ∀ b, (Value.slice lo ws.length (ws.length + lsp)).ownBlock = some b → b < w4.heap.size from fun b e => (S4.ownlt waitE 1 rfl b e).2)
  obtain ⟨bp, hbp⟩ : ∃ b, b = w4.heap.size := ⟨_, rfl⟩
  have S5 := S4.box hbp.symm #[.slice jo js.length jc, (.slice lo ws.length (ws.length + lsp)), .bool false, .int .i64 0, .slice none 0 0] 55
  have S6 : St w _ [.box bp #[.slice jo js.length jc, (.slice lo ws.length (ws.length + lsp)), .bool false, .int .i64 0, .slice none ([] : List Int).length (([] : List Int).length + 0)] 55, .owns waitE w.heap.size (fun _ => False) (.slice lo ws.length (ws.length + lsp)) ws, .rowE intE (fun _ => False) none [], .box bx #[.int .i64 0, .int .i64 0] 31] := ((S5.pick [2, 1]).add (.rowE intE (fun _ => False) none []) Elt.Row.nil).add (.box bx #[.int .i64 0, .int .i64 0] 31) (S5.block 0)
  have HBP := Lib.hid (show bx + 1 ≤ bp by have := hb4.size; omega)
  have hz5 : bp + 1 ≤ (w4.alloc (.cells #[.slice jo js.length jc, (.slice lo ws.length (ws.length + lsp)), .bool false, .int .i64 0, .slice none 0 0] 55)).heap.size := by simp [hbp]
  have HNP := Lib.hid (show ∀ b, (Value.slice lo ws.length (ws.length + lsp)).ownBlock = some b → b ≠ bp ∧ w.heap.size ≤ b ∧ b ≠ bx from fun b e => ⟨by have := HOB.out b e; omega, (S4.ownlt waitE 1 rfl b e).1, fun e2 => by
    obtain ⟨css, _, ho, _⟩ := hown
    have h1 := (ho.lt b e).1
    have := S.lt 0
    omega⟩)
  clear S S4 S5 hown hb4 HOB
  go_wp2_with fail
  rw [← hbp]
  clear hbp
  generalize w4.alloc (.cells #[.slice jo js.length jc, (.slice lo ws.length (ws.length + lsp)), .bool false, .int .i64 0, .slice none 0 0] 55) = w5 at S6 hz5 ⊢
  have hop := openN_le (js := js) (ws := ws) (n := js.length)
  have hop9 : js.length * js.length ≤ 3 * 3 := Nat.mul_le_mul hjn hjn
  have hxb := HBX.out
  refine (search16 js jo jc w.heap.size bp p w (Nat.le_refl _) (by have := HBP.out; omega) (by have := HBP.out; omega) HJ.out HOJ.out hjn hjc (openN js ws js.length + 1) ws (.slice lo ws.length (ws.length + lsp)) false 0 none [] 0 (fun _ => False) w5 (by omega) (by omega) HOW.out (fun i hi => by simp at hi) (fun h => by cases h) (S6.pick [0, 1, 2]) ⟨fun e => (HNP.out bp e).1 rfl, fun b h => False.elim h⟩).mono ?_
  rintro e w6 ⟨⟨v, rfl⟩, vv, f', l', so', S', sc', ps', hst, hsr, hos, hfl, hof, hkw, hsz, how⟩
  have S7 : St w w6 _ := hst.add (.box bx #[.int .i64 0, .int .i64 0] 31) ((hkw bx (by have := HBP.out; omega) (by have := HBP.out; omega) (fun e => (HNP.out bx e).2.2 rfl)).trans (S6.block 3))
  have HSR := Lib.hid hsr
  have HR6 := Lib.hid (show intE.Row (fun b => ps' b) w6 so' S' from hst.rowE intE 2)
  have HOS := Lib.hid hos
  have HPX := Lib.hid (show ∀ b, ps' b → b < w6.heap.size from fun b h => (hof.2 b h).1)
  have hz6 : bp + 1 ≤ w6.heap.size := by omega
  clear hst hsr hos hfl hof hkw hsz how S6 hop hop9 hxb
  obtain ⟨x2, x2'⟩ := S7.cell 0 2 rfl
  cases f' with
  | false =>
    have HNV := Lib.hid (show ∀ s, ¬ Valid js ws s from fun s hs => by have := (HSR.out.2.1 s hs).1; cases this)
    obtain ⟨⟨y0, y1⟩, y2, y3⟩ := S7.two 3
    have hly := S7.lt 3
    have SB := Lib.hid S7
    clear S7
    go_wp2_with fail
    refine bodyPost_ret (v := .tuple #[.int .i64 2, .int .i64 0, .slice none 0 0, .agg #[.int .i64 0, .int .i64 0]]) ?_ rfl ?_
    · obtain ⟨⟨q0, _⟩, q1, _⟩ := box2 (box2_set (SB.out.block 3) (.int .i64 0) (.int .i64 0))
      simp [results, Try.results6, go_sem, q0, q1]
    · have hx := HBX.out
      exact ⟨2, 0, none, [], 0, rfl, Elt.Row.nil, (SB.out.bel.setCell (p := ⟨bx, 0, none⟩) (by show w.heap.size ≤ bx; omega) _).setCell (p := ⟨bx, 1, none⟩) (by show w.heap.size ≤ bx; omega) _, fun i hi => by simp at hi, .inl ⟨rfl, rfl, rfl, HNV.out⟩⟩
  | true =>
    have HVV := Lib.hid (show Valid js ws S' ∧ l' = span js S' from by
      rcases HSR.out.2.2 with ⟨h, _⟩ | ⟨_, h⟩
      · cases h
      · exact h)
    have x3 := (S7.cell 0 3 rfl).1; have x4 := (S7.cell 0 4 rfl).1
    go_wp2_with fail
    have FC := Lib.hid (fun W (hb : Below w6.heap.size w6 W) => (⟨Below.cellOf hb x3, Below.cellOf hb x4⟩ : (fun W => W.cell? ⟨bp, 3, none⟩ = some (.int .i64 l') ∧ W.cell? ⟨bp, 4, none⟩ = some (.slice so' S'.length (S'.length + sc'))) W))
    have SD := S7.drew
    have HS7 := Lib.hid S7
    clear S7 x2 x2' x3 x4
    refine wpH_region [12] (fun W => W.cell? ⟨bp, 3, none⟩ = some (.int .i64 l') ∧ W.cell? ⟨bp, 4, none⟩ = some (.slice so' S'.length (S'.length + sc'))) (by kernel_rfl) ?_
    have HS := FC.out _ (Below.refl _ w6).drew
    refine wpH.take (i := 0) (by kernel_rfl) (by kernel_rfl) (by kernel_rfl) (by kernel_rfl) (by kernel_rfl) HS ?_
    intro oi ho
    simp only [List.getElem?_toArray, List.getElem?_cons_zero, Option.some.injEq] at ho
    subst ho
    refine ⟨?_, Or.inl ⟨by rfl, ?_⟩, fun _ _ _ h => h, ?_⟩
    rotate_left 1
    · intro W hW
      try dsimp only at hW
      go_simp
      try with_reducible rfl
    simp only [Act.put, List.setIfInBounds_toArray, List.set_cons_zero, List.set_cons_succ]
    refine wpH.take (i := 1) (by kernel_rfl) (by kernel_rfl) (by kernel_rfl) (by kernel_rfl) (by kernel_rfl) HS ?_
    intro oi ho
    simp only [List.getElem?_toArray, List.getElem?_cons_succ, List.getElem?_cons_zero, Option.some.injEq] at ho
    subst ho
    refine ⟨?_, Or.inl ⟨by rfl, ?_⟩, fun _ _ _ h => h, ?_⟩
    rotate_left 1
    · intro W hW
      try dsimp only at hW
      go_simp
      try with_reducible rfl
    simp only [Act.put, List.setIfInBounds_toArray, List.set_cons_zero, List.set_cons_succ]
    refine wpH.take (i := 2) (by kernel_rfl) (by kernel_rfl) (by kernel_rfl) (by kernel_rfl) (by kernel_rfl) HS ?_
    intro oi ho
    simp only [List.getElem?_toArray, List.getElem?_cons_succ, List.getElem?_cons_zero, Option.some.injEq] at ho
    subst ho
    refine ⟨?_, Or.inl ⟨by rfl, ?_⟩, fun _ _ _ h => h, ?_⟩
    rotate_left 1
    · intro W hW
      try dsimp only at hW
      go_simp
      try with_reducible rfl
    simp only [Act.put, List.setIfInBounds_toArray, List.set_cons_zero, List.set_cons_succ]
    refine wpH.take (i := 3) (by kernel_rfl) (by kernel_rfl) (by kernel_rfl) (by kernel_rfl) (by kernel_rfl) HS ?_
    intro oi ho
    simp only [List.getElem?_toArray, List.getElem?_cons_succ, List.getElem?_cons_zero, Option.some.injEq] at ho
    subst ho
    refine ⟨?_, Or.inl ⟨by rfl, ?_⟩, fun _ _ _ h => h, ?_⟩
    rotate_left 1
    · intro W hW
      try dsimp only at hW
      go_simp
      try with_reducible rfl
    simp only [Act.put, List.setIfInBounds_toArray, List.set_cons_zero, List.set_cons_succ]
    refine wpH.take (i := 4) (by kernel_rfl) (by kernel_rfl) (by kernel_rfl) (by kernel_rfl) (by kernel_rfl) HS ?_
    intro oi ho
    simp only [List.getElem?_toArray, List.getElem?_cons_succ, List.getElem?_cons_zero, Option.some.injEq] at ho
    subst ho
    refine ⟨?_, Or.inl ⟨by rfl, ?_⟩, fun _ _ _ h => h, ?_⟩
    rotate_left 1
    · intro W hW
      try dsimp only at hW
      go_simp
      try with_reducible rfl
    simp only [Act.put, List.setIfInBounds_toArray, List.set_cons_zero, List.set_cons_succ]
    refine wpH.take (i := 5) (by kernel_rfl) (by kernel_rfl) (by kernel_rfl) (by kernel_rfl) (by kernel_rfl) HS ?_
    intro oi ho
    simp only [List.getElem?_toArray, List.getElem?_cons_succ, List.getElem?_cons_zero, Option.some.injEq] at ho
    subst ho
    refine ⟨?_, Or.inl ⟨by rfl, ?_⟩, fun _ _ _ h => h, ?_⟩
    rotate_left 1
    · intro W hW
      try dsimp only at hW
      go_simp
      try with_reducible rfl
    simp only [Act.put, List.setIfInBounds_toArray, List.set_cons_zero, List.set_cons_succ]
    refine wpH.take (i := 6) (by kernel_rfl) (by kernel_rfl) (by kernel_rfl) (by kernel_rfl) (by kernel_rfl) HS ?_
    intro oi ho
    simp only [List.getElem?_toArray, List.getElem?_cons_succ, List.getElem?_cons_zero, Option.some.injEq] at ho
    subst ho
    refine ⟨?_, Or.inl ⟨by rfl, ?_⟩, fun _ _ _ h => h, ?_⟩
    rotate_left 1
    · intro W hW
      try dsimp only at hW
      go_simp
      try with_reducible rfl
    simp only [Act.put, List.setIfInBounds_toArray, List.set_cons_zero, List.set_cons_succ]
    refine wpH.take (i := 7) (by kernel_rfl) (by kernel_rfl) (by kernel_rfl) (by kernel_rfl) (by kernel_rfl) HS ?_
    intro oi ho
    simp only [List.getElem?_toArray, List.getElem?_cons_succ, List.getElem?_cons_zero, Option.some.injEq] at ho
    subst ho
    refine ⟨?_, Or.inl ⟨by rfl, ?_⟩, fun _ _ _ h => h, ?_⟩
    rotate_left 1
    · intro W hW
      try dsimp only at hW
      go_simp
      try with_reducible rfl
    simp only [Act.put, List.setIfInBounds_toArray, List.set_cons_zero, List.set_cons_succ]
    refine wpH.take (i := 8) (by kernel_rfl) (by kernel_rfl) (by kernel_rfl) (by kernel_rfl) (by kernel_rfl) HS ?_
    intro oi ho
    simp only [List.getElem?_toArray, List.getElem?_cons_succ, List.getElem?_cons_zero, Option.some.injEq] at ho
    subst ho
    refine ⟨?_, Or.inl ⟨by rfl, ?_⟩, fun _ _ _ h => h, ?_⟩
    rotate_left 1
    · intro W hW
      try dsimp only at hW
      go_simp
      try with_reducible rfl
    simp only [Act.put, List.setIfInBounds_toArray, List.set_cons_zero, List.set_cons_succ]
    refine wpH.one (i := 9) (by kernel_rfl) ?_
    intro oi ho
    simp only [List.getElem?_toArray, List.getElem?_cons_succ, List.getElem?_cons_zero, Option.some.injEq] at ho
    subst ho
    intro K' hK
    have HK := Lib.hid hK
    clear hK
    go_simp
    refine HK.out _ _ (fun _ => FC.out _ (Below.refl _ w6).drew) ?_
    have HS := FC.out _ (Below.refl _ w6).drew
    try simp only [Act.put, List.setIfInBounds_toArray, List.set_cons_zero, List.set_cons_succ]
    refine wpH.one (i := 10) (by kernel_rfl) ?_
    intro oi ho
    simp only [List.getElem?_toArray, List.getElem?_cons_succ, List.getElem?_cons_zero, Option.some.injEq] at ho
    subst ho
    intro K' hK
    have HK := Lib.hid hK
    clear hK
    go_simp
    refine HK.out _ _ (fun _ => FC.out _ (Below.refl _ w6).drew) ?_
    have HS := FC.out _ (Below.refl _ w6).drew
    try simp only [Act.put, List.setIfInBounds_toArray, List.set_cons_zero, List.set_cons_succ]
    refine wpH.one (i := 11) (by kernel_rfl) ?_
    intro oi ho
    simp only [List.getElem?_toArray, List.getElem?_cons_succ, List.getElem?_cons_zero, Option.some.injEq] at ho
    subst ho
    intro K' hK
    have HK := Lib.hid hK
    clear hK
    go_simp
    refine HK.out _ _ (fun _ => FC.out _ (Below.refl _ w6).drew) ?_
    have HS := FC.out _ (Below.refl _ w6).drew
    try simp only [Act.put, List.setIfInBounds_toArray, List.set_cons_zero, List.set_cons_succ]
    refine wpH.one (i := 12) (by kernel_rfl) ?_
    intro oi ho
    simp only [List.getElem?_toArray, List.getElem?_cons_succ, List.getElem?_cons_zero, Option.some.injEq] at ho
    subst ho
    intro K' hK
    have HK := Lib.hid hK
    clear hK
    obtain ⟨⟨y0, y1⟩, y2, y3⟩ := HS7.out.two 3
    have hly := HS7.out.lt 3
    go_simp
    refine HK.out _ _ (fun h => absurd h (by decide)) ?_
    try simp only [Act.put, List.setIfInBounds_toArray, List.set_cons_zero, List.set_cons_succ]
    refine wpH.done (by kernel_rfl) ?_
    clear HS y0 y1 y2 y3
    have SX := HS7.out.block 3
    have hx := HBX.out
    try go_wp2_with fail
    refine bodyPost_ret (v := .tuple #[.int .i64 1, .int .i64 l', .slice so' S'.length (S'.length + sc'), .agg #[.int .i64 0, .int .i64 0]]) ?_ rfl ?_
    · obtain ⟨⟨q0, _⟩, q1, _⟩ := box2 (box2_set SX (.int .i64 0) (.int .i64 0))
      simp [results, Try.results6, go_sem, q0, q1]
    · refine ⟨1, l', so', S', sc', rfl, HR6.out.keep (fun b _ _ => ⟨?_, trivial⟩), ?_, HOS.out, .inr ⟨rfl, HVV.out.1, HVV.out.2, fun s hs => (HSR.out.2.1 s hs).2⟩⟩
      · by_cases e : b = bx
        · subst e
          exact (box2_set SX (.int .i64 0) (.int .i64 0)).trans SX.symm
        · exact (Below.heap_setCell _ _ _ _ (by show b ≠ bx; exact e)).trans (Below.heap_setCell _ _ _ _ (by show b ≠ bx; exact e))
      · exact ((HS7.out.bel.setCell (p := ⟨bx, 0, none⟩) (by show w.heap.size ≤ bx; omega) _).setCell (p := ⟨bx, 1, none⟩) (by show w.heap.size ≤ bx; omega) _).drew
end Go.Proofs.Ytacaakcpkgipfaa
