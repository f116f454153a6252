/-
  Walks: claim.Text.
-/
import Derived.Test.YtidgnbdlfngeaaaGreatDoorWr1
import Derived.Test.YtidgnbdlfngeaaaGreatDoorE4
import Derived.Test.YtidgnbdlfngeaaaGreatDoorE6
import Derived.Shelf.Strings.BuilderK
namespace Go.Proofs.YtidgnbdlfngeaaaGreatDoor
open Go.RowKit Go.Shelf
set_option linter.unusedVariables false
set_option linter.unusedSimpArgs false
set_option maxHeartbeats 400000

theorem txt_len : ∀ n (t : T), t.size ≤ n → (∀ x ∈ t.pre, okN x) → t.txt.length + 1 ≤ 5 * t.size := by
  intro n
  induction n with
  | zero => intro t h; have := t.size_pos; omega
  | succ n ih =>
    intro t ht h3
    match t, ht, h3 with
    | .node h ks, ht, h3 =>
      obtain ⟨hn, hks⟩ := okT_node.1 h3
      have hb := hn.1
      unfold badHead at hb
      simp only [T.head] at hb
      rw [T.size] at ht
      have hrest : ∀ l : List T, sizeL l ≤ n → okTs l → (restTxt l).length ≤ 5 * sizeL l + 1 := by
        intro l
        induction l with
        | nil => intro _ _; simp [sizeL, restTxt]
        | cons a l ih2 =>
          intro hl ho
          rw [sizeL] at hl ⊢
          have h1 := ih a (by omega) (okTs_cons.1 ho).1
          have h2 := ih2 (by omega) (okTs_cons.1 ho).2
          rw [restTxt]; simp only [List.length_cons, List.length_append]; omega
      rw [T.size, T.txt]
      split
      · have := dig_short (n := (-h).toNat) (by omega)
        simp only [List.length_cons]; omega
      · have := dig_short (n := h.toNat) (by omega)
        have hk : (kidsTxt ks).length ≤ 5 * sizeL ks + 1 := by
          cases ks with
          | nil => simp [kidsTxt, sizeL]
          | cons a l =>
            have h2 := hrest (a :: l) (by omega) hks
            rw [restTxt] at h2
            rw [kidsTxt]; simp only [List.length_cons] at h2 ⊢; omega
        simp only [List.length_cons, List.length_append]; omega
/-- small and well formed -/
def gdT (t : T) : Prop := t.size ≤ 40 ∧ ∀ x ∈ t.pre, okN x
theorem gdT.len {t : T} (h : gdT t) : t.txt.length ≤ 200 := by have := txt_len _ t (Nat.le_refl _) h.2; have := h.1; omega
def gdC (c : List Fc) : Prop := c.length ≤ 6 ∧ ∀ f ∈ c, gdT f.l ∧ gdT f.r
theorem fcTxt_le {f : Fc} (h : gdT f.l ∧ gdT f.r) : (fcTxt f).length ≤ 403 := by
  have h1 := h.1.len; have h2 := h.2.len
  have h3 : (negT f.neg).length ≤ 1 := by cases f.neg <;> simp [negT]
  unfold fcTxt; simp only [List.length_cons, List.length_append]; omega
theorem fsTxt_le : ∀ (l : List Fc) (b : Bool), (∀ f ∈ l, gdT f.l ∧ gdT f.r) → (fsTxt b l).length ≤ 405 * l.length
  | [], _, _ => by simp [fsTxt]
  | f :: r, b, h => by
    have h1 := fcTxt_le (h f (by simp)); have h2 := fsTxt_le r false (fun g hg => h g (by simp [hg]))
    have h3 : (if b = true then [] else ([32, 124] : Bs)).length ≤ 2 := by split <;> simp
    rw [fsTxt]; simp only [List.length_append, List.length_cons]; omega
theorem clsTxt_le : ∀ (l : List (List Fc)), (∀ c ∈ l, gdC c) → (clsTxt l).length ≤ 2440 * l.length
  | [], _ => by simp [clsTxt]
  | c :: r, h => by
    have h0 := h c (by simp)
    have h1 := fsTxt_le c true h0.2
    have h2 := clsTxt_le r (fun g hg => h g (by simp [hg]))
    have h3 := h0.1
    rw [clsTxt, clTxt]; simp only [List.length_append, List.length_cons, sClaim, List.length_nil]; omega
theorem sgTxt_le : ∀ (l : List Int), (∀ x ∈ l, 0 ≤ x ∧ x ≤ 3) → (sgTxt l).length ≤ 3 * l.length
  | [], _ => by simp [sgTxt]
  | n :: r, h => by
    have h0 := h n (by simp)
    have h1 := dig_short (n := n.toNat) (by omega)
    have h2 := sgTxt_le r (fun g hg => h g (by simp [hg]))
    rw [sgTxt]; simp only [List.length_append, List.length_cons]; omega
theorem sgTxt_snoc (l : List Int) (x : Int) : sgTxt (l ++ [x]) = sgTxt l ++ 32 :: Lib.decDigits x.toNat := by
  induction l with
  | nil => simp [sgTxt]
  | cons a l ih => rw [List.cons_append, sgTxt, ih, sgTxt]; simp
theorem clsTxt_snoc (l : List (List Fc)) (c : List Fc) : clsTxt (l ++ [c]) = clsTxt l ++ (clTxt c ++ [10]) := by
  induction l with
  | nil => simp [clsTxt]
  | cons a l ih => rw [List.cons_append, clsTxt, ih, clsTxt]; simp
theorem fsTxt_snoc (l : List Fc) (f : Fc) (b : Bool) : fsTxt b (l ++ [f]) = fsTxt b l ++ ((if (b && l.isEmpty) = true then [] else [32, 124]) ++ fcTxt f) := by
  induction l generalizing b with
  | nil => cases b <;> simp [fsTxt]
  | cons a l ih => rw [List.cons_append, fsTxt, ih, fsTxt]; cases b <;> simp
theorem gd_of {ar : List Int} {cs : List (List Fc)} (h : (loreF ar cs).1 = 0) : ar.length ≤ 12 ∧ cs.length ≤ 60 ∧ (∀ x ∈ ar, 0 ≤ x ∧ x ≤ 3) ∧ ∀ c ∈ cs, gdC c := by
  obtain ⟨_, h1, h2, h3, h4⟩ := loreF_zero h
  refine ⟨h1, h2, h3, fun c hc => ?_⟩
  obtain ⟨h5, h6⟩ := codeF_zero.1 (h4 c hc)
  refine ⟨h5, fun f hf => ?_⟩
  have h7 := mem_treesF hf
  have a := treeF_ok.1 (h6 _ h7.1).1
  have b := treeF_ok.1 (h6 _ h7.2).1
  exact ⟨⟨a.1, a.2.2⟩, ⟨b.1, b.2.2⟩⟩
theorem str21 (bs : Bs) (B b : Nat) (w : World) (h : Bld B b bs w) (hB : B ≤ w.heap.size) : Calls Tryz.prog 28 #[.pointer (some ⟨b, 0, none⟩)] w fun e w' => e = .returned (sV bs) ∧ BW B b w w' := by
  refine (Any.Builder_String_any_k Tryz.lays169 Tryz.Builder_Extra_169 B b bs w (Lib.IsBuilderF.of h) hB).mono ?_
  rintro e w' ⟨rfl, _, h1, h2⟩
  refine ⟨rfl, h1, fun c hc hb ht => ?_⟩
  have e := Array.getElem?_eq_getElem hc
  rw [e]
  exact h2 c _ e (fun h => hb (by injection h)) (fun cs fz h3 => ht cs fz (by rw [e, h3]; rfl))
theorem len20 (bs : Bs) (B b : Nat) (w : World) (h : Bld B b bs w) : Calls Tryz.prog 27 #[.pointer (some ⟨b, 0, none⟩)] w fun e w' => e = .returned (.int .i64 bs.length) ∧ w' = w := by
  refine (Tryz.Builder_Len B b _ w h).mono ?_
  rintro e w' ⟨rfl, rfl⟩
  rw [Lib.byteCells_length]
  exact ⟨rfl, rfl⟩
theorem Bld.fresh (B : Nat) (w : World) (h : B ≤ w.heap.size) : Bld B w.heap.size [] (w.alloc (.cells #[.pointer none, .slice none 0 0] 58)) :=
  .inl ⟨h, .slice none 0 0, heap_ofAlloc w _, World.ownsRow_nil _ _ _ _, by simp [Value.ownBlock]⟩

theorem box5 {w : World} {b : Nat} {v0 v1 v2 v3 v4 : Value} {T : TypeId} (h : w.heap[b]? = some (.cells #[v0, v1, v2, v3, v4] T (0, 0))) :
    w.cell? ⟨b, 0, none⟩ = some v0 ∧ w.cell? ⟨b, 1, none⟩ = some v1 ∧ w.cell? ⟨b, 2, none⟩ = some v2 ∧ w.cell? ⟨b, 3, none⟩ = some v3 ∧ w.cell? ⟨b, 4, none⟩ = some v4 := by
  simp [World.cell?, h]
theorem ret_sb {P : Program} {fn : Func} {R : Ending → World → Prop} {a : Act} {w : World} (x p q : Value) (c : Nat) (T' : TypeId) (hc : w.heap[c]? = some (.cells #[p, q] T' (0, 0)))
    (hres : ∀ w' : World, w'.cell? ⟨c, 0, none⟩ = some p → w'.cell? ⟨c, 1, none⟩ = some q → (results fn a.tmps).run P w' = .ok (.tuple #[x, .agg #[p, q]]) w') (hd : a.defers = [])
    (hR : R (.returned (.tuple #[x, .agg #[p, q]])) w) : bodyPost P fn R .ret a w := bodyPost_ret (hres w (box2 hc).1.1 (box2 hc).2.1) hd hR
/-- what stands while the text is written -/
def TS (B b5 c : Nat) (w : World) (bs : Bs) (W : World) : Prop := (b5 < W.heap.size ∧ B ≤ W.heap.size ∧ c ≠ b5) ∧ Below B w W ∧ W.heap[c]? = some (.cells #[.int .i64 0, .int .i64 0] 28 (0, 0)) ∧ Bld B b5 bs W
theorem TS.step {B b5 c : Nat} {w W W' : World} {bs bs' : Bs} (h : TS B b5 c w bs W) (k : BW B b5 W W') (hb : Bld B b5 bs' W') : TS B b5 c w bs' W' :=
  ⟨⟨by have := k.1.size; have := h.1; omega, by have := k.1.size; have := h.1; omega, h.1.2.2⟩, h.2.1.trans k.1, k.box h.2.2.1 (by decide) h.1.2.2, hb⟩
theorem TS.alloc {B b5 c : Nat} {w W : World} {bs : Bs} (h : TS B b5 c w bs W) (o : Obj) : TS B b5 c w bs (W.alloc o) :=
  ⟨⟨by have := h.1; simp; omega, by have := h.1; simp; omega, h.1.2.2⟩, h.2.1.alloc h.1.2.1 o, by rw [Below.heap_alloc _ _ _ (Array.getElem?_eq_some_iff.1 h.2.2.1).1]; exact h.2.2.1, h.2.2.2.alloc o⟩
theorem TS.str {B b5 c : Nat} {w W : World} {bs : Bs} (h : TS B b5 c w bs W) (s : Bs) (hl : bs.length + s.length ≤ 1000000) :
    Calls Tryz.prog 23 #[.pointer (some ⟨b5, 0, none⟩), sV s] W fun e W' => (∃ k, e = .returned (.tuple #[.int .i64 k, .nilIface])) ∧ TS B b5 c w (bs ++ s) W' ∧ BW B b5 W W' :=
  (str16s s bs B b5 W h.2.2.2 h.1.2.1 (by omega)).mono fun e W' ⟨h1, h2, h3⟩ => ⟨h1, h.step h3 h2, h3⟩
theorem TS.byte {B b5 c : Nat} {w W : World} {bs : Bs} (h : TS B b5 c w bs W) (x : UInt8) (n : Int) (hn : n = (x.toNat : Int)) (hl : bs.length ≤ 1000000) :
    Calls Tryz.prog 25 #[.pointer (some ⟨b5, 0, none⟩), .int .u8 n] W fun e W' => e = .returned .nilIface ∧ TS B b5 c w (bs ++ [x]) W' ∧ BW B b5 W W' :=
  (byte18s x n hn bs B b5 W h.2.2.2 h.1.2.1 (by omega)).mono fun e W' ⟨h1, h2, h3⟩ => ⟨h1, h.step h3 h2, h3⟩
theorem TS.tree {B b5 c : Nat} {w W : World} {bs : Bs} {p : Nat → Prop} {v : Value} {t : T} (h : TS B b5 c w bs W) (ht : TreeP p w v t) (hp : ∀ c, p c → c < B) (hg : gdT t) (hl : bs.length ≤ 1000000) :
    Calls Tryz.prog 26 #[.pointer (some ⟨b5, 0, none⟩), v] W fun e W' => e = .returned (.tuple #[]) ∧ TS B b5 c w (bs ++ t.txt) W' ∧ BW B b5 W W' :=
  (write19 t bs B b5 v W h.2.2.2 h.1.2.1 ((ht.carry (fun c hc _ => h.2.1.block c (hp c hc))).mono (fun c hc _ => hp c hc)) hg.2 (by have := hg.len; omega)).mono fun e W' ⟨h1, h2, h3⟩ => ⟨h1, h.step h3 h2, h3⟩
theorem TS.cell {B b5 c : Nat} {w W : World} {bs : Bs} (h : TS B b5 c w bs W) {b off : Nat} {v : Value} (hb : b < B) (hc : w.cell? ⟨b, off, none⟩ = some v) : W.cell? ⟨b, off, none⟩ = some v := by
  rw [World.cell?_of_block (w := w) (w' := W) (h.2.1.block b hb)]; exact hc

set_option maxRecDepth 100000 in
set_option maxHeartbeats 8000000 in
theorem text6 (ar : List Int) (cs : List (List Fc)) (p q : Nat → Prop) (ao co : Option Addr) (ca cc : Nat) (w : World) (ha : intE.Row q w ao ar) (hc : claimE.Row p w co cs) (hp : ∀ c, p c → c < w.heap.size) (hq : ∀ c, q c → c < w.heap.size) (hna : ar.length ≤ maxLen) (hnc : cs.length ≤ maxLen) :
    Calls Tryz.prog 9 #[.agg #[.slice ao ar.length ca, .slice co cs.length cc]] w fun e w' => e = .returned (.tuple #[sV (textR ar cs).2, .agg #[.int .i64 (textR ar cs).1.1, .int .i64 (textR ar cs).1.2]]) ∧ Below w.heap.size w w' := by
  obtain ⟨bx, hbx⟩ : ∃ b, b = w.heap.size := ⟨_, rfl⟩
  have HA := Lib.hid ha; have HC := Lib.hid hc; have HP := Lib.hid hp; have HQ := Lib.hid hq
  obtain ⟨m, hm⟩ : ∃ m, m = ar.length := ⟨_, rfl⟩
  obtain ⟨n, hn⟩ : ∃ n, n = cs.length := ⟨_, rfl⟩
  have HM := Lib.hid hm; have HN := Lib.hid hn
  have HCK := Lib.hid (fun W (hb : Below w.heap.size w W) => lore79 ar cs p q ao co ca cc W (ha.keep (fun b h hl => ⟨hb.block b hl, h⟩)) (hc.keep (fun b h hl => ⟨hb.block b hl, h⟩)) hna hnc)
  obtain ⟨f, hf⟩ : ∃ f, f = loreF ar cs := ⟨_, rfl⟩
  rw [← hf, ← hm, ← hn] at HCK
  unfold FV at HCK
  have HF := Lib.hid hf
  rw [← hm, ← hn]
  have S1 := ((St.start w).box hbx.symm #[.slice ao m ca, .slice co n cc] 25).box (b := bx + 1) (by simp [hbx]) #[.int .i64 0, .int .i64 0] 28
  have hz1 : ((w.alloc (.cells #[.slice ao m ca, .slice co n cc] 25)).alloc (.cells #[.int .i64 0, .int .i64 0] 28)).heap.size = bx + 2 := by simp [hbx]
  have HBX := Lib.hid (show w.heap.size = bx from hbx.symm)
  clear ha hc hp hq hna hnc hm hn hf
  go_enter Tryz.func9, Tryz.ntmps9
  go_upto_region 1 with fail
  rw [← hbx]
  refine S1.genC (z := bx + 2) (by omega) ?_
  clear S1 hz1 hbx
  intro w1 z1 S
  obtain ⟨⟨y0, y1⟩, y2, y3⟩ := S.two 0
  have HCK1 := Lib.hid (HCK.out w1 S.bel)
  go_wp2_with fail
  refine (HCK1.out).mono ?_
  rintro e w2 ⟨rfl, hb2⟩
  have S2 := S.step hb2
  obtain ⟨b4, hb4⟩ : ∃ b, b = w2.heap.size := ⟨_, rfl⟩
  have S3 := S2.box hb4.symm #[.int .i64 f.1, .int .i64 f.2] 28
  have hz3 : (w2.alloc (.cells #[.int .i64 f.1, .int .i64 f.2] 28)).heap.size = b4 + 1 := by simp [hb4]
  have HB4 := Lib.hid (show bx + 2 ≤ b4 by have := hb2.size; omega)
  clear S S2 HCK1 y0 y1 y2 y3
  go_upto_region 2 with fail
  rw [← hb4]
  refine S3.genC (z := b4 + 1) (by omega) ?_
  clear S3 hz3 hb4 hb2
  intro w3 z3 S
  obtain ⟨⟨t0, t1⟩, t2, t3⟩ := S.two 2
  by_cases h0 : f.1 = 0
  · have HGD := Lib.hid (gd_of (by rw [← HF.out]; exact h0))
    have HR := Lib.hid (show textR ar cs = if 4000 < (loreTxt ar cs).length then ((10, 0), []) else ((0, 0), loreTxt ar cs) by
      unfold textR; rw [← HF.out, if_neg (by rw [h0]; simp)])
    have h0b : (f.1 == 0) = true := by rw [beq_iff_eq]; exact h0
    obtain ⟨b5, hb5⟩ : ∃ b, b = w3.heap.size := ⟨_, rfl⟩
    have HBL := Lib.hid (Bld.fresh w.heap.size w3 (by have := HBX.out; have := HB4.out; omega))
    rw [← hb5] at HBL
    have HX := Lib.hid (heap_alloc_old (o' := .cells #[.pointer none, .slice none 0 0] 58) (S.block 0))
    have H3 := Lib.hid (heap_alloc_old (o' := .cells #[.pointer none, .slice none 0 0] 58) (S.block 1))
    have HBE := Lib.hid (S.bel.alloc (Nat.le_trans (Nat.le_refl _) S.size) (.cells #[.pointer none, .slice none 0 0] 58))
    have HB5 := Lib.hid (show bx + 2 ≤ b5 ∧ w3.heap.size = b5 from ⟨by have := HB4.out; omega, hb5.symm⟩)
    obtain ⟨w4, hw4⟩ : ∃ W, W = w3.alloc (.cells #[.pointer none, .slice none 0 0] 58) := ⟨_, rfl⟩
    have hz4 : b5 + 1 ≤ w4.heap.size := by rw [hw4, hb5]; simp
    rw [← hw4] at HBL HX H3 HBE
    clear S
    go_upto_region 5 with fail
    rw [← hb5, ← hw4]
    clear hw4 hb5 t0 t1 t2 t3
    have HST := Lib.hid (str16s sSigns [] w.heap.size b5 w4 HBL.out (by have := HBX.out; have := HB5.out; omega) (by simp [sSigns]))
    go_wp2_with fail
    refine (HST.out).mono ?_
    rintro e w5 ⟨⟨kk, rfl⟩, hbl5, hw5⟩
    have HNE := Lib.hid (show bx ≠ b5 ∧ bx + 1 ≠ b5 from ⟨by have := HB5.out; omega, by have := HB5.out; omega⟩)
    have HX5 := Lib.hid (hw5.box HX.out (by decide) HNE.out.1)
    have H35 := Lib.hid (hw5.box H3.out (by decide) HNE.out.2)
    have HBE5 := Lib.hid (HBE.out.trans hw5.1)
    have HBL5 := Lib.hid (show Bld w.heap.size b5 (sSigns ++ sgTxt (ar.take 0)) w5 by simpa [sgTxt] using hbl5)
    have hz5 : b5 + 1 ≤ w5.heap.size := by have := hw5.1.size; omega
    obtain ⟨⟨x0, _⟩, x2, _⟩ := box2 HX5.out
    clear HST hbl5 hw5
    go_upto_block 0 with fail
    go_cut [] (fun W => b5 + 1 ≤ W.heap.size ∧ Hid (Below w.heap.size w W) ∧ Hid (W.heap[bx]? = some (.cells #[.slice ao m ca, .slice co n cc] 25 (0, 0))) ∧ Hid (W.heap[bx + 1]? = some (.cells #[.int .i64 0, .int .i64 0] 28 (0, 0))) ∧ Hid (Bld w.heap.size b5 (sSigns ++ sgTxt ar) W))
    case first =>
      go_wp2_with fail
      go_loopw [22] (fun i wr => ∃ k : Nat, k ≤ m ∧ i = .int .i64 k ∧ b5 + 1 ≤ wr.heap.size ∧ Hid (Below w.heap.size w wr) ∧ Hid (wr.heap[bx]? = some (.cells #[.slice ao m ca, .slice co n cc] 25 (0, 0))) ∧ Hid (wr.heap[bx + 1]? = some (.cells #[.int .i64 0, .int .i64 0] 28 (0, 0))) ∧ Hid (Bld w.heap.size b5 (sSigns ++ sgTxt (ar.take k)) wr)) (fun i _ => m - (intOf i).toNat)
      case atStart => exact ⟨0, Nat.zero_le _, rfl, hz5, HBE5, HX5, H35, HBL5⟩
      case round =>
        obtain ⟨k, hk, rfl, hzr, HBr, HXr, H3r, HLr⟩ := hrel
        by_cases hlt : k < m
        · have hka : k < ar.length := by have := HM.out; omega
          obtain ⟨bb, off, rfl, hqb, c0'⟩ := HA.out.int hka
          have hx3 := HGD.out.2.2.1 ar[k] (List.getElem_mem hka)
          obtain ⟨i, hi⟩ : ∃ i : Nat, (i : Int) = ar[k] := ⟨ar[k].toNat, by omega⟩
          have c0 : wr.cell? ⟨bb, off + k, none⟩ = some (.int .i64 (i : Int)) := by
            rw [World.cell?_of_block (w := w) (w' := wr) (HBr.out.block bb (HQ.out bb hqb)), hi]; exact c0'
          have HSN := Lib.hid (show sgTxt (ar.take (k + 1)) = sgTxt (ar.take k) ++ 32 :: Lib.decDigits i by
            rw [List.take_succ_eq_append_getElem hka, sgTxt_snoc, ← hi]; rfl)
          have HLN := Lib.hid (show (sSigns ++ sgTxt (ar.take k)).length ≤ 100 by
            have h1 := sgTxt_le (ar.take k) (fun x hx => HGD.out.2.2.1 x (List.mem_of_mem_take hx))
            have h2 := HGD.out.1
            rw [List.length_take] at h1
            rw [List.length_append]; simp only [sSigns, List.length_cons, List.length_nil]; omega)
          have HI := Lib.hid (fun W => itoa17 i (by omega) W)
          have hds : ¬ 9223372036854775807 < 1 + (Lib.decDigits i).length := by have := dig_short (n := i) (by omega); omega
          have HDS := Lib.hid (dig_short (n := i) (by omega))
          have hcat : (⟨#[32]⟩ : ByteArray) ++ (⟨(Lib.decDigits i).toArray⟩ : ByteArray) = ⟨(32 :: Lib.decDigits i).toArray⟩ := cat_sV [32] _
          have HST := Lib.hid (str16s (32 :: Lib.decDigits i) (sSigns ++ sgTxt (ar.take k)) w.heap.size b5 wr HLr.out (by have := HBX.out; have := HB5.out; omega) (by have := HLN.out; have := HDS.out; simp only [List.length_cons] at *; omega))
          clear hi hx3 c0' hka
          go_wp2_with fail
          refine (HI.out _).mono ?_
          rintro e w6 ⟨rfl, hw6⟩
          have hw6 := hw6.symm
          subst hw6
          go_wp2_with fail
          refine (HST.out).mono ?_
          rintro e w7 ⟨⟨kk2, rfl⟩, hbl7, hw7⟩
          have HB7 := Lib.hid (show Bld w.heap.size b5 (sSigns ++ sgTxt (ar.take (k + 1))) w7 by rw [HSN.out]; simpa using hbl7)
          have HX7 := Lib.hid (hw7.box HXr.out (by decide) HNE.out.1)
          have H37 := Lib.hid (hw7.box H3r.out (by decide) HNE.out.2)
          have HE7 := Lib.hid (HBr.out.trans hw7.1)
          have hmb : m ≤ 100 := by have := HM.out; have := HGD.out.1; omega
          have hz7 : b5 + 1 ≤ w7.heap.size := by have := hw7.1.size; omega
          clear hbl7 hw7 HST hcat hds c0
          go_wp2_with fail
          go_roundw
          case rel => exact ⟨k + 1, by omega, by go_num, hz7, HE7, HX7, H37, HB7⟩
          case measure => simp [intOf]; omega
        · obtain rfl : k = m := by omega
          have HTK := Lib.hid (show ar.take k = ar by rw [HM.out, List.take_length])
          go_wp2_with fail
          go_meet
          case rel => exact ⟨hzr, HBr, HXr, H3r, by rw [HTK.out] at HLr; exact HLr⟩
    case rest =>
      clear HX HX5 H3 H35 HBE HBE5 HBL HBL5 x0 x2 hz4 hz5
      obtain ⟨hzr, HBr, HXr, H3r, HLr⟩ := hcut
      obtain ⟨w6, hw6⟩ : ∃ W, W = wc := ⟨_, rfl⟩
      subst hw6
      have HBY := Lib.hid (byte18s 10 10 (by rfl) _ w.heap.size b5 _ HLr.out (by have := HBX.out; have := HB5.out; omega) (by
        have h1 := sgTxt_le ar HGD.out.2.2.1
        have h2 := HGD.out.1
        rw [List.length_append]; simp only [sSigns, List.length_cons, List.length_nil]; omega))
      go_wp2_with fail
      refine (HBY.out).mono ?_
      rintro e w7 ⟨rfl, hbl7, hw7⟩
      have HX7 := Lib.hid (hw7.box HXr.out (by decide) HNE.out.1)
      have H37 := Lib.hid (hw7.box H3r.out (by decide) HNE.out.2)
      have HE7 := Lib.hid (HBr.out.trans hw7.1)
      have hz7 : b5 + 1 ≤ w7.heap.size := by have := hw7.1.size; omega
      obtain ⟨pre, hpre⟩ : ∃ p : Bs, p = sSigns ++ sgTxt ar ++ [10] := ⟨_, rfl⟩
      have HPL := Lib.hid (show pre.length ≤ 100 by
        have h1 := sgTxt_le ar HGD.out.2.2.1
        have h2 := HGD.out.1
        rw [hpre]
        simp only [sSigns, List.length_append, List.length_cons, List.length_nil]; omega)
      have HPT := Lib.hid (show loreTxt ar cs = pre ++ clsTxt cs by rw [hpre]; unfold loreTxt; simp)
      have HB7 := Lib.hid (show Bld w.heap.size b5 (pre ++ clsTxt (cs.take 0)) w7 by rw [hpre]; simpa [clsTxt] using hbl7)
      obtain ⟨⟨x0, _⟩, x2, _⟩ := box2 HX7.out
      have HT7 := Lib.hid (show TS w.heap.size b5 (bx + 1) w (pre ++ clsTxt (cs.take 0)) w7 from ⟨⟨by omega, by have := HBX.out; have := HB5.out; omega, HNE.out.2⟩, HE7.out, H37.out, HB7.out⟩)
      have hnb : n ≤ 60 := by have := HN.out; have := HGD.out.2.1; omega
      clear hbl7 hw7 HBY hpre HBr HXr H3r HLr hzr HB7 HE7 H37 HX7
      go_upto_block 2 with fail
      go_cut [] (fun W => Hid (TS w.heap.size b5 (bx + 1) w (pre ++ clsTxt cs) W))
      case first =>
        go_wp2_with fail
        go_loopw [35] (fun i wr => ∃ k : Nat, k ≤ n ∧ i = .int .i64 k ∧ Hid (TS w.heap.size b5 (bx + 1) w (pre ++ clsTxt (cs.take k)) wr)) (fun i _ => n - (intOf i).toNat)
        case atStart => exact ⟨0, Nat.zero_le _, rfl, HT7⟩
        case round =>
          obtain ⟨k, hk, rfl, HTr⟩ := hrel
          by_cases hlt : k < n
          · have hkc : k < cs.length := by have := HN.out; omega
            obtain ⟨bb, off, fo, fsp, rfl, hpb, c0', hrow, hml⟩ := HC.out.claim hkc
            have c0 := HTr.out.cell (HP.out bb hpb) c0'
            have hgc := HGD.out.2.2.2 cs[k] (List.getElem_mem hkc)
            obtain ⟨cl, hcl⟩ : ∃ c, c = cs[k] := ⟨_, rfl⟩
            rw [← hcl] at c0 hrow hgc hml
            have HSN := Lib.hid (show clsTxt (cs.take (k + 1)) = clsTxt (cs.take k) ++ (clTxt cl ++ [10]) by
              rw [List.take_succ_eq_append_getElem hkc, clsTxt_snoc, ← hcl])
            have HROW := Lib.hid hrow
            have HGC := Lib.hid hgc
            obtain ⟨L, hL⟩ : ∃ L, L = cl.length := ⟨_, rfl⟩
            have HLL := Lib.hid hL
            have hL6 : L ≤ 6 := by rw [hL]; exact hgc.1
            rw [← hL] at c0
            have HLN := Lib.hid (show (pre ++ clsTxt (cs.take k)).length ≤ 147000 by
              have h1 := clsTxt_le (cs.take k) (fun x hx => HGD.out.2.2.2 x (List.mem_of_mem_take hx))
              have h2 := HPL.out
              rw [List.length_take] at h1
              rw [List.length_append]; omega)
            obtain ⟨b9, hb9⟩ : ∃ b, b = wr.heap.size := ⟨_, rfl⟩
            have HT1 := Lib.hid (HTr.out.alloc (.cells #[.slice fo L (L + fsp)] 42))
            have H9 := Lib.hid (heap_ofAlloc wr (.cells #[.slice fo L (L + fsp)] 42))
            rw [← hb9] at H9
            have HN9 := Lib.hid (show b9 ≠ b5 by have := HTr.out.1; omega)
            have HST := Lib.hid (HT1.out.str sClaim (by have := HLN.out; simp only [sClaim, List.length_cons, List.length_nil]; omega))
            obtain ⟨wq, hwq⟩ : ∃ W, W = wr := ⟨_, rfl⟩
            subst hwq
            clear hcl hrow hgc hL c0' hml hkc
            go_wp2_with fail
            rw [← hb9]
            clear hb9
            refine (HST.out).mono ?_
            rintro e w8 ⟨⟨kk3, rfl⟩, hT8, hw8⟩
            have H98 := Lib.hid (hw8.box H9.out (by decide) HN9.out)
            have h98 := box1 H98.out
            obtain ⟨pr2, hpr2⟩ : ∃ p : Bs, p = pre ++ clsTxt (cs.take k) ++ sClaim := ⟨_, rfl⟩
            have HP2 := Lib.hid (show pr2.length ≤ 147005 by rw [hpr2, List.length_append]; have := HLN.out; simp only [sClaim, List.length_cons, List.length_nil]; omega)
            have HT8 := Lib.hid (show TS w.heap.size b5 (bx + 1) w (pr2 ++ fsTxt true (cl.take 0)) w8 by rw [hpr2]; simpa [fsTxt] using hT8)
            have HPR := Lib.hid (show pre ++ clsTxt (cs.take (k + 1)) = pr2 ++ fsTxt true cl ++ [10] by rw [HSN.out, hpr2]; unfold clTxt; simp)
            obtain ⟨x9, _⟩ := h98
            clear HST hT8 hw8 H9 HT1 hpr2
            go_upto_block 4 with fail
            go_cut [] (fun W => Hid (TS w.heap.size b5 (bx + 1) w (pr2 ++ fsTxt true cl) W))
            case first =>
              go_wp2_with fail
              go_loopw [43] (fun i wr => ∃ j : Nat, j ≤ L ∧ i = .int .i64 j ∧ Hid (TS w.heap.size b5 (bx + 1) w (pr2 ++ fsTxt true (cl.take j)) wr)) (fun i _ => L - (intOf i).toNat)
              case atStart => exact ⟨0, Nat.zero_le _, rfl, HT8⟩
              case round =>
                obtain ⟨j, hj, rfl, HTj⟩ := hrel
                by_cases hjl : j < L
                · have hjc : j < cl.length := by have := HLL.out; omega
                  obtain ⟨fb, fo2, kL, spL, kR, spR, rfl, hpf, f0', f1', f2', f3', f4', hTL, hTR⟩ := HROW.out.fact hjc
                  have hgf := HGC.out.2 cl[j] (List.getElem_mem hjc)
                  obtain ⟨fc, hfc⟩ : ∃ f, f = cl[j] := ⟨_, rfl⟩
                  rw [← hfc] at f0' f1' f2' f3' f4' hTL hTR hgf
                  have hpb2 := HP.out fb hpf
                  have f0 := HTj.out.cell hpb2 f0'
                  have f1 := HTj.out.cell hpb2 f1'
                  have f2 := HTj.out.cell hpb2 f2'
                  have f3 := HTj.out.cell hpb2 f3'
                  have f4 := HTj.out.cell hpb2 f4'
                  obtain ⟨gp, hgp⟩ : ∃ g : Bs, g = (if (true && (cl.take j).isEmpty) = true then [] else [32, 124]) := ⟨_, rfl⟩
                  have HSF := Lib.hid (show fsTxt true (cl.take (j + 1)) = fsTxt true (cl.take j) ++ (gp ++ fcTxt fc) by
                    rw [List.take_succ_eq_append_getElem hjc, fsTxt_snoc, ← hfc, hgp])
                  have HTLR := Lib.hid (And.intro hTL hTR)
                  have HGF := Lib.hid hgf
                  have HLJ := Lib.hid (show (pr2 ++ fsTxt true (cl.take j)).length ≤ 150000 by
                    have h1 := fsTxt_le (cl.take j) true (fun x hx => HGC.out.2 x (List.mem_of_mem_take hx))
                    have h2 := HP2.out
                    rw [List.length_take] at h1
                    rw [List.length_append]; omega)
                  have HGP := Lib.hid (show gp = (if 0 < j then [32, 124] else []) by
                    rw [hgp]
                    by_cases h : 0 < j
                    · rw [if_pos h, if_neg]
                      intro e
                      have e2 : (cl.take j).isEmpty = true := by simpa using e
                      have := List.isEmpty_iff.1 e2
                      have := congrArg List.length this
                      rw [List.length_take, List.length_nil] at this
                      omega
                    · have hj0 : j = 0 := by omega
                      rw [if_neg h, if_pos (by rw [hj0]; rfl)])
                  obtain ⟨b11, hb11⟩ : ∃ b, b = wr.heap.size := ⟨_, rfl⟩
                  have HU1 := Lib.hid (HTj.out.alloc (.cells #[.bool fc.neg, .int .i64 fc.l.head, .slice kL fc.l.kids.length (fc.l.kids.length + spL), .int .i64 fc.r.head, .slice kR fc.r.kids.length (fc.r.kids.length + spR)] 53))
                  have HV1 := Lib.hid (heap_ofAlloc wr (.cells #[.bool fc.neg, .int .i64 fc.l.head, .slice kL fc.l.kids.length (fc.l.kids.length + spL), .int .i64 fc.r.head, .slice kR fc.r.kids.length (fc.r.kids.length + spR)] 53))
                  rw [← hb11] at HV1
                  have HNV := Lib.hid (show b11 ≠ b5 by have := HTj.out.1; omega)
                  obtain ⟨wv, hwv⟩ : ∃ W, W = wr.alloc (.cells #[.bool fc.neg, .int .i64 fc.l.head, .slice kL fc.l.kids.length (fc.l.kids.length + spL), .int .i64 fc.r.head, .slice kR fc.r.kids.length (fc.r.kids.length + spR)] 53) := ⟨_, rfl⟩
                  rw [← hwv] at HU1 HV1
                  clear hgp hfc f0' f1' f2' f3' f4' hTL hTR hgf hpb2 hjc
                  go_upto_region 19 with fail
                  rw [← hb11, ← hwv]
                  clear hb11 hwv f0 f1 f2 f3 f4
                  go_upto_if 49 with fail
                  go_cut [] (fun W => Hid (TS w.heap.size b5 (bx + 1) w (pr2 ++ fsTxt true (cl.take j) ++ gp) W) ∧ Hid (W.heap[b11]? = some (.cells #[.bool fc.neg, .int .i64 fc.l.head, .slice kL fc.l.kids.length (fc.l.kids.length + spL), .int .i64 fc.r.head, .slice kR fc.r.kids.length (fc.r.kids.length + spR)] 53 (0, 0))))
                  case first =>
                    by_cases hj0 : 0 < j
                    · have HG2 := Lib.hid (show gp = [32, 124] by rw [HGP.out, if_pos hj0])
                      have HST := Lib.hid (HU1.out.str [32, 124] (by have := HLJ.out; simp only [List.length_cons, List.length_nil]; omega))
                      go_wp2_with fail
                      refine (HST.out).mono ?_
                      rintro e w10 ⟨⟨kk4, rfl⟩, hT10, hw10⟩
                      have HV2 := Lib.hid (hw10.box HV1.out (by decide) HNV.out)
                      have HT10 := Lib.hid hT10
                      go_wp2_with fail
                      go_meet
                      case rel => rw [HG2.out]; exact ⟨HT10, HV2⟩
                    · have HG2 := Lib.hid (show gp = [] by rw [HGP.out, if_neg hj0])
                      go_wp2_with fail
                      go_meet
                      case rel => rw [HG2.out, List.append_nil]; exact ⟨HU1, HV1⟩
                  case rest =>
                    clear HU1 HV1
                    obtain ⟨HU2, HV2⟩ := hcut
                    have hgl : gp.length ≤ 2 := by rw [HGP.out]; split <;> simp
                    have HLG := Lib.hid (show (pr2 ++ fsTxt true (cl.take j) ++ gp).length ≤ 150002 by have := HLJ.out; rw [List.length_append]; omega)
                    have HBY := Lib.hid (HU2.out.byte 32 32 (by rfl) (by have := HLG.out; omega))
                    go_wp2_with fail
                    refine (HBY.out).mono ?_
                    rintro e w11 ⟨rfl, hT11, hw11⟩
                    have HV3 := Lib.hid (hw11.box HV2.out (by decide) HNV.out)
                    have HT11 := Lib.hid hT11
                    obtain ⟨q1, q2, q3, q4, q5⟩ := box5 HV3.out
                    have HW1 := Lib.hid (HT11.out.tree HTLR.out.1 HP.out HGF.out.1 (by have := HLG.out; rw [List.length_append]; simp only [List.length_cons, List.length_nil]; omega))
                    clear HBY hT11 hw11
                    go_wp2_with fail
                    refine (HW1.out).mono ?_
                    rintro e w12 ⟨rfl, hT12, hw12⟩
                    have HV4 := Lib.hid (hw12.box HV3.out (by decide) HNV.out)
                    have HT12 := Lib.hid hT12
                    clear HW1 hT12 hw12 q1 q2 q3 q4 q5
                    obtain ⟨q1, q2, q3, q4, q5⟩ := box5 HV4.out
                    have hLL := HGF.out.1.len
                    have hRL := HGF.out.2.len
                    go_upto_if 56 with fail
                    go_cut [] (fun W => Hid (TS w.heap.size b5 (bx + 1) w (pr2 ++ fsTxt true (cl.take j) ++ gp ++ [32] ++ fc.l.txt ++ negT fc.neg) W) ∧ Hid (W.heap[b11]? = some (.cells #[.bool fc.neg, .int .i64 fc.l.head, .slice kL fc.l.kids.length (fc.l.kids.length + spL), .int .i64 fc.r.head, .slice kR fc.r.kids.length (fc.r.kids.length + spR)] 53 (0, 0))))
                    case first =>
                      cases hng : fc.neg with
                      | true =>
                        have HBY := Lib.hid (HT12.out.byte 33 33 (by rfl) (by have := HLG.out; simp only [List.length_append, List.length_cons, List.length_nil] at *; omega))
                        go_wp2_with fail
                        refine (HBY.out).mono ?_
                        rintro e w13 ⟨rfl, hT13, hw13⟩
                        have HV5 := Lib.hid (hw13.box HV4.out (by decide) HNV.out)
                        have HT13 := Lib.hid hT13
                        go_wp2_with fail
                        go_meet
                        case rel => exact ⟨by rw [hng]; exact HT13, HV5⟩
                      | false =>
                        go_wp2_with fail
                        go_meet
                        case rel => exact ⟨by rw [hng]; simpa [negT] using HT12, HV4⟩
                    case rest =>
                      clear q1 q2 q3 q4 q5 HT12 HV4
                      obtain ⟨HU5, HV5⟩ := hcut
                      have hnl : (negT fc.neg).length ≤ 1 := by cases fc.neg <;> simp [negT]
                      have HLN2 := Lib.hid (show (pr2 ++ fsTxt true (cl.take j) ++ gp ++ [32] ++ fc.l.txt ++ negT fc.neg).length ≤ 150300 by have := HLG.out; simp only [List.length_append, List.length_cons, List.length_nil] at *; omega)
                      have HBY := Lib.hid (HU5.out.byte 61 61 (by rfl) (by have := HLN2.out; omega))
                      go_wp2_with fail
                      refine (HBY.out).mono ?_
                      rintro e w14 ⟨rfl, hT14, hw14⟩
                      have HV6 := Lib.hid (hw14.box HV5.out (by decide) HNV.out)
                      have HT14 := Lib.hid hT14
                      obtain ⟨q1, q2, q3, q4, q5⟩ := box5 HV6.out
                      have HW1 := Lib.hid (HT14.out.tree HTLR.out.2 HP.out HGF.out.2 (by have := HLN2.out; rw [List.length_append]; simp only [List.length_cons, List.length_nil]; omega))
                      clear HBY hT14 hw14
                      go_wp2_with fail
                      refine (HW1.out).mono ?_
                      rintro e w15 ⟨rfl, hT15, hw15⟩
                      have HT15 := Lib.hid (show TS w.heap.size b5 (bx + 1) w (pr2 ++ fsTxt true (cl.take (j + 1))) w15 by
                        rw [HSF.out]
                        unfold fcTxt
                        simpa using hT15)
                      clear HW1 hT15 hw15 q1 q2 q3 q4 q5
                      go_wp2_with fail
                      go_roundw
                      case rel => exact ⟨j + 1, by omega, by go_num, HT15⟩
                      case measure => simp [intOf]; omega
                · obtain rfl : j = L := by omega
                  have HTK := Lib.hid (show cl.take j = cl by rw [HLL.out, List.take_length])
                  go_wp2_with fail
                  go_meet
                  case rel => rw [HTK.out] at HTj; exact HTj
            case rest =>
              clear HT8 x9
              have HTc := hcut
              have HBY := Lib.hid (HTc.out.byte 10 10 (by rfl) (by
                have h1 := fsTxt_le cl true HGC.out.2
                have h2 := HP2.out; have h3 := HGC.out.1
                rw [List.length_append]; omega))
              go_wp2_with fail
              refine (HBY.out).mono ?_
              rintro e w9 ⟨rfl, hT9, hw9⟩
              have HT9 := Lib.hid (show TS w.heap.size b5 (bx + 1) w (pre ++ clsTxt (cs.take (k + 1))) w9 by rw [HPR.out]; exact hT9)
              clear HBY hT9 hw9
              go_wp2_with fail
              go_roundw
              case rel => exact ⟨k + 1, by omega, by go_num, HT9⟩
              case measure => simp [intOf]; omega
          · obtain rfl : k = n := by omega
            have HTK := Lib.hid (show cs.take k = cs by rw [HN.out, List.take_length])
            go_wp2_with fail
            go_meet
            case rel => rw [HTK.out] at HTr; exact HTr
      case rest =>
        have HTc := hcut
        have HLE := Lib.hid (len20 _ _ b5 wc HTc.out.2.2.2)
        have HSG := Lib.hid (str21 _ _ b5 wc HTc.out.2.2.2 HTc.out.1.2.1)
        rw [← HPT.out] at HLE HSG
        obtain ⟨⟨u0, u1⟩, u2, u3⟩ := box2 HTc.out.2.2.1
        have hb30 : w.heap.size ≤ bx + 1 := by have := HBX.out; omega
        have H33 := Lib.hid HTc.out.2.2.1
        by_cases hbig : 4000 < (loreTxt ar cs).length
        · have HR2 := Lib.hid (show textR ar cs = ((10, 0), []) by rw [HR.out, if_pos hbig])
          have hbi : (4000 : Int) < ((loreTxt ar cs).length : Int) := by omega
          have HBL3 := Lib.hid HTc.out.2.1
          go_wp2_with fail
          refine (HLE.out).mono ?_
          rintro e w9 ⟨rfl, hw9⟩
          have hw9 := hw9.symm
          subst hw9
          go_wp2_with fail
          refine ret_sb (sV []) (.int .i64 10) (.int .i64 0) (bx + 1) 28 (box2_set H33.out _ _) (fun w' q0 q1 => by simp [results, Tryz.results9, go_sem, q0, q1]) rfl ?_
          exact ⟨by rw [HR2.out], (HBL3.out.setCell (p := ⟨bx + 1, 0, none⟩) hb30 _).setCell (p := ⟨bx + 1, 1, none⟩) hb30 _⟩
        · have HR2 := Lib.hid (show textR ar cs = ((0, 0), loreTxt ar cs) by rw [HR.out, if_neg hbig])
          have hbi : ¬ (4000 : Int) < ((loreTxt ar cs).length : Int) := by omega
          go_wp2_with fail
          refine (HLE.out).mono ?_
          rintro e w9 ⟨rfl, hw9⟩
          have hw9 := hw9.symm
          subst hw9
          go_wp2_with fail
          refine (HSG.out).mono ?_
          rintro e w10 ⟨rfl, hw10⟩
          have H34 := Lib.hid (hw10.box H33.out (by decide) HNE.out.2)
          have HBL3 := Lib.hid (HTc.out.2.1.trans hw10.1)
          clear u0 u1 u2 u3
          obtain ⟨⟨u0, u1⟩, u2, u3⟩ := box2 H34.out
          go_wp2_with fail
          refine ret_sb (sV (loreTxt ar cs)) (.int .i64 0) (.int .i64 0) (bx + 1) 28 (box2_set H34.out _ _) (fun w' q0 q1 => by simp [results, Tryz.results9, go_sem, q0, q1]) rfl ?_
          exact ⟨by rw [HR2.out], (HBL3.out.setCell (p := ⟨bx + 1, 0, none⟩) hb30 _).setCell (p := ⟨bx + 1, 1, none⟩) hb30 _⟩
  · have HR := Lib.hid (show textR ar cs = (f, []) by unfold textR; rw [← HF.out, if_pos h0])
    have h0b : (f.1 == 0) = false := by rw [beq_eq_false_iff_ne]; exact h0
    obtain ⟨⟨u0, u1⟩, u2, u3⟩ := S.two 1
    have hne : b4 ≠ bx + 1 := by have := HB4.out; omega
    have SF := Lib.hid ((S.set2 1 rfl (.int .i64 f.1) (.int .i64 f.2) (by have := HBX.out; omega) (by have := HB4.out; simp only [fsnoc, offs, offAll, Fct.box, and_true]; omega)).drew)
    clear S
    go_upto_region 3 with fail
    go_region
    all_goals go_wp2_with fail
    all_goals
      refine ret_sb (sV []) (.int .i64 f.1) (.int .i64 f.2) (bx + 1) 28 (SF.out.block 1) (fun w' q0 q1 => by simp [results, Tryz.results9, go_sem, q0, q1]) rfl ?_
      exact ⟨by rw [HR.out], SF.out.bel⟩
end Go.Proofs.YtidgnbdlfngeaaaGreatDoor
