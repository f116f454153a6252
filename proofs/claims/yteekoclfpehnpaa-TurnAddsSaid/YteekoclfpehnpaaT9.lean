/-
  Walks: tree.Copy.
-/
import Derived.Test.YteekoclfpehnpaaProg
import Derived.Test.YteekoclfpehnpaaBase
import Derived.Test.YteekoclfpehnpaaT8
import Derived.Deep.RegionHeld3
import Derived.Deep.AppendLies
import Derived.Deep.OwnRows
import Derived.Deep.RegionLaw
import Derived.RegionTactic
namespace Go.Proofs.Yteekoclfpehnpaa
open Go.RowKit Go.Shelf
set_option linter.unusedVariables false
set_option maxHeartbeats 400000

theorem info24 : (Try.prog.info? 44).map (fun i => (i.zero, i.size, i.bytes)) = some (some (.agg #[.int .i64 0, .slice none 0 0]), 2, 32) := by kernel_rfl

theorem own_below {base : Nat} {e : TypeId} {k : Nat} {v : Value} {n : Nat} {xs : List Value} {w w' : World} (h : w.ownsRow base e k v n xs) (hb : Below w.heap.size w w') : w'.ownsRow base e k v n xs :=
  World.ownsRow.kept h (row := none) ⟨hb.os, hb.tape, hb.output, hb.size, fun k hk _ => hb.block k hk⟩ (by cases h : v.ownBlock with | none => exact .inl rfl | some x => exact .inr (by simp))

/-- a row of trees that the call itself has gathered -/
def RowOwn (p : Nat → Prop) (B : Nat) (w : World) (o : Value) (ks : List T) : Prop :=
  ∃ cs, w.ownsRow B 44 2 o ks.length cs ∧ ∀ i, i < ks.length → ∃ k sp, cs[i * 2]? = some (.int .i64 (gK ks i).head) ∧ cs[i * 2 + 1]? = some (.slice k (gK ks i).kids.length ((gK ks i).kids.length + sp)) ∧
    TreeP (fun b => p b ∧ o.ownBlock ≠ some b) w (.agg #[.int .i64 (gK ks i).head, .slice k (gK ks i).kids.length ((gK ks i).kids.length + sp)]) (gK ks i)
theorem RowOwn.nil (p : Nat → Prop) (B : Nat) (w : World) : RowOwn p B w (.slice none 0 0) [] := ⟨[], World.ownsRow_nil _ _ _ _, fun i hi => by simp at hi⟩
theorem RowOwn.row {p : Nat → Prop} {B : Nat} {w : World} {o : Value} {ks : List T} (h : RowOwn p B w o ks) (hp : ∀ b, B ≤ b → p b) : ∃ ao sp, o = .slice ao ks.length (ks.length + sp) ∧ RowP p w ao ks ∧ ks.length ≤ maxLen := by
  obtain ⟨cs, ho, hk⟩ := h
  obtain ⟨_, h2⟩ := ho
  rcases h2 with ⟨rfl, hn⟩ | ⟨g, cap, cur, rfl, hB, hh, hnc, hm, hsz, htk⟩
  · have : ks = [] := List.eq_nil_of_length_eq_zero hn
    subst this
    exact ⟨none, 0, rfl, fun j hj => by simp at hj, by simp⟩
  · refine ⟨some ⟨g, 0, none⟩, cap - ks.length, by congr 1; omega, fun j hj => ?_, by omega⟩
    obtain ⟨k, sp, c1, c2, c3⟩ := hk j hj
    refine ⟨g, 0, k, sp, rfl, hp g hB, ?_, ?_, c3.mono (fun b h _ => h.1)⟩
    · rw [← htk, List.getElem?_take, if_pos (by omega)] at c1
      simp only [World.cell?, hh, Nat.zero_add, Option.isSome_none]
      rw [← Array.getElem?_toList, c1]; simp
    · rw [← htk, List.getElem?_take, if_pos (by omega)] at c2
      simp only [World.cell?, hh, Nat.zero_add, Option.isSome_none]
      rw [← Array.getElem?_toList, c2]; simp
theorem gK_append_lt {ks : List T} {x : T} {i : Nat} (h : i < ks.length) : gK (ks ++ [x]) i = gK ks i := by simp [gK, List.getElem?_append_left h]
theorem gK_append_eq {ks : List T} {x : T} : gK (ks ++ [x]) ks.length = x := by simp [gK]
theorem RowOwn.push {p : Nat → Prop} {B : Nat} {w : World} {o : Value} {ks : List T} {x : T} {cs : List Value} {k : Option Addr} {sp : Nat} (ho : w.ownsRow B 44 2 o (ks.length + 1) (cs ++ [.int .i64 x.head, .slice k x.kids.length (x.kids.length + sp)])) (hl : cs.length = ks.length * 2)
    (hk : ∀ i, i < ks.length → ∃ k sp, cs[i * 2]? = some (.int .i64 (gK ks i).head) ∧ cs[i * 2 + 1]? = some (.slice k (gK ks i).kids.length ((gK ks i).kids.length + sp)) ∧
      TreeP (fun b => p b ∧ o.ownBlock ≠ some b) w (.agg #[.int .i64 (gK ks i).head, .slice k (gK ks i).kids.length ((gK ks i).kids.length + sp)]) (gK ks i))
    (hx : TreeP (fun b => p b ∧ o.ownBlock ≠ some b) w (.agg #[.int .i64 x.head, .slice k x.kids.length (x.kids.length + sp)]) x) : RowOwn p B w o (ks ++ [x]) := by
  refine ⟨_, by simpa using ho, fun i hi => ?_⟩
  by_cases h : i < ks.length
  · rw [gK_append_lt h]
    obtain ⟨k, sp, c1, c2, c3⟩ := hk i h
    exact ⟨k, sp, by rw [List.getElem?_append_left (by omega)]; exact c1, by rw [List.getElem?_append_left (by omega)]; exact c2, c3⟩
  · have e : i = ks.length := by simp at hi; omega
    subst e
    rw [gK_append_eq]
    exact ⟨k, sp, by rw [List.getElem?_append_right (by omega)]; simp [hl], by rw [List.getElem?_append_right (by omega)]; simp [hl], hx⟩

theorem length_le_sizeL : ∀ (l : List T), l.length ≤ sizeL l
  | [] => by simp
  | t :: r => by simp only [List.length_cons, sizeL]; have := length_le_sizeL r; have := t.size_pos; omega
theorem box2_set1 {w : World} {b : Nat} {x y : Value} {T : TypeId} (h : w.heap[b]? = some (.cells #[x, y] T (0, 0))) (v : Value) : (w.setCell ⟨b, 1, none⟩ v).heap[b]? = some (.cells #[x, v] T (0, 0)) := by
  simp [World.setCell, Array.getElem?_modify, h]

set_option maxRecDepth 100000 in
set_option maxHeartbeats 4000000 in
theorem copy50 (t : T) : ∀ (v : Value) (w : World), TreeAt w v t → t.size ≤ 100000000 →
    Calls Try.prog 88 #[v] w fun e w' => ∃ u, e = .returned u ∧ TreeP (fun b => w.heap.size ≤ b) w' u t ∧ Below w.heap.size w w' := by
  induction t using T.ind with
  | h t ih =>
  intro v w ht hsz
  obtain ⟨ao, sp, rfl, hr, hml⟩ := ht.open
  have hml : t.kids.length ≤ 9223372036854775807 := hml
  have HR := Lib.hid hr; have IH := Lib.hid ih
  clear ht hr ih
  have hA := heap_alloc_old (o' := .cells #[.int .i64 t.head, .slice none 0 0] 44) (heap_ofAlloc (w.alloc (.cells #[.int .i64 t.head, .slice ao t.kids.length (t.kids.length + sp)] 44)) (.cells #[.int .i64 0, .slice none 0 0] 44))
  have hB := heap_ofAlloc ((w.alloc (.cells #[.int .i64 t.head, .slice ao t.kids.length (t.kids.length + sp)] 44)).alloc (.cells #[.int .i64 0, .slice none 0 0] 44)) (.cells #[.int .i64 t.head, .slice none 0 0] 44)
  rw [World.size_alloc] at hA
  rw [World.size_alloc, World.size_alloc] at hB
  have hb0 := (((Below.refl w.heap.size w).alloc (Nat.le_refl _) (.cells #[.int .i64 t.head, .slice ao t.kids.length (t.kids.length + sp)] 44)).alloc (by simp) (.cells #[.int .i64 0, .slice none 0 0] 44)).alloc (by simp; omega) (.cells #[.int .i64 t.head, .slice none 0 0] 44)
  go_enter Try.func88, Try.ntmps88
  go_wp2_with fail
  have hsz0 : (((w.alloc (.cells #[.int .i64 t.head, .slice ao t.kids.length (t.kids.length + sp)] 44)).alloc (.cells #[.int .i64 0, .slice none 0 0] 44)).alloc (.cells #[.int .i64 t.head, .slice none 0 0] 44)).heap.size = w.heap.size + 3 := by simp
  generalize ((w.alloc (.cells #[.int .i64 t.head, .slice ao t.kids.length (t.kids.length + sp)] 44)).alloc (.cells #[.int .i64 0, .slice none 0 0] 44)).alloc (.cells #[.int .i64 t.head, .slice none 0 0] 44) = w0 at hA hB hb0 hsz0 ⊢
  have XA := Lib.hid hA; have XB := Lib.hid hB; have HB0 := Lib.hid hb0; have HS0 := Lib.hid hsz0
  have HSZ := Lib.hid hsz
  clear hA hB hb0 hsz0 hsz
  obtain ⟨br, hbr⟩ : ∃ b, b = w.heap.size + 1 := ⟨_, rfl⟩
  obtain ⟨bo, hbo⟩ : ∃ b, b = w.heap.size + 1 + 1 := ⟨_, rfl⟩
  have XB' : w0.heap[bo]? = some (.cells #[.int .i64 t.head, .slice none 0 0] 44 (0, 0)) := by rw [hbo]; exact XB.out
  have XA' : w0.heap[br]? = some (.cells #[.int .i64 0, .slice none 0 0] 44 (0, 0)) := by rw [hbr]; exact XA.out
  rw [← hbo, ← hbr]
  have HBR := Lib.hid hbr; have HBO := Lib.hid hbo
  clear hbr hbo
  obtain ⟨i24, gi, gz0, gz1, gz2⟩ := info_parts info24
  have XB := Lib.hid XB'; have XA := Lib.hid XA'; clear XB' XA'
  go_loopw [5, 12] (fun _ i wr => ∃ (k : Nat) (o : Value), k ≤ t.kids.length ∧ i = .int .i64 k ∧ wr.heap[bo]? = some (.cells #[.int .i64 t.head, o] 44 (0, 0)) ∧ wr.heap[br]? = some (.cells #[.int .i64 0, .slice none 0 0] 44 (0, 0)) ∧
    RowOwn (fun b => w0.heap.size ≤ b) w0.heap.size wr o (t.kids.take k) ∧ Below w.heap.size w wr ∧ w0.heap.size ≤ wr.heap.size) (fun _ i _ => t.kids.length - (intOf i).toNat)
  case atStart => exact ⟨0, .slice none 0 0, by omega, rfl, XB.out, XA.out, RowOwn.nil _ _ _, HB0.out, Nat.le_refl _⟩
  case round =>
    obtain ⟨k, o, hk, rfl, ho, hres, hrow, hb, hws⟩ := hrel
    by_cases hlt : k < t.kids.length
    · obtain ⟨b, off, ko, ksp, rfl, c1, c2, c3⟩ := (HR.out.below hb) k hlt
      have HC := Lib.hid c3
      have HKS := Lib.hid (show (gK t.kids k).size ≤ 100000000 by have h1 := kid_size hlt; have h2 := HSZ.out; rw [T.size_eq] at h2; omega)
      have HTK := Lib.hid (take_gK hlt)
      have hlk : (t.kids.take k).length = k := by simp; omega
      obtain ⟨cs, hown, hkids⟩ := hrow
      rw [hlk] at hown hkids
      have HKI := Lib.hid hkids
      have hcl : cs.length = k * 2 := hown.1
      have HCL := Lib.hid hcl; have HLK := Lib.hid hlk
      have HRES := Lib.hid hres
      have HO := Lib.hid ho
      have HOWN := Lib.hid hown
      have HB := Lib.hid hb; have HWS := Lib.hid hws
      clear c3 hlk hkids hown hcl hres
      go_wp2_with fail
      have ho1 := heap_alloc_old (o' := .cells #[.int .i64 (gK t.kids k).head, .slice ko (gK t.kids k).kids.length ((gK t.kids k).kids.length + ksp)] 44) HO.out
      have h51 := heap_ofAlloc wr (.cells #[.int .i64 (gK t.kids k).head, .slice ko (gK t.kids k).kids.length ((gK t.kids k).kids.length + ksp)] 44)
      have hbW := (Below.refl wr.heap.size wr).alloc (Nat.le_refl _) (.cells #[.int .i64 (gK t.kids k).head, .slice ko (gK t.kids k).kids.length ((gK t.kids k).kids.length + ksp)] 44)
      generalize wr.alloc (.cells #[.int .i64 (gK t.kids k).head, .slice ko (gK t.kids k).kids.length ((gK t.kids k).kids.length + ksp)] 44) = W1 at ho1 h51 hbW ⊢
      have HC1 := Lib.hid (HC.out.kept hbW.drew)
      have HBW := Lib.hid hbW.drew
      have ho2 : W1.drew.heap[bo]? = some (.cells #[.int .i64 t.head, o] 44 (0, 0)) := ho1
      have h52 : W1.drew.heap[wr.heap.size]? = some (.cells #[.int .i64 (gK t.kids k).head, .slice ko (gK t.kids k).kids.length ((gK t.kids k).kids.length + ksp)] 44 (0, 0)) := h51
      clear ho1 h51 hbW ho
      obtain ⟨⟨x0, _⟩, x1, _⟩ := box2 ho2
      obtain ⟨⟨y0, _⟩, y1, _⟩ := box2 h52
      have HO2 := Lib.hid ho2
      clear ho2 h52 c1 c2
      go_region_law (first
        | (refine step_append_lies _ (by rfl) (.tmp 17) (.tmp 20) 42 (by rfl) w0.heap.size 44 i24 (.agg #[.int .i64 0, .slice none 0 0]) 2 32 Try.underlying42 gi gz0 gz1 gz2 rfl (by decide) o k cs (by rfl) (HOW2.out.alloc _)
            ⟨w2.heap.size, 0, none⟩ 1 1 [.int .i64 (gK t.kids k).head, .slice uk (gK t.kids k).kids.length ((gK t.kids k).kids.length + usp)] (by rfl) (by rfl) (World.news_of_block (cs := #[.int .i64 (gK t.kids k).head, .slice uk (gK t.kids k).kids.length ((gK t.kids k).kids.length + usp)]) (t := 44) (fr := (0, 0)) (heap_ofAlloc w2 _)) (by simp [Value.oneCell'])
            (by omega) (by unfold maxLen; omega) (by omega) (by simp; omega) (w2.heap.size + 1) (by simp) ?_; intro gg cap w3 hown3 hgrow3 hat3 hlt3; have HO3 := Lib.hid hown3; have HG3 := Lib.hid hgrow3; have hat3' := hat3; clear hown3 hgrow3 hat3; obtain ⟨⟨u0, u1⟩, u2, u3⟩ := box2 ((HX3.out _ HG3.out bo (heap_lt HO.out) HOF.out).trans HO.out); have hlo3 := heap_lt ((HX3.out _ HG3.out bo (heap_lt HO.out) HOF.out).trans HO.out); have HAT := Lib.hid hat3'; clear hat3')
        | (go_simp; go_at_call 88; refine (IH.out k hlt _ _ HC1.out HKS.out).mono ?_; rintro e w2 ⟨u, rfl, hu, hb2⟩; obtain ⟨uk, usp, rfl⟩ := hu.at.form
           have HU := Lib.hid hu
           have HB2 := Lib.hid (Below.step HBW.out hb2)
           have HOW2 := Lib.hid (own_below HOWN.out HB2.out)
           have hs2 : w0.heap.size ≤ w2.heap.size := Nat.le_trans HWS.out HB2.out.size
           have hkm : k ≤ 100000000 := by have h1 := length_le_sizeL t.kids; have h2 := HSZ.out; rw [T.size_eq] at h2; omega
           have HX3 := Lib.hid (fun (w3 : World) (hg : (w2.alloc (.cells #[.int .i64 (gK t.kids k).head, .slice uk (gK t.kids k).kids.length ((gK t.kids k).kids.length + usp)] 44)).grownBy w3 o.ownBlock) => show ∀ b, b < wr.heap.size → o.ownBlock ≠ some b → w3.heap[b]? = wr.heap[b]? from fun b hbl hne => ((hg.block b (by simp; have := HB2.out.size; omega) (fun e => hne e.symm)).trans (Below.heap_alloc w2 _ b (by have := HB2.out.size; omega))).trans (HB2.out.block b hbl))
           have HUX := Lib.hid (fun (w3 : World) (hg : (w2.alloc (.cells #[.int .i64 (gK t.kids k).head, .slice uk (gK t.kids k).kids.length ((gK t.kids k).kids.length + usp)] 44)).grownBy w3 o.ownBlock) => show ∀ b, W1.drew.heap.size ≤ b → b < w2.heap.size → w3.heap[b]? = w2.heap[b]? from fun b h1 h2 => (hg.block b (by simp; omega) (fun e => by have h3 := (HOWN.out.lt b e.symm).2; have h4 := HBW.out.size; omega)).trans (Below.heap_alloc w2 _ b h2))
           have HOF := Lib.hid (show o.ownBlock ≠ some bo from fun e => by have h3 := (HOWN.out.lt bo e).1; have := HS0.out; have := HBO.out; omega)
           have HRF := Lib.hid (show o.ownBlock ≠ some br from fun e => by have h3 := (HOWN.out.lt br e).1; have := HS0.out; have := HBR.out; omega)
           have hlo2 := heap_lt (Below.heapAt hb2 HO2.out)
           have z1 := Below.cellOf hb2 x1
           clear hu hb2))
      all_goals
        have hbo1 : bo < w0.heap.size := by have := HS0.out; have := HBO.out; omega
        have hwb : w.heap.size ≤ bo := by have := HBO.out; omega
        have hw0 : w.heap.size ≤ w0.heap.size := by have := HS0.out; omega
        have hfin : RowOwn (fun b => w0.heap.size ≤ b) w0.heap.size (w3.setCell ⟨bo, 1, none⟩ (.slice (some ⟨gg, 0, none⟩) (k + 1) cap)) (.slice (some ⟨gg, 0, none⟩) (k + 1) cap) (t.kids.take k ++ [gK t.kids k]) := by
          have hsame : ∀ b, w0.heap.size ≤ b → (w3.setCell ⟨bo, 1, none⟩ (.slice (some ⟨gg, 0, none⟩) (k + 1) cap)).heap[b]? = w3.heap[b]? := fun b hb => Below.heap_setCell w3 _ _ b (by simp; omega)
          refine RowOwn.push (by rw [HLK.out]; exact ownsRow_setCell_below HO3.out hbo1 _) (by rw [HLK.out]; exact HCL.out) (fun i hi => ?_) ?_
          · rw [HLK.out] at hi
            obtain ⟨k', sp', e1, e2, e3⟩ := HKI.out i hi
            refine ⟨k', sp', e1, e2, ?_⟩
            have q1 := e3.mono (q := fun b => w0.heap.size ≤ b ∧ o.ownBlock ≠ some b ∧ b < wr.heap.size) (fun b h h2 => ⟨h.1, h.2, h2⟩)
            have q2 := q1.carry (w' := w3.setCell ⟨bo, 1, none⟩ (.slice (some ⟨gg, 0, none⟩) (k + 1) cap)) (fun b h _ => (hsame b h.1).trans (HX3.out _ HG3.out b h.2.2 h.2.1))
            exact q2.mono (fun b h _ => ⟨h.1, fun e => by
              have e' : gg = b := by simpa [Value.ownBlock] using e
              rcases HAT.out with h4 | h4
              · exact h.2.1 (by rw [h4, e'])
              · have := HB2.out.size; have := h.2.2; omega⟩)
          · have q1 := HU.out.mono (q := fun b => W1.drew.heap.size ≤ b ∧ b < w2.heap.size) (fun b h h2 => ⟨h, h2⟩)
            have q2 := q1.carry (w' := w3.setCell ⟨bo, 1, none⟩ (.slice (some ⟨gg, 0, none⟩) (k + 1) cap)) (fun b h _ => (hsame b (by have := HBW.out.size; have := HWS.out; omega)).trans (HUX.out _ HG3.out b h.1 h.2))
            exact q2.mono (fun b h _ => ⟨by have := HBW.out.size; have := HWS.out; omega, fun e => by
              have e' : gg = b := by simpa [Value.ownBlock] using e
              rcases HAT.out with h4 | h4
              · have h3 := (HOWN.out.lt gg h4).2; have h5 := HBW.out.size; have := h.1; omega
              · have := h.2; omega⟩)
        have HFIN := Lib.hid hfin
        have hset := box2_set1 ((HX3.out _ HG3.out bo (heap_lt HO.out) HOF.out).trans HO.out) (.slice (some ⟨gg, 0, none⟩) (k + 1) cap)
        have hbr3 := heap_set_other (a := ⟨bo, 1, none⟩) (u := .slice (some ⟨gg, 0, none⟩) (k + 1) cap) ((HX3.out _ HG3.out br (heap_lt HRES.out) HRF.out).trans HRES.out) (by simp; have := HBR.out; have := HBO.out; omega)
        have hbel3 : Below w.heap.size w w3 := ((Below.step HB.out HB2.out).alloc (by have := (Below.step HB.out HB2.out).size; omega) _).grown HG3.out (by simp; have := (Below.step HB.out HB2.out).size; omega) (fun q hq => by have := (HOWN.out.lt q hq).1; omega)
        have hbel4 := hbel3.setCell (p := ⟨bo, 1, none⟩) hwb (.slice (some ⟨gg, 0, none⟩) (k + 1) cap)
        have hsz4 : w0.heap.size ≤ (w3.setCell ⟨bo, 1, none⟩ (.slice (some ⟨gg, 0, none⟩) (k + 1) cap)).heap.size := by simp; have := HG3.out.size; simp at this; omega
        clear hfin
        go_wp2_with fail
        go_roundw
        case rel => exact ⟨k + 1, _, by omega, by go_num, hset, hbr3, by rw [HTK.out]; exact HFIN.out, hbel4, hsz4⟩
        case measure => simp [intOf] <;> omega
    · obtain rfl : k = t.kids.length := by omega
      rw [List.take_length] at hrow
      obtain ⟨ao', sp', rfl, hrow', hml'⟩ := hrow.row (fun _ h => h)
      have HT := Lib.hid (TreeP.close (h := t.head) (sp := sp') hrow' hml')
      clear hrow hrow'
      have l1 := heap_lt ho; have l2 := heap_lt hres
      obtain ⟨⟨x0, x1⟩, x2, x3⟩ := box2 ho
      obtain ⟨⟨y0, y1⟩, y2, y3⟩ := box2 hres
      have hbre : w.heap.size ≤ br := by have := HBR.out; omega
      go_wp2_with fail
      refine ret_box2 (.int .i64 t.head) (.slice ao' t.kids.length (t.kids.length + sp')) br 44 (box2_set hres _ _) (fun w' q0 q1 => by simp [results, Try.results88, go_sem, q0, q1]) rfl ?_
      refine ⟨_, rfl, ?_, (hb.setCell (p := ⟨br, 0, none⟩) hbre _).setCell (p := ⟨br, 1, none⟩) hbre _⟩
      have hT : TreeP (fun b => w0.heap.size ≤ b) wr (.agg #[.int .i64 t.head, .slice ao' t.kids.length (t.kids.length + sp')]) t := by cases t; exact HT.out
      exact ((hT.setCell (a := ⟨br, 0, none⟩) (by simp; have := HS0.out; have := HBR.out; omega) _).setCell (a := ⟨br, 1, none⟩) (by simp; have := HS0.out; have := HBR.out; omega) _).mono (fun b h _ => by have := HS0.out; omega)
end Go.Proofs.Yteekoclfpehnpaa
