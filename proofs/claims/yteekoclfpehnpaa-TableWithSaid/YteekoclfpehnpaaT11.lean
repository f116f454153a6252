/-
  Walks: tree.Apply.
-/
import Derived.Test.YteekoclfpehnpaaProg
import Derived.Test.YteekoclfpehnpaaBase
import Derived.Test.YteekoclfpehnpaaXb
namespace Go.Proofs.Yteekoclfpehnpaa
open Go.RowKit Go.Shelf
set_option linter.unusedVariables false
set_option maxHeartbeats 400000

set_option maxRecDepth 100000 in
set_option maxHeartbeats 4000000 in
theorem apply45 (bs : List T) (t : T) : ∀ (p0 : Nat → Prop) (v : Value) (bo_ : Option Addr) (bc : Nat) (w : World), (∀ b, p0 b → b < w.heap.size) → bs.length ≤ 1000 → TreeP p0 w v t → RowP p0 w bo_ bs → t.low → t.size ≤ 100000000 → (∀ i, i < bs.length → (gK bs i).size ≤ 100000000) →
    Calls Try.prog 85 #[v, .slice bo_ bs.length bc] w fun e w' => ∃ u, e = .returned u ∧ TreeP (fun b => p0 b ∨ w.heap.size ≤ b) w' u (t.sub bs) ∧ Below w.heap.size w w' := by
  induction t using T.ind with
  | h t ih =>
  intro p0 v bo_ bc w hp0 hbs ht hbrow hlow hsz hbsz
  have HBSZ := Lib.hid hbsz; clear hbsz
  have HP0 := Lib.hid hp0
  have HTP := Lib.hid ht
  obtain ⟨ao, sp, rfl, hr, hml⟩ := ht.open
  have hml : t.kids.length ≤ 9223372036854775807 := hml
  have HR := Lib.hid hr; have IH := Lib.hid ih; have HBR0 := Lib.hid hbrow
  have HLOW := Lib.hid ((T.low_eq t).1 hlow)
  have hlo : -1000 ≤ t.head := HLOW.out.1
  clear ht hr ih hp0 hbrow hlow
  have hX := heap_alloc_old (o' := .cells #[.int .i64 0, .slice none 0 0] 44) (heap_ofAlloc w (.cells #[.int .i64 t.head, .slice ao t.kids.length (t.kids.length + sp)] 44))
  have hA := heap_ofAlloc (w.alloc (.cells #[.int .i64 t.head, .slice ao t.kids.length (t.kids.length + sp)] 44)) (.cells #[.int .i64 0, .slice none 0 0] 44)
  rw [World.size_alloc] at hA
  have hbb := ((Below.refl w.heap.size w).alloc (Nat.le_refl _) (.cells #[.int .i64 t.head, .slice ao t.kids.length (t.kids.length + sp)] 44)).alloc (by simp) (.cells #[.int .i64 0, .slice none 0 0] 44)
  by_cases hneg : t.head < 0
  · obtain ⟨m, hm⟩ := Int.eq_ofNat_of_zero_le (show 0 ≤ -t.head - 1 by omega)
    have hm1 : (-t.head - 1).toNat = m := by omega
    have hm2 : -t.head - 1 = (m : Int) := hm
    have hm3 : m ≤ 1000 := by omega
    have hx0 := heap_lt hX; have ha0 := heap_lt hA
    have hnp : ¬ p0 (w.heap.size + 1) := fun h => by have := HP0.out _ h; omega
    cases hbd : boundB bs m with
    | true =>
      have HSUB := Lib.hid (T.sub_var (bs := bs) hneg (by rw [hm1]; exact hbd))
      simp only [boundB, Bool.and_eq_true, decide_eq_true_eq, bne_iff_ne, ne_eq] at hbd
      obtain ⟨hml2, hhd⟩ := hbd
      obtain ⟨bb, boff, bk, bsp, rfl, hpb, c1, c2, c3⟩ := HBR0.out m hml2
      have hne : ((gK bs m).head != 0) = true := by simpa using hhd
      have HC := Lib.hid c3
      have HM1 := Lib.hid hm1
      have d1 := Below.cellOf hbb c1
      have d2 := Below.cellOf hbb c2
      have HBB := Lib.hid hbb
      clear c1 c2 c3 hhd hm1 hm hX hbb
      have hmlt : (m : Int) < (bs.length : Int) := by omega
      obtain ⟨⟨y0, y1⟩, y2, y3⟩ := box2 hA
      have HA0 := Lib.hid hA
      go_enter Try.func85, Try.ntmps85
      go_wp2_with fail
      refine (copy50 (gK bs m) _ _ (HC.out.kept HBB.out).at (HBSZ.out m hml2)).mono ?_
      rintro e w2 ⟨u, rfl, hu, hb2⟩
      obtain ⟨uk, usp, rfl⟩ := hu.at.form
      have HU := Lib.hid hu
      have ha2 := Below.heapAt hb2 HA0.out
      have HB2 := Lib.hid (Below.step HBB.out hb2)
      clear hu hb2 y0 y1 y2 y3
      have hal := heap_lt ha2
      obtain ⟨⟨y0, y1⟩, y2, y3⟩ := box2 ha2
      go_wp2_with fail
      refine ret_box2 (.int .i64 (gK bs m).head) (.slice uk (gK bs m).kids.length ((gK bs m).kids.length + usp)) (w.heap.size + 1) 44 (box2_set ha2 _ _) (fun w' q0 q1 => by simp [results, Try.results85, go_sem, q0, q1]) rfl ?_
      refine ⟨_, rfl, ?_, (HB2.out.setCell (p := ⟨w.heap.size + 1, 0, none⟩) (by simp) _).setCell (p := ⟨w.heap.size + 1, 1, none⟩) (by simp) _⟩
      rw [HSUB.out, HM1.out]
      exact ((HU.out.setCell (a := ⟨w.heap.size + 1, 0, none⟩) (by simp) _).setCell (a := ⟨w.heap.size + 1, 1, none⟩) (by simp) _).mono (fun b h _ => by right; simp at h; omega)
    | false =>
      have HSUB := Lib.hid (T.sub_free (bs := bs) hneg (by rw [hm1]; exact hbd))
      have HBB := Lib.hid hbb
      obtain ⟨⟨y0, y1⟩, y2, y3⟩ := box2 hA
      obtain ⟨⟨x0, _⟩, x1, _⟩ := box2 hX
      by_cases hml2 : m < bs.length
      · obtain ⟨bb, boff, bk, bsp, rfl, hpb, c1, c2, c3⟩ := HBR0.out m hml2
        have hne : ((gK bs m).head != 0) = false := by simp only [boundB, decide_eq_true hml2, Bool.true_and] at hbd; exact hbd
        have d1 := Below.cellOf hbb c1
        clear c1 c2 c3 hm1 hm hX hbb hbd
        have hmlt : (m : Int) < (bs.length : Int) := by omega
        go_enter Try.func85, Try.ntmps85
        go_wp2_with fail
        refine ret_box2 (.int .i64 t.head) (.slice ao t.kids.length (t.kids.length + sp)) (w.heap.size + 1) 44 (heap_ofAlloc2 _ _ _) (fun w' q0 q1 => by simp [results, Try.results85, go_sem, q0, q1]) rfl ?_
        refine ⟨_, rfl, ?_, below_two _ _ _⟩
        rw [HSUB.out]
        exact (HTP.out.kept (below_two _ _ _)).mono (fun b h _ => Or.inl h)
      · clear hm1 hm hX hbb hbd
        have hmlt : ¬ (m : Int) < (bs.length : Int) := by omega
        go_enter Try.func85, Try.ntmps85
        go_wp2_with fail
        refine ret_box2 (.int .i64 t.head) (.slice ao t.kids.length (t.kids.length + sp)) (w.heap.size + 1) 44 (heap_ofAlloc2 _ _ _) (fun w' q0 q1 => by simp [results, Try.results85, go_sem, q0, q1]) rfl ?_
        refine ⟨_, rfl, ?_, below_two _ _ _⟩
        rw [HSUB.out]
        exact (HTP.out.kept (below_two _ _ _)).mono (fun b h _ => Or.inl h)
  · have HSUB := Lib.hid (T.sub_pos (bs := bs) hneg)
    have hB := heap_ofAlloc ((w.alloc (.cells #[.int .i64 t.head, .slice ao t.kids.length (t.kids.length + sp)] 44)).alloc (.cells #[.int .i64 0, .slice none 0 0] 44)) (.cells #[.int .i64 t.head, .slice none 0 0] 44)
    rw [World.size_alloc, World.size_alloc] at hB
    have hA := heap_alloc_old (o' := .cells #[.int .i64 t.head, .slice none 0 0] 44) hA
    have hX := heap_alloc_old (o' := .cells #[.int .i64 t.head, .slice none 0 0] 44) hX
    have hb0 := hbb.alloc (by simp; omega) (.cells #[.int .i64 t.head, .slice none 0 0] 44)
    go_enter Try.func85, Try.ntmps85
    go_wp2_with fail
    have hsz0 : (((w.alloc (.cells #[.int .i64 t.head, .slice ao t.kids.length (t.kids.length + sp)] 44)).alloc (.cells #[.int .i64 0, .slice none 0 0] 44)).alloc (.cells #[.int .i64 t.head, .slice none 0 0] 44)).heap.size = w.heap.size + 3 := by simp
    generalize ((w.alloc (.cells #[.int .i64 t.head, .slice ao t.kids.length (t.kids.length + sp)] 44)).alloc (.cells #[.int .i64 0, .slice none 0 0] 44)).alloc (.cells #[.int .i64 t.head, .slice none 0 0] 44) = w0 at hX hA hB hb0 hsz0 ⊢
    have XX := Lib.hid hX; have XA := Lib.hid hA; have XB := Lib.hid hB; have HB0 := Lib.hid hb0; have HS0 := Lib.hid hsz0
    have HSZ := Lib.hid hsz
    clear hX hA hB hb0 hsz0 hsz hbb hlo
    obtain ⟨bx, hbx⟩ : ∃ b, b = w.heap.size := ⟨_, rfl⟩
    obtain ⟨br, hbr⟩ : ∃ b, b = w.heap.size + 1 := ⟨_, rfl⟩
    obtain ⟨bo, hbo⟩ : ∃ b, b = w.heap.size + 1 + 1 := ⟨_, rfl⟩
    have XX' : w0.heap[bx]? = some (.cells #[.int .i64 t.head, .slice ao t.kids.length (t.kids.length + sp)] 44 (0, 0)) := by rw [hbx]; exact XX.out
    have XB' : w0.heap[bo]? = some (.cells #[.int .i64 t.head, .slice none 0 0] 44 (0, 0)) := by rw [hbo]; exact XB.out
    have XA' : w0.heap[br]? = some (.cells #[.int .i64 0, .slice none 0 0] 44 (0, 0)) := by rw [hbr]; exact XA.out
    rw [← hbo, ← hbr, ← hbx]
    have HBX := Lib.hid hbx; have HBR := Lib.hid hbr; have HBO := Lib.hid hbo
    have XX := Lib.hid XX'; have XB := Lib.hid XB'; have XA := Lib.hid XA'; clear XB' XA' XX' hbx hbr hbo
    obtain ⟨i24, gi, gz0, gz1, gz2⟩ := info_parts info24
    go_loopw [8, 40] (fun _ i wr => ∃ (k : Nat) (o : Value), k ≤ t.kids.length ∧ i = .int .i64 k ∧ wr.heap[bo]? = some (.cells #[.int .i64 t.head, o] 44 (0, 0)) ∧ wr.heap[br]? = some (.cells #[.int .i64 0, .slice none 0 0] 44 (0, 0)) ∧
      wr.heap[bx]? = some (.cells #[.int .i64 t.head, .slice ao t.kids.length (t.kids.length + sp)] 44 (0, 0)) ∧
      RowOwn (fun b => p0 b ∨ w0.heap.size ≤ b) w0.heap.size wr o ((t.kids.take k).map (T.sub bs)) ∧ Below w.heap.size w wr ∧ w0.heap.size ≤ wr.heap.size) (fun _ i _ => t.kids.length - (intOf i).toNat)
    case atStart => exact ⟨0, .slice none 0 0, by omega, rfl, XB.out, XA.out, XX.out, RowOwn.nil _ _ _, HB0.out, Nat.le_refl _⟩
    case round =>
      obtain ⟨k, o, hk, rfl, ho, hres, hxx, hrow, hb, hws⟩ := hrel
      by_cases hlt : k < t.kids.length
      · have hr1 := (HR.out.kept hb) k hlt
        obtain ⟨b, off, ko, ksp, rfl, hpb, c1, c2, c3⟩ := hr1
        have HC := Lib.hid c3
        have HKS := Lib.hid (show (gK t.kids k).size ≤ 100000000 by have h1 := kid_size hlt; have h2 := HSZ.out; rw [T.size_eq] at h2; omega)
        have HTK := Lib.hid (show (t.kids.take (k + 1)).map (T.sub bs) = (t.kids.take k).map (T.sub bs) ++ [(gK t.kids k).sub bs] by rw [take_gK hlt, List.map_append]; rfl)
        have hlk : ((t.kids.take k).map (T.sub bs)).length = k := by simp; omega
        obtain ⟨cs, hown, hkids⟩ := hrow
        rw [hlk] at hown hkids
        have HKI := Lib.hid hkids
        have hcl : cs.length = k * 2 := hown.1
        have HCL := Lib.hid hcl; have HLK := Lib.hid hlk
        have HRES := Lib.hid hres
        have HO := Lib.hid ho; have HXX := Lib.hid hxx
        have HOWN := Lib.hid hown
        have HB := Lib.hid hb; have HWS := Lib.hid hws
        have hbW := (Below.refl wr.heap.size wr).alloc (Nat.le_refl _) (.cells #[.int .i64 (gK t.kids k).head, .slice ko (gK t.kids k).kids.length ((gK t.kids k).kids.length + ksp)] 44)
        have ho1 := heap_alloc_old (o' := .cells #[.int .i64 (gK t.kids k).head, .slice ko (gK t.kids k).kids.length ((gK t.kids k).kids.length + ksp)] 44) ho
        have h51 := heap_ofAlloc wr (.cells #[.int .i64 (gK t.kids k).head, .slice ko (gK t.kids k).kids.length ((gK t.kids k).kids.length + ksp)] 44)
        clear c3 hlk hkids hown hcl hres
        obtain ⟨⟨x0, _⟩, x1, _⟩ := box2 hxx
        clear x0
        go_wp2_with fail
        generalize wr.alloc (.cells #[.int .i64 (gK t.kids k).head, .slice ko (gK t.kids k).kids.length ((gK t.kids k).kids.length + ksp)] 44) = W1 at hbW ho1 h51 ⊢
        have HBW := Lib.hid hbW.drew
        have HC1 := Lib.hid (HC.out.kept hbW.drew)
        have HBR1 := Lib.hid (HBR0.out.kept (Below.step hb hbW.drew))
        have HP1 := Lib.hid (show ∀ b, p0 b → b < W1.drew.heap.size from fun b h => by have h1 := HP0.out b h; have h2 := hb.size; have h3 := HBW.out.size; omega)
        have ho2 : W1.drew.heap[bo]? = some (.cells #[.int .i64 t.head, o] 44 (0, 0)) := ho1
        have h52 : W1.drew.heap[wr.heap.size]? = some (.cells #[.int .i64 (gK t.kids k).head, .slice ko (gK t.kids k).kids.length ((gK t.kids k).kids.length + ksp)] 44 (0, 0)) := h51
        obtain ⟨⟨y0, _⟩, d2, _⟩ := box2 ho2
        obtain ⟨⟨d3, _⟩, d4, _⟩ := box2 h52
        have HO2 := Lib.hid ho2
        clear ho ho1 ho2 h51 h52 hxx x1 c1 c2 y0 hbW hb
        go_region_law (first
          | (refine step_append_lies _ (by rfl) (.tmp 45) (.tmp 49) 42 (by rfl) w0.heap.size 44 i24 (.agg #[.int .i64 0, .slice none 0 0]) 2 32 Try.underlying42 gi gz0 gz1 gz2 rfl (by decide) o k cs (by rfl) (HOW2.out.alloc _)
              ⟨w2.heap.size, 0, none⟩ 1 1 [.int .i64 ((gK t.kids k).sub bs).head, .slice uk ((gK t.kids k).sub bs).kids.length (((gK t.kids k).sub bs).kids.length + usp)] (by rfl) (by rfl) (World.news_of_block (cs := #[.int .i64 ((gK t.kids k).sub bs).head, .slice uk ((gK t.kids k).sub bs).kids.length (((gK t.kids k).sub bs).kids.length + usp)]) (t := 44) (fr := (0, 0)) (heap_ofAlloc w2 _)) (by simp [Value.oneCell'])
              (by omega) (by unfold maxLen; omega) (by omega) (by simp; omega) (w2.heap.size + 1) (by simp) ?_; intro gg cap w3 hown3 hgrow3 hat3 hlt3; have HO3 := Lib.hid hown3; have HG3 := Lib.hid hgrow3; have hat3' := hat3; clear hown3 hgrow3 hat3; obtain ⟨⟨u0, u1⟩, u2, u3⟩ := box2 ((HX3.out _ HG3.out bo (heap_lt HO.out) HOF.out).trans HO.out); have hlo3 := heap_lt ((HX3.out _ HG3.out bo (heap_lt HO.out) HOF.out).trans HO.out); have HAT := Lib.hid hat3'; clear hat3')
          | (go_simp; go_at_call 85; refine (IH.out k hlt p0 _ _ _ _ HP1.out hbs HC1.out HBR1.out (HLOW.out.2 k hlt) HKS.out HBSZ.out).mono ?_; rintro e w2 ⟨u, rfl, hu, hb2⟩; obtain ⟨uk, usp, rfl⟩ := hu.at.form
             have HU := Lib.hid hu
             have HB2 := Lib.hid (Below.step HBW.out hb2)
             have HOW2 := Lib.hid (own_below HOWN.out HB2.out)
             have hs2 : w0.heap.size ≤ w2.heap.size := Nat.le_trans HWS.out HB2.out.size
             have hkm : k ≤ 100000000 := by have h1 := length_le_sizeL t.kids; have h2 := HSZ.out; rw [T.size_eq] at h2; omega
             have HX3 := Lib.hid (fun (w3 : World) (hg : (w2.alloc (.cells #[.int .i64 ((gK t.kids k).sub bs).head, .slice uk ((gK t.kids k).sub bs).kids.length (((gK t.kids k).sub bs).kids.length + usp)] 44)).grownBy w3 o.ownBlock) => show ∀ b, b < wr.heap.size → o.ownBlock ≠ some b → w3.heap[b]? = wr.heap[b]? from fun b hbl hne => ((hg.block b (by simp; have := HB2.out.size; omega) (fun e => hne e.symm)).trans (Below.heap_alloc w2 _ b (by have := HB2.out.size; omega))).trans (HB2.out.block b hbl))
             have HUX := Lib.hid (fun (w3 : World) (hg : (w2.alloc (.cells #[.int .i64 ((gK t.kids k).sub bs).head, .slice uk ((gK t.kids k).sub bs).kids.length (((gK t.kids k).sub bs).kids.length + usp)] 44)).grownBy w3 o.ownBlock) => show ∀ b, o.ownBlock ≠ some b → b < w2.heap.size → w3.heap[b]? = w2.heap[b]? from fun b h1 h2 => (hg.block b (by simp; omega) (fun e => h1 e.symm)).trans (Below.heap_alloc w2 _ b h2))
             have HOF := Lib.hid (show o.ownBlock ≠ some bo from fun e => by have h3 := (HOWN.out.lt bo e).1; have := HS0.out; have := HBO.out; omega)
             have HRF := Lib.hid (show o.ownBlock ≠ some br from fun e => by have h3 := (HOWN.out.lt br e).1; have := HS0.out; have := HBR.out; omega)
             have HXF := Lib.hid (show o.ownBlock ≠ some bx from fun e => by have h3 := (HOWN.out.lt bx e).1; have := HS0.out; have := HBX.out; omega)
             have hlo2 := heap_lt (Below.heapAt hb2 HO2.out)
             have z2 := Below.cellOf hb2 d2
             have z3 := Below.cellOf hb2 d3
             have z4 := Below.cellOf hb2 d4
             clear hu hb2))
        all_goals
          have hwb : w.heap.size ≤ bo := by have := HBO.out; omega
          have hbo1 : bo < w0.heap.size := by have := HS0.out; have := HBO.out; omega
          have hw0 : w.heap.size ≤ w0.heap.size := by have := HS0.out; omega
          have hfin : RowOwn (fun b => p0 b ∨ w0.heap.size ≤ b) w0.heap.size (w3.setCell ⟨bo, 1, none⟩ (.slice (some ⟨gg, 0, none⟩) (k + 1) cap)) (.slice (some ⟨gg, 0, none⟩) (k + 1) cap) ((t.kids.take k).map (T.sub bs) ++ [(gK t.kids k).sub bs]) := by
            have hsame : ∀ b, (p0 b ∨ w0.heap.size ≤ b) → (w3.setCell ⟨bo, 1, none⟩ (.slice (some ⟨gg, 0, none⟩) (k + 1) cap)).heap[b]? = w3.heap[b]? := fun b hb => Below.heap_setCell w3 _ _ b (by
              rcases hb with hb | hb
              · have := HP0.out b hb; simp; omega
              · simp; omega)
            have hownne : ∀ b, (p0 b ∨ wr.heap.size ≤ b) → o.ownBlock ≠ some b := fun b hb e => by
              have h3 := HOWN.out.lt b e
              rcases hb with hb | hb
              · have := HP0.out b hb; omega
              · omega
            refine RowOwn.push (by rw [HLK.out]; exact ownsRow_setCell_below HO3.out hbo1 _) (by rw [HLK.out]; exact HCL.out) (fun i hi => ?_) ?_
            · rw [HLK.out] at hi
              obtain ⟨k', sp', e1, e2, e3⟩ := HKI.out i hi
              refine ⟨k', sp', e1, e2, ?_⟩
              have q1 := e3.mono (q := fun b => (p0 b ∨ w0.heap.size ≤ b) ∧ o.ownBlock ≠ some b ∧ b < wr.heap.size) (fun b h h2 => ⟨h.1, h.2, h2⟩)
              have q2 := q1.carry (w' := w3.setCell ⟨bo, 1, none⟩ (.slice (some ⟨gg, 0, none⟩) (k + 1) cap)) (fun b h _ => (hsame b h.1).trans (HX3.out _ HG3.out b h.2.2 h.2.1))
              exact q2.mono (fun b h _ => ⟨h.1, fun e => by
                have e' : gg = b := by simpa [Value.ownBlock] using e
                rcases HAT.out with h4 | h4
                · exact h.2.1 (by rw [h4, e'])
                · have := HB2.out.size; have := h.2.2; omega⟩)
            · have q1 := HU.out.mono (q := fun b => (p0 b ∨ wr.heap.size ≤ b) ∧ b < w2.heap.size) (fun b h h2 => ⟨by rcases h with h | h; exact .inl h; right; have := HBW.out.size; omega, h2⟩)
              have q2 := q1.carry (w' := w3.setCell ⟨bo, 1, none⟩ (.slice (some ⟨gg, 0, none⟩) (k + 1) cap)) (fun b h _ => (hsame b (by rcases h.1 with h1 | h1; exact .inl h1; right; have := HWS.out; omega)).trans (HUX.out _ HG3.out b (hownne b h.1) h.2))
              exact q2.mono (fun b h _ => ⟨by rcases h.1 with h1 | h1; exact .inl h1; right; have := HWS.out; omega, fun e => by
                have e' : gg = b := by simpa [Value.ownBlock] using e
                rcases HAT.out with h4 | h4
                · exact hownne b h.1 (by rw [h4, e'])
                · have := h.2; omega⟩)
          have HFIN := Lib.hid hfin
          have hset := box2_set1 ((HX3.out _ HG3.out bo (heap_lt HO.out) HOF.out).trans HO.out) (.slice (some ⟨gg, 0, none⟩) (k + 1) cap)
          have hbr3 := heap_set_other (a := ⟨bo, 1, none⟩) (u := .slice (some ⟨gg, 0, none⟩) (k + 1) cap) ((HX3.out _ HG3.out br (heap_lt HRES.out) HRF.out).trans HRES.out) (by simp; have := HBR.out; have := HBO.out; omega)
          have hbx3 := heap_set_other (a := ⟨bo, 1, none⟩) (u := .slice (some ⟨gg, 0, none⟩) (k + 1) cap) ((HX3.out _ HG3.out bx (heap_lt HXX.out) HXF.out).trans HXX.out) (by simp; have := HBX.out; have := HBO.out; omega)
          have hbel3 : Below w.heap.size w w3 := ((Below.step HB.out HB2.out).alloc (by have := (Below.step HB.out HB2.out).size; omega) _).grown HG3.out (by simp; have := (Below.step HB.out HB2.out).size; omega) (fun q hq => by have := (HOWN.out.lt q hq).1; omega)
          have hbel4 := hbel3.setCell (p := ⟨bo, 1, none⟩) hwb (.slice (some ⟨gg, 0, none⟩) (k + 1) cap)
          have hsz4 : w0.heap.size ≤ (w3.setCell ⟨bo, 1, none⟩ (.slice (some ⟨gg, 0, none⟩) (k + 1) cap)).heap.size := by simp; have := HG3.out.size; simp at this; omega
          clear hfin
          go_wp2_with fail
          go_roundw
          case rel => exact ⟨k + 1, _, by omega, by go_num, hset, hbr3, hbx3, by rw [HTK.out]; exact HFIN.out, hbel4, hsz4⟩
          case measure => simp [intOf] <;> omega
      · obtain rfl : k = t.kids.length := by omega
        rw [List.take_length] at hrow
        obtain ⟨ao', sp', rfl, hrow', hml'⟩ := hrow.row (fun _ h => .inr h)
        have hlm : (t.kids.map (T.sub bs)).length = t.kids.length := by simp
        have HT := Lib.hid (TreeP.close (h := t.head) (sp := sp') hrow' hml')
        rw [hlm] at ho HT
        clear hrow hrow' hlm hml'
        have l1 := heap_lt ho; have l2 := heap_lt hres
        obtain ⟨⟨x0, x1⟩, x2, x3⟩ := box2 ho
        obtain ⟨⟨y0, y1⟩, y2, y3⟩ := box2 hres
        obtain ⟨⟨z0, _⟩, z1, _⟩ := box2 hxx
        have hbre : w.heap.size ≤ br := by have := HBR.out; omega
        go_wp2_with fail
        refine ret_box2 (.int .i64 t.head) (.slice ao' t.kids.length (t.kids.length + sp')) br 44 (box2_set hres _ _) (fun w' q0 q1 => by simp [results, Try.results85, go_sem, q0, q1]) rfl ?_
        refine ⟨_, rfl, ?_, (hb.setCell (p := ⟨br, 0, none⟩) hbre _).setCell (p := ⟨br, 1, none⟩) hbre _⟩
        rw [HSUB.out]
        have hnp : ¬ (p0 br ∨ w0.heap.size ≤ br) := by
          rintro (h | h)
          · have := HP0.out br h; have := HBR.out; omega
          · have := HS0.out; have := HBR.out; omega
        exact ((HT.out.setCell (a := ⟨br, 0, none⟩) hnp _).setCell (a := ⟨br, 1, none⟩) hnp _).mono (fun b h _ => by rcases h with h | h; exact .inl h; right; have := HS0.out; omega)
end Go.Proofs.Yteekoclfpehnpaa
