/-
  Walks: table.Holds.
-/
import Derived.Test.YteekoclfpehnpaaProg
import Derived.Test.YteekoclfpehnpaaV10
import Derived.RegionTactic
namespace Go.Proofs.Yteekoclfpehnpaa
open Go.RowKit Go.Shelf
set_option linter.unusedVariables false
set_option maxHeartbeats 400000

def boolE : Elt Bool where
  ty := 4
  n := 1
  is p w cs a := cs = [.bool a]
  pos := by omega
  len := fun e => by rw [e]; rfl
  one := fun e u hu => by rw [e] at hu; simp at hu; subst hu; rfl
  keep := fun hk e => e
theorem Elt.Row.bool {p : Nat → Prop} {w : World} {ao : Option Addr} {cs : List Bool} (h : boolE.Row p w ao cs) {i : Nat} (hi : i < cs.length) : ∃ b off, ao = some ⟨b, off, none⟩ ∧ p b ∧ w.cell? ⟨b, off + i, none⟩ = some (.bool cs[i]) := by
  obtain ⟨b, off, c, e, hp, hc, rfl⟩ := h i cs[i] (List.getElem?_eq_getElem hi)
  exact ⟨b, off, e, hp, by have := hc 0 _ rfl; simpa [boolE] using this⟩
theorem infoB : (Try.prog.info? 4).map (fun i => (i.zero, i.size, i.bytes)) = some (some (.bool false), 1, 1) := by kernel_rfl
noncomputable def holdsF (ar : List Int) (cs : List (List Fc)) (sz : Int) (tb : List (List Int)) : List Bool × (Int × Int) :=
  if (tabF ar cs sz tb).1 ≠ 0 then ([], tabF ar cs sz tb) else if 0 ≤ idxP (wideB sz.toNat) cs then ([], (10, idxP (wideB sz.toNat) cs)) else (cs.map (trueF sz.toNat tb), (0, 0))
def HoldsP (r : List Bool × (Int × Int)) (w : World) (e : Ending) (w' : World) : Prop :=
  ∃ ro sp, e = .returned (.tuple #[.slice ro r.1.length (r.1.length + sp), FV r.2]) ∧ boolE.Row (fun b => w.heap.size ≤ b) w' ro r.1 ∧ Below w.heap.size w w'
theorem ret_zf {P : Program} {fn : Func} {R : Ending → World → Prop} {a : Act} {w : World} (z p q : Value) (c : Nat) (T' : TypeId) (hc : w.heap[c]? = some (.cells #[p, q] T' (0, 0)))
    (hres : ∀ w' : World, w'.cell? ⟨c, 0, none⟩ = some p → w'.cell? ⟨c, 1, none⟩ = some q → (results fn a.tmps).run P w' = .ok (.tuple #[z, .agg #[p, q]]) w') (hd : a.defers = [])
    (hR : R (.returned (.tuple #[z, .agg #[p, q]])) w) : bodyPost P fn R .ret a w := bodyPost_ret (hres w (box2 hc).1.1 (box2 hc).2.1) hd hR

set_option maxRecDepth 100000 in
set_option maxHeartbeats 8000000 in
theorem holds25 (ar : List Int) (cs : List (List Fc)) (sz : Int) (tb : List (List Int)) (p q r : Nat → Prop) (ao co to_ : Option Addr) (ca cc ct : Nat) (w : World) (ha : intE.Row q w ao ar) (h : claimE.Row p w co cs) (ht : intsE.Row r w to_ tb) (hna : ar.length ≤ maxLen) (hn : cs.length ≤ maxLen) (hnt : tb.length ≤ maxLen) :
    Calls Try.prog 25 #[.agg #[.slice ao ar.length ca, .slice co cs.length cc], .agg #[.int .i64 sz, .slice to_ tb.length (tb.length + ct)]] w (HoldsP (holdsF ar cs sz tb) w) := by
  have HC := Lib.hid h; have HA := Lib.hid ha; have HNA := Lib.hid hna; have HNC := Lib.hid hn; have HT := Lib.hid ht; have HNT := Lib.hid hnt
  obtain ⟨iB, gi, gz0, gz1, gz2⟩ := info_parts infoB
  obtain ⟨bx, hbx⟩ : ∃ b, b = w.heap.size := ⟨_, rfl⟩
  have S1 := (((St.start w).box hbx.symm #[.slice ao ar.length ca, .slice co cs.length cc] 29).box (b := bx + 1) (by simp [hbx]) #[.int .i64 sz, .slice to_ tb.length (tb.length + ct)] 41).box (b := bx + 2) (by simp [hbx]) #[.int .i64 0, .int .i64 0] 32
  have hsz1 : (((w.alloc (.cells #[.slice ao ar.length ca, .slice co cs.length cc] 29)).alloc (.cells #[.int .i64 sz, .slice to_ tb.length (tb.length + ct)] 41)).alloc (.cells #[.int .i64 0, .int .i64 0] 32)).heap.size = bx + 3 := by simp [hbx]
  clear h ha hn hna ht hnt
  obtain ⟨⟨x0, _⟩, x1, _⟩ := S1.two 0
  obtain ⟨⟨y0, _⟩, y1, _⟩ := S1.two 1
  go_enter Try.func25, Try.ntmps25
  go_wp2_with fail
  rw [← hbx]
  refine S1.gen (z := bx + 3) (by omega) ?_
  intro w1 z1 S
  have HBX := Lib.hid hbx
  clear S1 hbx hsz1 x0 x1 y0 y1
  refine (S.faultF (tab26 ar cs sz tb p q r ao co to_ ca cc ct w1 (HA.out.kept S.bel) (HC.out.kept S.bel) (HT.out.kept S.bel) HNA.out HNC.out HNT.out)).mono ?_
  rintro e w2 ⟨C, D, rfl, HCD, z2, S2⟩
  clear S
  obtain ⟨b6, hb6⟩ : ∃ b, b = w2.heap.size := ⟨_, rfl⟩
  have S3 := S2.box hb6.symm #[.int .i64 C, .int .i64 D] 32
  have z3 : b6 + 1 ≤ (w2.alloc (.cells #[.int .i64 C, .int .i64 D] 32)).heap.size := by simp [hb6]
  have HB6 := Lib.hid (show bx + 3 ≤ b6 by omega)
  clear S2
  by_cases hC : C = 0
  · have hcb : (C != 0) = false := by simp [hC]
    have HZ := Lib.hid (tabF_zero (show (tabF ar cs sz tb).1 = 0 by rw [HCD.out]; exact hC))
    obtain ⟨s, hs, hT⟩ := HZ.out.2.2
    subst hs
    have HTT := Lib.hid hT
    have hs4 : s ≤ 4 := hT.2.1
    have HLZ := Lib.hid (loreF_zero HZ.out.2.1)
    have hc60 : cs.length ≤ 60 := HLZ.out.2.2.1
    have HF := Lib.hid (show holdsF ar cs s tb = if 0 ≤ idxP (wideB s) cs then ([], (10, idxP (wideB s) cs)) else (cs.map (trueF s tb), (0, 0)) by unfold holdsF; rw [if_neg (by rw [HCD.out]; simpa using hC)]; rfl)
    obtain ⟨⟨x0, _⟩, x1, _⟩ := S3.two 0
    obtain ⟨⟨y0, _⟩, y1, _⟩ := S3.two 1
    clear hC hT
    go_wp2_with fail
    rw [← hb6]
    refine S3.gen (z := bx + 3) (by have := HB6.out; omega) ?_
    intro w4 z4 S
    clear S3 z3 hb6 x0 x1 y0 y1
    refine (S.quiet (wide77 ar cs s p q ao co ca cc w4 hs4 (HC.out.kept S.bel) HNC.out HLZ.out.2.2.2.2)).mono ?_
    rintro e w5 ⟨rfl, z5, S5⟩
    clear S
    obtain ⟨I, hI⟩ : ∃ I, I = idxP (wideB s) cs := ⟨_, rfl⟩
    rw [← hI]
    rw [← hI] at HF
    clear hI
    by_cases h0 : 0 ≤ I
    · have HF2 := Lib.hid (show holdsF ar cs s tb = ([], (10, I)) by rw [HF.out, if_pos h0])
      obtain ⟨⟨y0, y1⟩, y2, y3⟩ := S5.two 2
      have hl := S5.lt 2
      have SB := Lib.hid S5
      clear S5
      go_wp2_with fail
      refine ret_zf (.slice none 0 0) (.int .i64 10) (.int .i64 I) (bx + 2) 32 (box2_set (SB.out.block 2) _ _) (fun w' q0 q1 => by simp [results, Try.results25, go_sem, q0, q1]) rfl ?_
      have hx := HBX.out
      rw [HF2.out]
      exact ⟨none, 0, rfl, Elt.Row.nil, (SB.out.bel.setCell (p := ⟨bx + 2, 0, none⟩) (by show w.heap.size ≤ bx + 2; omega) _).setCell (p := ⟨bx + 2, 1, none⟩) (by show w.heap.size ≤ bx + 2; omega) _⟩
    · have HF2 := Lib.hid (show holdsF ar cs s tb = (cs.map (trueF s tb), (0, 0)) by rw [HF.out, if_neg h0])
      obtain ⟨⟨x0, _⟩, x1, _⟩ := S5.two 0
      go_wp2_with fail
      refine S5.genC (z := bx + 3) (by omega) ?_
      intro w6 z6 S
      have S := ((S.pick [0, 1, 2]).add (.owns boolE (bx + 3) (fun b => bx + 3 ≤ b) (.slice none 0 0) []) (Elt.Own.nil _ _ _ _))
      clear S5 x0 x1
      go_loopw [8, 29] (fun o i wr => ∃ k : Nat, k ≤ cs.length ∧ i = .int .i64 k ∧ bx + 3 ≤ wr.heap.size ∧ St w wr [.box bx #[.slice ao ar.length ca, .slice co cs.length cc] 29, .box (bx + 1) #[.int .i64 s, .slice to_ tb.length (tb.length + ct)] 41, .box (bx + 2) #[.int .i64 0, .int .i64 0] 32, .owns boolE (bx + 3) (fun b => bx + 3 ≤ b) o ((cs.map (trueF s tb)).take k)]) (fun _ i _ => cs.length - (intOf i).toNat)
      case atStart => exact ⟨0, by omega, rfl, z6, S⟩
      case round =>
        clear S
        obtain ⟨k, hk, rfl, z7, S⟩ := hrel
        by_cases hlt : k < cs.length
        · have hlti : (k : Int) < (cs.length : Int) := by omega
          have HTK := Lib.hid (show (cs.map (trueF s tb)).take (k + 1) = (cs.map (trueF s tb)).take k ++ [trueF s tb cs[k]] by rw [List.take_succ_eq_append_getElem (by simpa using hlt), List.getElem_map])
          have hlk : ((cs.map (trueF s tb)).take k).length = k := by simp; omega
          obtain ⟨b, off, kc, sc, rfl, hpb, c0, h1, h2⟩ := (HC.out.kept S.bel).claim hlt
          have H1 := Lib.hid (h1.kept ((Below.refl _ wr).alloc (Nat.le_refl _) (.cells #[.slice kc cs[k].length (cs[k].length + sc)] 24)))
          have HCO := Lib.hid (HLZ.out.2.2.2.2 cs[k] (List.getElem_mem hlt))
          obtain ⟨bc, hbc⟩ : ∃ b, b = wr.heap.size := ⟨_, rfl⟩
          have S3 := S.box hbc.symm #[.slice kc cs[k].length (cs[k].length + sc)] 24
          have hz : bx + 3 ≤ (wr.alloc (.cells #[.slice kc cs[k].length (cs[k].length + sc)] 24)).heap.size := by simp; omega
          obtain ⟨⟨x0, _⟩, x1, _⟩ := S3.two 1
          clear S h1 h2
          go_wp2_with fail
          rw [← hbc]
          refine (S3.quiet (true78 ar s tb HTT.out cs[k] HCO.out p r to_ kc ct sc _ (HT.out.kept S3.bel) H1.out)).mono ?_
          rintro e w8 ⟨rfl, z8, S8⟩
          have S9 : St w w8 [.box bx #[.slice ao ar.length ca, .slice (some ⟨b, off, none⟩) cs.length cc] 29, .box (bx + 1) #[.int .i64 s, .slice to_ tb.length (tb.length + ct)] 41, .box (bx + 2) #[.int .i64 0, .int .i64 0] 32, .owns boolE (bx + 3) (fun b => bx + 3 ≤ b) _ ((cs.map (trueF s tb)).take k)] := S8.pick [0, 1, 2, 3]
          have hz8 : bx + 3 ≤ w8.heap.size := by omega
          clear S3 S8 x0 x1 c0 hbc z8 H1
          obtain ⟨X, hX⟩ : ∃ X, X = trueF s tb cs[k] := ⟨_, rfl⟩
          rw [← hX]
          rw [← hX] at HTK
          clear hX
          go_wp2_with (at_builtin; refine wpList_app rfl (.tmp 33) (.tmp 37) 49 rfl boolE S9 3 rfl (x := X) (q := fun _ => False) (p' := fun b => bx + 3 ≤ b) rfl Try.underlying49 gi gz0 gz1 gz2 rfl rfl ?v1 ?v2 ?c1 ?c2 ?c3 ?c4 ?c5 ?c6 ?c7 ?_)
          case v1 => rfl
          case v2 => rfl
          case c1 => rw [hlk]; unfold maxLen; omega
          case c2 => rw [hlk]; omega
          case c3 => omega
          case c4 => have := HBX.out; omega
          case c5 => intro b h1 h2; simp only [offs, offAll, Fct.box, and_true]; omega
          case c6 => intro b h1; exact h1.elim
          case c7 => intro b h1; rcases h1 with h1 | h1; exact h1; exact h1.elim
          intro gg cap w9 S10 hs10 hgg _
          rw [← HTK.out] at S10
          have hz10 : bx + 3 ≤ w9.heap.size := by omega
          have S10 : St w w9 [.box bx #[.slice ao ar.length ca, .slice (some ⟨b, off, none⟩) cs.length cc] 29, .box (bx + 1) #[.int .i64 s, .slice to_ tb.length (tb.length + ct)] 41, .box (bx + 2) #[.int .i64 0, .int .i64 0] 32, .owns boolE (bx + 3) (fun b => bx + 3 ≤ b) _ ((cs.map (trueF s tb)).take (k + 1))] := S10
          go_wp2_with fail
          go_roundw
          case rel => exact ⟨k + 1, by omega, by go_num, hz10, S10⟩
          case measure => simp [intOf] <;> omega
        · obtain rfl : k = cs.length := by omega
          have HO := Lib.hid (S.owns boolE 3)
          rw [List.take_of_length_le (by simp)] at HO
          obtain ⟨ro, spo, rfl, hrow, hml⟩ := HO.out.row (fun b h => by omega)
          have HROW := Lib.hid hrow
          obtain ⟨⟨y0, y1⟩, y2, y3⟩ := S.two 2
          have hl := S.lt 2
          have SB := Lib.hid S
          clear S hrow HO
          go_wp2_with fail
          refine ret_zf (.slice ro (cs.map (trueF s tb)).length ((cs.map (trueF s tb)).length + spo)) (.int .i64 0) (.int .i64 0) (bx + 2) 32 (box2_set (SB.out.block 2) _ _) (fun w' q0 q1 => by simp [results, Try.results25, go_sem, q0, q1]) rfl ?_
          have hx := HBX.out
          rw [HF2.out]
          exact ⟨ro, spo, rfl, HROW.out.keep (fun b h1 h2 => ⟨(Below.heap_setCell _ _ _ _ (by show b ≠ bx + 2; omega)).trans (Below.heap_setCell _ _ _ _ (by show b ≠ bx + 2; omega)), by omega⟩), (SB.out.bel.setCell (p := ⟨bx + 2, 0, none⟩) (by show w.heap.size ≤ bx + 2; omega) _).setCell (p := ⟨bx + 2, 1, none⟩) (by show w.heap.size ≤ bx + 2; omega) _⟩
  · have hcb : (C != 0) = true := by simp [hC]
    have HF := Lib.hid (show holdsF ar cs sz tb = ([], (C, D)) by unfold holdsF; rw [if_pos (by rw [HCD.out]; exact hC), HCD.out])
    obtain ⟨⟨x0, _⟩, x1, _⟩ := S3.two 3
    have hl3 := S3.lt 3
    clear hC
    go_wp2_with fail
    rw [← hb6]
    refine S3.genC (z := b6 + 1) z3 ?_
    intro w3 z4 S
    clear S3 x0 x1 hl3 z3 hb6
    obtain ⟨⟨y0, y1⟩, y2, y3⟩ := S.two 2
    have hl2 := S.lt 2
    obtain ⟨⟨x0, _⟩, x1, _⟩ := S.two 3
    have SD := S.drew
    obtain ⟨⟨y4, y5⟩, y6, y7⟩ := SD.two 2
    obtain ⟨⟨x4, _⟩, x5, _⟩ := SD.two 3
    have hl5 := SD.lt 2
    have n1 : ¬ b6 = bx + 2 := by have := HB6.out; omega
    have n3 : ¬ bx + 2 = b6 := by have := HB6.out; omega
    have SB := Lib.hid SD
    clear S SD
    go_region
    all_goals
      go_wp2_with fail
      refine ret_zf (.slice none 0 0) (.int .i64 C) (.int .i64 D) (bx + 2) 32 (box2_set (SB.out.block 2) _ _) (fun w' q0 q1 => by simp [results, Try.results25, go_sem, q0, q1]) rfl ?_
      have hx := HBX.out
      rw [HF.out]
      exact ⟨none, 0, rfl, Elt.Row.nil, (SB.out.bel.setCell (p := ⟨bx + 2, 0, none⟩) (by show w.heap.size ≤ bx + 2; omega) _).setCell (p := ⟨bx + 2, 1, none⟩) (by show w.heap.size ≤ bx + 2; omega) _⟩
end Go.Proofs.Yteekoclfpehnpaa
