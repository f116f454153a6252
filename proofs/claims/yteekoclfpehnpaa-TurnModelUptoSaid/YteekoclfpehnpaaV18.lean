/-
  The law TableWith: for any lore, table, tree, substitution and things it answers true.
-/
import Derived.Test.YteekoclfpehnpaaProg
import Derived.Test.YteekoclfpehnpaaV16
import Derived.Test.YteekoclfpehnpaaV17
import Derived.RegionTactic
namespace Go.Proofs.Yteekoclfpehnpaa
open Go.RowKit Go.Shelf
set_option linter.unusedVariables false
set_option maxHeartbeats 400000

theorem St.did {P : Program} {n : Nat} {a : Array Value} {w0 w : World} {l : List Fct} (S : St w0 w l) {r : T × (Int × Int)} (h : Calls P n a w (DoPost r w)) :
    Calls P n a w fun e w' => ∃ y k sp c d, e = .returned (.tuple #[.agg #[.int .i64 y.head, .slice k y.kids.length (y.kids.length + sp)], .agg #[.int .i64 c, .int .i64 d]]) ∧ Hid (r = (y, (c, d))) ∧ w.heap.size ≤ w'.heap.size ∧
      St w0 w' (fsnoc l (.treeP (fun b => b < w'.heap.size) (.agg #[.int .i64 y.head, .slice k y.kids.length (y.kids.length + sp)]) y)) :=
  h.mono fun e w' ⟨u, h1, h2, h3⟩ => by
    obtain ⟨k, sp, rfl⟩ := h2.form
    exact ⟨r.1, k, sp, r.2.1, r.2.2, h1, rfl, h3.size, (S.step h3).add (.treeP _ _ _) h2.foot⟩
theorem St.valued {P : Program} {n : Nat} {a : Array Value} {w0 w : World} {l : List Fct} (S : St w0 w l) {r : Int × (Int × Int)} (h : Calls P n a w fun e w' => e = .returned (.tuple #[.int .i64 r.1, FV r.2]) ∧ Below w.heap.size w w') :
    Calls P n a w fun e w' => ∃ v c d, e = .returned (.tuple #[.int .i64 v, .agg #[.int .i64 c, .int .i64 d]]) ∧ Hid (r = (v, (c, d))) ∧ w.heap.size ≤ w'.heap.size ∧ St w0 w' l :=
  h.mono fun e w' ⟨h1, h2⟩ => ⟨r.1, r.2.1, r.2.2, h1, rfl, h2.size, S.step h2⟩

structure WithR (w7 : World) (lv tv bv gv hv : Value) (bb boff k : Nat) (N C D : Int) (c0 c1 c2 c3 c4 c5 c6 c7 c8 c9 c10 c11 c12 c13 : Bool) (s73 s74 s75 s76 s77 s78 s79 s80 s72 s81 s82 s19 s18 : Value) (W : World) : Prop where
  bel : Below w7.heap.size w7 W
  l0 : c0 = true → s73 = lv
  l1 : c1 = true → s74 = tv
  l2 : c2 = true → s75 = bv
  l3 : c3 = true → s76 = .int .i64 (k : Int)
  l4 : c4 = true → s77 = .pointer (some ⟨bb, boff + k * 2, none⟩)
  l5 : c5 = true → s78 = gv
  l6 : c6 = true → s79 = hv
  l7 : c7 = true → s80 = .tuple #[.int .i64 N, .agg #[.int .i64 C, .int .i64 D]]
  l8 : c8 = true → s72 = .tuple #[.int .i64 N, .agg #[.int .i64 C, .int .i64 D]]
  l9 : c9 = true → s81 = .int .i64 N
  l10 : c10 = true → s82 = .agg #[.int .i64 C, .int .i64 D]
  l11 : c11 = true → ∃ a11, s19 = .pointer (some ⟨a11, 0, none⟩) ∧ (W.heap[a11]? = some (.cells (if c13 = true then #[.int .i64 C, .int .i64 D] else #[.int .i64 0, .int .i64 0]) 32 (0, 0)) ∧ w7.heap.size ≤ a11)
  l12 : c12 = true → s18 = .int .i64 N
  k0 : c13 = true → c11 = true
theorem WithR.mono {w7 : World} {lv tv bv gv hv : Value} {bb boff k : Nat} {N C D : Int} {c0 c1 c2 c3 c4 c5 c6 c7 c8 c9 c10 c11 c12 c13 : Bool} {s73 s74 s75 s76 s77 s78 s79 s80 s72 s81 s82 s19 s18 : Value} {W W' : World} (h : WithR w7 lv tv bv gv hv bb boff k N C D c0 c1 c2 c3 c4 c5 c6 c7 c8 c9 c10 c11 c12 c13 s73 s74 s75 s76 s77 s78 s79 s80 s72 s81 s82 s19 s18 W) (hb : Below W.heap.size W W') : WithR w7 lv tv bv gv hv bb boff k N C D c0 c1 c2 c3 c4 c5 c6 c7 c8 c9 c10 c11 c12 c13 s73 s74 s75 s76 s77 s78 s79 s80 s72 s81 s82 s19 s18 W' where
  bel := Below.step h.bel hb
  l0 := h.l0
  l1 := h.l1
  l2 := h.l2
  l3 := h.l3
  l4 := h.l4
  l5 := h.l5
  l6 := h.l6
  l7 := h.l7
  l8 := h.l8
  l9 := h.l9
  l10 := h.l10
  l11 := fun hc => by obtain ⟨a11, e1, e2⟩ := h.l11 hc; exact ⟨a11, e1, ⟨Below.heapAt hb e2.1, e2.2⟩⟩
  l12 := h.l12
  k0 := h.k0

set_option maxRecDepth 100000 in
set_option maxHeartbeats 8000000 in
theorem tableWith6 (ar : List Int) (cs : List (List Fc)) (sz : Int) (tb : List (List Int)) (x : T) (bs : List T) (th : List Int) (p q r : Nat → Prop) (ao co to_ bo tho : Option Addr) (ca cc ct bc cth : Nat) (v : Value) (w : World) (ha : intE.Row q w ao ar) (h : claimE.Row p w co cs) (ht : intsE.Row r w to_ tb) (hx : TreeAt w v x) (hb : RowAt w bo bs) (hth : intE.Row (fun _ => True) w tho th)
    (hna : ar.length ≤ maxLen) (hn : cs.length ≤ maxLen) (hnt : tb.length ≤ maxLen) (hnb : bs.length ≤ maxLen) (hnh : th.length ≤ maxLen) :
    Calls Try.prog 6 #[.agg #[.slice ao ar.length ca, .slice co cs.length cc], .agg #[.int .i64 sz, .slice to_ tb.length (tb.length + ct)], v, .slice bo bs.length bc, .slice tho th.length cth] w fun e w' => e = .returned (.bool true) ∧ Below w.heap.size w w' := by
  obtain ⟨xk, xs, rfl⟩ := hx.form
  have HC := Lib.hid h; have HA := Lib.hid ha; have HNA := Lib.hid hna; have HNC := Lib.hid hn; have HT := Lib.hid ht; have HNT := Lib.hid hnt; have HX := Lib.hid hx; have HBR := Lib.hid hb; have HTH := Lib.hid hth; have HNH := Lib.hid hnh
  have hnb2 : bs.length ≤ 9223372036854775807 := by unfold maxLen at hnb; omega
  have hnh2 : th.length ≤ 9223372036854775807 := by unfold maxLen at hnh; omega
  obtain ⟨iI, gi, gz0, gz1, gz2⟩ := info_parts infoI
  obtain ⟨bx, hbx⟩ : ∃ b, b = w.heap.size := ⟨_, rfl⟩
  have S1 := (((St.start w).box hbx.symm #[.slice ao ar.length ca, .slice co cs.length cc] 29).box (b := bx + 1) (by simp [hbx]) #[.int .i64 sz, .slice to_ tb.length (tb.length + ct)] 41).box (b := bx + 2) (by simp [hbx]) #[.int .i64 x.head, .slice xk x.kids.length (x.kids.length + xs)] 44
  have hsz1 : (((w.alloc (.cells #[.slice ao ar.length ca, .slice co cs.length cc] 29)).alloc (.cells #[.int .i64 sz, .slice to_ tb.length (tb.length + ct)] 41)).alloc (.cells #[.int .i64 x.head, .slice xk x.kids.length (x.kids.length + xs)] 44)).heap.size = bx + 3 := by simp [hbx]
  clear h ha hn hna ht hnt hx hb hth hnh hnb
  go_enter Try.func6, Try.ntmps6
  go_wp2_with fail
  rw [← hbx]
  refine S1.gen (z := bx + 3) (by omega) ?_
  intro w1 z1 S
  have HBX := Lib.hid hbx
  clear S1 hbx hsz1
  refine (S.quiet (tableFact33 w1)).mono ?_
  rintro e w2 ⟨rfl, z2, S2⟩
  clear S
  by_cases h8 : 8 < bs.length
  · have h8i : (8 : Int) < (bs.length : Int) := by omega
    have SE := Lib.hid S2.bel
    clear S2
    go_wp2_with fail
    go_ret
    exact ⟨rfl, SE.out⟩
  · have h8i : ¬ (8 : Int) < (bs.length : Int) := by omega
    by_cases h20 : 20 < th.length
    · have h20i : (20 : Int) < (th.length : Int) := by omega
      have SE := Lib.hid S2.bel
      clear S2
      go_wp2_with fail
      go_ret
      exact ⟨rfl, SE.out⟩
    · have h20i : ¬ (20 : Int) < (th.length : Int) := by omega
      obtain ⟨⟨x0, _⟩, x1, _⟩ := S2.two 2
      go_wp2_with fail
      refine (S2.did (do21 x bs _ bo bc w2 (HX.out.kept S2.bel) (HBR.out.below S2.bel))).mono ?_
      rintro e w3 ⟨y, yk, ys, C, D, rfl, HD, z3, S3⟩
      obtain ⟨b12, hb12⟩ : ∃ b, b = w3.heap.size := ⟨_, rfl⟩
      have S4 := (S3.box hb12.symm #[.int .i64 y.head, .slice yk y.kids.length (y.kids.length + ys)] 44).box (b := b12 + 1) (by simp [hb12]) #[.int .i64 C, .int .i64 D] 32
      have z4 : b12 + 2 ≤ ((w3.alloc (.cells #[.int .i64 y.head, .slice yk y.kids.length (y.kids.length + ys)] 44)).alloc (.cells #[.int .i64 C, .int .i64 D] 32)).heap.size := by simp [hb12]
      have HB12 := Lib.hid (show bx + 3 ≤ b12 by omega)
      have HB12s := Lib.hid (show w3.heap.size ≤ b12 by omega)
      clear S2 S3 x0 x1
      by_cases hC : C = 0
      · have hcb : (C != 0) = false := by simp [hC]
        have HDO := Lib.hid (doF_ok (show (doF x bs).2.1 = 0 by rw [HD.out]; exact hC))
        obtain ⟨rfl, rfl, rfl⟩ : y = x.sub bs ∧ C = 0 ∧ D = 0 := by
          have h := HD.out.symm.trans HDO.out.1
          simpa using h
        obtain ⟨Y, hY⟩ : ∃ Y, Y = x.sub bs := ⟨_, rfl⟩
        rw [← hY] at S4 z4 ⊢
        have HY := Lib.hid hY
        clear hC hY hcb
        obtain ⟨⟨x0, _⟩, x1, _⟩ := S4.two 0
        obtain ⟨⟨x2, _⟩, x3, _⟩ := S4.two 1
        go_wp2_with fail
        rw [← hb12]
        refine S4.gen (z := b12 + 2) z4 ?_
        intro w4 z5 S
        clear S4 z4 hb12 x0 x1 x2 x3
        refine (S.valued (value24 ar cs sz tb Y th p q r (fun _ => True) ao co to_ tho ca cc ct cth _ _ (HA.out.kept S.bel) (HC.out.kept S.bel) (HT.out.kept S.bel) (St.treeP S 3 rfl).at (HTH.out.kept S.bel) HNA.out HNC.out HNT.out HNH.out (by omega))).mono ?_
        rintro e w5 ⟨V, C, D, rfl, HV, z6, S5⟩
        obtain ⟨⟨y0, y1⟩, y2, y3⟩ := S5.two 5
        have hl5 := S5.lt 5
        have S6 := S5.set2 5 rfl (.int .i64 C) (.int .i64 D) (by have := HBX.out; have := HB12.out; omega) (by
          have h1 := HB12.out; have h2 := HB12s.out
          simp only [offs, offAll, fsnoc, Fct.box, Fct.treeP, and_true]
          refine ⟨by omega, by omega, by omega, by omega, by omega⟩)
        have z7 : b12 + 2 ≤ ((w5.setCell ⟨b12 + 1, 0, none⟩ (.int .i64 C)).setCell ⟨b12 + 1, 1, none⟩ (.int .i64 D)).heap.size := by simp; omega
        clear S S5
        by_cases hC : C = 0
        · have hcb : (C != 0) = false := by simp [hC]
          have HVO := Lib.hid (valueF_ok (show (valueF ar cs sz tb Y th).2.1 = 0 by rw [HV.out]; exact hC))
          obtain ⟨rfl, rfl, rfl⟩ : V = Y.ev sz.toNat tb th ∧ C = 0 ∧ D = 0 := by
            have h := HV.out.symm.trans HVO.out.2.2.2.2
            simpa using h
          obtain ⟨V, hV⟩ : ∃ V, V = Y.ev sz.toNat tb th := ⟨_, rfl⟩
          rw [← hV]
          have HVV := Lib.hid hV
          clear hC hV hcb
          go_wp2_with fail
          refine S6.genC (z := b12 + 2) z7 ?_
          intro w6 z8 S
          clear S6 z7 y0 y1 y2 y3 hl5
          have S := (S.pick [0, 1, 2, 5]).add (.owns intE (b12 + 2) (fun b => b12 + 2 ≤ b) (.slice none 0 0) []) (Elt.Own.nil _ _ _ _)
          have S : St w w6 [.box bx #[.slice ao ar.length ca, .slice co cs.length cc] 29, .box (bx + 1) #[.int .i64 sz, .slice to_ tb.length (tb.length + ct)] 41, .box (bx + 2) #[.int .i64 x.head, .slice xk x.kids.length (x.kids.length + xs)] 44, .box (b12 + 1) #[.int .i64 0, .int .i64 0] 32, .owns intE (b12 + 2) (fun b => b12 + 2 ≤ b) (.slice none 0 0) ((ofF sz.toNat tb th bs).take 0)] := S
          go_loopw [15, 16] (fun o i wr => ∃ k : Nat, k ≤ 8 ∧ i = .int .i64 k ∧ b12 + 2 ≤ wr.heap.size ∧ (∀ j, j < k → boundB bs j = true → (gK bs j).sig ar) ∧ St w wr [.box bx #[.slice ao ar.length ca, .slice co cs.length cc] 29, .box (bx + 1) #[.int .i64 sz, .slice to_ tb.length (tb.length + ct)] 41, .box (bx + 2) #[.int .i64 x.head, .slice xk x.kids.length (x.kids.length + xs)] 44, .box (b12 + 1) #[.int .i64 0, .int .i64 0] 32, .owns intE (b12 + 2) (fun b => b12 + 2 ≤ b) o ((ofF sz.toNat tb th bs).take k)]) (fun _ i _ => 8 - (intOf i).toNat)
          case atStart => exact ⟨0, by omega, rfl, z8, fun j hj _ => by omega, S⟩
          case round =>
            clear S
            obtain ⟨k, hk, rfl, z9, hsg, S⟩ := hrel
            have HS := Lib.hid hsg
            clear hsg
            by_cases hlt : k < 8
            · have hlti : (k : Int) < 8 := by omega
              by_cases hkb : k < bs.length
              · have hkbi : (k : Int) < (bs.length : Int) := by omega
                obtain ⟨bb, boff, bk, bsp, rfl, d0', d1', d2'⟩ := HBR.out k hkb
                obtain ⟨G, hG⟩ : ∃ G, G = gK bs k := ⟨_, rfl⟩
                rw [← hG] at d0' d1' d2'
                have d0 := Below.cellOf S.bel d0'
                have HGK := Lib.hid hG
                clear hG
                by_cases hh0 : G.head = 0
                · have hhb : (G.head != 0) = false := by simp [hh0]
                  have hbb : boundB bs k = false := by unfold boundB; rw [← HGK.out, hhb]; simp
                  clear d1' d2' hh0
                  by_cases hkt : k < th.length
                  · have hkti : (k : Int) < (th.length : Int) := by omega
                    obtain ⟨b8, off8, rfl, _, c8⟩ := (HTH.out.kept S.bel).int hkt
                    obtain ⟨V8, hV8⟩ : ∃ V8, V8 = th[k] := ⟨_, rfl⟩
                    rw [← hV8] at c8
                    have HV8 := Lib.hid (show gI th k = V8 by rw [gI_get hkt, hV8])
                    clear hV8
                    have HLK := Lib.hid (show ((ofF sz.toNat tb th bs).take k).length = k by unfold ofF; simp; omega)
                    have HLK2 := Lib.hid (show min k (ofF sz.toNat tb th bs).length = k by unfold ofF; simp; omega)
                    have HTK := Lib.hid (show (ofF sz.toNat tb th bs).take (k + 1) = (ofF sz.toNat tb th bs).take k ++ [V8] by
                      have hl : k < (ofF sz.toNat tb th bs).length := by unfold ofF; simp; omega
                      rw [List.take_succ_eq_append_getElem hl]
                      have h1 := gI_ofF (s := sz.toNat) (tb := tb) (th := th) (bs := bs) (k := k) (by omega)
                      rw [gI_get hl] at h1
                      rw [h1]
                      unfold ofK; rw [if_neg (by rw [hbb]; simp), if_pos hkt, HV8.out])
                    have HSG := Lib.hid (show ∀ j, j < k + 1 → boundB bs j = true → (gK bs j).sig ar from fun j hj hbj => by
                      rcases Nat.lt_succ_iff_lt_or_eq.1 hj with h | rfl
                      · exact HS.out j h hbj
                      · rw [hbb] at hbj; cases hbj)
                    have SQ : St w wr [.box bx #[.slice ao ar.length ca, .slice co cs.length cc] 29, .box (bx + 1) #[.int .i64 sz, .slice to_ tb.length (tb.length + ct)] 41, .box (bx + 2) #[.int .i64 x.head, .slice xk x.kids.length (x.kids.length + xs)] 44, .box (b12 + 1) #[.int .i64 0, .int .i64 0] 32, .owns intE (b12 + 2) (fun b => b12 + 2 ≤ b) _ ((ofF sz.toNat tb th bs).take k)] := S
                    go_wp2_with (at_builtin; refine wpList_app rfl (.tmp 101) (.tmp 103) 27 rfl intE SQ 4 rfl (x := V8) (q := fun _ => False) (p' := fun b => b12 + 2 ≤ b) (show intE.is (fun _ => False) wr [Value.int .i64 V8] V8 from rfl) Try.underlying27 gi gz0 gz1 gz2 rfl rfl ?v1t1 ?v2t1 ?c1t1 ?c2t1 ?c3t1 ?c4t1 ?c5t1 ?c6t1 ?c7t1 ?_)
                    try (case v1t1 => rfl)
                    try (case v2t1 => rfl)
                    try (case c1t1 => have := HLK.out; unfold maxLen; omega)
                    try (case c2t1 => have := HLK.out; omega)
                    try (case c3t1 => omega)
                    try (case c4t1 => have := HBX.out; have := HB12.out; omega)
                    case c5t1 => intro b h1 h2; have h9 := HB12.out; simp only [offs, offAll, Fct.box, and_true]; omega
                    try (case c6t1 => intro b h1; exact h1.elim)
                    try (case c7t1 => intro b h1; rcases h1 with h1 | h1; exact h1; exact h1.elim)
                    intro gg cap wz SZ hsz hgg _
                    rw [HLK2.out] at SZ ⊢
                    rw [← HTK.out] at SZ
                    have hzz : b12 + 2 ≤ wz.heap.size := by omega
                    have SZ : St w wz [.box bx #[.slice ao ar.length ca, .slice co cs.length cc] 29, .box (bx + 1) #[.int .i64 sz, .slice to_ tb.length (tb.length + ct)] 41, .box (bx + 2) #[.int .i64 x.head, .slice xk x.kids.length (x.kids.length + xs)] 44, .box (b12 + 1) #[.int .i64 0, .int .i64 0] 32, .owns intE (b12 + 2) (fun b => b12 + 2 ≤ b) _ ((ofF sz.toNat tb th bs).take (k + 1))] := SZ
                    clear SQ
                    go_wp2_with fail
                    go_roundw
                    case rel => exact ⟨k + 1, by omega, by go_num, hzz, HSG.out, SZ⟩
                    case measure => simp [intOf] <;> omega
                  · have hkti : ¬ (k : Int) < (th.length : Int) := by omega
                    have HLK := Lib.hid (show ((ofF sz.toNat tb th bs).take k).length = k by unfold ofF; simp; omega)
                    have HLK2 := Lib.hid (show min k (ofF sz.toNat tb th bs).length = k by unfold ofF; simp; omega)
                    have HTK := Lib.hid (show (ofF sz.toNat tb th bs).take (k + 1) = (ofF sz.toNat tb th bs).take k ++ [(0 : Int)] by
                      have hl : k < (ofF sz.toNat tb th bs).length := by unfold ofF; simp; omega
                      rw [List.take_succ_eq_append_getElem hl]
                      have h1 := gI_ofF (s := sz.toNat) (tb := tb) (th := th) (bs := bs) (k := k) (by omega)
                      rw [gI_get hl] at h1
                      rw [h1]
                      unfold ofK; rw [if_neg (by rw [hbb]; simp), if_neg hkt])
                    have HSG := Lib.hid (show ∀ j, j < k + 1 → boundB bs j = true → (gK bs j).sig ar from fun j hj hbj => by
                      rcases Nat.lt_succ_iff_lt_or_eq.1 hj with h | rfl
                      · exact HS.out j h hbj
                      · rw [hbb] at hbj; cases hbj)
                    have SQ : St w wr [.box bx #[.slice ao ar.length ca, .slice co cs.length cc] 29, .box (bx + 1) #[.int .i64 sz, .slice to_ tb.length (tb.length + ct)] 41, .box (bx + 2) #[.int .i64 x.head, .slice xk x.kids.length (x.kids.length + xs)] 44, .box (b12 + 1) #[.int .i64 0, .int .i64 0] 32, .owns intE (b12 + 2) (fun b => b12 + 2 ≤ b) _ ((ofF sz.toNat tb th bs).take k)] := S
                    go_wp2_with (at_builtin; refine wpList_app rfl (.tmp 101) (.tmp 103) 27 rfl intE SQ 4 rfl (x := (0 : Int)) (q := fun _ => False) (p' := fun b => b12 + 2 ≤ b) (show intE.is (fun _ => False) wr [Value.int .i64 (0 : Int)] (0 : Int) from rfl) Try.underlying27 gi gz0 gz1 gz2 rfl rfl ?v1t2 ?v2t2 ?c1t2 ?c2t2 ?c3t2 ?c4t2 ?c5t2 ?c6t2 ?c7t2 ?_)
                    try (case v1t2 => rfl)
                    try (case v2t2 => rfl)
                    try (case c1t2 => have := HLK.out; unfold maxLen; omega)
                    try (case c2t2 => have := HLK.out; omega)
                    try (case c3t2 => omega)
                    try (case c4t2 => have := HBX.out; have := HB12.out; omega)
                    case c5t2 => intro b h1 h2; have h9 := HB12.out; simp only [offs, offAll, Fct.box, and_true]; omega
                    try (case c6t2 => intro b h1; exact h1.elim)
                    try (case c7t2 => intro b h1; rcases h1 with h1 | h1; exact h1; exact h1.elim)
                    intro gg cap wz SZ hsz hgg _
                    rw [HLK2.out] at SZ ⊢
                    rw [← HTK.out] at SZ
                    have hzz : b12 + 2 ≤ wz.heap.size := by omega
                    have SZ : St w wz [.box bx #[.slice ao ar.length ca, .slice co cs.length cc] 29, .box (bx + 1) #[.int .i64 sz, .slice to_ tb.length (tb.length + ct)] 41, .box (bx + 2) #[.int .i64 x.head, .slice xk x.kids.length (x.kids.length + xs)] 44, .box (b12 + 1) #[.int .i64 0, .int .i64 0] 32, .owns intE (b12 + 2) (fun b => b12 + 2 ≤ b) _ ((ofF sz.toNat tb th bs).take (k + 1))] := SZ
                    clear SQ
                    go_wp2_with fail
                    go_roundw
                    case rel => exact ⟨k + 1, by omega, by go_num, hzz, HSG.out, SZ⟩
                    case measure => simp [intOf] <;> omega
                · have hhb : (G.head != 0) = true := by simp [hh0]
                  have hbb : boundB bs k = true := by unfold boundB; rw [← HGK.out, hhb, decide_eq_true hkb]; rfl
                  have HHD := Lib.hid hh0
                  have d1 := Below.cellOf S.bel d1'
                  obtain ⟨⟨x0, _⟩, x1, _⟩ := S.two 0
                  obtain ⟨⟨x2, _⟩, x3, _⟩ := S.two 1
                  have HA7 := Lib.hid (HA.out.kept S.bel); have HC7 := Lib.hid (HC.out.kept S.bel); have HT7 := Lib.hid (HT.out.kept S.bel); have HG7 := Lib.hid (d2'.kept S.bel); have HH7 := Lib.hid (HTH.out.kept S.bel)
                  obtain ⟨N, C, D, hvg⟩ : ∃ N C D, valueF ar cs sz tb G th = (N, (C, D)) := ⟨_, _, _, rfl⟩
                  have HVG := Lib.hid hvg
                  clear hvg d0' d1' d2' hh0
                  go_wp2_with fail
                  refine wp_region_inv (by kernel_rfl) (by kernel_rfl) (fun L a W => ∃ s73 s74 s75 s76 s77 s78 s79 s80 s72 s81 s82 s19 s18 : Value, a = { tmps := #[.agg #[.slice ao ar.length ca, .slice co cs.length cc], .agg #[.int IntKind.i64 sz, .slice to_ tb.length (tb.length + ct)], .agg #[.int IntKind.i64 x.head, .slice xk x.kids.length (x.kids.length + xs)], .slice (some ⟨bb, boff, none⟩) bs.length bc, .slice tho th.length cth, .pointer (some ⟨bx, 0, none⟩), .pointer (some ⟨bx + 1, 0, none⟩), .pointer (some ⟨bx + 1 + 1, 0, none⟩), undef, undef, u10, .bool true, .pointer (some ⟨b12, 0, none⟩), .pointer (some ⟨b12 + 1, 0, none⟩), .int IntKind.i64 V, u15, .int IntKind.i64 (k : Int), .int IntKind.i64 0, s18, s19, undef, .bool true, .bool true, .bool false, .slice (some ⟨bb, boff, none⟩) bs.length bc, .int IntKind.i64 (bs.length : Int), .bool (decide (8 < (bs.length : Int))), .bool (decide (8 < (bs.length : Int))), .slice tho th.length cth, .int IntKind.i64 (th.length : Int), .bool (decide (20 < (th.length : Int))), .bool (decide (8 < (bs.length : Int)) || decide (20 < (th.length : Int))), .tuple #[.agg #[.int IntKind.i64 Y.head, .slice yk Y.kids.length (Y.kids.length + ys)], .agg #[.int IntKind.i64 0, .int IntKind.i64 0]], .agg #[.int IntKind.i64 x.head, .slice xk x.kids.length (x.kids.length + xs)], .slice (some ⟨bb, boff, none⟩) bs.length bc, .tuple #[.agg #[.int IntKind.i64 Y.head, .slice yk Y.kids.length (Y.kids.length + ys)], .agg #[.int IntKind.i64 0, .int IntKind.i64 0]], .agg #[.int IntKind.i64 Y.head, .slice yk Y.kids.length (Y.kids.length + ys)], .agg #[.int IntKind.i64 0, .int IntKind.i64 0], .pointer (some ⟨b12 + 1, 0, none⟩), .int IntKind.i64 0, .bool false, undef, undef, .tuple #[.int IntKind.i64 V, .agg #[.int IntKind.i64 0, .int IntKind.i64 0]], .agg #[.slice ao ar.length ca, .slice co cs.length cc], .agg #[.int IntKind.i64 sz, .slice to_ tb.length (tb.length + ct)], .agg #[.int IntKind.i64 Y.head, .slice yk Y.kids.length (Y.kids.length + ys)], .slice tho th.length cth, .tuple #[.int IntKind.i64 V, .agg #[.int IntKind.i64 0, .int IntKind.i64 0]], .int IntKind.i64 V, .agg #[.int IntKind.i64 0, .int IntKind.i64 0], .pointer (some ⟨b12 + 1, 0, none⟩), .int IntKind.i64 0, .bool false, undef, undef, .int IntKind.i64 (k : Int), .bool true, u58, u59, .int IntKind.i64 (k : Int), .slice (some ⟨bb, boff, none⟩) bs.length bc, .int IntKind.i64 (bs.length : Int), .bool true, .bool true, .slice (some ⟨bb, boff, none⟩) bs.length bc, .int IntKind.i64 (k : Int), .pointer (some ⟨bb, boff + k * 2, none⟩), .pointer (some ⟨bb, boff + k * 2, none⟩), .int IntKind.i64 G.head, .bool true, .bool true, s72, s73, s74, s75, s76, s77, s78, s79, s80, s81, s82, u83, u84, u85, u86, u87, u88, u89, u90, u91, u92, u93, u94, u95, u96, u97, u98, u99, u100, u101, u102, u103, u104, undef, undef, undef, undef, undef, undef, undef, undef, undef, undef, undef, undef, undef, undef, undef, undef], defers := [] } ∧ WithR wr (.agg #[.slice ao ar.length ca, .slice co cs.length cc]) (.agg #[.int .i64 sz, .slice to_ tb.length (tb.length + ct)]) (.slice (some ⟨bb, boff, none⟩) bs.length bc) (.agg #[.int .i64 G.head, .slice bk G.kids.length (G.kids.length + bsp)]) (.slice tho th.length cth) bb boff k N C D (L 0) (L 1) (L 2) (L 3) (L 4) (L 5) (L 6) (L 7) (L 8) (L 9) (L 10) (L 11) (L 12) (L 13) s73 s74 s75 s76 s77 s78 s79 s80 s72 s81 s82 s19 s18 W) ?h0 ?step ?fin
                  case h0 =>
                    refine ⟨_, _, _, _, _, _, _, _, _, _, _, _, _, rfl, ⟨(Below.refl _ _).drew, ?_, ?_, ?_, ?_, ?_, ?_, ?_, ?_, ?_, ?_, ?_, ?_, ?_, fun h => by cases h⟩⟩
                    all_goals (intro h; cases h)
                  case step =>
                    rintro L a W i o ho ⟨s73, s74, s75, s76, s77, s78, s79, s80, s72, s81, s82, s19, s18, rfl, hM⟩ hLi hdep K hK
                    have hi : i < 14 := by
                      have := (Array.getElem?_eq_some_iff.1 ho).1
                      simpa using this
                    rcases (show i = 0 ∨ i = 1 ∨ i = 2 ∨ i = 3 ∨ i = 4 ∨ i = 5 ∨ i = 6 ∨ i = 7 ∨ i = 8 ∨ i = 9 ∨ i = 10 ∨ i = 11 ∨ i = 12 ∨ i = 13 by omega) with rfl | rfl | rfl | rfl | rfl | rfl | rfl | rfl | rfl | rfl | rfl | rfl | rfl | rfl
                    all_goals
                      simp only [List.getElem?_toArray, List.getElem?_cons_succ, List.getElem?_cons_zero, Option.some.injEq] at ho
                      subst ho
                      simp [Region.binds] at hdep
                    · have HM := Lib.hid hM
                      have z0 := Below.cellOf HM.out.bel x0
                      have z1 := Below.cellOf HM.out.bel x1
                      clear hM hdep hLi
                      go_simp
                      refine hK _ _ ?_
                      exact ⟨_, s74, s75, s76, s77, s78, s79, s80, s72, s81, s82, s19, s18, rfl, { HM.out with l0 := fun _ => rfl }⟩
                    · have HM := Lib.hid hM
                      have z0 := Below.cellOf HM.out.bel x2
                      have z1 := Below.cellOf HM.out.bel x3
                      clear hM hdep hLi
                      go_simp
                      refine hK _ _ ?_
                      exact ⟨s73, _, s75, s76, s77, s78, s79, s80, s72, s81, s82, s19, s18, rfl, { HM.out with l1 := fun _ => rfl }⟩
                    · have HM := Lib.hid hM
                      clear hM hdep hLi
                      go_simp
                      refine hK _ _ ?_
                      exact ⟨s73, s74, _, s76, s77, s78, s79, s80, s72, s81, s82, s19, s18, rfl, { HM.out with l2 := fun _ => rfl }⟩
                    · have HM := Lib.hid hM
                      clear hM hdep hLi
                      go_simp
                      refine hK _ _ ?_
                      exact ⟨s73, s74, s75, _, s77, s78, s79, s80, s72, s81, s82, s19, s18, rfl, { HM.out with l3 := fun _ => rfl }⟩
                    · obtain rfl := hM.l2 (by first | exact hdep | simp [hdep])
                      obtain rfl := hM.l3 (by first | exact hdep | simp [hdep])
                      have HM := Lib.hid hM
                      clear hM hdep hLi
                      go_simp
                      refine hK _ _ ?_
                      exact ⟨s73, s74, _, _, _, s78, s79, s80, s72, s81, s82, s19, s18, rfl, { HM.out with l4 := fun _ => rfl }⟩
                    · obtain rfl := hM.l4 (by first | exact hdep | simp [hdep])
                      have HM := Lib.hid hM
                      have z0 := Below.cellOf HM.out.bel d0
                      have z1 := Below.cellOf HM.out.bel d1
                      clear hM hdep hLi
                      go_simp
                      refine hK _ _ ?_
                      exact ⟨s73, s74, s75, s76, _, _, s79, s80, s72, s81, s82, s19, s18, rfl, { HM.out with l5 := fun _ => rfl }⟩
                    · have HM := Lib.hid hM
                      clear hM hdep hLi
                      go_simp
                      refine hK _ _ ?_
                      exact ⟨s73, s74, s75, s76, s77, s78, _, s80, s72, s81, s82, s19, s18, rfl, { HM.out with l6 := fun _ => rfl }⟩
                    · obtain rfl := hM.l0 (by first | exact hdep | simp [hdep])
                      obtain rfl := hM.l1 (by first | exact hdep | simp [hdep])
                      obtain rfl := hM.l5 (by first | exact hdep | simp [hdep])
                      obtain rfl := hM.l6 (by first | exact hdep | simp [hdep])
                      have HM := Lib.hid hM
                      have HVL := value24 ar cs sz tb G th p q r (fun _ => True) ao co to_ tho ca cc ct cth _ W (HA7.out.kept HM.out.bel) (HC7.out.kept HM.out.bel) (HT7.out.kept HM.out.bel) (HG7.out.kept HM.out.bel) (HH7.out.kept HM.out.bel) HNA.out HNC.out HNT.out HNH.out (by omega)
                      rw [HVG.out] at HVL
                      simp only [FV] at HVL
                      clear hM hdep hLi
                      go_simp
                      refine HVL.mono ?_
                      rintro e W' ⟨rfl, hb⟩
                      refine hK _ _ ?_
                      exact ⟨_, _, s75, s76, s77, _, _, _, s72, s81, s82, s19, s18, rfl, { HM.out.mono hb with l7 := fun _ => rfl }⟩
                    · obtain rfl := hM.l7 (by first | exact hdep | simp [hdep])
                      have HM := Lib.hid hM
                      clear hM hdep hLi
                      go_simp
                      refine hK _ _ ?_
                      exact ⟨s73, s74, s75, s76, s77, s78, s79, _, _, s81, s82, s19, s18, rfl, { HM.out with l8 := fun _ => rfl }⟩
                    · obtain rfl := hM.l8 (by first | exact hdep | simp [hdep])
                      have HM := Lib.hid hM
                      clear hM hdep hLi
                      go_simp
                      refine hK _ _ ?_
                      exact ⟨s73, s74, s75, s76, s77, s78, s79, s80, _, _, s82, s19, s18, rfl, { HM.out with l9 := fun _ => rfl }⟩
                    · obtain rfl := hM.l8 (by first | exact hdep | simp [hdep])
                      have HM := Lib.hid hM
                      clear hM hdep hLi
                      go_simp
                      refine hK _ _ ?_
                      exact ⟨s73, s74, s75, s76, s77, s78, s79, s80, _, s81, _, s19, s18, rfl, { HM.out with l10 := fun _ => rfl }⟩
                    · have H13 := Lib.hid (show L 13 = false by
                        cases h : L 13 with
                        | false => rfl
                        | true => have := hM.k0 h; rw [hLi] at this; cases this)
                      have HM := Lib.hid hM
                      clear hM hdep hLi
                      go_simp
                      have hb := fun o => (Below.refl W.heap.size W).alloc (Nat.le_refl _) o
                      refine hK _ _ ?_
                      exact ⟨s73, s74, s75, s76, s77, s78, s79, s80, s72, s81, s82, _, s18, rfl, { HM.out.mono (hb _) with l11 := fun _ => ⟨_, rfl, by show _ = some (Obj.cells (if L 13 = true then _ else _) 32 (0, 0)); rw [H13.out]; exact heap_ofAlloc W _, HM.out.bel.size⟩, k0 := fun _ => rfl }⟩
                    · obtain rfl := hM.l9 (by first | exact hdep | simp [hdep])
                      have HM := Lib.hid hM
                      clear hM hdep hLi
                      go_simp
                      refine hK _ _ ?_
                      exact ⟨s73, s74, s75, s76, s77, s78, s79, s80, s72, _, s82, s19, _, rfl, { HM.out with l12 := fun _ => rfl }⟩
                    · have hL11 : L 11 = true := by first | exact hdep | simp [hdep]
                      obtain ⟨a11, rfl, hp11⟩ := hM.l11 hL11
                      obtain rfl := hM.l10 (by first | exact hdep | simp [hdep])
                      have hbk : W.heap[a11]? = some (.cells #[.int .i64 0, .int .i64 0] 32 (0, 0)) := by have h := hp11.1; rw [hLi] at h; exact h
                      have HBK := Lib.hid hbk; have HL11 := Lib.hid hL11; have HA11 := Lib.hid hp11.2
                      obtain ⟨⟨q0, q1⟩, q2, q3⟩ := box2 hbk
                      have hlq := heap_lt hbk
                      have HM := Lib.hid hM
                      clear hM hdep hLi hp11 hbk hL11
                      go_simp
                      refine hK _ _ ?_
                      exact ⟨s73, s74, s75, s76, s77, s78, s79, s80, s72, s81, _, _, s18, rfl, { bel := (HM.out.bel.setCell (p := ⟨a11, 0, none⟩) HA11.out _).setCell (p := ⟨a11, 1, none⟩) HA11.out _, l0 := HM.out.l0, l1 := HM.out.l1, l2 := HM.out.l2, l3 := HM.out.l3, l4 := HM.out.l4, l5 := HM.out.l5, l6 := HM.out.l6, l7 := HM.out.l7, l8 := HM.out.l8, l9 := HM.out.l9, l10 := HM.out.l10, l12 := HM.out.l12, l11 := fun _ => ⟨a11, rfl, box2_set HBK.out _ _, HA11.out⟩, k0 := fun _ => HL11.out }⟩
                  case fin =>
                    rintro L a W hall ⟨s73, s74, s75, s76, s77, s78, s79, s80, s72, s81, s82, s19, s18, rfl, hM⟩
                    obtain rfl := hM.l0 (hall 0 (by decide))
                    obtain rfl := hM.l1 (hall 1 (by decide))
                    obtain rfl := hM.l2 (hall 2 (by decide))
                    obtain rfl := hM.l3 (hall 3 (by decide))
                    obtain rfl := hM.l4 (hall 4 (by decide))
                    obtain rfl := hM.l5 (hall 5 (by decide))
                    obtain rfl := hM.l6 (hall 6 (by decide))
                    obtain rfl := hM.l7 (hall 7 (by decide))
                    obtain rfl := hM.l8 (hall 8 (by decide))
                    obtain rfl := hM.l9 (hall 9 (by decide))
                    obtain rfl := hM.l10 (hall 10 (by decide))
                    obtain ⟨a11, rfl, hp11⟩ := hM.l11 (hall 11 (by decide))
                    obtain rfl := hM.l12 (hall 12 (by decide))
                    have hbel := hM.bel
                    rw [hall 13 (by decide)] at hp11
                    clear hM hall
                    have hp : W.heap[a11]? = some (.cells #[.int .i64 C, .int .i64 D] 32 (0, 0)) := hp11.1
                    have SF : St w W [.box bx #[.slice ao ar.length ca, .slice co cs.length cc] 29, .box (bx + 1) #[.int .i64 sz, .slice to_ tb.length (tb.length + ct)] 41, .box (bx + 2) #[.int .i64 x.head, .slice xk x.kids.length (x.kids.length + xs)] 44, .box (b12 + 1) #[.int .i64 0, .int .i64 0] 32, .owns intE (b12 + 2) (fun b => b12 + 2 ≤ b) _ ((ofF sz.toNat tb th bs).take k)] := S.step hbel
                    obtain ⟨⟨q0, q1⟩, q2, q3⟩ := box2 hp
                    have hzW : b12 + 2 ≤ W.heap.size := Nat.le_trans z9 hbel.size
                    have HGO := Lib.hid (show (treeF G).1 = 0 by
                      rcases (bindF_ok HDO.out.2.2.1).2 k hkb with h | h
                      · rw [← HGK.out] at h; exact absurd h.1 HHD.out
                      · rw [← HGK.out] at h; exact h.2)
                    clear S hp hp11 x0 x1 x2 x3 d0 d1 hbel
                    by_cases hC : C = 0
                    · have hcb : (C != 0) = false := by simp [hC]
                      have HGS := Lib.hid (valueF_ok (show (valueF ar cs sz tb G th).2.1 = 0 by rw [HVG.out]; exact hC))
                      have HN := Lib.hid (show N = G.ev sz.toNat tb th by
                        have h := HVG.out.symm.trans HGS.out.2.2.2.2
                        simp only [Prod.mk.injEq] at h
                        exact h.1)
                      clear hC
                      have HLK := Lib.hid (show ((ofF sz.toNat tb th bs).take k).length = k by unfold ofF; simp; omega)
                      have HLK2 := Lib.hid (show min k (ofF sz.toNat tb th bs).length = k by unfold ofF; simp; omega)
                      have HTK := Lib.hid (show (ofF sz.toNat tb th bs).take (k + 1) = (ofF sz.toNat tb th bs).take k ++ [N] by
                        have hl : k < (ofF sz.toNat tb th bs).length := by unfold ofF; simp; omega
                        rw [List.take_succ_eq_append_getElem hl]
                        have h1 := gI_ofF (s := sz.toNat) (tb := tb) (th := th) (bs := bs) (k := k) (by omega)
                        rw [gI_get hl] at h1
                        rw [h1]
                        unfold ofK; rw [if_pos hbb, ← HGK.out, ← HN.out])
                      have HSG := Lib.hid (show ∀ j, j < k + 1 → boundB bs j = true → (gK bs j).sig ar from fun j hj hbj => by
                        rcases Nat.lt_succ_iff_lt_or_eq.1 hj with h | rfl
                        · exact HS.out j h hbj
                        · rw [← HGK.out]; exact HGS.out.2.2.1)
                      have SQ : St w W [.box bx #[.slice ao ar.length ca, .slice co cs.length cc] 29, .box (bx + 1) #[.int .i64 sz, .slice to_ tb.length (tb.length + ct)] 41, .box (bx + 2) #[.int .i64 x.head, .slice xk x.kids.length (x.kids.length + xs)] 44, .box (b12 + 1) #[.int .i64 0, .int .i64 0] 32, .owns intE (b12 + 2) (fun b => b12 + 2 ≤ b) _ ((ofF sz.toNat tb th bs).take k)] := SF
                      go_wp2_with (at_builtin; refine wpList_app rfl (.tmp 101) (.tmp 103) 27 rfl intE SQ 4 rfl (x := N) (q := fun _ => False) (p' := fun b => b12 + 2 ≤ b) (show intE.is (fun _ => False) W [Value.int .i64 N] N from rfl) Try.underlying27 gi gz0 gz1 gz2 rfl rfl ?v1t3 ?v2t3 ?c1t3 ?c2t3 ?c3t3 ?c4t3 ?c5t3 ?c6t3 ?c7t3 ?_)
                      try (case v1t3 => rfl)
                      try (case v2t3 => rfl)
                      try (case c1t3 => have := HLK.out; unfold maxLen; omega)
                      try (case c2t3 => have := HLK.out; omega)
                      try (case c3t3 => omega)
                      try (case c4t3 => have := HBX.out; have := HB12.out; omega)
                      case c5t3 => intro b h1 h2; have h9 := HB12.out; simp only [offs, offAll, Fct.box, and_true]; omega
                      try (case c6t3 => intro b h1; exact h1.elim)
                      try (case c7t3 => intro b h1; rcases h1 with h1 | h1; exact h1; exact h1.elim)
                      intro gg cap wz SZ hsz hgg _
                      rw [HLK2.out] at SZ ⊢
                      rw [← HTK.out] at SZ
                      have hzz : b12 + 2 ≤ wz.heap.size := by omega
                      have SZ : St w wz [.box bx #[.slice ao ar.length ca, .slice co cs.length cc] 29, .box (bx + 1) #[.int .i64 sz, .slice to_ tb.length (tb.length + ct)] 41, .box (bx + 2) #[.int .i64 x.head, .slice xk x.kids.length (x.kids.length + xs)] 44, .box (b12 + 1) #[.int .i64 0, .int .i64 0] 32, .owns intE (b12 + 2) (fun b => b12 + 2 ≤ b) _ ((ofF sz.toNat tb th bs).take (k + 1))] := SZ
                      clear SQ
                      go_wp2_with fail
                      go_roundw
                      case rel => exact ⟨k + 1, by omega, by go_num, hzz, HSG.out, SZ⟩
                      case measure => simp [intOf] <;> omega
                    · have hcb : (C != 0) = true := by simp [hC]
                      have HT0 := Lib.hid (show x.times (-(k : Int) - 1) = 0 by
                        by_cases h0 : x.times (-(k : Int) - 1) = 0
                        · exact h0
                        · have hsv := sig_var hbb x (treeF_ok.1 HDO.out.2.1).2.2 (by rw [← HY.out]; exact HVO.out.2.2.1) h0
                          rw [← HGK.out] at hsv
                          have h := valueF_of (sz := sz) (cs := cs) (tb := tb) HVO.out.1 HGO.out hsv HVO.out.2.2.2.1
                          rw [HVG.out] at h
                          simp only [Prod.mk.injEq] at h
                          exact absurd h.2.1 hC)
                      have hx40 : x.size ≤ 1000000000 := by have := (treeF_ok.1 HDO.out.2.1).1; omega
                      have hw9 : IntKind.i64.wrap (-(k : Int) - 1) = -(k : Int) - 1 := IntWalk.i64_in _ (by omega)
                      obtain ⟨⟨x0, _⟩, x1, _⟩ := SF.two 2
                      clear hC
                      go_wp2_with fail
                      refine (SF.quiet (by have h := times31 (-(k : Int) - 1) x _ W hx40 (HX.out.kept SF.bel); rw [HT0.out] at h; exact h)).mono ?_
                      rintro e w9 ⟨rfl, z10, S9⟩
                      have SE := Lib.hid S9.bel
                      clear SF S9 x0 x1
                      go_wp2_with fail
                      go_ret
                      exact ⟨rfl, SE.out⟩
              · have hkbi : ¬ (k : Int) < (bs.length : Int) := by omega
                have hbb : boundB bs k = false := by unfold boundB; rw [decide_eq_false hkb]; rfl
                by_cases hkt : k < th.length
                · have hkti : (k : Int) < (th.length : Int) := by omega
                  obtain ⟨b8, off8, rfl, _, c8⟩ := (HTH.out.kept S.bel).int hkt
                  obtain ⟨V8, hV8⟩ : ∃ V8, V8 = th[k] := ⟨_, rfl⟩
                  rw [← hV8] at c8
                  have HV8 := Lib.hid (show gI th k = V8 by rw [gI_get hkt, hV8])
                  clear hV8
                  have HLK := Lib.hid (show ((ofF sz.toNat tb th bs).take k).length = k by unfold ofF; simp; omega)
                  have HLK2 := Lib.hid (show min k (ofF sz.toNat tb th bs).length = k by unfold ofF; simp; omega)
                  have HTK := Lib.hid (show (ofF sz.toNat tb th bs).take (k + 1) = (ofF sz.toNat tb th bs).take k ++ [V8] by
                    have hl : k < (ofF sz.toNat tb th bs).length := by unfold ofF; simp; omega
                    rw [List.take_succ_eq_append_getElem hl]
                    have h1 := gI_ofF (s := sz.toNat) (tb := tb) (th := th) (bs := bs) (k := k) (by omega)
                    rw [gI_get hl] at h1
                    rw [h1]
                    unfold ofK; rw [if_neg (by rw [hbb]; simp), if_pos hkt, HV8.out])
                  have HSG := Lib.hid (show ∀ j, j < k + 1 → boundB bs j = true → (gK bs j).sig ar from fun j hj hbj => by
                    rcases Nat.lt_succ_iff_lt_or_eq.1 hj with h | rfl
                    · exact HS.out j h hbj
                    · rw [hbb] at hbj; cases hbj)
                  have SQ : St w wr [.box bx #[.slice ao ar.length ca, .slice co cs.length cc] 29, .box (bx + 1) #[.int .i64 sz, .slice to_ tb.length (tb.length + ct)] 41, .box (bx + 2) #[.int .i64 x.head, .slice xk x.kids.length (x.kids.length + xs)] 44, .box (b12 + 1) #[.int .i64 0, .int .i64 0] 32, .owns intE (b12 + 2) (fun b => b12 + 2 ≤ b) _ ((ofF sz.toNat tb th bs).take k)] := S
                  go_wp2_with (at_builtin; refine wpList_app rfl (.tmp 101) (.tmp 103) 27 rfl intE SQ 4 rfl (x := V8) (q := fun _ => False) (p' := fun b => b12 + 2 ≤ b) (show intE.is (fun _ => False) wr [Value.int .i64 V8] V8 from rfl) Try.underlying27 gi gz0 gz1 gz2 rfl rfl ?v1t4 ?v2t4 ?c1t4 ?c2t4 ?c3t4 ?c4t4 ?c5t4 ?c6t4 ?c7t4 ?_)
                  try (case v1t4 => rfl)
                  try (case v2t4 => rfl)
                  try (case c1t4 => have := HLK.out; unfold maxLen; omega)
                  try (case c2t4 => have := HLK.out; omega)
                  try (case c3t4 => omega)
                  try (case c4t4 => have := HBX.out; have := HB12.out; omega)
                  case c5t4 => intro b h1 h2; have h9 := HB12.out; simp only [offs, offAll, Fct.box, and_true]; omega
                  try (case c6t4 => intro b h1; exact h1.elim)
                  try (case c7t4 => intro b h1; rcases h1 with h1 | h1; exact h1; exact h1.elim)
                  intro gg cap wz SZ hsz hgg _
                  rw [HLK2.out] at SZ ⊢
                  rw [← HTK.out] at SZ
                  have hzz : b12 + 2 ≤ wz.heap.size := by omega
                  have SZ : St w wz [.box bx #[.slice ao ar.length ca, .slice co cs.length cc] 29, .box (bx + 1) #[.int .i64 sz, .slice to_ tb.length (tb.length + ct)] 41, .box (bx + 2) #[.int .i64 x.head, .slice xk x.kids.length (x.kids.length + xs)] 44, .box (b12 + 1) #[.int .i64 0, .int .i64 0] 32, .owns intE (b12 + 2) (fun b => b12 + 2 ≤ b) _ ((ofF sz.toNat tb th bs).take (k + 1))] := SZ
                  clear SQ
                  go_wp2_with fail
                  go_roundw
                  case rel => exact ⟨k + 1, by omega, by go_num, hzz, HSG.out, SZ⟩
                  case measure => simp [intOf] <;> omega
                · have hkti : ¬ (k : Int) < (th.length : Int) := by omega
                  have HLK := Lib.hid (show ((ofF sz.toNat tb th bs).take k).length = k by unfold ofF; simp; omega)
                  have HLK2 := Lib.hid (show min k (ofF sz.toNat tb th bs).length = k by unfold ofF; simp; omega)
                  have HTK := Lib.hid (show (ofF sz.toNat tb th bs).take (k + 1) = (ofF sz.toNat tb th bs).take k ++ [(0 : Int)] by
                    have hl : k < (ofF sz.toNat tb th bs).length := by unfold ofF; simp; omega
                    rw [List.take_succ_eq_append_getElem hl]
                    have h1 := gI_ofF (s := sz.toNat) (tb := tb) (th := th) (bs := bs) (k := k) (by omega)
                    rw [gI_get hl] at h1
                    rw [h1]
                    unfold ofK; rw [if_neg (by rw [hbb]; simp), if_neg hkt])
                  have HSG := Lib.hid (show ∀ j, j < k + 1 → boundB bs j = true → (gK bs j).sig ar from fun j hj hbj => by
                    rcases Nat.lt_succ_iff_lt_or_eq.1 hj with h | rfl
                    · exact HS.out j h hbj
                    · rw [hbb] at hbj; cases hbj)
                  have SQ : St w wr [.box bx #[.slice ao ar.length ca, .slice co cs.length cc] 29, .box (bx + 1) #[.int .i64 sz, .slice to_ tb.length (tb.length + ct)] 41, .box (bx + 2) #[.int .i64 x.head, .slice xk x.kids.length (x.kids.length + xs)] 44, .box (b12 + 1) #[.int .i64 0, .int .i64 0] 32, .owns intE (b12 + 2) (fun b => b12 + 2 ≤ b) _ ((ofF sz.toNat tb th bs).take k)] := S
                  go_wp2_with (at_builtin; refine wpList_app rfl (.tmp 101) (.tmp 103) 27 rfl intE SQ 4 rfl (x := (0 : Int)) (q := fun _ => False) (p' := fun b => b12 + 2 ≤ b) (show intE.is (fun _ => False) wr [Value.int .i64 (0 : Int)] (0 : Int) from rfl) Try.underlying27 gi gz0 gz1 gz2 rfl rfl ?v1t5 ?v2t5 ?c1t5 ?c2t5 ?c3t5 ?c4t5 ?c5t5 ?c6t5 ?c7t5 ?_)
                  try (case v1t5 => rfl)
                  try (case v2t5 => rfl)
                  try (case c1t5 => have := HLK.out; unfold maxLen; omega)
                  try (case c2t5 => have := HLK.out; omega)
                  try (case c3t5 => omega)
                  try (case c4t5 => have := HBX.out; have := HB12.out; omega)
                  case c5t5 => intro b h1 h2; have h9 := HB12.out; simp only [offs, offAll, Fct.box, and_true]; omega
                  try (case c6t5 => intro b h1; exact h1.elim)
                  try (case c7t5 => intro b h1; rcases h1 with h1 | h1; exact h1; exact h1.elim)
                  intro gg cap wz SZ hsz hgg _
                  rw [HLK2.out] at SZ ⊢
                  rw [← HTK.out] at SZ
                  have hzz : b12 + 2 ≤ wz.heap.size := by omega
                  have SZ : St w wz [.box bx #[.slice ao ar.length ca, .slice co cs.length cc] 29, .box (bx + 1) #[.int .i64 sz, .slice to_ tb.length (tb.length + ct)] 41, .box (bx + 2) #[.int .i64 x.head, .slice xk x.kids.length (x.kids.length + xs)] 44, .box (b12 + 1) #[.int .i64 0, .int .i64 0] 32, .owns intE (b12 + 2) (fun b => b12 + 2 ≤ b) _ ((ofF sz.toNat tb th bs).take (k + 1))] := SZ
                  clear SQ
                  go_wp2_with fail
                  go_roundw
                  case rel => exact ⟨k + 1, by omega, by go_num, hzz, HSG.out, SZ⟩
                  case measure => simp [intOf] <;> omega
            · obtain rfl : k = 8 := by omega
              have HO := Lib.hid (S.owns intE 4)
              have hol : (ofF sz.toNat tb th bs).length = 8 := by unfold ofF; simp
              rw [List.take_of_length_le (by omega)] at HO
              obtain ⟨ro, spo, rfl, hrow, hml⟩ := HO.out.row (fun b h => h)
              have HROW := Lib.hid (hrow.mono (q := fun _ => True) (fun _ _ _ => trivial))
              have HTB := Lib.hid (show ∃ s' : Nat, sz = s' ∧ TabOK ar s' tb from (tabF_zero HVO.out.1).2.2)
              have HEV := Lib.hid (show valueF ar cs sz tb x (ofF sz.toNat tb th bs) = (V, (0, 0)) by
                obtain ⟨s', hs', ht'⟩ := HTB.out
                subst hs'
                have h := valueF_of (cs := cs) (sz := (s' : Int)) (tb := tb) HVO.out.1 HDO.out.2.1 (sig_sub x (treeF_ok.1 HDO.out.2.1).2.2 (by rw [← HY.out]; exact HVO.out.2.2.1)) (ofF_ok ht' HVO.out.2.2.2.1 (fun k hk hb => HS.out k hk hb))
                rw [h, HVV.out, HY.out, ev_sub x (treeF_ok.1 HDO.out.2.1).2.2])
              have S := S.pick [0, 1, 2, 3]
              obtain ⟨⟨x0, _⟩, x1, _⟩ := S.two 0
              obtain ⟨⟨x2, _⟩, x3, _⟩ := S.two 1
              obtain ⟨⟨x4, _⟩, x5, _⟩ := S.two 2
              have hmo : (ofF sz.toNat tb th bs).length ≤ maxLen ∧ (ofF sz.toNat tb th bs).length ≤ 1000000000 := by rw [hol]; unfold maxLen; omega
              have HMO := Lib.hid hmo
              clear hrow hml HO hol hmo
              go_wp2_with fail
              refine (S.valued (value24 ar cs sz tb x (ofF sz.toNat tb th bs) p q r (fun _ => True) ao co to_ ro ca cc ct ((ofF sz.toNat tb th bs).length + spo) _ _ (HA.out.kept S.bel) (HC.out.kept S.bel) (HT.out.kept S.bel) (HX.out.kept S.bel) HROW.out HNA.out HNC.out HNT.out HMO.out.1 HMO.out.2)).mono ?_
              rintro e w9 ⟨V2, C2, D2, rfl, HV2, z10, S9⟩
              obtain ⟨rfl, rfl, rfl⟩ : V2 = V ∧ C2 = 0 ∧ D2 = 0 := by have h := HV2.out.symm.trans HEV.out; simpa using h
              obtain ⟨⟨y0, y1⟩, y2, y3⟩ := S9.two 3
              have hl3 := S9.lt 3
              have hvv : (V2 == V2) = true := by simp
              have SE := Lib.hid ((S9.bel.setCell (p := ⟨b12 + 1, 0, none⟩) (by have := HBX.out; have := HB12.out; show w.heap.size ≤ b12 + 1; omega) (.int .i64 0)).setCell (p := ⟨b12 + 1, 1, none⟩) (by have := HBX.out; have := HB12.out; show w.heap.size ≤ b12 + 1; omega) (.int .i64 0))
              clear S S9 x0 x1 x2 x3 x4 x5
              go_wp2_with fail
              go_ret
              exact ⟨rfl, SE.out⟩
        · have hcb : (C != 0) = true := by simp [hC]
          have hV0 : V = 0 := by
            have h := valueF_bad (ar := ar) (cs := cs) (sz := sz) (tb := tb) (x := Y) (th := th) (by rw [HV.out]; exact hC)
            rw [HV.out] at h; exact h
          subst hV0
          have SE := Lib.hid S6.bel
          clear hC S6
          go_wp2_with fail
          go_ret
          exact ⟨rfl, SE.out⟩
      · have hcb : (C != 0) = true := by simp [hC]
        have hy0 : y = zeroT := by
          have h := doF_err (t := x) (bs := bs) (by rw [HD.out]; exact hC)
          rw [HD.out] at h; exact h
        obtain ⟨⟨x0, _⟩, x1, _⟩ := S4.two 4
        obtain ⟨⟨x2, _⟩, x3, _⟩ := S4.two 5
        have HZ := Lib.hid (show decide (y.head = 0 ∧ y.kids.length = 0) = true by rw [hy0]; rfl)
        clear hC hy0
        go_wp2_with fail
        rw [← hb12]
        refine S4.gen (z := b12 + 2) z4 ?_
        intro w4 z5 S
        clear S4 z4 hb12 x0 x1 x2 x3
        refine (S.quiet (by have h := none24 y _ w4 (St.treeP S 3 rfl).at; rw [HZ.out] at h; exact h)).mono ?_
        rintro e w5 ⟨rfl, z6, S5⟩
        have SE := Lib.hid S5.bel
        clear S S5
        go_wp2_with fail
        go_ret
        exact ⟨rfl, SE.out⟩
end Go.Proofs.Yteekoclfpehnpaa
