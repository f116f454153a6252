/-
  Walk: the law TopWishes.
-/
import Derived.Test.YtlpoedjipncbhaaProg
import Derived.Test.YtlpoedjipncbhaaTw3
import Derived.Test.YtlpoedjipncbhaaTw5
import Derived.Test.YtlpoedjipncbhaaPk
import Derived.Test.YtlpoedjipncbhaaTw7
import Derived.RegionTactic
import Derived.BigQuiet
import Derived.Deep.CutBlock
import Derived.Deep.DeepCutAuto
namespace Go.Proofs.Ytlpoedjipncbhaa
open Go.RowKit Go.Shelf
set_option linter.unusedVariables false
set_option linter.unusedSimpArgs false
set_option maxHeartbeats 400000

theorem cells_of_row {p : Nat → Prop} {w : World} {ao : Option Addr} {l : List Int} (h : intE.Row p w ao l) : CellsAt w ao l.length (fun j => .int .i64 (gI l j)) := fun j hj => by
  obtain ⟨b, off, e, _, hc⟩ := h.int hj
  exact ⟨b, off, e, by show _ = some (Value.int .i64 (gI l j)); rw [gI_get hj]; exact hc⟩
/-- what the first loop makes: the wishes and their weights -/
def WishP (w2 : World) (B bn : Nat) (lv wv : Value) (W : World) : Prop :=
  ∃ (ls : List (List Int)) (ws : List Int), ls.length ≤ 5 ∧ ws.length = ls.length ∧ Hid (∀ c ∈ ls, GoodC 5 c) ∧ Hid (okWs ws) ∧
    St w2 W [.owns intsE B (fun b => B ≤ b ∧ wv.ownBlock ≠ some b) lv ls, .owns intE B (fun _ => False) wv ws]
set_option maxRecDepth 100000 in
set_option maxHeartbeats 16000000 in
theorem topWishes3 (hsure : ∀ w, Calls Try.prog 9 #[] w fun e w' => e = .returned (.bool true) ∧ Below w.heap.size w w')
    (a b d : List Int) (ao bo co : Option Addr) (ac bc cc : Nat) (w : World) (ha : intE.Row (fun b => b < w.heap.size) w ao a) (hb : intE.Row (fun b => b < w.heap.size) w bo b) (hd : intE.Row (fun b => b < w.heap.size) w co d) (han : a.length ≤ maxLen) (hbn : b.length ≤ maxLen) (hdn : d.length ≤ maxLen) (hac : a.length ≤ ac) (hbc : b.length ≤ bc) :
    Calls Try.prog 3 #[.slice ao a.length ac, .slice bo b.length bc, .slice co d.length cc] w fun e w' => e = .returned (.bool true) ∧ Below w.heap.size w w' := by
  have HSU := Lib.hid hsure
  have HA := Lib.hid (fun W hB => cnfOf9 _ ao a ac 8 W (ha.kept (w' := W) hB) han hac (by omega))
  have HB := Lib.hid hb
  have HAT := Lib.hid (fun W hB i => at7 d i co cc W (cells_of_row (hd.kept (w' := W) hB)) hdn)
  obtain ⟨an, han2⟩ : ∃ n, n = a.length := ⟨_, rfl⟩
  obtain ⟨bn, hbn2⟩ : ∃ n, n = b.length := ⟨_, rfl⟩
  obtain ⟨dn, hdn2⟩ : ∃ n, n = d.length := ⟨_, rfl⟩
  rw [← han2] at HA ⊢
  rw [← hdn2] at HAT ⊢
  have HBN := Lib.hid hbn2
  rw [← hbn2] at hbn hbc ⊢
  unfold maxLen at hbn
  have S0 := St.start w
  clear ha hb hd han hdn hac han2 hdn2 hbn2 hsure
  go_enter Try.func3, Try.ntmps3
  go_wp2_with fail
  refine (HA.out w S0.bel).mono ?_
  clear HA
  rintro e w1 ⟨cs, lo1, sp1, rfl, hl1, hG1, hrow1, hb1⟩
  have HG := Lib.hid hG1
  obtain ⟨n, hn1⟩ : ∃ n, n = cs.length := ⟨_, rfl⟩
  rw [← hn1] at hl1 ⊢
  have HN := Lib.hid hn1
  obtain ⟨b7, hb7⟩ : ∃ b, b = w1.heap.size := ⟨_, rfl⟩
  have S1 := ((S0.step hb1).add (.rowE intsE (fun _ => True) lo1 cs) (hrow1.mono (fun _ _ _ => trivial))).box hb7.symm #[.int .i64 5, .slice lo1 n (n + sp1)] 25
  clear S0 hG1 hrow1 hb1 hn1
  go_upto_region 2 with fail
  rw [← hb7]
  refine S1.genC (z := 0) (by omega) ?_
  clear S1 hb7
  intro w2 _ S
  have HROW := Lib.hid (show intsE.Row (fun b => b < w2.heap.size) w2 lo1 cs from (S.rowE intsE 0).keep (fun b _ h2 => ⟨rfl, h2⟩))
  have HBEL := Lib.hid S.bel
  have HBX := Lib.hid (S.block 1)
  obtain ⟨B, hB⟩ : ∃ B, B = w2.heap.size := ⟨_, rfl⟩
  have HBB := Lib.hid hB
  have S2 : St w2 w2 [.owns intsE B (fun b => B ≤ b ∧ (Value.slice none 0 0).ownBlock ≠ some b) (.slice none 0 0) [], .owns intE B (fun _ => False) (.slice none 0 0) []] := ((St.start w2).add _ (Elt.Own.nil _ _ _ _)).add _ (Elt.Own.nil _ _ _ _)
  clear S hB
  go_upto_block 0 with fail
  go_cut [8, 9] (fun lv wv W => WishP w2 B bn lv wv W)
  case first =>
    go_wp2_with fail
    obtain ⟨i3, gi, gz0, gz1, gz2⟩ := info_parts infoS
    obtain ⟨i4, ji, jz0, jz1, jz2⟩ := info_parts infoI
    go_loopw [8, 9, 10] (fun lv wv i wr => ∃ (k : Nat) (ls : List (List Int)) (ws : List Int), k ≤ 5 ∧ k ≤ bn ∧ i = .int .i64 k ∧ ls.length = k ∧ ws.length = k ∧ Hid (∀ c ∈ ls, GoodC 5 c) ∧ Hid (okWs ws) ∧ Hid (∀ b, lv.ownBlock = some b → wv.ownBlock ≠ some b) ∧
      St w2 wr [.owns intsE B (fun b => B ≤ b ∧ wv.ownBlock ≠ some b) lv ls, .owns intE B (fun _ => False) wv ws]) (fun _ _ i _ => 5 - (intOf i).toNat)
    case atStart => exact ⟨0, [], [], by omega, by omega, rfl, rfl, rfl, Lib.hid (by simp), Lib.hid (by intro x hx; cases hx), Lib.hid (fun b h => by cases h), S2⟩
    case round =>
      clear S2
      obtain ⟨k, ls, ws, hk, hkb, rfl, hlk, hwk, HGL, HOW, HDJ, S⟩ := hrel
      have HLK := Lib.hid hlk; have HWK := Lib.hid hwk
      by_cases g1 : k < bn
      · by_cases g2 : k < 5
        · have hmi : (k : Int) < (bn : Int) := by omega
          have hni : (k : Int) < 5 := by omega
          have hltc : k < b.length := by have := HBN.out; omega
          obtain ⟨bb, off, rfl, hpb, c1⟩ := (HB.out.kept (Below.step HBEL.out S.bel)).int hltc
          obtain ⟨x, hx⟩ : ∃ x, x = b[k] := ⟨_, rfl⟩
          rw [← hx] at c1
          clear hx hltc hlk hwk
          go_wp2_with fail
          refine (clause20 x _).mono ?_
          rintro e w5 ⟨c, lo, sp, rfl, hGc, hrow, hb5⟩
          have HGc := Lib.hid hGc
          have HROWc := Lib.hid hrow
          have how := S.ownlt intsE 0 rfl
          have hww := S.ownlt intE 1 rfl
          have HOWL := Lib.hid how; have HWWL := Lib.hid hww
          have S5 := S.step hb5
          have hz5 : wr.heap.size ≤ w5.heap.size := hb5.size
          have hzB : B ≤ wr.heap.size := by have := S.size; have := HBB.out; omega
          clear hGc hrow hb5 S how hww c1
          have HXJ : Hid (intsE.is (fun b => wr.heap.size ≤ b ∧ b < w5.heap.size) w5 [.slice lo c.length (c.length + sp)] c) := Lib.hid ⟨lo, sp, rfl, HROWc.out.keep (fun b h1 h2 => ⟨rfl, h1, h2⟩), by have := HGc.out.len; unfold maxLen; omega⟩
          go_wp2_with (at_builtin; refine wpList_app rfl (.tmp 28) (.tmp 34) 23 rfl intsE S5 0 rfl (x := c) (q := fun b => wr.heap.size ≤ b ∧ b < w5.heap.size) (p' := fun b => B ≤ b ∧ u9.ownBlock ≠ some b) HXJ.out Try.underlying23 gi gz0 gz1 gz2 rfl rfl ?v1 ?v2 ?c1 ?c2 ?c3 ?c4 ?c5 ?c6 ?c7 ?_)
          try (case v1 => rfl)
          try (case v2 => first | rfl | (simp; done) | (simp; rfl))
          case c1 => have := HLK.out; unfold maxLen; omega
          case c2 => have := HLK.out; omega
          case c3 => omega
          case c4 => have := HBB.out; omega
          case c5 => intro bb2 h1 h2 h3; simp only [offs, offAll, Fct.owns, and_true]; intro e; rcases e with e | e; exact HDJ.out bb2 h1 e; exact e
          case c6 => intro bb2 h e; have := (HOWL.out bb2 e).2; have h4 : wr.heap.size ≤ bb2 := h.1; omega
          case c7 =>
            intro bb2 h
            rcases h with h | h
            · exact h
            · exact ⟨by have := h.1; omega, fun e => by have := (HWWL.out bb2 e).2; have := h.1; omega⟩
          intro gg cap w6 S6 hs6 hgg hat
          have HGN := Lib.hid (show u9.ownBlock ≠ some gg ∧ ∀ b, (Value.slice (some ⟨gg, 0, none⟩) (ls.length + 1) cap).ownBlock = some b → b = gg from ⟨fun e => by
            rcases hat with h | h
            · exact HDJ.out gg h e
            · have := (HWWL.out gg e).2; omega, fun b h => by simpa [Value.ownBlock] using h.symm⟩)
          have HGL2 := Lib.hid (show ∀ c2 ∈ ls ++ [c], GoodC 5 c2 from fun c2 h => by rcases List.mem_append.1 h with h | h; exact HGL.out c2 h; rw [List.mem_singleton.1 h]; exact HGc.out)
          have HL2 := Lib.hid (show (ls ++ [c]).length = k + 1 by have := HLK.out; simp; omega)
          have hlk2 := HLK.out
          rw [hlk2] at S6 HGN ⊢
          clear hlk2 hat HXJ
          have hz6 : B ≤ w6.heap.size := by omega
          clear S5
          go_wp2_with fail
          refine (HAT.out w6 (Below.step HBEL.out S6.bel) k).mono ?_
          rintro e w7 ⟨rr, rfl, hw⟩
          have hw := hw.symm
          subst hw
          go_wp2_with fail
          refine (picked5 rr 20 _ (by omega) (by omega)).mono ?_
          rintro e w8 ⟨v, rfl, hv1, hv2, hw⟩
          have hw := hw.symm
          subst hw
          have HWW2 := Lib.hid (S6.ownlt intE 1 rfl)
          have OT := (S6.owns intsE 0 rfl).tightC (q := fun b => (B ≤ b ∧ u9.ownBlock ≠ some b) ∧ b < w6.heap.size) (fun b h h2 => ⟨h, h2⟩)
          have S7 : St w2 w6 [.owns intsE B (fun b => (B ≤ b ∧ u9.ownBlock ≠ some b) ∧ b < w6.heap.size) (.slice (some ⟨gg, 0, none⟩) (k + 1) cap) (ls ++ [c]), .owns intE B (fun _ => False) u9 ws] := S6.repl 0 _ OT
          clear S6 OT
          go_wp2_with (at_builtin; refine wpList_app rfl (.tmp 36) (.tmp 41) 22 rfl intE S7 1 rfl (x := v) (q := fun _ => False) (p' := fun _ => False) rfl Try.underlying22 ji jz0 jz1 jz2 rfl rfl ?v1 ?v2 ?c1 ?c2 ?c3 ?c4 ?c5 ?c6 ?c7 ?_)
          try (case v1 => rfl)
          try (case v2 => first | rfl | (simp; done) | (simp; rfl))
          case c1 => have := HWK.out; unfold maxLen; omega
          case c2 => have := HWK.out; omega
          case c3 => omega
          case c4 => have := HBB.out; omega
          case c5 => intro bb2 h1 h2 h3; simp only [offs, offAll, Fct.owns, and_true]; intro e; rcases e with e | e; exact HGN.out.1 (by rw [h1, HGN.out.2 bb2 e]); exact e.1.2 h1
          case c6 => intro bb2 h; exact h.elim
          case c7 => intro bb2 h; exact h.elim id id
          intro g2 cap2 w9 S8 hs8 hgg8 hat8
          have hwk2 := HWK.out
          rw [hwk2] at S8 ⊢
          have OM := (S8.owns intsE 0 rfl).mono (q := fun b => B ≤ b ∧ (Value.slice (some ⟨g2, 0, none⟩) (k + 1) cap2).ownBlock ≠ some b) (fun b h => ⟨h.1.1, fun e => by
            have e2 : b = g2 := by simpa [Value.ownBlock] using e.symm
            subst e2
            rcases hat8 with h8 | h8
            · exact h.1.2 h8
            · have := h.2; omega⟩)
          have S9 : St w2 w9 [.owns intsE B (fun b => B ≤ b ∧ (Value.slice (some ⟨g2, 0, none⟩) (k + 1) cap2).ownBlock ≠ some b) (.slice (some ⟨gg, 0, none⟩) (k + 1) cap) (ls ++ [c]), .owns intE B (fun _ => False) (.slice (some ⟨g2, 0, none⟩) (k + 1) cap2) (ws ++ [v])] := S8.repl 0 _ OM
          have HDJ2 := Lib.hid (show ∀ b, (Value.slice (some ⟨gg, 0, none⟩) (k + 1) cap).ownBlock = some b → (Value.slice (some ⟨g2, 0, none⟩) (k + 1) cap2).ownBlock ≠ some b from fun b h e => by
            have e1 := HGN.out.2 b h
            have e2 : b = g2 := by simpa [Value.ownBlock] using e.symm
            subst e1
            rcases hat8 with h8 | h8
            · exact HGN.out.1 (by rw [h8, e2])
            · omega)
          have HS9 := Lib.hid S9
          have HOW2 := Lib.hid (show okWs (ws ++ [v]) from fun z hz => by rcases List.mem_append.1 hz with h | h; exact HOW.out z h; rw [List.mem_singleton.1 h]; omega)
          have HW2 := Lib.hid (show (ws ++ [v]).length = k + 1 by simp; exact hwk2)
          clear S7 S8 S9 OM hat8 hwk2
          go_wp2_with fail
          go_roundw
          case rel => exact ⟨k + 1, ls ++ [c], ws ++ [v], by omega, by omega, by go_num, HL2.out, HW2.out, HGL2, HOW2, HDJ2, HS9.out⟩
          case measure => simp [intOf] <;> omega
        · obtain rfl : k = 5 := by omega
          have SB := Lib.hid S
          clear S
          go_wp2_with fail
          go_meet
          case rel => exact ⟨ls, ws, by omega, by omega, HGL, HOW, SB.out⟩
      · obtain rfl : k = bn := by omega
        have SB := Lib.hid S
        clear S
        go_wp2_with fail
        go_meet
        case rel => exact ⟨ls, ws, by omega, by omega, HGL, HOW, SB.out⟩
  case rest =>
    obtain ⟨ls, ws, hl5, hwl, HGL, HOW, S⟩ := hcut
    clear S2
    obtain ⟨lo, lsp, rfl, hrl, _⟩ := (S.owns intsE 0 rfl).rowB
    obtain ⟨wo, wsp, rfl, hrw, _⟩ := (S.owns intE 1 rfl).rowB
    have HRL := Lib.hid (show intsE.Row (fun b => b < wc.heap.size) wc lo ls from hrl.keep (fun b _ h2 => ⟨rfl, h2⟩))
    have HRW := Lib.hid (show intE.Row (fun b => b < wc.heap.size) wc wo ws from hrw.keep (fun b _ h2 => ⟨rfl, h2⟩))
    have HRC := Lib.hid (HROW.out.kept S.bel)
    have HBW := Lib.hid (Below.step HBEL.out S.bel)
    have h7 := heap_lt HBX.out
    have hbx7 := (S.bel.block b7 h7).trans HBX.out
    have hsz := S.size
    have hwcc := Lib.hid (show ∀ b, b < w2.heap.size → b < wc.heap.size from fun b h => by have := hsz; omega)
    have HDO := Lib.hid (do8 cs ls ws (fun b => b < wc.heap.size) (fun b => b < w2.heap.size) (fun b => b < wc.heap.size) lo1 lo wo (n + sp1) ls.length (ls.length + lsp) (ws.length + wsp) wc HG.out (by have := HN.out; omega) HGL.out rfl (by omega) HOW.out hwl HRC.out HRL.out HRW.out hwcc.out (fun b h => h) (fun b h => h))
    rw [← HN.out] at HDO
    obtain ⟨ln, hln⟩ : ∃ l, l = ls.length := ⟨_, rfl⟩
    have HLN := Lib.hid hln
    have HWLN := Lib.hid (show ws.length = ln by omega)
    rw [HWLN.out, ← hln] at HDO ⊢
    have hlc : ln ≤ ln + lsp := by omega
    obtain ⟨lc, hlc2⟩ : ∃ l, l = ln + lsp := ⟨_, rfl⟩
    obtain ⟨wcp, hwc2⟩ : ∃ l, l = ln + wsp := ⟨_, rfl⟩
    rw [← hlc2] at HDO hlc ⊢
    rw [← hwc2] at HDO ⊢
    rw [← hln] at hl5
    obtain ⟨⟨x0, _⟩, x1, _⟩ := box2 hbx7
    have HX7 := Lib.hid hbx7
    clear hln hlc2 hwc2 hrl hrw S hwl hbx7
    go_upto_region 9 with fail
    go_wp2_with fail
    refine HDO.out.mono ?_
    rintro e w3 ⟨xs, hxs, rfl, hat, hge, hb3⟩
    have HB3 := Lib.hid hb3
    have HBW3 := Lib.hid (Below.step HBW.out hb3)
    have HMO := Lib.hid (fun (W : World) (hW : Below wc.heap.size wc W) => models10 cs (fun b => b < w2.heap.size) lo1 (n + sp1) W (fun c hc => (HG.out c hc).lit) (by have := HN.out; unfold maxLen; omega) (HRC.out.kept hW))
    rw [← HN.out] at HMO
    obtain ⟨b14, hb14⟩ : ∃ b, b = w3.heap.size := ⟨_, rfl⟩
    have S3 := (St.start w3).box hb14.symm #[.int .i64 0, .int .i64 0] 32
    clear HDO hb3
    cases hs : bestX (soF ls ws) xs with
    | none =>
      have HCN := Lib.hid (law_none hxs hs)
      rw [hs] at hat
      clear hxs hs hge hat
      rw [show stOf (none : Option (Int × AX)) = 2 from rfl, show bsOf (none : Option (Int × AX)) = 0 from rfl, show atOf (none : Option (Int × AX)) = .slice none 0 0 from rfl]
      go_upto_region 10 with fail
      rw [← hb14]
      refine S3.genC (z := 0) (by omega) ?_
      clear S3 hb14 x0 x1
      intro w4 _ S
      obtain ⟨⟨y0, _⟩, _⟩ := S.two 0
      have HB4 := Lib.hid (Below.step HB3.out S.bel)
      go_wp2_with fail
      refine (HSU.out w4).mono ?_
      rintro e w5 ⟨rfl, hb5⟩
      have HB5 := Lib.hid (Below.step HB4.out hb5)
      obtain ⟨⟨z0, _⟩, z1, _⟩ := box2 ((HB5.out.block b7 (hwcc.out _ h7)).trans HX7.out)
      clear hb5 S y0
      go_wp2_with fail
      refine (HMO.out w5 HB5.out).mono ?_
      rintro e w6 ⟨rfl, hb6⟩
      rw [HCN.out]
      have HB6 := Lib.hid (Below.step HBW.out (Below.step HB5.out hb6))
      clear hb6 z0 z1
      go_wp2_with fail
      go_ret
      exact ⟨rfl, HB6.out⟩
    | some p =>
      obtain ⟨b0, y⟩ := p
      obtain ⟨hcp, hal, hb0, hle⟩ := law_some hxs hs
      rw [hs] at hat
      have HAL := Lib.hid hal; have HB0 := Lib.hid hb0; have HLE := Lib.hid hle
      have hcn := cntN_le cs 32
      obtain ⟨CN, hCN⟩ : ∃ c, c = cntN cs 32 := ⟨_, rfl⟩
      rw [← hCN] at hcp hcn HMO
      have HGA : Hid (w3.heap[y.g]? = some (.cells (cellsF Value.bool (asgL y.k)) 4 (0, 0))) := Lib.hid hat
      rw [show stOf (some (b0, y)) = 1 from rfl, show bsOf (some (b0, y)) = b0 from rfl, show atOf (some (b0, y)) = .slice (some ⟨y.g, 0, none⟩) 5 5 from rfl]
      obtain ⟨ky, g⟩ := y
      dsimp only at HAL HB0 HGA ⊢
      have HHO := Lib.hid (fun (W : World) (p : Nat → Prop) (ao : Option Addr) (a : List Bool) (cp : Nat) (hW : Below wc.heap.size wc W) (ha : a.length = 5) (hr : boolE.Row p W ao a) => holds11 cs p (fun b => b < w2.heap.size) lo1 ao a (n + sp1) cp W (by rw [ha]; exact fun c hc => (HG.out c hc).lit) (by omega) (by have := HN.out; unfold maxLen; omega) (HRC.out.kept hW) hr)
      have HDE := Lib.hid (fun (W : World) (p : Nat → Prop) (ao : Option Addr) (a : List Bool) (cp : Nat) (hW : Below wc.heap.size wc W) (ha : a.length = 5) (hr : boolE.Row p W ao a) => denied12 ls ws (fun b => b < wc.heap.size) p (fun b => b < wc.heap.size) lo wo ao a ln lc wcp cp W (by rw [ha]; exact fun c hc => (HGL.out c hc).lit) (by omega) HLN.out (by have := HLN.out; omega) (by have := HLN.out; omega) HOW.out (by have := HLN.out; have := HWLN.out; omega) (HRL.out.kept hW) (HRW.out.kept hW) hr)
      rw [← HN.out] at HHO
      clear hxs hs hge hat hal hb0 hle hCN
      go_upto_region 10 with fail
      rw [← hb14]
      refine S3.genC (z := 0) (by omega) ?_
      clear S3 hb14 x0 x1
      intro w4 _ S
      obtain ⟨⟨y0, _⟩, _⟩ := S.two 0
      have HB4 := Lib.hid (Below.step HB3.out S.bel)
      have HG4 := Lib.hid ((S.bel.block g (heap_lt HGA.out)).trans HGA.out)
      go_wp2_with fail
      refine (HSU.out w4).mono ?_
      rintro e w5 ⟨rfl, hb5⟩
      have HB5 := Lib.hid (Below.step HB4.out hb5)
      have HG5 := Lib.hid ((hb5.block g (heap_lt HG4.out)).trans HG4.out)
      obtain ⟨⟨z0, _⟩, z1, _⟩ := box2 ((HB5.out.block b7 (hwcc.out _ h7)).trans HX7.out)
      clear hb5 S y0
      go_wp2_with fail
      refine (HMO.out w5 HB5.out).mono ?_
      rintro e w6 ⟨rfl, hb6⟩
      have HB6 := Lib.hid (Below.step HB5.out hb6)
      have HG6 := Lib.hid ((hb6.block g (heap_lt HG5.out)).trans HG5.out)
      clear z0 z1
      obtain ⟨⟨z0, _⟩, z1, _⟩ := box2 ((HB6.out.block b7 (hwcc.out _ h7)).trans HX7.out)
      clear hb6
      go_wp2_with fail
      have HC1 := HHO.out w6 (fun b => b = g) (some ⟨g, 0, none⟩) (asgL ky) 5 HB6.out (asgL_length ky) (row_cellsB rfl HG6.out)
      rw [asgL_length, HAL.out] at HC1
      refine HC1.mono ?_
      clear HC1 z0 z1
      rintro e w7 ⟨rfl, hb7⟩
      have HB7 := Lib.hid (Below.step HB6.out hb7)
      have HG7 := Lib.hid ((hb7.block g (heap_lt HG6.out)).trans HG6.out)
      clear hb7
      go_wp2_with fail
      have HC1 := HDE.out w7 (fun b => b = g) (some ⟨g, 0, none⟩) (asgL ky) 5 HB7.out (asgL_length ky) (row_cellsB rfl HG7.out)
      rw [asgL_length, ← HB0.out] at HC1
      refine HC1.mono ?_
      clear HC1
      rintro e w8 ⟨rfl, hb8⟩
      have HB8 := Lib.hid (Below.step HB7.out hb8)
      clear hb8
      go_wp2_with fail
      go_loopw [15] (fun i wr => ∃ k : Nat, k ≤ 32 ∧ i = .int .i64 k ∧ Below wc.heap.size wc wr) (fun i _ => 32 - (intOf i).toNat)
      case atStart => exact ⟨0, by omega, rfl, HB8.out⟩
      case round =>
        obtain ⟨k, hk, rfl, hbr⟩ := hrel
        have HBR := Lib.hid hbr
        by_cases hlt : k < 32
        · have hlti : (k : Int) < 32 := by omega
          have FC := Lib.hid (fun W (hb : Below wr.heap.size wr W) => (show W.cell? ⟨b7, 1, none⟩ = some (.slice lo1 n (n + sp1)) from (box2 (((Below.step HBR.out hb).block b7 (hwcc.out _ h7)).trans HX7.out)).2.1))
          clear hbr
          go_upto_region 19 with fail
          refine wpT_region [] (fun W => W.cell? ⟨b7, 1, none⟩ = some (.slice lo1 n (n + sp1))) (by kernel_rfl) ?_
          have HS := FC.out _ (Below.refl _ wr).drew
          try simp only [Act.put, List.setIfInBounds_toArray, List.set_cons_zero, List.set_cons_succ]
          refine wpT.take (i := 0) (by kernel_rfl) (by kernel_rfl) (by kernel_rfl) (by kernel_rfl) (by kernel_rfl) (fun _ => HS) ?_
          intro oi ho
          simp only [List.getElem?_toArray, List.getElem?_cons_succ, List.getElem?_cons_zero, Option.some.injEq] at ho
          subst ho
          refine ⟨?_, Or.inl ⟨by rfl, ?_⟩, fun _ _ _ h => h, ?_⟩
          rotate_left 1
          · intro W hW
            try (subst hW)
            try dsimp only at hW
            go_simp
            try with_reducible rfl
          try simp only [Act.put, List.setIfInBounds_toArray, List.set_cons_zero, List.set_cons_succ]
          refine wpT.take (i := 1) (by kernel_rfl) (by kernel_rfl) (by kernel_rfl) (by kernel_rfl) (by kernel_rfl) (fun _ => HS) ?_
          intro oi ho
          simp only [List.getElem?_toArray, List.getElem?_cons_succ, List.getElem?_cons_zero, Option.some.injEq] at ho
          subst ho
          refine ⟨?_, Or.inl ⟨by rfl, ?_⟩, fun _ _ _ h => h, ?_⟩
          rotate_left 1
          · intro W hW
            try (subst hW)
            try dsimp only at hW
            go_simp
            try with_reducible rfl
          try simp only [Act.put, List.setIfInBounds_toArray, List.set_cons_zero, List.set_cons_succ]
          refine wpT.take (i := 2) (by kernel_rfl) (by kernel_rfl) (by kernel_rfl) (by kernel_rfl) (by kernel_rfl) (fun _ => HS) ?_
          intro oi ho
          simp only [List.getElem?_toArray, List.getElem?_cons_succ, List.getElem?_cons_zero, Option.some.injEq] at ho
          subst ho
          refine ⟨?_, Or.inl ⟨by rfl, ?_⟩, fun _ _ _ h => h, ?_⟩
          rotate_left 1
          · intro W hW
            try (subst hW)
            try dsimp only at hW
            go_simp
            try with_reducible rfl
          try simp only [Act.put, List.setIfInBounds_toArray, List.set_cons_zero, List.set_cons_succ]
          refine wpT.one (i := 3) (by kernel_rfl) ?_
          intro oi ho
          simp only [List.getElem?_toArray, List.getElem?_cons_succ, List.getElem?_cons_zero, Option.some.injEq] at ho
          subst ho
          intro K' hK
          have HK := Lib.hid hK
          clear hK
          go_simp
          go_at_call 13
          refine (bits13 k _ hlt).mono ?_
          rintro e w10 ⟨o, rfl, hown, hb10⟩
          obtain ⟨ao1, sp5, rfl, hrow⟩ := own_bits hown
          have HROW1 := Lib.hid hrow
          have HB10 := Lib.hid (Below.step (Below.refl _ wr).drew hb10)
          clear hown hrow hb10
          refine HK.out _ _ (fun _ => FC.out _ HB10.out) ?_
          try simp only [Act.put, List.setIfInBounds_toArray, List.set_cons_zero, List.set_cons_succ]
          refine wpT.one (i := 4) (by kernel_rfl) ?_
          intro oi ho
          simp only [List.getElem?_toArray, List.getElem?_cons_succ, List.getElem?_cons_zero, Option.some.injEq] at ho
          subst ho
          intro K' hK
          have HK := Lib.hid hK
          clear hK
          go_simp
          go_at_call 11
          have HC1 := HHO.out w10 _ ao1 (bitsL k 5) (5 + sp5) (Below.step HBR.out HB10.out) (bitsL_length k 5) HROW1.out
          rw [bitsL_length] at HC1
          refine HC1.mono ?_
          clear HC1
          rintro e w11 ⟨rfl, hb11⟩
          have HB11 := Lib.hid (Below.step HB10.out hb11)
          clear hb11
          have HLK := Lib.hid (HLE.out k hlt)
          refine HK.out _ _ (fun _ => FC.out _ HB11.out) ?_
          obtain ⟨B0, hB0⟩ : ∃ b, b = allT (fB (bitsL k 5)) cs := ⟨_, rfl⟩
          rw [← hB0] at HLK ⊢
          clear hB0
          cases B0 with
          | false =>
            have HS := FC.out _ HB11.out
            try simp only [Act.put, List.setIfInBounds_toArray, List.set_cons_zero, List.set_cons_succ]
            refine wpT.take (i := 5) (by kernel_rfl) (by kernel_rfl) (by kernel_rfl) (by kernel_rfl) (by kernel_rfl) (fun _ => HS) ?_
            intro oi ho
            simp only [List.getElem?_toArray, List.getElem?_cons_succ, List.getElem?_cons_zero, Option.some.injEq] at ho
            subst ho
            refine ⟨?_, Or.inl ⟨by rfl, ?_⟩, fun _ _ _ h => h, ?_⟩
            rotate_left 1
            · intro W hW
              try (subst hW)
              try dsimp only at hW
              go_simp
              try with_reducible rfl
            try simp only [Act.put, List.setIfInBounds_toArray, List.set_cons_zero, List.set_cons_succ]
            refine wpT.pure (i := 6) (by kernel_rfl) (by kernel_rfl) (by kernel_rfl) (by kernel_rfl) (by kernel_rfl) (fun _ => HS) ?_
            intro oi ho
            simp only [List.getElem?_toArray, List.getElem?_cons_succ, List.getElem?_cons_zero, Option.some.injEq] at ho
            subst ho
            refine ⟨undef, Or.inr ⟨by rfl, by rfl⟩, fun _ _ _ h => h, ?_⟩
            try simp only [Act.put, List.setIfInBounds_toArray, List.set_cons_zero, List.set_cons_succ]
            refine wpT.pure (i := 7) (by kernel_rfl) (by kernel_rfl) (by kernel_rfl) (by kernel_rfl) (by kernel_rfl) (fun _ => HS) ?_
            intro oi ho
            simp only [List.getElem?_toArray, List.getElem?_cons_succ, List.getElem?_cons_zero, Option.some.injEq] at ho
            subst ho
            refine ⟨undef, Or.inr ⟨by rfl, by rfl⟩, fun _ _ _ h => h, ?_⟩
            try simp only [Act.put, List.setIfInBounds_toArray, List.set_cons_zero, List.set_cons_succ]
            refine wpT.pure (i := 8) (by kernel_rfl) (by kernel_rfl) (by kernel_rfl) (by kernel_rfl) (by kernel_rfl) (fun _ => HS) ?_
            intro oi ho
            simp only [List.getElem?_toArray, List.getElem?_cons_succ, List.getElem?_cons_zero, Option.some.injEq] at ho
            subst ho
            refine ⟨undef, Or.inr ⟨by rfl, by rfl⟩, fun _ _ _ h => h, ?_⟩
            try simp only [Act.put, List.setIfInBounds_toArray, List.set_cons_zero, List.set_cons_succ]
            refine wpT.pure (i := 9) (by kernel_rfl) (by kernel_rfl) (by kernel_rfl) (by kernel_rfl) (by kernel_rfl) (fun _ => HS) ?_
            intro oi ho
            simp only [List.getElem?_toArray, List.getElem?_cons_succ, List.getElem?_cons_zero, Option.some.injEq] at ho
            subst ho
            refine ⟨undef, Or.inr ⟨by rfl, by rfl⟩, fun _ _ _ h => h, ?_⟩
            try simp only [Act.put, List.setIfInBounds_toArray, List.set_cons_zero, List.set_cons_succ]
            refine wpT.pure (i := 10) (by kernel_rfl) (by kernel_rfl) (by kernel_rfl) (by kernel_rfl) (by kernel_rfl) (fun _ => HS) ?_
            intro oi ho
            simp only [List.getElem?_toArray, List.getElem?_cons_succ, List.getElem?_cons_zero, Option.some.injEq] at ho
            subst ho
            refine ⟨undef, Or.inr ⟨by rfl, by rfl⟩, fun _ _ _ h => h, ?_⟩
            try simp only [Act.put, List.setIfInBounds_toArray, List.set_cons_zero, List.set_cons_succ]
            refine wpT.pure (i := 11) (by kernel_rfl) (by kernel_rfl) (by kernel_rfl) (by kernel_rfl) (by kernel_rfl) (fun _ => HS) ?_
            intro oi ho
            simp only [List.getElem?_toArray, List.getElem?_cons_succ, List.getElem?_cons_zero, Option.some.injEq] at ho
            subst ho
            refine ⟨undef, Or.inr ⟨by rfl, by rfl⟩, fun _ _ _ h => h, ?_⟩
            try simp only [Act.put, List.setIfInBounds_toArray, List.set_cons_zero, List.set_cons_succ]
            refine wpT.pure (i := 12) (by kernel_rfl) (by kernel_rfl) (by kernel_rfl) (by kernel_rfl) (by kernel_rfl) (fun _ => HS) ?_
            intro oi ho
            simp only [List.getElem?_toArray, List.getElem?_cons_succ, List.getElem?_cons_zero, Option.some.injEq] at ho
            subst ho
            refine ⟨undef, Or.inr ⟨by rfl, by rfl⟩, fun _ _ _ h => h, ?_⟩
            try simp only [Act.put, List.setIfInBounds_toArray, List.set_cons_zero, List.set_cons_succ]
            refine wpT.take (i := 13) (by kernel_rfl) (by kernel_rfl) (by kernel_rfl) (by kernel_rfl) (by kernel_rfl) (fun _ => HS) ?_
            intro oi ho
            simp only [List.getElem?_toArray, List.getElem?_cons_succ, List.getElem?_cons_zero, Option.some.injEq] at ho
            subst ho
            refine ⟨?_, Or.inl ⟨by rfl, ?_⟩, fun _ _ _ h => h, ?_⟩
            rotate_left 1
            · intro W hW
              try (subst hW)
              try dsimp only at hW
              go_simp
              try with_reducible rfl
            try simp only [Act.put, List.setIfInBounds_toArray, List.set_cons_zero, List.set_cons_succ]
            refine wpT.done (by kernel_rfl) ?_
            have HZZ := Lib.hid (Below.step HBR.out HB11.out)
            clear HS
            go_wp2_with fail
            go_roundw
            case rel => exact ⟨k + 1, by omega, by go_num, HZZ.out⟩
            case measure => simp [intOf] <;> omega
          | true =>
            have HS := FC.out _ HB11.out
            try simp only [Act.put, List.setIfInBounds_toArray, List.set_cons_zero, List.set_cons_succ]
            refine wpT.take (i := 5) (by kernel_rfl) (by kernel_rfl) (by kernel_rfl) (by kernel_rfl) (by kernel_rfl) (fun _ => HS) ?_
            intro oi ho
            simp only [List.getElem?_toArray, List.getElem?_cons_succ, List.getElem?_cons_zero, Option.some.injEq] at ho
            subst ho
            refine ⟨?_, Or.inl ⟨by rfl, ?_⟩, fun _ _ _ h => h, ?_⟩
            rotate_left 1
            · intro W hW
              try (subst hW)
              try dsimp only at hW
              go_simp
              try with_reducible rfl
            try simp only [Act.put, List.setIfInBounds_toArray, List.set_cons_zero, List.set_cons_succ]
            refine wpT.take (i := 6) (by kernel_rfl) (by kernel_rfl) (by kernel_rfl) (by kernel_rfl) (by kernel_rfl) (fun _ => HS) ?_
            intro oi ho
            simp only [List.getElem?_toArray, List.getElem?_cons_succ, List.getElem?_cons_zero, Option.some.injEq] at ho
            subst ho
            refine ⟨?_, Or.inl ⟨by rfl, ?_⟩, fun _ _ _ h => h, ?_⟩
            rotate_left 1
            · intro W hW
              try (subst hW)
              try dsimp only at hW
              go_simp
              try with_reducible rfl
            try simp only [Act.put, List.setIfInBounds_toArray, List.set_cons_zero, List.set_cons_succ]
            refine wpT.take (i := 7) (by kernel_rfl) (by kernel_rfl) (by kernel_rfl) (by kernel_rfl) (by kernel_rfl) (fun _ => HS) ?_
            intro oi ho
            simp only [List.getElem?_toArray, List.getElem?_cons_succ, List.getElem?_cons_zero, Option.some.injEq] at ho
            subst ho
            refine ⟨?_, Or.inl ⟨by rfl, ?_⟩, fun _ _ _ h => h, ?_⟩
            rotate_left 1
            · intro W hW
              try (subst hW)
              try dsimp only at hW
              go_simp
              try with_reducible rfl
            try simp only [Act.put, List.setIfInBounds_toArray, List.set_cons_zero, List.set_cons_succ]
            refine wpT.take (i := 8) (by kernel_rfl) (by kernel_rfl) (by kernel_rfl) (by kernel_rfl) (by kernel_rfl) (fun _ => HS) ?_
            intro oi ho
            simp only [List.getElem?_toArray, List.getElem?_cons_succ, List.getElem?_cons_zero, Option.some.injEq] at ho
            subst ho
            refine ⟨?_, Or.inl ⟨by rfl, ?_⟩, fun _ _ _ h => h, ?_⟩
            rotate_left 1
            · intro W hW
              try (subst hW)
              try dsimp only at hW
              go_simp
              try with_reducible rfl
            try simp only [Act.put, List.setIfInBounds_toArray, List.set_cons_zero, List.set_cons_succ]
            refine wpT.take (i := 11) (by kernel_rfl) (by kernel_rfl) (by kernel_rfl) (by kernel_rfl) (by kernel_rfl) (fun _ => HS) ?_
            intro oi ho
            simp only [List.getElem?_toArray, List.getElem?_cons_succ, List.getElem?_cons_zero, Option.some.injEq] at ho
            subst ho
            refine ⟨?_, Or.inl ⟨by rfl, ?_⟩, fun _ _ _ h => h, ?_⟩
            rotate_left 1
            · intro W hW
              try (subst hW)
              try dsimp only at hW
              go_simp
              try with_reducible rfl
            try simp only [Act.put, List.setIfInBounds_toArray, List.set_cons_zero, List.set_cons_succ]
            refine wpT.one (i := 9) (by kernel_rfl) ?_
            intro oi ho
            simp only [List.getElem?_toArray, List.getElem?_cons_succ, List.getElem?_cons_zero, Option.some.injEq] at ho
            subst ho
            intro K' hK
            have HK := Lib.hid hK
            clear hK
            go_simp
            go_at_call 13
            refine (bits13 k _ hlt).mono ?_
            rintro e w12 ⟨o2, rfl, hown, hb12⟩
            obtain ⟨ao2, sp6, rfl, hrow⟩ := own_bits hown
            have HROW2 := Lib.hid hrow
            have HB12 := Lib.hid (Below.step HB11.out hb12)
            clear hown hrow hb12 HS
            refine HK.out _ _ (fun _ => FC.out _ HB12.out) ?_
            try simp only [Act.put, List.setIfInBounds_toArray, List.set_cons_zero, List.set_cons_succ]
            refine wpT.one (i := 10) (by kernel_rfl) ?_
            intro oi ho
            simp only [List.getElem?_toArray, List.getElem?_cons_succ, List.getElem?_cons_zero, Option.some.injEq] at ho
            subst ho
            intro K' hK
            have HK := Lib.hid hK
            clear hK
            go_simp
            go_at_call 12
            have HC1 := HDE.out w12 _ ao2 (bitsL k 5) (5 + sp6) (Below.step HBR.out HB12.out) (bitsL_length k 5) HROW2.out
            rw [bitsL_length] at HC1
            refine HC1.mono ?_
            clear HC1
            rintro e w13 ⟨rfl, hb13⟩
            have HB13 := Lib.hid (Below.step HB12.out hb13)
            clear hb13
            have hle2 := HLK.out (by first | rfl | trivial)
            obtain ⟨D0, hD0⟩ : ∃ d, d = sumW ls ws (fB (bitsL k 5)) ls.length := ⟨_, rfl⟩
            rw [← hD0] at hle2 ⊢
            clear hD0 HLK
            refine HK.out _ _ (fun _ => FC.out _ HB13.out) ?_
            have HS := FC.out _ HB13.out
            try simp only [Act.put, List.setIfInBounds_toArray, List.set_cons_zero, List.set_cons_succ]
            refine wpT.take (i := 12) (by kernel_rfl) (by kernel_rfl) (by kernel_rfl) (by kernel_rfl) (by kernel_rfl) (fun _ => HS) ?_
            intro oi ho
            simp only [List.getElem?_toArray, List.getElem?_cons_succ, List.getElem?_cons_zero, Option.some.injEq] at ho
            subst ho
            refine ⟨?_, Or.inl ⟨by rfl, ?_⟩, fun _ _ _ h => h, ?_⟩
            rotate_left 1
            · intro W hW
              try (subst hW)
              try dsimp only at hW
              go_simp
              try with_reducible rfl
            try simp only [Act.put, List.setIfInBounds_toArray, List.set_cons_zero, List.set_cons_succ]
            refine wpT.take (i := 13) (by kernel_rfl) (by kernel_rfl) (by kernel_rfl) (by kernel_rfl) (by kernel_rfl) (fun _ => HS) ?_
            intro oi ho
            simp only [List.getElem?_toArray, List.getElem?_cons_succ, List.getElem?_cons_zero, Option.some.injEq] at ho
            subst ho
            refine ⟨?_, Or.inl ⟨by rfl, ?_⟩, fun _ _ _ h => h, ?_⟩
            rotate_left 1
            · intro W hW
              try (subst hW)
              try dsimp only at hW
              go_simp
              try with_reducible rfl
            try simp only [Act.put, List.setIfInBounds_toArray, List.set_cons_zero, List.set_cons_succ]
            refine wpT.done (by kernel_rfl) ?_
            have HZZ := Lib.hid (Below.step HBR.out HB13.out)
            clear HS
            go_wp2_with fail
            go_roundw
            case rel => exact ⟨k + 1, by omega, by go_num, HZZ.out⟩
            case measure => simp [intOf] <;> omega
        · obtain rfl : k = 32 := by omega
          have HBZ := Lib.hid (Below.step HBW.out hbr)
          clear hbr
          go_wp2_with fail
          go_ret
          exact ⟨rfl, HBZ.out⟩
end Go.Proofs.Ytlpoedjipncbhaa
