/-
  Walks: claim.Read.
-/
import Derived.Test.YtidgnbdlfngeaaaGreatDoorRd7
import Derived.Test.YtidgnbdlfngeaaaGreatDoorQ3
import Derived.Test.YtidgnbdlfngeaaaGreatDoorT20
import Derived.Test.YtidgnbdlfngeaaaGreatDoorG7
namespace Go.Proofs.YtidgnbdlfngeaaaGreatDoor
open Go.RowKit Go.Shelf
set_option linter.unusedVariables false
set_option linter.unusedSimpArgs false
set_option maxHeartbeats 400000

theorem split22 (s : Bs) (w : World) (hs : s.length ≤ 4000) (hg : GV w) : Calls Tryz.prog 29 #[sV s, sV [10]] w fun e w' =>
    e = .returned (.slice (some ⟨w.heap.size, 0, none⟩) (lines s).length (lines s).length) ∧ w' = w.alloc (.cells ((lines s).map fun l => Value.string ⟨l.toArray⟩).toArray 9) := by
  obtain ⟨m, hm⟩ := hg.1
  have h1 : 1 ≤ (⟨#[10]⟩ : ByteArray).size := by decide
  have hz : (⟨s.toArray⟩ : ByteArray).size = s.length := by simp [ByteArray.size]
  refine (Tryz.strings_Split ⟨s.toArray⟩ ⟨#[10]⟩ m w (by rw [hz]; omega) hm h1).mono ?_
  rintro e w' ⟨rfl, rfl⟩
  have h2 := splitB_lines s
  have h3 := Lib.splitB_all ⟨#[10]⟩ h1 0 _ ⟨s.toArray⟩ rfl
  have h4 := congrArg List.length h2
  rw [List.length_map, List.length_map, h3] at h4
  rw [h2, h4]
  exact ⟨rfl, rfl⟩

def ReadP (s : Bs) (w : World) (e : Ending) (w' : World) : Prop :=
  ∃ (ao co : Option Addr) (sa sc : Nat), e = .returned (.tuple #[.agg #[.slice ao (readR s).2.1.length ((readR s).2.1.length + sa), .slice co (readR s).2.2.length ((readR s).2.2.length + sc)], FV (readR s).1]) ∧
    intE.Row (fun b => w.heap.size ≤ b) w' ao (readR s).2.1 ∧ claimE.Row (fun b => w.heap.size ≤ b) w' co (readR s).2.2 ∧ Below w.heap.size w w'
theorem ReadP.bad {s : Bs} {w w' : World} {f : Int × Int} (h : readR s = (f, [], [])) (hb : Below w.heap.size w w') : ReadP s w (.returned (.tuple #[.agg #[.slice none 0 0, .slice none 0 0], .agg #[.int .i64 f.1, .int .i64 f.2]])) w' := by
  refine ⟨none, none, 0, 0, ?_, ?_, ?_, hb⟩
  · rw [h]; rfl
  · rw [h]; exact Elt.Row.nil
  · rw [h]; exact Elt.Row.nil
theorem readR_inl {s : Bs} {k : Nat} (h4 : ¬ 4000 < s.length) (h : linesR (lines s) = .inl k) : readR s = ((1, (k : Int)), [], []) := by
  unfold readR; rw [if_neg h4, h]
theorem readR_inr {s : Bs} {a : List Int} {cs : List (List Fc)} (h4 : ¬ 4000 < s.length) (h : linesR (lines s) = .inr (a, cs)) : readR s = if (loreF a cs).1 = 0 then ((0, 0), a, cs) else (loreF a cs, [], []) := by
  unfold readR; rw [if_neg h4, h]
theorem infoC : (Tryz.prog.info? 42).map (fun i => (i.zero, i.size, i.bytes)) = some (some (.agg #[.slice none 0 0]), 1, 24) := by kernel_rfl

set_option maxRecDepth 100000 in
set_option maxHeartbeats 8000000 in
theorem read7 (s : Bs) (w : World) (hg : GV w) (hs : s.length ≤ 9223372036854775807) : Calls Tryz.prog 10 #[sV s] w (ReadP s w) := by
  obtain ⟨i37, gi, gz0, gz1, gz2⟩ := info_parts infoC
  have HG := Lib.hid hg
  have hz : (⟨s.toArray⟩ : ByteArray).size = s.length := by simp [ByteArray.size]
  obtain ⟨bx, hbx⟩ : ∃ b, b = w.heap.size := ⟨_, rfl⟩
  have S1 := ((St.start w).box hbx.symm #[.slice none 0 0, .slice none 0 0] 25).box (b := bx + 1) (by simp [hbx]) #[.int .i64 0, .int .i64 0] 28
  have hz1 : ((w.alloc (.cells #[.slice none 0 0, .slice none 0 0] 25)).alloc (.cells #[.int .i64 0, .int .i64 0] 28)).heap.size = bx + 2 := by simp [hbx]
  have HBX := Lib.hid (show w.heap.size = bx from hbx.symm)
  clear hg
  go_enter Tryz.func10, Tryz.ntmps10
  go_upto_region 1 with fail
  rw [← hbx]
  refine S1.genC (z := bx + 2) (by omega) ?_
  clear S1 hz1 hbx
  intro w1 z1 S
  by_cases h4 : 4000 < s.length
  · have HR := Lib.hid (show readR s = ((2, 0), [], []) by unfold readR; rw [if_pos h4])
    obtain ⟨⟨y0, y1⟩, y2, y3⟩ := S.two 0
    obtain ⟨⟨v0, v1⟩, v2, v3⟩ := S.two 1
    have SF := Lib.hid ((S.set2 0 rfl (.slice none 0 0) (.slice none 0 0) (by have := HBX.out; omega) (by simp only [fsnoc, offs, offAll, Fct.box, and_true]; omega)).set2 1 rfl (.int .i64 2) (.int .i64 0) (by have := HBX.out; omega) (by simp only [fset, fsnoc, offs, offAll, Fct.box, and_true]; omega))
    clear S
    have h4' : (4000 : Int) < (s.length : Int) := by omega
    go_wp2_with fail
    refine ret_box22 (.slice none 0 0) (.slice none 0 0) (.int .i64 2) (.int .i64 0) bx (bx + 1) 25 28 (SF.out.block 0) (SF.out.block 1) (fun w' q0 q1 q2 q3 => by simp [results, Tryz.results10, go_sem, q0, q1, q2, q3]) rfl ?_
    exact ReadP.bad HR.out SF.out.bel
  · have h4' : ¬ (4000 : Int) < (s.length : Int) := by omega
    have H4 := Lib.hid h4
    have hb4 : w1.heap.size = w1.heap.size := rfl
    obtain ⟨b4, hb4⟩ : ∃ b, b = w1.heap.size := ⟨_, rfl⟩
    have S2 := S.box hb4.symm #[.slice none 0 0, .slice none 0 0] 25
    have HB4 := Lib.hid (show bx + 2 ≤ b4 ∧ w1.heap.size = b4 from ⟨by omega, hb4.symm⟩)
    have hz2 : (w1.alloc (.cells #[.slice none 0 0, .slice none 0 0] 25)).heap.size = b4 + 1 := by simp [hb4]
    clear S
    go_upto_region 4 with fail
    rw [← hb4]
    refine S2.genC (z := b4 + 1) (by omega) ?_
    clear S2 hz2 hb4
    intro w2 z2 S
    have HSP := Lib.hid (split22 s w2 (by omega) (HG.out.kept S.bel))
    obtain ⟨L, hL⟩ : ∃ L, L = lines s := ⟨_, rfl⟩
    obtain ⟨n, hn⟩ : ∃ n, n = L.length := ⟨_, rfl⟩
    have hll := lines_len s
    rw [← hL] at hll
    have HLL := Lib.hid hll.2.2
    have hn1 : 1 ≤ n := by rw [hn]; exact hll.1
    have hn2 : n ≤ 4001 := by rw [hn]; omega
    have HL := Lib.hid hL
    have HN := Lib.hid hn
    rw [← hL, ← hn] at HSP
    clear hL hn hll
    obtain ⟨LC, hLC⟩ : ∃ c, c = (L.map fun l => Value.string ⟨l.toArray⟩).toArray := ⟨_, rfl⟩
    rw [← hLC] at HSP
    have HLC := Lib.hid (show ∀ k (hk : k < n), ∃ x, L[k]? = some x ∧ LC[k]? = some (sV x) ∧ x.length ≤ s.length by
      intro k hk
      have hk' : k < L.length := by rw [← HN.out]; exact hk
      refine ⟨L[k], List.getElem?_eq_getElem hk', ?_, HLL.out _ (List.getElem_mem hk')⟩
      rw [hLC]; simp [hk'])
    clear hLC
    obtain ⟨b5, hb5⟩ : ∃ b, b = w2.heap.size := ⟨_, rfl⟩
    have S3 := (S.box hb5.symm LC 9).add (.owns claimE (b5 + 1) (fun b => b5 + 1 ≤ b) (.slice none 0 0) []) (Elt.Own.nil _ _ _ _)
    have HB5 := Lib.hid (show b4 + 1 ≤ b5 ∧ w2.heap.size = b5 from ⟨by omega, hb5.symm⟩)
    have hz3 : (w2.alloc (.cells LC 9)).heap.size = b5 + 1 := by simp [hb5]
    clear S
    go_wp2_with (go_at_call 29; refine (HSP.out).mono ?_; rintro e w3 ⟨rfl, rfl⟩)
    rw [← hb5]
    refine S3.genC (z := b5 + 1) (by omega) ?_
    clear S3 hz3 hb5 hb4
    intro w4 z4 S
    go_loopw [23] (fun i wr => ∃ (k : Nat) (ar : List Int) (cs : List (List Fc)) (aro : Option Addr) (asp : Nat) (clV : Value), k ≤ n ∧ i = .int .i64 k ∧ Hid (readI L k ar cs) ∧ cs.length ≤ k ∧ ar.length ≤ s.length ∧ b5 + 1 ≤ wr.heap.size ∧
      St w wr [.box bx #[.slice none 0 0, .slice none 0 0] 25, .box (bx + 1) #[.int .i64 0, .int .i64 0] 28, .box b4 #[.slice aro ar.length (ar.length + asp), clV] 25, .box b5 LC 9, .rowE intE (fun b => b5 + 1 ≤ b ∧ clV.ownBlock ≠ some b) aro ar, .owns claimE (b5 + 1) (fun b => b5 + 1 ≤ b) clV cs]) (fun i _ => n - (intOf i).toNat)
    case atStart =>
      refine ⟨0, [], [], none, 0, .slice none 0 0, by omega, rfl, Lib.hid (readI.start L), by simp, by simp, z4, ?_⟩
      exact ((S.pick [0, 1, 2, 3]).add (.rowE intE (fun b => b5 + 1 ≤ b ∧ (Value.slice none 0 0).ownBlock ≠ some b) none []) Elt.Row.nil).add (.owns claimE (b5 + 1) (fun b => b5 + 1 ≤ b) (.slice none 0 0) []) (Elt.Own.nil _ _ _ _)
    case round =>
      clear S z4
      obtain ⟨k, ar, cs, aro, asp, clV, hk, rfl, HI, hcs, har, zr, S⟩ := hrel
      by_cases hlt : k < n
      · obtain ⟨x, hx, hxc, hxl⟩ := HLC.out k hlt
        obtain ⟨bR, hbR⟩ : ∃ b, b = wr.heap.size := ⟨_, rfl⟩
        obtain ⟨cl0, cl1⟩ := S.cell 3 k hxc
        have S4 := (((S.pick [0, 1, 2, 3]).add (.rowE intE (fun b => b5 + 1 ≤ b ∧ b ≠ bR ∧ clV.ownBlock ≠ some b) aro ar) ((S.rowE intE 4 rfl).keep (fun b (h : b5 + 1 ≤ b ∧ clV.ownBlock ≠ some b) h2 => ⟨rfl, h.1, by omega, h.2⟩))).add (.owns claimE (b5 + 1) (fun b => b5 + 1 ≤ b ∧ b ≠ bR) clV cs) (own_tight (S.owns claimE 5) (fun b h hl => ⟨h, by omega⟩))).boxH hbR.symm #[sV x, .bool true] 71
        have S5 : St w (wr.alloc (.cells #[sV x, .bool true] 71)) [rdr bR x true, .box bx #[.slice none 0 0, .slice none 0 0] 25, .box (bx + 1) #[.int .i64 0, .int .i64 0] 28, .box b4 #[(.slice aro ar.length (ar.length + asp)), clV] 25, .box b5 LC 9, .rowE intE (fun b => b5 + 1 ≤ b ∧ b ≠ bR ∧ clV.ownBlock ≠ some b) aro ar, .owns claimE (b5 + 1) (fun b => b5 + 1 ≤ b ∧ b ≠ bR) clV cs] := S4
        have HOWN := Lib.hid (fun c (hc : clV.ownBlock = some c) => S.ownlt claimE 5 rfl c hc)
        have HBR := Lib.hid (show b5 + 1 ≤ bR ∧ wr.heap.size = bR ∧ bx + 2 ≤ b4 ∧ b4 + 1 ≤ b5 from ⟨by omega, hbR.symm, HB4.out.1, HB5.out.1⟩)
        have hz5 : (wr.alloc (.cells #[sV x, .bool true] 71)).heap.size = bR + 1 := by simp [hbR]
        have HX := Lib.hid hx
        have hkL : k < L.length := by rw [← HN.out]; exact hlt
        have HXE := Lib.hid (show L[k] = x by rw [List.getElem?_eq_getElem hkL] at hx; exact Option.some.inj hx)
        clear S S4 hx hxc
        go_upto_block 2 with fail
        rw [← hbR]
        refine S5.genC (z := bR + 1) (by omega) ?_
        clear S5 hz5 hbR cl0 cl1
        intro w5 z5 S
        go_cut [] (fun W => ∃ (r : Bs) (ok : Bool) (ar : List Int) (cs : List (List Fc)) (aro : Option Addr) (asp : Nat) (clV : Value), Hid (ok = true → readI L (k + 1) ar cs) ∧ Hid (ok = false → linesR L = .inl k) ∧ cs.length ≤ k + 1 ∧ ar.length ≤ s.length ∧ bR + 1 ≤ W.heap.size ∧
          St w W [rdr bR r ok, .box bx #[.slice none 0 0, .slice none 0 0] 25, .box (bx + 1) #[.int .i64 0, .int .i64 0] 28, .box b4 #[(.slice aro ar.length (ar.length + asp)), clV] 25, .box b5 LC 9, .rowE intE (fun b => b5 + 1 ≤ b ∧ b ≠ bR ∧ clV.ownBlock ≠ some b) aro ar, .owns claimE (b5 + 1) (fun b => b5 + 1 ≤ b ∧ b ≠ bR) clV cs])
        case first =>
          have hw0 : w.heap.size ≤ bR := by have := HBX.out; have := HBR.out; omega
          have HOF := Lib.hid (show offAll bR [.box bx #[.slice none 0 0, .slice none 0 0] 25, .box (bx + 1) #[.int .i64 0, .int .i64 0] 28, .box b4 #[.slice aro ar.length (ar.length + asp), clV] 25, .box b5 LC 9, .rowE intE (fun b => b5 + 1 ≤ b ∧ b ≠ bR ∧ clV.ownBlock ≠ some b) aro ar, .owns claimE (b5 + 1) (fun b => b5 + 1 ≤ b ∧ b ≠ bR) clV cs] by
            have h1 := HBR.out
            simp only [offAll, Fct.box, Fct.rowE, Fct.owns, and_true]
            refine ⟨by omega, by omega, by omega, by omega, by omega, fun e => ?_⟩
            rcases e with e | e
            · have := (HOWN.out _ e).2; omega
            · omega)
          by_cases hl : k + 1 = n
          · have HI2 := Lib.hid (HI.out.last hkL (by rw [← HN.out]; exact hl))
            rw [HXE.out] at HI2
            obtain ⟨⟨y0, y1⟩, y2, y3⟩ := S.two 0
            have FIN := Lib.hid (fun (b : Bool) => S.set21 0 rfl (.bool b) hw0 HOF.out)
            have hql : ((k : Int) == (n : Int) - 1) = true := by rw [beq_iff_eq]; omega
            have HZ5 := Lib.hid z5
            clear S
            cases x with
            | nil =>
              by_cases hk0 : 0 < k
              · have HG2 := Lib.hid (HI2.out.1 ⟨rfl, hk0⟩)
                go_wp2_with fail
                go_meet
                case rel => exact ⟨[], true, ar, cs, aro, asp, clV, Lib.hid (fun _ => HG2.out), Lib.hid (fun h => by cases h), by omega, har, by simp; exact HZ5.out, FIN.out true⟩
              · have HG2 := Lib.hid (HI2.out.2 (fun h => hk0 h.2))
                go_wp2_with fail
                go_meet
                case rel => exact ⟨[], false, ar, cs, aro, asp, clV, Lib.hid (fun h => by cases h), Lib.hid (fun _ => HG2.out), by omega, har, by simp; exact HZ5.out, FIN.out false⟩
            | cons a x =>
              have HG2 := Lib.hid (HI2.out.2 (fun h => by cases h.1))
              go_wp2_with fail
              go_meet
              case rel => exact ⟨a :: x, false, ar, cs, aro, asp, clV, Lib.hid (fun h => by cases h), Lib.hid (fun _ => HG2.out), by omega, har, by simp; exact HZ5.out, FIN.out false⟩
          · have hql : ((k : Int) == (n : Int) - 1) = false := by rw [beq_eq_false_iff_ne]; omega
            by_cases hk0 : k = 0
            · subst hk0
              have HI2 := Lib.hid (HI.out.first (by rw [← HN.out]; omega))
              rw [HXE.out] at HI2
              have HSG := Lib.hid (signs23 x bR w w5 (S.pick [0]) hw0 HG.out (by omega))
              have HS := Lib.hid S
              clear S
              go_wp2_with fail
              refine (HSG.out).mono ?_
              rintro e w6 ⟨ns, ro, sp, r, ok, rfl, hs1, hs2, hns, hz6, SR⟩
              clear HSG
              obtain ⟨_, hcs0⟩ := HI.out.1 rfl
              subst hcs0
              have S6 := ((HS.out.drop.over HOF.out SR.bel (SR.kept 1)).add (.rowE intE (fun b => w5.heap.size ≤ b) ro ns) (SR.rowE intE 2)).cons (rdr bR r ok) (SR.get 0)
              obtain ⟨⟨y0, y1⟩, y2, y3⟩ := S6.two 3
              have h0b : w.heap.size ≤ b4 := by have := HBX.out; have := HBR.out; omega
              have S7 := S6.set20 3 rfl (.slice ro ns.length (ns.length + sp)) h0b (by
                have h1 := HBR.out
                simp only [fsnoc, offs, offAll, rdr, Fct.box, Fct.rowE, Fct.owns, and_true]
                refine ⟨by omega, by omega, by omega, by omega, by omega, fun e => ?_, by omega⟩
                rcases e with e | e
                · have := (HOWN.out _ e).1; omega
                · omega)
              have S8 := Lib.hid (show St w (w6.setCell ⟨b4, 0, none⟩ (.slice ro ns.length (ns.length + sp))) [rdr bR r ok, .box bx #[.slice none 0 0, .slice none 0 0] 25, .box (bx + 1) #[.int .i64 0, .int .i64 0] 28, .box b4 #[.slice ro ns.length (ns.length + sp), clV] 25, .box b5 LC 9, .rowE intE (fun b => b5 + 1 ≤ b ∧ b ≠ bR ∧ clV.ownBlock ≠ some b) ro ns, .owns claimE (b5 + 1) (fun b => b5 + 1 ≤ b ∧ b ≠ bR) clV []] from
                ((S7.pick [0, 1, 2, 3, 4]).add (.rowE intE (fun b => b5 + 1 ≤ b ∧ b ≠ bR ∧ clV.ownBlock ≠ some b) ro ns) ((S7.rowE intE 7 rfl).keep (fun b (h : w5.heap.size ≤ b) _ => ⟨rfl, by have := HBR.out; omega, by have := HBR.out; omega, fun e => by have := (HOWN.out _ e).2; have := HBR.out; omega⟩))).add (.owns claimE (b5 + 1) (fun b => b5 + 1 ≤ b ∧ b ≠ bR) clV []) (S7.owns claimE 6 rfl))
              have HG1 := Lib.hid (fun h => HI2.out.1 ns (hs1 h))
              have HG2 := Lib.hid (fun h => HI2.out.2 (hs2 h))
              clear S6 S7 HS SR hs1 hs2
              go_wp2_with fail
              go_meet
              case rel => exact ⟨r, ok, ns, [], ro, sp, clV, HG1, HG2, by simp, by omega, by simp; omega, S8.out⟩
            · have hkq : ((k : Int) == 0) = false := by rw [beq_eq_false_iff_ne]; omega
              have HI2 := Lib.hid (HI.out.mid (by rw [← HN.out]; omega) (by omega))
              rw [HXE.out] at HI2
              have SD0 := (((S.pick [0, 1, 2, 3, 4]).add (.rowE intE (fun b => b5 + 1 ≤ b ∧ b ≠ bR ∧ clV.ownBlock ≠ some b ∧ b < w5.heap.size) aro ar) ((S.rowE intE 5 rfl).keep (fun b (h : b5 + 1 ≤ b ∧ b ≠ bR ∧ clV.ownBlock ≠ some b) h2 => ⟨rfl, h.1, h.2.1, h.2.2, h2⟩))).add (.owns claimE (b5 + 1) (fun b => b5 + 1 ≤ b ∧ b ≠ bR) clV cs) (S.owns claimE 6 rfl)).drew
              have SD : St w w5.drew [rdr bR x true, .box bx #[.slice none 0 0, .slice none 0 0] 25, .box (bx + 1) #[.int .i64 0, .int .i64 0] 28, .box b4 #[.slice aro ar.length (ar.length + asp), clV] 25, .box b5 LC 9, .rowE intE (fun b => b5 + 1 ≤ b ∧ b ≠ bR ∧ clV.ownBlock ≠ some b ∧ b < w5.heap.size) aro ar, .owns claimE (b5 + 1) (fun b => b5 + 1 ≤ b ∧ b ≠ bR) clV cs] := SD0
              have HOF2 := Lib.hid (show offAll bR [.box bx #[.slice none 0 0, .slice none 0 0] 25, .box (bx + 1) #[.int .i64 0, .int .i64 0] 28, .box b4 #[.slice aro ar.length (ar.length + asp), clV] 25, .box b5 LC 9, .rowE intE (fun b => b5 + 1 ≤ b ∧ b ≠ bR ∧ clV.ownBlock ≠ some b ∧ b < w5.heap.size) aro ar, .owns claimE (b5 + 1) (fun b => b5 + 1 ≤ b ∧ b ≠ bR) clV cs] by
                have h1 := HBR.out
                simp only [offAll, Fct.box, Fct.rowE, Fct.owns, and_true]
                refine ⟨by omega, by omega, by omega, by omega, by omega, fun e => ?_⟩
                rcases e with e | e
                · have := (HOWN.out _ e).2; omega
                · omega)
              have HCL := Lib.hid (claim24 x bR w w5.drew (SD.pick [0]) hw0 HG.out (by omega))
              have HS : w5.drew.cell? ⟨b4, 1, none⟩ = some clV := (SD.two 3).2.1
              have HSD := Lib.hid SD
              have HZ5 := Lib.hid (show bR + 1 ≤ w5.heap.size ∧ w5.drew.heap.size = w5.heap.size from ⟨z5, rfl⟩)
              clear S SD SD0
              go_upto_region 10 with fail
              refine wpT_region [7] (fun W => W.cell? ⟨b4, 1, none⟩ = some clV) (by kernel_rfl) ?_
              try simp only [Act.put, List.setIfInBounds_toArray, List.set_cons_zero, List.set_cons_succ]
              refine wpT.pure (i := 0) (by kernel_rfl) (by kernel_rfl) (by kernel_rfl) (by kernel_rfl) (by kernel_rfl) (fun _ => HS) ?_
              intro oi ho
              simp only [List.getElem?_toArray, List.getElem?_cons_succ, List.getElem?_cons_zero, Option.some.injEq] at ho
              subst ho
              refine ⟨?_, Or.inl ⟨by rfl, ?_⟩, fun _ _ _ h => h, ?_⟩
              rotate_left 1
              · intro W hW
                try (subst hW)
                try dsimp only at hW
                go_simp
                try with_reducible rfl
              try simp only [Act.put, List.setIfInBounds_toArray, List.set_cons_zero, List.set_cons_succ]
              refine wpT.take (i := 1) (by kernel_rfl) (by kernel_rfl) (by kernel_rfl) (by kernel_rfl) (by kernel_rfl) (fun _ => HS) ?_
              intro oi ho
              simp only [List.getElem?_toArray, List.getElem?_cons_succ, List.getElem?_cons_zero, Option.some.injEq] at ho
              subst ho
              refine ⟨?_, Or.inl ⟨by rfl, ?_⟩, fun _ _ _ h => h, ?_⟩
              rotate_left 1
              · intro W hW
                try (subst hW)
                try dsimp only at hW
                go_simp
                try with_reducible rfl
              try simp only [Act.put, List.setIfInBounds_toArray, List.set_cons_zero, List.set_cons_succ]
              refine wpT.pure (i := 2) (by kernel_rfl) (by kernel_rfl) (by kernel_rfl) (by kernel_rfl) (by kernel_rfl) (fun _ => HS) ?_
              intro oi ho
              simp only [List.getElem?_toArray, List.getElem?_cons_succ, List.getElem?_cons_zero, Option.some.injEq] at ho
              subst ho
              refine ⟨?_, Or.inl ⟨by rfl, ?_⟩, fun _ _ _ h => h, ?_⟩
              rotate_left 1
              · intro W hW
                try (subst hW)
                try dsimp only at hW
                go_simp
                try with_reducible rfl
              try simp only [Act.put, List.setIfInBounds_toArray, List.set_cons_zero, List.set_cons_succ]
              refine wpT.one (i := 3) (by kernel_rfl) ?_
              intro oi ho
              simp only [List.getElem?_toArray, List.getElem?_cons_succ, List.getElem?_cons_zero, Option.some.injEq] at ho
              subst ho
              intro K' hK
              have HK := Lib.hid hK
              clear hK
              go_simp
              go_at_call 31
              refine (HCL.out).mono ?_
              rintro e w6 ⟨fs, ro, sp, r, ok, rfl, hs1, hs2, hns, hz6, SR⟩
              have S9 := ((HSD.out.drop.over HOF2.out SR.bel (SR.kept 1)).add (.rowE factE (fun b => w5.drew.heap.size ≤ b) ro fs) (SR.rowE factE 2)).cons (rdr bR r ok) (SR.get 0)
              have HG1 := Lib.hid (fun h => HI2.out.1 fs (hs1 h))
              have HG2 := Lib.hid (fun h => HI2.out.2 (hs2 h))
              have HS8 : w6.cell? ⟨b4, 1, none⟩ = some clV := (S9.two 3).2.1
              have HS9 := Lib.hid S9
              have SZ := Lib.hid (show w5.heap.size ≤ w6.heap.size from hz6)
              have HZ6 := Lib.hid (show bR + 1 ≤ w6.heap.size ∧ fs.length ≤ maxLen from ⟨by have := HZ5.out; omega, by unfold maxLen; omega⟩)
              clear S9 SR hs1 hs2 HS HCL HSD hz6
              refine HK.out _ _ (fun _ => HS8) ?_
              try simp only [Act.put, List.setIfInBounds_toArray, List.set_cons_zero, List.set_cons_succ]
              refine wpT.one (i := 4) (by kernel_rfl) ?_
              intro oi ho
              simp only [List.getElem?_toArray, List.getElem?_cons_succ, List.getElem?_cons_zero, Option.some.injEq] at ho
              subst ho
              intro K' hK
              have HK := Lib.hid hK
              clear hK
              go_simp
              refine HK.out _ _ (fun _ => Below.cellOf ((Below.refl _ w6).alloc (Nat.le_refl _) _) HS8) ?_
              try simp only [Act.put, List.setIfInBounds_toArray, List.set_cons_zero, List.set_cons_succ]
              refine wpT.one (i := 5) (by kernel_rfl) ?_
              intro oi ho
              simp only [List.getElem?_toArray, List.getElem?_cons_succ, List.getElem?_cons_zero, Option.some.injEq] at ho
              subst ho
              intro K' hK
              have HK := Lib.hid hK
              clear hK
              refine step_app (by rfl) (.tmp 32) (.tmp 35) 23 (by rfl) claimE HS9.out 6 rfl (x := fs) (q := fun b => w5.drew.heap.size ≤ b) (p' := fun b => b5 + 1 ≤ b ∧ b ≠ bR) ⟨ro, sp, rfl, HS9.out.rowE factE 7 rfl, HZ6.out.2⟩ Tryz.underlying23 gi gz0 gz1 gz2 (by rfl) (by rfl) (by rfl) (by rfl)
                (by unfold maxLen; omega) (by omega) (by have := HZ6.out; have := HBR.out; omega) (by have := HBX.out; have := HBR.out; omega)
                (fun bb h1 h2 h3 => by
                  have h4 := (HOWN.out bb h1); have h5 := HBR.out; have h7 := HZ5.out; have h8 := HBX.out
                  simp only [fsnoc, offs, offAll, rdr, Fct.box, Fct.rowE, and_true]
                  refine ⟨by omega, by omega, by omega, by omega, by omega, fun e => e.2.2.1 h1, by omega⟩)
                (fun bb h1 h2 => by have h4 := (HOWN.out bb h2).2; have h7 := HZ5.out; have h5 := HBR.out; omega)
                (fun bb h1 => by have h7 := HZ5.out; have h5 := HBR.out; rcases h1 with h1 | h1; exact h1; omega) ?_
              intro gg cap w9 S10 hz9 hgl hgg
              have HS10 : w9.cell? ⟨b4, 1, none⟩ = some clV := (S10.two 3).2.1
              refine HK.out _ _ (fun _ => HS10) ?_
              clear HS8 HS9
              try simp only [Act.put, List.setIfInBounds_toArray, List.set_cons_zero, List.set_cons_succ]
              refine wpT.pure (i := 6) (by kernel_rfl) (by kernel_rfl) (by kernel_rfl) (by kernel_rfl) (by kernel_rfl) (fun _ => HS10) ?_
              intro oi ho
              simp only [List.getElem?_toArray, List.getElem?_cons_succ, List.getElem?_cons_zero, Option.some.injEq] at ho
              subst ho
              refine ⟨?_, Or.inl ⟨by rfl, ?_⟩, fun _ _ _ h => h, ?_⟩
              rotate_left 1
              · intro W hW
                try (subst hW)
                try dsimp only at hW
                go_simp
                try with_reducible rfl
              obtain ⟨⟨u0, u1⟩, u2, u3⟩ := S10.two 3
              try simp only [Act.put, List.setIfInBounds_toArray, List.set_cons_zero, List.set_cons_succ]
              refine wpT.one (i := 7) (by kernel_rfl) ?_
              intro oi ho
              simp only [List.getElem?_toArray, List.getElem?_cons_succ, List.getElem?_cons_zero, Option.some.injEq] at ho
              subst ho
              intro K' hK
              have HK := Lib.hid hK
              clear hK
              go_simp
              refine HK.out _ _ (fun h => absurd h (by decide)) ?_
              have hgb : b5 + 1 ≤ gg := (S10.ownlt claimE 6 rfl gg rfl).1
              have S11 := S10.set21 3 rfl (.slice (some ⟨gg, 0, none⟩) (cs.length + 1) cap) (by have := HBX.out; have := HBR.out; omega) (by
                have h1 := HBR.out; have h7 := HZ5.out
                simp only [fset, fsnoc, offs, offAll, rdr, Fct.box, Fct.rowE, Fct.owns, and_true]
                refine ⟨by omega, by omega, by omega, by omega, by omega, fun e => ?_, by omega⟩
                rcases e with e | e
                · have e' : gg = b4 := by simpa [Value.ownBlock] using e
                  omega
                · omega)
              have hz6 := HZ6.out.1
              have S12 := Lib.hid (show St w (w9.setCell ⟨b4, 1, none⟩ (.slice (some ⟨gg, 0, none⟩) (cs.length + 1) cap)) [rdr bR r ok, .box bx #[.slice none 0 0, .slice none 0 0] 25, .box (bx + 1) #[.int .i64 0, .int .i64 0] 28, .box b4 #[.slice aro ar.length (ar.length + asp), .slice (some ⟨gg, 0, none⟩) (cs.length + 1) cap] 25, .box b5 LC 9, .rowE intE (fun b => b5 + 1 ≤ b ∧ b ≠ bR ∧ (Value.slice (some ⟨gg, 0, none⟩) (cs.length + 1) cap).ownBlock ≠ some b) aro ar, .owns claimE (b5 + 1) (fun b => b5 + 1 ≤ b ∧ b ≠ bR) (.slice (some ⟨gg, 0, none⟩) (cs.length + 1) cap) (cs ++ [fs])] from
                ((S11.pick [0, 1, 2, 3, 4]).add (.rowE intE (fun b => b5 + 1 ≤ b ∧ b ≠ bR ∧ (Value.slice (some ⟨gg, 0, none⟩) (cs.length + 1) cap).ownBlock ≠ some b) aro ar) ((S11.rowE intE 5 rfl).keep (fun b (h : b5 + 1 ≤ b ∧ b ≠ bR ∧ clV.ownBlock ≠ some b ∧ b < w5.heap.size) _ => ⟨rfl, h.1, h.2.1, fun e => by
                  have e' : gg = b := by simpa [Value.ownBlock] using e
                  rcases hgg with hgg | hgg
                  · exact h.2.2.1 (by rw [hgg, e'])
                  · have := HZ5.out; have := SZ.out; have h9 := h.2.2.2; omega⟩))).add (.owns claimE (b5 + 1) (fun b => b5 + 1 ≤ b ∧ b ≠ bR) (.slice (some ⟨gg, 0, none⟩) (cs.length + 1) cap) (cs ++ [fs])) (S11.owns claimE 6 rfl))
              try simp only [Act.put, List.setIfInBounds_toArray, List.set_cons_zero, List.set_cons_succ]
              refine wpT.done (by kernel_rfl) ?_
              clear S10 S11 HS10 u0 u1 u2 u3
              go_wp2_with fail
              go_meet
              case rel => exact ⟨r, ok, ar, cs ++ [fs], aro, asp, _, HG1, HG2, by rw [List.length_append]; simp; omega, har, by simp; omega, S12.out⟩
        case rest =>
          clear S
          obtain ⟨r, ok, ar2, cs2, aro2, asp2, clV2, HI2, HE2, hcs2, har2, zz, S⟩ := hcut
          obtain ⟨⟨y0, y1⟩, y2, y3⟩ := S.two 0
          cases ok with
          | true =>
            have S9 := Lib.hid (show St w wc [.box bx #[.slice none 0 0, .slice none 0 0] 25, .box (bx + 1) #[.int .i64 0, .int .i64 0] 28, .box b4 #[.slice aro2 ar2.length (ar2.length + asp2), clV2] 25, .box b5 LC 9, .rowE intE (fun b => b5 + 1 ≤ b ∧ clV2.ownBlock ≠ some b) aro2 ar2, .owns claimE (b5 + 1) (fun b => b5 + 1 ≤ b) clV2 cs2] from
              ((S.pick [1, 2, 3, 4]).add (.rowE intE (fun b => b5 + 1 ≤ b ∧ clV2.ownBlock ≠ some b) aro2 ar2) ((S.rowE intE 5 rfl).keep (fun b (h : b5 + 1 ≤ b ∧ b ≠ bR ∧ clV2.ownBlock ≠ some b) _ => ⟨rfl, h.1, h.2.2⟩))).add (.owns claimE (b5 + 1) (fun b => b5 + 1 ≤ b) clV2 cs2) (own_tight (S.owns claimE 6 rfl) (fun b (h : b5 + 1 ≤ b ∧ b ≠ bR) _ => h.1)))
            have hI2 := HI2.out rfl
            clear S
            go_wp2_with fail
            go_roundw
            case rel => exact ⟨k + 1, ar2, cs2, aro2, asp2, clV2, by omega, by go_num, Lib.hid hI2, hcs2, har2, by have := HBR.out; omega, S9.out⟩
            case measure => simp [intOf]; omega
          | false =>
            have HRD := Lib.hid (readR_inl H4.out (show linesR (lines s) = .inl k by rw [← HL.out]; exact HE2.out rfl))
            obtain ⟨⟨v0, v1⟩, v2, v3⟩ := S.two 1
            obtain ⟨⟨u0, u1⟩, u2, u3⟩ := S.two 2
            have S3 := (S.pick [1, 2]).set2 0 rfl (.slice none 0 0) (.slice none 0 0) (by have := HBX.out; omega) (by simp only [List.map, Fct.at, offs, offAll, Fct.box, and_true]; omega)
            have SF := Lib.hid (S3.set2 1 rfl (.int .i64 1) (.int .i64 k) (by have := HBX.out; omega) (by simp only [List.map, Fct.at, fset, offs, offAll, Fct.box, and_true]; omega))
            clear S S3
            go_wp2_with fail
            refine ret_box22 (.slice none 0 0) (.slice none 0 0) (.int .i64 1) (.int .i64 k) bx (bx + 1) 25 28 (SF.out.block 0) (SF.out.block 1) (fun w' q0 q1 q2 q3 => by simp [results, Tryz.results10, go_sem, q0, q1, q2, q3]) rfl ?_
            exact ReadP.bad HRD.out SF.out.bel
      · obtain rfl : k = n := by omega
        have HRD := Lib.hid (readR_inr H4.out (show linesR (lines s) = .inr (ar, cs) by rw [← HL.out]; exact HI.out.2.2 (by omega) HN.out))
        obtain ⟨co, csp, rfl, hrow, hml⟩ := (S.owns claimE 5 rfl).row (fun b h => h)
        have har2 := S.rowE intE 4 rfl
        obtain ⟨⟨v0, v1⟩, v2, v3⟩ := S.two 2
        obtain ⟨f, hf⟩ : ∃ f, f = loreF ar cs := ⟨_, rfl⟩
        have HCK := Lib.hid (lore79 ar cs _ _ aro co (ar.length + asp) (cs.length + csp) wr har2 hrow (by unfold maxLen; omega) hml)
        rw [← hf] at HCK HRD
        unfold FV at HCK
        clear hf
        have HS := Lib.hid S
        clear S hrow har2
        go_wp2_with fail
        refine (HCK.out).mono ?_
        rintro e wz ⟨rfl, hbz⟩
        have SZ := HS.out.step hbz
        obtain ⟨b6, hb6⟩ : ∃ b, b = wz.heap.size := ⟨_, rfl⟩
        have S6 := SZ.box hb6.symm #[.int .i64 f.1, .int .i64 f.2] 28
        have hz6 : (wz.alloc (.cells #[.int .i64 f.1, .int .i64 f.2] 28)).heap.size = b6 + 1 := by simp [hb6]
        have HB6 := Lib.hid (show b5 + 1 ≤ b6 from by have := hbz.size; omega)
        clear SZ
        go_upto_region 19 with fail
        rw [← hb6]
        refine S6.genC (z := b6 + 1) (by omega) ?_
        clear S6 hz6 hb6 hbz HS HCK v0 v1 v2 v3
        intro w7 z7 S
        obtain ⟨⟨t0, t1⟩, t2, t3⟩ := S.two 6
        have hb0 : w.heap.size ≤ bx := by have := HBX.out; omega
        by_cases h0 : f.1 = 0
        · have HR2 := Lib.hid (show readR s = ((0, 0), ar, cs) by rw [HRD.out, if_pos h0])
          obtain ⟨⟨v0, v1⟩, v2, v3⟩ := S.two 2
          obtain ⟨⟨p0, p1⟩, p2, p3⟩ := S.two 0
          obtain ⟨⟨u0, u1⟩, u2, u3⟩ := S.two 1
          have SF := (S.set2 0 rfl (.slice aro ar.length (ar.length + asp)) (.slice co cs.length (cs.length + csp)) hb0 (by
            have h1 := HB4.out; have h2 := HB5.out; have h3 := HB6.out
            simp only [fsnoc, offs, offAll, Fct.box, Fct.rowE, Fct.owns, and_true]
            refine ⟨by omega, by omega, by omega, by omega, fun e => ?_, by omega⟩
            rcases e with e | e
            · have := (S.ownlt claimE 5 rfl _ e).1; omega
            · omega)).set2 1 rfl (.int .i64 0) (.int .i64 0) (by omega) (by
            have h1 := HB4.out; have h2 := HB5.out; have h3 := HB6.out
            simp only [fset, fsnoc, offs, offAll, Fct.box, Fct.rowE, Fct.owns, and_true]
            refine ⟨by omega, by omega, by omega, by omega, fun e => ?_, by omega⟩
            rcases e with e | e
            · have := (S.ownlt claimE 5 rfl _ e).1; omega
            · omega)
          obtain ⟨co', csp', e, hrow', _⟩ := (SF.owns claimE 5 rfl).row (fun b h => h)
          simp only [Value.slice.injEq, true_and] at e
          obtain ⟨e1, e2⟩ := e
          subst e1
          have HC2 := Lib.hid (show claimE.Row (fun b => w.heap.size ≤ b) _ co cs from hrow'.keep (fun b (h : b5 + 1 ≤ b) _ => ⟨rfl, by have := HBX.out; have := HB4.out; have := HB5.out; omega⟩))
          have HA2 := Lib.hid (show intE.Row (fun b => w.heap.size ≤ b) _ aro ar from (SF.rowE intE 4 rfl).keep (fun b h _ => ⟨rfl, by have := HBX.out; have := HB4.out; have := HB5.out; have := h.1; omega⟩))
          have HSF := Lib.hid SF
          clear S SF hrow' e2
          go_wp2_with fail
          refine ret_box22 (.slice aro ar.length (ar.length + asp)) (.slice co cs.length (cs.length + csp)) (.int .i64 0) (.int .i64 0) bx (bx + 1) 25 28 (HSF.out.block 0) (HSF.out.block 1) (fun w' q0 q1 q2 q3 => by simp [results, Tryz.results10, go_sem, q0, q1, q2, q3]) rfl ?_
          refine ⟨aro, co, asp, csp, by rw [HR2.out]; rfl, by rw [HR2.out]; exact HA2.out, by rw [HR2.out]; exact HC2.out, HSF.out.bel⟩
        · have HR2 := Lib.hid (show readR s = (f, [], []) by rw [HRD.out, if_neg h0])
          have h0b : (f.1 == 0) = false := by rw [beq_eq_false_iff_ne]; exact h0
          go_upto_region 20 with fail
          have S7 := S.pick [0, 1, 6]
          obtain ⟨⟨v0, v1⟩, v2, v3⟩ := S.two 0
          obtain ⟨⟨u0, u1⟩, u2, u3⟩ := S.two 1
          clear S
          have hb6x : b6 ≠ bx := by have := HB6.out; have := HB4.out; have := HB5.out; omega
          have hb6y : b6 ≠ bx + 1 := by have := HB6.out; have := HB4.out; have := HB5.out; omega
          have SF := Lib.hid (((S7.set2 0 rfl (.slice none 0 0) (.slice none 0 0) hb0 (by simp only [List.map, Fct.at, fsnoc, offs, offAll, Fct.box, and_true]; omega)).set2 1 rfl (.int .i64 f.1) (.int .i64 f.2) (by omega) (by simp only [List.map, Fct.at, fset, fsnoc, offs, offAll, Fct.box, and_true]; omega)).drew)
          clear S7
          go_region
          all_goals go_wp2_with fail
          all_goals
            refine ret_box22 (.slice none 0 0) (.slice none 0 0) (.int .i64 f.1) (.int .i64 f.2) bx (bx + 1) 25 28 (SF.out.block 0) (SF.out.block 1) (fun w' q0 q1 q2 q3 => by simp [results, Tryz.results10, go_sem, q0, q1, q2, q3]) rfl ?_
            exact ReadP.bad HR2.out SF.out.bel
end Go.Proofs.YtidgnbdlfngeaaaGreatDoor
