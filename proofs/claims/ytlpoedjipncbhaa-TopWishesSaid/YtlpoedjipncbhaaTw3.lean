/-
  Walks: soft.check of good wishes; soft.Do.
-/
import Derived.Test.YtlpoedjipncbhaaProg
import Derived.Test.YtlpoedjipncbhaaTw2
import Derived.Test.YtlpoedjipncbhaaTd6
import Derived.Deep.CutBlock
import Derived.Test.YtlpoedjipncbhaaG7
import Derived.RegionTactic
import Derived.BigQuiet
import Derived.Deep.DeepCutAuto
namespace Go.Proofs.Ytlpoedjipncbhaa
open Go.RowKit Go.Shelf
set_option linter.unusedVariables false
set_option linter.unusedSimpArgs false
set_option maxHeartbeats 400000

set_option maxRecDepth 100000 in
set_option maxHeartbeats 4000000 in
theorem check15 (cs ls : List (List Int)) (ws : List Int) (p q r : Nat → Prop) (ko lo wo : Option Addr) (kc ln lc wc_ : Nat) (w : World)
    (hG : ∀ c ∈ cs, GoodC 5 c) (hcl : cs.length ≤ 16) (hL : ∀ c ∈ ls, GoodC 5 c) (hln : ln = ls.length) (hll : ls.length ≤ 10) (hws : okWs ws) (hwl : ws.length = ls.length)
    (hc : intsE.Row q w ko cs) (hl : intsE.Row p w lo ls) (hw : intE.Row r w wo ws) :
    Calls Try.prog 15 #[.agg #[.int .i64 5, .slice ko cs.length kc], .slice lo ln lc, .slice wo ln wc_, .int .i64 2000] w fun e w' => e = .returned (.agg #[.int .i64 0, .int .i64 0]) ∧ Below w.heap.size w w' := by
  have HLL := Lib.hid hL; have HWS := Lib.hid hws; have HC := Lib.hid hc; have HL := Lib.hid hl; have HW := Lib.hid hw
  have HCK := Lib.hid (fun (w1 : World) (hb : Below w.heap.size w w1) => check21 q ko cs kc w1 hG (hc.kept hb) hcl)
  obtain ⟨n, hn⟩ : ∃ n, n = cs.length := ⟨_, rfl⟩
  rw [← hn] at HCK hcl ⊢
  have hm2 : ln ≤ ls.length ∧ ls.length ≤ ln ∧ ln ≤ ws.length ∧ ln ≤ 10 := by omega
  obtain ⟨bx, hbx⟩ : ∃ b, b = w.heap.size := ⟨_, rfl⟩
  have S1 := ((St.start w).box hbx.symm #[.int .i64 5, .slice ko n kc] 25).box (b := bx + 1) (by simp [hbx]) #[.int .i64 0, .int .i64 0] 32
  have HBX := Lib.hid hbx
  clear hc hG hn hL hws hl hw hln hll hwl
  go_enter Try.func15, Try.ntmps15
  go_wp2_with fail
  rw [← hbx]
  refine S1.gen (z := bx + 2) (by simp [hbx]) ?_
  intro w1 z1 S
  clear S1 hbx
  refine (S.quiet (HCK.out w1 S.bel)).mono ?_
  rintro e w2 ⟨rfl, z2, S2⟩
  obtain ⟨b2, hb2⟩ : ∃ b, b = w2.heap.size := ⟨_, rfl⟩
  have S3 := S2.box hb2.symm #[.int .i64 0, .int .i64 0] 32
  have HB2 := Lib.hid (show bx + 2 ≤ b2 by omega)
  clear S S2 HCK
  go_upto_region 2 with fail
  rw [← hb2]
  refine S3.genC (z := b2 + 1) (by simp [hb2]) ?_
  intro w3 z3 S
  obtain ⟨⟨y0, y1⟩, y2, y3⟩ := S.two 2
  obtain ⟨⟨u0, u1⟩, u2, u3⟩ := S.two 0
  clear S3 hb2
  have hni : (n : Int) + (ln : Int) ≤ 400 := by omega
  go_wp2_with fail
  go_loopw [51] (fun i wr => ∃ k : Nat, k ≤ ln ∧ i = .int .i64 k ∧ St w wr [.box bx #[.int .i64 5, .slice ko n kc] 25, .box (bx + 1) #[.int .i64 0, .int .i64 0] 32]) (fun i _ => ln - (intOf i).toNat)
  case atStart => exact ⟨0, Nat.zero_le _, rfl, S.pick [0, 1]⟩
  case round =>
    clear S y0 y1 y2 y3 u0 u1 u2 u3 z3 z2 z1
    obtain ⟨k, hk, rfl, S⟩ := hrel
    by_cases hlt : k < ln
    · have hltc : k < ls.length := by omega
      have hltw : k < ws.length := by omega
      obtain ⟨⟨y0, y1⟩, y2, y3⟩ := S.two 0
      obtain ⟨b, off, ko', sp, rfl, hpb, c1, h1, h2⟩ := (HL.out.kept S.bel).ints hltc
      obtain ⟨wb, woff, rfl, hrb, d1⟩ := (HW.out.kept S.bel).int hltw
      have HGc := Lib.hid (HLL.out ls[k] (List.getElem_mem hltc))
      have hwb := HWS.out ws[k] (List.getElem_mem hltw)
      obtain ⟨x, hx⟩ : ∃ x, x = ls[k] := ⟨_, rfl⟩
      obtain ⟨wj, hwj⟩ : ∃ x, x = ws[k] := ⟨_, rfl⟩
      rw [← hx] at c1 h1 HGc
      rw [← hwj] at d1 hwb
      have HWJ := Lib.hid hwj
      have hl3 := HGc.out.len
      have H1 := Lib.hid h1
      obtain ⟨xl, hxl⟩ : ∃ n, n = x.length := ⟨_, rfl⟩
      have HXL := Lib.hid hxl
      rw [← hxl] at c1 hl3
      clear hx h1 h2 hxl hltc hwj
      go_wp2_with fail
      have HB := bad34 5 p ko' x sp wr HGc.out H1.out (by omega)
      rw [← HXL.out] at HB
      refine (S.quiet HB).mono ?_
      clear HB
      rintro e w2 ⟨rfl, z2, S2⟩
      have HD := (HW.out.kept S2.bel).int (i := k) (by omega)
      have d2 : w2.cell? ⟨wb, woff + k, none⟩ = some (.int .i64 wj) := by
        obtain ⟨b', o', e1, _, d2⟩ := HD
        simp only [Option.some.injEq, Addr.mk.injEq, and_true] at e1
        rw [e1.1, e1.2, d2, HWJ.out]
      clear HD d1
      have SB := Lib.hid S2
      clear S S2
      go_wp2_with fail
      go_roundw
      case rel => exact ⟨k + 1, by omega, by go_num, SB.out⟩
      case measure => simp [intOf] <;> omega
    · obtain rfl : k = ln := by omega
      have S3 := Lib.hid (S.set2 1 rfl (.int .i64 0) (.int .i64 0) (by have := HBX.out; omega) (by simp only [offs, offAll, Fct.box, and_true]; omega))
      have SB := Lib.hid S
      obtain ⟨⟨y0, y1⟩, y2, y3⟩ := S.two 1
      have hly := S.lt 1
      clear S
      go_wp2_with fail
      refine ret_box2 (.int .i64 0) (.int .i64 0) (bx + 1) 32 (box2_set (SB.out.block 1) _ _) (fun w' q0 q1 => by simp [results, Try.results15, go_sem, q0, q1]) rfl ?_
      exact ⟨rfl, S3.out.bel⟩

/-- what soft.Do answers -/
def DoP (cs ls : List (List Int)) (ws : List Int) (w : World) (e : Ending) (w' : World) : Prop :=
  ∃ xs : List AX, xs.map (·.k) = satsN cs 32 ∧ e = .returned (.tuple #[.int .i64 (stOf (bestX (soF ls ws) xs)), .int .i64 (bsOf (bestX (soF ls ws) xs)), atOf (bestX (soF ls ws) xs), .agg #[.int .i64 0, .int .i64 0]]) ∧ (atF (bestX (soF ls ws) xs)).holds w' ∧ (∀ b y, bestX (soF ls ws) xs = some (b, y) → w.heap.size ≤ y.g) ∧ Below w.heap.size w w'
set_option maxRecDepth 100000 in
set_option maxHeartbeats 4000000 in
theorem do8 (cs ls : List (List Int)) (ws : List Int) (p q r : Nat → Prop) (ko lo wo : Option Addr) (kc ln lc wc_ : Nat) (w : World)
    (hG : ∀ c ∈ cs, GoodC 5 c) (hcl : cs.length ≤ 16) (hL : ∀ c ∈ ls, GoodC 5 c) (hln : ln = ls.length) (hll : ls.length ≤ 10) (hws : okWs ws) (hwl : ws.length = ls.length)
    (hc : intsE.Row q w ko cs) (hl : intsE.Row p w lo ls) (hw : intE.Row r w wo ws) (hq : ∀ b, q b → b < w.heap.size) (hp : ∀ b, p b → b < w.heap.size) (hr : ∀ b, r b → b < w.heap.size) :
    Calls Try.prog 8 #[.agg #[.int .i64 5, .slice ko cs.length kc], .slice lo ln lc, .slice wo ln wc_, .int .i64 2000] w (DoP cs ls ws w) := by
  have HCK := Lib.hid (fun (w1 : World) (hb : Below w.heap.size w w1) => check15 cs ls ws p q r ko lo wo kc ln lc wc_ w1 hG hcl hL hln hll hws hwl (hc.kept hb) (hl.kept hb) (hw.kept hb))
  have HTR := Lib.hid (fun (w1 : World) (hb : Below w.heap.size w w1) => tried16 cs ls ws p q r ko lo wo kc lc wc_ w1 hG hcl hL hll hws hwl (hc.kept hb) (hl.kept hb) (hw.kept hb) (fun b h => Nat.lt_of_lt_of_le (hq b h) hb.size) (fun b h => Nat.lt_of_lt_of_le (hp b h) hb.size) (fun b h => Nat.lt_of_lt_of_le (hr b h) hb.size))
  rw [hwl, ← hln] at HTR
  obtain ⟨n, hn⟩ : ∃ n, n = cs.length := ⟨_, rfl⟩
  rw [← hn] at HCK HTR ⊢
  obtain ⟨bx, hbx⟩ : ∃ b, b = w.heap.size := ⟨_, rfl⟩
  have S1 := ((St.start w).box hbx.symm #[.int .i64 5, .slice ko n kc] 25).box (b := bx + 1) (by simp [hbx]) #[.int .i64 0, .int .i64 0] 32
  have HBX := Lib.hid hbx
  clear hc hG hn hL hws hl hw hln hll hwl hq hp hr hcl
  go_enter Try.func8, Try.ntmps8
  obtain ⟨⟨u0, u1⟩, u2, u3⟩ := S1.two 0
  go_wp2_with fail
  rw [← hbx]
  refine S1.gen (z := bx + 2) (by simp [hbx]) ?_
  intro w1 z1 S
  clear S1 hbx u0 u1 u2 u3
  refine (S.quiet (HCK.out w1 S.bel)).mono ?_
  rintro e w2 ⟨rfl, z2, S2⟩
  obtain ⟨b2, hb2⟩ : ∃ b, b = w2.heap.size := ⟨_, rfl⟩
  have S3 := S2.box hb2.symm #[.int .i64 0, .int .i64 0] 32
  have HB2 := Lib.hid (show bx + 2 ≤ b2 by omega)
  clear S S2 HCK
  go_upto_region 2 with fail
  rw [← hb2]
  refine S3.genC (z := b2 + 1) (by simp [hb2]) ?_
  intro w3 z3 S
  obtain ⟨⟨y0, y1⟩, y2, y3⟩ := S.two 2
  obtain ⟨⟨u0, u1⟩, u2, u3⟩ := S.two 0
  clear S3 hb2
  go_wp2_with fail
  refine (HTR.out w3 S.bel).mono ?_
  rintro e w4 ⟨xs, hxs, rfl, hat, hge, hb4⟩
  clear HTR y0 y1 y2 y3 u0 u1 u2 u3
  have S4 := S.step hb4
  obtain ⟨s, hs⟩ : ∃ s, s = bestX (soF ls ws) xs := ⟨_, rfl⟩
  rw [← hs] at hat hge ⊢
  have HGE := Lib.hid (show ∀ b y, s = some (b, y) → w3.heap.size ≤ y.g from hge)
  have HXS := Lib.hid (show ∃ xs : List AX, xs.map (·.k) = satsN cs 32 ∧ bestX (soF ls ws) xs = s from ⟨xs, hxs, hs.symm⟩)
  have hne : ¬ (atF s).foot (bx + 1) := by
    cases s with
    | none => exact fun h => h
    | some pq =>
      obtain ⟨b0, y0⟩ := pq
      intro h
      have h1 := HGE.out b0 y0 rfl
      have h2 : bx + 1 = y0.g := h
      have := HB2.out
      omega
  have S5 := (S4.add (atF s) hat)
  have HAT := Lib.hid hat
  clear hxs hs hat hge S S4 hb4
  obtain ⟨⟨y0, y1⟩, y2, y3⟩ := S5.two 1
  have hly := S5.lt 1
  have S6 := Lib.hid (S5.set2 1 rfl (.int .i64 0) (.int .i64 0) (by have := HBX.out; omega) (by simp only [fsnoc, offs, offAll, Fct.box, and_true]; exact ⟨by omega, by have := HB2.out; omega, hne⟩))
  have hbs : Hid (w.heap.size ≤ w3.heap.size) := Lib.hid (by have := HBX.out; have := HB2.out; omega)
  clear S5
  go_wp2_with fail
  have hbx2 := box2 (S6.out.block 1)
  refine bodyPost_ret (v := .tuple #[.int .i64 (stOf s), .int .i64 (bsOf s), atOf s, .agg #[.int .i64 0, .int .i64 0]]) (by simp [results, Try.results8, go_sem, hbx2.1.1, hbx2.2.1]) rfl ?_
  obtain ⟨xs, h1, h2⟩ := HXS.out
  exact ⟨xs, h1, by rw [h2], by rw [h2]; exact S6.out.2 3, by rw [h2]; intro b y e; have := HGE.out b y e; have := hbs.out; omega, S6.out.bel⟩
end Go.Proofs.Ytlpoedjipncbhaa
