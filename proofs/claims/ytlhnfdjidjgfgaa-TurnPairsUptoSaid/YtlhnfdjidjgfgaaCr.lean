/-
  Walk: the document's Critical.
-/
import Derived.Test.YtlhnfdjidjgfgaaProg
import Derived.Test.YtlhnfdjidjgfgaaCp3
import Derived.Test.YtlhnfdjidjgfgaaC26
import Derived.Test.YtlhnfdjidjgfgaaIs1
import Derived.Test.YtlhnfdjidjgfgaaCq
import Derived.Test.YtlhnfdjidjgfgaaCa2
import Derived.Test.YtlhnfdjidjgfgaaSh
import Derived.Test.YtlhnfdjidjgfgaaDv2
import Derived.Test.YtlhnfdjidjgfgaaT35
import Derived.Test.YtlhnfdjidjgfgaaE8
import Derived.Test.YtlhnfdjidjgfgaaG4
import Derived.Deep.CutBlock
import Derived.Deep.DeepCutAuto
import Derived.RegionTactic
namespace Go.Proofs.Ytlhnfdjidjgfgaa
open Go.RowKit Go.Shelf
set_option linter.unusedVariables false
set_option maxHeartbeats 400000

theorem infoC100 : (Try.prog.info? 100).map (fun i => (i.zero, i.size, i.bytes)) = some (some (.agg #[.int .i64 0, .slice none 0 0, .int .i64 0, .slice none 0 0]), 4, 64) := by kernel_rfl
theorem most_preC (t x : T) (hx : x ∈ t.pre) : x.most ≤ t.most := most_le_of t.most_nonneg fun z hz => head_le_most t z (pre_trans hx hz)
theorem mostL_leC {n : Int} (h0 : 0 ≤ n) {a b : T} (ha : a.most ≤ n) (hb : b.most ≤ n) : mostL [a, b] ≤ n := by
  simp only [mostL]; omega
theorem pair_small {X Y : T × T} {A : T} (h : PairOk X Y A) (at_ : List Int) : (T.withAt at_ X.1 Y.2).low ∧ (T.withAt at_ X.1 Y.2).size ≤ 100000000 ∧ X.2.low ∧ X.2.size ≤ 100000000 := by
  obtain ⟨m, B, C, hm, hB, hC, e⟩ := h.y
  have eY : Y.2 = shT m C := by rw [e]
  have gX := ok_okg h.x1; have gR := ok_okg h.x2; have gC := sh_okg hC m hm
  rw [← eY] at gC
  refine ⟨low_of_heads _ fun z hz => ?_, by have := withAt_sizeC Y.2 at_ X.1; have := gX.2; have := gC.2; omega, low_of_heads _ fun z hz => by have := (gR.1 z hz).1; omega, by have := gR.2; omega⟩
  rcases withAt_node Y.2 at_ X.1 z hz with ⟨q, hq, e1, e2⟩ | hz
  · have := gX.1 q hq; rw [e1]; omega
  · have := gC.1 z hz; omega
/-- what Critical answers -/
def CritAns (rs : List Ru) (L : List Ru) (how : Int) : Prop :=
  (how = 3 ∧ L = []) ∨ (how = 1 ∧ L = [] ∧ outerK rs rs.length = none) ∨ (how = 0 ∧ outerK rs rs.length = some L)
def CritP (rs : List Ru) (w : World) (e : Ending) (w' : World) : Prop :=
  ∃ L how lo lsp, e = .returned (.tuple #[.slice lo L.length (L.length + lsp), .int .i64 how]) ∧ CritAns rs L how ∧ (pairE 100).Row (fun b => w.heap.size ≤ b) w' lo L ∧ Below w.heap.size w w'
theorem rowInt_cells {p : Nat → Prop} {w : World} {ao : Option Addr} {l : List Int} (h : intE.Row p w ao l) : CellsAt w ao l.length (fun j => .int .i64 (gI l j)) := fun j hj => by
  obtain ⟨b, off, e, _, c⟩ := h.int hj
  exact ⟨b, off, e, by rw [c]; simp [gI, hj]⟩

set_option maxRecDepth 100000 in
set_option maxHeartbeats 8000000 in
theorem critical54 (rs : List Ru) (p : Nat → Prop) (ro : Option Addr) (rc : Nat) (w : World) (hp : ∀ b, p b → b < w.heap.size) (h : ruleE.Row p w ro rs) (hn : rs.length ≤ 30) (hz : ∀ f ∈ rs, (treeF f.1).1 = 0 ∧ (treeF f.2).1 = 0) :
    Calls Try.prog 54 #[.slice ro rs.length rc] w (CritP rs w) := by
  have HP := Lib.hid hp; have HR := Lib.hid h; have HZ := Lib.hid hz
  obtain ⟨i100, gi, gz0, gz1, gz2⟩ := info_parts infoC100
  have S := (St.start w).add (.owns (pairE 100) w.heap.size (fun b => w.heap.size ≤ b) (.slice none 0 0) []) (Elt.Own.nil _ _ _ _)
  have HNL30 := Lib.hid hn
  clear h hp hz
  go_enter Try.func54, Try.ntmps54
  go_wp2_with fail
  go_loopw [4, 5] (fun u i wr => ∃ (k : Nat) (K : List Ru), k ≤ rs.length ∧ i = .int .i64 k ∧ Hid (outerK rs k = some K) ∧ Hid (K = [] → u = .slice none 0 0) ∧ w.heap.size ≤ wr.heap.size ∧ St w wr [.owns (pairE 100) w.heap.size (fun b => w.heap.size ≤ b) u K]) (fun _ i _ => rs.length - (intOf i).toNat)
  case atStart => exact ⟨0, [], by omega, rfl, Lib.hid rfl, Lib.hid (fun _ => rfl), Nat.le_refl _, S⟩
  case round =>
    clear S
    obtain ⟨i, K, hi, rfl, HKO, HNL, zW, S⟩ := hrel
    by_cases hlt : i < rs.length
    case neg =>
      obtain rfl : i = rs.length := by omega
      obtain ⟨uo, usp, rfl, hrow, _⟩ := (S.owns (pairE 100) 0).row (fun b h => h)
      have HRW := Lib.hid hrow
      have SE := Lib.hid S.bel
      clear S hrow
      go_wp2_with fail
      go_ret2
      exact ⟨K, 0, uo, usp, rfl, .inr (.inr ⟨rfl, HKO.out⟩), HRW.out, SE.out⟩
    case pos =>
    have hlti : (i : Int) < (rs.length : Int) := by omega
    obtain ⟨b, off, kx1, sx1, kx2, sx2, rfl, hpb, c0', c1', c2', c3', t1, t2⟩ := HR.out.rule hlt
    have HXZ := Lib.hid (HZ.out _ (List.getElem_mem hlt))
    obtain ⟨X, hX⟩ : ∃ X, X = rs[i] := ⟨_, rfl⟩
    have HXE := Lib.hid (show gR rs i = X by rw [gR_get hlt, hX])
    rw [← hX] at c0' c1' c2' c3' t1 t2 HXZ
    have T1 := Lib.hid t1; have T2 := Lib.hid t2
    have HXC := Lib.hid (And.intro c0' (And.intro c1' (And.intro c2' c3')))
    have HX := Lib.hid (ok_okg HXZ.out.1)
    have HMO := Lib.hid (show 0 ≤ X.1.most ∧ X.1.most ≤ 8 from ⟨X.1.most_nonneg, most_le X.1 (ok_parts HXZ.out.1).1⟩)
    have HKL := Lib.hid (show K.length ≤ 36000 by
      have h1 := outerK_len (fun f hf => (ok_parts (HZ.out f hf).1).2.1) hi HKO.out
      have h2 : i * (rs.length * 40) ≤ 30 * 1200 := Nat.mul_le_mul (by omega) (by omega)
      omega)
    clear hX t1 t2 c0' c1' c2' c3'
    obtain ⟨wo, hwo⟩ : ∃ W, W = wr := ⟨_, rfl⟩
    subst hwo
    go_wp2_with fail
    go_loopw [4, 6] (fun u j wr => ∃ (k : Nat) (M : List Ru), k ≤ rs.length ∧ j = .int .i64 k ∧ Hid (innerK rs X i k (some K) = some M) ∧ Hid (M = [] → u = .slice none 0 0) ∧ w.heap.size ≤ wr.heap.size ∧ St w wr [.owns (pairE 100) w.heap.size (fun b => w.heap.size ≤ b) u M]) (fun _ j _ => rs.length - (intOf j).toNat)
    case atStart => exact ⟨0, K, by omega, rfl, Lib.hid rfl, HNL, zW, S⟩
    case round =>
      clear S zW HNL
      obtain ⟨k, M, hk, rfl, HM, HNL, zW, S⟩ := hrel
      by_cases hlt2 : k < rs.length
      case neg =>
        obtain rfl : k = rs.length := by omega
        have HNK := Lib.hid (show outerK rs (i + 1) = some M by rw [outerK, HXE.out, HKO.out]; exact HM.out)
        have SB := Lib.hid S
        clear S
        go_wp2_with fail
        go_roundw
        case rel => exact ⟨i + 1, M, by omega, by go_num, HNK, HNL, zW, SB.out⟩
        case measure => simp [intOf] <;> omega
      case pos =>
      have hlti2 : (k : Int) < (rs.length : Int) := by omega
      obtain ⟨bb, boff, ky1, sy1, ky2, sy2, he, _, d0', d1', d2', d3', t1, t2⟩ := HR.out.rule hlt2
      simp only [Option.some.injEq, Addr.mk.injEq, and_true] at he
      obtain ⟨rfl, rfl⟩ := he
      have c0 := Below.cellOf S.bel HXC.out.1; have c1 := Below.cellOf S.bel HXC.out.2.1
      have HYZ := Lib.hid (HZ.out _ (List.getElem_mem hlt2))
      obtain ⟨Y, hY⟩ : ∃ Y, Y = rs[k] := ⟨_, rfl⟩
      have HYE := Lib.hid (show gR rs k = Y by rw [gR_get hlt2, hY])
      rw [← hY] at d0' d1' d2' d3' t1 t2 HYZ
      have U1 := Lib.hid t1; have U2 := Lib.hid t2
      have HYC := Lib.hid (And.intro d0' (And.intro d1' (And.intro d2' d3')))
      have HYO := Lib.hid (show (Y.1.low ∧ Y.1.thin) ∧ Y.2.low ∧ Y.2.thin from ⟨⟨low_of_pre Y.1 (ok_parts HYZ.out.1).1, ok_thin HYZ.out.1⟩, low_of_pre Y.2 (ok_parts HYZ.out.2).1, ok_thin HYZ.out.2⟩)
      obtain ⟨s0, hs0⟩ : ∃ s, s = wr.heap.size := ⟨_, rfl⟩
      have OT := (S.owns (pairE 100) 0).tightC (q := fun b => w.heap.size ≤ b ∧ b < s0) (fun b h h2 => ⟨h, by omega⟩)
      have SO := Lib.hid (show ∀ c, u4.ownBlock = some c → w.heap.size ≤ c ∧ c < s0 from fun c hc => by rw [hs0]; exact S.ownlt (pairE 100) 0 rfl c hc)
      have S2 : St w wr [.owns (pairE 100) w.heap.size (fun b => w.heap.size ≤ b ∧ b < s0) u4 M] := S.repl 0 (.owns (pairE 100) w.heap.size (fun b => w.heap.size ≤ b ∧ b < s0) u4 M) OT
      have HS0 := Lib.hid (show w.heap.size ≤ s0 ∧ s0 ≤ wr.heap.size by omega)
      have hmx := HMO.out
      clear hY t1 t2 d0' d1' d2' d3' S OT hs0
      go_wp2_with fail
      refine (S2.quiet (most30 X.1 _ wr (low_of_heads _ fun z hz => by have := (HX.out.1 z hz).1; omega) (T1.out.at.kept S2.bel))).mono ?_
      rintro e w2 ⟨rfl, z2, S3⟩
      clear S2 c0 c1
      have d0 := Below.cellOf S3.bel HYC.out.1; have d1 := Below.cellOf S3.bel HYC.out.2.1
      go_wp2_with fail
      refine (S3.made (moved47 X.1.most (by omega) (by omega) Y.1 _ w2 (U1.out.at.kept S3.bel) HYO.out.1.1 HYO.out.1.2)).mono ?_
      rintro e w3 ⟨kl, sl, rfl, z3, S4⟩
      obtain ⟨YL, hYL⟩ : ∃ z, z = shT X.1.most Y.1 := ⟨_, rfl⟩
      rw [← hYL] at S4 ⊢
      have HYL := Lib.hid hYL
      clear hYL S3 d0 d1
      obtain ⟨b8, hb8⟩ : ∃ b, b = w3.heap.size := ⟨_, rfl⟩
      have S5 := S4.box hb8.symm #[.int .i64 YL.head, .slice kl YL.kids.length (YL.kids.length + sl)] 38
      have hsz5 : b8 + 1 ≤ (w3.alloc (.cells #[.int .i64 YL.head, .slice kl YL.kids.length (YL.kids.length + sl)] 38)).heap.size := by simp [hb8]
      have HB8 := Lib.hid (show s0 ≤ w2.heap.size ∧ w2.heap.size ≤ b8 ∧ w3.heap.size ≤ b8 by have := HS0.out; omega)
      have d2 := Below.cellOf S5.bel HYC.out.2.2.1; have d3 := Below.cellOf S5.bel HYC.out.2.2.2
      clear S4
      go_wp2_with fail
      rw [← hb8]
      refine S5.gen (z := b8 + 1) hsz5 ?_
      intro w4 z4 S
      clear S5 hsz5 hb8 d2 d3 z2 z3
      refine (S.made (moved47 X.1.most (by omega) (by omega) Y.2 _ w4 (U2.out.at.kept S.bel) HYO.out.2.1 HYO.out.2.2)).mono ?_
      rintro e w5 ⟨kr, sr, rfl, z5, S6⟩
      obtain ⟨YR, hYR⟩ : ∃ z, z = shT X.1.most Y.2 := ⟨_, rfl⟩
      rw [← hYR] at S6 ⊢
      have HYR := Lib.hid hYR
      clear hYR S
      obtain ⟨b9, hb9⟩ : ∃ b, b = w5.heap.size := ⟨_, rfl⟩
      have S7 := S6.box hb9.symm #[.int .i64 YR.head, .slice kr YR.kids.length (YR.kids.length + sr)] 38
      have hsz7 : b9 + 1 ≤ (w5.alloc (.cells #[.int .i64 YR.head, .slice kr YR.kids.length (YR.kids.length + sr)] 38)).heap.size := by simp [hb9]
      have HB9 := Lib.hid (show b8 + 1 ≤ b9 by omega)
      have T8 := (S7.tree 1).mono (q := fun b => s0 ≤ b ∧ b < b9 + 1) (fun b h _ => by have := HB8.out; have := HB9.out; have hh := S7.lt 2; omega)
      have T9 := (S7.tree 3).mono (q := fun b => s0 ≤ b ∧ b < b9 + 1) (fun b h _ => by have := HB8.out; have := HB9.out; omega)
      have S8 : St w (w5.alloc (.cells #[.int .i64 YR.head, .slice kr YR.kids.length (YR.kids.length + sr)] 38)) [.owns (pairE 100) w.heap.size (fun b => w.heap.size ≤ b ∧ b < s0) u4 M, .box b8 #[.int .i64 YL.head, .slice kl YL.kids.length (YL.kids.length + sl)] 38, .box b9 #[.int .i64 YR.head, .slice kr YR.kids.length (YR.kids.length + sr)] 38, .treeP (fun b => s0 ≤ b ∧ b < b9 + 1) (.agg #[.int .i64 YL.head, .slice kl YL.kids.length (YL.kids.length + sl)]) YL, .treeP (fun b => s0 ≤ b ∧ b < b9 + 1) (.agg #[.int .i64 YR.head, .slice kr YR.kids.length (YR.kids.length + sr)]) YR] := ((S7.pick [0, 2, 4]).add (.treeP (fun b => s0 ≤ b ∧ b < b9 + 1) (.agg #[.int .i64 YL.head, .slice kl YL.kids.length (YL.kids.length + sl)]) YL) T8).add (.treeP (fun b => s0 ≤ b ∧ b < b9 + 1) (.agg #[.int .i64 YR.head, .slice kr YR.kids.length (YR.kids.length + sr)]) YR) T9
      have hmt : ((X.1.most.toNat : Nat) : Int) = X.1.most := by omega
      have HYLG := Lib.hid (show YL.low ∧ 0 ≤ YL.most ∧ YL.most ≤ 16 from by
        rw [HYL.out, ← hmt]
        exact ⟨sh_low HYZ.out.1 _ (by omega), T.most_nonneg _, sh_most HYZ.out.1 _ (by omega)⟩)
      obtain ⟨⟨v0, _⟩, v1, _⟩ := S8.two 1
      clear S6 S7 T8 T9
      go_upto_region 12 with fail
      rw [← hb9]
      refine S8.genC (z := b9 + 1) hsz7 ?_
      intro w6 z6 S
      clear S8 hsz7 hb9 v0 v1 z4 z5
      obtain ⟨⟨v0, _⟩, v1, _⟩ := S.two 1
      go_wp2_with fail
      refine (S.quiet (most30 YL _ w6 HYLG.out.1 (S.treeP 3).at)).mono ?_
      rintro e w7 ⟨rfl, z7, S7⟩
      have z7' : b9 + 1 ≤ w7.heap.size := by omega
      clear S z6 z7 v0 v1
      obtain ⟨⟨v0, _⟩, v1, _⟩ := S7.two 1
      go_upto_if 54 with fail
      go_cut [10] (fun t10 W => ∃ N : Nat, t10 = .int .i64 N ∧ X.1.most ≤ (N : Int) ∧ YL.most ≤ (N : Int) ∧ N ≤ 100 ∧ b9 + 1 ≤ W.heap.size ∧ St w W [.owns (pairE 100) w.heap.size (fun b => w.heap.size ≤ b ∧ b < s0) u4 M, .box b8 #[.int .i64 YL.head, .slice kl YL.kids.length (YL.kids.length + sl)] 38, .box b9 #[.int .i64 YR.head, .slice kr YR.kids.length (YR.kids.length + sr)] 38, .treeP (fun b => s0 ≤ b ∧ b < b9 + 1) (.agg #[.int .i64 YL.head, .slice kl YL.kids.length (YL.kids.length + sl)]) YL, .treeP (fun b => s0 ≤ b ∧ b < b9 + 1) (.agg #[.int .i64 YR.head, .slice kr YR.kids.length (YR.kids.length + sr)]) YR])
      case first =>
        by_cases hgt : X.1.most < YL.most
        · have hge : YL.most > X.1.most := hgt
          go_wp2_with fail
          refine (S7.quiet (most30 YL _ w7 HYLG.out.1 (S7.treeP 3).at)).mono ?_
          rintro e w8 ⟨rfl, z8, S8⟩
          have hnn : YL.most = ((YL.most.toNat : Nat) : Int) := by have := HYLG.out.2; omega
          have HNN := Lib.hid (show X.1.most ≤ ((YL.most.toNat : Nat) : Int) ∧ YL.most ≤ ((YL.most.toNat : Nat) : Int) ∧ YL.most.toNat ≤ 100 by have := HYLG.out.2; omega)
          have SB := Lib.hid S8
          have zz : b9 + 1 ≤ w8.heap.size := by omega
          have HNE := Lib.hid hnn
          clear S7 S8 hnn hgt hge v0 v1
          go_wp2_with fail
          go_meet
          case rel => exact ⟨YL.most.toNat, congrArg (Value.int .i64) HNE.out, HNN.out.1, HNN.out.2.1, HNN.out.2.2, zz, SB.out⟩
        · have hge : ¬ YL.most > X.1.most := hgt
          have HNN := Lib.hid (show X.1.most ≤ ((X.1.most.toNat : Nat) : Int) ∧ YL.most ≤ ((X.1.most.toNat : Nat) : Int) ∧ X.1.most.toNat ≤ 100 by omega)
          have SB := Lib.hid S7
          have HNE := Lib.hid hmt.symm
          clear S7 hgt v0 v1 hmt
          go_wp2_with fail
          go_meet
          case rel => exact ⟨X.1.most.toNat, congrArg (Value.int .i64) HNE.out, HNN.out.1, HNN.out.2.1, HNN.out.2.2, z7', SB.out⟩
      case rest =>
      clear S7 z7' v0 v1
      obtain ⟨vN, ht10, hN1, hN2, hN3, z9, S⟩ := hcut
      subst ht10
      have HVN := Lib.hid (And.intro hN1 (And.intro hN2 hN3))
      clear hN1 hN2 hN3
      have c0 := Below.cellOf S.bel HXC.out.1; have c1 := Below.cellOf S.bel HXC.out.2.1
      go_wp2_with fail
      refine (places102 X.1 (fun _ => False) [] _ none 0 0 _ (fun _ h => h.elim) (T1.out.at.kept S.bel) Elt.Row.nil (fun x hx hn => List.eq_nil_of_length_eq_zero ((HX.out.1 x hx).2.2 hn)) rfl (Nat.le_refl _) (by have := HX.out.2; omega) (by have := HX.out.2; have := deep_le X.1; simp; omega)).mono ?_
      rintro e w10 ⟨po, psp, rfl, hpl, hb10⟩
      obtain ⟨PL, hPL⟩ : ∃ z, z = (X.1.preP []).filter nonv := ⟨_, rfl⟩
      have HPE := Lib.hid (show plcs (X.1.preP []) = PL.map Prod.fst by rw [hPL]; exact plcs_nonv _)
      have HPLM := Lib.hid (show ∀ x ∈ PL, x ∈ X.1.preP [] ∧ ¬ x.2.head < 0 from fun x hx => by rw [hPL] at hx; have h := List.mem_filter.1 hx; exact ⟨h.1, by simpa [nonv] using h.2⟩)
      have HPK := Lib.hid (show ∀ Y sm K, nodesK X Y sm PL K = nodesK X Y sm (X.1.preP []) K from fun Y sm K => by rw [hPL]; exact nodesK_nonv X Y sm _ K)
      have HPLN := Lib.hid (show PL.length ≤ 40 by rw [hPL]; have h1 := List.length_filter_le nonv (X.1.preP []); rw [preP_length] at h1; have := HX.out.2; omega)
      rw [HPE.out] at hpl
      rw [HPE.out, List.length_map]
      have S1 := S.step hb10
      obtain ⟨s1, hs1⟩ : ∃ s, s = w10.heap.size := ⟨_, rfl⟩
      have S2 : St w w10 [.owns (pairE 100) w.heap.size (fun b => w.heap.size ≤ b) u4 M, .box b8 #[.int .i64 YL.head, .slice kl YL.kids.length (YL.kids.length + sl)] 38, .box b9 #[.int .i64 YR.head, .slice kr YR.kids.length (YR.kids.length + sr)] 38, .treeP (fun b => s0 ≤ b ∧ b < b9 + 1) (.agg #[.int .i64 YL.head, .slice kl YL.kids.length (YL.kids.length + sl)]) YL, .treeP (fun b => s0 ≤ b ∧ b < b9 + 1) (.agg #[.int .i64 YR.head, .slice kr YR.kids.length (YR.kids.length + sr)]) YR, .rowE intsE (fun b => s0 ≤ b ∧ b < s1) po (PL.map Prod.fst)] := (S1.repl 0 (.owns (pairE 100) w.heap.size (fun b => w.heap.size ≤ b) u4 M) ((S1.owns (pairE 100) 0).weak (fun b (h : w.heap.size ≤ b ∧ b < s0) => h.1))).add (.rowE intsE (fun b => s0 ≤ b ∧ b < s1) po (PL.map Prod.fst)) (hpl.mono (fun b h h2 => by have := HB8.out; have := HB9.out; rcases h with h | h; exact h.elim; omega))
      have HS1 := Lib.hid (show b9 + 1 ≤ s1 ∧ s1 ≤ w10.heap.size by have := hb10.size; omega)
      obtain ⟨sm, hsm⟩ : ∃ s, s = decide (i = k) := ⟨_, rfl⟩
      have HSM := Lib.hid hsm
      clear hPL hpl hb10 S S1 hs1 hsm c0 c1 z9
      obtain ⟨wm, hwm⟩ : ∃ W, W = wr := ⟨_, rfl⟩
      subst hwm
      go_wp2_with fail
      go_loopw [4, 12] (fun u n wr => ∃ (m : Nat) (N : List Ru), m ≤ PL.length ∧ n = .int .i64 m ∧ Hid (nodesK X (YL, YR) sm (PL.take m) (some M) = some N) ∧ Hid (N = [] → u = .slice none 0 0) ∧ Hid (∀ c, u.ownBlock = some c → c < s0 ∨ s1 ≤ c) ∧ s1 ≤ wr.heap.size ∧ St w wr [.owns (pairE 100) w.heap.size (fun b => w.heap.size ≤ b) u N, .box b8 #[.int .i64 YL.head, .slice kl YL.kids.length (YL.kids.length + sl)] 38, .box b9 #[.int .i64 YR.head, .slice kr YR.kids.length (YR.kids.length + sr)] 38, .treeP (fun b => s0 ≤ b ∧ b < b9 + 1) (.agg #[.int .i64 YL.head, .slice kl YL.kids.length (YL.kids.length + sl)]) YL, .treeP (fun b => s0 ≤ b ∧ b < b9 + 1) (.agg #[.int .i64 YR.head, .slice kr YR.kids.length (YR.kids.length + sr)]) YR, .rowE intsE (fun b => s0 ≤ b ∧ b < s1) po (PL.map Prod.fst)]) (fun _ n _ => PL.length - (intOf n).toNat)
      case atStart => exact ⟨0, M, by omega, rfl, Lib.hid rfl, HNL, Lib.hid (fun c hc => .inl (SO.out c hc).2), HS1.out.2, S2⟩
      case round =>
        clear S2
        obtain ⟨m, N, hm, rfl, HN, HNL2, HOW, zW2, S⟩ := hrel
        by_cases hlt3 : m < PL.length
        case neg =>
          obtain rfl : m = PL.length := by omega
          have HNK := Lib.hid (show innerK rs X i (k + 1) (some K) = some N by
            have h1 := HN.out
            rw [List.take_length, HPK.out] at h1
            rw [innerK, HM.out, HYE.out]; unfold moveR; rw [← HYL.out, ← HYR.out, ← HSM.out]; exact h1)
          have SB := Lib.hid (S.pick [0])
          have zz := Lib.hid (show w.heap.size ≤ wr.heap.size by have := HS0.out; have := HS1.out; have := HB8.out; have := HB9.out; omega)
          clear S
          go_wp2_with fail
          go_roundw
          case rel => exact ⟨k + 1, N, by omega, by go_num, HNK, HNL2, zz.out, SB.out⟩
          case measure => simp [intOf] <;> omega
        case pos =>
        have hlti3 : (m : Int) < (PL.length : Int) := by omega
        have hpl40 := HPLN.out
        obtain ⟨pb, poff, atk, ats, rfl, hpb2, e0, hat, hatl⟩ := (S.rowE intsE 5).ints (i := m) (by simpa using hlt3)
        obtain ⟨x, hx⟩ : ∃ x, x = PL[m] := ⟨_, rfl⟩
        have hxe : (PL.map Prod.fst)[m]'(by simpa using hlt3) = x.1 := by simp [hx]
        rw [hxe] at e0 hat hatl
        have HXM := Lib.hid (HPLM.out x (by rw [hx]; exact List.getElem_mem _))
        have HTK := Lib.hid (show ∀ R, nodeStep X (YL, YR) sm (some N) x = R → nodesK X (YL, YR) sm (PL.take (m + 1)) (some M) = R from fun R h => by rw [List.take_succ_eq_append_getElem hlt3, ← hx, nodesK_snoc, HN.out]; exact h)
        have HXE2 := Lib.hid hxe
        clear hx hxe
        obtain ⟨at_, A⟩ := x
        have HGET := Lib.hid (show ∀ j, X.1.get at_ j = (A, -1) by
          obtain ⟨q, e1, e2, _⟩ := preP_get X.1 [] _ HXM.out.1
          have e1' : at_ = q := by simpa using e1
          rw [e1']; exact e2)
        have HPB := Lib.hid (show ∀ z ∈ at_, 1 ≤ z ∧ z ≤ 100000000 by
          obtain ⟨q, e1, _, e3⟩ := preP_get X.1 [] _ HXM.out.1
          have e1' : at_ = q := by simpa using e1
          rw [e1']; intro z hz
          have := e3 z hz; have := HX.out.2; omega)
        have HAG := Lib.hid (show (treeF A).1 = 0 from good_node HXZ.out.1 (by rw [← preP_snd X.1 []]; exact List.mem_map.2 ⟨_, HXM.out.1, rfl⟩))
        have HNG := Lib.hid (show ¬ A.head < 0 from by have h := HXM.out.2; dsimp only at h; omega)
        have hik : ((i : Int) == (k : Int)) = sm := by rw [HSM.out, Bool.eq_iff_iff]; simp only [beq_iff_eq, decide_eq_true_eq]; omega
        dsimp only at e0 hat hatl
        have HE0 := Lib.hid e0; have HAT := Lib.hid hat; have HATL := Lib.hid hatl
        clear hat hatl
        go_upto_region 18 with fail
        go_cut [79] (fun t79 W => t79 = .bool (decide (at_ = [] ∧ sm = true)) ∧ W = wr)
        case first =>
          by_cases hy : at_ = []
          · have hy0 : ((at_.length : Int) == 0) = true := by rw [hy]; rfl
            have HD := Lib.hid (show sm = decide (at_ = [] ∧ sm = true) by simp [hy])
            clear hy
            go_wp2_with fail
            go_meet
            case rel => exact ⟨congrArg Value.bool HD.out, rfl⟩
          · have hy0 : ((at_.length : Int) == 0) = false := by rw [beq_eq_false_iff_ne]; intro e; exact hy (List.eq_nil_of_length_eq_zero (by omega))
            have HD := Lib.hid (show false = decide (at_ = [] ∧ sm = true) by simp [hy])
            clear hy
            go_wp2_with fail
            go_meet
            case rel => exact ⟨congrArg Value.bool HD.out, rfl⟩
        case rest =>
        obtain ⟨ht79, hw⟩ := hcut
        replace hw := hw.symm
        subst hw
        subst ht79
        by_cases hcn : at_ = [] ∧ sm = true
        · have HST := Lib.hid (HTK.out (some N) (by unfold nodeStep; exact if_pos (.inr ⟨hcn.2, hcn.1⟩)))
          rw [decide_eq_true hcn]
          have SB := Lib.hid S
          clear S hcn e0 hik
          go_wp2_with fail
          go_roundw
          case rel => exact ⟨m + 1, N, by omega, by go_num, HST, HNL2, HOW, zW2, SB.out⟩
          case measure => simp [intOf] <;> omega
        · rw [decide_eq_false hcn]
          have HCN := Lib.hid hcn
          obtain ⟨s2, hs2⟩ : ∃ s, s = wr.heap.size := ⟨_, rfl⟩
          have OT := (S.owns (pairE 100) 0).tightC (q := fun b => w.heap.size ≤ b ∧ b < s2) (fun b h h2 => ⟨h, by omega⟩)
          have HOLT := Lib.hid (show ∀ c, u4.ownBlock = some c → w.heap.size ≤ c ∧ c < s2 from fun c hc => by rw [hs2]; exact S.ownlt (pairE 100) 0 rfl c hc)
          have S2 : St w wr [.owns (pairE 100) w.heap.size (fun b => w.heap.size ≤ b ∧ b < s2) u4 N, .box b8 #[.int .i64 YL.head, .slice kl YL.kids.length (YL.kids.length + sl)] 38, .box b9 #[.int .i64 YR.head, .slice kr YR.kids.length (YR.kids.length + sr)] 38, .treeP (fun b => s0 ≤ b ∧ b < b9 + 1) (.agg #[.int .i64 YL.head, .slice kl YL.kids.length (YL.kids.length + sl)]) YL, .treeP (fun b => s0 ≤ b ∧ b < b9 + 1) (.agg #[.int .i64 YR.head, .slice kr YR.kids.length (YR.kids.length + sr)]) YR, .rowE intsE (fun b => s0 ≤ b ∧ b < s1) (some ⟨pb, poff, none⟩) (PL.map Prod.fst)] := S.repl 0 (.owns (pairE 100) w.heap.size (fun b => w.heap.size ≤ b ∧ b < s2) u4 N) OT
          have HS2 := Lib.hid (show s1 ≤ s2 ∧ s2 ≤ wr.heap.size ∧ wr.heap.size ≤ s2 by omega)
          have HDN := Lib.hid (show ∀ W, Below wr.heap.size wr W → Calls Try.prog 103 #[.agg #[.int .i64 X.1.head, .slice kx1 X.1.kids.length (X.1.kids.length + sx1)], .slice atk at_.length (at_.length + ats)] W (DownPost p (A, -1) W) from fun W hb => by
            have h := down32 p X.1 at_ (.agg #[.int .i64 X.1.head, .slice kx1 X.1.kids.length (X.1.kids.length + sx1)]) atk (at_.length + ats) W (T1.out.kept (Below.step S2.bel hb)) (rowInt_cells (HAT.out.kept hb)) (by have := HATL.out; unfold maxLen at this; omega)
            rw [HGET.out 0] at h; exact h)
          clear S OT hs2 hcn hik
          go_upto_region 19 with fail
          go_cut [13, 14] (fun t13 t14 W => ∃ (b13 : Nat) (ak : Option Addr) (asp : Nat), t13 = .pointer (some ⟨b13, 0, none⟩) ∧ t14 = .int .i64 (-1) ∧ s2 ≤ b13 ∧ b13 + 1 ≤ W.heap.size ∧ St w W [.owns (pairE 100) w.heap.size (fun b => w.heap.size ≤ b ∧ b < s2) u4 N, .box b8 #[.int .i64 YL.head, .slice kl YL.kids.length (YL.kids.length + sl)] 38, .box b9 #[.int .i64 YR.head, .slice kr YR.kids.length (YR.kids.length + sr)] 38, .treeP (fun b => s0 ≤ b ∧ b < b9 + 1) (.agg #[.int .i64 YL.head, .slice kl YL.kids.length (YL.kids.length + sl)]) YL, .treeP (fun b => s0 ≤ b ∧ b < b9 + 1) (.agg #[.int .i64 YR.head, .slice kr YR.kids.length (YR.kids.length + sr)]) YR, .rowE intsE (fun b => s0 ≤ b ∧ b < s1) (some ⟨pb, poff, none⟩) (PL.map Prod.fst), .box b13 #[.int .i64 A.head, .slice ak A.kids.length (A.kids.length + asp)] 38] ∧ TreeP p W (.agg #[.int .i64 A.head, .slice ak A.kids.length (A.kids.length + asp)]) A)
          case first =>
            have FC := Lib.hid (show ∀ W, Below wr.heap.size wr W → (W.cell? ⟨b, off + i * 4, none⟩ = some (.int .i64 X.1.head) ∧ W.cell? ⟨b, off + i * 4 + 1, none⟩ = some (.slice kx1 X.1.kids.length (X.1.kids.length + sx1)) ∧ W.cell? ⟨pb, poff + m, none⟩ = some (.slice atk at_.length (at_.length + ats))) from fun W hb => ⟨Below.cellOf (Below.step S2.bel hb) HXC.out.1, Below.cellOf (Below.step S2.bel hb) HXC.out.2.1, Below.cellOf hb HE0.out⟩)
            have SD := Lib.hid S2.drew
            clear S2 e0
            have OFF6 := Lib.hid (show ∀ c, s2 ≤ c → offs c 6 [.owns (pairE 100) w.heap.size (fun b => w.heap.size ≤ b ∧ b < s2) u4 N, .box b8 #[.int .i64 YL.head, .slice kl YL.kids.length (YL.kids.length + sl)] 38, .box b9 #[.int .i64 YR.head, .slice kr YR.kids.length (YR.kids.length + sr)] 38, .treeP (fun b => s0 ≤ b ∧ b < b9 + 1) (.agg #[.int .i64 YL.head, .slice kl YL.kids.length (YL.kids.length + sl)]) YL, .treeP (fun b => s0 ≤ b ∧ b < b9 + 1) (.agg #[.int .i64 YR.head, .slice kr YR.kids.length (YR.kids.length + sr)]) YR, .rowE intsE (fun b => s0 ≤ b ∧ b < s1) (some ⟨pb, poff, none⟩) (PL.map Prod.fst), .box c #[.int .i64 0, .slice none 0 0] 38] from fun c hc => by
              have h1 := HS0.out; have h2 := HS1.out; have h3 := HS2.out; have h4 := HB8.out; have h5 := HB9.out; have h6 := HOLT.out
              simp only [offs, offAll, Fct.box, Fct.owns, Fct.treeP, Fct.rowE, and_true]
              exact ⟨fun e => by rcases e with e | e; (have := (h6 _ e).2; omega); omega, by omega, by omega, by omega, by omega, by omega⟩)
            have HPBL := Lib.hid (show pb < s2 by have h := hpb2; have := HS2.out; have h9 : s0 ≤ pb ∧ pb < s1 := h; omega)
            refine wpH_region [] (fun W => W.cell? ⟨b, off + i * 4, none⟩ = some (.int .i64 X.1.head) ∧ W.cell? ⟨b, off + i * 4 + 1, none⟩ = some (.slice kx1 X.1.kids.length (X.1.kids.length + sx1)) ∧ W.cell? ⟨pb, poff + m, none⟩ = some (.slice atk at_.length (at_.length + ats))) (by kernel_rfl) ?_
            have HS := FC.out _ (Below.refl _ wr).drew
            refine wpH.take (i := 0) (by kernel_rfl) (by kernel_rfl) (by kernel_rfl) (by kernel_rfl) (by kernel_rfl) HS ?_
            intro oi ho
            simp only [List.getElem?_toArray, List.getElem?_cons_zero, Option.some.injEq] at ho
            subst ho
            refine ⟨?_, Or.inl ⟨by rfl, ?_⟩, fun _ _ _ h => h, ?_⟩
            rotate_left 1
            · intro W hW
              try dsimp only at hW
              go_simp
              try with_reducible rfl
            simp only [Act.put, List.setIfInBounds_toArray, List.set_cons_zero, List.set_cons_succ]
            refine wpH.take (i := 1) (by kernel_rfl) (by kernel_rfl) (by kernel_rfl) (by kernel_rfl) (by kernel_rfl) HS ?_
            intro oi ho
            simp only [List.getElem?_toArray, List.getElem?_cons_succ, List.getElem?_cons_zero, Option.some.injEq] at ho
            subst ho
            refine ⟨?_, Or.inl ⟨by rfl, ?_⟩, fun _ _ _ h => h, ?_⟩
            rotate_left 1
            · intro W hW
              try dsimp only at hW
              go_simp
              try with_reducible rfl
            simp only [Act.put, List.setIfInBounds_toArray, List.set_cons_zero, List.set_cons_succ]
            refine wpH.take (i := 2) (by kernel_rfl) (by kernel_rfl) (by kernel_rfl) (by kernel_rfl) (by kernel_rfl) HS ?_
            intro oi ho
            simp only [List.getElem?_toArray, List.getElem?_cons_succ, List.getElem?_cons_zero, Option.some.injEq] at ho
            subst ho
            refine ⟨?_, Or.inl ⟨by rfl, ?_⟩, fun _ _ _ h => h, ?_⟩
            rotate_left 1
            · intro W hW
              try dsimp only at hW
              go_simp
              try with_reducible rfl
            simp only [Act.put, List.setIfInBounds_toArray, List.set_cons_zero, List.set_cons_succ]
            refine wpH.take (i := 3) (by kernel_rfl) (by kernel_rfl) (by kernel_rfl) (by kernel_rfl) (by kernel_rfl) HS ?_
            intro oi ho
            simp only [List.getElem?_toArray, List.getElem?_cons_succ, List.getElem?_cons_zero, Option.some.injEq] at ho
            subst ho
            refine ⟨?_, Or.inl ⟨by rfl, ?_⟩, fun _ _ _ h => h, ?_⟩
            rotate_left 1
            · intro W hW
              try dsimp only at hW
              go_simp
              try with_reducible rfl
            simp only [Act.put, List.setIfInBounds_toArray, List.set_cons_zero, List.set_cons_succ]
            refine wpH.take (i := 4) (by kernel_rfl) (by kernel_rfl) (by kernel_rfl) (by kernel_rfl) (by kernel_rfl) HS ?_
            intro oi ho
            simp only [List.getElem?_toArray, List.getElem?_cons_succ, List.getElem?_cons_zero, Option.some.injEq] at ho
            subst ho
            refine ⟨?_, Or.inl ⟨by rfl, ?_⟩, fun _ _ _ h => h, ?_⟩
            rotate_left 1
            · intro W hW
              try dsimp only at hW
              go_simp
              try with_reducible rfl
            simp only [Act.put, List.setIfInBounds_toArray, List.set_cons_zero, List.set_cons_succ]
            refine wpH.take (i := 5) (by kernel_rfl) (by kernel_rfl) (by kernel_rfl) (by kernel_rfl) (by kernel_rfl) HS ?_
            intro oi ho
            simp only [List.getElem?_toArray, List.getElem?_cons_succ, List.getElem?_cons_zero, Option.some.injEq] at ho
            subst ho
            refine ⟨?_, Or.inl ⟨by rfl, ?_⟩, fun _ _ _ h => h, ?_⟩
            rotate_left 1
            · intro W hW
              try dsimp only at hW
              go_simp
              try with_reducible rfl
            simp only [Act.put, List.setIfInBounds_toArray, List.set_cons_zero, List.set_cons_succ]
            refine wpH.take (i := 6) (by kernel_rfl) (by kernel_rfl) (by kernel_rfl) (by kernel_rfl) (by kernel_rfl) HS ?_
            intro oi ho
            simp only [List.getElem?_toArray, List.getElem?_cons_succ, List.getElem?_cons_zero, Option.some.injEq] at ho
            subst ho
            refine ⟨?_, Or.inl ⟨by rfl, ?_⟩, fun _ _ _ h => h, ?_⟩
            rotate_left 1
            · intro W hW
              try dsimp only at hW
              go_simp
              try with_reducible rfl
            simp only [Act.put, List.setIfInBounds_toArray, List.set_cons_zero, List.set_cons_succ]
            refine wpH.take (i := 7) (by kernel_rfl) (by kernel_rfl) (by kernel_rfl) (by kernel_rfl) (by kernel_rfl) HS ?_
            intro oi ho
            simp only [List.getElem?_toArray, List.getElem?_cons_succ, List.getElem?_cons_zero, Option.some.injEq] at ho
            subst ho
            refine ⟨?_, Or.inl ⟨by rfl, ?_⟩, fun _ _ _ h => h, ?_⟩
            rotate_left 1
            · intro W hW
              try dsimp only at hW
              go_simp
              try with_reducible rfl
            simp only [Act.put, List.setIfInBounds_toArray, List.set_cons_zero, List.set_cons_succ]
            refine wpH.take (i := 8) (by kernel_rfl) (by kernel_rfl) (by kernel_rfl) (by kernel_rfl) (by kernel_rfl) HS ?_
            intro oi ho
            simp only [List.getElem?_toArray, List.getElem?_cons_succ, List.getElem?_cons_zero, Option.some.injEq] at ho
            subst ho
            refine ⟨?_, Or.inl ⟨by rfl, ?_⟩, fun _ _ _ h => h, ?_⟩
            rotate_left 1
            · intro W hW
              try dsimp only at hW
              go_simp
              try with_reducible rfl
            simp only [Act.put, List.setIfInBounds_toArray, List.set_cons_zero, List.set_cons_succ]
            refine wpH.two (i := 9) (j := 13) (by kernel_rfl) ?_ ?_
            · intro oi ho
              simp only [List.getElem?_toArray, List.getElem?_cons_succ, List.getElem?_cons_zero, Option.some.injEq] at ho
              subst ho
              intro K' hK
              have HK := Lib.hid hK
              clear hK
              go_simp
              go_at_call 103
              refine (HDN.out _ (Below.refl _ wr).drew).mono ?_
              rintro e wn ⟨ak, asp, rfl, hta, hbn⟩
              have S9 := Lib.hid (SD.out.step hbn)
              have HB9x := Lib.hid (Below.step (Below.refl _ wr).drew hbn)
              have zn := hbn.size
              have TA9 := Lib.hid (hta.kept hbn)
              clear hbn hta
              dsimp only
              refine HK.out _ _ (fun _ => FC.out _ HB9x.out) ?_
              have HS := FC.out _ HB9x.out
              try simp only [Act.put, List.setIfInBounds_toArray, List.set_cons_zero, List.set_cons_succ]
              refine wpH.take (i := 10) (by kernel_rfl) (by kernel_rfl) (by kernel_rfl) (by kernel_rfl) (by kernel_rfl) HS ?_
              intro oi ho
              simp only [List.getElem?_toArray, List.getElem?_cons_succ, List.getElem?_cons_zero, Option.some.injEq] at ho
              subst ho
              refine ⟨?_, Or.inl ⟨by rfl, ?_⟩, fun _ _ _ h => h, ?_⟩
              rotate_left 1
              · intro W hW
                try dsimp only at hW
                go_simp
                try with_reducible rfl
              simp only [Act.put, List.setIfInBounds_toArray, List.set_cons_zero, List.set_cons_succ]
              refine wpH.take (i := 11) (by kernel_rfl) (by kernel_rfl) (by kernel_rfl) (by kernel_rfl) (by kernel_rfl) HS ?_
              intro oi ho
              simp only [List.getElem?_toArray, List.getElem?_cons_succ, List.getElem?_cons_zero, Option.some.injEq] at ho
              subst ho
              refine ⟨?_, Or.inl ⟨by rfl, ?_⟩, fun _ _ _ h => h, ?_⟩
              rotate_left 1
              · intro W hW
                try dsimp only at hW
                go_simp
                try with_reducible rfl
              simp only [Act.put, List.setIfInBounds_toArray, List.set_cons_zero, List.set_cons_succ]
              refine wpH.take (i := 12) (by kernel_rfl) (by kernel_rfl) (by kernel_rfl) (by kernel_rfl) (by kernel_rfl) HS ?_
              intro oi ho
              simp only [List.getElem?_toArray, List.getElem?_cons_succ, List.getElem?_cons_zero, Option.some.injEq] at ho
              subst ho
              refine ⟨?_, Or.inl ⟨by rfl, ?_⟩, fun _ _ _ h => h, ?_⟩
              rotate_left 1
              · intro W hW
                try dsimp only at hW
                go_simp
                try with_reducible rfl
              simp only [Act.put, List.setIfInBounds_toArray, List.set_cons_zero, List.set_cons_succ]
              refine wpH.one (i := 13) (by kernel_rfl) ?_
              intro oi ho
              simp only [List.getElem?_toArray, List.getElem?_cons_succ, List.getElem?_cons_zero, Option.some.injEq] at ho
              subst ho
              intro K' hK
              have HK := Lib.hid hK
              clear hK
              go_simp
              obtain ⟨bc, hbc⟩ : ∃ b, b = wn.heap.size := ⟨_, rfl⟩
              have S10 := S9.out.box (b := bc) hbc.symm #[.int .i64 0, .slice none 0 0] 38
              have HB10 := Lib.hid (HB9x.out.alloc HB9x.out.size (.cells #[.int .i64 0, .slice none 0 0] 38))
              have T1A := Lib.hid (TA9.out.kept ((Below.refl _ wn).alloc (Nat.le_refl _) (.cells #[.int .i64 0, .slice none 0 0] 38)))
              have HBB := Lib.hid (show wr.heap.size ≤ bc by have h : wr.heap.size ≤ wn.heap.size := zn; omega)
              have hz9x : bc + 1 ≤ (wn.alloc (.cells #[.int .i64 0, .slice none 0 0] 38)).heap.size := by simp [hbc]
              try rw [← hbc]
              refine HK.out _ _ (fun _ => FC.out _ HB10.out) ?_
              generalize hW10 : (wn.alloc (.cells #[.int .i64 0, .slice none 0 0] 38)) = W10 at S10 HB10 T1A hz9x ⊢
              clear hW10 hbc zn
              have S10 := Lib.hid S10
              have HS := FC.out _ HB10.out
              try simp only [Act.put, List.setIfInBounds_toArray, List.set_cons_zero, List.set_cons_succ]
              refine wpH.one (i := 14) (by kernel_rfl) ?_
              intro oi ho
              simp only [List.getElem?_toArray, List.getElem?_cons_succ, List.getElem?_cons_zero, Option.some.injEq] at ho
              subst ho
              intro K' hK
              have HK := Lib.hid hK
              clear hK
              go_simp
              obtain ⟨⟨r0, r0f⟩, r1, r1f⟩ := S10.out.two 6
              have hl6 := S10.out.lt 6
              try go_simp
              have SF : St w ((W10.setCell ⟨bc, 0, none⟩ (.int .i64 A.head)).setCell ⟨bc, 1, none⟩ (.slice ak A.kids.length (A.kids.length + asp))) [.owns (pairE 100) w.heap.size (fun b => w.heap.size ≤ b ∧ b < s2) u4 N, .box b8 #[.int .i64 YL.head, .slice kl YL.kids.length (YL.kids.length + sl)] 38, .box b9 #[.int .i64 YR.head, .slice kr YR.kids.length (YR.kids.length + sr)] 38, .treeP (fun b => s0 ≤ b ∧ b < b9 + 1) (.agg #[.int .i64 YL.head, .slice kl YL.kids.length (YL.kids.length + sl)]) YL, .treeP (fun b => s0 ≤ b ∧ b < b9 + 1) (.agg #[.int .i64 YR.head, .slice kr YR.kids.length (YR.kids.length + sr)]) YR, .rowE intsE (fun b => s0 ≤ b ∧ b < s1) (some ⟨pb, poff, none⟩) (PL.map Prod.fst), .box bc #[.int .i64 A.head, .slice ak A.kids.length (A.kids.length + asp)] 38] := S10.out.set2 6 rfl (.int .i64 A.head) (.slice ak A.kids.length (A.kids.length + asp)) (by have := HS0.out; have := HS1.out; have := HS2.out; have := HB8.out; have := HB9.out; have := HBB.out; omega) (OFF6.out bc (by have := HS0.out; have := HS1.out; have := HS2.out; have := HB8.out; have := HB9.out; have := HBB.out; omega))
              have hoth : ∀ q : Nat, q ≠ bc → ((W10.setCell ⟨bc, 0, none⟩ (.int .i64 A.head)).setCell ⟨bc, 1, none⟩ (.slice ak A.kids.length (A.kids.length + asp))).heap[q]? = W10.heap[q]? := fun q hq => (Below.heap_setCell _ _ _ _ hq).trans (Below.heap_setCell _ _ _ _ hq)
              have HTF := Lib.hid (show TreeP p ((W10.setCell ⟨bc, 0, none⟩ (.int .i64 A.head)).setCell ⟨bc, 1, none⟩ (.slice ak A.kids.length (A.kids.length + asp))) (.agg #[.int .i64 A.head, .slice ak A.kids.length (A.kids.length + asp)]) A from (T1A.out).carry (fun q hb hl => hoth q (by have h9 := HP.out q hb; have := HS0.out; have := HS1.out; have := HS2.out; have := HB8.out; have := HB9.out; have := HBB.out; omega)))
              have HCF := Lib.hid (show ((W10.setCell ⟨bc, 0, none⟩ (.int .i64 A.head)).setCell ⟨bc, 1, none⟩ (.slice ak A.kids.length (A.kids.length + asp))).cell? ⟨b, off + i * 4, none⟩ = some (.int .i64 X.1.head) ∧ ((W10.setCell ⟨bc, 0, none⟩ (.int .i64 A.head)).setCell ⟨bc, 1, none⟩ (.slice ak A.kids.length (A.kids.length + asp))).cell? ⟨b, off + i * 4 + 1, none⟩ = some (.slice kx1 X.1.kids.length (X.1.kids.length + sx1)) ∧ ((W10.setCell ⟨bc, 0, none⟩ (.int .i64 A.head)).setCell ⟨bc, 1, none⟩ (.slice ak A.kids.length (A.kids.length + asp))).cell? ⟨pb, poff + m, none⟩ = some (.slice atk at_.length (at_.length + ats)) from ⟨Below.cellOf SF.bel HXC.out.1, Below.cellOf SF.bel HXC.out.2.1, (World.cell?_of_block (w := W10) (hoth pb (by have := HPBL.out; have := HS0.out; have := HS1.out; have := HS2.out; have := HB8.out; have := HB9.out; have := HBB.out; omega))).trans HS.2.2⟩)
              have SF := Lib.hid SF
              clear HS
              refine HK.out _ _ (fun _ => HCF.out) ?_
              have HS := HCF.out
              try simp only [Act.put, List.setIfInBounds_toArray, List.set_cons_zero, List.set_cons_succ]
              refine wpH.one (i := 15) (by kernel_rfl) ?_
              intro oi ho
              simp only [List.getElem?_toArray, List.getElem?_cons_succ, List.getElem?_cons_zero, Option.some.injEq] at ho
              subst ho
              intro K' hK
              have HK := Lib.hid hK
              clear hK
              go_simp
              refine HK.out _ _ (fun _ => HS) ?_
              try simp only [Act.put, List.setIfInBounds_toArray, List.set_cons_zero, List.set_cons_succ]
              refine wpH.done (by kernel_rfl) ?_
              try go_wp2_with fail
              go_meet
              case rel => exact ⟨bc, ak, asp, rfl, rfl, by have := HS2.out; have := HBB.out; omega, by simp; omega, SF.out, HTF.out⟩
            · intro oi ho
              simp only [List.getElem?_toArray, List.getElem?_cons_succ, List.getElem?_cons_zero, Option.some.injEq] at ho
              subst ho
              intro K' hK
              have HK := Lib.hid hK
              clear hK
              go_simp
              have S9 : St w ((wr.alloc (.cells #[.int .i64 0, .slice none 0 0] 38)).drew) _ := SD.out.box (b := wr.heap.size) rfl #[.int .i64 0, .slice none 0 0] 38
              have HB9x : Hid (Below wr.heap.size wr ((wr.alloc (.cells #[.int .i64 0, .slice none 0 0] 38)).drew)) := Lib.hid (((Below.refl _ wr).alloc (Nat.le_refl _) _).drew)
              refine HK.out _ _ (fun _ => FC.out _ HB9x.out) ?_
              have hz9x : wr.heap.size + 1 ≤ ((wr.alloc (.cells #[.int .i64 0, .slice none 0 0] 38)).drew).heap.size := by simp
              generalize hW9 : (wr.alloc (.cells #[.int .i64 0, .slice none 0 0] 38)).drew = W9 at S9 HB9x hz9x ⊢
              clear hW9
              have HS := FC.out _ HB9x.out
              try simp only [Act.put, List.setIfInBounds_toArray, List.set_cons_zero, List.set_cons_succ]
              refine wpH.one (i := 9) (by kernel_rfl) ?_
              intro oi ho
              simp only [List.getElem?_toArray, List.getElem?_cons_succ, List.getElem?_cons_zero, Option.some.injEq] at ho
              subst ho
              intro K' hK
              have HK := Lib.hid hK
              clear hK
              go_simp
              go_at_call 103
              refine (HDN.out _ HB9x.out).mono ?_
              rintro e wn ⟨ak, asp, rfl, hta, hbn⟩
              have S10 := Lib.hid (S9.step hbn)
              have HB10 := Lib.hid (Below.step HB9x.out hbn)
              have zn := hbn.size
              have T1A := Lib.hid (hta.kept hbn)
              have HBB := Lib.hid (Nat.le_refl wr.heap.size)
              clear hbn hta
              dsimp only
              refine HK.out _ _ (fun _ => FC.out _ HB10.out) ?_
              have HS := FC.out _ HB10.out
              try simp only [Act.put, List.setIfInBounds_toArray, List.set_cons_zero, List.set_cons_succ]
              refine wpH.take (i := 10) (by kernel_rfl) (by kernel_rfl) (by kernel_rfl) (by kernel_rfl) (by kernel_rfl) HS ?_
              intro oi ho
              simp only [List.getElem?_toArray, List.getElem?_cons_succ, List.getElem?_cons_zero, Option.some.injEq] at ho
              subst ho
              refine ⟨?_, Or.inl ⟨by rfl, ?_⟩, fun _ _ _ h => h, ?_⟩
              rotate_left 1
              · intro W hW
                try dsimp only at hW
                go_simp
                try with_reducible rfl
              simp only [Act.put, List.setIfInBounds_toArray, List.set_cons_zero, List.set_cons_succ]
              refine wpH.take (i := 11) (by kernel_rfl) (by kernel_rfl) (by kernel_rfl) (by kernel_rfl) (by kernel_rfl) HS ?_
              intro oi ho
              simp only [List.getElem?_toArray, List.getElem?_cons_succ, List.getElem?_cons_zero, Option.some.injEq] at ho
              subst ho
              refine ⟨?_, Or.inl ⟨by rfl, ?_⟩, fun _ _ _ h => h, ?_⟩
              rotate_left 1
              · intro W hW
                try dsimp only at hW
                go_simp
                try with_reducible rfl
              simp only [Act.put, List.setIfInBounds_toArray, List.set_cons_zero, List.set_cons_succ]
              refine wpH.take (i := 12) (by kernel_rfl) (by kernel_rfl) (by kernel_rfl) (by kernel_rfl) (by kernel_rfl) HS ?_
              intro oi ho
              simp only [List.getElem?_toArray, List.getElem?_cons_succ, List.getElem?_cons_zero, Option.some.injEq] at ho
              subst ho
              refine ⟨?_, Or.inl ⟨by rfl, ?_⟩, fun _ _ _ h => h, ?_⟩
              rotate_left 1
              · intro W hW
                try dsimp only at hW
                go_simp
                try with_reducible rfl
              simp only [Act.put, List.setIfInBounds_toArray, List.set_cons_zero, List.set_cons_succ]
              refine wpH.one (i := 14) (by kernel_rfl) ?_
              intro oi ho
              simp only [List.getElem?_toArray, List.getElem?_cons_succ, List.getElem?_cons_zero, Option.some.injEq] at ho
              subst ho
              intro K' hK
              have HK := Lib.hid hK
              clear hK
              go_simp
              obtain ⟨⟨r0, r0f⟩, r1, r1f⟩ := S10.out.two 6
              have hl6 := S10.out.lt 6
              try go_simp
              have SF : St w ((wn.setCell ⟨wr.heap.size, 0, none⟩ (.int .i64 A.head)).setCell ⟨wr.heap.size, 1, none⟩ (.slice ak A.kids.length (A.kids.length + asp))) [.owns (pairE 100) w.heap.size (fun b => w.heap.size ≤ b ∧ b < s2) u4 N, .box b8 #[.int .i64 YL.head, .slice kl YL.kids.length (YL.kids.length + sl)] 38, .box b9 #[.int .i64 YR.head, .slice kr YR.kids.length (YR.kids.length + sr)] 38, .treeP (fun b => s0 ≤ b ∧ b < b9 + 1) (.agg #[.int .i64 YL.head, .slice kl YL.kids.length (YL.kids.length + sl)]) YL, .treeP (fun b => s0 ≤ b ∧ b < b9 + 1) (.agg #[.int .i64 YR.head, .slice kr YR.kids.length (YR.kids.length + sr)]) YR, .rowE intsE (fun b => s0 ≤ b ∧ b < s1) (some ⟨pb, poff, none⟩) (PL.map Prod.fst), .box wr.heap.size #[.int .i64 A.head, .slice ak A.kids.length (A.kids.length + asp)] 38] := S10.out.set2 6 rfl (.int .i64 A.head) (.slice ak A.kids.length (A.kids.length + asp)) (by have := HS0.out; have := HS1.out; have := HS2.out; have := HB8.out; have := HB9.out; have := HBB.out; omega) (OFF6.out wr.heap.size (by have := HS0.out; have := HS1.out; have := HS2.out; have := HB8.out; have := HB9.out; have := HBB.out; omega))
              have hoth : ∀ q : Nat, q ≠ wr.heap.size → ((wn.setCell ⟨wr.heap.size, 0, none⟩ (.int .i64 A.head)).setCell ⟨wr.heap.size, 1, none⟩ (.slice ak A.kids.length (A.kids.length + asp))).heap[q]? = wn.heap[q]? := fun q hq => (Below.heap_setCell _ _ _ _ hq).trans (Below.heap_setCell _ _ _ _ hq)
              have HTF := Lib.hid (show TreeP p ((wn.setCell ⟨wr.heap.size, 0, none⟩ (.int .i64 A.head)).setCell ⟨wr.heap.size, 1, none⟩ (.slice ak A.kids.length (A.kids.length + asp))) (.agg #[.int .i64 A.head, .slice ak A.kids.length (A.kids.length + asp)]) A from (T1A.out).carry (fun q hb hl => hoth q (by have h9 := HP.out q hb; have := HS0.out; have := HS1.out; have := HS2.out; have := HB8.out; have := HB9.out; have := HBB.out; omega)))
              have HCF := Lib.hid (show ((wn.setCell ⟨wr.heap.size, 0, none⟩ (.int .i64 A.head)).setCell ⟨wr.heap.size, 1, none⟩ (.slice ak A.kids.length (A.kids.length + asp))).cell? ⟨b, off + i * 4, none⟩ = some (.int .i64 X.1.head) ∧ ((wn.setCell ⟨wr.heap.size, 0, none⟩ (.int .i64 A.head)).setCell ⟨wr.heap.size, 1, none⟩ (.slice ak A.kids.length (A.kids.length + asp))).cell? ⟨b, off + i * 4 + 1, none⟩ = some (.slice kx1 X.1.kids.length (X.1.kids.length + sx1)) ∧ ((wn.setCell ⟨wr.heap.size, 0, none⟩ (.int .i64 A.head)).setCell ⟨wr.heap.size, 1, none⟩ (.slice ak A.kids.length (A.kids.length + asp))).cell? ⟨pb, poff + m, none⟩ = some (.slice atk at_.length (at_.length + ats)) from ⟨Below.cellOf SF.bel HXC.out.1, Below.cellOf SF.bel HXC.out.2.1, (World.cell?_of_block (w := wn) (hoth pb (by have := HPBL.out; have := HS0.out; have := HS1.out; have := HS2.out; have := HB8.out; have := HB9.out; have := HBB.out; omega))).trans HS.2.2⟩)
              have SF := Lib.hid SF
              clear HS
              refine HK.out _ _ (fun _ => HCF.out) ?_
              have HS := HCF.out
              try simp only [Act.put, List.setIfInBounds_toArray, List.set_cons_zero, List.set_cons_succ]
              refine wpH.one (i := 15) (by kernel_rfl) ?_
              intro oi ho
              simp only [List.getElem?_toArray, List.getElem?_cons_succ, List.getElem?_cons_zero, Option.some.injEq] at ho
              subst ho
              intro K' hK
              have HK := Lib.hid hK
              clear hK
              go_simp
              refine HK.out _ _ (fun _ => HS) ?_
              try simp only [Act.put, List.setIfInBounds_toArray, List.set_cons_zero, List.set_cons_succ]
              refine wpH.done (by kernel_rfl) ?_
              try go_wp2_with fail
              go_meet
              case rel => exact ⟨wr.heap.size, ak, asp, rfl, rfl, by have := HS2.out; omega, by simp; omega, SF.out, HTF.out⟩
          case rest =>
          obtain ⟨b13, ak, asp, ht13, ht14, hb13, zb13, S, hTA⟩ := hcut
          subst ht13
          subst ht14
          have HTA := Lib.hid hTA
          clear hTA
          have HB13 := Lib.hid (And.intro hb13 zb13)
          have hmt : ((X.1.most.toNat : Nat) : Int) = X.1.most := by have := HMO.out; omega
          have HAM := Lib.hid (show A.most ≤ (vN : Int) from Int.le_trans (most_preC X.1 A (by rw [← preP_snd X.1 []]; exact List.mem_map.2 ⟨_, HXM.out.1, rfl⟩)) HVN.out.1)
          have HSO := Lib.hid (show ShOk A YL vN by
            have h2 := HVN.out.2.1
            rw [HYL.out, ← hmt] at h2 ⊢
            exact sh_start HYZ.out.1 HAG.out X.1.most.toNat (by have := HMO.out; omega) HAM.out h2 HVN.out.2.2)
          have HPOK := Lib.hid (show PairOk X (YL, YR) A from ⟨HXZ.out.1, HXZ.out.2, HAG.out, ⟨X.1.most.toNat, Y.1, Y.2, by have := HMO.out; omega, HYZ.out.1, HYZ.out.2, by rw [HYL.out, HYR.out, hmt]⟩⟩)
          have HUN := Lib.hid (show uN A YL ≤ vN by
            have h1 := uN_eq A YL
            have h2 : mostL [A, YL] ≤ (vN : Int) := mostL_leC (by omega) HAM.out HVN.out.2.1
            omega)
          have HBAD := Lib.hid (show pairF X (YL, YR) at_ A = none → outerK rs rs.length = none from fun h0 => by
            have h1 := HTK.out none (by unfold nodeStep; dsimp only; rw [if_neg (by rintro (h | h); exact HNG.out h; exact HCN.out ⟨h.2, h.1⟩), h0])
            have h2 := nodesK_prefix (List.take_prefix (m + 1) PL) h1
            rw [HPK.out] at h2
            exact outerK_up (i := i + 1) (by rw [outerK, HXE.out, HKO.out]; exact innerK_up (k := k + 1) (by rw [innerK, HM.out, HYE.out]; unfold moveR; rw [← HYL.out, ← HYR.out, ← HSM.out]; exact h2) (by omega)) (by omega))
          have HSTEP := Lib.hid (show ∀ r, pairF X (YL, YR) at_ A = some r → nodesK X (YL, YR) sm (PL.take (m + 1)) (some M) = some (match r with | none => N | some q => N ++ [q]) from fun r h => HTK.out _ (by unfold nodeStep; dsimp only; rw [if_neg (by rintro (h | h); exact HNG.out h; exact HCN.out ⟨h.2, h.1⟩), h]; cases r <;> rfl))
          clear hb13 zb13 hmt
          obtain ⟨⟨a0, _⟩, a1, _⟩ := S.two 6
          obtain ⟨⟨c0, _⟩, c1, _⟩ := S.two 1
          go_wp2_with fail
          refine (mgu34 A YL vN _ _ wc (HTA.out.at) (S.treeP 3).at HSO.out.le HSO.out.mg HSO.out.nz HSO.out.sml).mono ?_
          rintro e w20 ⟨Ls, cm, ro2, rc2, rfl, HMA, hrow2, hb20⟩
          have HMP := mgu_pair HPOK.out HUN.out HMA at_
          have S20 := Lib.hid (S.step hb20)
          have HTA2 := Lib.hid (HTA.out.kept hb20)
          have HROW := Lib.hid hrow2
          have SN := Lib.hid ((S20.out.repl 0 (.owns (pairE 100) w.heap.size (fun b => w.heap.size ≤ b) u4 N) ((S20.out.owns (pairE 100) 0).weak (fun b (h : w.heap.size ≤ b ∧ b < s2) => h.1))).pick [0, 1, 2, 3, 4, 5])
          have z20 := Lib.hid (show s1 ≤ w20.heap.size by have := hb20.size; have := HB13.out; have := HS2.out; omega)
          clear S hb20 HMA hrow2 a0 a1 c0 c1
          rcases HMP with rfl | ⟨rfl, hp⟩ | ⟨rfl, hp⟩ | ⟨rfl, hl, hsz, tm1, tm2, hp⟩
          · have SE := Lib.hid S20.out.bel
            clear S20 SN
            go_wp2_with fail
            go_ret2
            exact ⟨[], 3, none, 0, rfl, .inl ⟨rfl, rfl⟩, Elt.Row.nil, SE.out⟩
          · have SE := Lib.hid S20.out.bel
            have HN := Lib.hid (HBAD.out hp)
            clear S20 SN hp
            go_wp2_with fail
            go_ret2
            exact ⟨[], 1, none, 0, rfl, .inr (.inl ⟨rfl, rfl, HN.out⟩), Elt.Row.nil, SE.out⟩
          · have HST := Lib.hid (HSTEP.out none hp)
            clear S20 hp
            go_wp2_with fail
            go_roundw
            case rel => exact ⟨m + 1, N, by omega, by go_num, HST, HNL2, HOW, z20.out, SN.out⟩
            case measure => simp [intOf] <;> omega
          · dsimp only at tm1 tm2 hp
            obtain ⟨pb2, poff2, atk2, ats2, e2, _, e0', hat', hatl'⟩ := (S20.out.rowE intsE 5).ints (i := m) (by simpa using hlt3)
            have e2' : pb = pb2 ∧ poff = poff2 := by simpa using e2
            obtain ⟨rfl, rfl⟩ := e2'
            clear e2
            have hx2 : (PL.map Prod.fst)[m]'(by simpa using hlt3) = at_ := HXE2.out
            rw [hx2] at e0' hat' hatl'
            have HE2 := Lib.hid e0'; have HAT2 := Lib.hid hat'; have HATL2 := Lib.hid hatl'
            clear e0' hat' hatl' hx2
            have HPF := Lib.hid hp
            have HTM := Lib.hid (And.intro tm1.size tm2.size)
            have HLS := Lib.hid (show Ls.length ≤ 1000 by have := HVN.out; omega)
            have HPS := Lib.hid (show (T.withAt at_ X.1 YR).low ∧ (T.withAt at_ X.1 YR).size ≤ 100000000 ∧ X.2.low ∧ X.2.size ≤ 100000000 from pair_small HPOK.out at_)
            have FC := Lib.hid (show w20.cell? ⟨b, off + i * 4, none⟩ = some (.int .i64 X.1.head) ∧ w20.cell? ⟨b, off + i * 4 + 1, none⟩ = some (.slice kx1 X.1.kids.length (X.1.kids.length + sx1)) ∧ w20.cell? ⟨b, off + i * 4 + 2, none⟩ = some (.int .i64 X.2.head) ∧ w20.cell? ⟨b, off + i * 4 + 3, none⟩ = some (.slice kx2 X.2.kids.length (X.2.kids.length + sx2)) ∧ w20.cell? ⟨pb, poff + m, none⟩ = some (.slice atk2 at_.length (at_.length + ats2)) ∧ w20.cell? ⟨b9, 0, none⟩ = some (.int .i64 YR.head) ∧ w20.cell? ⟨b9, 1, none⟩ = some (.slice kr YR.kids.length (YR.kids.length + sr)) from ⟨Below.cellOf S20.out.bel HXC.out.1, Below.cellOf S20.out.bel HXC.out.2.1, Below.cellOf S20.out.bel HXC.out.2.2.1, Below.cellOf S20.out.bel HXC.out.2.2.2, HE2.out, (S20.out.two 2).1.1, (S20.out.two 2).2.1⟩)
            have T1N := Lib.hid (show TreeN w20 kx1 sx1 X.1 from TreeP.mono (TreeP.kept S20.out.bel T1.out) (fun b h h2 => h2))
            have T2N := Lib.hid (show TreeN w20 kx2 sx2 X.2 from TreeP.mono (TreeP.kept S20.out.bel T2.out) (fun b h h2 => h2))
            have T3N := Lib.hid (show TreeN w20 kr sr YR from TreeP.mono (S20.out.treeP 4) (fun b h h2 => h2))
            have HATC := Lib.hid (rowInt_cells HAT2.out)
            have HOLT2 := Lib.hid (show ∀ c, u4.ownBlock = some c → w.heap.size ≤ c ∧ c < s2 from HOLT.out)
            have HZW := Lib.hid (show s2 ≤ w20.heap.size by have h1 := HB13.out.1; have h2 : b13 < w20.heap.size := S20.out.lt 6; omega)
            clear SN hp tm1 tm2 hsz HXE2 hl
            go_upto_region 26 with fail
            go_cut [17] (fun t17 W => ∃ (b17 nb no np : Nat) (n1 n2 : Option Addr) (m1 m2 : Nat), t17 = .pointer (some ⟨b17, 0, none⟩) ∧ w20.heap.size ≤ b17 ∧ b17 + 1 ≤ W.heap.size ∧ St w W [.owns (pairE 100) w.heap.size (fun b => w.heap.size ≤ b ∧ b < s2) u4 N, .box b8 #[.int .i64 YL.head, .slice kl YL.kids.length (YL.kids.length + sl)] 38, .box b9 #[.int .i64 YR.head, .slice kr YR.kids.length (YR.kids.length + sr)] 38, .treeP (fun b => s0 ≤ b ∧ b < b9 + 1) (.agg #[.int .i64 YL.head, .slice kl YL.kids.length (YL.kids.length + sl)]) YL, .treeP (fun b => s0 ≤ b ∧ b < b9 + 1) (.agg #[.int .i64 YR.head, .slice kr YR.kids.length (YR.kids.length + sr)]) YR, .rowE intsE (fun b => s0 ≤ b ∧ b < s1) (some ⟨pb, poff, none⟩) (PL.map Prod.fst), .box b17 #[.slice (some ⟨nb, no, none⟩) 1 (1 + np)] 41] ∧ NormN w20.heap.size W nb no n1 n2 m1 m2 (npair ((T.withAt at_ X.1 YR).sub Ls) (X.2.sub Ls)) b17)
            case first =>
              refine region26 w20 X.1 X.2 YR Ls at_ b off i pb poff m b9 _ _ _ _ Ls.length rc2 sx1 sx2 ats2 sr kx1 kx2 atk2 kr ro2 _ _ _ _ _ _ _ _ _ _ _ _ _ _ _ _ _ _ _ _ _ _ _ _ _ _ _ _ _ _ _ _ _ _ _ _ _ _ _ _ _ _ _ _ _ _ _ _ _ _ _ _ _ _ _ _ _ _ _ _ _ _ _ _ _ _ _ _ _ _ _ _ _ _ _ _ _ _ _ _ _ _ _ _ _ _ _ _ _ _ _ _ _ _ _ _ _ _ _ _ _ _ _ _ _ _ _ _ _ _ _ _ _ _ _ _ _ _ _ _ _ _ _ _ _ _ _ _ _ _ _ _ _ _ _ _ _ _ _ _ _ _ _ _ _ _ _ _ _ _ _ _ _ _ _ _ _ hlti hlti3 FC.out T1N.out T2N.out T3N.out (HROW.out.mono (fun b h h2 => h2)) HATC.out rfl HLS.out HPS.out (by have := HX.out.2; omega) HPB.out HTM.out _ ?hp ?_
              case hp => exact fun _ _ _ _ _ h => h
              intro W b17 nb no np n1 n2 m1 m2 hb17 hz17 SF HNF u106 u107 u108 u109 u110 u111 u112 u113 u114 u115 u116 u117 u118 u119 u120 u121 u122 u123 u124 u125 u126 u127 u128 u129
              have SW := Lib.hid ((S20.out.pick [0, 1, 2, 3, 4, 5]).step SF.bel)
              have SW2 := Lib.hid (SW.out.add (.box b17 #[.slice (some ⟨nb, no, none⟩) 1 (1 + np)] 41) (SF.block 0))
              clear SF SW
              try go_wp2_with fail
              go_meet
              case rel => exact ⟨b17, nb, no, np, n1, n2, m1, m2, rfl, hb17, hz17, SW2.out, HNF⟩
            case rest =>
            obtain ⟨b17, nb, no, np, n1, n2, m1, m2, rfl, hb17, hz17, S, hNF⟩ := hcut
            obtain ⟨R, hR⟩ : ∃ R, R = (npair ((T.withAt at_ X.1 YR).sub Ls) (X.2.sub Ls)) := ⟨_, rfl⟩
            rw [← hR] at hNF
            have HRS := Lib.hid (show R.1.size ≤ 1000000 ∧ R.2.size ≤ 1000000 from by rw [hR]; exact npair_size HTM.out)
            have HPR := Lib.hid (show pairF X (YL, YR) at_ A = if (treeF R.1).1 = 0 ∧ (treeF R.2).1 = 0 then some (some R) else none from by rw [hR]; exact HPF.out)
            have HNF := Lib.hid hNF
            clear hNF hR HPF HTM
            have HB17 := Lib.hid (show s2 ≤ b17 by have := HZW.out; omega)
            have hfld := field28_0
            have c17 := (S.one 6).1
            have d1 := HNF.out.2.2.1; have d2 := HNF.out.2.2.2.1
            go_wp2_with fail
            refine (tree18n R.1 _ wc HRS.out.1 HNF.out.2.2.2.2.2.2.1.at).mono ?_
            rintro e w21 ⟨xc, xd, rfl, HCX, hb21⟩
            have S21 := S.step hb21
            have HN21 := Lib.hid (HNF.out.kept hb21)
            have z21 := hb21.size
            clear S hb21 c17 d1 d2
            by_cases hc : xc = 0
            · have hcb : (xc != 0) = false := by simp [hc]
              have HX0 := Lib.hid (show (treeF R.1).1 = 0 by rw [HCX.out]; exact hc)
              have c17 := (S21.one 6).1
              have d3 := HN21.out.2.2.2.2.1; have d4 := HN21.out.2.2.2.2.2.1
              clear hc
              go_wp2_with fail
              refine (tree18n R.2 _ w21 HRS.out.2 HN21.out.2.2.2.2.2.2.2.at).mono ?_
              rintro e w22 ⟨yc, yd, rfl, HCY, hb22⟩
              have S22 := S21.step hb22
              have HN22 := Lib.hid (HN21.out.kept hb22)
              have z22 := hb22.size
              clear S21 hb22 c17 d3 d4 hcb
              by_cases hd : yc = 0
              · have hcb2 : (yc != 0) = false := by simp [hd]
                have HY0 := Lib.hid (show (treeF R.2).1 = 0 by rw [HCY.out]; exact hd)
                have HST := Lib.hid (HSTEP.out (some R) (by rw [HPR.out, if_pos ⟨HX0.out, HY0.out⟩]))
                clear hd
                go_upto_region 29 with fail
                have S23 := Lib.hid S22.drew
                have HN23 := Lib.hid (HN22.out.kept (Below.refl _ w22).drew)
                have HOLT2 := Lib.hid (show ∀ c, u4.ownBlock = some c → w.heap.size ≤ c ∧ c < s2 from HOLT.out)
                have HNE := Lib.hid (show N.length ≤ 40000 from by have h1 := nodesK_len HN.out; have h2 := HKL.out; have h3 := innerK_len HM.out; have h4 := HX.out.2; have h5 : k * X.1.size ≤ 30 * 40 := Nat.mul_le_mul (by have := HNL30.out; omega) h4; have h6 := HPLN.out; rw [List.length_take] at h1; omega)
                have HZ22 := Lib.hid (show s2 ≤ w22.heap.size ∧ b17 + 1 ≤ w22.heap.size from by have := HZW.out; have := HB17.out; omega)
                clear S22
                refine wpH_region [13, 14] (fun W => W.cell? ⟨b17, 0, none⟩ = some (.slice (some ⟨nb, no, none⟩) 1 (1 + np)) ∧ W.cell? ⟨nb, no + 1, none⟩ = some (.int .i64 R.1.head) ∧ W.cell? ⟨nb, no + 2, none⟩ = some (.slice n1 R.1.kids.length (R.1.kids.length + m1)) ∧ W.cell? ⟨nb, no + 3, none⟩ = some (.int .i64 R.2.head) ∧ W.cell? ⟨nb, no + 4, none⟩ = some (.slice n2 R.2.kids.length (R.2.kids.length + m2))) (by kernel_rfl) ?_
                have HS := (show w22.drew.cell? ⟨b17, 0, none⟩ = some (.slice (some ⟨nb, no, none⟩) 1 (1 + np)) ∧ w22.drew.cell? ⟨nb, no + 1, none⟩ = some (.int .i64 R.1.head) ∧ w22.drew.cell? ⟨nb, no + 2, none⟩ = some (.slice n1 R.1.kids.length (R.1.kids.length + m1)) ∧ w22.drew.cell? ⟨nb, no + 3, none⟩ = some (.int .i64 R.2.head) ∧ w22.drew.cell? ⟨nb, no + 4, none⟩ = some (.slice n2 R.2.kids.length (R.2.kids.length + m2)) from ⟨(S23.out.one 6).1, HN23.out.2.2.1, HN23.out.2.2.2.1, HN23.out.2.2.2.2.1, HN23.out.2.2.2.2.2.1⟩)
                refine wpH.take (i := 0) (by kernel_rfl) (by kernel_rfl) (by kernel_rfl) (by kernel_rfl) (by kernel_rfl) HS ?_
                intro oi ho
                simp only [List.getElem?_toArray, List.getElem?_cons_zero, Option.some.injEq] at ho
                subst ho
                refine ⟨?_, Or.inl ⟨by rfl, ?_⟩, fun _ _ _ h => h, ?_⟩
                rotate_left 1
                · intro W hW
                  try dsimp only at hW
                  go_simp
                  try with_reducible rfl
                simp only [Act.put, List.setIfInBounds_toArray, List.set_cons_zero, List.set_cons_succ]
                refine wpH.take (i := 1) (by kernel_rfl) (by kernel_rfl) (by kernel_rfl) (by kernel_rfl) (by kernel_rfl) HS ?_
                intro oi ho
                simp only [List.getElem?_toArray, List.getElem?_cons_succ, List.getElem?_cons_zero, Option.some.injEq] at ho
                subst ho
                refine ⟨?_, Or.inl ⟨by rfl, ?_⟩, fun _ _ _ h => h, ?_⟩
                rotate_left 1
                · intro W hW
                  try dsimp only at hW
                  go_simp
                  try with_reducible rfl
                simp only [Act.put, List.setIfInBounds_toArray, List.set_cons_zero, List.set_cons_succ]
                refine wpH.take (i := 2) (by kernel_rfl) (by kernel_rfl) (by kernel_rfl) (by kernel_rfl) (by kernel_rfl) HS ?_
                intro oi ho
                simp only [List.getElem?_toArray, List.getElem?_cons_succ, List.getElem?_cons_zero, Option.some.injEq] at ho
                subst ho
                refine ⟨?_, Or.inl ⟨by rfl, ?_⟩, fun _ _ _ h => h, ?_⟩
                rotate_left 1
                · intro W hW
                  try dsimp only at hW
                  go_simp
                  try with_reducible rfl
                simp only [Act.put, List.setIfInBounds_toArray, List.set_cons_zero, List.set_cons_succ]
                refine wpH.take (i := 3) (by kernel_rfl) (by kernel_rfl) (by kernel_rfl) (by kernel_rfl) (by kernel_rfl) HS ?_
                intro oi ho
                simp only [List.getElem?_toArray, List.getElem?_cons_succ, List.getElem?_cons_zero, Option.some.injEq] at ho
                subst ho
                refine ⟨?_, Or.inl ⟨by rfl, ?_⟩, fun _ _ _ h => h, ?_⟩
                rotate_left 1
                · intro W hW
                  try dsimp only at hW
                  go_simp
                  try with_reducible rfl
                simp only [Act.put, List.setIfInBounds_toArray, List.set_cons_zero, List.set_cons_succ]
                refine wpH.take (i := 4) (by kernel_rfl) (by kernel_rfl) (by kernel_rfl) (by kernel_rfl) (by kernel_rfl) HS ?_
                intro oi ho
                simp only [List.getElem?_toArray, List.getElem?_cons_succ, List.getElem?_cons_zero, Option.some.injEq] at ho
                subst ho
                refine ⟨?_, Or.inl ⟨by rfl, ?_⟩, fun _ _ _ h => h, ?_⟩
                rotate_left 1
                · intro W hW
                  try dsimp only at hW
                  go_simp
                  try with_reducible rfl
                simp only [Act.put, List.setIfInBounds_toArray, List.set_cons_zero, List.set_cons_succ]
                refine wpH.take (i := 5) (by kernel_rfl) (by kernel_rfl) (by kernel_rfl) (by kernel_rfl) (by kernel_rfl) HS ?_
                intro oi ho
                simp only [List.getElem?_toArray, List.getElem?_cons_succ, List.getElem?_cons_zero, Option.some.injEq] at ho
                subst ho
                refine ⟨?_, Or.inl ⟨by rfl, ?_⟩, fun _ _ _ h => h, ?_⟩
                rotate_left 1
                · intro W hW
                  try dsimp only at hW
                  go_simp
                  try with_reducible rfl
                simp only [Act.put, List.setIfInBounds_toArray, List.set_cons_zero, List.set_cons_succ]
                refine wpH.take (i := 6) (by kernel_rfl) (by kernel_rfl) (by kernel_rfl) (by kernel_rfl) (by kernel_rfl) HS ?_
                intro oi ho
                simp only [List.getElem?_toArray, List.getElem?_cons_succ, List.getElem?_cons_zero, Option.some.injEq] at ho
                subst ho
                refine ⟨?_, Or.inl ⟨by rfl, ?_⟩, fun _ _ _ h => h, ?_⟩
                rotate_left 1
                · intro W hW
                  try dsimp only at hW
                  go_simp
                  try with_reducible rfl
                simp only [Act.put, List.setIfInBounds_toArray, List.set_cons_zero, List.set_cons_succ]
                refine wpH.take (i := 7) (by kernel_rfl) (by kernel_rfl) (by kernel_rfl) (by kernel_rfl) (by kernel_rfl) HS ?_
                intro oi ho
                simp only [List.getElem?_toArray, List.getElem?_cons_succ, List.getElem?_cons_zero, Option.some.injEq] at ho
                subst ho
                refine ⟨?_, Or.inl ⟨by rfl, ?_⟩, fun _ _ _ h => h, ?_⟩
                rotate_left 1
                · intro W hW
                  try dsimp only at hW
                  go_simp
                  try with_reducible rfl
                simp only [Act.put, List.setIfInBounds_toArray, List.set_cons_zero, List.set_cons_succ]
                refine wpH.take (i := 8) (by kernel_rfl) (by kernel_rfl) (by kernel_rfl) (by kernel_rfl) (by kernel_rfl) HS ?_
                intro oi ho
                simp only [List.getElem?_toArray, List.getElem?_cons_succ, List.getElem?_cons_zero, Option.some.injEq] at ho
                subst ho
                refine ⟨?_, Or.inl ⟨by rfl, ?_⟩, fun _ _ _ h => h, ?_⟩
                rotate_left 1
                · intro W hW
                  try dsimp only at hW
                  go_simp
                  try with_reducible rfl
                simp only [Act.put, List.setIfInBounds_toArray, List.set_cons_zero, List.set_cons_succ]
                refine wpH.take (i := 9) (by kernel_rfl) (by kernel_rfl) (by kernel_rfl) (by kernel_rfl) (by kernel_rfl) HS ?_
                intro oi ho
                simp only [List.getElem?_toArray, List.getElem?_cons_succ, List.getElem?_cons_zero, Option.some.injEq] at ho
                subst ho
                refine ⟨?_, Or.inl ⟨by rfl, ?_⟩, fun _ _ _ h => h, ?_⟩
                rotate_left 1
                · intro W hW
                  try dsimp only at hW
                  go_simp
                  try with_reducible rfl
                simp only [Act.put, List.setIfInBounds_toArray, List.set_cons_zero, List.set_cons_succ]
                refine wpH.take (i := 10) (by kernel_rfl) (by kernel_rfl) (by kernel_rfl) (by kernel_rfl) (by kernel_rfl) HS ?_
                intro oi ho
                simp only [List.getElem?_toArray, List.getElem?_cons_succ, List.getElem?_cons_zero, Option.some.injEq] at ho
                subst ho
                refine ⟨?_, Or.inl ⟨by rfl, ?_⟩, fun _ _ _ h => h, ?_⟩
                rotate_left 1
                · intro W hW
                  try dsimp only at hW
                  go_simp
                  try with_reducible rfl
                simp only [Act.put, List.setIfInBounds_toArray, List.set_cons_zero, List.set_cons_succ]
                refine wpH.take (i := 11) (by kernel_rfl) (by kernel_rfl) (by kernel_rfl) (by kernel_rfl) (by kernel_rfl) HS ?_
                intro oi ho
                simp only [List.getElem?_toArray, List.getElem?_cons_succ, List.getElem?_cons_zero, Option.some.injEq] at ho
                subst ho
                refine ⟨?_, Or.inl ⟨by rfl, ?_⟩, fun _ _ _ h => h, ?_⟩
                rotate_left 1
                · intro W hW
                  try dsimp only at hW
                  go_simp
                  try with_reducible rfl
                simp only [Act.put, List.setIfInBounds_toArray, List.set_cons_zero, List.set_cons_succ]
                refine wpH.one (i := 12) (by kernel_rfl) ?_
                intro oi ho
                simp only [List.getElem?_toArray, List.getElem?_cons_succ, List.getElem?_cons_zero, Option.some.injEq] at ho
                subst ho
                intro K' hK
                have HK := Lib.hid hK
                clear hK
                go_simp
                have HA := Lib.hid (show (w22.drew.alloc (.cells #[.int .i64 R.1.head, .slice n1 R.1.kids.length (R.1.kids.length + m1), .int .i64 R.2.head, .slice n2 R.2.kids.length (R.2.kids.length + m2)] 100)).cell? ⟨b17, 0, none⟩ = some (.slice (some ⟨nb, no, none⟩) 1 (1 + np)) ∧ (w22.drew.alloc (.cells #[.int .i64 R.1.head, .slice n1 R.1.kids.length (R.1.kids.length + m1), .int .i64 R.2.head, .slice n2 R.2.kids.length (R.2.kids.length + m2)] 100)).cell? ⟨nb, no + 1, none⟩ = some (.int .i64 R.1.head) ∧ (w22.drew.alloc (.cells #[.int .i64 R.1.head, .slice n1 R.1.kids.length (R.1.kids.length + m1), .int .i64 R.2.head, .slice n2 R.2.kids.length (R.2.kids.length + m2)] 100)).cell? ⟨nb, no + 2, none⟩ = some (.slice n1 R.1.kids.length (R.1.kids.length + m1)) ∧ (w22.drew.alloc (.cells #[.int .i64 R.1.head, .slice n1 R.1.kids.length (R.1.kids.length + m1), .int .i64 R.2.head, .slice n2 R.2.kids.length (R.2.kids.length + m2)] 100)).cell? ⟨nb, no + 3, none⟩ = some (.int .i64 R.2.head) ∧ (w22.drew.alloc (.cells #[.int .i64 R.1.head, .slice n1 R.1.kids.length (R.1.kids.length + m1), .int .i64 R.2.head, .slice n2 R.2.kids.length (R.2.kids.length + m2)] 100)).cell? ⟨nb, no + 4, none⟩ = some (.slice n2 R.2.kids.length (R.2.kids.length + m2)) from (fun hb => ⟨Below.cellOf hb HS.1, Below.cellOf hb HS.2.1, Below.cellOf hb HS.2.2.1, Below.cellOf hb HS.2.2.2.1, Below.cellOf hb HS.2.2.2.2⟩) ((Below.refl w22.drew.heap.size w22.drew).alloc (Nat.le_refl _) (.cells #[.int .i64 R.1.head, .slice n1 R.1.kids.length (R.1.kids.length + m1), .int .i64 R.2.head, .slice n2 R.2.kids.length (R.2.kids.length + m2)] 100)))
                clear HS
                refine HK.out _ _ (fun _ => HA.out) ?_
                have HS := HA.out
                try simp only [Act.put, List.setIfInBounds_toArray, List.set_cons_zero, List.set_cons_succ]
                refine wpH.one (i := 13) (by kernel_rfl) ?_
                intro oi ho
                simp only [List.getElem?_toArray, List.getElem?_cons_succ, List.getElem?_cons_zero, Option.some.injEq] at ho
                subst ho
                intro K' hK
                have HK := Lib.hid hK
                clear hK
                rw [if_pos (by rfl)]
                rw [show ((w22.alloc (.cells #[.int .i64 R.1.head, .slice n1 R.1.kids.length (R.1.kids.length + m1), .int .i64 R.2.head, .slice n2 R.2.kids.length (R.2.kids.length + m2)] 100)).drew) = (w22.drew.alloc (.cells #[.int .i64 R.1.head, .slice n1 R.1.kids.length (R.1.kids.length + m1), .int .i64 R.2.head, .slice n2 R.2.kids.length (R.2.kids.length + m2)] 100)) from rfl]
                refine wp_app1 (.tmp 148) (.tmp 160) 95 rfl (pairE 100) S23.out 0 rfl (x := R) (q := fun b => s2 ≤ b) (p' := fun b => w.heap.size ≤ b) (fun e => HNL2.out e) ⟨n1, m1, n2, m2, rfl, HN23.out.2.2.2.2.2.2.1.mono (fun b h _ => by have := HZW.out; have := h.1; omega), HN23.out.2.2.2.2.2.2.2.mono (fun b h _ => by have := HZW.out; have := h.1; omega)⟩ Try.underlying95 gi gz0 gz1 gz2 rfl rfl rfl rfl (by have := HNE.out; unfold maxLen; omega) (by have := HNE.out; omega) (by have := HZ22.out; have := HS0.out; have := HS2.out; have := HS1.out; have := HB8.out; have := HB9.out; simp; omega) (Nat.le_refl _) ?c5 (fun b h e => by have := (HOLT2.out b e).2; omega) (fun b h => by rcases h with h | h; exact h.1; (have := HS0.out; have := HS2.out; have := HS1.out; have := HB8.out; have := HB9.out; omega)) ?_
                case c5 =>
                  intro bb e1 e2 e3
                  have h0 := HOLT2.out bb e1; have h1 := HS0.out; have h2 := HS1.out; have h3 := HS2.out; have h4 := HB8.out; have h5 := HB9.out; have h6 := HB17.out; have h7 := HOW.out bb e1
                  simp only [offs, offAll, Fct.box, Fct.treeP, Fct.rowE, and_true]
                  refine ⟨by omega, by omega, by omega, by omega, by omega, by omega⟩
                intro gg cap w23 S24 hs24 hgg hat hsm hgr
                have HOW3 := Lib.hid (show ∀ c, (Value.slice (some ⟨gg, 0, none⟩) (N.length + 1) cap).ownBlock = some c → c < s0 ∨ s1 ≤ c from fun c hc => by
                  have hcg : c = gg := by simpa [Value.ownBlock] using hc.symm
                  subst hcg
                  rcases hat with h | h
                  · exact HOW.out _ h
                  · right; have := HZ22.out; have := HS2.out; simp at h; omega)
                have S25 := Lib.hid (S24.pick [0, 1, 2, 3, 4, 5])
                have zF := Lib.hid (show s1 ≤ w23.heap.size from by have := HZ22.out; have := HS2.out; simp at hs24; omega)
                clear hsm hgr hat
                refine HK.out _ _ (fun h => absurd h (by decide)) ?_
                try simp only [Act.put, List.setIfInBounds_toArray, List.set_cons_zero, List.set_cons_succ]
                refine wpH.one (i := 14) (by kernel_rfl) ?_
                intro oi ho
                simp only [List.getElem?_toArray, List.getElem?_cons_succ, List.getElem?_cons_zero, Option.some.injEq] at ho
                subst ho
                intro K' hK
                have HK := Lib.hid hK
                clear hK
                go_simp
                refine HK.out _ _ (fun h => absurd h (by decide)) ?_
                try simp only [Act.put, List.setIfInBounds_toArray, List.set_cons_zero, List.set_cons_succ]
                refine wpH.done (by kernel_rfl) ?_
                try go_wp2_with fail
                go_roundw
                case rel => exact ⟨m + 1, N ++ [R], by omega, by go_num, HST, Lib.hid (fun h => absurd h (by simp)), HOW3, zF.out, S25.out⟩
                case measure => simp [intOf] <;> omega
              · have hcb2 : (yc != 0) = true := by simpa using hd
                have HN := Lib.hid (HBAD.out (by rw [HPR.out]; exact if_neg fun h => hd (by have h2 := h.2; rw [HCY.out] at h2; exact h2)))
                have SE := Lib.hid S22.bel
                clear S22 hd
                go_wp2_with fail
                go_ret2
                exact ⟨[], 1, none, 0, rfl, .inr (.inl ⟨rfl, rfl, HN.out⟩), Elt.Row.nil, SE.out⟩
            · have hcb : (xc != 0) = true := by simpa using hc
              have HN := Lib.hid (HBAD.out (by rw [HPR.out]; exact if_neg fun h => hc (by have h1 := h.1; rw [HCX.out] at h1; exact h1)))
              have SE := Lib.hid S21.bel
              clear S21 hc
              go_wp2_with fail
              go_ret2
              exact ⟨[], 1, none, 0, rfl, .inr (.inl ⟨rfl, rfl, HN.out⟩), Elt.Row.nil, SE.out⟩
end Go.Proofs.Ytlhnfdjidjgfgaa
