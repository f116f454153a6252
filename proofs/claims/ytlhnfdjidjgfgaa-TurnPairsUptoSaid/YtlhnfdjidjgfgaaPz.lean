/-
  Walk: turn.Pairs.
-/
import Derived.Test.YtlhnfdjidjgfgaaProg
import Derived.Test.YtlhnfdjidjgfgaaPr
import Derived.Test.YtlhnfdjidjgfgaaPa2
import Derived.Test.YtlhnfdjidjgfgaaNq
import Derived.Test.YtlhnfdjidjgfgaaCa
import Derived.Test.YtlhnfdjidjgfgaaCq
import Derived.Test.YtlhnfdjidjgfgaaSh
import Derived.Test.YtlhnfdjidjgfgaaR2
import Derived.Deep.CutBlock
import Derived.Deep.DeepCutAuto
import Derived.RegionTactic
import Derived.OwnWalkIn
namespace Go.Proofs.Ytlhnfdjidjgfgaa
open Go.RowKit Go.Shelf
set_option linter.unusedVariables false
set_option maxHeartbeats 400000
attribute [local go_sem] Oper.semAt_some

/-- what Pairs answers -/
def PairsP (q : Nat → Prop) (r : List Ru × (Int × Int)) (w : World) (e : Ending) (w' : World) : Prop :=
  ∃ ro sp, e = .returned (.tuple #[.slice ro r.1.length (r.1.length + sp), FV r.2]) ∧ (pairE 100).Row (fun b => w.heap.size ≤ b) w' ro r.1 ∧ Below w.heap.size w w'

theorem infoP100 : (Try.prog.info? 100).map (fun i => (i.zero, i.size, i.bytes)) = some (some (.agg #[.int .i64 0, .slice none 0 0, .int .i64 0, .slice none 0 0]), 4, 64) := by kernel_rfl

set_option maxRecDepth 100000 in
set_option maxHeartbeats 8000000 in
theorem pairs53 (rs : List Ru) (p : Nat → Prop) (ro : Option Addr) (rc : Nat) (w : World) (hp : ∀ b, p b → b < w.heap.size) (h : ruleE.Row p w ro rs) (hn : rs.length ≤ 1000000000) :
    Calls Try.prog 53 #[.slice ro rs.length rc] w (PairsP p (pairsF rs) w) := by
  have HP := Lib.hid hp; have HR := Lib.hid h
  obtain ⟨i100, gi, gz0, gz1, gz2⟩ := info_parts infoP100
  obtain ⟨bx, hbx⟩ : ∃ b, b = w.heap.size := ⟨_, rfl⟩
  have S1 := ((St.start w).box hbx.symm #[.slice none 0 0] 95).box (b := bx + 1) (by simp [hbx]) #[.int .i64 0, .int .i64 0] 29
  have hsz1 : ((w.alloc (.cells #[.slice none 0 0] 95)).alloc (.cells #[.int .i64 0, .int .i64 0] 29)).heap.size = bx + 2 := by simp [hbx]
  clear h hp
  refine (callsIn_wide (n := 4)).1 ?_
  refine callsIn_of_wp_marks Try.func53 rfl trivial ?_ rfl
  simp only [Try.ntmps53, List.size_toArray, List.length_cons, List.length_nil, Nat.reduceAdd, Nat.reduceSub, Array.replicate_succ, Array.replicate_zero, List.push_toArray, List.append_toArray, List.nil_append, List.cons_append]
  refine wpIn_wide.2 ?_
  go_wp2_with fail
  rw [← hbx]
  refine S1.gen (z := bx + 2) (by omega) ?_
  clear S1 hsz1
  intro w1 z1 S
  have HBX := Lib.hid (show w.heap.size ≤ bx ∧ bx ≤ w.heap.size by omega)
  clear hbx
  refine (S.faultF (rules44 rs p ro rc w1 (HR.out.kept S.bel) hn)).mono ?_
  rintro e w2 ⟨C, D, rfl, HCD, z2, S2⟩
  obtain ⟨b4, hb4⟩ : ∃ b, b = w2.heap.size := ⟨_, rfl⟩
  have S3 := S2.box hb4.symm #[.int .i64 C, .int .i64 D] 29
  have hsz3 : (w2.alloc (.cells #[.int .i64 C, .int .i64 D] 29)).heap.size = b4 + 1 := by simp [hb4]
  have HB4 := Lib.hid (show bx + 2 ≤ b4 by omega)
  clear S S2
  obtain ⟨⟨y0, y1⟩, y2, y3⟩ := S3.two 1
  obtain ⟨x0, x1⟩ := S3.one 0
  have hl0 := S3.lt 0
  have hl1 := S3.lt 1
  by_cases hC : C = 0
  case neg =>
    have hcb : (C != 0) = true := by simp [hC]
    have HF := Lib.hid (show pairsF rs = ([], (C, D)) by unfold pairsF; rw [if_pos (by rw [HCD.out]; exact hC), HCD.out])
    have SB := Lib.hid (((S3.drew.set1 0 rfl (.slice none 0 0) (by have := HBX.out; omega) (by simp only [fsnoc, offs, offAll, Fct.box, and_true]; omega)).set2 1 rfl (.int .i64 C) (.int .i64 D) (by have := HBX.out; omega) (by simp only [fset, fsnoc, offs, offAll, Fct.box, and_true]; omega)))
    have RS := Lib.hid (And.intro (SB.out.block 0) (SB.out.block 1))
    have RSB := Lib.hid SB.out.bel
    have RS0 := Lib.hid SB.out.size
    clear S3 hC
    go_wp2_with fail
    go_region
    all_goals go_wp2_with fail
    all_goals
      refine retM_12 [] (.slice none 0 0) (.int .i64 C) (.int .i64 D) bx (bx + 1) 95 29 (RS.out.1) (RS.out.2) (Marks.nil w.heap.size _) RS0.out (fun w' q0 q1 q2 => by simp [results, Try.results53, go_sem, q0, q1, q2]) ?_
      intro w' hb' _ _
      rw [HF.out]
      exact ⟨none, 0, rfl, fun i x hi => by simp at hi, RSB.out.trans hb'⟩
  case pos =>
  subst hC
  have HZ := Lib.hid (rulesF_zero (show (rulesF rs).1 = 0 by rw [HCD.out]))
  have hrn : rs.length ≤ 30 := HZ.out.1
  have S4 := S3.box (b := b4 + 1) (by simp [hb4]) #[.slice none 0 0] 95
  have hsz4 : b4 + 2 ≤ ((w2.alloc (.cells #[.int .i64 0, .int .i64 D] 29)).alloc (.cells #[.slice none 0 0] 95)).heap.size := by simp [hb4]
  obtain ⟨⟨q0, _⟩, q1, _⟩ := S3.two 2
  clear S3 hsz3
  go_wp2_with fail
  rw [← hb4]
  refine S4.genC (z := b4 + 2) hsz4 ?_
  clear S4 hb4 hsz4 y0 y1 y2 y3 x0 x1 hl0 hl1 q0 q1
  intro w5 z5 S
  have S6 : St w w5 [.box bx #[.slice none 0 0] 95, .box (bx + 1) #[.int .i64 0, .int .i64 0] 29, .box (b4 + 1) #[(.slice none 0 0)] 95, .owns (pairE 100) (b4 + 2) (fun b => b4 + 2 ≤ b) (.slice none 0 0) [], .marks w.heap.size []] := ((S.pick [0, 1, 3]).add (.owns (pairE 100) (b4 + 2) (fun b => b4 + 2 ≤ b) (.slice none 0 0) []) (Elt.Own.nil _ _ _ _)).add (.marks w.heap.size []) (Marks.nil _ _)
  have HPF := Lib.hid (show (outerK rs rs.length = none → pairsF rs = ([], (10, 0))) ∧ ∀ K, outerK rs rs.length = some K → pairsF rs = (K, (0, 0)) from ⟨fun e => by unfold pairsF; rw [if_neg (by rw [HCD.out]; simp), e], fun K e => by unfold pairsF; rw [if_neg (by rw [HCD.out]; simp), e]⟩)
  have hrn' : rs.length ≤ 9223372036854775807 := by omega
  refine wp_loop (fun a W => ∃ (i : Nat) (ds : List Nat) (K : List Ru) (ov z6 z7 z8 z9 z10 z25 z26 z27 z28 z29 z30 z31 z32 z33 z34 z35 z36 z37 z38 z39 z40 z41 z42 z43 z44 z45 z46 z47 z48 z49 z50 z51 z84 z85 : Value), i ≤ rs.length ∧ a = { tmps := #[.slice ro rs.length rc, undef, .pointer (some ⟨bx, 0, none⟩), .pointer (some ⟨bx + 1, 0, none⟩), .pointer (some ⟨b4, 0, none⟩), .pointer (some ⟨b4 + 1, 0, none⟩), z6, z7, z8, z9, z10, undef, undef, undef, undef, undef, .slice ro rs.length rc, .agg #[.int .i64 0, .int .i64 D], .pointer (some ⟨b4, 0, none⟩), .int .i64 0, .bool false, undef, .slice ro rs.length rc, .int .i64 (rs.length : Int), .int .i64 (i : Int), z25, z26, z27, z28, z29, z30, z31, z32, z33, z34, z35, z36, z37, z38, z39, z40, z41, z42, z43, z44, z45, z46, z47, z48, z49, z50, z51, undef, undef, undef, undef, undef, undef, undef, undef, undef, undef, undef, undef, undef, undef, undef, undef, undef, undef, undef, undef, undef, undef, undef, undef, undef, undef, undef, undef, undef, undef, undef, undef, z84, z85, undef, undef], defers := ds.map mark } ∧ Hid (outerK rs i = some K) ∧ Hid (K = [] → ov = .slice none 0 0) ∧ b4 + 2 ≤ W.heap.size ∧ St w W [.box bx #[.slice none 0 0] 95, .box (bx + 1) #[.int .i64 0, .int .i64 0] 29, .box (b4 + 1) #[ov] 95, .owns (pairE 100) (b4 + 2) (fun b => b4 + 2 ≤ b) ov K, .marks w.heap.size ds]) (fun a _ => rs.length - (intOf (a.tmps.getD 24 undef)).toNat) ?start ?round
  case start => exact ⟨0, [], [], _, _, _, _, _, _, _, _, _, _, _, _, _, _, _, _, _, _, _, _, _, _, _, _, _, _, _, _, _, _, _, _, _, _, _, by omega, rfl, Lib.hid rfl, Lib.hid (fun _ => rfl), z5, S6⟩
  case round =>
    clear S S6 z5 w5
    rintro a W ⟨i, ds, K, ov, z6, z7, z8, z9, z10, z25, z26, z27, z28, z29, z30, z31, z32, z33, z34, z35, z36, z37, z38, z39, z40, z41, z42, z43, z44, z45, z46, z47, z48, z49, z50, z51, z84, z85, hi, rfl, HKO, HNL, zW, S⟩
    by_cases hlt : i < rs.length
    · have hlti : (i : Int) < (rs.length : Int) := by omega
      obtain ⟨b, off, kx1, sx1, kx2, sx2, rfl, _, c0', c1', c2', c3', t1, t2⟩ := HR.out.rule hlt
      have c0 := Below.cellOf S.bel c0'; have c1 := Below.cellOf S.bel c1'; have c2 := Below.cellOf S.bel c2'; have c3 := Below.cellOf S.bel c3'
      have HXZ := Lib.hid (HZ.out.2 _ (List.getElem_mem hlt))
      obtain ⟨X, hX⟩ : ∃ X, X = rs[i] := ⟨_, rfl⟩
      have HXE := Lib.hid (show gR rs i = X by rw [gR_get hlt, hX])
      rw [← hX] at c0 c1 c2 c3 t1 t2 HXZ
      have T1 := Lib.hid t1; have T2 := Lib.hid t2
      obtain ⟨bi, hbi⟩ : ∃ b, b = W.heap.size := ⟨_, rfl⟩
      have S2 := (S.box hbi.symm #[.int .i64 (i : Int)] 3).box (b := bi + 1) (by simp [hbi]) #[.int .i64 X.1.head, .slice kx1 X.1.kids.length (X.1.kids.length + sx1), .int .i64 X.2.head, .slice kx2 X.2.kids.length (X.2.kids.length + sx2)] 134
      have hsz2 : bi + 2 ≤ ((W.alloc (.cells #[.int .i64 (i : Int)] 3)).alloc (.cells #[.int .i64 X.1.head, .slice kx1 X.1.kids.length (X.1.kids.length + sx1), .int .i64 X.2.head, .slice kx2 X.2.kids.length (X.2.kids.length + sx2)] 134)).heap.size := by simp [hbi]
      have HBI := Lib.hid (show b4 + 2 ≤ bi by omega)
      clear S hX t1 t2 c0' c1' c2' c3' zW
      go_wp2_with fail
      rw [← hbi]
      refine S2.genC (z := bi + 2) hsz2 ?_
      clear S2 hbi hsz2 c0 c1 c2 c3
      intro w6 z6w S
      have Si : St w w6 [.box bx #[.slice none 0 0] 95, .box (bx + 1) #[.int .i64 0, .int .i64 0] 29, .box (b4 + 1) #[ov] 95, .owns (pairE 100) (b4 + 2) (fun b => b4 + 2 ≤ b) ov K, .marks w.heap.size ds, .box bi #[.int .i64 (i : Int)] 3, .box (bi + 1) #[.int .i64 X.1.head, .slice kx1 X.1.kids.length (X.1.kids.length + sx1), .int .i64 X.2.head, .slice kx2 X.2.kids.length (X.2.kids.length + sx2)] 134] := S
      have HX := Lib.hid (ok_okg HXZ.out.1)
      have HMO := Lib.hid (show 0 ≤ X.1.most ∧ X.1.most ≤ 8 from ⟨X.1.most_nonneg, most_le X.1 (ok_parts HXZ.out.1).1⟩)
      have HKL := Lib.hid (show K.length ≤ 36000 by
        have h1 := outerK_len (fun f hf => (ok_parts (HZ.out.2 f hf).1).2.1) hi HKO.out
        have h2 : i * (rs.length * 40) ≤ 30 * 1200 := Nat.mul_le_mul (by omega) (by omega)
        omega)
      refine wp_loop (fun a W => ∃ (k : Nat) (ds2 : List Nat) (M : List Ru) (ov2 y8 y9 y10 y32 y33 y34 y35 y36 y37 y38 y39 y40 y41 y42 y43 y44 y45 y46 y47 y48 y49 y50 y51 y84 : Value), k ≤ rs.length ∧ a = { tmps := #[.slice (some ⟨b, off, none⟩) rs.length rc, undef, .pointer (some ⟨bx, 0, none⟩), .pointer (some ⟨bx + 1, 0, none⟩), .pointer (some ⟨b4, 0, none⟩), .pointer (some ⟨b4 + 1, 0, none⟩), .pointer (some ⟨bi, 0, none⟩), .pointer (some ⟨bi + 1, 0, none⟩), y8, y9, y10, undef, undef, undef, undef, undef, .slice (some ⟨b, off, none⟩) rs.length rc, .agg #[.int .i64 0, .int .i64 D], .pointer (some ⟨b4, 0, none⟩), .int .i64 0, .bool false, undef, .slice (some ⟨b, off, none⟩) rs.length rc, .int .i64 (rs.length : Int), .int .i64 (i : Int), .bool true, .int .i64 (i : Int), .pointer (some ⟨b, off + i * 4, none⟩), .agg #[.int .i64 X.1.head, .slice kx1 X.1.kids.length (X.1.kids.length + sx1), .int .i64 X.2.head, .slice kx2 X.2.kids.length (X.2.kids.length + sx2)], .slice (some ⟨b, off, none⟩) rs.length rc, .int .i64 (rs.length : Int), .int .i64 (k : Int), y32, y33, y34, y35, y36, y37, y38, y39, y40, y41, y42, y43, y44, y45, y46, y47, y48, y49, y50, y51, undef, undef, undef, undef, undef, undef, undef, undef, undef, undef, undef, undef, undef, undef, undef, undef, undef, undef, undef, undef, undef, undef, undef, undef, undef, undef, undef, undef, undef, undef, undef, undef, y84, z85, undef, undef], defers := ds2.map mark } ∧ Hid (innerK rs X i k (some K) = some M) ∧ Hid (M = [] → ov2 = .slice none 0 0) ∧ bi + 2 ≤ W.heap.size ∧ St w W [.box bx #[.slice none 0 0] 95, .box (bx + 1) #[.int .i64 0, .int .i64 0] 29, .box (b4 + 1) #[ov2] 95, .owns (pairE 100) (b4 + 2) (fun b => b4 + 2 ≤ b) ov2 M, .marks w.heap.size ds2, .box bi #[.int .i64 (i : Int)] 3, .box (bi + 1) #[.int .i64 X.1.head, .slice kx1 X.1.kids.length (X.1.kids.length + sx1), .int .i64 X.2.head, .slice kx2 X.2.kids.length (X.2.kids.length + sx2)] 134]) (fun a _ => rs.length - (intOf (a.tmps.getD 31 undef)).toNat) ?start2 ?round2
      case start2 => exact ⟨0, ds, K, ov, _, _, _, _, _, _, _, _, _, _, _, _, _, _, _, _, _, _, _, _, _, _, _, _, by omega, rfl, Lib.hid rfl, HNL, z6w, Si⟩
      case round2 =>
        clear S Si z6w w6 HNL
        rintro a W ⟨k, ds2, M, ov2, y8, y9, y10, y32, y33, y34, y35, y36, y37, y38, y39, y40, y41, y42, y43, y44, y45, y46, y47, y48, y49, y50, y51, y84, hk, rfl, HM, HNL, zW, S⟩
        by_cases hlt2 : k < rs.length
        · have hlti2 : (k : Int) < (rs.length : Int) := by omega
          obtain ⟨bb, boff, ky1, sy1, ky2, sy2, he, _, c0', c1', c2', c3', t1, t2⟩ := HR.out.rule hlt2
          simp only [Option.some.injEq, Addr.mk.injEq, and_true] at he
          obtain ⟨rfl, rfl⟩ := he
          have c0 := Below.cellOf S.bel c0'; have c1 := Below.cellOf S.bel c1'; have c2 := Below.cellOf S.bel c2'; have c3 := Below.cellOf S.bel c3'
          have HYZ := Lib.hid (HZ.out.2 _ (List.getElem_mem hlt2))
          obtain ⟨Y, hY⟩ : ∃ Y, Y = rs[k] := ⟨_, rfl⟩
          have HYE := Lib.hid (show gR rs k = Y by rw [gR_get hlt2, hY])
          rw [← hY] at c0 c1 c2 c3 t1 t2 HYZ
          have U1 := Lib.hid t1; have U2 := Lib.hid t2
          obtain ⟨bj, hbj⟩ : ∃ b, b = W.heap.size := ⟨_, rfl⟩
          have OT := (S.owns (pairE 100) 3).tightC (q := fun b => b4 + 2 ≤ b ∧ b < bj) (fun b h h2 => ⟨h, by omega⟩)
          have S0 : St w W [.box bx #[.slice none 0 0] 95, .box (bx + 1) #[.int .i64 0, .int .i64 0] 29, .box (b4 + 1) #[ov2] 95, .owns (pairE 100) (b4 + 2) (fun b => b4 + 2 ≤ b ∧ b < bj) ov2 M, .marks w.heap.size ds2, .box bi #[.int .i64 (i : Int)] 3, .box (bi + 1) #[.int .i64 X.1.head, .slice kx1 X.1.kids.length (X.1.kids.length + sx1), .int .i64 X.2.head, .slice kx2 X.2.kids.length (X.2.kids.length + sx2)] 134] := S.repl 3 (.owns (pairE 100) (b4 + 2) (fun b => b4 + 2 ≤ b ∧ b < bj) ov2 M) OT
          have S2a := (S0.box hbj.symm #[.int .i64 (k : Int)] 3).box (b := bj + 1) (by simp [hbj]) #[.int .i64 Y.1.head, .slice ky1 Y.1.kids.length (Y.1.kids.length + sy1), .int .i64 Y.2.head, .slice ky2 Y.2.kids.length (Y.2.kids.length + sy2)] 134
          have S2 := S2a.box (b := bj + 2) (by simp [hbj]) #[.int .i64 X.1.head, .slice kx1 X.1.kids.length (X.1.kids.length + sx1)] 38
          have hsz2 : bj + 3 ≤ (((W.alloc (.cells #[.int .i64 (k : Int)] 3)).alloc (.cells #[.int .i64 Y.1.head, .slice ky1 Y.1.kids.length (Y.1.kids.length + sy1), .int .i64 Y.2.head, .slice ky2 Y.2.kids.length (Y.2.kids.length + sy2)] 134)).alloc (.cells #[.int .i64 X.1.head, .slice kx1 X.1.kids.length (X.1.kids.length + sx1)] 38)).heap.size := by simp [hbj]
          have HBJ := Lib.hid (show bi + 2 ≤ bj by omega)
          obtain ⟨⟨x0, _⟩, ⟨x1, _⟩, _⟩ := S2a.fourP 6
          have hl6 := S.lt 6
          have SO := Lib.hid (show ∀ c, ov2.ownBlock = some c → b4 + 2 ≤ c ∧ c < bj from fun c hc => by rw [hbj]; exact S.ownlt (pairE 100) 3 rfl c hc)
          have HDS := Lib.hid (show ∀ D ∈ ds2, D < bj from fun D hD => by rw [hbj]; exact (Array.getElem?_eq_some_iff.1 ((S.marks 4).2 D hD).2).1)
          clear hY t1 t2 c0' c1' c2' c3' zW S2a OT S
          go_wp2_with fail
          rw [← hbj]
          refine S2.gen (z := bj + 3) hsz2 ?_
          intro w7 z7 S3
          have S4 : St w w7 [.box bx #[.slice none 0 0] 95, .box (bx + 1) #[.int .i64 0, .int .i64 0] 29, .box (b4 + 1) #[ov2] 95, .owns (pairE 100) (b4 + 2) (fun b => b4 + 2 ≤ b ∧ b < bj) ov2 M, .marks w.heap.size ds2, .box bi #[.int .i64 (i : Int)] 3, .box (bi + 1) #[.int .i64 X.1.head, .slice kx1 X.1.kids.length (X.1.kids.length + sx1), .int .i64 X.2.head, .slice kx2 X.2.kids.length (X.2.kids.length + sx2)] 134, .box bj #[.int .i64 (k : Int)] 3, .box (bj + 1) #[.int .i64 Y.1.head, .slice ky1 Y.1.kids.length (Y.1.kids.length + sy1), .int .i64 Y.2.head, .slice ky2 Y.2.kids.length (Y.2.kids.length + sy2)] 134, .box (bj + 2) #[.int .i64 X.1.head, .slice kx1 X.1.kids.length (X.1.kids.length + sx1)] 38] := S3
          clear S2 S0 S3 hbj hsz2 c0 c1 c2 c3 x0 x1 hl6
          have HRA := Lib.hid (show RowAt w7 (some ⟨bj + 2, 0, none⟩) [X.1] from fun i hi => by
            match i, hi with
            | 0, _ => exact ⟨bj + 2, 0, kx1, sx1, rfl, (S4.cell 9 0 rfl).1, (S4.cell 9 1 rfl).1, (T1.out.kept S4.bel).at⟩)
          have hmo : mostL [X.1] = X.1.most := by
            have := X.1.most_nonneg
            show max X.1.most 0 = X.1.most
            omega
          have HMX := Lib.hid (max47g [X.1] (some ⟨bj + 2, 0, none⟩) 1 w7 HRA.out (by simp) (fun i hi => by
            match i, hi with
            | 0, _ => exact ⟨by have := HX.out.2; show X.1.size ≤ _; omega, by have := HX.out.2; have := deep_le X.1; show X.1.deep ≤ _; omega, fun z hz => by have := HX.out.1 z hz; omega⟩))
          rw [hmo] at HMX
          refine (S4.quiet HMX.out).mono ?_
          rintro e w8 ⟨rfl, z8, S5⟩
          clear S4 hmo HRA HMX
          go_upto_region 12 with fail
          have S5 : St w w8 [.box bx #[.slice none 0 0] 95, .box (bx + 1) #[.int .i64 0, .int .i64 0] 29, .box (b4 + 1) #[ov2] 95, .owns (pairE 100) (b4 + 2) (fun b => b4 + 2 ≤ b ∧ b < bj) ov2 M, .marks w.heap.size ds2, .box bi #[.int .i64 (i : Int)] 3, .box (bi + 1) #[.int .i64 X.1.head, .slice kx1 X.1.kids.length (X.1.kids.length + sx1), .int .i64 X.2.head, .slice kx2 X.2.kids.length (X.2.kids.length + sx2)] 134, .box bj #[.int .i64 (k : Int)] 3, .box (bj + 1) #[.int .i64 Y.1.head, .slice ky1 Y.1.kids.length (Y.1.kids.length + sy1), .int .i64 Y.2.head, .slice ky2 Y.2.kids.length (Y.2.kids.length + sy2)] 134] := S5.pick [0, 1, 2, 3, 4, 5, 6, 7, 8]
          have HZ8 := Lib.hid (show bj + 3 ≤ w8.heap.size by omega)
          have FC := Lib.hid (show ∀ W : World, Below w8.heap.size w8 W → (W.cell? ⟨bj + 1, 0, none⟩ = some (.int .i64 Y.1.head) ∧ W.cell? ⟨bj + 1, 1, none⟩ = some (.slice ky1 Y.1.kids.length (Y.1.kids.length + sy1)) ∧ W.cell? ⟨bj + 1, 2, none⟩ = some (.int .i64 Y.2.head) ∧ W.cell? ⟨bj + 1, 3, none⟩ = some (.slice ky2 Y.2.kids.length (Y.2.kids.length + sy2))) from fun W h => ⟨Below.cellOf h (S5.fourP 8).1.1, Below.cellOf h (S5.fourP 8).2.1.1, Below.cellOf h (S5.fourP 8).2.2.1.1, Below.cellOf h (S5.fourP 8).2.2.2.1⟩)
          have SD := Lib.hid S5.drew
          have HYO := Lib.hid (show (Y.1.low ∧ Y.1.thin) ∧ Y.2.low ∧ Y.2.thin from ⟨⟨low_of_pre Y.1 (ok_parts HYZ.out.1).1, ok_thin HYZ.out.1⟩, low_of_pre Y.2 (ok_parts HYZ.out.2).1, ok_thin HYZ.out.2⟩)
          clear S5 z7 z8
          have hmx := HMO.out
          have OFF8 := Lib.hid (show ∀ (YL YR : T) (va vb : Value) (h8 h9 h10 : Nat), bj + 3 ≤ h8 → offs (bj + 1) 8 (fsnoc (fsnoc [.box bx #[.slice none 0 0] 95, .box (bx + 1) #[.int .i64 0, .int .i64 0] 29, .box (b4 + 1) #[ov2] 95, .owns (pairE 100) (b4 + 2) (fun b => b4 + 2 ≤ b ∧ b < bj) ov2 M, .marks w.heap.size ds2, .box bi #[.int .i64 (i : Int)] 3, .box (bi + 1) #[.int .i64 X.1.head, .slice kx1 X.1.kids.length (X.1.kids.length + sx1), .int .i64 X.2.head, .slice kx2 X.2.kids.length (X.2.kids.length + sx2)] 134, .box bj #[.int .i64 (k : Int)] 3, .box (bj + 1) #[.int .i64 Y.1.head, .slice ky1 Y.1.kids.length (Y.1.kids.length + sy1), .int .i64 Y.2.head, .slice ky2 Y.2.kids.length (Y.2.kids.length + sy2)] 134] (.treeP (fun b => h8 ≤ b ∧ b < h9) va YL)) (.treeP (fun b => h8 ≤ b ∧ b < h10) vb YR)) from fun YL YR va vb h8 h9 h10 hh => by
            have h1 := HBX.out; have h2 := HB4.out; have h3 := HBI.out; have h4 := HBJ.out; have h5 := SO.out
            simp only [fsnoc, offs, offAll, Fct.box, Fct.owns, Fct.treeP, and_true]
            refine ⟨by omega, by omega, by omega, fun e => ?_, fun e => ?_, by omega, by omega, by omega, by omega, by omega⟩
            · rcases e with e | e
              · have := (h5 _ e).2; omega
              · omega
            · have := HDS.out _ e; omega)
          refine wp_calm ?_
          refine wpH_region [9] (fun W => W.cell? ⟨bj + 1, 0, none⟩ = some (.int .i64 Y.1.head) ∧ W.cell? ⟨bj + 1, 1, none⟩ = some (.slice ky1 Y.1.kids.length (Y.1.kids.length + sy1)) ∧ W.cell? ⟨bj + 1, 2, none⟩ = some (.int .i64 Y.2.head) ∧ W.cell? ⟨bj + 1, 3, none⟩ = some (.slice ky2 Y.2.kids.length (Y.2.kids.length + sy2))) (by kernel_rfl) ?_
          have HS := FC.out _ (Below.refl _ w8).drew
          refine wpH.take (i := 0) (by kernel_rfl) (by kernel_rfl) (by kernel_rfl) (by kernel_rfl) (by kernel_rfl) HS ?_
          intro oi ho
          simp only [List.getElem?_toArray, List.getElem?_cons_zero, Option.some.injEq] at ho
          subst ho
          refine ⟨?_, Or.inl ⟨by rfl, ?_⟩, fun _ _ _ h => h, ?_⟩
          rotate_left 1
          · intro W hW
            try dsimp only at hW
            go_simp
            try with_reducible rfl
          simp only [Act.put, List.setIfInBounds_toArray, List.set_cons_zero, List.set_cons_succ]
          refine wpH.take (i := 1) (by kernel_rfl) (by kernel_rfl) (by kernel_rfl) (by kernel_rfl) (by kernel_rfl) HS ?_
          intro oi ho
          simp only [List.getElem?_toArray, List.getElem?_cons_succ, List.getElem?_cons_zero, Option.some.injEq] at ho
          subst ho
          refine ⟨?_, Or.inl ⟨by rfl, ?_⟩, fun _ _ _ h => h, ?_⟩
          rotate_left 1
          · intro W hW
            try dsimp only at hW
            go_simp
            try with_reducible rfl
          simp only [Act.put, List.setIfInBounds_toArray, List.set_cons_zero, List.set_cons_succ]
          refine wpH.take (i := 2) (by kernel_rfl) (by kernel_rfl) (by kernel_rfl) (by kernel_rfl) (by kernel_rfl) HS ?_
          intro oi ho
          simp only [List.getElem?_toArray, List.getElem?_cons_succ, List.getElem?_cons_zero, Option.some.injEq] at ho
          subst ho
          refine ⟨?_, Or.inl ⟨by rfl, ?_⟩, fun _ _ _ h => h, ?_⟩
          rotate_left 1
          · intro W hW
            try dsimp only at hW
            go_simp
            try with_reducible rfl
          simp only [Act.put, List.setIfInBounds_toArray, List.set_cons_zero, List.set_cons_succ]
          refine wpH.take (i := 4) (by kernel_rfl) (by kernel_rfl) (by kernel_rfl) (by kernel_rfl) (by kernel_rfl) HS ?_
          intro oi ho
          simp only [List.getElem?_toArray, List.getElem?_cons_succ, List.getElem?_cons_zero, Option.some.injEq] at ho
          subst ho
          refine ⟨?_, Or.inl ⟨by rfl, ?_⟩, fun _ _ _ h => h, ?_⟩
          rotate_left 1
          · intro W hW
            try dsimp only at hW
            go_simp
            try with_reducible rfl
          simp only [Act.put, List.setIfInBounds_toArray, List.set_cons_zero, List.set_cons_succ]
          refine wpH.take (i := 5) (by kernel_rfl) (by kernel_rfl) (by kernel_rfl) (by kernel_rfl) (by kernel_rfl) HS ?_
          intro oi ho
          simp only [List.getElem?_toArray, List.getElem?_cons_succ, List.getElem?_cons_zero, Option.some.injEq] at ho
          subst ho
          refine ⟨?_, Or.inl ⟨by rfl, ?_⟩, fun _ _ _ h => h, ?_⟩
          rotate_left 1
          · intro W hW
            try dsimp only at hW
            go_simp
            try with_reducible rfl
          simp only [Act.put, List.setIfInBounds_toArray, List.set_cons_zero, List.set_cons_succ]
          refine wpH.take (i := 6) (by kernel_rfl) (by kernel_rfl) (by kernel_rfl) (by kernel_rfl) (by kernel_rfl) HS ?_
          intro oi ho
          simp only [List.getElem?_toArray, List.getElem?_cons_succ, List.getElem?_cons_zero, Option.some.injEq] at ho
          subst ho
          refine ⟨?_, Or.inl ⟨by rfl, ?_⟩, fun _ _ _ h => h, ?_⟩
          rotate_left 1
          · intro W hW
            try dsimp only at hW
            go_simp
            try with_reducible rfl
          simp only [Act.put, List.setIfInBounds_toArray, List.set_cons_zero, List.set_cons_succ]
          refine wpH.one (i := 3) (by kernel_rfl) ?_
          intro oi ho
          simp only [List.getElem?_toArray, List.getElem?_cons_succ, List.getElem?_cons_zero, Option.some.injEq] at ho
          subst ho
          intro K' hK
          have HK := Lib.hid hK
          clear hK
          go_simp
          go_at_call 96
          refine (shift96 X.1.most (by omega) (by omega) Y.1 _ _ (U1.out.at.kept SD.out.bel) HYO.out.1.1 HYO.out.1.2).mono ?_
          rintro e w9 ⟨u9, rfl, hu9, hb9⟩
          obtain ⟨YL, hYL⟩ : ∃ z, z = shT X.1.most Y.1 := ⟨_, rfl⟩
          rw [← hYL] at hu9
          have HYL := Lib.hid hYL
          clear hYL
          obtain ⟨ka, sa, rfl⟩ := hu9.at.form
          have HB9 := Lib.hid (Below.step (Below.refl _ w8).drew hb9)
          have z9 : w8.heap.size ≤ w9.heap.size := hb9.size
          have HU9 := Lib.hid (show TreeP (fun b => w8.heap.size ≤ b ∧ b < w9.heap.size) w9 _ _ from hu9.mono (fun b h h2 => ⟨h, h2⟩))
          have S9 := Lib.hid ((SD.out.step hb9).add (.treeP (fun b => w8.heap.size ≤ b ∧ b < w9.heap.size) _ _) HU9.out)
          clear hb9 hu9
          dsimp only
          refine HK.out _ _ (fun _ => FC.out _ HB9.out) ?_
          have HS := FC.out _ HB9.out
          try simp only [Act.put, List.setIfInBounds_toArray, List.set_cons_zero, List.set_cons_succ]
          refine wpH.one (i := 7) (by kernel_rfl) ?_
          intro oi ho
          simp only [List.getElem?_toArray, List.getElem?_cons_succ, List.getElem?_cons_zero, Option.some.injEq] at ho
          subst ho
          intro K' hK
          have HK := Lib.hid hK
          clear hK
          go_simp
          go_at_call 96
          refine (shift96 X.1.most (by omega) (by omega) Y.2 _ _ (U2.out.at.kept S9.out.bel) HYO.out.2.1 HYO.out.2.2).mono ?_
          rintro e w10 ⟨u10, rfl, hu10, hb10⟩
          obtain ⟨YR, hYR⟩ : ∃ z, z = shT X.1.most Y.2 := ⟨_, rfl⟩
          rw [← hYR] at hu10
          have HYR := Lib.hid hYR
          clear hYR
          obtain ⟨kb, sb, rfl⟩ := hu10.at.form
          have HB10 := Lib.hid (Below.step HB9.out hb10)
          have z10 : w9.heap.size ≤ w10.heap.size := hb10.size
          have HU10 := Lib.hid (show TreeP (fun b => w8.heap.size ≤ b ∧ b < w10.heap.size) w10 _ _ from hu10.mono (fun b h h2 => ⟨by omega, h2⟩))
          have S10 := Lib.hid ((S9.out.step hb10).add (.treeP (fun b => w8.heap.size ≤ b ∧ b < w10.heap.size) _ _) HU10.out)
          clear hb10 hu10
          dsimp only
          refine HK.out _ _ (fun _ => FC.out _ HB10.out) ?_
          have HS := FC.out _ HB10.out
          try simp only [Act.put, List.setIfInBounds_toArray, List.set_cons_zero, List.set_cons_succ]
          refine wpH.take (i := 8) (by kernel_rfl) (by kernel_rfl) (by kernel_rfl) (by kernel_rfl) (by kernel_rfl) HS ?_
          intro oi ho
          simp only [List.getElem?_toArray, List.getElem?_cons_succ, List.getElem?_cons_zero, Option.some.injEq] at ho
          subst ho
          refine ⟨?_, Or.inl ⟨by rfl, ?_⟩, fun _ _ _ h => h, ?_⟩
          rotate_left 1
          · intro W hW
            try dsimp only at hW
            go_simp
            try with_reducible rfl
          simp only [Act.put, List.setIfInBounds_toArray, List.set_cons_zero, List.set_cons_succ]
          refine wpH.one (i := 9) (by kernel_rfl) ?_
          intro oi ho
          simp only [List.getElem?_toArray, List.getElem?_cons_succ, List.getElem?_cons_zero, Option.some.injEq] at ho
          subst ho
          intro K' hK
          have HK := Lib.hid hK
          clear hK
          go_simp
          obtain ⟨⟨r0, r0f⟩, ⟨r1, r1f⟩, ⟨r2, r2f⟩, r3, r3f⟩ := S10.out.fourP 8
          have hl8 := S10.out.lt 8
          try go_simp
          have S11 := S10.out.set4 8 rfl (.int .i64 YL.head) (.slice ka YL.kids.length (YL.kids.length + sa)) (.int .i64 YR.head) (.slice kb YR.kids.length (YR.kids.length + sb)) (by have := HBX.out; have := HB4.out; have := HBI.out; have := HBJ.out; omega) (OFF8.out _ _ _ _ w8.heap.size w9.heap.size w10.heap.size (by have := HZ8.out; omega))
          refine HK.out _ _ (fun h => absurd h (by decide)) ?_
          try simp only [Act.put, List.setIfInBounds_toArray, List.set_cons_zero, List.set_cons_succ]
          refine wpH.done (by kernel_rfl) ?_
          have SF := Lib.hid (S11.pick [0, 1, 2, 3, 4, 5, 6, 7, 8, 9, 10])
          have zf : bj + 3 ≤ ((((w10.setCell ⟨bj + 1, 0, none⟩ (.int .i64 YL.head)).setCell ⟨bj + 1, 1, none⟩ (.slice ka YL.kids.length (YL.kids.length + sa))).setCell ⟨bj + 1, 2, none⟩ (.int .i64 YR.head)).setCell ⟨bj + 1, 3, none⟩ (.slice kb YR.kids.length (YR.kids.length + sb))).heap.size ∧ w10.heap.size ≤ ((((w10.setCell ⟨bj + 1, 0, none⟩ (.int .i64 YL.head)).setCell ⟨bj + 1, 1, none⟩ (.slice ka YL.kids.length (YL.kids.length + sa))).setCell ⟨bj + 1, 2, none⟩ (.int .i64 YR.head)).setCell ⟨bj + 1, 3, none⟩ (.slice kb YR.kids.length (YR.kids.length + sb))).heap.size := by have := HZ8.out; simp; omega
          have HZ10 := Lib.hid (show w8.heap.size ≤ w9.heap.size ∧ w9.heap.size ≤ w10.heap.size from ⟨z9, z10⟩)
          clear S11 HS r0 r0f r1 r1f r2 r2f r3 r3f hl8 z9 z10
          generalize ((((w10.setCell ⟨bj + 1, 0, none⟩ (.int .i64 YL.head)).setCell ⟨bj + 1, 1, none⟩ (.slice ka YL.kids.length (YL.kids.length + sa))).setCell ⟨bj + 1, 2, none⟩ (.int .i64 YR.head)).setCell ⟨bj + 1, 3, none⟩ (.slice kb YR.kids.length (YR.kids.length + sb))) = w11 at SF zf ⊢
          have HZ11 := Lib.hid zf
          clear zf
          obtain ⟨⟨q0, _⟩, ⟨q1, _⟩, _⟩ := SF.out.fourP 6
          go_wp2_with fail
          clear q0 q1
          refine (nodes48 (.agg #[.int .i64 X.1.head, .slice kx1 X.1.kids.length (X.1.kids.length + sx1)]) X.1 w11 (T1.out.at.kept SF.out.bel)).mono ?_
          rintro e w12 ⟨rfl, hw12⟩
          replace hw12 : w12 = w11.alloc (.cells #[.int .i64 X.1.head, .slice kx1 X.1.kids.length (X.1.kids.length + sx1)] 38) := hw12
          obtain ⟨bk, hbk⟩ : ∃ b, b = w11.heap.size := ⟨_, rfl⟩
          have S12 := SF.out.box hbk.symm #[.int .i64 X.1.head, .slice kx1 X.1.kids.length (X.1.kids.length + sx1)] 38
          rw [← hw12] at S12
          have hs12 : bk + 1 ≤ w12.heap.size ∧ w12.heap.size ≤ bk + 1 := by rw [hw12, hbk]; simp
          have HBK := Lib.hid (show bj + 3 ≤ bk ∧ w10.heap.size ≤ bk by have := HZ11.out; omega)
          rw [← hbk]
          clear hw12 hbk SF
          go_wp2_with fail
          have hk12 := Lib.hid (S12.block 11)
          have hbel := S12.bel
          have hq1 := HBX.out; have hq2 := HB4.out; have hq3 := HBI.out; have hq4 := HBJ.out; have hq5 := HBK.out; have hq6 := HZ8.out; have hq7 := HZ10.out
          have HNL1 := Lib.hid (show ov2.ownBlock = none ∨ True from .inr trivial)
          have OW := (S12.owns (pairE 100) 3).weak (q := fun b => b4 + 2 ≤ b) (fun b (h : b4 + 2 ≤ b ∧ b < bj) => h.1)
          have TA := (S12.treeP 9).mono (q := fun b => bj + 3 ≤ b ∧ b < bk) (fun b h _ => by omega)
          have TB := (S12.treeP 10).mono (q := fun b => bj + 3 ≤ b ∧ b < bk) (fun b h _ => by omega)
          have S13 : St w w12 [.box bx #[.slice none 0 0] 95, .box (bx + 1) #[.int .i64 0, .int .i64 0] 29, .box (b4 + 1) #[ov2] 95, .owns (pairE 100) (b4 + 2) (fun b => b4 + 2 ≤ b) ov2 M, .marks w.heap.size ds2, .box bi #[.int .i64 (i : Int)] 3, .box (bi + 1) #[.int .i64 X.1.head, .slice kx1 X.1.kids.length (X.1.kids.length + sx1), .int .i64 X.2.head, .slice kx2 X.2.kids.length (X.2.kids.length + sx2)] 134, .box bj #[.int .i64 (k : Int)] 3, .box (bj + 1) #[.int .i64 YL.head, .slice ka YL.kids.length (YL.kids.length + sa), .int .i64 YR.head, .slice kb YR.kids.length (YR.kids.length + sb)] 134, .treeP (fun b => bj + 3 ≤ b ∧ b < bk) (.agg #[.int .i64 YL.head, .slice ka YL.kids.length (YL.kids.length + sa)]) YL, .treeP (fun b => bj + 3 ≤ b ∧ b < bk) (.agg #[.int .i64 YR.head, .slice kb YR.kids.length (YR.kids.length + sb)]) YR] := (((S12.repl 3 (.owns (pairE 100) (b4 + 2) (fun b => b4 + 2 ≤ b) ov2 M) OW).pick [0, 1, 2, 3, 4, 5, 6, 7, 8]).add (.treeP (fun b => bj + 3 ≤ b ∧ b < bk) (.agg #[.int .i64 YL.head, .slice ka YL.kids.length (YL.kids.length + sa)]) YL) TA).add (.treeP (fun b => bj + 3 ≤ b ∧ b < bk) (.agg #[.int .i64 YR.head, .slice kb YR.kids.length (YR.kids.length + sb)]) YR) TB
          clear S12 OW TA TB
          have hmk := S13.marks 4
          have hmD : ∀ D ∈ ds2, D < w12.heap.size := fun D hD => (Array.getElem?_eq_some_iff.1 (hmk.2 D hD).2).1
          have HMD := Lib.hid hmD
          obtain ⟨sm, hsm⟩ : ∃ s, s = decide (i = k) := ⟨_, rfl⟩
          have HSM := Lib.hid hsm
          clear hsm hmk
          have HXS := Lib.hid (ok_parts HXZ.out.1)
          have hGF : ∀ (pre : List (NY p w X.1)) (N : List Ru) (o' : Value), ∀ f ∈ ([.box bx #[.slice none 0 0] 95, .box (bx + 1) #[.int .i64 0, .int .i64 0] 29, .box (b4 + 1) #[o'] 95, .owns (pairE 100) (b4 + 2) (fun b => b4 + 2 ≤ b) o' N, .marks w.heap.size ds2, .box bi #[.int .i64 (i : Int)] 3, .box (bi + 1) #[.int .i64 X.1.head, .slice kx1 X.1.kids.length (X.1.kids.length + sx1), .int .i64 X.2.head, .slice kx2 X.2.kids.length (X.2.kids.length + sx2)] 134, .box bj #[.int .i64 (k : Int)] 3, .box (bj + 1) #[.int .i64 YL.head, .slice ka YL.kids.length (YL.kids.length + sa), .int .i64 YR.head, .slice kb YR.kids.length (YR.kids.length + sb)] 134, .treeP (fun b => bj + 3 ≤ b ∧ b < bk) (.agg #[.int .i64 YL.head, .slice ka YL.kids.length (YL.kids.length + sa)]) YL, .treeP (fun b => bj + 3 ≤ b ∧ b < bk) (.agg #[.int .i64 YR.head, .slice kb YR.kids.length (YR.kids.length + sb)]) YR] : List Fct), GoodF w12.heap.size f := by
            intro pre N o' f hf
            simp only [List.mem_cons, List.not_mem_nil, or_false] at hf
            rcases hf with rfl | rfl | rfl | rfl | rfl | rfl | rfl | rfl | rfl | rfl | rfl
            · exact GoodF.box _ _ _ _
            · exact GoodF.box _ _ _ _
            · exact GoodF.box _ _ _ _
            · exact GoodF.ownsP
            · exact GoodF.below (fun b hb => hmD b hb)
            · exact GoodF.box _ _ _ _
            · exact GoodF.box _ _ _ _
            · exact GoodF.box _ _ _ _
            · exact GoodF.box _ _ _ _
            · exact GoodF.treeA
            · exact GoodF.treeA
          have HXP := Lib.hid (show TreeP p w (.agg #[.int .i64 X.1.head, .slice kx1 X.1.kids.length (X.1.kids.length + sx1)]) X.1 from T1.out)
          obtain ⟨NF, hNF⟩ : ∃ f : List (NY p w X.1) → List Ru, f = fun pre => (nodesK X (YL, YR) sm (pre.map NY.pt) (some M)).getD [] := ⟨_, rfl⟩
          have HNF := Lib.hid (show ∀ pre N, nodesK X (YL, YR) sm (pre.map NY.pt) (some M) = some N → NF pre = N from fun pre N h => by rw [hNF]; dsimp only; rw [h]; rfl)
          have hNF0 := HNF.out [] M rfl
          have HML := Lib.hid (show M.length ≤ 38000 by
            have h1 := innerK_len HM.out
            have h2 : k * X.1.size ≤ 30 * 40 := Nat.mul_le_mul (by omega) HXS.out.2.1
            have := HKL.out
            omega)
          clear hNF
          refine (wpIn_wide (n := 4)).1 ?_
          refine range_places (p := p) (w0 := w) (t := X.1) (m₀ := bk) (v0 := w12) (lb := #[.pointer (some ⟨bk, 0, none⟩)]) rfl (enters_of Try.func123 (by kernel_rfl) rfl)
            (nodes_stopsMP p w bk bk X.1 kx1 sx1 w12 (by have := HXS.out.2.1; omega) (by have := HXS.out.2.2; omega) (by omega) hbel (by omega) HXP.out hk12.out) (Below.refl _ _) hbel.size rfl
            (fun pre V => ∃ o', St w V [.box bx #[.slice none 0 0] 95, .box (bx + 1) #[.int .i64 0, .int .i64 0] 29, .box (b4 + 1) #[o'] 95, .owns (pairE 100) (b4 + 2) (fun b => b4 + 2 ≤ b) o' (NF pre), .marks w.heap.size ds2, .box bi #[.int .i64 (i : Int)] 3, .box (bi + 1) #[.int .i64 X.1.head, .slice kx1 X.1.kids.length (X.1.kids.length + sx1), .int .i64 X.2.head, .slice kx2 X.2.kids.length (X.2.kids.length + sx2)] 134, .box bj #[.int .i64 (k : Int)] 3, .box (bj + 1) #[.int .i64 YL.head, .slice ka YL.kids.length (YL.kids.length + sa), .int .i64 YR.head, .slice kb YR.kids.length (YR.kids.length + sb)] 134, .treeP (fun b => bj + 3 ≤ b ∧ b < bk) (.agg #[.int .i64 YL.head, .slice ka YL.kids.length (YL.kids.length + sa)]) YL, .treeP (fun b => bj + 3 ≤ b ∧ b < bk) (.agg #[.int .i64 YR.head, .slice kb YR.kids.length (YR.kids.length + sb)]) YR] ∧ (fun (pre : List (NY p w X.1)) (o' : Value) => nodesK X (YL, YR) sm (pre.map NY.pt) (some M) = some (NF pre) ∧ (NF pre = [] → o' = .slice none 0 0) ∧ ∀ c, o'.ownBlock = some c → c < bj ∨ w12.heap.size ≤ c) pre o' ∧ w12.heap.size ≤ V.heap.size)
            (fun c pre V => ∃ o' : Value, St w V [.box bx #[.slice none 0 0] 95, .box (bx + 1) #[.int .i64 10, .int .i64 0] 29, .marks w.heap.size ds2] ∧ (fun (pre : List (NY p w X.1)) (_ : Value) => c = .ret ∧ nodesK X (YL, YR) sm (pre.map NY.pt) (some M) = none) pre o' ∧ w12.heap.size ≤ V.heap.size)
            (ownFrom_St (by omega) (fun _ => trivial) (fun (pre : List (NY p w X.1)) (o' : Value) => nodesK X (YL, YR) sm (pre.map NY.pt) (some M) = some (NF pre) ∧ (NF pre = [] → o' = .slice none 0 0) ∧ ∀ c, o'.ownBlock = some c → c < bj ∨ w12.heap.size ≤ c) (fun pre o' => [.box bx #[.slice none 0 0] 95, .box (bx + 1) #[.int .i64 0, .int .i64 0] 29, .box (b4 + 1) #[o'] 95, .owns (pairE 100) (b4 + 2) (fun b => b4 + 2 ≤ b) o' (NF pre), .marks w.heap.size ds2, .box bi #[.int .i64 (i : Int)] 3, .box (bi + 1) #[.int .i64 X.1.head, .slice kx1 X.1.kids.length (X.1.kids.length + sx1), .int .i64 X.2.head, .slice kx2 X.2.kids.length (X.2.kids.length + sx2)] 134, .box bj #[.int .i64 (k : Int)] 3, .box (bj + 1) #[.int .i64 YL.head, .slice ka YL.kids.length (YL.kids.length + sa), .int .i64 YR.head, .slice kb YR.kids.length (YR.kids.length + sb)] 134, .treeP (fun b => bj + 3 ≤ b ∧ b < bk) (.agg #[.int .i64 YL.head, .slice ka YL.kids.length (YL.kids.length + sa)]) YL, .treeP (fun b => bj + 3 ≤ b ∧ b < bk) (.agg #[.int .i64 YR.head, .slice kb YR.kids.length (YR.kids.length + sb)]) YR]) (fun pre o' _ => hGF pre (NF pre) o') w12.heap.size)
            (fun c => ownFrom_St (by omega) (fun _ => trivial) (fun (pre : List (NY p w X.1)) (_ : Value) => c = .ret ∧ nodesK X (YL, YR) sm (pre.map NY.pt) (some M) = none) (fun _ _ => [.box bx #[.slice none 0 0] 95, .box (bx + 1) #[.int .i64 10, .int .i64 0] 29, .marks w.heap.size ds2]) (fun _ _ _ f hf => by
              simp only [List.mem_cons, List.not_mem_nil, or_false] at hf
              rcases hf with rfl | rfl | rfl
              · exact GoodF.box _ _ _ _
              · exact GoodF.box _ _ _ _
              · exact GoodF.below (fun b hb => hmD b hb)) w12.heap.size)
            ⟨ov2, by rw [hNF0]; exact S13, ⟨by rw [hNF0]; rfl, by rw [hNF0]; exact HNL.out, fun c hc => .inl (SO.out c hc).2⟩, Nat.le_refl _⟩
            (fun y a' V => ∃ Bx : Nat, V.heap[Bx]? = some (.cells #[.int .i64 y.t.head, .slice y.ao y.t.kids.length (y.t.kids.length + y.sp)] 38 (0, 0)) ∧ PlaceAt bk V y.pl y.at_ ∧ a' = { tmps := #[.slice (some ⟨b, off, none⟩) rs.length rc, undef, .pointer (some ⟨bx, 0, none⟩), .pointer (some ⟨bx + 1, 0, none⟩), .pointer (some ⟨b4, 0, none⟩), .pointer (some ⟨b4 + 1, 0, none⟩), .pointer (some ⟨bi, 0, none⟩), .pointer (some ⟨bi + 1, 0, none⟩), .pointer (some ⟨bj, 0, none⟩), .pointer (some ⟨bj + 1, 0, none⟩), .int .i64 X.1.most, y.pl, .pointer (some ⟨Bx, 0, none⟩), undef, undef, undef, .slice (some ⟨b, off, none⟩) rs.length rc, .agg #[.int .i64 0, .int .i64 D], .pointer (some ⟨b4, 0, none⟩), .int .i64 0, .bool false, undef, .slice (some ⟨b, off, none⟩) rs.length rc, .int .i64 (rs.length : Int), .int .i64 (i : Int), .bool true, .int .i64 (i : Int), .pointer (some ⟨b, off + i * 4, none⟩), .agg #[.int .i64 X.1.head, .slice kx1 X.1.kids.length (X.1.kids.length + sx1), .int .i64 X.2.head, .slice kx2 X.2.kids.length (X.2.kids.length + sx2)], .slice (some ⟨b, off, none⟩) rs.length rc, .int .i64 (rs.length : Int), .int .i64 (k : Int), .bool true, .int .i64 (k : Int), .pointer (some ⟨b, off + k * 4, none⟩), .agg #[.int .i64 Y.1.head, .slice ky1 Y.1.kids.length (Y.1.kids.length + sy1), .int .i64 Y.2.head, .slice ky2 Y.2.kids.length (Y.2.kids.length + sy2)], .pointer (some ⟨bi + 1, 0, none⟩), .agg #[.int .i64 X.1.head, .slice kx1 X.1.kids.length (X.1.kids.length + sx1)], .slice (some ⟨bj + 1 + 1, 0, none⟩) 1 1, .int .i64 X.1.most, .pointer (some ⟨bj + 1, 0, none⟩), .agg #[.int .i64 Y.1.head, .slice ky1 Y.1.kids.length (Y.1.kids.length + sy1)], .int .i64 X.1.most, .agg #[.int .i64 YL.head, .slice ka YL.kids.length (YL.kids.length + sa)], .pointer (some ⟨bj + 1, 2, none⟩), .agg #[.int .i64 Y.2.head, .slice ky2 Y.2.kids.length (Y.2.kids.length + sy2)], .int .i64 X.1.most, .agg #[.int .i64 YR.head, .slice kb YR.kids.length (YR.kids.length + sb)], .agg #[.int .i64 YL.head, .slice ka YL.kids.length (YL.kids.length + sa), .int .i64 YR.head, .slice kb YR.kids.length (YR.kids.length + sb)], .pointer (some ⟨bi + 1, 0, none⟩), .agg #[.int .i64 X.1.head, .slice kx1 X.1.kids.length (X.1.kids.length + sx1)], .func (.func 123) #[] #[.pointer (some ⟨bk, 0, none⟩)], y.pl, .agg #[.int .i64 y.t.head, .slice y.ao y.t.kids.length (y.t.kids.length + y.sp)], undef, undef, undef, undef, undef, undef, undef, undef, undef, undef, undef, undef, undef, undef, undef, undef, undef, undef, undef, undef, undef, undef, undef, undef, undef, undef, undef, undef, undef, undef, y84, z85, undef, undef], defers := [] })
            (fun y a' _ A C row hs hg hr => by obtain ⟨Bx, q2, qp, q3⟩ := hs; exact ⟨Bx, own_block Bx (fun _ : Unit => _) (fun _ => rfl) () A C row q2 hg (fun r e => (hr r e).2), qp.grown hg hr, q3⟩)
            ?assign ?body ?done ?stop
          case assign =>
            rintro ll pre y V K' ⟨o', SV, hR, hV⟩ hpl hK
            have HK' := Lib.hid hK; have SV := Lib.hid SV; have HR' := Lib.hid hR; have HPL := Lib.hid hpl
            simp only [NY.encs]
            clear hK hR hpl
            gi_wp2
            exact HK'.out _ _ (KeepsFrom.alloc' _ _ _) (KpM.of ((Below.refl _ V).alloc (Nat.le_refl _) _) (by have := SV.out.size; omega)) ⟨o', SV.out.alloc _, HR'.out, by simp; omega⟩ ⟨V.heap.size, heap_ofAlloc V _, HPL.out.kept ((Below.refl _ V).alloc (Nat.le_refl _) _), rfl⟩
          case body =>
            rintro ll pre y a' V hl ⟨rr, hr⟩ ⟨o', SV, ⟨hnk, hnil, hown⟩, hV⟩ ⟨Bx, hbx, hpl, rfl⟩ hlt3
            clear hr rr
            obtain ⟨ypl, yao, ysp, yt, yat, yht, ym⟩ := y
            obtain ⟨N, hN⟩ : ∃ N, N = NF pre := ⟨_, rfl⟩
            rw [← hN] at SV hnk hnil
            have hpl2 : PlaceAt bk V ypl yat := hpl
            clear hpl
            obtain ⟨po, pc, rfl, hpc, hpm, hpa⟩ := PlaceAt.cellsAt hpl2
            have HPA := Lib.hid hpa
            have HNL9 := Lib.hid (show N.length ≤ 39000 by have h := nodesK_len hnk; have h2 := HML.out; have h3 := HXS.out.2.1; have h4 : pre.length < X.1.size := hlt3; rw [List.length_map] at h; omega)
            have HSN := Lib.hid (show ∀ R, nodeStep X (YL, YR) sm (some N) (yat, yt) = R → nodesK X (YL, YR) sm ((pre ++ [(⟨.slice po yat.length pc, yao, ysp, yt, yat, yht, ym⟩ : NY p w X.1)]).map NY.pt) (some M) = R from fun R h => by rw [List.map_append, List.map_cons, List.map_nil, nodesK_snoc, hnk]; exact h)
            have HN0 := Lib.hid hnil; have HOW := Lib.hid hown; have HYT := Lib.hid yht
            have HNFS := Lib.hid (HNF.out (pre ++ [(⟨.slice po yat.length pc, yao, ysp, yt, yat, yht, ym⟩ : NY p w X.1)]))
            have HYM := Lib.hid (good_node HXZ.out.1 ym)
            obtain ⟨⟨x0, _⟩, x1, _⟩ := box2 hbx
            obtain ⟨v5, _⟩ := SV.one 5
            obtain ⟨v7, _⟩ := SV.one 7
            have SVH := Lib.hid SV
            have HBX8 := Lib.hid hbx
            clear hN hbx hnil SV hown hpl2 hpa hnk
            dsimp only at x0 x1 hlt3 ⊢
            have stay : ∀ W, Below V.heap.size V W → nodeStep X (YL, YR) sm (some N) (yat, yt) = some N → KeepsFrom w12.heap.size V W ∧ KpM w.heap.size bk V W ∧ ∃ o2, St w W [.box bx #[.slice none 0 0] 95, .box (bx + 1) #[.int .i64 0, .int .i64 0] 29, .box (b4 + 1) #[o2] 95, .owns (pairE 100) (b4 + 2) (fun b => b4 + 2 ≤ b) o2 (NF (pre ++ [(⟨.slice po yat.length pc, yao, ysp, yt, yat, yht, ym⟩ : NY p w X.1)])), .marks w.heap.size ds2, .box bi #[.int .i64 (i : Int)] 3, .box (bi + 1) #[.int .i64 X.1.head, .slice kx1 X.1.kids.length (X.1.kids.length + sx1), .int .i64 X.2.head, .slice kx2 X.2.kids.length (X.2.kids.length + sx2)] 134, .box bj #[.int .i64 (k : Int)] 3, .box (bj + 1) #[.int .i64 YL.head, .slice ka YL.kids.length (YL.kids.length + sa), .int .i64 YR.head, .slice kb YR.kids.length (YR.kids.length + sb)] 134, .treeP (fun b => bj + 3 ≤ b ∧ b < bk) (.agg #[.int .i64 YL.head, .slice ka YL.kids.length (YL.kids.length + sa)]) YL, .treeP (fun b => bj + 3 ≤ b ∧ b < bk) (.agg #[.int .i64 YR.head, .slice kb YR.kids.length (YR.kids.length + sb)]) YR] ∧ (fun (pre : List (NY p w X.1)) (o' : Value) => nodesK X (YL, YR) sm (pre.map NY.pt) (some M) = some (NF pre) ∧ (NF pre = [] → o' = .slice none 0 0) ∧ ∀ c, o'.ownBlock = some c → c < bj ∨ w12.heap.size ≤ c) (pre ++ [(⟨.slice po yat.length pc, yao, ysp, yt, yat, yht, ym⟩ : NY p w X.1)]) o2 ∧ w12.heap.size ≤ W.heap.size := fun W hb h => by
              have h1 := HSN.out _ h
              have h2 := HNFS.out N h1
              refine ⟨KeepsFrom.ofBelow hb, KpM.of hb (by omega), o', by rw [h2]; exact SVH.out.step hb, ⟨by rw [h2]; exact h1, by rw [h2]; exact HN0.out, HOW.out⟩, Nat.le_trans hV hb.size⟩
            have STAY := Lib.hid stay
            clear stay
            by_cases hneg : yt.head < 0
            · have HST := Lib.hid (show nodeStep X (YL, YR) sm (some N) (yat, yt) = some N by unfold nodeStep; exact if_pos (.inl hneg))
              gi_wp2
              all_goals first
                | (exfalso; exact undef_bool (by assumption))
                | exact STAY.out _ (Below.refl _ _) HST.out
            · have hik : ((i : Int) == (k : Int)) = sm := by rw [HSM.out, Bool.eq_iff_iff]; simp only [beq_iff_eq, decide_eq_true_eq]; omega
              cases sm with
              | true =>
                by_cases hy : yat = []
                · have hy0 : ((yat.length : Int) == 0) = true := by rw [hy]; rfl
                  have HST := Lib.hid (show nodeStep X (YL, YR) true (some N) (yat, yt) = some N by unfold nodeStep; exact if_pos (.inr ⟨rfl, hy⟩))
                  clear hy
                  gi_wp2
                  all_goals first
                    | (exfalso; exact undef_bool (by assumption))
                    | exact STAY.out _ (Below.refl _ _) HST.out
                · have hy0 : ((yat.length : Int) == 0) = false := by rw [beq_eq_false_iff_ne]; intro e; exact hy (List.eq_nil_of_length_eq_zero (by omega))
                  have HYN := Lib.hid hy; have HNG := Lib.hid hneg
                  clear hy
                  have HPOK := Lib.hid (show PairOk X (YL, YR) yt from ⟨HXZ.out.1, HXZ.out.2, HYM.out, ⟨X.1.most.toNat, Y.1, Y.2, by have := HMO.out; omega, HYZ.out.1, HYZ.out.2, by rw [HYL.out, HYR.out, show ((X.1.most.toNat : Nat) : Int) = X.1.most by have := HMO.out; omega]⟩⟩)
                  obtain ⟨⟨a0, _⟩, ⟨a1, _⟩, ⟨a2, _⟩, a3, _⟩ := SVH.out.fourP 6
                  obtain ⟨⟨b0, _⟩, ⟨b1, _⟩, ⟨b2, _⟩, b3, _⟩ := SVH.out.fourP 8
                  gi_wp2_with fail
                  refine ⟨trivial, ?_⟩
                  refine (CallsIn.inRound ll (callsIn_wide.2 (pair101 X (YL, YR) yt yat (fun b => b < V.heap.size) kx1 kx2 ka kb yao po sx1 sx2 sa sb ysp yat.length pc V HPOK.out (fun b h => h) ((T1.out.kept SVH.out.bel).mono (fun b _ h => h)) ((T2.out.kept SVH.out.bel).mono (fun b _ h => h)) ((SVH.out.treeP 9).mono (fun b _ h => h)) ((SVH.out.treeP 10).mono (fun b _ h => h)) ((HYT.out.kept SVH.out.bel).mono (fun b _ h => h)) HPA.out rfl hpc hpm))).mono ?_
                  rintro e w13 ⟨P, Q, u1, u2, v1, v2, ok, smm, rfl, hres, hP, hQ, hb13⟩
                  have HP13 := Lib.hid hP; have HQ13 := Lib.hid hQ; have HB13 := Lib.hid hb13
                  have PQ := Lib.hid (And.intro True.intro True.intro)
                  have S14 := Lib.hid ((SVH.out.step hb13).alloc (.cells #[.int .i64 P.head, .slice u1 P.kids.length (P.kids.length + v1), .int .i64 Q.head, .slice u2 Q.kids.length (Q.kids.length + v2)] 100))
                  clear a0 a1 a2 a3 b0 b1 b2 b3 hP hQ hb13 x0 x1 v5 v7
                  rcases hres with ⟨rfl, hr⟩ | ⟨rfl, rfl, hr⟩ | ⟨rfl, rfl, hr⟩
                  · have HST := Lib.hid (show nodeStep X (YL, YR) true (some N) (yat, yt) = none by unfold nodeStep; dsimp only; rw [if_neg (fun h => h.elim (fun h => absurd h (by have := HNG.out; omega)) (fun h => HYN.out h.2)), hr])
                    clear hr
                    have h15 := HSN.out _ HST.out
                    obtain ⟨r0, r0f⟩ := S14.out.one 0
                    obtain ⟨⟨r1, r1f⟩, r2, r2f⟩ := S14.out.two 1
                    have hl0 := S14.out.lt 0; have hl1 := S14.out.lt 1
                    have hz14 := HB13.out.size
                    have SRT := Lib.hid ((((S14.out.pick [0, 1, 4]).set1 0 rfl (.slice none 0 0) (by omega) (by simp only [offs, offAll, List.map, Fct.at, Fct.box, Fct.marks, and_true]; exact ⟨by omega, fun e => by have := ((S14.out.marks 4).2 _ e).2; rw [S14.out.block 0] at this; cases this⟩)).set2 1 rfl (.int .i64 10) (.int .i64 0) (by omega) (by simp only [fset, offs, offAll, List.map, Fct.at, Fct.box, Fct.marks, and_true]; exact ⟨by omega, fun e => by have := ((S14.out.marks 4).2 _ e).2; rw [S14.out.block 1] at this; cases this⟩)))
                    have HKK := Lib.hid (fun (hbb : Below w.heap.size V _) => (kp_keeps (n₀ := w.heap.size) (m₀ := bk) (B0 := w12.heap.size) (A := V) (W := ((((w13.alloc (.cells #[.int .i64 P.head, .slice u1 P.kids.length (P.kids.length + v1), .int .i64 Q.head, .slice u2 Q.kids.length (Q.kids.length + v2)] 100)).setCell ⟨bx, 0, none⟩ (.slice none 0 0)).setCell ⟨bx + 1, 0, none⟩ (.int .i64 10)).setCell ⟨bx + 1, 1, none⟩ (.int .i64 0))) hbb (by simp; omega) (fun b9 o9 h9 ht => by
                      have hlt9 := (Array.getElem?_eq_some_iff.1 h9).1
                      have e1 : b9 ≠ bx := fun e => by subst e; rw [SVH.out.block 0] at h9; obtain rfl := Option.some.inj h9; rcases ht _ _ _ rfl with h | h <;> exact absurd h (by decide)
                      have e2 : b9 ≠ bx + 1 := fun e => by subst e; rw [SVH.out.block 1] at h9; obtain rfl := Option.some.inj h9; rcases ht _ _ _ rfl with h | h <;> exact absurd h (by decide)
                      exact (Below.heap_setCell _ _ _ _ e2).trans ((Below.heap_setCell _ _ _ _ e2).trans ((Below.heap_setCell _ _ _ _ e1).trans ((Below.heap_alloc w13 _ b9 (by omega)).trans (HB13.out.block b9 hlt9)))))))
                    gi_wp2
                    all_goals first
                      | (exfalso; exact undef_bool (by assumption))
                      | exact ⟨(HKK.out ⟨SRT.out.bel.os.trans SVH.out.bel.os.symm, SRT.out.bel.tape.trans SVH.out.bel.tape.symm, SRT.out.bel.output.trans SVH.out.bel.output.symm, by simp; omega, fun b8 hb8 => (SRT.out.bel.block b8 hb8).trans (SVH.out.bel.block b8 hb8).symm⟩).2, .slice none 0 0, SRT.out, ⟨rfl, h15⟩, by simp; omega⟩
                  · have HST := Lib.hid (show nodeStep X (YL, YR) true (some N) (yat, yt) = some N by unfold nodeStep; dsimp only; rw [if_neg (fun h => h.elim (fun h => absurd h (by have := HNG.out; omega)) (fun h => HYN.out h.2)), hr])
                    clear hr
                    gi_wp2
                    all_goals first
                      | (exfalso; exact undef_bool (by assumption))
                      | exact STAY.out _ (HB13.out.alloc HB13.out.size _) HST.out
                  · have HST := Lib.hid (show nodeStep X (YL, YR) true (some N) (yat, yt) = some (N ++ [(P, Q)]) by unfold nodeStep; dsimp only; rw [if_neg (fun h => h.elim (fun h => absurd h (by have := HNG.out; omega)) (fun h => HYN.out h.2)), hr])
                    clear hr
                    obtain ⟨g0, _⟩ := S14.out.one 2
                    have HOF := Lib.hid (show ∀ c, o'.ownBlock = some c → b4 + 2 ≤ c → c < (w13.alloc (.cells #[.int .i64 P.head, .slice u1 P.kids.length (P.kids.length + v1), .int .i64 Q.head, .slice u2 Q.kids.length (Q.kids.length + v2)] 100)).heap.size → offs c 3 [.box bx #[.slice none 0 0] 95, .box (bx + 1) #[.int .i64 0, .int .i64 0] 29, .box (b4 + 1) #[o'] 95, .owns (pairE 100) (b4 + 2) (fun b => b4 + 2 ≤ b) o' N, .marks w.heap.size ds2, .box bi #[.int .i64 (i : Int)] 3, .box (bi + 1) #[.int .i64 X.1.head, .slice kx1 X.1.kids.length (X.1.kids.length + sx1), .int .i64 X.2.head, .slice kx2 X.2.kids.length (X.2.kids.length + sx2)] 134, .box bj #[.int .i64 (k : Int)] 3, .box (bj + 1) #[.int .i64 YL.head, .slice ka YL.kids.length (YL.kids.length + sa), .int .i64 YR.head, .slice kb YR.kids.length (YR.kids.length + sb)] 134, .treeP (fun b => bj + 3 ≤ b ∧ b < bk) (.agg #[.int .i64 YL.head, .slice ka YL.kids.length (YL.kids.length + sa)]) YL, .treeP (fun b => bj + 3 ≤ b ∧ b < bk) (.agg #[.int .i64 YR.head, .slice kb YR.kids.length (YR.kids.length + sb)]) YR] from fun c hc h1 _ => by
                      have h2 := HOW.out c hc
                      have n5 : c ≠ bi := fun e => own_ne (S14.out.owns (pairE 100) 3) (S14.out.block 5) (fun cs fz h => by injection h with _ h _; exact absurd h (by decide)) (e ▸ hc)
                      have n6 : c ≠ bi + 1 := fun e => own_ne (S14.out.owns (pairE 100) 3) (S14.out.block 6) (fun cs fz h => by injection h with _ h _; exact absurd h (by decide)) (e ▸ hc)
                      have n4 : c ∉ ds2 := fun e => own_ne (S14.out.owns (pairE 100) 3) ((S14.out.marks 4).2 c e).2 (fun cs fz h => by cases h) hc
                      simp only [offs, offAll, Fct.box, Fct.marks, Fct.treeP, and_true]
                      exact ⟨by omega, by omega, by omega, n4, n5, n6, by omega, by omega, by omega, by omega⟩)
                    have HEL := Lib.hid (show (pairE 100).is (fun b => V.heap.size ≤ b ∧ b < w13.heap.size) (w13.alloc (.cells #[.int .i64 P.head, .slice u1 P.kids.length (P.kids.length + v1), .int .i64 Q.head, .slice u2 Q.kids.length (Q.kids.length + v2)] 100)) [.int .i64 P.head, .slice u1 P.kids.length (P.kids.length + v1), .int .i64 Q.head, .slice u2 Q.kids.length (Q.kids.length + v2)] (P, Q) from ⟨u1, v1, u2, v2, rfl, (HP13.out.mono (fun b h h2 => ⟨h, h2⟩)).kept ((Below.refl _ w13).alloc (Nat.le_refl _) _), (HQ13.out.mono (fun b h h2 => ⟨h, h2⟩)).kept ((Below.refl _ w13).alloc (Nat.le_refl _) _)⟩)
                    have hz14 := HB13.out.size
                    have hnl9 := HNL9.out
                    have OLT := Lib.hid (SVH.out.ownlt (pairE 100) 3 rfl)
                    gi_wp2_with (gi_at_builtin; refine wpListIn_app1 rfl (.tmp 80) (.tmp 82) 95 rfl (pairE 100) S14.out 3 rfl (cs := #[.int .i64 P.head, .slice u1 P.kids.length (P.kids.length + v1), .int .i64 Q.head, .slice u2 Q.kids.length (Q.kids.length + v2)]) (x := (P, Q)) (q := fun b => V.heap.size ≤ b ∧ b < w13.heap.size) (p' := fun b => b4 + 2 ≤ b) (fun e => HN0.out e) HEL.out Try.underlying95 gi gz0 gz1 gz2 rfl rfl ?v1 ?v2 ?c1 ?c2 ?c3 ?c4 HOF.out ?c6 ?c7 ?_)
                    try (case v1 => rfl)
                    try (case v2 => first | rfl | (rw [World.size_alloc]; rfl) | (simp [World.size_alloc]; rfl))
                    case c1 => unfold maxLen; omega
                    case c2 => omega
                    case c3 => simp; omega
                    case c4 => omega
                    case c6 => intro bb h1 h2; have := (OLT.out bb h2).2; omega
                    case c7 => intro bb h1; rcases h1 with h1 | h1; exact h1; omega
                    intro gg cap w15 S15 hs15 hgg hat hsm hgr
                    have S15 : St w w15 [.box bx #[.slice none 0 0] 95, .box (bx + 1) #[.int .i64 0, .int .i64 0] 29, .box (b4 + 1) #[o'] 95, .owns (pairE 100) (b4 + 2) (fun b => b4 + 2 ≤ b) (.slice (some ⟨gg, 0, none⟩) (N.length + 1) cap) (N ++ [(P, Q)]), .marks w.heap.size ds2, .box bi #[.int .i64 (i : Int)] 3, .box (bi + 1) #[.int .i64 X.1.head, .slice kx1 X.1.kids.length (X.1.kids.length + sx1), .int .i64 X.2.head, .slice kx2 X.2.kids.length (X.2.kids.length + sx2)] 134, .box bj #[.int .i64 (k : Int)] 3, .box (bj + 1) #[.int .i64 YL.head, .slice ka YL.kids.length (YL.kids.length + sa), .int .i64 YR.head, .slice kb YR.kids.length (YR.kids.length + sb)] 134, .treeP (fun b => bj + 3 ≤ b ∧ b < bk) (.agg #[.int .i64 YL.head, .slice ka YL.kids.length (YL.kids.length + sa)]) YL, .treeP (fun b => bj + 3 ≤ b ∧ b < bk) (.agg #[.int .i64 YR.head, .slice kb YR.kids.length (YR.kids.length + sb)]) YR] := S15
                    obtain ⟨g1, g1f⟩ := S15.one 2
                    have hl2 := S15.lt 2
                    have hg4 := (S15.ownlt (pairE 100) 3 rfl gg rfl).1
                    have SFN := Lib.hid (S15.set1 2 rfl (.slice (some ⟨gg, 0, none⟩) (N.length + 1) cap) (by omega) (by simp only [offs, offAll, Fct.box, Fct.owns, Fct.marks, Fct.treeP, Value.ownBlock, and_true]; exact ⟨by omega, by omega, fun e => (by rcases e with e | e; (simp at e; omega); omega), fun e => (by have := ((S15.marks 4).2 _ e).2; rw [S15.block 2] at this; cases this), by omega, by omega, by omega, by omega, by omega, by omega⟩))
                    have hs15' : w13.heap.size + 1 ≤ w15.heap.size := by first | exact hs15 | (simp at hs15; exact hs15)
                    have HKK := Lib.hid (fun (hbb : Below w.heap.size V _) => kp_keeps (n₀ := w.heap.size) (m₀ := bk) (B0 := w12.heap.size) (A := V) (W := w15.setCell ⟨b4 + 1, 0, none⟩ (.slice (some ⟨gg, 0, none⟩) (N.length + 1) cap)) hbb (by simp; omega) (fun b9 o9 h9 ht => by
                      have hlt9 := (Array.getElem?_eq_some_iff.1 h9).1
                      have e1 : b9 ≠ b4 + 1 := fun e => by subst e; rw [SVH.out.block 2] at h9; obtain rfl := Option.some.inj h9; rcases ht _ _ _ rfl with h | h <;> exact absurd h (by decide)
                      have e2 : some b9 ≠ o'.ownBlock := fun e => own_ne (SVH.out.owns (pairE 100) 3) h9 (fun cs fz h => by rcases ht _ _ _ h with h | h <;> exact absurd h (by decide)) e.symm
                      exact (Below.heap_setCell _ _ _ _ e1).trans ((hgr.block b9 (by simp; omega) e2).trans ((Below.heap_alloc _ _ b9 (by simp; omega)).trans ((Below.heap_alloc w13 _ b9 (by omega)).trans (HB13.out.block b9 hlt9))))))
                    have h15 := HSN.out _ HST.out
                    have HN2 := Lib.hid (HNFS.out _ h15)
                    have HAT := Lib.hid (show ∀ c, (Value.slice (some ⟨gg, 0, none⟩) (N.length + 1) cap).ownBlock = some c → c < bj ∨ w12.heap.size ≤ c from fun c hc => by
                      have hgc : gg = c := by simpa [Value.ownBlock] using hc
                      subst hgc
                      rcases hat with h | h
                      · exact HOW.out _ h
                      · first | omega | (simp at h; omega))
                    have hs15o := hs15
                    clear S15 hat hsm hgr hgg
                    gi_wp2
                    all_goals first
                      | (exfalso; exact undef_bool (by assumption))
                      | (have hk := HKK.out ⟨SFN.out.bel.os.trans SVH.out.bel.os.symm, SFN.out.bel.tape.trans SVH.out.bel.tape.symm, SFN.out.bel.output.trans SVH.out.bel.output.symm, by simp; omega, fun b8 hb8 => (SFN.out.bel.block b8 hb8).trans (SVH.out.bel.block b8 hb8).symm⟩
                         exact ⟨hk.2, hk.1, .slice (some ⟨gg, 0, none⟩) (N.length + 1) cap, by rw [HN2.out]; exact SFN.out, ⟨by rw [HN2.out]; exact h15, by rw [HN2.out]; exact fun e => by simp at e, HAT.out⟩, by simp; omega⟩)
              | false =>
                have HNG := Lib.hid hneg
                have HPOK := Lib.hid (show PairOk X (YL, YR) yt from ⟨HXZ.out.1, HXZ.out.2, HYM.out, ⟨X.1.most.toNat, Y.1, Y.2, by have := HMO.out; omega, HYZ.out.1, HYZ.out.2, by rw [HYL.out, HYR.out, show ((X.1.most.toNat : Nat) : Int) = X.1.most by have := HMO.out; omega]⟩⟩)
                obtain ⟨⟨a0, _⟩, ⟨a1, _⟩, ⟨a2, _⟩, a3, _⟩ := SVH.out.fourP 6
                obtain ⟨⟨b0, _⟩, ⟨b1, _⟩, ⟨b2, _⟩, b3, _⟩ := SVH.out.fourP 8
                gi_wp2_with fail
                refine ⟨trivial, ?_⟩
                refine (CallsIn.inRound ll (callsIn_wide.2 (pair101 X (YL, YR) yt yat (fun b => b < V.heap.size) kx1 kx2 ka kb yao po sx1 sx2 sa sb ysp yat.length pc V HPOK.out (fun b h => h) ((T1.out.kept SVH.out.bel).mono (fun b _ h => h)) ((T2.out.kept SVH.out.bel).mono (fun b _ h => h)) ((SVH.out.treeP 9).mono (fun b _ h => h)) ((SVH.out.treeP 10).mono (fun b _ h => h)) ((HYT.out.kept SVH.out.bel).mono (fun b _ h => h)) HPA.out rfl hpc hpm))).mono ?_
                rintro e w13 ⟨P, Q, u1, u2, v1, v2, ok, smm, rfl, hres, hP, hQ, hb13⟩
                have HP13 := Lib.hid hP; have HQ13 := Lib.hid hQ; have HB13 := Lib.hid hb13
                have PQ := Lib.hid (And.intro True.intro True.intro)
                have S14 := Lib.hid ((SVH.out.step hb13).alloc (.cells #[.int .i64 P.head, .slice u1 P.kids.length (P.kids.length + v1), .int .i64 Q.head, .slice u2 Q.kids.length (Q.kids.length + v2)] 100))
                clear a0 a1 a2 a3 b0 b1 b2 b3 hP hQ hb13 x0 x1 v5 v7
                rcases hres with ⟨rfl, hr⟩ | ⟨rfl, rfl, hr⟩ | ⟨rfl, rfl, hr⟩
                · have HST := Lib.hid (show nodeStep X (YL, YR) false (some N) (yat, yt) = none by unfold nodeStep; dsimp only; rw [if_neg (fun h => h.elim (fun h => absurd h (by have := HNG.out; omega)) (fun h => by cases h.1)), hr])
                  clear hr
                  have h15 := HSN.out _ HST.out
                  obtain ⟨r0, r0f⟩ := S14.out.one 0
                  obtain ⟨⟨r1, r1f⟩, r2, r2f⟩ := S14.out.two 1
                  have hl0 := S14.out.lt 0; have hl1 := S14.out.lt 1
                  have hz14 := HB13.out.size
                  have SRT := Lib.hid ((((S14.out.pick [0, 1, 4]).set1 0 rfl (.slice none 0 0) (by omega) (by simp only [offs, offAll, List.map, Fct.at, Fct.box, Fct.marks, and_true]; exact ⟨by omega, fun e => by have := ((S14.out.marks 4).2 _ e).2; rw [S14.out.block 0] at this; cases this⟩)).set2 1 rfl (.int .i64 10) (.int .i64 0) (by omega) (by simp only [fset, offs, offAll, List.map, Fct.at, Fct.box, Fct.marks, and_true]; exact ⟨by omega, fun e => by have := ((S14.out.marks 4).2 _ e).2; rw [S14.out.block 1] at this; cases this⟩)))
                  have HKK := Lib.hid (fun (hbb : Below w.heap.size V _) => (kp_keeps (n₀ := w.heap.size) (m₀ := bk) (B0 := w12.heap.size) (A := V) (W := ((((w13.alloc (.cells #[.int .i64 P.head, .slice u1 P.kids.length (P.kids.length + v1), .int .i64 Q.head, .slice u2 Q.kids.length (Q.kids.length + v2)] 100)).setCell ⟨bx, 0, none⟩ (.slice none 0 0)).setCell ⟨bx + 1, 0, none⟩ (.int .i64 10)).setCell ⟨bx + 1, 1, none⟩ (.int .i64 0))) hbb (by simp; omega) (fun b9 o9 h9 ht => by
                    have hlt9 := (Array.getElem?_eq_some_iff.1 h9).1
                    have e1 : b9 ≠ bx := fun e => by subst e; rw [SVH.out.block 0] at h9; obtain rfl := Option.some.inj h9; rcases ht _ _ _ rfl with h | h <;> exact absurd h (by decide)
                    have e2 : b9 ≠ bx + 1 := fun e => by subst e; rw [SVH.out.block 1] at h9; obtain rfl := Option.some.inj h9; rcases ht _ _ _ rfl with h | h <;> exact absurd h (by decide)
                    exact (Below.heap_setCell _ _ _ _ e2).trans ((Below.heap_setCell _ _ _ _ e2).trans ((Below.heap_setCell _ _ _ _ e1).trans ((Below.heap_alloc w13 _ b9 (by omega)).trans (HB13.out.block b9 hlt9)))))))
                  gi_wp2
                  all_goals first
                    | (exfalso; exact undef_bool (by assumption))
                    | exact ⟨(HKK.out ⟨SRT.out.bel.os.trans SVH.out.bel.os.symm, SRT.out.bel.tape.trans SVH.out.bel.tape.symm, SRT.out.bel.output.trans SVH.out.bel.output.symm, by simp; omega, fun b8 hb8 => (SRT.out.bel.block b8 hb8).trans (SVH.out.bel.block b8 hb8).symm⟩).2, .slice none 0 0, SRT.out, ⟨rfl, h15⟩, by simp; omega⟩
                · have HST := Lib.hid (show nodeStep X (YL, YR) false (some N) (yat, yt) = some N by unfold nodeStep; dsimp only; rw [if_neg (fun h => h.elim (fun h => absurd h (by have := HNG.out; omega)) (fun h => by cases h.1)), hr])
                  clear hr
                  gi_wp2
                  all_goals first
                    | (exfalso; exact undef_bool (by assumption))
                    | exact STAY.out _ (HB13.out.alloc HB13.out.size _) HST.out
                · have HST := Lib.hid (show nodeStep X (YL, YR) false (some N) (yat, yt) = some (N ++ [(P, Q)]) by unfold nodeStep; dsimp only; rw [if_neg (fun h => h.elim (fun h => absurd h (by have := HNG.out; omega)) (fun h => by cases h.1)), hr])
                  clear hr
                  obtain ⟨g0, _⟩ := S14.out.one 2
                  have HOF := Lib.hid (show ∀ c, o'.ownBlock = some c → b4 + 2 ≤ c → c < (w13.alloc (.cells #[.int .i64 P.head, .slice u1 P.kids.length (P.kids.length + v1), .int .i64 Q.head, .slice u2 Q.kids.length (Q.kids.length + v2)] 100)).heap.size → offs c 3 [.box bx #[.slice none 0 0] 95, .box (bx + 1) #[.int .i64 0, .int .i64 0] 29, .box (b4 + 1) #[o'] 95, .owns (pairE 100) (b4 + 2) (fun b => b4 + 2 ≤ b) o' N, .marks w.heap.size ds2, .box bi #[.int .i64 (i : Int)] 3, .box (bi + 1) #[.int .i64 X.1.head, .slice kx1 X.1.kids.length (X.1.kids.length + sx1), .int .i64 X.2.head, .slice kx2 X.2.kids.length (X.2.kids.length + sx2)] 134, .box bj #[.int .i64 (k : Int)] 3, .box (bj + 1) #[.int .i64 YL.head, .slice ka YL.kids.length (YL.kids.length + sa), .int .i64 YR.head, .slice kb YR.kids.length (YR.kids.length + sb)] 134, .treeP (fun b => bj + 3 ≤ b ∧ b < bk) (.agg #[.int .i64 YL.head, .slice ka YL.kids.length (YL.kids.length + sa)]) YL, .treeP (fun b => bj + 3 ≤ b ∧ b < bk) (.agg #[.int .i64 YR.head, .slice kb YR.kids.length (YR.kids.length + sb)]) YR] from fun c hc h1 _ => by
                    have h2 := HOW.out c hc
                    have n5 : c ≠ bi := fun e => own_ne (S14.out.owns (pairE 100) 3) (S14.out.block 5) (fun cs fz h => by injection h with _ h _; exact absurd h (by decide)) (e ▸ hc)
                    have n6 : c ≠ bi + 1 := fun e => own_ne (S14.out.owns (pairE 100) 3) (S14.out.block 6) (fun cs fz h => by injection h with _ h _; exact absurd h (by decide)) (e ▸ hc)
                    have n4 : c ∉ ds2 := fun e => own_ne (S14.out.owns (pairE 100) 3) ((S14.out.marks 4).2 c e).2 (fun cs fz h => by cases h) hc
                    simp only [offs, offAll, Fct.box, Fct.marks, Fct.treeP, and_true]
                    exact ⟨by omega, by omega, by omega, n4, n5, n6, by omega, by omega, by omega, by omega⟩)
                  have HEL := Lib.hid (show (pairE 100).is (fun b => V.heap.size ≤ b ∧ b < w13.heap.size) (w13.alloc (.cells #[.int .i64 P.head, .slice u1 P.kids.length (P.kids.length + v1), .int .i64 Q.head, .slice u2 Q.kids.length (Q.kids.length + v2)] 100)) [.int .i64 P.head, .slice u1 P.kids.length (P.kids.length + v1), .int .i64 Q.head, .slice u2 Q.kids.length (Q.kids.length + v2)] (P, Q) from ⟨u1, v1, u2, v2, rfl, (HP13.out.mono (fun b h h2 => ⟨h, h2⟩)).kept ((Below.refl _ w13).alloc (Nat.le_refl _) _), (HQ13.out.mono (fun b h h2 => ⟨h, h2⟩)).kept ((Below.refl _ w13).alloc (Nat.le_refl _) _)⟩)
                  have hz14 := HB13.out.size
                  have hnl9 := HNL9.out
                  have OLT := Lib.hid (SVH.out.ownlt (pairE 100) 3 rfl)
                  gi_wp2_with (gi_at_builtin; refine wpListIn_app1 rfl (.tmp 80) (.tmp 82) 95 rfl (pairE 100) S14.out 3 rfl (cs := #[.int .i64 P.head, .slice u1 P.kids.length (P.kids.length + v1), .int .i64 Q.head, .slice u2 Q.kids.length (Q.kids.length + v2)]) (x := (P, Q)) (q := fun b => V.heap.size ≤ b ∧ b < w13.heap.size) (p' := fun b => b4 + 2 ≤ b) (fun e => HN0.out e) HEL.out Try.underlying95 gi gz0 gz1 gz2 rfl rfl ?v1 ?v2 ?c1 ?c2 ?c3 ?c4 HOF.out ?c6 ?c7 ?_)
                  try (case v1 => rfl)
                  try (case v2 => first | rfl | (rw [World.size_alloc]; rfl) | (simp [World.size_alloc]; rfl))
                  case c1 => unfold maxLen; omega
                  case c2 => omega
                  case c3 => simp; omega
                  case c4 => omega
                  case c6 => intro bb h1 h2; have := (OLT.out bb h2).2; omega
                  case c7 => intro bb h1; rcases h1 with h1 | h1; exact h1; omega
                  intro gg cap w15 S15 hs15 hgg hat hsm hgr
                  have S15 : St w w15 [.box bx #[.slice none 0 0] 95, .box (bx + 1) #[.int .i64 0, .int .i64 0] 29, .box (b4 + 1) #[o'] 95, .owns (pairE 100) (b4 + 2) (fun b => b4 + 2 ≤ b) (.slice (some ⟨gg, 0, none⟩) (N.length + 1) cap) (N ++ [(P, Q)]), .marks w.heap.size ds2, .box bi #[.int .i64 (i : Int)] 3, .box (bi + 1) #[.int .i64 X.1.head, .slice kx1 X.1.kids.length (X.1.kids.length + sx1), .int .i64 X.2.head, .slice kx2 X.2.kids.length (X.2.kids.length + sx2)] 134, .box bj #[.int .i64 (k : Int)] 3, .box (bj + 1) #[.int .i64 YL.head, .slice ka YL.kids.length (YL.kids.length + sa), .int .i64 YR.head, .slice kb YR.kids.length (YR.kids.length + sb)] 134, .treeP (fun b => bj + 3 ≤ b ∧ b < bk) (.agg #[.int .i64 YL.head, .slice ka YL.kids.length (YL.kids.length + sa)]) YL, .treeP (fun b => bj + 3 ≤ b ∧ b < bk) (.agg #[.int .i64 YR.head, .slice kb YR.kids.length (YR.kids.length + sb)]) YR] := S15
                  obtain ⟨g1, g1f⟩ := S15.one 2
                  have hl2 := S15.lt 2
                  have hg4 := (S15.ownlt (pairE 100) 3 rfl gg rfl).1
                  have SFN := Lib.hid (S15.set1 2 rfl (.slice (some ⟨gg, 0, none⟩) (N.length + 1) cap) (by omega) (by simp only [offs, offAll, Fct.box, Fct.owns, Fct.marks, Fct.treeP, Value.ownBlock, and_true]; exact ⟨by omega, by omega, fun e => (by rcases e with e | e; (simp at e; omega); omega), fun e => (by have := ((S15.marks 4).2 _ e).2; rw [S15.block 2] at this; cases this), by omega, by omega, by omega, by omega, by omega, by omega⟩))
                  have hs15' : w13.heap.size + 1 ≤ w15.heap.size := by first | exact hs15 | (simp at hs15; exact hs15)
                  have HKK := Lib.hid (fun (hbb : Below w.heap.size V _) => kp_keeps (n₀ := w.heap.size) (m₀ := bk) (B0 := w12.heap.size) (A := V) (W := w15.setCell ⟨b4 + 1, 0, none⟩ (.slice (some ⟨gg, 0, none⟩) (N.length + 1) cap)) hbb (by simp; omega) (fun b9 o9 h9 ht => by
                    have hlt9 := (Array.getElem?_eq_some_iff.1 h9).1
                    have e1 : b9 ≠ b4 + 1 := fun e => by subst e; rw [SVH.out.block 2] at h9; obtain rfl := Option.some.inj h9; rcases ht _ _ _ rfl with h | h <;> exact absurd h (by decide)
                    have e2 : some b9 ≠ o'.ownBlock := fun e => own_ne (SVH.out.owns (pairE 100) 3) h9 (fun cs fz h => by rcases ht _ _ _ h with h | h <;> exact absurd h (by decide)) e.symm
                    exact (Below.heap_setCell _ _ _ _ e1).trans ((hgr.block b9 (by simp; omega) e2).trans ((Below.heap_alloc _ _ b9 (by simp; omega)).trans ((Below.heap_alloc w13 _ b9 (by omega)).trans (HB13.out.block b9 hlt9))))))
                  have h15 := HSN.out _ HST.out
                  have HN2 := Lib.hid (HNFS.out _ h15)
                  have HAT := Lib.hid (show ∀ c, (Value.slice (some ⟨gg, 0, none⟩) (N.length + 1) cap).ownBlock = some c → c < bj ∨ w12.heap.size ≤ c from fun c hc => by
                    have hgc : gg = c := by simpa [Value.ownBlock] using hc
                    subst hgc
                    rcases hat with h | h
                    · exact HOW.out _ h
                    · first | omega | (simp at h; omega))
                  have hs15o := hs15
                  clear S15 hat hsm hgr hgg
                  gi_wp2
                  all_goals first
                    | (exfalso; exact undef_bool (by assumption))
                    | (have hk := HKK.out ⟨SFN.out.bel.os.trans SVH.out.bel.os.symm, SFN.out.bel.tape.trans SVH.out.bel.tape.symm, SFN.out.bel.output.trans SVH.out.bel.output.symm, by simp; omega, fun b8 hb8 => (SFN.out.bel.block b8 hb8).trans (SVH.out.bel.block b8 hb8).symm⟩
                       exact ⟨hk.2, hk.1, .slice (some ⟨gg, 0, none⟩) (N.length + 1) cap, by rw [HN2.out]; exact SFN.out, ⟨by rw [HN2.out]; exact h15, by rw [HN2.out]; exact fun e => by simp at e, HAT.out⟩, by simp; omega⟩)
          case done => 
            rintro D2 xs V hD hxs ⟨o', SV, ⟨hnk, hnil, hown⟩, hV⟩ hK
            have hxs2 : xs.map NY.pt = X.1.preP [] := hxs
            rw [hxs2] at hnk
            obtain ⟨N, hN⟩ : ∃ N, N = NF xs := ⟨_, rfl⟩
            rw [← hN] at SV hnk hnil
            have HNK := Lib.hid (show innerK rs X i (k + 1) (some K) = some N by rw [innerK, HM.out, HYE.out]; unfold moveR; rw [← HYL.out, ← HYR.out, ← HSM.out]; exact hnk)
            have hm0 := SV.marks 4
            have HMK := Lib.hid (show Marks w.heap.size V (D2 :: ds2) from ⟨List.nodup_cons.2 ⟨fun hm => by have := HMD.out D2 hm; omega, hm0.1⟩, fun b2 hb2 => by
              rcases List.mem_cons.1 hb2 with rfl | hb2
              · exact ⟨by omega, hK⟩
              · exact hm0.2 b2 hb2⟩)
            have SN := ((SV.pick [0, 1, 2, 3, 4, 5, 6]).repl 4 (.marks w.heap.size (D2 :: ds2)) HMK.out)
            have SN := Lib.hid SN
            have HNV := Lib.hid hnil
            have zV := Lib.hid (show bi + 2 ≤ V.heap.size by omega)
            have HLEN := Lib.hid (show (k : Int) + 1 = ((k + 1 : Nat) : Int) by omega)
            clear hm0 hK hxs hxs2 SV hnil hN hnk hown
            go_wp2_with fail
            first
              | (refine ⟨⟨k + 1, by omega, D2 :: ds2, ⟨HLEN.out, rfl⟩, N, HNK, o', HNV, zV.out, SN.out⟩, ?_⟩
                 simp [intOf] <;> omega)
              | (refine ⟨⟨k + 1, D2 :: ds2, N, o', _, _, _, _, _, _, _, _, _, _, _, _, _, _, _, _, _, _, _, _, _, _, _, _, by omega, by rw [← HLEN.out]; rfl, HNK, HNV, zV.out, SN.out⟩, ?_⟩
                 simp [intOf] <;> omega)
          case stop => 
            rintro D2 c' pre V hD hpre ⟨o', SV, ⟨rfl, hnone⟩, hV⟩ hK
            have HNO := Lib.hid (show pairsF rs = ([], (10, 0)) from HPF.out.1 (outerK_up (i := i + 1) (by rw [outerK, HXE.out, HKO.out]; exact innerK_up (k := k + 1) (by rw [innerK, HM.out, HYE.out]; unfold moveR; rw [← HYL.out, ← HYR.out, ← HSM.out]; exact nodesK_prefix hpre hnone) (by omega)) (by omega)))
            have hm0 := SV.marks 2
            have HMK := Lib.hid (show Marks w.heap.size V (D2 :: ds2) from ⟨List.nodup_cons.2 ⟨fun hm => by have := HMD.out D2 hm; omega, hm0.1⟩, fun b2 hb2 => by
              rcases List.mem_cons.1 hb2 with rfl | hb2
              · exact ⟨by omega, hK⟩
              · exact hm0.2 b2 hb2⟩)
            have SB := Lib.hid SV
            clear hm0 hK SV hpre hnone
            gi_wp2
            refine retM_12 (D2 :: ds2) (.slice none 0 0) (.int .i64 10) (.int .i64 0) bx (bx + 1) 95 29 (SB.out.block 0) (SB.out.block 1) HMK.out SB.out.size (fun w' q0 q1 q2 => by simp [results, Try.results53, go_sem, q0, q1, q2]) ?_
            intro w' hb' _ _
            rw [HNO.out]
            exact ⟨none, 0, rfl, fun i x hi => by simp at hi, SB.out.bel.trans hb'⟩
        · obtain rfl : k = rs.length := by omega
          have HNK := Lib.hid (show outerK rs (i + 1) = some M by rw [outerK, HXE.out, HKO.out]; exact HM.out)
          have S4 := Lib.hid (S.pick [0, 1, 2, 3, 4])
          have hz := Lib.hid (show b4 + 2 ≤ W.heap.size by have := HBI.out; omega)
          have HLEN := Lib.hid (show (i : Int) + 1 = ((i + 1 : Nat) : Int) by omega)
          clear S
          go_wp2_with fail
          first
            | (refine ⟨⟨i + 1, by omega, ds2, ⟨HLEN.out, rfl⟩, M, HNK, ov2, HNL, hz.out, S4.out⟩, ?_⟩
               simp [intOf] <;> omega)
            | (refine ⟨⟨i + 1, ds2, M, ov2, _, _, _, _, _, _, _, _, _, _, _, _, _, _, _, _, _, _, _, _, _, _, _, _, _, _, _, _, _, _, _, _, _, _, by omega, by rw [← HLEN.out], HNK, HNL, hz.out, S4.out⟩, ?_⟩
               simp [intOf] <;> omega)
    · obtain rfl : i = rs.length := by omega
      have HFI := Lib.hid (HPF.out.2 K HKO.out)
      obtain ⟨uo, usp, rfl, hrow, _⟩ := (S.owns (pairE 100) 3).row (fun b h => h)
      have HRW := Lib.hid hrow
      have HMK := Lib.hid (S.marks 4)
      obtain ⟨y0, y1⟩ := S.one 2
      obtain ⟨p0, p1⟩ := S.one 0
      obtain ⟨⟨q0, q1⟩, q2, q3⟩ := S.two 1
      have hl0 := S.lt 0; have hl1 := S.lt 1
      have SB := Lib.hid ((((S.pick [0, 1, 4]).set1 0 rfl (.slice uo K.length (K.length + usp)) (by have := HBX.out; omega) (by simp only [offs, offAll, List.map, Fct.at, Fct.box, Fct.marks, and_true]; exact ⟨by omega, fun e => by have := ((S.marks 4).2 _ e).2; rw [S.block 0] at this; cases this⟩)).set2 1 rfl (.int .i64 0) (.int .i64 0) (by have := HBX.out; omega) (by simp only [fset, offs, offAll, List.map, Fct.at, Fct.box, Fct.marks, and_true]; exact ⟨by omega, fun e => by have := ((S.marks 4).2 _ e).2; rw [S.block 1] at this; cases this⟩)))
      have HRF := Lib.hid (show (pairE 100).Row (fun b => w.heap.size ≤ b) (((W.setCell ⟨bx, 0, none⟩ (.slice uo K.length (K.length + usp))).setCell ⟨bx + 1, 0, none⟩ (.int .i64 0)).setCell ⟨bx + 1, 1, none⟩ (.int .i64 0)) uo K from (hrow.keep (q := fun b => b4 + 2 ≤ b) (fun b h1 h2 => ⟨(Below.heap_setCell _ _ _ _ (by have h3 : b4 + 2 ≤ b := h1; have := HB4.out; show b ≠ bx + 1; omega)).trans ((Below.heap_setCell _ _ _ _ (by have h3 : b4 + 2 ≤ b := h1; have := HB4.out; show b ≠ bx + 1; omega)).trans (Below.heap_setCell _ _ _ _ (by have h3 : b4 + 2 ≤ b := h1; have := HB4.out; show b ≠ bx; omega))), h1⟩)).mono (fun b h _ => by have h3 : b4 + 2 ≤ b := h; have := HB4.out; have := HBX.out; omega))
      clear S hrow
      go_wp2_with fail
      refine retM_12 ds (.slice uo K.length (K.length + usp)) (.int .i64 0) (.int .i64 0) bx (bx + 1) 95 29 (SB.out.block 0) (SB.out.block 1) (SB.out.marks 2) SB.out.size (fun w' q0 q1 q2 => by simp [results, Try.results53, go_sem, q0, q1, q2]) ?_
      intro w' hb' hk' _
      rw [HFI.out]
      exact ⟨uo, usp, rfl, pairRow_past HRF.out (SB.out.marks 2) hk', SB.out.bel.trans hb'⟩
end Go.Proofs.Ytlhnfdjidjgfgaa
