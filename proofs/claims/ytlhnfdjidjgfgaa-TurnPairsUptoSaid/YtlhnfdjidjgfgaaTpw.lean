/-
  Walk: the law TurnPairs.
-/
import Derived.Test.YtlhnfdjidjgfgaaProg
import Derived.Test.YtlhnfdjidjgfgaaCr
import Derived.Test.YtlhnfdjidjgfgaaPz
import Derived.Test.YtlhnfdjidjgfgaaS4a
import Derived.Deep.CutBlock
import Derived.Deep.DeepCutAuto
import Derived.RegionTactic
import Derived.BigQuiet
namespace Go.Proofs.Ytlhnfdjidjgfgaa
open Go.RowKit Go.Shelf
set_option linter.unusedVariables false
set_option maxHeartbeats 400000

theorem vastR_small {rs : List Ru} (h : vastR rs = false) : rs.length ≤ 40 ∧ ∀ (i : Nat) f, rs[i]? = some f → f.1.size ≤ 200 ∧ f.2.size ≤ 200 := by
  unfold vastR at h
  rw [Bool.or_eq_false_iff] at h
  refine ⟨by have := of_decide_eq_false h.2; omega, fun i f hf => ?_⟩
  have h1 := List.any_eq_false.1 h.1 f (List.mem_of_getElem? hf)
  unfold bigR at h1
  simp only [Bool.or_eq_true, decide_eq_true_eq, not_or] at h1
  omega
theorem same22t (t : T) (v u : Value) (w : World) (h1 : TreeAt w v t) (h2 : TreeAt w u t) : Calls Try.prog 38 #[v, u] w fun e w' => e = .returned (.bool true) ∧ Below w.heap.size w w' :=
  (same22 t t v u w h1 h2).mono fun e w' ⟨h, hb⟩ => ⟨by rw [h]; simp, hb⟩

set_option maxRecDepth 100000 in
set_option maxHeartbeats 8000000 in
theorem turnPairs14 (rs : List Ru) (p0 : Nat → Prop) (ao : Option Addr) (c : Nat) (w : World) (hrow : ruleE.Row p0 w ao rs) (hp : ∀ b, p0 b → b < w.heap.size) (hn : rs.length ≤ 1000000)
    (hs : ∀ (i : Nat) f, rs[i]? = some f → f.1.size ≤ 1048576 ∧ f.2.size ≤ 1048576) :
    Calls Try.prog 14 #[.slice ao rs.length c] w fun e w' => e = .returned (.bool true) ∧ Below w.heap.size w w' := by
  have HP := Lib.hid hp; have HW := Lib.hid hrow; have HS := Lib.hid hs
  have S := St.start w
  clear hp hrow hs
  go_enter Try.func14, Try.ntmps14
  go_wp2_with fail
  refine (S.quiet (vastR42 rs p0 ao c w (HW.out.kept S.bel) (by omega) (fun i f hf => by have := HS.out i f hf; omega))).mono ?_
  rintro e w2 ⟨rfl, z2, S2⟩
  clear S
  cases hv : vastR rs with
  | true =>
    have SE := Lib.hid S2.bel
    clear S2 hv
    go_wp2_with fail
    go_ret
    exact ⟨rfl, SE.out⟩
  | false =>
    have HVR := Lib.hid (vastR_small hv)
    clear hv
    go_wp2_with fail
    refine (S2.faultF (rules43 rs p0 ao c w2 (HW.out.kept S2.bel) (by omega) (fun i f hf => by have := HVR.out.2 i f hf; omega))).mono ?_
    rintro e w4 ⟨rc, rd, rfl, HRC, z4, S4⟩
    clear S2
    obtain ⟨b7, hb7⟩ : ∃ b, b = w4.heap.size := ⟨_, rfl⟩
    have S5 := S4.box hb7.symm #[.int .i64 rc, .int .i64 rd] 29
    have z5 : b7 + 1 ≤ (w4.alloc (.cells #[.int .i64 rc, .int .i64 rd] 29)).heap.size := by simp [hb7]
    have HB7 := Lib.hid (show w.heap.size ≤ b7 by omega)
    clear S4
    go_wp2_with fail
    rw [← hb7]
    refine S5.gen (z := b7 + 1) z5 ?_
    intro w5 z6 S
    clear S5 z5 hb7
    refine (pairs53 rs p0 ao c w5 (fun b hb => by have := HP.out b hb; have := S.bel.size; omega) (HW.out.kept S.bel) (by omega)).mono ?_
    rintro e w6 ⟨ro, sp, rfl, hrow6, hb6⟩
    obtain ⟨⟨R, fc, fd⟩, hr⟩ : ∃ r, r = pairsF rs := ⟨_, rfl⟩
    rw [← hr] at hrow6 ⊢
    have HR := Lib.hid hr
    simp only [FV]
    dsimp only at hrow6
    have S6 := (S.step hb6).add (.rowE (pairE 100) (fun b => b7 + 1 ≤ b) ro R) (hrow6.mono (fun b h _ => Nat.le_trans z6 h))
    obtain ⟨b8, hb8⟩ : ∃ b, b = w6.heap.size := ⟨_, rfl⟩
    have S7 := S6.box hb8.symm #[.int .i64 fc, .int .i64 fd] 29
    have z7 : b8 + 1 ≤ (w6.alloc (.cells #[.int .i64 fc, .int .i64 fd] 29)).heap.size := by simp [hb8]
    have HB8 := Lib.hid (show b7 + 1 ≤ b8 by have := hb6.size; omega)
    obtain ⟨⟨x0, _⟩, x1, _⟩ := S7.two 0
    clear S S6 hrow6 hb6 hr z6
    by_cases hrc : rc = 0
    case neg =>
      have hrb : (rc != 0) = true := by simpa using hrc
      have HE := Lib.hid (show (R, fc, fd) = (([] : List Ru), rc, rd) by rw [HR.out]; unfold pairsF; rw [if_pos (by rw [HRC.out]; exact hrc), HRC.out])
      obtain ⟨rfl, rfl, rfl⟩ : R = [] ∧ fc = rc ∧ fd = rd := by have h := HE.out; simp only [Prod.mk.injEq] at h; exact h
      have SE := Lib.hid S7.bel
      obtain ⟨⟨y0, _⟩, y1, _⟩ := S7.two 2
      clear HE HR HRC hrc
      go_wp2_with fail
      go_ret
      exact ⟨rfl, SE.out⟩
    case pos =>
    have HZ := Lib.hid (rulesF_zero (show (rulesF rs).1 = 0 by rw [HRC.out]; exact hrc))
    have hrb : (rc != 0) = false := by simp [hrc]
    have HNE := Lib.hid (show ¬ (rulesF rs).1 ≠ 0 by rw [HRC.out]; simpa using hrc)
    clear hrc HRC
    go_wp2_with fail
    rw [← hb8]
    refine S7.gen (z := b8 + 1) z7 ?_
    intro w8 z8 S
    clear S7 z7 hb8 x0 x1
    refine (critical54 rs p0 ao c w8 (fun b hb => by have := HP.out b hb; have := S.bel.size; omega) (HW.out.kept S.bel) HZ.out.1 HZ.out.2).mono ?_
    rintro e w9 ⟨L, how, lo, lsp, rfl, HA, hrowL, hb9⟩
    have S9 := (S.step hb9).add (.rowE (pairE 100) (fun b => b8 + 1 ≤ b) lo L) (hrowL.mono (fun b h _ => Nat.le_trans z8 h))
    have z9 : b8 + 1 ≤ w9.heap.size := Nat.le_trans z8 hb9.size
    clear S hrowL hb9 z8
    rcases HA with ⟨rfl, rfl⟩ | ⟨rfl, rfl, hno⟩ | ⟨rfl, hso⟩
    · have SE := Lib.hid S9.bel
      clear S9 HR HNE HZ
      go_wp2_with fail
      go_ret
      exact ⟨rfl, SE.out⟩
    · have HE := Lib.hid (show (R, fc, fd) = (([] : List Ru), (10 : Int), (0 : Int)) by rw [HR.out]; unfold pairsF; rw [if_neg HNE.out, hno])
      obtain ⟨rfl, rfl, rfl⟩ : R = [] ∧ fc = 10 ∧ fd = 0 := by have h := HE.out; simp only [Prod.mk.injEq] at h; exact h
      clear HE HR HNE HZ hno
      go_upto_region 11 with fail
      obtain ⟨⟨x0, _⟩, x1, _⟩ := S9.two 2
      have CA := Lib.hid (fun d os => Calls.regrown_of (fault20 10 0 (Go.Sort.grow (redrawn w9 d) os)))
      have r0 := cell_regrown x0; have r1 := cell_regrown x1
      clear x0 x1
      refine wp_region_quiet_below (by kernel_rfl) (by kernel_rfl) ?_
      repeat (go_big_quiet_step (exact CA.out _ _))
      refine wpQuiet_nil ?_
      intro _ hw'
      obtain ⟨⟨dq, osq⟩, hw''⟩ := hw'
      subst hw''
      have SE := Lib.hid (S9.regrown dq osq).bel
      clear r0 r1 CA S9
      go_wp2_with fail
      go_ret
      exact ⟨rfl, SE.out⟩
    · have HE := Lib.hid (show (R, fc, fd) = (L, (0 : Int), (0 : Int)) by rw [HR.out]; unfold pairsF; rw [if_neg HNE.out, hso])
      obtain ⟨rfl, rfl, rfl⟩ : R = L ∧ fc = 0 ∧ fd = 0 := by have h := HE.out; simp only [Prod.mk.injEq] at h; exact h
      clear HE HR HNE
      have HLB := Lib.hid (show R.length ≤ 36000 from by
        have h1 := outerK_len (fun f hf => (ok_parts (HZ.out.2 f hf).1).2.1) (Nat.le_refl _) hso
        have h2 : rs.length * (rs.length * 40) ≤ 30 * 1200 := Nat.mul_le_mul HZ.out.1 (by have := HZ.out.1; omega)
        omega)
      clear hso
      obtain ⟨⟨x0, _⟩, x1, _⟩ := S9.two 2
      have S9 := S9.pick [1, 3]
      go_wp2_with fail
      clear x0 x1
      go_loopw [8] (fun i wr => ∃ k : Nat, k ≤ R.length ∧ i = .int .i64 k ∧ St w wr [.rowE (pairE 100) (fun b => b7 + 1 ≤ b) ro R, .rowE (pairE 100) (fun b => b8 + 1 ≤ b) lo R]) (fun i _ => R.length - (intOf i).toNat)
      case atStart => exact ⟨0, by omega, rfl, S9⟩
      case round =>
        clear S9 z9
        obtain ⟨k, hk, rfl, S⟩ := hrel
        by_cases hlt : k < R.length
        case neg =>
          obtain rfl : k = R.length := by omega
          have SE := Lib.hid S.bel
          clear S
          go_wp2_with fail
          go_ret
          exact ⟨rfl, SE.out⟩
        case pos =>
        have hlti : (k : Int) < (R.length : Int) := by omega
        obtain ⟨b1, o1, k1, s1, k2, s2, rfl, _, a0, a1, a2, a3, t1, t2⟩ := (S.rowE (pairE 100) 0).pair (List.getElem?_eq_getElem hlt)
        obtain ⟨b2, o2, k3, s3, k4, s4, rfl, _, c0, c1, c2, c3, t3, t4⟩ := (S.rowE (pairE 100) 1).pair (List.getElem?_eq_getElem hlt)
        obtain ⟨X, hX⟩ : ∃ X, X = R[k] := ⟨_, rfl⟩
        rw [← hX] at a0 a1 a2 a3 t1 t2 c0 c1 c2 c3 t3 t4
        have T1 := Lib.hid t1; have T2 := Lib.hid t2; have T3 := Lib.hid t3; have T4 := Lib.hid t4
        have hlb := HLB.out
        clear hX t1 t2 t3 t4
        have CA := Lib.hid (fun d os => Calls.regrown_of (same22t X.1 _ _ (Go.Sort.grow (redrawn wr d) os) (T1.out.at.kept (below_regrown wr d os)) (T3.out.at.kept (below_regrown wr d os))))
        have CB := Lib.hid (fun d os => Calls.regrown_of (same22t X.2 _ _ (Go.Sort.grow (redrawn wr d) os) (T2.out.at.kept (below_regrown wr d os)) (T4.out.at.kept (below_regrown wr d os))))
        go_upto_region 17 with fail
        have r0 := cell_regrown a0; have r1 := cell_regrown a1; have r2 := cell_regrown a2; have r3 := cell_regrown a3
        have q0 := cell_regrown c0; have q1 := cell_regrown c1; have q2 := cell_regrown c2; have q3 := cell_regrown c3
        clear a0 a1 a2 a3 c0 c1 c2 c3
        refine wp_region_quiet_below (by kernel_rfl) (by kernel_rfl) ?_
        iterate 13 (go_big_quiet_step (exact CA.out _ _))
        iterate 13 (go_big_quiet_step (exact CB.out _ _))
        refine wpQuiet_nil ?_
        intro _ hw'
        obtain ⟨⟨dq, osq⟩, hw''⟩ := hw'
        subst hw''
        have SN := Lib.hid (S.regrown dq osq)
        clear r0 r1 r2 r3 q0 q1 q2 q3 CA CB S
        go_wp2_with fail
        go_roundw
        case rel => exact ⟨k + 1, by omega, by go_num, SN.out⟩
        case measure => simp [intOf] <;> omega
end Go.Proofs.Ytlhnfdjidjgfgaa
