/-
  Walks: binds; what fit.Do says over a state; a made row.
-/
import Derived.Test.YtcckgfgobakphaaProg
import Derived.Test.YtcckgfgobakphaaBase
import Derived.Test.YtcckgfgobakphaaT41
import Derived.Test.YtcckgfgobakphaaT3
namespace Go.Proofs.Ytcckgfgobakphaa
open Go.RowKit Go.Shelf
set_option linter.unusedVariables false
set_option maxHeartbeats 400000

theorem St.fitted {P : Program} {n : Nat} {a : Array Value} {w0 w : World} {l : List Fct} (S : St w0 w l) {p t : T} (h : Calls P n a w (Do34Post p t w)) :
    Calls P n a w fun e w' => ∃ L ok c d ro rc, e = .returned (.tuple #[.slice ro L.length rc, .bool ok, .agg #[.int .i64 c, .int .i64 d]]) ∧ Hid (fitD p t = (L, ok, c, d)) ∧ w.heap.size ≤ w'.heap.size ∧
      St w0 w' (fsnoc l (.row w.heap.size w'.heap.size ro L)) :=
  h.mono fun e w' ⟨ro, rc, h1, h2, h3⟩ => ⟨(fitD p t).1, (fitD p t).2.1, (fitD p t).2.2.1, (fitD p t).2.2.2, ro, rc, h1, rfl, h3.size, (S.step h3).add (.row _ _ ro _) h2⟩
theorem St.row {w0 w : World} {l : List Fct} (S : St w0 w l) (i : Nat) {lo hi : Nat} {ao : Option Addr} {ks : List T} (h : Fct.at l i = Fct.row lo hi ao ks := by rfl) : RowP (fun b => lo ≤ b ∧ b < hi) w ao ks := by
  have := S.2 i
  rw [h] at this; exact this
theorem RowP.made {w : World} {g N : Nat} (h : w.heap[g]? = some (.cells (madeCells (Value.agg #[.int .i64 0, .slice none 0 0]).cells (N * 2)) 24 (0, 0))) (p : Nat → Prop) (hp : p g) : RowP p w (some ⟨g, 0, none⟩) (listT N (fun _ => zeroT)) := fun i hi => by
  rw [listT_length] at hi
  have e0 : (i0 : Nat) → i0 < N * 2 → (madeCells (Value.agg #[.int .i64 0, .slice none 0 0]).cells (N * 2))[i0]? = some (#[Value.int .i64 0, .slice none 0 0][i0 % 2]!) := by
    intro i0 hi0
    have hz : (Value.agg #[.int .i64 0, .slice none 0 0]).cells = #[Value.int .i64 0, .slice none 0 0] := by rfl
    rw [hz]
    simp [madeCells, hi0]
  rw [listT_gK hi]
  refine ⟨g, 0, none, 0, rfl, hp, ?_, ?_, TreeP.zero _ _⟩
  · simp only [World.cell?, h, Option.isSome_none]
    have := e0 (i * 2) (by omega)
    rw [Nat.mul_mod_left] at this
    simp only [Nat.zero_add]
    rw [this]; rfl
  · simp only [World.cell?, h, Option.isSome_none]
    have := e0 (i * 2 + 1) (by omega)
    rw [show (i * 2 + 1) % 2 = 1 by omega] at this
    simp only [Nat.zero_add]
    rw [this]; rfl
theorem make25 (N : Nat) (hN : N ≤ 1000) (w : World) : (Instr.makeSlice 25 (.int .i64 (N : Int)) (.int .i64 (N : Int))).run Try.prog w = .ok (.slice (some ⟨w.heap.size, 0, none⟩) N N) (w.alloc (.cells (madeCells (Value.agg #[.int .i64 0, .slice none 0 0]).cells (N * 2)) 24)) := by
  obtain ⟨i24, gi, gz0, gz1, gz2⟩ := info_parts info24
  have h := run_makeSlice (P := Try.prog) w 25 24 i24 (.agg #[.int .i64 0, .slice none 0 0]) Try.underlying25 gi gz0 .i64 .i64 (N : Int) (N : Int) (by omega) (Int.le_refl _) (by rw [gz1]; simp; omega) (by rw [gz2]; omega) (by omega)
  rw [gz1] at h
  simpa using h

theorem fitD_code (p t : T) : (fitD p t).2.2 = if (treeF p).1 ≠ 0 then treeF p else if (treeF t).1 ≠ 0 then ((treeF t).1, -1) else (0, 0) := by
  unfold fitD
  split
  · rfl
  · split <;> rfl
theorem fitD_bad {p t : T} {L : List T} {ok : Bool} {c d : Int} (h : fitD p t = (L, ok, c, d)) (hc : c ≠ 0) : L = [] ∧ ok = false := by
  unfold fitD at h
  split at h
  · simp at h; simp [h]
  · split at h
    · simp at h; simp [h]
    · simp at h; omega
theorem fitD_ok {p t : T} {L : List T} {ok : Bool} {d : Int} (h : fitD p t = (L, ok, 0, d)) : (treeF p).1 = 0 ∧ (treeF t).1 = 0 ∧ d = 0 ∧ L = fitLst p t ∧ ok = (fitF p t).isSome := by
  unfold fitD at h
  split at h
  · rename_i hp
    have := congrArg (fun x => x.2.2.1) h; simp at this; exact absurd this hp
  · rename_i hp
    split at h
    · rename_i ht
      have := congrArg (fun x => x.2.2.1) h; simp at this; exact absurd this ht
    · rename_i ht
      simp at h
      exact ⟨by simpa using hp, by simpa using ht, h.2.2.symm, h.1.symm, h.2.1.symm⟩


set_option maxRecDepth 100000 in
set_option maxHeartbeats 4000000 in
theorem binds36 (ks ls : List T) (ao bo : Option Addr) (ca cb : Nat) (w : World) (ha : RowAt w ao ks) (hb : RowAt w bo ls) (hka : ks.length ≤ 1000000) (hkb : ls.length ≤ 1000000) :
    Calls Try.prog 36 #[.slice ao ks.length ca, .slice bo ls.length cb] w fun e w' => e = .returned (.bool (decide (ks = ls))) ∧ Below w.heap.size w w' := by
  have HA := Lib.hid ha; have HB := Lib.hid hb; clear ha hb
  by_cases hl : ks.length = ls.length
  · have hne : ((ks.length : Int) != (ls.length : Int)) = false := by simp [hl]
    have HL := Lib.hid hl
    clear hl
    go_enter Try.func36, Try.ntmps36
    go_wp2_with fail
    go_loopw [5] (fun i wr => ∃ k : Nat, k ≤ ks.length ∧ i = .int .i64 k ∧ (∀ j, j < k → gK ks j = gK ls j) ∧ Below w.heap.size w wr) (fun i _ => ks.length - (intOf i).toNat)
    case atStart => exact ⟨0, by omega, rfl, fun j hj => by omega, Below.refl _ _⟩
    case round =>
      obtain ⟨k, hk, rfl, hno, hb⟩ := hrel
      have HNO := Lib.hid hno; clear hno
      by_cases hlt : k < ks.length
      · have hlti : (k : Int) < (ks.length : Int) := by omega
        have hlt2 : k < ls.length := by have := HL.out; omega
        have hlti2 : (k : Int) < (ls.length : Int) := by omega
        obtain ⟨b, off, ko, ksp, rfl, c1, c2, c3⟩ := (HA.out.below hb) k hlt
        obtain ⟨b2, off2, ko2, ksp2, rfl, d1, d2, d3⟩ := (HB.out.below hb) k hlt2
        have HC := Lib.hid c3; have HD := Lib.hid d3
        have r2 := cell_regrown c1; have r3 := cell_regrown c2; have r4 := cell_regrown d1; have r5 := cell_regrown d2
        have CA := Lib.hid (fun d os => Calls.regrown_of (same22 (gK ks k) (gK ls k) _ _ (Go.Sort.grow (redrawn wr d) os) (HC.out.kept (below_regrown _ d os)) (HD.out.kept (below_regrown _ d os))))
        clear c3 d3 c1 c2 d1 d2
        go_wp2_with fail
        refine wp_region_quiet_below (by kernel_rfl) (by kernel_rfl) ?_
        repeat (go_big_quiet_step (exact CA.out _ _))
        refine wpQuiet_nil ?_
        intro _ hw'
        obtain ⟨⟨dq, osq⟩, hw''⟩ := hw'
        subst hw''
        have hbq := Below.step hb (below_regrown wr dq osq)
        clear r2 r3 r4 r5
        generalize Go.Sort.grow (redrawn wr dq) osq = wq at hbq ⊢
        cases hq : decide (gK ks k = gK ls k) with
        | false =>
          have HQ := Lib.hid hq; clear hq
          go_wp2_with fail
          go_ret
          refine ⟨ret_bool ?_, hbq⟩
          have h := HQ.out
          simp only [decide_eq_false_iff_not] at h
          exact (decide_eq_false (fun e => h (by rw [e]))).symm
        | true =>
          have HQ := Lib.hid hq; clear hq
          go_wp2_with fail
          go_roundw
          case rel => exact ⟨k + 1, by omega, by go_num, fun j hj => (by rcases Nat.lt_succ_iff_lt_or_eq.1 hj with h | rfl; exact HNO.out j h; exact of_decide_eq_true HQ.out), hbq⟩
          case measure => simp [intOf] <;> omega
      · obtain rfl : k = ks.length := by omega
        go_wp2_with fail
        go_ret
        exact ⟨ret_bool (decide_eq_true (list_ext_gK HL.out HNO.out)).symm, hb⟩
  · have hne : ((ks.length : Int) != (ls.length : Int)) = true := by simp; omega
    have E0 := Lib.hid (show decide (ks = ls) = false from decide_eq_false (fun e => hl (by rw [e])))
    clear hl
    go_enter Try.func36, Try.ntmps36
    go_wp2_with fail
    go_ret
    exact ⟨ret_bool E0.out.symm, Below.refl _ _⟩
end Go.Proofs.Ytcckgfgobakphaa
