/-
  Walks: the closed fact of the unification laws; binds.
-/
import Derived.Test.YtlhnfdjidjgfgaaProg
import Derived.Test.YtlhnfdjidjgfgaaUx8
namespace Go.Proofs.Ytlhnfdjidjgfgaa
open Go.RowKit Go.Shelf
set_option linter.unusedVariables false
set_option maxHeartbeats 400000

theorem row2 {p : Nat → Prop} {w : World} {b : Nat} {a c : T} {ka kc : Option Addr} {sa sc : Nat} (h : w.heap[b]? = some (.cells #[.int .i64 a.head, .slice ka a.kids.length (a.kids.length + sa), .int .i64 c.head, .slice kc c.kids.length (c.kids.length + sc)] 38 (0, 0))) (hp : p b) (ha : TreeP p w (.agg #[.int .i64 a.head, .slice ka a.kids.length (a.kids.length + sa)]) a) (hc : TreeP p w (.agg #[.int .i64 c.head, .slice kc c.kids.length (c.kids.length + sc)]) c) : RowP p w (some ⟨b, 0, none⟩) [a, c] := fun i hi => by
  match i, hi with
  | 0, _ => exact ⟨b, 0, ka, sa, rfl, hp, by simp [World.cell?, h, gK], by simp [World.cell?, h, gK], ha⟩
  | 1, _ => exact ⟨b, 0, kc, sc, rfl, hp, by simp [World.cell?, h, gK], by simp [World.cell?, h, gK], hc⟩
def OneP (p0 : Nat → Prop) (R : T) (w : World) (e : Ending) (w' : World) : Prop := ∃ u, e = .returned u ∧ TreeP (fun b => p0 b ∨ w.heap.size ≤ b) w' u R ∧ Below w.heap.size w w'

set_option maxRecDepth 100000 in
set_option maxHeartbeats 4000000 in
theorem two39 (p0 : Nat → Prop) (h : Int) (a c : T) (v u : Value) (w : World) (hp : ∀ b, p0 b → b < w.heap.size) (ha : TreeP p0 w v a) (hc : TreeP p0 w u c) : Calls Try.prog 87 #[.int .i64 h, v, u] w (OneP p0 (.node h [a, c]) w) := by
  obtain ⟨ka, sa, rfl⟩ := ha.at.form
  obtain ⟨kc, sc, rfl⟩ := hc.at.form
  have HA := Lib.hid ha; have HP := Lib.hid hp; have HC := Lib.hid hc
  have S := ((((St.start w).box rfl #[.int .i64 a.head, .slice ka a.kids.length (a.kids.length + sa)] 38).box (b := w.heap.size + 1) (by simp) #[.int .i64 c.head, .slice kc c.kids.length (c.kids.length + sc)] 38).box (b := w.heap.size + 2) (by simp) #[.int .i64 h, .slice (some ⟨w.heap.size + 3, 0, none⟩) 2 2] 38).box (b := w.heap.size + 3) (by simp) #[.int .i64 a.head, .slice ka a.kids.length (a.kids.length + sa), .int .i64 c.head, .slice kc c.kids.length (c.kids.length + sc)] 38
  have S0 := (((St.start w).box rfl #[.int .i64 a.head, .slice ka a.kids.length (a.kids.length + sa)] 38).box (b := w.heap.size + 1) (by simp) #[.int .i64 c.head, .slice kc c.kids.length (c.kids.length + sc)] 38).box (b := w.heap.size + 2) (by simp) #[.int .i64 0, .slice none 0 0] 38
  obtain ⟨⟨x0, _⟩, x1, _⟩ := S0.two 0
  obtain ⟨⟨y0, _⟩, y1, _⟩ := S0.two 1
  clear ha hp hc S0
  go_enter Try.func87, Try.ntmps87
  go_wp2_with fail
  refine ret_box2 (.int .i64 h) (.slice (some ⟨w.heap.size + 3, 0, none⟩) 2 2) (w.heap.size + 2) 38 (S.block 2) (fun w' q0 q1 => by simp [results, Try.results87, go_sem, q0, q1]) rfl ?_
  refine ⟨_, rfl, ?_, S.bel⟩
  exact TreeP.close (h := h) (sp := 0) (row2 (S.block 3) (.inr (by omega)) ((HA.out.kept S.bel).mono (fun b h _ => .inl h)) ((HC.out.kept S.bel).mono (fun b h _ => .inl h))) (by unfold maxLen; simp)

set_option maxRecDepth 100000 in
set_option maxHeartbeats 4000000 in
theorem binds35 (ks ls : List T) (ao bo : Option Addr) (ca cb : Nat) (w : World) (ha : RowAt w ao ks) (hb : RowAt w bo ls) (hka : ks.length ≤ 1000000) (hkb : ls.length ≤ 1000000) :
    Calls Try.prog 35 #[.slice ao ks.length ca, .slice bo ls.length cb] w fun e w' => e = .returned (.bool (decide (ks = ls))) ∧ Below w.heap.size w w' := by
  have HA := Lib.hid ha; have HB := Lib.hid hb; clear ha hb
  by_cases hl : ks.length = ls.length
  · have hne : ((ks.length : Int) != (ls.length : Int)) = false := by simp [hl]
    have HL := Lib.hid hl
    clear hl
    go_enter Try.func35, Try.ntmps35
    go_wp2_with fail
    go_loopw [5] (fun i wr => ∃ k : Nat, k ≤ ks.length ∧ i = .int .i64 k ∧ (∀ j, j < k → gK ks j = gK ls j) ∧ Below w.heap.size w wr) (fun i _ => ks.length - (intOf i).toNat)
    case atStart => exact ⟨0, by omega, rfl, fun j hj => by omega, Below.refl _ _⟩
    case round =>
      obtain ⟨k, hk, rfl, hno, hb⟩ := hrel
      have HNO := Lib.hid hno; clear hno
      by_cases hlt : k < ks.length
      · have hlti : (k : Int) < (ks.length : Int) := by omega
        have hlt2 : k < ls.length := by have := HL.out; omega
        have hlti2 : (k : Int) < (ls.length : Int) := by omega
        obtain ⟨b, off, ko, ksp, rfl, c1, c2, c3⟩ := (HA.out.below hb) k hlt
        obtain ⟨b2, off2, ko2, ksp2, rfl, d1, d2, d3⟩ := (HB.out.below hb) k hlt2
        have HC := Lib.hid c3; have HD := Lib.hid d3
        have r2 := cell_regrown c1; have r3 := cell_regrown c2; have r4 := cell_regrown d1; have r5 := cell_regrown d2
        have CA := Lib.hid (fun d os => Calls.regrown_of (same22 (gK ks k) (gK ls k) _ _ (Go.Sort.grow (redrawn wr d) os) (HC.out.kept (below_regrown _ d os)) (HD.out.kept (below_regrown _ d os))))
        clear c3 d3 c1 c2 d1 d2
        go_wp2_with fail
        refine wp_region_quiet_below (by kernel_rfl) (by kernel_rfl) ?_
        repeat (go_big_quiet_step (exact CA.out _ _))
        refine wpQuiet_nil ?_
        intro _ hw'
        obtain ⟨⟨dq, osq⟩, hw''⟩ := hw'
        subst hw''
        have hbq := Below.step hb (below_regrown wr dq osq)
        clear r2 r3 r4 r5
        generalize Go.Sort.grow (redrawn wr dq) osq = wq at hbq ⊢
        cases hq : decide (gK ks k = gK ls k) with
        | false =>
          have HQ := Lib.hid hq; clear hq
          go_wp2_with fail
          go_ret
          refine ⟨ret_bool ?_, hbq⟩
          have h := HQ.out
          simp only [decide_eq_false_iff_not] at h
          exact (decide_eq_false (fun e => h (by rw [e]))).symm
        | true =>
          have HQ := Lib.hid hq; clear hq
          go_wp2_with fail
          go_roundw
          case rel => exact ⟨k + 1, by omega, by go_num, fun j hj => (by rcases Nat.lt_succ_iff_lt_or_eq.1 hj with h | rfl; exact HNO.out j h; exact of_decide_eq_true HQ.out), hbq⟩
          case measure => simp [intOf] <;> omega
      · obtain rfl : k = ks.length := by omega
        go_wp2_with fail
        go_ret
        exact ⟨ret_bool (decide_eq_true (list_ext_gK HL.out HNO.out)).symm, hb⟩
  · have hne : ((ks.length : Int) != (ls.length : Int)) = true := by simp; omega
    have E0 := Lib.hid (show decide (ks = ls) = false from decide_eq_false (fun e => hl (by rw [e])))
    clear hl
    go_enter Try.func35, Try.ntmps35
    go_wp2_with fail
    go_ret
    exact ⟨ret_bool E0.out.symm, Below.refl _ _⟩

end Go.Proofs.Ytlhnfdjidjgfgaa
