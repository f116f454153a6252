/-
  Walks: the document's Same of trees.
-/
import Derived.Test.YteekoclfpehnpaaProg
import Derived.Test.YteekoclfpehnpaaBase
import Derived.Test.YteekoclfpehnpaaT2
namespace Go.Proofs.Yteekoclfpehnpaa
open Go.RowKit Go.Shelf
set_option linter.unusedVariables false

noncomputable instance : DecidableEq T := fun _ _ => Classical.propDecidable _
theorem T.ext_of {a b : T} (h : a.head = b.head) (hl : a.kids.length = b.kids.length) (hk : ∀ j, j < a.kids.length → gK a.kids j = gK b.kids j) : a = b := by
  cases a with
  | node ha ka =>
    cases b with
    | node hb kb =>
      simp only [T.head, T.kids] at h hl hk
      subst h
      have : ka = kb := List.ext_getElem hl fun j h1 h2 => by rw [← gK_get h1, ← gK_get h2, hk j h1]
      rw [this]

set_option maxRecDepth 100000 in
set_option maxHeartbeats 4000000 in
theorem same22 (t : T) : ∀ (s : T) (v u : Value) (w : World), TreeAt w v t → TreeAt w u s →
    Calls Try.prog 41 #[v, u] w fun e w' => e = .returned (.bool (decide (t = s))) ∧ Below w.heap.size w w' := by
  induction t using T.ind with
  | h t ih =>
  intro s v u w ht hs
  obtain ⟨ao, sp, rfl, hr, hml⟩ := ht.open
  obtain ⟨ao2, sp2, rfl, hr2, hml2⟩ := hs.open
  have hml : t.kids.length ≤ 9223372036854775807 := hml
  have hml2 : s.kids.length ≤ 9223372036854775807 := hml2
  have HR := Lib.hid hr; have HR2 := Lib.hid hr2; have IH := Lib.hid ih
  clear ht hr hs hr2 ih
  have hbx := heap_alloc_old (o' := .cells #[.int .i64 s.head, .slice ao2 s.kids.length (s.kids.length + sp2)] 44) (heap_ofAlloc w (.cells #[.int .i64 t.head, .slice ao t.kids.length (t.kids.length + sp)] 44))
  have hby := heap_ofAlloc (w.alloc (.cells #[.int .i64 t.head, .slice ao t.kids.length (t.kids.length + sp)] 44)) (.cells #[.int .i64 s.head, .slice ao2 s.kids.length (s.kids.length + sp2)] 44)
  rw [World.size_alloc] at hby
  have hb0 := ((Below.refl w.heap.size w).alloc (Nat.le_refl _) (.cells #[.int .i64 t.head, .slice ao t.kids.length (t.kids.length + sp)] 44)).alloc (by simp) (.cells #[.int .i64 s.head, .slice ao2 s.kids.length (s.kids.length + sp2)] 44)
  by_cases hh : t.head = s.head
  · have hne : (t.head != s.head) = false := by simp [hh]
    by_cases hl : t.kids.length = s.kids.length
    · have hne2 : ((t.kids.length : Int) != (s.kids.length : Int)) = false := by simp [hl]
      have HL := Lib.hid hl; have HH := Lib.hid hh
      clear hl hh
      go_enter Try.func41, Try.ntmps41
      go_wp2_with fail
      generalize (w.alloc (.cells #[.int .i64 t.head, .slice ao t.kids.length (t.kids.length + sp)] 44)).alloc (.cells #[.int .i64 s.head, .slice ao2 s.kids.length (s.kids.length + sp2)] 44) = w0 at hbx hby hb0 ⊢
      have XB := Lib.hid hbx; have YB := Lib.hid hby; have HB0 := Lib.hid hb0
      clear hbx hby
      go_loopw [5] (fun i wr => ∃ (k : Nat), k ≤ t.kids.length ∧ i = .int .i64 k ∧ (∀ j, j < k → gK t.kids j = gK s.kids j) ∧ Below w0.heap.size w0 wr) (fun i _ => t.kids.length - (intOf i).toNat)
      case atStart => exact ⟨0, by omega, rfl, fun j hj => by omega, Below.refl _ _⟩
      case round =>
        obtain ⟨k, hk, rfl, hno, hb⟩ := hrel
        have HNO := Lib.hid hno; clear hno
        obtain ⟨⟨x0, _⟩, x1, _⟩ := box2 (Below.heapAt hb XB.out)
        obtain ⟨⟨y0, _⟩, y1, _⟩ := box2 (Below.heapAt hb YB.out)
        clear x0 y0
        by_cases hlt : k < t.kids.length
        · have hlt2 : k < s.kids.length := by have := HL.out; omega
          obtain ⟨b, off, ko, ksp, rfl, c1, c2, c3⟩ := (HR.out.below (Below.step HB0.out hb)) k hlt
          obtain ⟨b2, off2, ko2, ksp2, rfl, d1, d2, d3⟩ := (HR2.out.below (Below.step HB0.out hb)) k hlt2
          have HC := Lib.hid c3; have HD := Lib.hid d3
          clear c3 d3
          have r0 := cell_regrown x1
          have r1 := cell_regrown y1
          have r2 := cell_regrown c1
          have r3 := cell_regrown c2
          have r4 := cell_regrown d1
          have r5 := cell_regrown d2
          have CA := Lib.hid (fun d os => Calls.regrown_of (IH.out k hlt (gK s.kids k) _ _ (Go.Sort.grow (redrawn wr d) os) (HC.out.kept (below_regrown _ d os)) (HD.out.kept (below_regrown _ d os))))
          cases hq : decide (gK t.kids k = gK s.kids k) with
          | false =>
            rw [hq] at CA
            have HQ := Lib.hid hq; clear hq
            go_wp2_with fail
            refine wp_region_quiet_below (by kernel_rfl) (by kernel_rfl) ?_
            repeat (go_big_quiet_step (exact CA.out _ _))
            refine wpQuiet_nil ?_
            intro _ hw'
            obtain ⟨⟨dq, osq⟩, hw''⟩ := hw'
            subst hw''
            have hbq := Below.step hb (below_regrown wr dq osq)
            clear r0 r1 r2 r3 r4 r5
            generalize Go.Sort.grow (redrawn wr dq) osq = wq at hbq ⊢
            go_wp2_with fail
            go_ret
            refine ⟨ret_bool ?_, Below.step HB0.out hbq⟩
            have h := HQ.out
            simp only [decide_eq_false_iff_not] at h
            exact (decide_eq_false (fun e => h (by rw [e]))).symm
          | true =>
            rw [hq] at CA
            have HQ := Lib.hid hq; clear hq
            go_wp2_with fail
            refine wp_region_quiet_below (by kernel_rfl) (by kernel_rfl) ?_
            repeat (go_big_quiet_step (exact CA.out _ _))
            refine wpQuiet_nil ?_
            intro _ hw'
            obtain ⟨⟨dq, osq⟩, hw''⟩ := hw'
            subst hw''
            have hbq := Below.step hb (below_regrown wr dq osq)
            clear r0 r1 r2 r3 r4 r5
            generalize Go.Sort.grow (redrawn wr dq) osq = wq at hbq ⊢
            go_wp2_with fail
            go_roundw
            case rel => exact ⟨k + 1, by omega, by go_num, fun j hj => (by rcases Nat.lt_succ_iff_lt_or_eq.1 hj with h | rfl; exact HNO.out j h; exact of_decide_eq_true HQ.out), hbq⟩
            case measure => simp [intOf] <;> omega
        · obtain rfl : k = t.kids.length := by omega
          go_wp2_with fail
          go_ret
          exact ⟨ret_bool (decide_eq_true (T.ext_of HH.out HL.out HNO.out)).symm, Below.step HB0.out hb⟩
    · have hne2 : ((t.kids.length : Int) != (s.kids.length : Int)) = true := by simp; omega
      have E0 := Lib.hid (show decide (t = s) = false from decide_eq_false (fun e => hl (by rw [e])))
      clear hl hh
      go_enter Try.func41, Try.ntmps41
      go_wp2_with fail
      go_ret
      exact ⟨ret_bool E0.out.symm, hb0⟩
  · have hne : (t.head != s.head) = true := by simp [hh]
    have E0 := Lib.hid (show decide (t = s) = false from decide_eq_false (fun e => hh (by rw [e])))
    clear hh
    go_enter Try.func41, Try.ntmps41
    go_wp2_with fail
    go_ret
    exact ⟨ret_bool E0.out.symm, hb0⟩
end Go.Proofs.Yteekoclfpehnpaa
