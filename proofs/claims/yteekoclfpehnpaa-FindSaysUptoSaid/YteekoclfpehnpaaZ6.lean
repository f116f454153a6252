/-
  Walks: the document's True.
-/
import Derived.Test.YteekoclfpehnpaaProg
import Derived.Test.YteekoclfpehnpaaZ5
import Derived.Test.YteekoclfpehnpaaV10
import Derived.RegionTactic
import Derived.Lib.QuietBelow
import Derived.BigQuiet
namespace Go.Proofs.Yteekoclfpehnpaa
open Go.RowKit Go.Shelf
set_option linter.unusedVariables false
set_option maxHeartbeats 400000

theorem mem_treesF {fs : List Fc} {f : Fc} (h : f ∈ fs) : f.l ∈ treesF fs ∧ f.r ∈ treesF fs := by
  induction fs with
  | nil => cases h
  | cons g r ih =>
    rcases List.mem_cons.1 h with rfl | h
    · exact ⟨by simp [treesF], by simp [treesF]⟩
    · exact ⟨by simp [treesF, (ih h).1], by simp [treesF, (ih h).2]⟩
set_option maxRecDepth 100000 in
set_option maxHeartbeats 4000000 in
theorem true83 (ar : List Int) (s : Nat) (tb : List (List Int)) (hT : TabOK ar s tb) (fs : List Fc) (hok : ∀ t ∈ treesF fs, t.sig ar) (hn : fs.length ≤ 1000000) (th : List Int) (hth : ThOK s th) (hl : th.length ≤ 1000000000) (p q r : Nat → Prop) (to_ co tho : Option Addr) (ct sp c : Nat) (w : World) (hrow : intsE.Row r w to_ tb) (h : factE.Row p w co fs) (hthr : intE.Row q w tho th) :
    Calls Try.prog 83 #[.agg #[.int .i64 s, .slice to_ tb.length (tb.length + ct)], .agg #[.slice co fs.length (fs.length + sp)], .slice tho th.length c] w fun e w' => e = .returned (.bool (fs.any (factB s tb th))) ∧ Below w.heap.size w w' := by
  have HR := Lib.hid hrow; have HH := Lib.hid hthr; have HC := Lib.hid h; have HOK := Lib.hid hok
  obtain ⟨bx, hbx⟩ : ∃ b, b = w.heap.size := ⟨_, rfl⟩
  have S1 := ((St.start w).box hbx.symm #[.int .i64 s, .slice to_ tb.length (tb.length + ct)] 41).box (b := bx + 1) (by simp [hbx]) #[.slice co fs.length (fs.length + sp)] 24
  have hsz1 : ((w.alloc (.cells #[.int .i64 s, .slice to_ tb.length (tb.length + ct)] 41)).alloc (.cells #[.slice co fs.length (fs.length + sp)] 24)).heap.size = bx + 2 := by simp [hbx]
  have HBX := Lib.hid hbx
  clear hrow h hthr hok
  go_enter Try.func83, Try.ntmps83
  go_wp2_with fail
  rw [← hbx]
  refine S1.genC (z := bx + 2) (by omega) ?_
  intro w1 z1 S
  clear S1 hbx hsz1
  go_loopw [7, 8] (fun i _ wr => ∃ k : Nat, k ≤ fs.length ∧ i = .int .i64 k ∧ (∀ (j : Nat) y, j < k → fs[j]? = some y → factB s tb th y = false) ∧ bx + 2 ≤ wr.heap.size ∧ St w wr [.box bx #[.int .i64 s, .slice to_ tb.length (tb.length + ct)] 41, .box (bx + 1) #[.slice co fs.length (fs.length + sp)] 24]) (fun i _ _ => fs.length - (intOf i).toNat)
  case atStart => exact ⟨0, by omega, rfl, fun j y hj _ => by omega, z1, S⟩
  case round =>
    clear S
    obtain ⟨k, hk, rfl, hno, z2, S⟩ := hrel
    have HNO := Lib.hid hno
    clear hno
    obtain ⟨⟨x0, _⟩, x1, _⟩ := S.two 0
    obtain ⟨y0, _⟩ := S.one 1
    by_cases hlt : k < fs.length
    · have hlti : (k : Int) < (fs.length : Int) := by omega
      obtain ⟨b, off, ka, sa, kb, sb, rfl, hpb, c0, c1, c2, c3, c4, t1, t2⟩ := (HC.out.kept S.bel).fact hlt
      obtain ⟨f, hf⟩ : ∃ f, f = fs[k] := ⟨_, rfl⟩
      have HFK := Lib.hid (show fs[k]? = some f by rw [hf]; exact List.getElem?_eq_getElem hlt)
      have hs1 : f.l.sig ar := HOK.out _ (mem_treesF (List.mem_of_getElem? HFK.out)).1
      have hs2 : f.r.sig ar := HOK.out _ (mem_treesF (List.mem_of_getElem? HFK.out)).2
      rw [← hf] at c0 c1 c2 c3 c4 t1 t2
      have T1 := Lib.hid t1; have T2 := Lib.hid t2
      clear hf t1 t2
      have ca := fun d os => Calls.regrown_of (thing29 ar s tb th hT hth hl f.l hs1 r q _ to_ tho ct c (Go.Sort.grow (redrawn wr d) os) (HR.out.kept (S.regrown d os).bel) (HH.out.kept (S.regrown d os).bel) (T1.out.kept (below_regrown wr d os)).at)
      have cb := fun d os => Calls.regrown_of (thing29 ar s tb th hT hth hl f.r hs2 r q _ to_ tho ct c (Go.Sort.grow (redrawn wr d) os) (HR.out.kept (S.regrown d os).bel) (HH.out.kept (S.regrown d os).bel) (T2.out.kept (below_regrown wr d os)).at)
      obtain ⟨V, hV⟩ : ∃ V, V = f.l.ev s tb th := ⟨_, rfl⟩
      obtain ⟨U, hU⟩ : ∃ U, U = f.r.ev s tb th := ⟨_, rfl⟩
      rw [← hV] at ca
      rw [← hU] at cb
      have CA := Lib.hid ca; have CB := Lib.hid cb
      have HW := Lib.hid (show factB s tb th f = ((V == U) != f.neg) by unfold factB; rw [hV, hU]; rfl)
      have S := S.add (.cellAt b (off + k * 5) (.bool f.neg)) c0
      clear hV hU ca cb
      have r0 := cell_regrown x0; have r1 := cell_regrown x1; have r2 := cell_regrown y0
      have e1 := cell_regrown c1; have e2 := cell_regrown c2; have e3 := cell_regrown c3; have e4 := cell_regrown c4
      go_wp2_with fail
      clear x0 x1 y0 c0 c1 c2 c3 c4
      refine wp_region_quiet_below (by kernel_rfl) (by kernel_rfl) ?_
      repeat (go_big_quiet_step (first | with_reducible exact CA.out _ _ | with_reducible exact CB.out _ _))
      refine wpQuiet_nil ?_
      intro _ hw'
      obtain ⟨⟨dq, osq⟩, hw''⟩ := hw'
      subst hw''
      refine (S.regrown dq osq).genX (z := bx + 2) (Nat.le_trans z2 (below_regrown wr dq osq).size) ?_
      intro w4 z4 S4
      clear S r0 r1 r2 e1 e2 e3 e4 CA CB
      obtain ⟨B, hB⟩ : ∃ B, B = (V == U) := ⟨_, rfl⟩
      rw [← hB] at HW ⊢
      clear hB
      obtain ⟨y0, _⟩ := S4.one 1
      have c0 := S4.cellAt 2
      obtain ⟨N, hN⟩ : ∃ N, N = f.neg := ⟨_, rfl⟩
      rw [← hN] at HW c0
      clear hN
      cases B <;> cases N
      · have HN := Lib.hid (show ∀ (j : Nat) y, j < k + 1 → fs[j]? = some y → factB s tb th y = false from fun j y hj hy => by
          rcases Nat.lt_succ_iff_lt_or_eq.1 hj with h | rfl
          · exact HNO.out j y h hy
          · rw [HFK.out] at hy; obtain rfl := Option.some.inj hy; rw [HW.out]; rfl)
        go_wp2_with fail
        have S5 := S4.pick [0, 1]
        clear S4 y0 c0
        go_roundw
        case rel => exact ⟨k + 1, by omega, by go_num, HN.out, z4, S5⟩
        case measure => simp [intOf] <;> omega
      · have HF := Lib.hid (show fs.any (factB s tb th) = true from List.any_eq_true.2 ⟨f, List.mem_of_getElem? HFK.out, by rw [HW.out]; rfl⟩)
        have SE := Lib.hid S4.bel
        clear S4
        go_wp2_with fail
        go_ret
        exact ⟨ret_bool HF.out.symm, SE.out⟩
      · have HF := Lib.hid (show fs.any (factB s tb th) = true from List.any_eq_true.2 ⟨f, List.mem_of_getElem? HFK.out, by rw [HW.out]; rfl⟩)
        have SE := Lib.hid S4.bel
        clear S4
        go_wp2_with fail
        go_ret
        exact ⟨ret_bool HF.out.symm, SE.out⟩
      · have HN := Lib.hid (show ∀ (j : Nat) y, j < k + 1 → fs[j]? = some y → factB s tb th y = false from fun j y hj hy => by
          rcases Nat.lt_succ_iff_lt_or_eq.1 hj with h | rfl
          · exact HNO.out j y h hy
          · rw [HFK.out] at hy; obtain rfl := Option.some.inj hy; rw [HW.out]; rfl)
        go_wp2_with fail
        have S5 := S4.pick [0, 1]
        clear S4 y0 c0
        go_roundw
        case rel => exact ⟨k + 1, by omega, by go_num, HN.out, z4, S5⟩
        case measure => simp [intOf] <;> omega
    · obtain rfl : k = fs.length := by omega
      have HF := Lib.hid (show fs.any (factB s tb th) = false by
        rw [Bool.eq_false_iff]
        intro e
        obtain ⟨y, hy1, hy2⟩ := List.any_eq_true.1 e
        obtain ⟨j2, hj2⟩ := List.mem_iff_getElem?.1 hy1
        rw [HNO.out j2 y (List.getElem?_eq_some_iff.1 hj2).1 hj2] at hy2
        exact Bool.noConfusion hy2)
      have SE := Lib.hid S.bel
      clear S
      go_wp2_with fail
      go_ret
      exact ⟨ret_bool HF.out.symm, SE.out⟩
end Go.Proofs.Yteekoclfpehnpaa
