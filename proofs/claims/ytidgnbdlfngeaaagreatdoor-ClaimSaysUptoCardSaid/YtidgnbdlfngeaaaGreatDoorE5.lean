/-
  Walks: are two facts, two claims the same?
-/
import Derived.Test.YtidgnbdlfngeaaaGreatDoorProg
import Derived.Test.YtidgnbdlfngeaaaGreatDoorXd
import Derived.Test.YtidgnbdlfngeaaaGreatDoorXa
namespace Go.Proofs.YtidgnbdlfngeaaaGreatDoor
open Go.RowKit Go.Shelf
set_option linter.unusedVariables false
set_option maxHeartbeats 400000

noncomputable instance : DecidableEq Fc := fun _ _ => Classical.propDecidable _
theorem St.cell {w0 w : World} {l : List Fct} (S : St w0 w l) (i : Nat) {b : Nat} {cs : Array Value} {T : TypeId} (j : Nat) {v : Value} (hj : cs[j]? = some v) (hi : Fct.at l i = Fct.box b cs T := by rfl) : w.cell? ⟨b, j, none⟩ = some v ∧ w.frozen? ⟨b, j, none⟩ = false := by
  have h := S.block i hi
  simp [World.cell?, World.frozen?, h, hj]
theorem Fc.ext_of {f g : Fc} (h1 : f.neg = g.neg) (h2 : f.l = g.l) (h3 : f.r = g.r) : f = g := by
  cases f; cases g; simp at h1 h2 h3; subst h1 h2 h3; rfl

set_option maxRecDepth 100000 in
set_option maxHeartbeats 4000000 in
theorem sameFact67 (f g : Fc) (k k2 j j2 : Option Addr) (sp sp2 sq sq2 : Nat) (w : World) (h1 : TreeAt w (.agg #[.int .i64 f.l.head, .slice k f.l.kids.length (f.l.kids.length + sp)]) f.l) (h2 : TreeAt w (.agg #[.int .i64 f.r.head, .slice k2 f.r.kids.length (f.r.kids.length + sp2)]) f.r)
    (h3 : TreeAt w (.agg #[.int .i64 g.l.head, .slice j g.l.kids.length (g.l.kids.length + sq)]) g.l) (h4 : TreeAt w (.agg #[.int .i64 g.r.head, .slice j2 g.r.kids.length (g.r.kids.length + sq2)]) g.r) :
    Calls Tryz.prog 49 #[.agg #[.bool f.neg, .int .i64 f.l.head, .slice k f.l.kids.length (f.l.kids.length + sp), .int .i64 f.r.head, .slice k2 f.r.kids.length (f.r.kids.length + sp2)],
      .agg #[.bool g.neg, .int .i64 g.l.head, .slice j g.l.kids.length (g.l.kids.length + sq), .int .i64 g.r.head, .slice j2 g.r.kids.length (g.r.kids.length + sq2)]] w fun e w' => e = .returned (.bool (decide (f = g))) ∧ Below w.heap.size w w' := by
  have H1 := Lib.hid h1; have H2 := Lib.hid h2; have H3 := Lib.hid h3; have H4 := Lib.hid h4
  clear h1 h2 h3 h4
  obtain ⟨bx, hbx⟩ : ∃ b, b = w.heap.size := ⟨_, rfl⟩
  have S := ((St.start w).box hbx.symm #[.bool f.neg, .int .i64 f.l.head, .slice k f.l.kids.length (f.l.kids.length + sp), .int .i64 f.r.head, .slice k2 f.r.kids.length (f.r.kids.length + sp2)] 53).box (b := bx + 1) (by simp [hbx]) #[.bool g.neg, .int .i64 g.l.head, .slice j g.l.kids.length (g.l.kids.length + sq), .int .i64 g.r.head, .slice j2 g.r.kids.length (g.r.kids.length + sq2)] 53
  by_cases hn : f.neg = g.neg
  · have hnb : (f.neg == g.neg) = true := by simp [hn]
    have HN := Lib.hid hn
    clear hn
    go_enter Tryz.func49, Tryz.ntmps49
    go_wp2_with fail
    refine S.gen (z := bx + 2) (by simp [hbx]) ?_
    intro w1 z1 S1
    clear S
    refine (S1.quiet (same22 f.l g.l _ _ w1 (H1.out.kept S1.bel) (H3.out.kept S1.bel))).mono ?_
    rintro e w2 ⟨rfl, z2, S2⟩
    clear S1
    cases hv : decide (f.l = g.l) with
    | false =>
      have HF := Lib.hid (show decide (f = g) = false from decide_eq_false (fun e => of_decide_eq_false hv (by rw [e])))
      have SE := Lib.hid S2.bel
      clear hv S2
      go_wp2_with fail
      go_ret
      exact ⟨ret_bool HF.out.symm, SE.out⟩
    | true =>
      have HL := Lib.hid (of_decide_eq_true hv)
      clear hv
      obtain ⟨x3, _⟩ := S2.cell 0 3 rfl
      obtain ⟨x4, _⟩ := S2.cell 0 4 rfl
      obtain ⟨y3, _⟩ := S2.cell 1 3 rfl
      obtain ⟨y4, _⟩ := S2.cell 1 4 rfl
      rw [hbx] at x3 x4 y3 y4
      go_wp2_with fail
      refine (S2.quiet (same22 f.r g.r _ _ w2 (H2.out.kept S2.bel) (H4.out.kept S2.bel))).mono ?_
      rintro e w3 ⟨rfl, z3, S3⟩
      have HV := Lib.hid (show decide (f.r = g.r) = decide (f = g) from decide_eq_decide.2 ⟨fun e => Fc.ext_of HN.out HL.out e, fun e => by rw [e]⟩)
      have SE := Lib.hid S3.bel
      clear S2 S3 x3 x4 y3 y4
      go_wp2_with fail
      go_ret
      exact ⟨ret_bool HV.out, SE.out⟩
  · have hnb : (f.neg == g.neg) = false := by simpa using hn
    have HF := Lib.hid (show decide (f = g) = false from decide_eq_false (fun e => hn (by rw [e])))
    have SE := Lib.hid S.bel
    clear hn S
    go_enter Tryz.func49, Tryz.ntmps49
    go_wp2_with fail
    go_ret
    exact ⟨ret_bool HF.out.symm, SE.out⟩

set_option maxRecDepth 100000 in
set_option maxHeartbeats 4000000 in
theorem sameClaim20 (fs gs : List Fc) (p q : Nat → Prop) (ao bo : Option Addr) (ca cb : Nat) (w : World) (h : factE.Row p w ao fs) (h2 : factE.Row q w bo gs) (hn : fs.length ≤ 1000000) (hm : gs.length ≤ 1000000) :
    Calls Tryz.prog 35 #[.agg #[.slice ao fs.length ca], .agg #[.slice bo gs.length cb]] w fun e w' => e = .returned (.bool (decide (fs = gs))) ∧ Below w.heap.size w w' := by
  have HR := Lib.hid h; have HQ := Lib.hid h2
  obtain ⟨bx, hbx⟩ : ∃ b, b = w.heap.size := ⟨_, rfl⟩
  have S := ((St.start w).box hbx.symm #[.slice ao fs.length ca] 42).box (b := bx + 1) (by simp [hbx]) #[.slice bo gs.length cb] 42
  clear h h2
  by_cases hl : fs.length = gs.length
  · have hne : ((fs.length : Int) != (gs.length : Int)) = false := by simp [hl]
    have HL := Lib.hid hl
    clear hl
    go_enter Tryz.func35, Tryz.ntmps35
    go_wp2_with fail
    refine S.genC (z := bx + 2) (by simp [hbx]) ?_
    rw [← hbx]
    intro w1 z1 S1
    clear S hbx
    go_loopw [5] (fun i wr => ∃ k : Nat, k ≤ fs.length ∧ i = .int .i64 k ∧ (∀ (j : Nat) f, j < k → fs[j]? = some f → gs[j]? = some f) ∧ bx + 2 ≤ wr.heap.size ∧ St w wr [.box bx #[.slice ao fs.length ca] 42, .box (bx + 1) #[.slice bo gs.length cb] 42]) (fun i _ => fs.length - (intOf i).toNat)
    case atStart => exact ⟨0, by omega, rfl, fun j f hj _ => by omega, z1, S1⟩
    case round =>
      clear S1
      obtain ⟨k, hk, rfl, hno, z2, S⟩ := hrel
      have HNO := Lib.hid hno
      clear hno
      obtain ⟨x0, _⟩ := S.one 0
      obtain ⟨y0, _⟩ := S.one 1
      by_cases hlt : k < fs.length
      · have hlti : (k : Int) < (fs.length : Int) := by omega
        have hlt2 : k < gs.length := by have := HL.out; omega
        have hlti2 : (k : Int) < (gs.length : Int) := by omega
        obtain ⟨b, off, ka, sa, kb, sb, rfl, _, c0, c1, c2, c3, c4, t1, t2⟩ := (HR.out.kept S.bel).fact hlt
        obtain ⟨b2, off2, ka2, sa2, kb2, sb2, rfl, _, d0, d1, d2, d3, d4, u1, u2⟩ := (HQ.out.kept S.bel).fact hlt2
        have T1 := Lib.hid t1; have T2 := Lib.hid t2; have U1 := Lib.hid u1; have U2 := Lib.hid u2
        have CA := Lib.hid (fun d os => Calls.regrown_of (sameFact67 fs[k] gs[k] ka kb ka2 kb2 sa sb sa2 sb2 (Go.Sort.grow (redrawn wr d) os) (T1.out.at.kept (below_regrown _ d os)) (T2.out.at.kept (below_regrown _ d os)) (U1.out.at.kept (below_regrown _ d os)) (U2.out.at.kept (below_regrown _ d os))))
        have rx := cell_regrown x0; have ry := cell_regrown y0
        have r0 := cell_regrown c0; have r1 := cell_regrown c1; have r2 := cell_regrown c2; have r3 := cell_regrown c3; have r4 := cell_regrown c4
        have e0 := cell_regrown d0; have e1 := cell_regrown d1; have e2 := cell_regrown d2; have e3 := cell_regrown d3; have e4 := cell_regrown d4
        clear t1 t2 u1 u2
        go_wp2_with fail
        refine wp_region_quiet_below (by kernel_rfl) (by kernel_rfl) ?_
        repeat (go_big_quiet_step (exact CA.out _ _))
        refine wpQuiet_nil ?_
        intro _ hw'
        obtain ⟨⟨dq, osq⟩, hw''⟩ := hw'
        subst hw''
        refine (S.regrown dq osq).genX (z := bx + 2) (Nat.le_trans z2 (below_regrown wr dq osq).size) ?_
        intro w2 z3 S2
        clear rx ry r0 r1 r2 r3 r4 e0 e1 e2 e3 e4 CA S x0 y0 c0 c1 c2 c3 c4 d0 d1 d2 d3 d4
        cases hq : decide (fs[k] = gs[k]) with
        | false =>
          have HF := Lib.hid (show decide (fs = gs) = false from decide_eq_false (fun e => of_decide_eq_false hq (by subst e; rfl)))
          have SE := Lib.hid S2.bel
          clear S2 hq
          go_wp2_with fail
          go_ret
          exact ⟨ret_bool HF.out.symm, SE.out⟩
        | true =>
          have HN := Lib.hid (show ∀ (j : Nat) f, j < k + 1 → fs[j]? = some f → gs[j]? = some f from fun j f hj hf => by
            rcases Nat.lt_succ_iff_lt_or_eq.1 hj with h3 | rfl
            · exact HNO.out j f h3 hf
            · rw [List.getElem?_eq_getElem hlt] at hf
              rw [List.getElem?_eq_getElem hlt2, ← of_decide_eq_true hq]; exact hf)
          clear hq
          go_wp2_with fail
          go_roundw
          case rel => exact ⟨k + 1, by omega, by go_num, HN.out, z3, S2⟩
          case measure => simp [intOf] <;> omega
      · obtain rfl : k = fs.length := by omega
        have HF := Lib.hid (show decide (fs = gs) = true from decide_eq_true (List.ext_getElem HL.out (fun j h1 h2 => by
          have := HNO.out j fs[j] h1 (List.getElem?_eq_getElem h1)
          rw [List.getElem?_eq_getElem h2] at this
          exact (Option.some.inj this).symm)))
        have SE := Lib.hid S.bel
        clear S
        go_wp2_with fail
        go_ret
        exact ⟨ret_bool HF.out.symm, SE.out⟩
  · have hne : ((fs.length : Int) != (gs.length : Int)) = true := by simp; omega
    have E0 := Lib.hid (show decide (fs = gs) = false from decide_eq_false (fun e => hl (by rw [e])))
    have SE := Lib.hid S.bel
    clear hl S
    go_enter Tryz.func35, Tryz.ntmps35
    go_wp2_with fail
    go_ret
    exact ⟨ret_bool E0.out.symm, SE.out⟩
end Go.Proofs.YtidgnbdlfngeaaaGreatDoor
