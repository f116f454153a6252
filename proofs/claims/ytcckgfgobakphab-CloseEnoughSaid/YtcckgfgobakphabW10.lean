/-
  Walks: the program's Classes.
-/
import Derived.Test.YtcckgfgobakphabProg
import Derived.Test.YtcckgfgobakphabBase
import Derived.Test.YtcckgfgobakphabCmath
import Derived.Test.YtcckgfgobakphabW9
import Derived.Deep.OwnRows
namespace Go.Proofs.Ytcckgfgobakphab
open Go.RowKit Go.Shelf
set_option linter.unusedVariables false
set_option maxHeartbeats 400000

/-- what the closures share: the row of class numbers, and the box that leads to it -/
structure Held (w0 w : World) (n : Nat) (cl : List Nat) : Prop where
  row : RowV w w0.heap.size 3 (.slice (some ⟨w0.heap.size, 0, none⟩) n n) n (fun j => vN (gN cl j))
  box : w.heap[w0.heap.size + 1]? = some (.cells #[.slice (some ⟨w0.heap.size, 0, none⟩) n n] 24 (0, 0))
  bel : Below w0.heap.size w0 w

theorem Held.below {w0 w w' : World} {n : Nat} {cl : List Nat} (h : Held w0 w n cl) (hb : Below w.heap.size w w') : Held w0 w' n cl :=
  ⟨h.row.below hb, Below.heapAt hb h.box, Below.step h.bel hb⟩
theorem Held.grown {w0 w w' : World} {n : Nat} {cl cl' : List Nat} (h : Held w0 w n cl) (hr : RowV w' w0.heap.size 3 (.slice (some ⟨w0.heap.size, 0, none⟩) n n) n (fun j => vN (gN cl' j)))
    (hg : w.grownBy w' (some w0.heap.size)) : Held w0 w' n cl' :=
  ⟨hr, (hg.block _ (heap_lt h.box) (by simp)).trans h.box, h.bel.trans ⟨hg.os, hg.tape, hg.output, hg.size, fun k hk => hg.block k (Nat.lt_of_lt_of_le hk h.bel.size) (by simp; omega)⟩⟩

theorem cellsAt_grown {w w' : World} {g : Nat} (hg : w.grownBy w' (some g)) {ao : Option Addr} {n : Nat} {f : Nat → Value} (h : CellsAt w ao n f) (hne : ∀ b off, ao = some ⟨b, off, none⟩ → b ≠ g) : CellsAt w' ao n f := by
  intro j hj
  obtain ⟨b, off, e, hc⟩ := h j hj
  exact ⟨b, off, e, hg.cell hc (by simpa using hne b off e)⟩

set_option maxRecDepth 100000 in
set_option maxHeartbeats 4000000 in
theorem classes_any (ts : List Tm) (ps : List (Int × Int)) (tv pv : Value) (w : World) (hn : ts.length ≤ 80) (hm : ps.length ≤ 120) (hk0 : kidsIn ts) (hp0 : pairsIn ts.length ps)
    (ht : TermsAt w tv ts) (hp : PairsAt w pv ps) :
    Calls Try.prog 20 #[tv, pv] w fun e w' => ∃ u, e = .returned u ∧ NatsFrom w.heap.size w' u (classes ts ps) ∧ Below w.heap.size w w' := by
  obtain ⟨ao, cap, rfl, hts⟩ := ht
  obtain ⟨bo, bcap, rfl, hps⟩ := hp
  obtain ⟨i0, hi, hz0, hz1, hz2⟩ := info_parts info3
  have HT := Lib.hid hts; have HP := Lib.hid hps; have HK := Lib.hid hk0; have HPI := Lib.hid hp0; clear hts hps hk0 hp0
  have hmk := run_make_row' (P := Try.prog) 24 3 (.int .i64 0) 8 Try.underlying24 info3 rfl .i64 .i64 ts.length (by omega) (by omega)
  have hrow0 : RowV ((w.alloc (.cells (madeCells #[.int .i64 0] ts.length) 3)).alloc (.cells #[.slice (some ⟨w.heap.size, 0, none⟩) ts.length ts.length] 24)) w.heap.size 3 (.slice (some ⟨w.heap.size, 0, none⟩) ts.length ts.length) ts.length (fun _ => .int .i64 0) := by
    have h := World.ownsRow_lit (base := w.heap.size) (e := 3) (size := 1) w (madeCells #[.int .i64 0] ts.length) ts.length (Nat.le_refl _) (by unfold maxLen; omega) (by rw [size_madeCells]; omega)
    rw [toList_madeCells_one, show List.replicate ts.length (Value.int .i64 0) = (List.range ts.length).map fun _ => Value.int .i64 0 by apply List.ext_getElem <;> simp] at h
    exact World.ownsRow.alloc h _
  have hbox0 : ((w.alloc (.cells (madeCells #[.int .i64 0] ts.length) 3)).alloc (.cells #[.slice (some ⟨w.heap.size, 0, none⟩) ts.length ts.length] 24)).heap[w.heap.size + 1]? = some (.cells #[.slice (some ⟨w.heap.size, 0, none⟩) ts.length ts.length] 24 (0, 0)) := by
    have := heap_ofAlloc (w.alloc (.cells (madeCells #[.int .i64 0] ts.length) 3)) (.cells #[.slice (some ⟨w.heap.size, 0, none⟩) ts.length ts.length] 24)
    simpa using this
  have hbel0 : Below w.heap.size w ((w.alloc (.cells (madeCells #[.int .i64 0] ts.length) 3)).alloc (.cells #[.slice (some ⟨w.heap.size, 0, none⟩) ts.length ts.length] 24)) := ((Below.refl _ _).alloc (Nat.le_refl _) _).alloc (by simp) _
  have HR0 := Lib.hid hrow0; have HB0 := Lib.hid hbox0; have HBE := Lib.hid hbel0; clear hrow0 hbox0 hbel0
  have c0 := (box1 HB0.out).1
  go_enter Try.func20, Try.ntmps20
  go_wp2_with fail
  go_loopw [6, 20] (fun _ i wr => ∃ k : Nat, k ≤ ts.length ∧ i = .int .i64 k ∧ RowV wr w.heap.size 3 (.slice (some ⟨w.heap.size, 0, none⟩) ts.length ts.length) ts.length (fun j => if j < k then vN j else .int .i64 0) ∧
      wr.heap[w.heap.size + 1]? = some (.cells #[.slice (some ⟨w.heap.size, 0, none⟩) ts.length ts.length] 24 (0, 0)) ∧ Below w.heap.size w wr) (fun _ i _ => ts.length - (intOf i).toNat)
  case atStart => exact ⟨0, by omega, rfl, HR0.out.congr (fun j _ => by simp), HB0.out, HBE.out⟩
  case round =>
    obtain ⟨k, hk, rfl, hrow, hbox, hbel⟩ := hrel
    obtain ⟨bx, fx⟩ := box1 hbox
    have hblt := heap_lt hbox
    have HBX := Lib.hid hbox; clear hbox c0
    by_cases hkl : k < ts.length
    · obtain ⟨ck, fk⟩ := hrow.cell hkl
      simp only [Nat.lt_irrefl, if_false] at ck
      have HRS := Lib.hid (hrow.set k (vN k))
      clear hrow
      go_wp2_with fail
      go_roundw
      case rel => exact ⟨k + 1, by omega, by go_num, HRS.out.congr (fun j hj => by
          by_cases e : j = k
          · subst e; simp
          · have : (j < k) ↔ (j < k + 1) := by omega
            simp [this, e]), heap_set_other HBX.out (by simp), hbel.setCell (Nat.le_refl _) _⟩
      case measure => simp [intOf] <;> omega
    · obtain rfl : k = ts.length := by omega
      have hheld : Held w wr ts.length (initTo ts.length ps 0) := ⟨hrow.congr (fun j hj => by rw [if_pos hj]; simp [initTo, gN, hj]), HBX.out, hbel⟩
      have HE := Lib.hid hheld; clear hheld hrow
      go_wp2_with fail
      go_loopw [9, 31] (fun _ i wr => ∃ k : Nat, k ≤ ps.length ∧ i = .int .i64 k ∧ Held w wr ts.length (initTo ts.length ps k)) (fun _ i _ => ps.length - (intOf i).toNat)
      case atStart => exact ⟨0, by omega, rfl, HE.out⟩
      case round =>
        obtain ⟨k, hk, rfl, hheld⟩ := hrel
        have hg := Good.initTo HPI.out hk
        clear bx fx hblt
        by_cases hkl : k < ps.length
        · obtain ⟨b, off, rfl, h1, h2⟩ := HP.out k hkl
          have r := HPI.out k hkl
          obtain ⟨x, hx⟩ := Int.eq_ofNat_of_zero_le r.1
          obtain ⟨y, hy⟩ := Int.eq_ofNat_of_zero_le r.2.2.1
          have c1 := Below.cellOf hheld.bel h1
          have c2 := Below.cellOf hheld.bel h2
          have hxn : x < ts.length := by omega
          have hyn : y < ts.length := by omega
          have HI := Lib.hid (show initTo ts.length ps (k + 1) = merge (initTo ts.length ps k) x y by simp [initTo, hx, hy])
          simp only [hx, hy] at c1 c2
          clear h1 h2 r hx hy
          have HG := Lib.hid hg
          have hh2 := Lib.hid (hheld.below ((Below.refl _ _).alloc (Nat.le_refl _) (.cells #[.int .i64 x, .int .i64 y] 34)))
          clear hg hheld
          go_wp2_with fail
          have hj := join_any (initTo ts.length ps k) x y w.heap.size (w.heap.size + 1) w.heap.size (wr.alloc (.cells #[.int .i64 x, .int .i64 y] 34)) (by rw [HG.out.len]; omega) (by rw [HG.out.len]; omega) (by rw [HG.out.len]; omega) (fun j => by have := HG.out.le j; omega)
            (by rw [HG.out.len]; exact hh2.out.box) (by omega) (by rw [HG.out.len]; exact hh2.out.row)
          rw [HG.out.len] at hj
          refine hj.mono ?_
          rintro e w1 ⟨rfl, hr1, hg1⟩
          have HE1 := Lib.hid (hh2.out.grown hr1 hg1)
          clear hr1 hg1
          go_wp2_with fail
          go_roundw
          case rel => exact ⟨k + 1, by omega, by go_num, by rw [HI.out]; exact HE1.out⟩
          case measure => simp [intOf] <;> omega
        · obtain rfl : k = ps.length := by omega
          have HE := Lib.hid hheld; have HG := Lib.hid hg; clear hheld hg
          have HC := Lib.hid (show classes ts ps = satOf ts (initTo ts.length ps ps.length) from rfl)
          go_wp2_with fail
          go_loopg [10, 11, 12, 13, 14] ((initTo ts.length ps ps.length).sum + 1) (fun g m _ _ _ _ wr => ∃ cl mb, cl.sum + (if mb = true then 1 else 0) ≤ g ∧ Good ts.length cl ∧ m = .bool mb ∧ Held w wr ts.length cl ∧
              (mb = true → ∀ d, SatTo ts cl d → SatTo ts (initTo ts.length ps ps.length) d) ∧ (mb = false → SatTo ts (initTo ts.length ps ps.length) cl))
          case atStart => exact ⟨_, true, by simp, HG.out, rfl, HE.out, fun _ d h => h, fun h => (by cases h)⟩
          case round =>
            obtain ⟨cl, mb, hsum, hg, rfl, hheld, hyes, hdone⟩ := hrel
            obtain ⟨bx, fx⟩ := box1 hheld.box
            have HE := Lib.hid hheld; have HG := Lib.hid hg; have HY := Lib.hid hyes; have HDN := Lib.hid hdone; have HSM := Lib.hid hsum; clear hheld hg hyes hdone hsum
            cases mb with
            | false =>
              have hres : NatsAt wr (.slice (some ⟨w.heap.size, 0, none⟩) ts.length ts.length) (classes ts ps) := by
                rw [HC.out, satOf_of (HDN.out (by simp))]
                refine ⟨some ⟨w.heap.size, 0, none⟩, ts.length, by rw [HG.out.len], fun j hj => ⟨w.heap.size, 0, rfl, ?_⟩⟩
                rw [HG.out.len] at hj
                have := (HE.out.row.cell hj).1
                simpa [vN] using this
              have HRES := Lib.hid hres; clear hres
              go_wp2_with fail
              go_ret
              exact ⟨_, rfl, ⟨HRES.out, fun a n c e => by simp at e; obtain ⟨rfl, _⟩ := e; exact Nat.le_refl _⟩, HE.out.bel⟩
            | true =>
              clear bx fx
              go_wp2_with fail
              go_loopw [10, 11, 12, 13, 14, 45] (fun m _ _ _ _ i wr => ∃ k : Nat, k ≤ ts.length ∧ i = .int .i64 k ∧ m = .bool (outerTo ts (cl, false) k).2 ∧ Held w wr ts.length (outerTo ts (cl, false) k).1) (fun _ _ _ _ _ i _ => ts.length - (intOf i).toNat)
              case atStart => exact ⟨0, by omega, rfl, rfl, HE.out⟩
              case round =>
                obtain ⟨k, hk, rfl, rfl, hheld⟩ := hrel
                have hg1 := Good.outerTo (ts := ts) (st := (cl, false)) HG.out hk
                have HE1 := Lib.hid hheld; clear hheld
                by_cases hlt : k < ts.length
                · have HO := Lib.hid (show outerTo ts (cl, false) (k + 1) = innerTo ts k (outerTo ts (cl, false) k) k from rfl)
                  generalize hst : outerTo ts (cl, false) k = st at HE1 hg1 HO ⊢
                  have HS := Lib.hid hst; clear hst
                  have HG1 := Lib.hid hg1; clear hg1
                  obtain ⟨b1, f1, ko1, kc1, rfl, t1, t2, t3⟩ := HT.out k hlt
                  have u1 := Below.cellOf HE1.out.bel t1
                  have u2 := Below.cellOf HE1.out.bel t2
                  have T0 := Lib.hid t3
                  have hsl := HE1.out.bel.size
                  have HE2 := Lib.hid (HE1.out.below ((Below.refl _ _).alloc (Nat.le_refl _) (.cells #[.int .i64 (gT ts k).head, .slice ko1 (gT ts k).kids.length kc1] 45)))
                  have HX := Lib.hid (heap_ofAlloc wr (.cells #[.int .i64 (gT ts k).head, .slice ko1 (gT ts k).kids.length kc1] 45))
                  have HBW := Lib.hid ((Below.refl wr.heap.size wr).alloc (Nat.le_refl _) (.cells #[.int .i64 (gT ts k).head, .slice ko1 (gT ts k).kids.length kc1] 45))
                  clear t1 t2 t3
                  go_wp2_with fail
                  have hne1 : wr.heap.size ≠ w.heap.size := by have := HE1.out.row.lt; omega
                  go_loopw [10, 13, 14, 54] (fun m _ _ i wq => ∃ q : Nat, q ≤ k ∧ i = .int .i64 q ∧ m = .bool (innerTo ts k st q).2 ∧ Held w wq ts.length (innerTo ts k st q).1 ∧
                      wq.heap[wr.heap.size]? = some (.cells #[.int .i64 (gT ts k).head, .slice ko1 (gT ts k).kids.length kc1] 45 (0, 0))) (fun _ _ _ i _ => k - (intOf i).toNat)
                  case atStart => exact ⟨0, by omega, rfl, rfl, HE2.out, HX.out⟩
                  case round =>
                    obtain ⟨q, hq, rfl, rfl, hheld, hx1⟩ := hrel
                    have hg2 := Good.innerTo (ts := ts) HG1.out hlt hq
                    have HE3 := Lib.hid hheld; have HX1 := Lib.hid hx1; clear hheld hx1 u1 u2
                    have HI := Lib.hid (show innerTo ts k st (q + 1) = stepP ts (innerTo ts k st q) k q from rfl)
                    generalize hsq : innerTo ts k st q = sq at HE3 hg2 HI ⊢
                    have HSQ := Lib.hid hsq; clear hsq
                    have HG2 := Lib.hid hg2; clear hg2
                    by_cases hql : q < k
                    · have hqn : q < ts.length := by omega
                      obtain ⟨b2, f2, ko2, kc2, e0, t4, t5, t6⟩ := HT.out q hqn
                      simp only [Option.some.injEq, Addr.mk.injEq] at e0
                      obtain ⟨rfl, rfl, _⟩ := e0
                      have v1 := Below.cellOf HE3.out.bel t4
                      have v2 := Below.cellOf HE3.out.bel t5
                      have T6 := Lib.hid (t6.below HE3.out.bel)
                      clear t4 t5 t6
                      obtain ⟨o2, ho2⟩ : ∃ o2 : Obj, o2 = .cells #[.int .i64 (gT ts q).head, .slice ko2 (gT ts q).kids.length kc2] 45 := ⟨_, rfl⟩
                      have hB2 := (Below.refl wr.heap.size wr).alloc (Nat.le_refl _) o2
                      have HX2 := Lib.hid (heap_ofAlloc wr o2)
                      have HE4 := Lib.hid (HE3.out.below hB2)
                      have HX3 := Lib.hid (heap_alloc_old (o' := o2) HX1.out)
                      have T6' := Lib.hid (T6.out.below hB2)
                      rw [ho2] at HX2 HE4 HX3 T6'
                      rw [ho2] at hB2
                      clear ho2
                      have hlen := HG2.out.len
                      have hk1 : k < sq.1.length := by rw [hlen]; exact hlt
                      have hq1 : q < sq.1.length := by rw [hlen]; exact hqn
                      have hlen' := Lib.hid hlen; clear hlen
                      have T3' := Lib.hid (T0.out.below HE4.out.bel)
                      clear hB2
                      have r0 := cell_regrown (box1 HE4.out.box).1
                      have r1 := cell_regrown (HE4.out.row.cell hlt).1
                      have r2 := cell_regrown (HE4.out.row.cell hqn).1
                      have r3 := cell_regrown (box2 HX3.out).1.1
                      have r4 := cell_regrown (box2 HX3.out).2.1
                      have r5 := cell_regrown (box2 HX2.out).1.1
                      have r6 := cell_regrown (box2 HX2.out).2.1
                      simp only [vN] at r1 r2
                      have kk := HK.out k hlt
                      have kq := HK.out q hqn
                      have cA : ∀ d os, Calls Try.prog 31 #[.slice ko1 (gT ts k).kids.length kc1, .slice ko2 (gT ts q).kids.length kc2, .func (.func 32) #[] #[.pointer (some ⟨w.heap.size + 1, 0, none⟩)]]
                          (Go.Sort.grow (redrawn (wr.alloc (.cells #[.int .i64 (gT ts q).head, .slice ko2 (gT ts q).kids.length kc2] 45)) d) os) fun e w'' => e = .returned (.bool ((gT ts k).kids.length == (gT ts q).kids.length && kidsEq sq.1 (gT ts k) (gT ts q))) ∧
                            ∃ p : Regrown, w'' = Go.Sort.grow (redrawn (wr.alloc (.cells #[.int .i64 (gT ts q).head, .slice ko2 (gT ts q).kids.length kc2] 45)) p.d) p.os := fun d os =>
                        Calls.regrown_of (equalFunc_any 32 #[.pointer (some ⟨w.heap.size + 1, 0, none⟩)] (enters_of Try.func32 (by kernel_rfl) rfl) ko1 ko2 (gT ts k).kids.length (gT ts q).kids.length kc1 kc2 (fun i => .int .i64 (gI (gT ts k).kids i)) (fun i => .int .i64 (gI (gT ts q).kids i)) (kidEq sq.1 (gT ts k) (gT ts q)) _
                          (by omega) (by omega) (T3'.out.below (below_regrown _ d os)) (T6'.out.below (below_regrown _ d os)) (fun i w1 hi1 hi2 hb1 => by
                            have x1 := kk.2 i hi1
                            have x2 := kq.2 i hi2
                            obtain ⟨m1, hm1⟩ := Int.eq_ofNat_of_zero_le x1.1
                            obtain ⟨m2, hm2⟩ := Int.eq_ofNat_of_zero_le x2.1
                            have HE5 := HE4.out.below (Below.step (below_regrown _ d os) hb1)
                            have l1 : m1 < ts.length := by omega
                            have l2 : m2 < ts.length := by omega
                            have z1 := (HE5.row.cell l1).1
                            have z2 := (HE5.row.cell l2).1
                            have ek : kidEq sq.1 (gT ts k) (gT ts q) i = ((gN sq.1 m1 : Int) == (gN sq.1 m2 : Int)) := by
                              simp only [kidEq, hm1, hm2]; rw [Bool.eq_iff_iff]; simp <;> omega
                            rw [ek]
                            simp only [hm1, hm2]
                            exact cls2 (w.heap.size + 1) w.heap.size 0 ts.length ts.length (fun j => (gN sq.1 j : Int)) m1 m2 w1 l1 l2 (by omega) (box1 HE5.box).1 (by simpa [vN] using z1) (by simpa [vN] using z2)))
                      have CA := Lib.hid cA
                      clear cA kk kq
                      have hne0 := Lib.hid hne1
                      have hcase : stepP ts sq k q = if ((gN sq.1 k : Int) != (gN sq.1 q : Int)) && ((gT ts k).head == (gT ts q).head) && ((gT ts k).kids.length == (gT ts q).kids.length && kidsEq sq.1 (gT ts k) (gT ts q)) then (merge sq.1 k q, true) else sq := by
                        unfold stepP alikeN
                        have e1 : ((gN sq.1 k : Int) != (gN sq.1 q : Int)) = (gN sq.1 k != gN sq.1 q) := by rw [Bool.eq_iff_iff]; simp; omega
                        rw [e1, Bool.and_assoc]
                      have HCS := Lib.hid hcase; clear hcase
                      cases hne : ((gN sq.1 k : Int) != (gN sq.1 q : Int)) with
                      | false =>
                        have HST := Lib.hid (show stepP ts sq k q = sq by rw [HCS.out, hne]; simp)
                        have HNE := Lib.hid hne
                        go_wp2_with fail
                        generalize wr.alloc (Obj.cells #[.int .i64 (gT ts q).head, .slice ko2 (gT ts q).kids.length kc2] 45) = W1 at r0 r1 r2 r3 r4 r5 r6 CA HX2 HE4 HX3 T6' T3' ⊢
                        refine wp_region_quiet_below (by kernel_rfl) (by kernel_rfl) ?_
                        repeat (go_big_quiet_step (exact CA.out _ _))
                        refine wpQuiet_nil ?_
                        intro _ hw'
                        obtain ⟨⟨dq, osq⟩, hw''⟩ := hw'
                        subst hw''
                        have hbq := below_regrown W1 dq osq
                        clear r0 r1 r2 r3 r4 r5 r6
                        generalize Go.Sort.grow (redrawn W1 dq) osq = wq at hbq ⊢
                        go_wp2_with fail
                        go_roundw
                        case rel => exact ⟨q + 1, by omega, by go_num, by rw [HI.out, HST.out], by rw [HI.out, HST.out]; exact HE4.out.below hbq, Below.heapAt hbq HX3.out⟩
                        case measure => simp [intOf] <;> omega
                      | true =>
                        cases hhd : ((gT ts k).head == (gT ts q).head) with
                        | false =>
                          have HST := Lib.hid (show stepP ts sq k q = sq by rw [HCS.out, hhd]; simp)
                          have HNE := Lib.hid hne
                          go_wp2_with fail
                          generalize wr.alloc (Obj.cells #[.int .i64 (gT ts q).head, .slice ko2 (gT ts q).kids.length kc2] 45) = W1 at r0 r1 r2 r3 r4 r5 r6 CA HX2 HE4 HX3 T6' T3' ⊢
                          refine wp_region_quiet_below (by kernel_rfl) (by kernel_rfl) ?_
                          repeat (go_big_quiet_step (exact CA.out _ _))
                          refine wpQuiet_nil ?_
                          intro _ hw'
                          obtain ⟨⟨dq, osq⟩, hw''⟩ := hw'
                          subst hw''
                          have hbq := below_regrown W1 dq osq
                          clear r0 r1 r2 r3 r4 r5 r6
                          generalize Go.Sort.grow (redrawn W1 dq) osq = wq at hbq ⊢
                          go_wp2_with fail
                          go_roundw
                          case rel => exact ⟨q + 1, by omega, by go_num, by rw [HI.out, HST.out], by rw [HI.out, HST.out]; exact HE4.out.below hbq, Below.heapAt hbq HX3.out⟩
                          case measure => simp [intOf] <;> omega
                        | true =>
                          cases hal : ((gT ts k).kids.length == (gT ts q).kids.length && kidsEq sq.1 (gT ts k) (gT ts q)) with
                          | false =>
                            have HST := Lib.hid (show stepP ts sq k q = sq by rw [HCS.out, hal]; simp)
                            rw [hal] at CA
                            have HAL := Lib.hid hal; clear hal
                            go_wp2_with fail
                            generalize wr.alloc (Obj.cells #[.int .i64 (gT ts q).head, .slice ko2 (gT ts q).kids.length kc2] 45) = W1 at r0 r1 r2 r3 r4 r5 r6 CA HX2 HE4 HX3 T6' T3' ⊢
                            refine wp_region_quiet_below (by kernel_rfl) (by kernel_rfl) ?_
                            repeat (go_big_quiet_step (exact CA.out _ _))
                            refine wpQuiet_nil ?_
                            intro _ hw'
                            obtain ⟨⟨dq, osq⟩, hw''⟩ := hw'
                            subst hw''
                            have hbq := below_regrown W1 dq osq
                            clear r0 r1 r2 r3 r4 r5 r6
                            generalize Go.Sort.grow (redrawn W1 dq) osq = wq at hbq ⊢
                            go_wp2_with fail
                            go_roundw
                            case rel => exact ⟨q + 1, by omega, by go_num, by rw [HI.out, HST.out], by rw [HI.out, HST.out]; exact HE4.out.below hbq, Below.heapAt hbq HX3.out⟩
                            case measure => simp [intOf] <;> omega
                          | true =>
                            have HST := Lib.hid (show stepP ts sq k q = (merge sq.1 k q, true) by rw [HCS.out, hne, hhd, hal]; simp)
                            rw [hal] at CA
                            have hnn := Lib.hid (show (gN sq.1 k != gN sq.1 q) = true by have h' := hne; simp at h' ⊢; omega)
                            have HAL := Lib.hid hal; clear hal
                            go_wp2_with fail
                            generalize wr.alloc (Obj.cells #[.int .i64 (gT ts q).head, .slice ko2 (gT ts q).kids.length kc2] 45) = W1 at r0 r1 r2 r3 r4 r5 r6 CA HX2 HE4 HX3 T6' T3' ⊢
                            refine wp_region_quiet_below (by kernel_rfl) (by kernel_rfl) ?_
                            repeat (go_big_quiet_step (exact CA.out _ _))
                            refine wpQuiet_nil ?_
                            intro _ hw'
                            obtain ⟨⟨dq, osq⟩, hw''⟩ := hw'
                            subst hw''
                            have hbq := below_regrown W1 dq osq
                            clear r0 r1 r2 r3 r4 r5 r6
                            generalize Go.Sort.grow (redrawn W1 dq) osq = wq at hbq ⊢
                            have HE5 := Lib.hid (HE4.out.below hbq)
                            have HX5 := Lib.hid (Below.heapAt hbq HX3.out)
                            go_wp2_with fail
                            have hj := join_any sq.1 k q w.heap.size (w.heap.size + 1) w.heap.size wq (by rw [hlen'.out]; omega) hk1 hq1 (fun j => by have := HG2.out.le j; omega)
                              (by rw [hlen'.out]; exact HE5.out.box) (by omega) (by rw [hlen'.out]; exact HE5.out.row)
                            rw [hlen'.out, hnn.out] at hj
                            refine hj.mono ?_
                            rintro e w1 ⟨rfl, hr1, hg1⟩
                            have HE6 := Lib.hid (HE5.out.grown hr1 hg1)
                            have HX6 := Lib.hid ((hg1.block _ (heap_lt HX5.out) (by simp; exact hne0.out)).trans HX5.out)
                            clear hr1 hg1 hj
                            go_wp2_with fail
                            go_roundw
                            case rel => exact ⟨q + 1, by omega, by go_num, by rw [HI.out, HST.out], by rw [HI.out, HST.out]; exact HE6.out, HX6.out⟩
                            case measure => simp [intOf] <;> omega
                    · obtain rfl : q = k := by omega
                      go_wp2_with fail
                      go_roundw
                      case rel => exact ⟨q + 1, by omega, by go_num, by rw [HO.out, HSQ.out], by rw [HO.out, HSQ.out]; exact HE3.out⟩
                      case measure => simp [intOf] <;> omega
                · obtain rfl : k = ts.length := by omega
                  have HR := Lib.hid (show roundOf ts cl = outerTo ts (cl, false) ts.length from rfl)
                  have hl := round_less HG.out
                  rw [HR.out] at hl
                  generalize hst : outerTo ts (cl, false) ts.length = st at HE1 hg1 hl HR ⊢
                  have HL := Lib.hid hl; have HS := Lib.hid hst; have HG1 := Lib.hid hg1; clear hl hst hg1
                  obtain ⟨c2, m2⟩ := st
                  have hsm := HSM.out
                  cases m2 with
                  | true =>
                    have h1 := HL.out.lt rfl rfl
                    simp only [if_true] at hsm h1
                    go_wp2_with fail
                    go_roundg (gk - 1)
                    case measure => omega
                    case rel => exact ⟨c2, true, by simp; omega, HG1.out, rfl, HE1.out, fun _ d hd => HY.out (by simp) d (.more HR.out hd), fun h => (by cases h)⟩
                  | false =>
                    have h1 := HL.out.same rfl
                    simp only [Prod.mk.injEq, and_true] at h1
                    subst h1
                    simp only [if_true] at hsm
                    go_wp2_with fail
                    go_roundg (gk - 1)
                    case measure => omega
                    case rel => exact ⟨c2, false, by simp; omega, HG1.out, rfl, HE1.out, fun h => (by cases h), fun _ => HY.out (by simp) _ (.done HR.out)⟩
end Go.Proofs.Ytcckgfgobakphab
