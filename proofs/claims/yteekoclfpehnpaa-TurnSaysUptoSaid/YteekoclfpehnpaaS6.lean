/-
  The law TurnSays: whatever the rules, the term and the fuel are, it answers true.
-/
import Derived.Test.YteekoclfpehnpaaProg
import Derived.Test.YteekoclfpehnpaaS3
import Derived.Test.YteekoclfpehnpaaS4
import Derived.Test.YteekoclfpehnpaaS5
import Derived.Test.YteekoclfpehnpaaXa
import Derived.Test.YteekoclfpehnpaaR6
import Derived.RegionTactic
import Derived.Lib.QuietBelow
import Derived.BigQuiet
namespace Go.Proofs.Yteekoclfpehnpaa
open Go.RowKit Go.Shelf
set_option linter.unusedVariables false
set_option maxHeartbeats 400000

theorem St.onced {P : Program} {n : Nat} {a : Array Value} {w0 w : World} {l : List Fct} (S : St w0 w l) {r : T × Bool × (Int × Int)} (h : Calls P n a w (OnceP r w)) :
    Calls P n a w fun e w' => ∃ x k sp ok c d, e = .returned (.tuple #[.agg #[.int .i64 x.head, .slice k x.kids.length (x.kids.length + sp)], .bool ok, .agg #[.int .i64 c, .int .i64 d]]) ∧ Hid (r = (x, ok, (c, d))) ∧ w.heap.size ≤ w'.heap.size ∧
      St w0 w' (fsnoc l (.treeP (fun b => w.heap.size ≤ b ∧ b < w'.heap.size) (.agg #[.int .i64 x.head, .slice k x.kids.length (x.kids.length + sp)]) x)) :=
  h.mono fun e w' ⟨u, h1, h2, h3⟩ => by
    obtain ⟨k, sp, rfl⟩ := h2.at.form
    exact ⟨r.1, k, sp, r.2.1, r.2.2.1, r.2.2.2, h1, rfl, h3.size, (S.step h3).add (.treeP _ _ _) (h2.mono fun b hb hl => ⟨hb, hl⟩)⟩
theorem St.doned {P : Program} {n : Nat} {a : Array Value} {w0 w : World} {l : List Fct} (S : St w0 w l) {r : Int × T × (Int × Int)} (h : Calls P n a w (DoRP r w)) :
    Calls P n a w fun e w' => ∃ s x k sp c d, e = .returned (.tuple #[.int .i64 s, .agg #[.int .i64 x.head, .slice k x.kids.length (x.kids.length + sp)], .agg #[.int .i64 c, .int .i64 d]]) ∧ Hid (r = (s, x, (c, d))) ∧ w.heap.size ≤ w'.heap.size ∧
      St w0 w' (fsnoc l (.treeP (fun b => w.heap.size ≤ b ∧ b < w'.heap.size) (.agg #[.int .i64 x.head, .slice k x.kids.length (x.kids.length + sp)]) x)) :=
  h.mono fun e w' ⟨u, h1, h2, h3⟩ => by
    obtain ⟨k, sp, rfl⟩ := h2.at.form
    exact ⟨r.1, r.2.1, k, sp, r.2.2.1, r.2.2.2, h1, rfl, h3.size, (S.step h3).add (.treeP _ _ _) (h2.mono fun b hb hl => ⟨hb, hl⟩)⟩
theorem St.normed {P : Program} {n : Nat} {a : Array Value} {w0 w : World} {l : List Fct} (S : St w0 w l) {p0 : Nat → Prop} {r : Int × T} (h : Calls P n a w (NormP p0 r w)) :
    Calls P n a w fun e w' => ∃ s x k sp, e = .returned (.tuple #[.int .i64 s, .agg #[.int .i64 x.head, .slice k x.kids.length (x.kids.length + sp)]]) ∧ Hid (r = (s, x)) ∧ w.heap.size ≤ w'.heap.size ∧
      St w0 w' (fsnoc l (.treeP (fun b => (p0 b ∨ w.heap.size ≤ b) ∧ b < w'.heap.size) (.agg #[.int .i64 x.head, .slice k x.kids.length (x.kids.length + sp)]) x)) :=
  h.mono fun e w' ⟨u, h1, h2, h3⟩ => by
    obtain ⟨k, sp, rfl⟩ := h2.at.form
    exact ⟨r.1, r.2, k, sp, h1, rfl, h3.size, (S.step h3).add (.treeP _ _ _) (h2.mono fun b hb hl => ⟨hb, hl⟩)⟩
theorem firstR_ok : ∀ {rs : List Ru} {a : Int}, (firstR rs a).1 = 0 → firstR rs a = (0, 0)
  | [], _, _ => rfl
  | f :: r, a, h => by
    rw [firstR] at h ⊢
    by_cases hf : ruleF f.1 f.2 ≠ 0
    · rw [if_pos hf] at h; exact absurd h hf
    · rw [if_neg hf] at h ⊢; exact firstR_ok h
theorem rulesF_ok {rs : List Ru} (h : (rulesF rs).1 = 0) : rulesF rs = (0, 0) := by
  unfold rulesF at h ⊢
  by_cases h3 : 30 < rs.length
  · rw [if_pos h3] at h; cases h
  · rw [if_neg h3] at h ⊢; exact firstR_ok h
theorem vastR_small {rs : List Ru} (h : vastR rs = false) : rs.length ≤ 40 ∧ ∀ (i : Nat) f, rs[i]? = some f → f.1.size ≤ 200 ∧ f.2.size ≤ 200 := by
  unfold vastR at h
  rw [Bool.or_eq_false_iff] at h
  refine ⟨by have := of_decide_eq_false h.2; omega, fun i f hf => ?_⟩
  have h1 := List.any_eq_false.1 h.1 f (List.mem_of_getElem? hf)
  unfold bigR at h1
  simp only [Bool.or_eq_true, decide_eq_true_eq, not_or] at h1
  omega
theorem zero_of_none {x : T} (h : x = zeroT) : decide (x.head = 0 ∧ x.kids.length = 0) = true := by subst h; rfl


set_option maxRecDepth 100000 in
set_option maxHeartbeats 4000000 in
theorem turnSays8 (rs : List Ru) (t : T) (fuel : Int) (p0 : Nat → Prop) (v : Value) (ao : Option Addr) (c : Nat) (w : World) (hrow : ruleE.Row p0 w ao rs) (ht : TreeP p0 w v t) (hp : ∀ b, p0 b → b < w.heap.size) (hn : rs.length ≤ 1000000)
    (hs : ∀ (i : Nat) f, rs[i]? = some f → f.1.size ≤ 1048576 ∧ f.2.size ≤ 1048576) (hts : t.size ≤ 1048576) :
    Calls Try.prog 8 #[.slice ao rs.length c, v, .int .i64 fuel] w fun e w' => e = .returned (.bool true) ∧ Below w.heap.size w w' := by
  obtain ⟨tk, ts, rfl⟩ := ht.at.form
  have HT := Lib.hid ht
  have HP := Lib.hid hp; have HW := Lib.hid hrow; have HS := Lib.hid hs
  have hfld := field28_0
  obtain ⟨bx, hbx⟩ : ∃ b, b = w.heap.size := ⟨_, rfl⟩
  have S1 := (St.start w).box hbx.symm #[.int .i64 t.head, .slice tk t.kids.length (t.kids.length + ts)] 44
  have hsz1 : (w.alloc (.cells #[.int .i64 t.head, .slice tk t.kids.length (t.kids.length + ts)] 44)).heap.size = bx + 1 := by simp [hbx]
  clear ht hp hrow hs
  go_enter Try.func8, Try.ntmps8
  go_wp2_with fail
  rw [← hbx]
  refine S1.gen (z := bx + 1) (by omega) ?_
  intro w1 z1 S
  have HBX := Lib.hid hbx
  clear S1 hbx hsz1
  refine (S.quiet (vastR42 rs p0 ao c w1 (HW.out.kept S.bel) (by omega) (fun i f hf => by have := HS.out i f hf; omega))).mono ?_
  rintro e w2 ⟨rfl, z2, S2⟩
  clear S
  cases hv : vastR rs with
  | true =>
    have SE := Lib.hid S2.bel
    clear S2 hv
    go_wp2_with fail
    go_ret
    exact ⟨rfl, SE.out⟩
  | false =>
    have HVR := Lib.hid (vastR_small hv)
    clear hv
    obtain ⟨⟨x0, _⟩, x1, _⟩ := S2.two 0
    go_wp2_with fail
    refine (S2.quiet (vast15 t _ w2 (by omega) (HT.out.kept S2.bel).at)).mono ?_
    rintro e w3 ⟨rfl, z3, S3⟩
    clear S2 x0 x1
    cases hv : decide ((200 : Int) < t.size) with
    | true =>
      have SE := Lib.hid S3.bel
      clear S3 hv
      go_wp2_with fail
      go_ret
      exact ⟨rfl, SE.out⟩
    | false =>
      have HTS := Lib.hid (show t.size ≤ 200 by have := of_decide_eq_false hv; omega)
      clear hv hts
      by_cases hf : (3000 : Int) < fuel
      · have SE := Lib.hid S3.bel
        clear S3
        go_wp2_with fail
        go_ret
        exact ⟨rfl, SE.out⟩
      · go_wp2_with fail
        refine (S3.faultF (rules43 rs p0 ao c w3 (HW.out.kept S3.bel) (by omega) (fun i f hf => by have := HVR.out.2 i f hf; omega))).mono ?_
        rintro e w4 ⟨rc, rd, rfl, HRC, z4, S4⟩
        clear S3 hf
        obtain ⟨b7, hb7⟩ : ∃ b, b = w4.heap.size := ⟨_, rfl⟩
        have S5 := S4.box hb7.symm #[.int .i64 rc, .int .i64 rd] 32
        have z5 : b7 + 1 ≤ (w4.alloc (.cells #[.int .i64 rc, .int .i64 rd] 32)).heap.size := by simp [hb7]
        have HB7 := Lib.hid (show bx + 1 ≤ b7 by omega)
        clear S4
        go_wp2_with fail
        rw [← hb7]
        refine S5.genC (z := b7 + 1) z5 ?_
        intro w5 z6 S
        clear S5 z5 hb7
        obtain ⟨⟨x0, _⟩, x1, _⟩ := S.two 1
        have CA := Lib.hid (fun d os => Calls.regrown_of (rules44 rs p0 ao c (Go.Sort.grow (redrawn w5 d) os) (HW.out.kept (S.regrown d os).bel) (by omega)))
        rw [HRC.out] at CA
        simp only [FV] at CA
        have r0 := cell_regrown x0; have r1 := cell_regrown x1
        clear x0 x1
        refine wp_region_quiet_below (by kernel_rfl) (by kernel_rfl) ?_
        repeat (go_big_quiet_step (exact CA.out _ _))
        refine wpQuiet_nil ?_
        intro _ hw'
        obtain ⟨⟨dq, osq⟩, hw''⟩ := hw'
        subst hw''
        refine (S.regrown dq osq).genX (z := b7 + 1) (Nat.le_trans z6 (below_regrown w5 dq osq).size) ?_
        intro w6 z7 S6
        clear r0 r1 CA S z6
        by_cases hrc : rc = 0
        · obtain hrd : rd = 0 := by have h := rulesF_ok (show (rulesF rs).1 = 0 by rw [HRC.out]; exact hrc); rw [HRC.out] at h; exact (Prod.mk.inj h).2
          subst hrc hrd
          obtain ⟨⟨x0, _⟩, x1, _⟩ := S6.two 1
          obtain ⟨⟨x2, _⟩, x3, _⟩ := S6.two 0
          go_wp2_with fail
          refine (S6.faultF (tree18 t _ w6 (by have := HTS.out; omega) (HT.out.kept S6.bel).at)).mono ?_
          rintro e w7 ⟨tc, td, rfl, HTC, z8, S7⟩
          clear S6 x0 x1 x2 x3
          by_cases htc : tc = 0
          · have htb : (tc != 0) = false := by simp [htc]
            have HCK := Lib.hid (show checkF rs t = (0, 0) by unfold checkF; rw [if_neg (by rw [HRC.out]; simp), if_neg (by rw [HTC.out]; simpa using htc)])
            have HOK := Lib.hid (checkF_zero (show (checkF rs t).1 = 0 by rw [HCK.out]))
            have HOKS := Lib.hid (show (∀ (i : Nat) f, rs[i]? = some f → (treeF f.1).1 = 0 ∧ (treeF f.2).1 = 0) ∧ True from ⟨HOK.out.2.1, trivial⟩)
            clear htc
            obtain ⟨⟨x2, _⟩, x3, _⟩ := S7.two 0
            go_wp2_with fail
            refine (S7.onced (once46 rs t p0 _ ao c w7 (fun b hb => by have := HP.out b hb; have := S7.bel.size; omega) (HW.out.kept S7.bel) (HT.out.kept S7.bel) hn)).mono ?_
            rintro e wo ⟨s, sk, ss, ok, fc, fd, rfl, HON, zo, So⟩
            obtain ⟨b8, hb8⟩ : ∃ b, b = wo.heap.size := ⟨_, rfl⟩
            have So2 := (So.box hb8.symm #[.int .i64 s.head, .slice sk s.kids.length (s.kids.length + ss)] 44).box (b := b8 + 1) (by simp [hb8]) #[.int .i64 fc, .int .i64 fd] 32
            have zo2 : b8 + 2 ≤ ((wo.alloc (.cells #[.int .i64 s.head, .slice sk s.kids.length (s.kids.length + ss)] 44)).alloc (.cells #[.int .i64 fc, .int .i64 fd] 32)).heap.size := by simp [hb8]
            have HB8 := Lib.hid (show w7.heap.size ≤ b8 by omega)
            clear S7 So x2 x3
            obtain ⟨⟨x0, _⟩, x1, _⟩ := So2.two 0
            go_wp2_with fail
            rw [← hb8]
            refine So2.gen (z := b8 + 2) zo2 ?_
            intro wp zp Sp
            clear So2 x0 x1 zo2 hb8 zo
            refine (Sp.doned (do37 rs t fuel p0 _ ao c wp (fun b hb => by have := HP.out b hb; have := Sp.bel.size; omega) (HW.out.kept Sp.bel) (HT.out.kept Sp.bel) hn)).mono ?_
            rintro e wq ⟨st, u, uk, us, gc, gd, rfl, HDO, zq, Sq⟩
            obtain ⟨b12, hb12⟩ : ∃ b, b = wq.heap.size := ⟨_, rfl⟩
            have Sr := (Sq.box hb12.symm #[.int .i64 u.head, .slice uk u.kids.length (u.kids.length + us)] 44).box (b := b12 + 1) (by simp [hb12]) #[.int .i64 gc, .int .i64 gd] 32
            have zr : b12 + 2 ≤ ((wq.alloc (.cells #[.int .i64 u.head, .slice uk u.kids.length (u.kids.length + us)] 44)).alloc (.cells #[.int .i64 gc, .int .i64 gd] 32)).heap.size := by simp [hb12]
            have HB12 := Lib.hid (show wp.heap.size ≤ b12 ∧ b8 + 2 ≤ b12 by omega)
            have HBN := Lib.hid (show bx < b12 by have := Sq.lt 0; omega)
            clear Sp Sq
            obtain ⟨⟨x0, _⟩, x1, _⟩ := Sr.two 1
            obtain ⟨⟨x2, _⟩, x3, _⟩ := Sr.two 0
            go_wp2_with fail
            rw [← hb12]
            refine Sr.gen (z := b12 + 2) zr ?_
            intro wr zs Ss
            clear Sr x0 x1 x2 x3 zr hb12
            have H := step47 rs HOKS.out.1 hn t p0 _ ao c wr (fun b hb => by have := HP.out b hb; have := Ss.bel.size; omega) (HW.out.kept Ss.bel) (HT.out.kept Ss.bel) (by have := HTS.out; omega)
            have HXS := Lib.hid (show ((t.step rs).getD t).size ≤ 1000000 by
              have h40 := HTS.out
              cases hst : t.step rs with
              | none => show t.size ≤ 1000000; omega
              | some x => show x.size ≤ 1000000; have := T.step_size (fun i f hf => (treeF_ok.1 (HOK.out.2.1 i f hf).2).1) hst; omega)
            obtain ⟨x, hx⟩ : ∃ x, x = (t.step rs).getD t := ⟨_, rfl⟩
            obtain ⟨iz, hi⟩ : ∃ ok, ok = (t.step rs).isSome := ⟨_, rfl⟩
            rw [← hx, ← hi] at H
            rw [← hx] at HXS
            have HX := Lib.hid hx; have HK := Lib.hid hi
            refine (Ss.stepped H).mono ?_
            rintro e wt ⟨xk, xs, rfl, zt, St1⟩
            clear Ss H hx hi
            obtain ⟨b14, hb14⟩ : ∃ b, b = wt.heap.size := ⟨_, rfl⟩
            have St2 := St1.box hb14.symm #[.int .i64 x.head, .slice xk x.kids.length (x.kids.length + xs)] 44
            have z14 : b14 + 1 ≤ (wt.alloc (.cells #[.int .i64 x.head, .slice xk x.kids.length (x.kids.length + xs)] 44)).heap.size := by simp [hb14]
            clear St1
            go_wp2_with fail
            rw [← hb14]
            refine St2.gen (z := b14 + 1) z14 ?_
            intro wu zu Su
            clear St2 z14 hb14
            refine (Su.faultF (tree18 x _ wu HXS.out (St.treeP Su 8 rfl).at)).mono ?_
            rintro e wv ⟨xc, xd, rfl, HXC, zv, Sv⟩
            clear Su
            by_cases hxc : xc = 0
            · have hxb : (xc != 0) = false := by simp [hxc]
              have HO := Lib.hid (show (x, iz, ((0 : Int), (0 : Int))) = (s, ok, (fc, fd)) by
                rw [← HON.out]; unfold onceF; rw [if_neg (by rw [HCK.out]; simp), ← HX.out, if_neg (by rw [HXC.out]; simpa using hxc), ← HK.out])
              obtain ⟨hs1, hs2, hs3, hs4⟩ : x = s ∧ iz = ok ∧ 0 = fc ∧ 0 = fd := by have h := HO.out; simp only [Prod.mk.injEq] at h; exact h
              have HSX := Lib.hid (show decide (s = x) = true by rw [hs1]; simp)
              have hbb : (iz != iz) = false := by simp
              subst hs2 hs3 hs4
              clear HO HON hs1 hxc
              obtain ⟨⟨x0, _⟩, x1, _⟩ := Sv.two 4
              obtain ⟨⟨y0, _⟩, y1, _⟩ := Sv.two 3
              obtain ⟨⟨y2, _⟩, y3, _⟩ := Sv.two 9
              go_wp2_with fail
              refine (Sv.quiet (by have h := same22 s x _ _ wv (St.treeP Sv 2 rfl).at (St.treeP Sv 8 rfl).at; rw [HSX.out] at h; exact h)).mono ?_
              rintro e wx ⟨rfl, zx, Sx⟩
              have Sy := Sx.pick [0, 5, 6, 7]
              clear Sv Sx x0 x1 y0 y1 y2 y3
              go_wp2_with fail
              refine (in28 fuel 0 2000 wx).mono ?_
              rintro e wya ⟨rfl, hwy⟩
              have hwy := hwy.symm
              subst hwy
              cases hin : decide (0 ≤ fuel ∧ fuel ≤ 2000) with
              | false =>
                have HD := Lib.hid (show ((0 : Int), zeroT, ((3 : Int), (-2 : Int))) = (st, u, (gc, gd)) by
                  rw [← HDO.out]; unfold doR; rw [if_neg (by rw [HCK.out]; simp), if_pos (by have := of_decide_eq_false hin; omega)])
                obtain ⟨hd1, hd2, hd3, hd4⟩ : 0 = st ∧ zeroT = u ∧ 3 = gc ∧ -2 = gd := by have h := HD.out; simp only [Prod.mk.injEq] at h; exact h
                have HZU := Lib.hid (zero_of_none hd2.symm)
                subst hd1 hd3 hd4
                clear HD HDO hd2 hin
                go_wp2_with fail
                refine Sy.genC (z := 0) (by omega) ?_
                intro wga zga Syg
                clear Sy
                obtain ⟨⟨x0, _⟩, x1, _⟩ := Syg.two 3
                obtain ⟨⟨y0, _⟩, y1, _⟩ := Syg.two 2
                have CA := Lib.hid (fun d os => Calls.regrown_of (fault20 3 (-2) (Go.Sort.grow (redrawn wga d) os)))
                have CB := Lib.hid (fun d os => Calls.regrown_of (none24 u _ (Go.Sort.grow (redrawn wga d) os) (St.treeP (Syg.regrown d os) 1 rfl).at))
                rw [HZU.out] at CB
                have r0 := cell_regrown x0; have r1 := cell_regrown x1; have r2 := cell_regrown y0; have r3 := cell_regrown y1
                clear x0 x1 y0 y1
                refine wp_region_quiet_below (by kernel_rfl) (by kernel_rfl) ?_
                repeat (go_big_quiet_step (first | exact CA.out _ _ | exact CB.out _ _))
                refine wpQuiet_nil ?_
                intro _ hw'
                obtain ⟨⟨dq, osq⟩, hw''⟩ := hw'
                subst hw''
                have SE := Lib.hid (Syg.regrown dq osq).bel
                clear r0 r1 r2 r3 CA CB Syg
                go_wp2_with fail
                go_ret
                exact ⟨rfl, SE.out⟩
              | true =>
                have HIN := Lib.hid (of_decide_eq_true hin)
                clear hin
                by_cases hgt : (300 : Int) < fuel
                · obtain ⟨⟨x0, _⟩, x1, _⟩ := Sy.two 0
                  have Sy := Sy.pick [0, 2, 3]
                  have HL := Lib.hid (show b12 < wx.heap.size ∧ b12 + 1 < wx.heap.size from ⟨Sy.lt 1, Sy.lt 2⟩)
                  go_wp2_with fail
                  refine (Sy.doned (do37 rs t 300 p0 _ ao c wx (fun b hb => by have := HP.out b hb; have := Sy.bel.size; omega) (HW.out.kept Sy.bel) (HT.out.kept Sy.bel) hn)).mono ?_
                  rintro e wkc ⟨st, u, uk, us, gc, gd, rfl, HDQ, zkc, Syk⟩
                  have Syl := (Syk.box rfl #[.int .i64 u.head, .slice uk u.kids.length (u.kids.length + us)] 44).box (b := wkc.heap.size + 1) (by simp) #[.int .i64 gc, .int .i64 gd] 32
                  have n1 : ¬ bx = b12 := by have := HBN.out; omega
                  have n2 : ¬ b12 = bx := by have := HBN.out; omega
                  have n3 : ¬ bx = b12 + 1 := by have := HBN.out; omega
                  have n4 : ¬ b12 + 1 = bx := by have := HBN.out; omega
                  have n5 : ¬ wkc.heap.size = b12 := by have := HL.out; omega
                  have n6 : ¬ wkc.heap.size + 1 = b12 := by have := HL.out; omega
                  have n7 : ¬ wkc.heap.size = b12 + 1 := by have := HL.out; omega
                  have n8 : ¬ wkc.heap.size + 1 = b12 + 1 := by have := HL.out; omega
                  have n9 : ¬ b12 = wkc.heap.size := by have := HL.out; omega
                  have n10 : ¬ b12 = wkc.heap.size + 1 := by have := HL.out; omega
                  have n11 : ¬ b12 + 1 = wkc.heap.size := by have := HL.out; omega
                  have n12 : ¬ b12 + 1 = wkc.heap.size + 1 := by have := HL.out; omega
                  have n13 : ¬ b12 = b12 + 1 := by omega
                  have n14 : ¬ b12 + 1 = b12 := by omega
                  have Sym := Syl.set2 1 rfl (.int .i64 u.head) (.slice uk u.kids.length (u.kids.length + us)) (by have := HBN.out; have := HBX.out; omega) ⟨fun h => n2 h, fun h => n13 h, fun h => by have h : wx.heap.size ≤ b12 ∧ b12 < wkc.heap.size := h; have := HL.out; omega, fun h => n9 h, fun h => n10 h, trivial⟩
                  have Syn := Sym.set2 2 rfl (.int .i64 gc) (.int .i64 gd) (by have := HBN.out; have := HBX.out; omega) ⟨fun h => n4 h, fun h => n14 h, fun h => by have h : wx.heap.size ≤ b12 + 1 ∧ b12 + 1 < wkc.heap.size := h; have := HL.out; omega, fun h => n11 h, fun h => n12 h, trivial⟩
                  have Syn := Syn.pick [0, 3, 1, 2]
                  obtain ⟨⟨x0, _⟩, x1, _⟩ := Syl.two 0
                  obtain ⟨⟨y0, y1⟩, y2, y3⟩ := Syl.two 1
                  obtain ⟨⟨v0, v1⟩, v2, v3⟩ := Syl.two 2
                  have hl1 := Syl.lt 1
                  have hl2 := Syl.lt 2
                  clear Sy Syk Syl Sym HDO
                  go_wp2_with fail
                  refine Syn.gen (z := 0) (by omega) ?_
                  intro wmc zmc Syo
                  clear Syn x0 x1 y0 y1 y2 y3 v0 v1 v2 v3 hl1 hl2 n1 n2 n3 n4 n5 n6 n7 n8 n9 n10 n11 n12 n13 n14
                  have H := full48 rs HOKS.out.1 hn t 300 p0 _ ao c wmc (fun b hb => by have := HP.out b hb; have := Syo.bel.size; omega) (HW.out.kept Syo.bel) (HT.out.kept Syo.bel) (by have := HTS.out; omega) (by omega)
                  refine (Syo.normed H).mono ?_
                  rintro e wfcq ⟨h, y, yk, ys, rfl, HFU, zfcq, Syof⟩
                  obtain ⟨b20, hb20⟩ : ∃ b, b = wfcq.heap.size := ⟨_, rfl⟩
                  have Syoh := (Syof.box hb20.symm #[.int .i64 y.head, .slice yk y.kids.length (y.kids.length + ys)] 44).pick [0, 1, 2, 3, 4, 5]
                  have zhcq : b20 + 1 ≤ (wfcq.alloc (.cells #[.int .i64 y.head, .slice yk y.kids.length (y.kids.length + ys)] 44)).heap.size := by simp [hb20]
                  clear Syo Syof H
                  by_cases hh : h = 0
                  · have hhb : (h == 0) = true := by simp [hh]
                    have HD := Lib.hid (show ((0 : Int), zeroT, ((10 : Int), (0 : Int))) = (st, u, (gc, gd)) by
                      rw [← HDQ.out]; unfold doR; rw [if_neg (by rw [HCK.out]; simp), if_neg (by omega), if_pos (by rw [← (full_norm rs _ t).1]; exact (congrArg Prod.fst HFU.out).trans hh)])
                    obtain ⟨hd1, hd2, hd3, hd4⟩ : 0 = st ∧ zeroT = u ∧ 10 = gc ∧ 0 = gd := by have h := HD.out; simp only [Prod.mk.injEq] at h; exact h
                    have HZU := Lib.hid (zero_of_none hd2.symm)
                    subst hd1 hd3 hd4
                    clear HD HDQ HFU hd2 hh
                    go_wp2_with fail
                    rw [← hb20]
                    refine Syoh.genC (z := b20 + 1) zhcq ?_
                    intro wgcq zgcq Syog
                    clear Syoh zhcq hb20
                    obtain ⟨⟨x0, _⟩, x1, _⟩ := Syog.two 3
                    obtain ⟨⟨y0, _⟩, y1, _⟩ := Syog.two 2
                    have CA := Lib.hid (fun d os => Calls.regrown_of (fault20 10 0 (Go.Sort.grow (redrawn wgcq d) os)))
                    have CB := Lib.hid (fun d os => Calls.regrown_of (none24 u _ (Go.Sort.grow (redrawn wgcq d) os) (St.treeP (Syog.regrown d os) 1 rfl).at))
                    rw [HZU.out] at CB
                    have r0 := cell_regrown x0; have r1 := cell_regrown x1; have r2 := cell_regrown y0; have r3 := cell_regrown y1
                    clear x0 x1 y0 y1
                    refine wp_region_quiet_below (by kernel_rfl) (by kernel_rfl) ?_
                    repeat (go_big_quiet_step (first | exact CA.out _ _ | exact CB.out _ _))
                    refine wpQuiet_nil ?_
                    intro _ hw'
                    obtain ⟨⟨dq, osq⟩, hw''⟩ := hw'
                    subst hw''
                    have SE := Lib.hid (Syog.regrown dq osq).bel
                    clear r0 r1 r2 r3 CA CB Syog
                    go_wp2_with fail
                    go_ret
                    exact ⟨rfl, SE.out⟩
                  · have hhb : (h == 0) = false := by simp [hh]
                    have hhh : (h == h) = true := by simp
                    have HD := Lib.hid (show (h, y, ((0 : Int), (0 : Int))) = (st, u, (gc, gd)) by
                      have h1 := full_norm rs 300 t
                      rw [HFU.out] at h1
                      rw [← HDQ.out]; unfold doR; rw [if_neg (by rw [HCK.out]; simp), if_neg (by omega), (show (300 : Int).toNat = 300 from rfl), if_neg (by rw [← h1.1]; exact hh), ← h1.1, ← h1.2 (by rw [← h1.1]; exact hh)])
                    obtain ⟨hd1, hd2, hd3, hd4⟩ : h = st ∧ y = u ∧ 0 = gc ∧ 0 = gd := by have h := HD.out; simp only [Prod.mk.injEq] at h; exact h
                    have HYU := Lib.hid (show decide (u = y) = true by rw [hd2]; simp)
                    subst hd1 hd3 hd4
                    clear HD HDQ HFU hd2 hh
                    obtain ⟨⟨x0, _⟩, x1, _⟩ := Syoh.two 3
                    obtain ⟨⟨y0, _⟩, y1, _⟩ := Syoh.two 2
                    go_wp2_with fail
                    rw [← hb20]
                    refine Syoh.gen (z := b20 + 1) zhcq ?_
                    intro wgcq zgcq Syog
                    clear Syoh zhcq hb20 x0 x1 y0 y1
                    refine (Syog.quiet (by have h := same22 u y _ _ wgcq (Syog.treeP 1).at (Syog.treeP 4).at; rw [HYU.out] at h; exact h)).mono ?_
                    rintro e wicq ⟨rfl, zicq, Syoi⟩
                    have SE := Lib.hid Syoi.bel
                    clear Syog Syoi
                    go_wp2_with fail
                    go_ret
                    exact ⟨rfl, SE.out⟩
                · obtain ⟨n, hnf⟩ := Int.eq_ofNat_of_zero_le HIN.out.1
                  subst hnf
                  have hn300 : n ≤ 300 := by omega
                  obtain ⟨⟨x0, _⟩, x1, _⟩ := Sy.two 0
                  have H := full48 rs HOKS.out.1 hn t n p0 _ ao c wx (fun b hb => by have := HP.out b hb; have := Sy.bel.size; omega) (HW.out.kept Sy.bel) (HT.out.kept Sy.bel) (by have := HTS.out; omega) (by omega)
                  go_wp2_with fail
                  refine (Sy.normed H).mono ?_
                  rintro e wfa ⟨h, y, yk, ys, rfl, HFU, zfa, Syf⟩
                  obtain ⟨b20, hb20⟩ : ∃ b, b = wfa.heap.size := ⟨_, rfl⟩
                  have Syh := (Syf.box hb20.symm #[.int .i64 y.head, .slice yk y.kids.length (y.kids.length + ys)] 44).pick [0, 1, 2, 3, 4, 5]
                  have zha : b20 + 1 ≤ (wfa.alloc (.cells #[.int .i64 y.head, .slice yk y.kids.length (y.kids.length + ys)] 44)).heap.size := by simp [hb20]
                  clear Sy Syf H x0 x1
                  by_cases hh : h = 0
                  · have hhb : (h == 0) = true := by simp [hh]
                    have HD := Lib.hid (show ((0 : Int), zeroT, ((10 : Int), (0 : Int))) = (st, u, (gc, gd)) by
                      rw [← HDO.out]; unfold doR; rw [if_neg (by rw [HCK.out]; simp), if_neg (by omega), if_pos (by rw [← (full_norm rs _ t).1]; exact (congrArg Prod.fst HFU.out).trans hh)])
                    obtain ⟨hd1, hd2, hd3, hd4⟩ : 0 = st ∧ zeroT = u ∧ 10 = gc ∧ 0 = gd := by have h := HD.out; simp only [Prod.mk.injEq] at h; exact h
                    have HZU := Lib.hid (zero_of_none hd2.symm)
                    subst hd1 hd3 hd4
                    clear HD HDO HFU hd2 hh
                    go_wp2_with fail
                    rw [← hb20]
                    refine Syh.genC (z := b20 + 1) zha ?_
                    intro wga zga Syg
                    clear Syh zha hb20
                    obtain ⟨⟨x0, _⟩, x1, _⟩ := Syg.two 3
                    obtain ⟨⟨y0, _⟩, y1, _⟩ := Syg.two 2
                    have CA := Lib.hid (fun d os => Calls.regrown_of (fault20 10 0 (Go.Sort.grow (redrawn wga d) os)))
                    have CB := Lib.hid (fun d os => Calls.regrown_of (none24 u _ (Go.Sort.grow (redrawn wga d) os) (St.treeP (Syg.regrown d os) 1 rfl).at))
                    rw [HZU.out] at CB
                    have r0 := cell_regrown x0; have r1 := cell_regrown x1; have r2 := cell_regrown y0; have r3 := cell_regrown y1
                    clear x0 x1 y0 y1
                    refine wp_region_quiet_below (by kernel_rfl) (by kernel_rfl) ?_
                    repeat (go_big_quiet_step (first | exact CA.out _ _ | exact CB.out _ _))
                    refine wpQuiet_nil ?_
                    intro _ hw'
                    obtain ⟨⟨dq, osq⟩, hw''⟩ := hw'
                    subst hw''
                    have SE := Lib.hid (Syg.regrown dq osq).bel
                    clear r0 r1 r2 r3 CA CB Syg
                    go_wp2_with fail
                    go_ret
                    exact ⟨rfl, SE.out⟩
                  · have hhb : (h == 0) = false := by simp [hh]
                    have hhh : (h == h) = true := by simp
                    have HD := Lib.hid (show (h, y, ((0 : Int), (0 : Int))) = (st, u, (gc, gd)) by
                      have h1 := full_norm rs n t
                      rw [HFU.out] at h1
                      rw [← HDO.out]; unfold doR; rw [if_neg (by rw [HCK.out]; simp), if_neg (by omega), Int.toNat_natCast, if_neg (by rw [← h1.1]; exact hh), ← h1.1, ← h1.2 (by rw [← h1.1]; exact hh)])
                    obtain ⟨hd1, hd2, hd3, hd4⟩ : h = st ∧ y = u ∧ 0 = gc ∧ 0 = gd := by have h := HD.out; simp only [Prod.mk.injEq] at h; exact h
                    have HYU := Lib.hid (show decide (u = y) = true by rw [hd2]; simp)
                    subst hd1 hd3 hd4
                    clear HD HDO HFU hd2 hh
                    obtain ⟨⟨x0, _⟩, x1, _⟩ := Syh.two 3
                    obtain ⟨⟨y0, _⟩, y1, _⟩ := Syh.two 2
                    go_wp2_with fail
                    rw [← hb20]
                    refine Syh.gen (z := b20 + 1) zha ?_
                    intro wga zga Syg
                    clear Syh zha hb20 x0 x1 y0 y1
                    refine (Syg.quiet (by have h := same22 u y _ _ wga (Syg.treeP 1).at (Syg.treeP 4).at; rw [HYU.out] at h; exact h)).mono ?_
                    rintro e wia ⟨rfl, zia, Syi⟩
                    have SE := Lib.hid Syi.bel
                    clear Syg Syi
                    go_wp2_with fail
                    go_ret
                    exact ⟨rfl, SE.out⟩
            · have hxb : (xc != 0) = true := by simp [hxc]
              have HO := Lib.hid (show (zeroT, false, ((10 : Int), (0 : Int))) = (s, ok, (fc, fd)) by
                rw [← HON.out]; unfold onceF; rw [if_neg (by rw [HCK.out]; simp), ← HX.out, if_pos (by rw [HXC.out]; exact hxc)])
              obtain ⟨hs1, hs2, hs3, hs4⟩ : zeroT = s ∧ false = ok ∧ 10 = fc ∧ 0 = fd := by have h := HO.out; simp only [Prod.mk.injEq] at h; exact h
              have HZS := Lib.hid (zero_of_none hs1.symm)
              subst hs2 hs3 hs4
              clear HO HON hs1 hxc
              go_wp2_with fail
              refine Sv.genC (z := 0) (by omega) ?_
              intro wg zg Sg
              clear Sv
              obtain ⟨⟨x0, _⟩, x1, _⟩ := Sg.two 4
              obtain ⟨⟨y0, _⟩, y1, _⟩ := Sg.two 3
              have CA := Lib.hid (fun d os => Calls.regrown_of (fault20 10 0 (Go.Sort.grow (redrawn wg d) os)))
              have CB := Lib.hid (fun d os => Calls.regrown_of (none24 s _ (Go.Sort.grow (redrawn wg d) os) (St.treeP (Sg.regrown d os) 2 rfl).at))
              rw [HZS.out] at CB
              have r0 := cell_regrown x0; have r1 := cell_regrown x1; have r2 := cell_regrown y0; have r3 := cell_regrown y1
              clear x0 x1 y0 y1
              refine wp_region_quiet_below (by kernel_rfl) (by kernel_rfl) ?_
              repeat (go_big_quiet_step (first | exact CA.out _ _ | exact CB.out _ _))
              refine wpQuiet_nil ?_
              intro _ hw'
              obtain ⟨⟨dq, osq⟩, hw''⟩ := hw'
              subst hw''
              refine (Sg.regrown dq osq).genX (z := 0) (by omega) ?_
              intro wx zx Sx
              have Sy := Sx.pick [0, 5, 6, 7]
              clear r0 r1 r2 r3 CA CB Sg Sx
              go_wp2_with fail
              refine (in28 fuel 0 2000 wx).mono ?_
              rintro e wyb ⟨rfl, hwy⟩
              have hwy := hwy.symm
              subst hwy
              cases hin : decide (0 ≤ fuel ∧ fuel ≤ 2000) with
              | false =>
                have HD := Lib.hid (show ((0 : Int), zeroT, ((3 : Int), (-2 : Int))) = (st, u, (gc, gd)) by
                  rw [← HDO.out]; unfold doR; rw [if_neg (by rw [HCK.out]; simp), if_pos (by have := of_decide_eq_false hin; omega)])
                obtain ⟨hd1, hd2, hd3, hd4⟩ : 0 = st ∧ zeroT = u ∧ 3 = gc ∧ -2 = gd := by have h := HD.out; simp only [Prod.mk.injEq] at h; exact h
                have HZU := Lib.hid (zero_of_none hd2.symm)
                subst hd1 hd3 hd4
                clear HD HDO hd2 hin
                go_wp2_with fail
                refine Sy.genC (z := 0) (by omega) ?_
                intro wgb zgb Syg
                clear Sy
                obtain ⟨⟨x0, _⟩, x1, _⟩ := Syg.two 3
                obtain ⟨⟨y0, _⟩, y1, _⟩ := Syg.two 2
                have CA := Lib.hid (fun d os => Calls.regrown_of (fault20 3 (-2) (Go.Sort.grow (redrawn wgb d) os)))
                have CB := Lib.hid (fun d os => Calls.regrown_of (none24 u _ (Go.Sort.grow (redrawn wgb d) os) (St.treeP (Syg.regrown d os) 1 rfl).at))
                rw [HZU.out] at CB
                have r0 := cell_regrown x0; have r1 := cell_regrown x1; have r2 := cell_regrown y0; have r3 := cell_regrown y1
                clear x0 x1 y0 y1
                refine wp_region_quiet_below (by kernel_rfl) (by kernel_rfl) ?_
                repeat (go_big_quiet_step (first | exact CA.out _ _ | exact CB.out _ _))
                refine wpQuiet_nil ?_
                intro _ hw'
                obtain ⟨⟨dq, osq⟩, hw''⟩ := hw'
                subst hw''
                have SE := Lib.hid (Syg.regrown dq osq).bel
                clear r0 r1 r2 r3 CA CB Syg
                go_wp2_with fail
                go_ret
                exact ⟨rfl, SE.out⟩
              | true =>
                have HIN := Lib.hid (of_decide_eq_true hin)
                clear hin
                by_cases hgt : (300 : Int) < fuel
                · obtain ⟨⟨x0, _⟩, x1, _⟩ := Sy.two 0
                  have Sy := Sy.pick [0, 2, 3]
                  have HL := Lib.hid (show b12 < wx.heap.size ∧ b12 + 1 < wx.heap.size from ⟨Sy.lt 1, Sy.lt 2⟩)
                  go_wp2_with fail
                  refine (Sy.doned (do37 rs t 300 p0 _ ao c wx (fun b hb => by have := HP.out b hb; have := Sy.bel.size; omega) (HW.out.kept Sy.bel) (HT.out.kept Sy.bel) hn)).mono ?_
                  rintro e wkd ⟨st, u, uk, us, gc, gd, rfl, HDQ, zkd, Syk⟩
                  have Syl := (Syk.box rfl #[.int .i64 u.head, .slice uk u.kids.length (u.kids.length + us)] 44).box (b := wkd.heap.size + 1) (by simp) #[.int .i64 gc, .int .i64 gd] 32
                  have n1 : ¬ bx = b12 := by have := HBN.out; omega
                  have n2 : ¬ b12 = bx := by have := HBN.out; omega
                  have n3 : ¬ bx = b12 + 1 := by have := HBN.out; omega
                  have n4 : ¬ b12 + 1 = bx := by have := HBN.out; omega
                  have n5 : ¬ wkd.heap.size = b12 := by have := HL.out; omega
                  have n6 : ¬ wkd.heap.size + 1 = b12 := by have := HL.out; omega
                  have n7 : ¬ wkd.heap.size = b12 + 1 := by have := HL.out; omega
                  have n8 : ¬ wkd.heap.size + 1 = b12 + 1 := by have := HL.out; omega
                  have n9 : ¬ b12 = wkd.heap.size := by have := HL.out; omega
                  have n10 : ¬ b12 = wkd.heap.size + 1 := by have := HL.out; omega
                  have n11 : ¬ b12 + 1 = wkd.heap.size := by have := HL.out; omega
                  have n12 : ¬ b12 + 1 = wkd.heap.size + 1 := by have := HL.out; omega
                  have n13 : ¬ b12 = b12 + 1 := by omega
                  have n14 : ¬ b12 + 1 = b12 := by omega
                  have Sym := Syl.set2 1 rfl (.int .i64 u.head) (.slice uk u.kids.length (u.kids.length + us)) (by have := HBN.out; have := HBX.out; omega) ⟨fun h => n2 h, fun h => n13 h, fun h => by have h : wx.heap.size ≤ b12 ∧ b12 < wkd.heap.size := h; have := HL.out; omega, fun h => n9 h, fun h => n10 h, trivial⟩
                  have Syn := Sym.set2 2 rfl (.int .i64 gc) (.int .i64 gd) (by have := HBN.out; have := HBX.out; omega) ⟨fun h => n4 h, fun h => n14 h, fun h => by have h : wx.heap.size ≤ b12 + 1 ∧ b12 + 1 < wkd.heap.size := h; have := HL.out; omega, fun h => n11 h, fun h => n12 h, trivial⟩
                  have Syn := Syn.pick [0, 3, 1, 2]
                  obtain ⟨⟨x0, _⟩, x1, _⟩ := Syl.two 0
                  obtain ⟨⟨y0, y1⟩, y2, y3⟩ := Syl.two 1
                  obtain ⟨⟨v0, v1⟩, v2, v3⟩ := Syl.two 2
                  have hl1 := Syl.lt 1
                  have hl2 := Syl.lt 2
                  clear Sy Syk Syl Sym HDO
                  go_wp2_with fail
                  refine Syn.gen (z := 0) (by omega) ?_
                  intro wmd zmd Syo
                  clear Syn x0 x1 y0 y1 y2 y3 v0 v1 v2 v3 hl1 hl2 n1 n2 n3 n4 n5 n6 n7 n8 n9 n10 n11 n12 n13 n14
                  have H := full48 rs HOKS.out.1 hn t 300 p0 _ ao c wmd (fun b hb => by have := HP.out b hb; have := Syo.bel.size; omega) (HW.out.kept Syo.bel) (HT.out.kept Syo.bel) (by have := HTS.out; omega) (by omega)
                  refine (Syo.normed H).mono ?_
                  rintro e wfdq ⟨h, y, yk, ys, rfl, HFU, zfdq, Syof⟩
                  obtain ⟨b20, hb20⟩ : ∃ b, b = wfdq.heap.size := ⟨_, rfl⟩
                  have Syoh := (Syof.box hb20.symm #[.int .i64 y.head, .slice yk y.kids.length (y.kids.length + ys)] 44).pick [0, 1, 2, 3, 4, 5]
                  have zhdq : b20 + 1 ≤ (wfdq.alloc (.cells #[.int .i64 y.head, .slice yk y.kids.length (y.kids.length + ys)] 44)).heap.size := by simp [hb20]
                  clear Syo Syof H
                  by_cases hh : h = 0
                  · have hhb : (h == 0) = true := by simp [hh]
                    have HD := Lib.hid (show ((0 : Int), zeroT, ((10 : Int), (0 : Int))) = (st, u, (gc, gd)) by
                      rw [← HDQ.out]; unfold doR; rw [if_neg (by rw [HCK.out]; simp), if_neg (by omega), if_pos (by rw [← (full_norm rs _ t).1]; exact (congrArg Prod.fst HFU.out).trans hh)])
                    obtain ⟨hd1, hd2, hd3, hd4⟩ : 0 = st ∧ zeroT = u ∧ 10 = gc ∧ 0 = gd := by have h := HD.out; simp only [Prod.mk.injEq] at h; exact h
                    have HZU := Lib.hid (zero_of_none hd2.symm)
                    subst hd1 hd3 hd4
                    clear HD HDQ HFU hd2 hh
                    go_wp2_with fail
                    rw [← hb20]
                    refine Syoh.genC (z := b20 + 1) zhdq ?_
                    intro wgdq zgdq Syog
                    clear Syoh zhdq hb20
                    obtain ⟨⟨x0, _⟩, x1, _⟩ := Syog.two 3
                    obtain ⟨⟨y0, _⟩, y1, _⟩ := Syog.two 2
                    have CA := Lib.hid (fun d os => Calls.regrown_of (fault20 10 0 (Go.Sort.grow (redrawn wgdq d) os)))
                    have CB := Lib.hid (fun d os => Calls.regrown_of (none24 u _ (Go.Sort.grow (redrawn wgdq d) os) (St.treeP (Syog.regrown d os) 1 rfl).at))
                    rw [HZU.out] at CB
                    have r0 := cell_regrown x0; have r1 := cell_regrown x1; have r2 := cell_regrown y0; have r3 := cell_regrown y1
                    clear x0 x1 y0 y1
                    refine wp_region_quiet_below (by kernel_rfl) (by kernel_rfl) ?_
                    repeat (go_big_quiet_step (first | exact CA.out _ _ | exact CB.out _ _))
                    refine wpQuiet_nil ?_
                    intro _ hw'
                    obtain ⟨⟨dq, osq⟩, hw''⟩ := hw'
                    subst hw''
                    have SE := Lib.hid (Syog.regrown dq osq).bel
                    clear r0 r1 r2 r3 CA CB Syog
                    go_wp2_with fail
                    go_ret
                    exact ⟨rfl, SE.out⟩
                  · have hhb : (h == 0) = false := by simp [hh]
                    have hhh : (h == h) = true := by simp
                    have HD := Lib.hid (show (h, y, ((0 : Int), (0 : Int))) = (st, u, (gc, gd)) by
                      have h1 := full_norm rs 300 t
                      rw [HFU.out] at h1
                      rw [← HDQ.out]; unfold doR; rw [if_neg (by rw [HCK.out]; simp), if_neg (by omega), (show (300 : Int).toNat = 300 from rfl), if_neg (by rw [← h1.1]; exact hh), ← h1.1, ← h1.2 (by rw [← h1.1]; exact hh)])
                    obtain ⟨hd1, hd2, hd3, hd4⟩ : h = st ∧ y = u ∧ 0 = gc ∧ 0 = gd := by have h := HD.out; simp only [Prod.mk.injEq] at h; exact h
                    have HYU := Lib.hid (show decide (u = y) = true by rw [hd2]; simp)
                    subst hd1 hd3 hd4
                    clear HD HDQ HFU hd2 hh
                    obtain ⟨⟨x0, _⟩, x1, _⟩ := Syoh.two 3
                    obtain ⟨⟨y0, _⟩, y1, _⟩ := Syoh.two 2
                    go_wp2_with fail
                    rw [← hb20]
                    refine Syoh.gen (z := b20 + 1) zhdq ?_
                    intro wgdq zgdq Syog
                    clear Syoh zhdq hb20 x0 x1 y0 y1
                    refine (Syog.quiet (by have h := same22 u y _ _ wgdq (Syog.treeP 1).at (Syog.treeP 4).at; rw [HYU.out] at h; exact h)).mono ?_
                    rintro e widq ⟨rfl, zidq, Syoi⟩
                    have SE := Lib.hid Syoi.bel
                    clear Syog Syoi
                    go_wp2_with fail
                    go_ret
                    exact ⟨rfl, SE.out⟩
                · obtain ⟨n, hnf⟩ := Int.eq_ofNat_of_zero_le HIN.out.1
                  subst hnf
                  have hn300 : n ≤ 300 := by omega
                  obtain ⟨⟨x0, _⟩, x1, _⟩ := Sy.two 0
                  have H := full48 rs HOKS.out.1 hn t n p0 _ ao c wx (fun b hb => by have := HP.out b hb; have := Sy.bel.size; omega) (HW.out.kept Sy.bel) (HT.out.kept Sy.bel) (by have := HTS.out; omega) (by omega)
                  go_wp2_with fail
                  refine (Sy.normed H).mono ?_
                  rintro e wfb ⟨h, y, yk, ys, rfl, HFU, zfb, Syf⟩
                  obtain ⟨b20, hb20⟩ : ∃ b, b = wfb.heap.size := ⟨_, rfl⟩
                  have Syh := (Syf.box hb20.symm #[.int .i64 y.head, .slice yk y.kids.length (y.kids.length + ys)] 44).pick [0, 1, 2, 3, 4, 5]
                  have zhb : b20 + 1 ≤ (wfb.alloc (.cells #[.int .i64 y.head, .slice yk y.kids.length (y.kids.length + ys)] 44)).heap.size := by simp [hb20]
                  clear Sy Syf H x0 x1
                  by_cases hh : h = 0
                  · have hhb : (h == 0) = true := by simp [hh]
                    have HD := Lib.hid (show ((0 : Int), zeroT, ((10 : Int), (0 : Int))) = (st, u, (gc, gd)) by
                      rw [← HDO.out]; unfold doR; rw [if_neg (by rw [HCK.out]; simp), if_neg (by omega), if_pos (by rw [← (full_norm rs _ t).1]; exact (congrArg Prod.fst HFU.out).trans hh)])
                    obtain ⟨hd1, hd2, hd3, hd4⟩ : 0 = st ∧ zeroT = u ∧ 10 = gc ∧ 0 = gd := by have h := HD.out; simp only [Prod.mk.injEq] at h; exact h
                    have HZU := Lib.hid (zero_of_none hd2.symm)
                    subst hd1 hd3 hd4
                    clear HD HDO HFU hd2 hh
                    go_wp2_with fail
                    rw [← hb20]
                    refine Syh.genC (z := b20 + 1) zhb ?_
                    intro wgb zgb Syg
                    clear Syh zhb hb20
                    obtain ⟨⟨x0, _⟩, x1, _⟩ := Syg.two 3
                    obtain ⟨⟨y0, _⟩, y1, _⟩ := Syg.two 2
                    have CA := Lib.hid (fun d os => Calls.regrown_of (fault20 10 0 (Go.Sort.grow (redrawn wgb d) os)))
                    have CB := Lib.hid (fun d os => Calls.regrown_of (none24 u _ (Go.Sort.grow (redrawn wgb d) os) (St.treeP (Syg.regrown d os) 1 rfl).at))
                    rw [HZU.out] at CB
                    have r0 := cell_regrown x0; have r1 := cell_regrown x1; have r2 := cell_regrown y0; have r3 := cell_regrown y1
                    clear x0 x1 y0 y1
                    refine wp_region_quiet_below (by kernel_rfl) (by kernel_rfl) ?_
                    repeat (go_big_quiet_step (first | exact CA.out _ _ | exact CB.out _ _))
                    refine wpQuiet_nil ?_
                    intro _ hw'
                    obtain ⟨⟨dq, osq⟩, hw''⟩ := hw'
                    subst hw''
                    have SE := Lib.hid (Syg.regrown dq osq).bel
                    clear r0 r1 r2 r3 CA CB Syg
                    go_wp2_with fail
                    go_ret
                    exact ⟨rfl, SE.out⟩
                  · have hhb : (h == 0) = false := by simp [hh]
                    have hhh : (h == h) = true := by simp
                    have HD := Lib.hid (show (h, y, ((0 : Int), (0 : Int))) = (st, u, (gc, gd)) by
                      have h1 := full_norm rs n t
                      rw [HFU.out] at h1
                      rw [← HDO.out]; unfold doR; rw [if_neg (by rw [HCK.out]; simp), if_neg (by omega), Int.toNat_natCast, if_neg (by rw [← h1.1]; exact hh), ← h1.1, ← h1.2 (by rw [← h1.1]; exact hh)])
                    obtain ⟨hd1, hd2, hd3, hd4⟩ : h = st ∧ y = u ∧ 0 = gc ∧ 0 = gd := by have h := HD.out; simp only [Prod.mk.injEq] at h; exact h
                    have HYU := Lib.hid (show decide (u = y) = true by rw [hd2]; simp)
                    subst hd1 hd3 hd4
                    clear HD HDO HFU hd2 hh
                    obtain ⟨⟨x0, _⟩, x1, _⟩ := Syh.two 3
                    obtain ⟨⟨y0, _⟩, y1, _⟩ := Syh.two 2
                    go_wp2_with fail
                    rw [← hb20]
                    refine Syh.gen (z := b20 + 1) zhb ?_
                    intro wgb zgb Syg
                    clear Syh zhb hb20 x0 x1 y0 y1
                    refine (Syg.quiet (by have h := same22 u y _ _ wgb (Syg.treeP 1).at (Syg.treeP 4).at; rw [HYU.out] at h; exact h)).mono ?_
                    rintro e wib ⟨rfl, zib, Syi⟩
                    have SE := Lib.hid Syi.bel
                    clear Syg Syi
                    go_wp2_with fail
                    go_ret
                    exact ⟨rfl, SE.out⟩

          · have htb : (tc != 0) = true := by simp [htc]
            have HCK := Lib.hid (show checkF rs t = (tc, -1) by unfold checkF; rw [if_neg (by rw [HRC.out]; simp), if_pos (by rw [HTC.out]; exact htc), HTC.out])
            obtain ⟨⟨x2, _⟩, x3, _⟩ := S7.two 0
            go_wp2_with fail
            refine (S7.faultF (tree18 t _ w7 (by have := HTS.out; omega) (HT.out.kept S7.bel).at)).mono ?_
            rintro e w8 ⟨tc2, td2, rfl, HTC2, z9, S8⟩
            obtain ⟨ht1, ht2⟩ : tc = tc2 ∧ td = td2 := by have h := HTC.out.symm.trans HTC2.out; simpa using h
            subst ht1 ht2
            clear S7 HTC2 x2 x3
            go_wp2_with fail
            refine (S8.quiet (fault20 tc (-1) w8)).mono ?_
            rintro e w9 ⟨rfl, z10, S9⟩
            obtain ⟨⟨x0, x1⟩, x2, x3⟩ := S9.two 1
            obtain ⟨⟨y0, _⟩, y1, _⟩ := S9.two 0
            have hl0 := S9.lt 1
            have hx := HBX.out; have h7 := HB7.out
            have n1 : ¬ b7 = bx := by omega
            have n2 : ¬ bx = b7 := by omega
            have S10 := S9.set2 1 rfl (.int .i64 tc) (.int .i64 (-1)) (by omega) ⟨fun h => by have h : b7 = bx := h; omega, trivial⟩
            clear S8 S9 htc hx h7
            go_wp2_with fail
            refine S10.gen (z := 0) (by omega) ?_
            intro wb zb Sb
            clear S10 x0 x1 x2 x3 y0 y1 hl0
            refine (Sb.onced (once46 rs t p0 _ ao c wb (fun b hb => by have := HP.out b hb; have := Sb.bel.size; omega) (HW.out.kept Sb.bel) (HT.out.kept Sb.bel) hn)).mono ?_
            rintro e wo ⟨s, sk, ss, ok, fc, fd, rfl, HON, zo, So⟩
            obtain ⟨b8, hb8⟩ : ∃ b, b = wo.heap.size := ⟨_, rfl⟩
            have So2 := (So.box hb8.symm #[.int .i64 s.head, .slice sk s.kids.length (s.kids.length + ss)] 44).box (b := b8 + 1) (by simp [hb8]) #[.int .i64 fc, .int .i64 fd] 32
            have zo2 : b8 + 2 ≤ ((wo.alloc (.cells #[.int .i64 s.head, .slice sk s.kids.length (s.kids.length + ss)] 44)).alloc (.cells #[.int .i64 fc, .int .i64 fd] 32)).heap.size := by simp [hb8]
            have HB8 := Lib.hid (show wb.heap.size ≤ b8 by omega)
            clear Sb So
            obtain ⟨⟨x0, _⟩, x1, _⟩ := So2.two 0
            go_wp2_with fail
            rw [← hb8]
            refine So2.gen (z := b8 + 2) zo2 ?_
            intro wp zp Sp
            clear So2 x0 x1 zo2 hb8 zo
            refine (Sp.doned (do37 rs t fuel p0 _ ao c wp (fun b hb => by have := HP.out b hb; have := Sp.bel.size; omega) (HW.out.kept Sp.bel) (HT.out.kept Sp.bel) hn)).mono ?_
            rintro e wq ⟨st, u, uk, us, gc, gd, rfl, HDO, zq, Sq⟩
            obtain ⟨b12, hb12⟩ : ∃ b, b = wq.heap.size := ⟨_, rfl⟩
            have Sr := (Sq.box hb12.symm #[.int .i64 u.head, .slice uk u.kids.length (u.kids.length + us)] 44).box (b := b12 + 1) (by simp [hb12]) #[.int .i64 gc, .int .i64 gd] 32
            have zr : b12 + 2 ≤ ((wq.alloc (.cells #[.int .i64 u.head, .slice uk u.kids.length (u.kids.length + us)] 44)).alloc (.cells #[.int .i64 gc, .int .i64 gd] 32)).heap.size := by simp [hb12]
            have HB12 := Lib.hid (show wp.heap.size ≤ b12 ∧ b8 + 2 ≤ b12 by omega)
            have HBN := Lib.hid (show bx < b12 by have := Sq.lt 0; omega)
            clear Sp Sq
            have HO := Lib.hid (show (zeroT, false, (tc, -1)) = (s, ok, (fc, fd)) by rw [← HON.out]; unfold onceF; rw [if_pos (by rw [HCK.out]; simpa using htb), HCK.out])
            have HD := Lib.hid (show ((0 : Int), zeroT, (tc, -1)) = (st, u, (gc, gd)) by rw [← HDO.out]; unfold doR; rw [if_pos (by rw [HCK.out]; simpa using htb), HCK.out])
            obtain ⟨hs1, hs2, hs3, hs4⟩ : zeroT = s ∧ false = ok ∧ tc = fc ∧ -1 = fd := by have h := HO.out; simp only [Prod.mk.injEq] at h; exact h
            obtain ⟨hd1, hd2, hd3, hd4⟩ : 0 = st ∧ zeroT = u ∧ tc = gc ∧ -1 = gd := by have h := HD.out; simp only [Prod.mk.injEq] at h; exact h
            have HZS := Lib.hid (zero_of_none hs1.symm)
            have HZU := Lib.hid (zero_of_none hd2.symm)
            subst hs2 hs3 hs4 hd1 hd3 hd4
            clear HO HD HON HDO hs1 hd2
            obtain ⟨⟨x0, x1⟩, x2, x3⟩ := Sr.two 1
            obtain ⟨⟨y0, y1⟩, y2, y3⟩ := Sr.two 4
            obtain ⟨⟨y4, _⟩, y5, _⟩ := Sr.two 3
            obtain ⟨⟨v0, v1⟩, v2, v3⟩ := Sr.two 7
            obtain ⟨⟨v4, _⟩, v5, _⟩ := Sr.two 6
            go_wp2_with fail
            rw [← hb12]
            refine Sr.gen (z := b12 + 2) zr ?_
            intro wr zs Ss
            clear Sr x0 x1 x2 x3 y0 y1 y2 y3 y4 y5 v0 v1 v2 v3 v4 v5 zr hb12
            refine (Ss.quiet (by have h := none24 s _ wr (Ss.treeP 2).at; rw [HZS.out] at h; exact h)).mono ?_
            rintro e wt ⟨rfl, zt, St_⟩
            obtain ⟨⟨v4, _⟩, v5, _⟩ := St_.two 6
            clear Ss
            go_wp2_with fail
            refine (St_.quiet (by have h := none24 u _ wt (St_.treeP 5).at; rw [HZU.out] at h; exact h)).mono ?_
            rintro e wu ⟨rfl, zu, Su⟩
            have SE := Lib.hid Su.bel
            clear St_ Su v4 v5
            go_wp2_with fail
            go_ret
            exact ⟨rfl, SE.out⟩

        · have hrb0 : (rc == 0) = false := by simp [hrc]
          have hrb : (rc != 0) = true := by simp [hrc]
          have HCK := Lib.hid (show checkF rs t = (rc, rd) by unfold checkF; rw [if_pos (by rw [HRC.out]; exact hrc), HRC.out])
          obtain ⟨⟨x0, _⟩, x1, _⟩ := S6.two 1
          obtain ⟨⟨x2, _⟩, x3, _⟩ := S6.two 0
          go_wp2_with fail
          refine (S6.onced (once46 rs t p0 _ ao c w6 (fun b hb => by have := HP.out b hb; have := S6.bel.size; omega) (HW.out.kept S6.bel) (HT.out.kept S6.bel) hn)).mono ?_
          rintro e wo ⟨s, sk, ss, ok, fc, fd, rfl, HON, zo, So⟩
          obtain ⟨b8, hb8⟩ : ∃ b, b = wo.heap.size := ⟨_, rfl⟩
          have So2 := (So.box hb8.symm #[.int .i64 s.head, .slice sk s.kids.length (s.kids.length + ss)] 44).box (b := b8 + 1) (by simp [hb8]) #[.int .i64 fc, .int .i64 fd] 32
          have zo2 : b8 + 2 ≤ ((wo.alloc (.cells #[.int .i64 s.head, .slice sk s.kids.length (s.kids.length + ss)] 44)).alloc (.cells #[.int .i64 fc, .int .i64 fd] 32)).heap.size := by simp [hb8]
          have HB8 := Lib.hid (show w6.heap.size ≤ b8 by omega)
          clear S6 So x0 x1
          obtain ⟨⟨x0, _⟩, x1, _⟩ := So2.two 0
          go_wp2_with fail
          rw [← hb8]
          refine So2.gen (z := b8 + 2) zo2 ?_
          intro wp zp Sp
          clear So2 x0 x1 zo2 hb8 zo
          refine (Sp.doned (do37 rs t fuel p0 _ ao c wp (fun b hb => by have := HP.out b hb; have := Sp.bel.size; omega) (HW.out.kept Sp.bel) (HT.out.kept Sp.bel) hn)).mono ?_
          rintro e wq ⟨st, u, uk, us, gc, gd, rfl, HDO, zq, Sq⟩
          obtain ⟨b12, hb12⟩ : ∃ b, b = wq.heap.size := ⟨_, rfl⟩
          have Sr := (Sq.box hb12.symm #[.int .i64 u.head, .slice uk u.kids.length (u.kids.length + us)] 44).box (b := b12 + 1) (by simp [hb12]) #[.int .i64 gc, .int .i64 gd] 32
          have zr : b12 + 2 ≤ ((wq.alloc (.cells #[.int .i64 u.head, .slice uk u.kids.length (u.kids.length + us)] 44)).alloc (.cells #[.int .i64 gc, .int .i64 gd] 32)).heap.size := by simp [hb12]
          have HB12 := Lib.hid (show wp.heap.size ≤ b12 ∧ b8 + 2 ≤ b12 by omega)
          have HBN := Lib.hid (show bx < b12 by have := Sq.lt 0; omega)
          clear Sp Sq
          have HO := Lib.hid (show (zeroT, false, (rc, rd)) = (s, ok, (fc, fd)) by rw [← HON.out]; unfold onceF; rw [if_pos (by rw [HCK.out]; simpa using hrb), HCK.out])
          have HD := Lib.hid (show ((0 : Int), zeroT, (rc, rd)) = (st, u, (gc, gd)) by rw [← HDO.out]; unfold doR; rw [if_pos (by rw [HCK.out]; simpa using hrb), HCK.out])
          obtain ⟨hs1, hs2, hs3, hs4⟩ : zeroT = s ∧ false = ok ∧ rc = fc ∧ rd = fd := by have h := HO.out; simp only [Prod.mk.injEq] at h; exact h
          obtain ⟨hd1, hd2, hd3, hd4⟩ : 0 = st ∧ zeroT = u ∧ rc = gc ∧ rd = gd := by have h := HD.out; simp only [Prod.mk.injEq] at h; exact h
          have HZS := Lib.hid (zero_of_none hs1.symm)
          have HZU := Lib.hid (zero_of_none hd2.symm)
          subst hs2 hs3 hs4 hd1 hd3 hd4
          clear HO HD HON HDO hs1 hd2
          obtain ⟨⟨x0, x1⟩, x2, x3⟩ := Sr.two 1
          obtain ⟨⟨y0, y1⟩, y2, y3⟩ := Sr.two 4
          obtain ⟨⟨y4, _⟩, y5, _⟩ := Sr.two 3
          obtain ⟨⟨v0, v1⟩, v2, v3⟩ := Sr.two 7
          obtain ⟨⟨v4, _⟩, v5, _⟩ := Sr.two 6
          go_wp2_with fail
          rw [← hb12]
          refine Sr.gen (z := b12 + 2) zr ?_
          intro wr zs Ss
          clear Sr x0 x1 x2 x3 y0 y1 y2 y3 y4 y5 v0 v1 v2 v3 v4 v5 zr hb12
          refine (Ss.quiet (by have h := none24 s _ wr (Ss.treeP 2).at; rw [HZS.out] at h; exact h)).mono ?_
          rintro e wt ⟨rfl, zt, St_⟩
          obtain ⟨⟨v4, _⟩, v5, _⟩ := St_.two 6
          clear Ss
          go_wp2_with fail
          refine (St_.quiet (by have h := none24 u _ wt (St_.treeP 5).at; rw [HZU.out] at h; exact h)).mono ?_
          rintro e wu ⟨rfl, zu, Su⟩
          have SE := Lib.hid Su.bel
          clear St_ Su v4 v5
          go_wp2_with fail
          go_ret
          exact ⟨rfl, SE.out⟩
end Go.Proofs.Yteekoclfpehnpaa
