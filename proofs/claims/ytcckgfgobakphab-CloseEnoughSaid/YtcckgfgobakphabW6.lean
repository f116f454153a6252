/-
  Walks: the reference's Classes.
-/
import Derived.Test.YtcckgfgobakphabProg
import Derived.Test.YtcckgfgobakphabBase
import Derived.Test.YtcckgfgobakphabCmath
import Derived.Test.YtcckgfgobakphabW5
import Derived.StillTailTactics
import Derived.Deep.LoopGhost
namespace Go.Proofs.Ytcckgfgobakphab
open Go.RowKit
set_option linter.unusedVariables false
set_option maxHeartbeats 400000

theorem range_vN (k : Nat) : (List.range (k + 1)).map vN = (List.range k).map vN ++ [vN k] := by rw [List.range_succ]; simp

set_option maxRecDepth 100000 in
set_option maxHeartbeats 3000000 in
theorem refClasses_any (ts : List Tm) (ps : List (Int × Int)) (tv pv : Value) (w : World) (hn : ts.length ≤ 80) (hm : ps.length ≤ 120) (hk0 : kidsIn ts) (hp0 : pairsIn ts.length ps)
    (ht : TermsAt w tv ts) (hp : PairsAt w pv ps) :
    Calls Try.prog 12 #[tv, pv] w fun e w' => ∃ u, e = .returned u ∧ NatsFrom w.heap.size w' u (classes ts ps) ∧ Below w.heap.size w w' := by
  obtain ⟨ao, cap, rfl, hts⟩ := ht
  obtain ⟨bo, bcap, rfl, hps⟩ := hp
  obtain ⟨i0, hi, hz0, hz1, hz2⟩ := info_parts info3
  have HT := Lib.hid hts; have HP := Lib.hid hps; have HK := Lib.hid hk0; have HPI := Lib.hid hp0; clear hts hps hk0 hp0
  go_enter Try.func12, Try.ntmps12
  go_wp2_with fail
  go_loopw [5, 6] (fun o i wr => ∃ k : Nat, k ≤ ts.length ∧ i = .int .i64 k ∧ Below w.heap.size w wr ∧ wr.ownsRow w.heap.size 3 1 o k ((List.range k).map vN)) (fun _ i _ => ts.length - (intOf i).toNat)
  case atStart => exact ⟨0, by omega, rfl, Below.refl _ _, by simpa using World.ownsRow_nil _ _ _ _⟩
  case round =>
    obtain ⟨k, hk, rfl, hbel, hown⟩ := hrel
    have hsz := hbel.size
    by_cases hkl : k < ts.length
    · go_wp2_with (at_builtin; refine wpList_append_own _ rfl _ _ 24 rfl w.heap.size 3 i0 (.int .i64 0) 1 8 Try.underlying24 hi hz0 hz1 hz2 rfl (by decide) _ _ _ rfl (hown.alloc _) ⟨wr.heap.size, 0, none⟩ 1 1 [vN k] rfl rfl ?c1 ?c2 ?c3 ?c4 ?c5 ?_)
      case c1 => exact cell_one_new _ _ _
      case c2 => intro u hu; simp at hu; subst hu; rfl
      case c3 => unfold maxLen; omega
      case c4 => omega
      case c5 => simp; omega
      intro v' w1 hown' hgrow _
      have hb1 : Below w.heap.size w w1 := (hbel.alloc hsz _).grown hgrow (by simp; omega) (fun q hq => (hown.lt q hq).1)
      clear hown hgrow
      go_wp2_with fail
      go_roundw
      case rel => exact ⟨k + 1, by omega, by go_num, hb1, by rw [range_vN]; exact hown'⟩
      case measure => simp [intOf]; omega
    · obtain rfl : k = ts.length := by omega
      have hnat : NatsFrom w.heap.size wr u5 (initTo ts.length ps 0) := NatsFrom.ofOwn (base := w.heap.size) (by simpa [initTo] using hown) (Nat.le_refl _)
      clear hown
      go_wp2_with fail
      go_loopw [5, 7] (fun o i wr => ∃ k : Nat, k ≤ ps.length ∧ i = .int .i64 k ∧ Below w.heap.size w wr ∧ NatsFrom w.heap.size wr o (initTo ts.length ps k)) (fun _ i _ => ps.length - (intOf i).toNat)
      case atStart => exact ⟨0, by omega, rfl, hbel, hnat⟩
      case round =>
        obtain ⟨k, hk, rfl, hbel, hnat⟩ := hrel
        have hg := Good.initTo HPI.out hk
        by_cases hkl : k < ps.length
        · obtain ⟨b, off, rfl, h1, h2⟩ := HP.out k hkl
          have r := HPI.out k hkl
          obtain ⟨x, hx⟩ := Int.eq_ofNat_of_zero_le r.1
          obtain ⟨y, hy⟩ := Int.eq_ofNat_of_zero_le r.2.2.1
          have c1 := Below.cellOf hbel h1
          have c2 := Below.cellOf hbel h2
          have hxn : x < ts.length := by omega
          have hyn : y < ts.length := by omega
          have HI := Lib.hid (show initTo ts.length ps (k + 1) = merge (initTo ts.length ps k) x y by simp [initTo, hx, hy])
          simp only [hx, hy] at c1 c2
          clear h1 h2 r hx hy
          have HG := Lib.hid hg; have HNA := Lib.hid hnat
          clear hg hnat
          go_wp2_with fail
          go_still_tail 11, (by kernel_rfl)
          change wpList _ _ _ _ _ wr.drew
          go_wp2_with fail
          have hszq : w.heap.size ≤ wr.drew.heap.size := hbel.size
          refine (merged_any (initTo ts.length ps k) x y _ _ (by rw [HG.out.len]; omega) (fun j => by have := HG.out.le j; omega) (by rw [HG.out.len]; omega) (by rw [HG.out.len]; omega) (HNA.out.1.below (Below.refl _ _).drew)).mono ?_
          rintro e w1 ⟨u, rfl, hn1, hb1⟩
          have hbel1 : Below w.heap.size w w1 := Below.step hbel.drew hb1
          have HN1 := Lib.hid (hn1.mono hszq); clear hn1
          go_wp2_with fail
          go_roundw
          case rel => exact ⟨k + 1, by omega, by go_num, hbel1, by rw [HI.out]; exact HN1.out⟩
          case measure => simp [intOf]; omega
        · obtain rfl : k = ps.length := by omega
          have HNA := Lib.hid hnat; have HG := Lib.hid hg; clear hnat hg
          have HC := Lib.hid (show classes ts ps = satOf ts (initTo ts.length ps ps.length) from rfl)
          go_wp2_with fail
          go_loopg [5, 8, 9, 10] ((initTo ts.length ps ps.length).sum + 1) (fun g o m _ _ wr => ∃ cl mb, cl.sum + (if mb = true then 1 else 0) ≤ g ∧ Good ts.length cl ∧ m = .bool mb ∧ NatsFrom w.heap.size wr o cl ∧ Below w.heap.size w wr ∧
              (mb = true → ∀ d, SatTo ts cl d → SatTo ts (initTo ts.length ps ps.length) d) ∧ (mb = false → SatTo ts (initTo ts.length ps ps.length) cl))
          case atStart => exact ⟨_, true, by simp, HG.out, rfl, HNA.out, hbel, fun _ d h => h, fun h => (by cases h)⟩
          case round =>
            obtain ⟨cl, mb, hsum, hg, rfl, hnat, hbel, hyes, hdone⟩ := hrel
            have HNA := Lib.hid hnat; have HG := Lib.hid hg; have HY := Lib.hid hyes; have HDN := Lib.hid hdone; have HSM := Lib.hid hsum; clear hnat hg hyes hdone hsum
            cases mb with
            | false =>
              go_wp2_with fail
              go_ret
              have hres : NatsFrom w.heap.size wr u5 (classes ts ps) := by rw [HC.out, satOf_of (HDN.out (by simp))]; exact HNA.out
              exact ⟨_, rfl, hres, hbel⟩
            | true =>
              have hst : outerTo ts (cl, false) 0 = (cl, false) := rfl
              have HST := Lib.hid hst; clear hst
              go_wp2_with fail
              go_loopw [5, 8, 9, 10] (fun o m i _ wr => ∃ k : Nat, k ≤ ts.length ∧ i = .int .i64 k ∧ m = .bool (outerTo ts (cl, false) k).2 ∧ NatsFrom w.heap.size wr o (outerTo ts (cl, false) k).1 ∧ Below w.heap.size w wr) (fun _ _ i _ _ => ts.length - (intOf i).toNat)
              case atStart => exact ⟨0, by omega, rfl, rfl, HNA.out, hbel⟩
              case round =>
                obtain ⟨k, hk, rfl, rfl, hnat, hbel⟩ := hrel
                have hg1 := Good.outerTo (ts := ts) (st := (cl, false)) HG.out hk
                have HNA1 := Lib.hid hnat; clear hnat
                by_cases hlt : k < ts.length
                · have HO := Lib.hid (show outerTo ts (cl, false) (k + 1) = innerTo ts k (outerTo ts (cl, false) k) k from rfl)
                  generalize hst : outerTo ts (cl, false) k = st at HNA1 hg1 HO ⊢
                  have HS := Lib.hid hst; clear hst
                  have HG1 := Lib.hid hg1; clear hg1
                  go_wp2_with fail
                  go_loopw [5, 8, 10] (fun o m i wr => ∃ q : Nat, q ≤ k ∧ i = .int .i64 q ∧ m = .bool (innerTo ts k st q).2 ∧ NatsFrom w.heap.size wr o (innerTo ts k st q).1 ∧ Below w.heap.size w wr) (fun _ _ i _ => k - (intOf i).toNat)
                  case atStart => exact ⟨0, by omega, rfl, rfl, HNA1.out, hbel⟩
                  case round =>
                    obtain ⟨q, hq, rfl, rfl, hnat, hbel⟩ := hrel
                    have hg2 := Good.innerTo (ts := ts) HG1.out hlt hq
                    have HNA2 := Lib.hid hnat; clear hnat
                    have HI := Lib.hid (show innerTo ts k st (q + 1) = stepP ts (innerTo ts k st q) k q from rfl)
                    generalize hsq : innerTo ts k st q = sq at HNA2 hg2 HI ⊢
                    have HSQ := Lib.hid hsq; clear hsq
                    have HG2 := Lib.hid hg2; clear hg2
                    by_cases hql : q < k
                    · obtain ⟨co, cc, rfl, hcc⟩ := HNA2.out.1
                      have hk1 : k < sq.1.length := by rw [HG2.out.len]; exact hlt
                      have hq1 : q < sq.1.length := by omega
                      have hqn : q < ts.length := by omega
                      obtain ⟨cb, cf, rfl, g1⟩ := hcc.get hk1
                      obtain ⟨cb', cf', e0, g2⟩ := hcc.get hq1
                      simp only [Option.some.injEq, Addr.mk.injEq] at e0
                      obtain ⟨rfl, rfl, _⟩ := e0
                      obtain ⟨b1, f1, ko1, kc1, rfl, t1, t2, t3⟩ := HT.out k hlt
                      obtain ⟨b2, f2, ko2, kc2, e0, t4, t5, t6⟩ := HT.out q hqn
                      simp only [Option.some.injEq, Addr.mk.injEq] at e0
                      obtain ⟨rfl, rfl, _⟩ := e0
                      have r1 := cell_regrown g1
                      have r2 := cell_regrown g2
                      have r3 := cell_regrown (Below.cellOf hbel t1)
                      have r4 := cell_regrown (Below.cellOf hbel t2)
                      have r5 := cell_regrown (Below.cellOf hbel t4)
                      have r6 := cell_regrown (Below.cellOf hbel t5)
                      have kk := HK.out k hlt
                      have kq := HK.out q hqn
                      have hlen := HG2.out.len
                      have cA : ∀ d os, Calls Try.prog 25 #[.agg #[.int .i64 (gT ts k).head, .slice ko1 (gT ts k).kids.length kc1], .agg #[.int .i64 (gT ts q).head, .slice ko2 (gT ts q).kids.length kc2], .slice (some ⟨cb, cf, none⟩) sq.1.length cc]
                          (Go.Sort.grow (redrawn wr d) os) fun e w'' => e = .returned (.bool (alikeN sq.1 (gT ts k) (gT ts q))) ∧ ∃ p : Regrown, w'' = Go.Sort.grow (redrawn wr p.d) p.os := fun d os =>
                        Calls.regrown_of (alike_any sq.1 (gT ts k) (gT ts q) ko1 ko2 kc1 kc2 _ _ (by omega) kk.1 kq.1 (fun i hi => by have := kk.2 i hi; omega) (fun i hi => by have := kq.2 i hi; omega)
                          ((t3.below hbel).below (below_regrown wr d os)) ((t6.below hbel).below (below_regrown wr d os)) (HNA2.out.1.below (below_regrown wr d os)))
                      have CA := Lib.hid cA
                      clear cA kk kq t1 t2 t3 t4 t5 t6 g1 g2 hcc
                      have hlen' := Lib.hid hlen; clear hlen
                      cases hne : ((gN sq.1 k : Int) != (gN sq.1 q : Int)) with
                      | false =>
                        have HNE := Lib.hid hne
                        have hst : stepP ts sq k q = sq := by
                          have h' := HNE.out
                          simp at h'
                          have : gN sq.1 k = gN sq.1 q := by omega
                          simp [stepP, this]
                        have HST := Lib.hid hst; clear hst
                        go_wp2_with fail
                        refine wp_region_quiet_below (by kernel_rfl) (by kernel_rfl) ?_
                        repeat (go_big_quiet_step (exact CA.out _ _))
                        refine wpQuiet_nil ?_
                        intro _ hw'
                        obtain ⟨⟨dq, osq⟩, hw''⟩ := hw'
                        subst hw''
                        have hbq := below_regrown wr dq osq
                        clear r1 r2 r3 r4 r5 r6
                        generalize Go.Sort.grow (redrawn wr dq) osq = wq at hbq ⊢
                        go_wp2_with fail
                        go_roundw
                        case rel => exact ⟨q + 1, by omega, by go_num, by rw [HI.out, HST.out], by rw [HI.out, HST.out]; exact HNA2.out.below hbq, Below.step hbel hbq⟩
                        case measure => simp [intOf]; omega
                      | true =>
                        have HNE := Lib.hid hne
                        cases hal : alikeN sq.1 (gT ts k) (gT ts q) with
                        | false =>
                          have hst : stepP ts sq k q = sq := by simp [stepP, hal]
                          have HST := Lib.hid hst; clear hst
                          rw [hal] at CA
                          have HAL := Lib.hid hal; clear hal
                          go_wp2_with fail
                          refine wp_region_quiet_below (by kernel_rfl) (by kernel_rfl) ?_
                          repeat (go_big_quiet_step (exact CA.out _ _))
                          refine wpQuiet_nil ?_
                          intro _ hw'
                          obtain ⟨⟨dq, osq⟩, hw''⟩ := hw'
                          subst hw''
                          have hbq := below_regrown wr dq osq
                          clear r1 r2 r3 r4 r5 r6
                          generalize Go.Sort.grow (redrawn wr dq) osq = wq at hbq ⊢
                          go_wp2_with fail
                          go_roundw
                          case rel => exact ⟨q + 1, by omega, by go_num, by rw [HI.out, HST.out], by rw [HI.out, HST.out]; exact HNA2.out.below hbq, Below.step hbel hbq⟩
                          case measure => simp [intOf]; omega
                        | true =>
                          have hst : stepP ts sq k q = (merge sq.1 k q, true) := by
                            have h' := HNE.out
                            simp at h'
                            have : gN sq.1 k ≠ gN sq.1 q := by omega
                            simp [stepP, hal, this]
                          have HST := Lib.hid hst; clear hst
                          rw [hal] at CA
                          have HAL := Lib.hid hal; clear hal
                          go_wp2_with fail
                          refine wp_region_quiet_below (by kernel_rfl) (by kernel_rfl) ?_
                          repeat (go_big_quiet_step (exact CA.out _ _))
                          refine wpQuiet_nil ?_
                          intro _ hw'
                          obtain ⟨⟨dq, osq⟩, hw''⟩ := hw'
                          subst hw''
                          have hbq := below_regrown wr dq osq
                          clear r1 r2 r3 r4 r5 r6
                          generalize Go.Sort.grow (redrawn wr dq) osq = wq at hbq ⊢
                          go_wp2_with fail
                          have hszq : w.heap.size ≤ wq.heap.size := Nat.le_trans hbel.size hbq.size
                          refine (merged_any sq.1 k q _ _ (by have := hlen'.out; omega) (fun j => by have := HG2.out.le j; omega) hk1 hq1 (HNA2.out.1.below hbq)).mono ?_
                          rintro e w1 ⟨u, rfl, hn1, hb1⟩
                          have hbel1 : Below w.heap.size w w1 := Below.step (Below.step hbel hbq) hb1
                          have HN1 := Lib.hid (hn1.mono hszq); clear hn1
                          go_wp2_with fail
                          go_roundw
                          case rel => exact ⟨q + 1, by omega, by go_num, by rw [HI.out, HST.out], by rw [HI.out, HST.out]; exact HN1.out, hbel1⟩
                          case measure => simp [intOf]; omega
                    · obtain rfl : q = k := by omega
                      go_wp2_with fail
                      go_roundw
                      case rel => exact ⟨q + 1, by omega, by go_num, by rw [HO.out, HSQ.out], by rw [HO.out, HSQ.out]; exact HNA2.out, hbel⟩
                      case measure => simp [intOf]; omega
                · obtain rfl : k = ts.length := by omega
                  have HR := Lib.hid (show roundOf ts cl = outerTo ts (cl, false) ts.length from rfl)
                  have hl := round_less HG.out
                  rw [HR.out] at hl
                  generalize hst : outerTo ts (cl, false) ts.length = st at HNA1 hg1 hl HR ⊢
                  have HL := Lib.hid hl; have HS := Lib.hid hst; have HG1 := Lib.hid hg1; clear hl hst hg1
                  obtain ⟨c2, m2⟩ := st
                  have hsm := HSM.out
                  cases m2 with
                  | true =>
                    have h1 := HL.out.lt rfl rfl
                    simp only [if_true] at hsm h1
                    go_wp2_with fail
                    go_roundg (gk - 1)
                    case measure => omega
                    case rel => exact ⟨c2, true, by simp; omega, HG1.out, rfl, HNA1.out, hbel, fun _ d hd => HY.out (by simp) d (.more HR.out hd), fun h => (by cases h)⟩
                  | false =>
                    have h1 := HL.out.same rfl
                    simp only [Prod.mk.injEq, and_true] at h1
                    subst h1
                    simp only [if_true] at hsm
                    go_wp2_with fail
                    go_roundg (gk - 1)
                    case measure => omega
                    case rel => exact ⟨c2, false, by simp; omega, HG1.out, rfl, HNA1.out, hbel, fun h => (by cases h), fun _ => HY.out (by simp) _ (.done HR.out)⟩
end Go.Proofs.Ytcckgfgobakphab
