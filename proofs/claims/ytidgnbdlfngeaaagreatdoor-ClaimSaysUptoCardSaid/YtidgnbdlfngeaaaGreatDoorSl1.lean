/-
  Walks: the law's sameLore, of equal theories; the document's Ints.
-/
import Derived.Test.YtidgnbdlfngeaaaGreatDoorE5
import Derived.Test.YtidgnbdlfngeaaaGreatDoorE4
import Derived.Test.YtidgnbdlfngeaaaGreatDoorE6
import Derived.Test.YtidgnbdlfngeaaaGreatDoorV1
import Derived.BigQuiet
import Derived.RegionTactic
import Derived.Deep.CutBlock
import Derived.Deep.DeepCutAuto
namespace Go.Proofs.YtidgnbdlfngeaaaGreatDoor
open Go.RowKit Go.Shelf
set_option linter.unusedVariables false
set_option linter.unusedSimpArgs false
set_option maxHeartbeats 400000

set_option maxRecDepth 100000 in
set_option maxHeartbeats 4000000 in
theorem ints56 (a b : List Int) (p q : Nat → Prop) (ao bo : Option Addr) (ca cb : Nat) (w : World) (ha : intE.Row p w ao a) (hb : intE.Row q w bo b) (hla : a.length ≤ 1000000000) (hlb : b.length ≤ 1000000000) :
    Calls Tryz.prog 34 #[.slice ao a.length ca, .slice bo b.length cb] w fun e w' => e = .returned (.bool (decide (a = b))) ∧ Below w.heap.size w w' := by
  have HA := Lib.hid ha; have HB := Lib.hid hb
  clear ha hb
  by_cases hne : a.length = b.length
  · have hnei : (a.length : Int) = (b.length : Int) := by omega
    have hneb : ((a.length : Int) != (b.length : Int)) = false := by simp [hnei]
    have HNE := Lib.hid hne
    clear hne hnei
    go_enter Tryz.func34, Tryz.ntmps34
    go_wp2_with fail
    go_loopw [5] (fun i wr => ∃ k : Nat, k ≤ a.length ∧ i = .int .i64 k ∧ (∀ (j : Nat), j < k → a[j]? = b[j]?) ∧ Below w.heap.size w wr) (fun i _ => a.length - (intOf i).toNat)
    case atStart => exact ⟨0, by omega, rfl, fun j hj => by omega, Below.refl _ _⟩
    case round =>
      obtain ⟨k, hk, rfl, heq, hbel⟩ := hrel
      have HEQ := Lib.hid heq
      have HBL := Lib.hid hbel
      clear heq hbel
      by_cases hlt : k < a.length
      · have hlti : (k : Int) < (a.length : Int) := by omega
        have hlt2 : k < b.length := by have := HNE.out; omega
        have hlti2 : (k : Int) < (b.length : Int) := by omega
        obtain ⟨ba, oa, rfl, _, c0⟩ := (HA.out.kept HBL.out).int hlt
        obtain ⟨bb, ob, rfl, _, d0⟩ := (HB.out.kept HBL.out).int hlt2
        obtain ⟨X, hX⟩ : ∃ X, X = a[k] := ⟨_, rfl⟩
        obtain ⟨Y, hY⟩ : ∃ Y, Y = b[k] := ⟨_, rfl⟩
        rw [← hX] at c0
        rw [← hY] at d0
        have HXK := Lib.hid (show a[k]? = some X by rw [hX]; exact List.getElem?_eq_getElem hlt)
        have HYK := Lib.hid (show b[k]? = some Y by rw [hY]; exact List.getElem?_eq_getElem hlt2)
        clear hX hY
        have r0 := cell_regrown c0; have r1 := cell_regrown d0
        go_wp2_with fail
        clear c0 d0
        refine wp_region_quiet_below (by kernel_rfl) (by kernel_rfl) ?_
        repeat (go_big_quiet_step (fail))
        refine wpQuiet_nil ?_
        intro _ hw'
        obtain ⟨⟨dq, osq⟩, hw''⟩ := hw'
        subst hw''
        have HBL2 := Lib.hid (Below.step HBL.out (below_regrown wr dq osq))
        clear r0 r1
        by_cases hXY : X = Y
        · have hXb : (X != Y) = false := by simp [hXY]
          have HEQ2 := Lib.hid (show ∀ (j : Nat), j < k + 1 → a[j]? = b[j]? from fun j hj => by
            rcases Nat.lt_succ_iff_lt_or_eq.1 hj with h | rfl
            · exact HEQ.out j h
            · rw [HXK.out, HYK.out, hXY])
          clear hXY
          go_wp2_with fail
          go_roundw
          case rel => exact ⟨k + 1, by omega, by go_num, HEQ2.out, HBL2.out⟩
          case measure => simp [intOf] <;> omega
        · have hXb : (X != Y) = true := by simpa using hXY
          have HF := Lib.hid (show decide (a = b) = false by
            rw [decide_eq_false_iff_not]
            intro e
            have h1 := HXK.out
            rw [e, HYK.out] at h1
            exact hXY (Option.some.inj h1).symm)
          clear hXY
          go_wp2_with fail
          go_ret
          exact ⟨ret_bool HF.out.symm, HBL2.out⟩
      · obtain rfl : k = a.length := by omega
        have HF := Lib.hid (show decide (a = b) = true by
          rw [decide_eq_true_iff]
          apply List.ext_getElem?
          intro j
          by_cases hj : j < a.length
          · exact HEQ.out j hj
          · rw [List.getElem?_eq_none (by omega), List.getElem?_eq_none (by have := HNE.out; omega)])
        go_wp2_with fail
        go_ret
        exact ⟨ret_bool HF.out.symm, HBL.out⟩
  · have hneb : ((a.length : Int) != (b.length : Int)) = true := by simp; omega
    have HF := Lib.hid (show decide (a = b) = false by
      rw [decide_eq_false_iff_not]
      intro e; exact hne (by rw [e]))
    clear hne
    go_enter Tryz.func34, Tryz.ntmps34
    go_wp2_with fail
    go_ret
    exact ⟨ret_bool HF.out.symm, Below.refl _ _⟩


set_option maxRecDepth 100000 in
set_option maxHeartbeats 8000000 in
theorem sameLore8 (ar : List Int) (cs : List (List Fc)) (p q p2 q2 : Nat → Prop) (ao co ao2 co2 : Option Addr) (ca cc ca2 cc2 : Nat) (w : World) (ha : intE.Row q w ao ar) (hc : claimE.Row p w co cs) (ha2 : intE.Row q2 w ao2 ar) (hc2 : claimE.Row p2 w co2 cs)
    (hna : ar.length ≤ 1000000000) (hnc : cs.length ≤ 1000000000) (hcl : ∀ c ∈ cs, c.length ≤ 1000000) :
    Calls Tryz.prog 12 #[.agg #[.slice ao ar.length ca, .slice co cs.length cc], .agg #[.slice ao2 ar.length ca2, .slice co2 cs.length cc2]] w fun e w' => e = .returned (.bool true) ∧ Below w.heap.size w w' := by
  have HA := Lib.hid ha; have HC := Lib.hid hc; have HA2 := Lib.hid ha2; have HC2 := Lib.hid hc2; have HCL := Lib.hid hcl
  obtain ⟨m, hm⟩ : ∃ m, m = ar.length := ⟨_, rfl⟩
  obtain ⟨n, hn⟩ : ∃ n, n = cs.length := ⟨_, rfl⟩
  have HN := Lib.hid hn
  obtain ⟨bx, hbx⟩ : ∃ b, b = w.heap.size := ⟨_, rfl⟩
  have HI := Lib.hid (fun W (hb : Below w.heap.size w W) => ints56 ar ar q q2 ao ao2 ca ca2 W (ha.keep (fun b h hl => ⟨hb.block b hl, h⟩)) (ha2.keep (fun b h hl => ⟨hb.block b hl, h⟩)) hna hna)
  rw [show decide (ar = ar) = true from decide_eq_true rfl, ← hm] at HI
  rw [← hm, ← hn]
  have hnn : n ≤ 1000000000 := by omega
  have S := ((St.start w).box hbx.symm #[.slice ao m ca, .slice co n cc] 25).box (b := bx + 1) (by simp [hbx]) #[.slice ao2 m ca2, .slice co2 n cc2] 25
  have hz1 : ((w.alloc (.cells #[.slice ao m ca, .slice co n cc] 25)).alloc (.cells #[.slice ao2 m ca2, .slice co2 n cc2] 25)).heap.size = bx + 2 := by simp [hbx]
  clear ha hc ha2 hc2 hcl hm hn hna hnc
  go_enter Tryz.func12, Tryz.ntmps12
  go_upto_region 1 with fail
  rw [← hbx]
  refine S.genC (z := bx + 2) (by omega) ?_
  clear S hz1 hbx
  intro w1 z1 S
  obtain ⟨⟨y0, _⟩, y2, _⟩ := S.two 0
  obtain ⟨⟨v0, _⟩, v2, _⟩ := S.two 1
  have HI1 := Lib.hid (HI.out w1 S.bel)
  go_wp2_with fail
  refine (HI1.out).mono ?_
  rintro e w2 ⟨rfl, hb2⟩
  have S2 := S.step hb2
  clear S HI1 y0 y2 v0 v2
  obtain ⟨⟨y0, _⟩, y2, _⟩ := S2.two 0
  obtain ⟨⟨v0, _⟩, v2, _⟩ := S2.two 1
  go_wp2_with fail
  go_loopw [5] (fun i wr => ∃ k : Nat, k ≤ n ∧ i = .int .i64 k ∧ St w wr [.box bx #[.slice ao m ca, .slice co n cc] 25, .box (bx + 1) #[.slice ao2 m ca2, .slice co2 n cc2] 25]) (fun i _ => n - (intOf i).toNat)
  case atStart => exact ⟨0, by omega, rfl, S2⟩
  case round =>
    clear S2 y0 y2 v0 v2
    obtain ⟨k, hk, rfl, S⟩ := hrel
    obtain ⟨⟨y0, _⟩, y2, _⟩ := S.two 0
    obtain ⟨⟨v0, _⟩, v2, _⟩ := S.two 1
    by_cases hlt : k < n
    · have hkc : k < cs.length := by have := HN.out; omega
      have hlti : (k : Int) < (n : Int) := by omega
      obtain ⟨b, off, ka, sa, rfl, _, c0, t1, l1⟩ := (HC.out.kept S.bel).claim hkc
      obtain ⟨b2, off2, ka2, sa2, rfl, _, d0, t2, l2⟩ := (HC2.out.kept S.bel).claim hkc
      have hlc := HCL.out cs[k] (List.getElem_mem hkc)
      obtain ⟨cl, hcl⟩ : ∃ c, c = cs[k] := ⟨_, rfl⟩
      rw [← hcl] at c0 d0 t1 t2 hlc
      have T1 := Lib.hid t1; have T2 := Lib.hid t2
      have CA := Lib.hid (fun d os => Calls.regrown_of (sameClaim20 cl cl p p2 ka ka2 (cl.length + sa) (cl.length + sa2) (Go.Sort.grow (redrawn wr d) os) (T1.out.kept (below_regrown _ d os)) (T2.out.kept (below_regrown _ d os)) hlc hlc))
      rw [show decide (cl = cl) = true from decide_eq_true rfl] at CA
      have ry0 := cell_regrown y0; have ry2 := cell_regrown y2; have rv0 := cell_regrown v0; have rv2 := cell_regrown v2
      have r0 := cell_regrown c0; have e0 := cell_regrown d0
      clear t1 t2 hcl hlc l1 l2
      go_wp2_with fail
      refine wp_region_quiet_below (by kernel_rfl) (by kernel_rfl) ?_
      repeat (go_big_quiet_step (exact CA.out _ _))
      refine wpQuiet_nil ?_
      intro _ hw'
      obtain ⟨⟨dq, osq⟩, hw''⟩ := hw'
      subst hw''
      have S3 := Lib.hid (S.regrown dq osq)
      clear S CA ry0 ry2 rv0 rv2 r0 e0 y0 y2 v0 v2 c0 d0
      go_wp2_with fail
      go_roundw
      case rel => exact ⟨k + 1, by omega, by go_num, S3.out⟩
      case measure => simp [intOf] <;> omega
    · obtain rfl : k = n := by omega
      go_wp2_with fail
      go_ret
      exact ⟨rfl, S.bel⟩
end Go.Proofs.YtidgnbdlfngeaaaGreatDoor
