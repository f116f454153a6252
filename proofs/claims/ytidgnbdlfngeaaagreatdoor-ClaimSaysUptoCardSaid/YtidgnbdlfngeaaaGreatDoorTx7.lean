/-
  Walks: the document's Text.
-/
import Derived.Test.YtidgnbdlfngeaaaGreatDoorSy
namespace Go.Proofs.YtidgnbdlfngeaaaGreatDoor
open Go.RowKit Go.Shelf
set_option linter.unusedVariables false
set_option linter.unusedSimpArgs false
set_option maxHeartbeats 400000
attribute [local go_sem 2000] catS_sV

theorem cellB {W w : World} (hb : Below w.heap.size w W) {b off : Nat} {v : Value} (h : b < w.heap.size) (hc : w.cell? ⟨b, off, none⟩ = some v) : W.cell? ⟨b, off, none⟩ = some v := by
  rw [World.cell?_of_block (w := w) (w' := W) (hb.block b h)]; exact hc
theorem gp_eq (cl : List Fc) (j : Nat) (hj : j ≤ cl.length) : (if (true && (cl.take j).isEmpty) = true then [] else [32, 124] : Bs) = (if 0 < j then [32, 124] else []) := by
  by_cases h : 0 < j
  · rw [if_pos h, if_neg]
    intro e
    have e2 : (cl.take j).isEmpty = true := by simpa using e
    have := List.isEmpty_iff.1 e2
    have := congrArg List.length this
    rw [List.length_take, List.length_nil] at this
    omega
  · have hj0 : j = 0 := by omega
    rw [if_neg h, if_pos (by rw [hj0]; rfl)]

set_option maxRecDepth 100000 in
set_option maxHeartbeats 8000000 in
theorem text7 (ar : List Int) (cs : List (List Fc)) (p q : Nat → Prop) (ao co : Option Addr) (ca cc : Nat) (w : World) (ha : intE.Row q w ao ar) (hc : claimE.Row p w co cs) (hp : ∀ c, p c → c < w.heap.size) (hq : ∀ c, q c → c < w.heap.size) (hok : (loreF ar cs).1 = 0) :
    Calls Tryz.prog 7 #[.agg #[.slice ao ar.length ca, .slice co cs.length cc]] w fun e w' => e = .returned (sV (loreTxt ar cs)) ∧ Below w.heap.size w w' := by
  obtain ⟨bx, hbx⟩ : ∃ b, b = w.heap.size := ⟨_, rfl⟩
  have HA := Lib.hid ha; have HC := Lib.hid hc; have HP := Lib.hid hp; have HQ := Lib.hid hq
  have HGD := Lib.hid (gd_of hok)
  obtain ⟨m, hm⟩ : ∃ m, m = ar.length := ⟨_, rfl⟩
  obtain ⟨n, hn⟩ : ∃ n, n = cs.length := ⟨_, rfl⟩
  have HM := Lib.hid hm; have HN := Lib.hid hn
  have hmb : m ≤ 100 := by have := HGD.out.1; omega
  have hnb : n ≤ 100 := by have := HGD.out.2.1; omega
  rw [← hm, ← hn]
  have hbb := heap_ofAlloc w (.cells #[.slice ao m ca, .slice co n cc] 25)
  rw [← hbx] at hbb
  have HW := Lib.hid ((Below.refl w.heap.size w).alloc (Nat.le_refl _) (.cells #[.slice ao m ca, .slice co n cc] 25))
  obtain ⟨w1, hw1⟩ : ∃ W, W = w.alloc (.cells #[.slice ao m ca, .slice co n cc] 25) := ⟨_, rfl⟩
  have HBB := Lib.hid hbb
  rw [← hw1] at HBB HW
  clear ha hc hp hq hok hm hn hbb
  go_enter Tryz.func7, Tryz.ntmps7
  go_upto_region 2 with fail
  rw [← hw1, ← hbx]
  clear hw1 hbx
  go_upto_block 0 with fail
  go_cut [3] (fun x W => x = sV (sSigns ++ sgTxt ar) ∧ Hid (Below w1.heap.size w1 W))
  case first =>
    go_wp2_with fail
    go_loopw [3, 4] (fun x i wr => ∃ k : Nat, k ≤ m ∧ x = sV (sSigns ++ sgTxt (ar.take k)) ∧ i = .int .i64 k ∧ Hid (Below w1.heap.size w1 wr)) (fun _ i _ => m - (intOf i).toNat)
    case atStart => exact ⟨0, Nat.zero_le _, by simp [sgTxt, sSigns], rfl, Lib.hid (Below.refl _ _)⟩
    case round =>
      obtain ⟨k, hk, rfl, rfl, HBR⟩ := hrel
      obtain ⟨⟨x0, x1⟩, x2, x3⟩ := box2 (Below.heapAt HBR.out HBB.out)
      have HBW := Lib.hid (Below.step HW.out HBR.out)
      by_cases hlt : k < m
      · have hka : k < ar.length := by have := HM.out; omega
        obtain ⟨bb, off, rfl, hqb, c0'⟩ := HA.out.int hka
        have hx3 := HGD.out.2.2.1 ar[k] (List.getElem_mem hka)
        obtain ⟨i, hi⟩ : ∃ i : Nat, (i : Int) = ar[k] := ⟨ar[k].toNat, by omega⟩
        have c0 : wr.cell? ⟨bb, off + k, none⟩ = some (.int .i64 (i : Int)) := cellB HBW.out (HQ.out bb hqb) (by rw [hi]; exact c0')
        have HSN := Lib.hid (show sgTxt (ar.take (k + 1)) = sgTxt (ar.take k) ++ 32 :: Lib.decDigits i by
          rw [List.take_succ_eq_append_getElem hka, sgTxt_snoc, ← hi]; rfl)
        have hln : (sSigns ++ sgTxt (ar.take k)).length ≤ 100 := by
          have h1 := sgTxt_le (ar.take k) (fun x hx => HGD.out.2.2.1 x (List.mem_of_mem_take hx))
          have h2 := HGD.out.1
          rw [List.length_take] at h1
          rw [List.length_append]; simp only [sSigns, List.length_cons, List.length_nil]; omega
        obtain ⟨acc, hacc⟩ : ∃ l, l = sSigns ++ sgTxt (ar.take k) := ⟨_, rfl⟩
        have HACC := Lib.hid hacc
        rw [← hacc] at hln ⊢
        have HI := Lib.hid (fun W => digits21 i (by omega) W)
        have hds := dig_short (n := i) (by omega)
        have hd1 : ¬ 9223372036854775807 < acc.length + 1 := by omega
        have hd2 : ¬ 9223372036854775807 < acc.length + 1 + (Lib.decDigits i).length := by omega
        clear hi hx3 c0' hka hacc hds
        go_wp2_with fail
        refine (HI.out _).mono ?_
        rintro e w6 ⟨rfl, hw6⟩
        have hw6 := hw6.symm
        subst hw6
        go_wp2_with fail
        go_roundw
        case rel => exact ⟨k + 1, by omega, by rw [HSN.out, ← List.append_assoc, ← HACC.out], by go_num, HBR⟩
        case measure => simp [intOf]; omega
      · obtain rfl : k = m := by omega
        have HTK := Lib.hid (show ar.take k = ar by rw [HM.out, List.take_length])
        go_wp2_with fail
        go_meet
        case rel => rw [HTK.out]; exact ⟨rfl, HBR⟩
  case rest =>
    obtain ⟨rfl, HB1⟩ := hcut
    obtain ⟨pre, hpre⟩ : ∃ p : Bs, p = sSigns ++ sgTxt ar := ⟨_, rfl⟩
    have HPL := Lib.hid (show pre.length ≤ 99 by
      have h1 := sgTxt_le ar HGD.out.2.2.1
      have h2 := HGD.out.1
      rw [hpre]
      simp only [sSigns, List.length_append, List.length_cons, List.length_nil]; omega)
    have HPT := Lib.hid (show loreTxt ar cs = pre ++ [10] ++ clsTxt cs by rw [hpre]; unfold loreTxt; simp)
    rw [← hpre]
    have hpl := HPL.out
    have hd1 : ¬ 9223372036854775807 < pre.length + 1 := by omega
    clear hpre hpl
    go_upto_block 2 with fail
    clear hd1
    obtain ⟨pre, hpre⟩ : ∃ p : Bs, p = pre ++ [10] := ⟨_, rfl⟩
    have HPL := Lib.hid (show pre.length ≤ 100 by rw [hpre, List.length_append]; have := HPL.out; simp only [List.length_cons, List.length_nil]; omega)
    rw [← hpre] at HPT ⊢
    clear hpre
    go_cut [3] (fun x W => x = sV (pre ++ clsTxt cs) ∧ Hid (Below w1.heap.size w1 W))
    case first =>
      go_wp2_with fail
      go_loopw [3, 5] (fun x i wr => ∃ k : Nat, k ≤ n ∧ x = sV (pre ++ clsTxt (cs.take k)) ∧ i = .int .i64 k ∧ Hid (Below w1.heap.size w1 wr)) (fun _ i _ => n - (intOf i).toNat)
      case atStart => exact ⟨0, Nat.zero_le _, by simp [clsTxt], rfl, HB1⟩
      case round =>
        obtain ⟨k, hk, rfl, rfl, HBR⟩ := hrel
        obtain ⟨⟨x0, x1⟩, x2, x3⟩ := box2 (Below.heapAt HBR.out HBB.out)
        have HBW := Lib.hid (Below.step HW.out HBR.out)
        by_cases hlt : k < n
        · have hkc : k < cs.length := by have := HN.out; omega
          obtain ⟨bb, off, fo, fsp, rfl, hpb, c0', hrow, hml⟩ := HC.out.claim hkc
          have c0 := cellB HBW.out (HP.out bb hpb) c0'
          have hgc := HGD.out.2.2.2 cs[k] (List.getElem_mem hkc)
          obtain ⟨cl, hcl⟩ : ∃ c, c = cs[k] := ⟨_, rfl⟩
          rw [← hcl] at c0 c0' hrow hgc hml
          have HC0 := Lib.hid c0'
          have HSN := Lib.hid (show clsTxt (cs.take (k + 1)) = clsTxt (cs.take k) ++ (clTxt cl ++ [10]) by
            rw [List.take_succ_eq_append_getElem hkc, clsTxt_snoc, ← hcl])
          have HROW := Lib.hid hrow
          have HGC := Lib.hid hgc
          obtain ⟨L, hL⟩ : ∃ L, L = cl.length := ⟨_, rfl⟩
          have HLL := Lib.hid hL
          have hL6 : L ≤ 6 := by rw [hL]; exact hgc.1
          rw [← hL] at c0 HC0
          have hln : (pre ++ clsTxt (cs.take k)).length ≤ 247000 := by
            have h1 := clsTxt_le (cs.take k) (fun x hx => HGD.out.2.2.2 x (List.mem_of_mem_take hx))
            have h2 := HPL.out
            rw [List.length_take] at h1
            rw [List.length_append]; omega
          obtain ⟨acc, hacc⟩ : ∃ l, l = pre ++ clsTxt (cs.take k) := ⟨_, rfl⟩
          have HACC := Lib.hid hacc
          rw [← hacc] at hln ⊢
          have hd1 : ¬ 9223372036854775807 < acc.length + 5 := by omega
          have HLN := Lib.hid hln
          clear hcl hrow hgc hL c0' hml hkc hacc hln
          go_upto_block 4 with fail
          clear hd1 c0
          obtain ⟨pr2, hpr2⟩ : ∃ p : Bs, p = acc ++ sClaim := ⟨_, rfl⟩
          have HP2 := Lib.hid (show pr2.length ≤ 247005 by rw [hpr2, List.length_append]; have := HLN.out; simp only [sClaim, List.length_cons, List.length_nil]; omega)
          have HPR := Lib.hid (show pre ++ clsTxt (cs.take (k + 1)) = pr2 ++ fsTxt true cl ++ [10] by rw [HSN.out, hpr2, ← List.append_assoc, ← HACC.out]; unfold clTxt; simp)
          rw [show acc ++ [99, 108, 97, 105, 109] = pr2 from hpr2.symm]
          clear hpr2
          go_cut [3] (fun x W => x = sV (pr2 ++ fsTxt true cl) ∧ Hid (Below w1.heap.size w1 W))
          case first =>
            obtain ⟨wv, hwv⟩ : ∃ W, W = wr := ⟨_, rfl⟩
            subst hwv
            clear x0 x1 x2 x3
            go_wp2_with fail
            go_loopw [3, 6] (fun x i wr => ∃ j : Nat, j ≤ L ∧ x = sV (pr2 ++ fsTxt true (cl.take j)) ∧ i = .int .i64 j ∧ Hid (Below w1.heap.size w1 wr)) (fun _ i _ => L - (intOf i).toNat)
            case atStart => exact ⟨0, Nat.zero_le _, by simp [fsTxt], rfl, HBR⟩
            case round =>
              clear HBR HBW
              obtain ⟨j, hj, rfl, rfl, HBR⟩ := hrel
              obtain ⟨⟨x0, x1⟩, x2, x3⟩ := box2 (Below.heapAt HBR.out HBB.out)
              have HBW := Lib.hid (Below.step HW.out HBR.out)
              have c0 := cellB HBW.out (HP.out bb hpb) HC0.out
              by_cases hjl : j < L
              · have hjc : j < cl.length := by have := HLL.out; omega
                obtain ⟨fb, fo2, kL, spL, kR, spR, rfl, hpf, f0', f1', f2', f3', f4', hTL, hTR⟩ := HROW.out.fact hjc
                have hgf := HGC.out.2 cl[j] (List.getElem_mem hjc)
                obtain ⟨fc, hfc⟩ : ∃ f, f = cl[j] := ⟨_, rfl⟩
                rw [← hfc] at f0' f1' f2' f3' f4' hTL hTR hgf
                have hpb2 := HP.out fb hpf
                have f0 := cellB HBW.out hpb2 f0'
                have f1 := cellB HBW.out hpb2 f1'
                have f2 := cellB HBW.out hpb2 f2'
                have f3 := cellB HBW.out hpb2 f3'
                have f4 := cellB HBW.out hpb2 f4'
                obtain ⟨gp, hgp⟩ : ∃ g : Bs, g = (if 0 < j then [32, 124] else []) := ⟨_, rfl⟩
                have HGP := Lib.hid hgp
                have HSF := Lib.hid (show pr2 ++ fsTxt true (cl.take (j + 1)) = pr2 ++ fsTxt true (cl.take j) ++ gp ++ [32] ++ fc.l.txt ++ negT fc.neg ++ [61] ++ fc.r.txt by
                  rw [List.take_succ_eq_append_getElem hjc, fsTxt_snoc, ← hfc, gp_eq _ _ (by omega), ← hgp]; unfold fcTxt; simp)
                have HTLR := Lib.hid (And.intro hTL hTR)
                have HGF := Lib.hid hgf
                have hlj : (pr2 ++ fsTxt true (cl.take j)).length ≤ 260000 := by
                  have h1 := fsTxt_le (cl.take j) true (fun x hx => HGC.out.2 x (List.mem_of_mem_take hx))
                  have h2 := HP2.out
                  rw [List.length_take] at h1
                  rw [List.length_append]; omega
                obtain ⟨acc1, hacc1⟩ : ∃ l, l = pr2 ++ fsTxt true (cl.take j) := ⟨_, rfl⟩
                rw [← hacc1] at hlj HSF ⊢
                have HLJ := Lib.hid hlj
                obtain ⟨b11, hb11⟩ : ∃ b, b = wr.heap.size := ⟨_, rfl⟩
                have HV1 := Lib.hid (heap_ofAlloc wr (.cells #[.bool fc.neg, .int .i64 fc.l.head, .slice kL fc.l.kids.length (fc.l.kids.length + spL), .int .i64 fc.r.head, .slice kR fc.r.kids.length (fc.r.kids.length + spR)] 53))
                rw [← hb11] at HV1
                have HBV := Lib.hid (HBR.out.alloc HBR.out.size (.cells #[.bool fc.neg, .int .i64 fc.l.head, .slice kL fc.l.kids.length (fc.l.kids.length + spL), .int .i64 fc.r.head, .slice kR fc.r.kids.length (fc.r.kids.length + spR)] 53))
                obtain ⟨wv, hwv⟩ : ∃ W, W = wr.alloc (.cells #[.bool fc.neg, .int .i64 fc.l.head, .slice kL fc.l.kids.length (fc.l.kids.length + spL), .int .i64 fc.r.head, .slice kR fc.r.kids.length (fc.r.kids.length + spR)] 53) := ⟨_, rfl⟩
                rw [← hwv] at HV1 HBV
                have HWV := Lib.hid (Below.step HW.out HBV.out)
                clear hgp hfc f0' f1' f2' f3' f4' hTL hTR hgf hpb2 hjc hacc1 hlj HBW
                go_upto_region 15 with fail
                rw [← hb11, ← hwv]
                clear hb11 hwv f0 f1 f2 f3 f4 c0 x0 x1 x2 x3
                go_upto_if 56 with fail
                obtain ⟨wq, hwq⟩ : ∃ W, W = wv := ⟨_, rfl⟩
                have HQQ := Lib.hid hwq
                go_cut [3] (fun x W => x = sV (acc1 ++ gp ++ [32]) ∧ W = wv)
                case first =>
                  by_cases hj0 : j = 0
                  · have HG2 := Lib.hid (show gp = [] by rw [HGP.out, if_neg (by omega)])
                    have hjq : ((j : Int) == 0) = true := by simp [hj0]
                    have hlj := HLJ.out
                    have hd1 : ¬ 9223372036854775807 < acc1.length + 1 := by omega
                    clear hj0 hlj hwq
                    go_wp2_with fail
                    go_meet
                    case rel => exact ⟨by rw [HG2.out, List.append_nil], rfl⟩
                  · have HG2 := Lib.hid (show gp = [32, 124] by rw [HGP.out, if_pos (by omega)])
                    have hjq : ((j : Int) == 0) = false := by rw [beq_eq_false_iff_ne]; omega
                    have hlj := HLJ.out
                    have hd1 : ¬ 9223372036854775807 < acc1.length + 3 := by omega
                    clear hj0 hlj hwq
                    go_wp2_with fail
                    go_meet
                    case rel => exact ⟨by rw [HG2.out]; simp, rfl⟩
                case rest =>
                  obtain ⟨rfl, hwc⟩ := hcut
                  have hwc := hwc.symm
                  subst hwc
                  have hgl : gp.length ≤ 2 := by rw [HGP.out]; split <;> simp
                  have hlg : (acc1 ++ gp ++ [32]).length ≤ 260003 := by have := HLJ.out; rw [List.length_append, List.length_append]; simp only [List.length_cons, List.length_nil]; omega
                  obtain ⟨acc2, hacc2⟩ : ∃ l, l = acc1 ++ gp ++ [32] := ⟨_, rfl⟩
                  rw [← hacc2] at hlg HSF ⊢
                  have hLL := HGF.out.1.len
                  have hRL := HGF.out.2.len
                  obtain ⟨q1, q2, q3, q4, q5⟩ := box5 HV1.out
                  have HW1 := Lib.hid (say22 fc.l p _ wv (HTLR.out.1.carry (fun c hc _ => HWV.out.block c (HP.out c hc))) (fun c hc => Nat.lt_of_lt_of_le (HP.out c hc) HWV.out.size) HGF.out.1.2 (by omega))
                  have hd1 : ¬ 9223372036854775807 < acc2.length + fc.l.txt.length := by omega
                  have HLG := Lib.hid hlg
                  clear hacc2 hlg hgl hwq
                  go_wp2_with fail
                  refine (HW1.out).mono ?_
                  rintro e w12 ⟨rfl, hb12⟩
                  have HV4 := Lib.hid (Below.heapAt hb12 HV1.out)
                  have HB4 := Lib.hid (Below.step HBV.out hb12)
                  have HW4 := Lib.hid (Below.step HW.out HB4.out)
                  clear HW1 hb12 q1 q2 q3 q4 q5
                  obtain ⟨q1, q2, q3, q4, q5⟩ := box5 HV4.out
                  go_upto_if 67 with fail
                  clear hd1
                  have hlg : (acc2 ++ fc.l.txt).length ≤ 260303 := by rw [List.length_append]; have := HLG.out; omega
                  obtain ⟨acc3, hacc3⟩ : ∃ l, l = acc2 ++ fc.l.txt := ⟨_, rfl⟩
                  rw [← hacc3] at hlg HSF ⊢
                  clear hacc3
                  go_cut [3] (fun x W => x = sV (acc3 ++ negT fc.neg) ∧ W = w12)
                  case first =>
                    cases hng : fc.neg with
                    | true =>
                      have hd1 : ¬ 9223372036854775807 < acc3.length + 1 := by omega
                      rw [hng] at q1
                      go_wp2_with fail
                      go_meet
                      case rel => exact ⟨by rw [hng]; rfl, rfl⟩
                    | false =>
                      rw [hng] at q1
                      go_wp2_with fail
                      go_meet
                      case rel => exact ⟨by rw [hng]; simp [negT], rfl⟩
                  case rest =>
                    obtain ⟨rfl, hwc⟩ := hcut
                    have hwc := hwc.symm
                    subst hwc
                    have hnl : (negT fc.neg).length ≤ 1 := by cases fc.neg <;> simp [negT]
                    have hl4 : (acc3 ++ negT fc.neg).length ≤ 260305 := by rw [List.length_append]; omega
                    obtain ⟨acc4, hacc4⟩ : ∃ l, l = acc3 ++ negT fc.neg := ⟨_, rfl⟩
                    rw [← hacc4] at hl4 HSF ⊢
                    have HW1 := Lib.hid (say22 fc.r p _ w12 (HTLR.out.2.carry (fun c hc _ => HW4.out.block c (HP.out c hc))) (fun c hc => Nat.lt_of_lt_of_le (HP.out c hc) HW4.out.size) HGF.out.2.2 (by omega))
                    have hd1 : ¬ 9223372036854775807 < acc4.length + 1 := by omega
                    have hd2 : ¬ 9223372036854775807 < acc4.length + 1 + fc.r.txt.length := by omega
                    clear hacc4 hnl hlg hl4
                    go_wp2_with fail
                    refine (HW1.out).mono ?_
                    rintro e w15 ⟨rfl, hb15⟩
                    have HB5 := Lib.hid (Below.step HB4.out hb15)
                    clear HW1 hb15 q1 q2 q3 q4 q5
                    go_wp2_with fail
                    go_roundw
                    case rel => exact ⟨j + 1, by omega, by rw [HSF.out]; simp, by go_num, HB5⟩
                    case measure => simp [intOf]; omega
              · obtain rfl : j = L := by omega
                have HTK := Lib.hid (show cl.take j = cl by rw [HLL.out, List.take_length])
                go_wp2_with fail
                go_meet
                case rel => rw [HTK.out]; exact ⟨rfl, HBR⟩
          case rest =>
            clear HBR HBW x0 x1 x2 x3
            obtain ⟨rfl, HBR⟩ := hcut
            have hl1 : (pr2 ++ fsTxt true cl).length ≤ 260000 := by
              have h1 := fsTxt_le cl true HGC.out.2
              have h2 := HP2.out; have h3 := HGC.out.1
              rw [List.length_append]; omega
            obtain ⟨acc2, hacc2⟩ : ∃ l, l = pr2 ++ fsTxt true cl := ⟨_, rfl⟩
            have HA2 := Lib.hid hacc2
            rw [← hacc2] at hl1 ⊢
            have hd1 : ¬ 9223372036854775807 < acc2.length + 1 := by omega
            clear hacc2 hl1
            go_wp2_with fail
            go_roundw
            case rel => exact ⟨k + 1, by omega, by rw [HPR.out, ← HA2.out], by go_num, HBR⟩
            case measure => simp [intOf]; omega
        · obtain rfl : k = n := by omega
          have HTK := Lib.hid (show cs.take k = cs by rw [HN.out, List.take_length])
          go_wp2_with fail
          go_meet
          case rel => rw [HTK.out]; exact ⟨rfl, HBR⟩
    case rest =>
      obtain ⟨rfl, HB2⟩ := hcut
      go_wp2_with fail
      go_ret
      exact ⟨by rw [HPT.out]; rfl, Below.step HW.out HB2.out⟩
end Go.Proofs.YtidgnbdlfngeaaaGreatDoor
