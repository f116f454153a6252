/-
  Walks: the document's Read.
-/
import Derived.Test.YtidgnbdlfngeaaaGreatDoorRf0
import Derived.Test.YtidgnbdlfngeaaaGreatDoorRd8
import Derived.Test.YtidgnbdlfngeaaaGreatDoorZ3
namespace Go.Proofs.YtidgnbdlfngeaaaGreatDoor
open Go.RowKit Go.Shelf
set_option linter.unusedVariables false
set_option linter.unusedSimpArgs false
set_option maxHeartbeats 400000
theorem slice5L_sV {P : Program} (w : World) (t : TypeId) (s : Bs) (h : P.underlying t = some .string) (hk : 5 ≤ s.length) : (Instr.slice t (sV s) none (some (.int .i64 5)) none).run P w = .ok (sV (s.take 5)) w := sliceL_sV w t s 5 h hk
theorem slice5R_sV {P : Program} (w : World) (t : TypeId) (s : Bs) (h : P.underlying t = some .string) (hk : 5 ≤ s.length) : (Instr.slice t (sV s) (some (.int .i64 5)) none none).run P w = .ok (sV (s.drop 5)) w := sliceR_sV w t s 5 h hk
attribute [local go_sem 2000] index_sV sliceL_sV sliceR_sV sliceM_sV
attribute [local go_sem 3000] slice5L_sV slice5R_sV

set_option maxRecDepth 100000 in
set_option maxHeartbeats 8000000 in
theorem read11 (s : Bs) (w : World) (hs : s.length ≤ 9223372036854775807) : Calls Tryz.prog 11 #[sV s] w (ReadP s w) := by
  obtain ⟨i37, gi, gz0, gz1, gz2⟩ := info_parts infoC
  have hz : (⟨s.toArray⟩ : ByteArray).size = s.length := by simp [ByteArray.size]
  obtain ⟨bx, hbx⟩ : ∃ b, b = w.heap.size := ⟨_, rfl⟩
  have S1 := ((St.start w).box hbx.symm #[.slice none 0 0, .slice none 0 0] 25).box (b := bx + 1) (by simp [hbx]) #[.int .i64 0, .int .i64 0] 28
  have hz1 : ((w.alloc (.cells #[.slice none 0 0, .slice none 0 0] 25)).alloc (.cells #[.int .i64 0, .int .i64 0] 28)).heap.size = bx + 2 := by simp [hbx]
  have HBX := Lib.hid (show w.heap.size = bx from hbx.symm)
  have hb0 : w.heap.size ≤ bx := by omega
  go_enter Tryz.func11, Tryz.ntmps11
  go_upto_region 1 with fail
  rw [← hbx]
  refine S1.genC (z := bx + 2) (by omega) ?_
  clear S1 hz1 hbx
  intro w1 z1 S
  by_cases h4 : 4000 < s.length
  · have HR := Lib.hid (show readR s = ((2, 0), [], []) by unfold readR; rw [if_pos h4])
    have h4' : (4000 : Int) < (s.length : Int) := by omega
    have HF := Lib.hid (fault42 2 0 w1)
    clear h4
    go_wp2_with fail
    refine (S.quiet (HF.out)).mono ?_
    rintro e w2 ⟨rfl, z2, S2⟩
    obtain ⟨⟨y0, y1⟩, y2, y3⟩ := S2.two 0
    obtain ⟨⟨v0, v1⟩, v2, v3⟩ := S2.two 1
    have SF := Lib.hid ((S2.set2 0 rfl (.slice none 0 0) (.slice none 0 0) hb0 (by simp only [fsnoc, offs, offAll, Fct.box, and_true]; omega)).set2 1 rfl (.int .i64 2) (.int .i64 0) (by omega) (by simp only [fset, fsnoc, offs, offAll, Fct.box, and_true]; omega))
    clear S S2 HF
    go_wp2_with fail
    refine ret_box22 (.slice none 0 0) (.slice none 0 0) (.int .i64 2) (.int .i64 0) bx (bx + 1) 25 28 (SF.out.block 0) (SF.out.block 1) (fun w' q0 q1 q2 q3 => by simp [results, Tryz.results11, go_sem, q0, q1, q2, q3]) rfl ?_
    exact ReadP.bad HR.out SF.out.bel
  have h4' : ¬ (4000 : Int) < (s.length : Int) := by omega
  have H4 := Lib.hid h4
  have hs4 : s.length ≤ 4000 := by omega
  obtain ⟨b4, hb4⟩ : ∃ b, b = w1.heap.size := ⟨_, rfl⟩
  have S2 := S.box hb4.symm #[.slice none 0 0, .slice none 0 0] 25
  have HB4 := Lib.hid (show bx + 2 ≤ b4 by omega)
  have hz2 : (w1.alloc (.cells #[.slice none 0 0, .slice none 0 0] 25)).heap.size = b4 + 1 := by simp [hb4]
  clear S h4
  go_upto_block 0 with fail
  rw [← hb4]
  refine S2.genC (z := b4 + 1) (by omega) ?_
  clear S2 hz2 hb4
  intro w2 z2 S
  go_cut [5] (fun a W => ∃ (i : Nat) (ar : List Int) (cs : List (List Fc)) (aro : Option Addr) (asp : Nat) (clV : Value), a = .int .i64 i ∧ Hid (atI s i s.length ar cs) ∧ cs.length ≤ s.length ∧ ar.length ≤ s.length ∧ Hid (∀ c ∈ cs, smC 4000 c) ∧ b4 + 1 ≤ W.heap.size ∧
      St w W [.box bx #[.slice none 0 0, .slice none 0 0] 25, .box (bx + 1) #[.int .i64 0, .int .i64 0] 28, .box b4 #[.slice aro ar.length (ar.length + asp), clV] 25, .rowE intE (fun b => b4 + 1 ≤ b ∧ clV.ownBlock ≠ some b) aro ar, .owns claimE (b4 + 1) (fun b => b4 + 1 ≤ b) clV cs])
  case first =>
    go_wp2_with fail
    go_loopw [5, 6] (fun a f wr => ∃ (i fr : Nat) (ar : List Int) (cs : List (List Fc)) (aro : Option Addr) (asp : Nat) (clV : Value), a = .int .i64 i ∧ f = .int .i64 fr ∧ Hid (atI s i fr ar cs) ∧ i ≤ fr ∧ fr ≤ s.length ∧ cs.length ≤ fr ∧ ar.length ≤ s.length ∧ Hid (∀ c ∈ cs, smC 4000 c) ∧ b4 + 1 ≤ wr.heap.size ∧
      St w wr [.box bx #[.slice none 0 0, .slice none 0 0] 25, .box (bx + 1) #[.int .i64 0, .int .i64 0] 28, .box b4 #[.slice aro ar.length (ar.length + asp), clV] 25, .rowE intE (fun b => b4 + 1 ≤ b ∧ clV.ownBlock ≠ some b) aro ar, .owns claimE (b4 + 1) (fun b => b4 + 1 ≤ b) clV cs]) (fun _ f _ => s.length - (intOf f).toNat)
    case atStart =>
      refine ⟨0, 0, [], [], none, 0, .slice none 0 0, rfl, rfl, Lib.hid (atI.start s), Nat.le_refl _, Nat.zero_le _, by simp, by simp, Lib.hid (fun c hc => by cases hc), z2, ?_⟩
      exact ((S.pick [0, 1, 2]).add (.rowE intE (fun b => b4 + 1 ≤ b ∧ (Value.slice none 0 0).ownBlock ≠ some b) none []) Elt.Row.nil).add (.owns claimE (b4 + 1) (fun b => b4 + 1 ≤ b) (.slice none 0 0) []) (Elt.Own.nil _ _ _ _)
    case round =>
      clear S z2
      obtain ⟨i, fr, ar, cs, aro, asp, clV, rfl, rfl, HI, hif, hfs, hcs, har, HSM, zr, S⟩ := hrel
      by_cases hlt : fr < s.length
      · obtain ⟨n, hn⟩ : ∃ n, n = fr + nlN (s.drop fr) := ⟨_, rfl⟩
        have HN := Lib.hid hn
        have hnl := nlN_le (s.drop fr)
        rw [List.length_drop] at hnl
        have hn1 : fr ≤ n := by omega
        have hn2 : n ≤ s.length := by omega
        clear hn hnl
        go_upto_block 2 with fail
        obtain ⟨wq, hwq⟩ : ∃ W, W = wr := ⟨_, rfl⟩
        subst hwq
        go_cut [7] (fun x W => x = .int .i64 n ∧ W = wq)
        case first =>
          have HZ := Lib.hid S
          clear S HI HSM
          go_wp2_with fail
          go_loopw [7] (fun x wr => ∃ k : Nat, fr ≤ k ∧ k ≤ n ∧ x = .int .i64 k ∧ wr = wq) (fun x _ => n - (intOf x).toNat)
          case atStart => exact ⟨fr, Nat.le_refl _, hn1, rfl, rfl⟩
          case round =>
            obtain ⟨k, hk1, hk, rfl, rfl⟩ := hrel
            by_cases hkn : k < n
            · have hks : k < s.length := by omega
              have hne : ((s[k].toNat : Int) != 10) = true := by
                have h1 := nlN_in (s := s.drop fr) (k := k - fr) (by have := HN.out; omega)
                rw [List.getD, List.getElem?_drop, show fr + (k - fr) = k by omega] at h1
                rw [bne_iff_ne]
                intro e
                refine h1 ?_
                simp only [List.getElem?_eq_getElem hks, Option.getD_some]
                exact u8_eq (by have : (10 : UInt8).toNat = 10 := rfl; omega)
              have hki : (k : Int) < s.length := by omega
              go_wp2_with fail
              go_roundw
              case rel => exact ⟨k + 1, by omega, by omega, by go_num, by trivial⟩
              case measure => simp [intOf]; omega
            · obtain rfl : k = n := by omega
              by_cases hks : k < s.length
              · have hne : ((s[k].toNat : Int) != 10) = false := by
                  have h1 := nlN_out (s := s.drop fr) (by rw [List.length_drop]; have := HN.out; omega)
                  rw [List.getD, List.getElem?_drop, ← HN.out] at h1
                  simp only [List.getElem?_eq_getElem hks, Option.getD_some] at h1
                  rw [h1]; decide
                go_wp2_with fail
                go_meet
                case rel => exact ⟨rfl, rfl⟩
              · go_wp2_with fail
                go_meet
                case rel => exact ⟨rfl, rfl⟩
        case rest =>
        obtain ⟨rfl, hwc⟩ := hcut
        have hwc := hwc.symm
        subst hwc
        obtain ⟨ln, hln⟩ : ∃ l, l = (s.drop fr).take (n - fr) := ⟨_, rfl⟩
        have HLN := Lib.hid (show (s.drop fr).take (nlN (s.drop fr)) = ln by rw [hln, HN.out]; congr 1; omega)
        have hll : ln.length = n - fr := by rw [hln, List.length_take, List.length_drop]; omega
        have hT : (Instr.slice 9 (sV s) (some (.int .i64 (fr : Int))) (some (.int .i64 (n : Int))) none).run Tryz.prog wq = .ok (sV ln) wq := by rw [sliceM_sV wq 9 s fr n Tryz.underlying9 hn1 hn2, ← hln]
        clear hln
        have hlb : ln.length ≤ s.length := by omega
        clear hll
        by_cases hns : n < s.length
        rotate_left 1
        · have HR := Lib.hid (readR_inl H4.out (HI.out.open hlt (by rw [List.length_drop]; have := HN.out; omega)))
          have hnsi : ¬ (n : Int) < s.length := by omega
          clear HI HSM
          have HF := Lib.hid (fault42 1 (i : Int) wq)
          go_wp2_with fail
          refine (S.quiet (HF.out)).mono ?_
          rintro e wx ⟨rfl, zx, SX⟩
          have S3 := SX.pick [0, 1]
          obtain ⟨⟨y0, y1⟩, y2, y3⟩ := S3.two 0
          obtain ⟨⟨u0, u1⟩, u2, u3⟩ := S3.two 1
          have SF := Lib.hid ((S3.set2 0 rfl (.slice none 0 0) (.slice none 0 0) hb0 (by simp only [List.map, Fct.at, fsnoc, offs, offAll, Fct.box, and_true]; omega)).set2 1 rfl (.int .i64 1) (.int .i64 i) (by omega) (by simp only [List.map, Fct.at, fset, fsnoc, offs, offAll, Fct.box, and_true]; omega))
          clear S SX S3 HF
          go_wp2_with fail
          refine ret_box22 (.slice none 0 0) (.slice none 0 0) (.int .i64 1) (.int .i64 i) bx (bx + 1) 25 28 (SF.out.block 0) (SF.out.block 1) (fun w' q0 q1 q2 q3 => by simp [results, Tryz.results11, go_sem, q0, q1, q2, q3]) rfl ?_
          exact ReadP.bad (f := (1, (i : Int))) HR.out SF.out.bel
        have HNL := Lib.hid (show nlN (s.drop fr) < (s.drop fr).length by rw [List.length_drop]; have := HN.out; omega)
        by_cases h5 : 5 ≤ ln.length
        rotate_left 1
        · have HR := Lib.hid (readR_inl (k := i) H4.out (by
            by_cases hi0 : i = 0
            · subst hi0
              exact (HI.out.first HNL.out).2 (by rw [HLN.out]; exact signsO_of.1 (by omega))
            · exact (HI.out.mid (by omega) HNL.out).2 (by rw [HLN.out]; exact claimO_of.1 (by omega))))
          have h5i : ¬ (5 : Int) ≤ ln.length := by omega
          clear HI HSM
          have HF := Lib.hid (fault42 1 (i : Int) wq)
          go_wp2_with fail
          refine (S.quiet (HF.out)).mono ?_
          rintro e wx ⟨rfl, zx, SX⟩
          have S3 := SX.pick [0, 1]
          obtain ⟨⟨y0, y1⟩, y2, y3⟩ := S3.two 0
          obtain ⟨⟨u0, u1⟩, u2, u3⟩ := S3.two 1
          have SF := Lib.hid ((S3.set2 0 rfl (.slice none 0 0) (.slice none 0 0) hb0 (by simp only [List.map, Fct.at, fsnoc, offs, offAll, Fct.box, and_true]; omega)).set2 1 rfl (.int .i64 1) (.int .i64 i) (by omega) (by simp only [List.map, Fct.at, fset, fsnoc, offs, offAll, Fct.box, and_true]; omega))
          clear S SX S3 HF
          go_wp2_with fail
          refine ret_box22 (.slice none 0 0) (.slice none 0 0) (.int .i64 1) (.int .i64 i) bx (bx + 1) 25 28 (SF.out.block 0) (SF.out.block 1) (fun w' q0 q1 q2 q3 => by simp [results, Tryz.results11, go_sem, q0, q1, q2, q3]) rfl ?_
          exact ReadP.bad (f := (1, (i : Int))) HR.out SF.out.bel
        have h5i : (5 : Int) ≤ ln.length := by omega
        have hls : (ln.drop 5).length ≤ 4000 := by rw [List.length_drop]; omega
        have HOWN := Lib.hid (fun c (hc : clV.ownBlock = some c) => S.ownlt claimE 4 rfl c hc)
        by_cases hi0 : i = 0
        · obtain ⟨rfl, rfl⟩ : ar = [] ∧ cs = [] := HI.out.rd.1 hi0
          have hib : ((i : Int) == 0) = true := by rw [beq_iff_eq]; omega
          have hfi := HI.out
          rw [hi0] at hfi
          have hfi := hfi.first HNL.out
          rw [HLN.out, ← HN.out] at hfi
          have HFI := Lib.hid hfi
          have HI0 := Lib.hid hi0
          have HRS := Lib.hid (readSigns32 (ln.drop 5) wq (by omega))
          clear hfi hi0 HI
          go_wp2_with fail
          refine (HRS.out).mono ?_
          rintro e w3 ⟨ns, ro, sp, ok1, rfl, hrow, ht, hf, hnl, hb3⟩
          rw [List.length_drop] at hnl
          have S3 := (((S.step hb3).pick [0, 1, 2]).add (.rowE intE (fun b => b4 + 1 ≤ b ∧ clV.ownBlock ≠ some b) ro ns) (hrow.mono (fun b h hl => ⟨by omega, fun e => by have := (HOWN.out b e).2; omega⟩))).add (.owns claimE (b4 + 1) (fun b => b4 + 1 ≤ b) clV []) ((S.step hb3).owns claimE 4)
          have z3 : b4 + 1 ≤ w3.heap.size := by have := hb3.size; omega
          obtain ⟨okv, hokv⟩ : ∃ b : Bool, b = (ok1 && (ln.take 5 == sSigns)) := ⟨_, rfl⟩
          have HOKV := Lib.hid hokv
          have HT := Lib.hid (show okv = true → signsO ln = some ns from fun h => by
            rw [hokv] at h
            obtain ⟨h1, h2⟩ : ok1 = true ∧ (ln.take 5 == sSigns) = true := by simpa using h
            rw [signsO_of.2.2 h5 (by simpa using h2), ht h1])
          have HFS := Lib.hid (show okv = false → signsO ln = none from fun h => by
            rw [hokv] at h
            by_cases h2 : ln.take 5 = sSigns
            · have h1 : ok1 = false := by rw [h2] at h; simpa using h
              rw [signsO_of.2.2 h5 h2, hf h1]
            · exact signsO_of.2.1 h5 h2)
          clear S hrow ht hf hb3 HRS hokv
          go_upto_region 14 with fail
          obtain ⟨wv, hwv⟩ : ∃ W, W = w3 := ⟨_, rfl⟩
          subst hwv
          go_cut [9] (fun x W => x = .bool okv ∧ W = wv)
          case first =>
            clear HT HFS
            cases ok1 with
            | false =>
              go_wp2_with fail
              go_meet
              case rel => exact ⟨by rw [HOKV.out]; rfl, rfl⟩
            | true =>
              cases hw : (ln.take 5 == sSigns) with
              | true =>
                have hw2 : (ln.take 5 == [115, 105, 103, 110, 115]) = true := hw
                have HW := Lib.hid hw
                clear hw
                go_wp2_with fail
                go_meet
                case rel => exact ⟨by rw [HOKV.out, HW.out]; rfl, rfl⟩
              | false =>
                have hw2 : (ln.take 5 == [115, 105, 103, 110, 115]) = false := hw
                have HW := Lib.hid hw
                clear hw
                go_wp2_with fail
                go_meet
                case rel => exact ⟨by rw [HOKV.out, HW.out]; rfl, rfl⟩
          case rest =>
          obtain ⟨rfl, hwc⟩ := hcut
          have hwc := hwc.symm
          subst hwc
          obtain ⟨⟨v0, v1⟩, v2, v3⟩ := S3.two 2
          have S4 : St w (wv.setCell ⟨b4, 0, none⟩ (.slice ro ns.length (ns.length + sp))) [.box bx #[.slice none 0 0, .slice none 0 0] 25, .box (bx + 1) #[.int .i64 0, .int .i64 0] 28, .box b4 #[.slice ro ns.length (ns.length + sp), clV] 25, .rowE intE (fun b => b4 + 1 ≤ b ∧ clV.ownBlock ≠ some b) ro ns, .owns claimE (b4 + 1) (fun b => b4 + 1 ≤ b) clV []] := S3.set20 2 rfl (.slice ro ns.length (ns.length + sp)) (by have := HB4.out; omega) (by
            have h1 := HB4.out
            simp only [List.map, Fct.at, fsnoc, offs, offAll, Fct.box, Fct.rowE, Fct.owns, and_true]
            refine ⟨by omega, by omega, fun e => by omega, fun e => ?_⟩
            rcases e with e | e
            · have := (HOWN.out _ e).1; omega
            · omega)
          have hz4 : b4 + 1 ≤ (wv.setCell ⟨b4, 0, none⟩ (.slice ro ns.length (ns.length + sp))).heap.size := by simp; exact z3
          clear S3
          go_upto_region 20 with fail
          refine S4.genC (z := b4 + 1) hz4 ?_
          clear S4 hz4 v0 v1 v2 v3
          intro w4 z4 S
          cases okv with
          | false =>
            have HR := Lib.hid (readR_inl (k := i) H4.out (by rw [HI0.out]; exact HFI.out.2 (HFS.out rfl)))
            have HF := Lib.hid (fault42 1 (i : Int) w4)
            go_wp2_with fail
            refine (S.quiet (HF.out)).mono ?_
            rintro e wx ⟨rfl, zx, SX⟩
            have S3 := SX.pick [0, 1]
            obtain ⟨⟨y0, y1⟩, y2, y3⟩ := S3.two 0
            obtain ⟨⟨u0, u1⟩, u2, u3⟩ := S3.two 1
            have SF := Lib.hid ((S3.set2 0 rfl (.slice none 0 0) (.slice none 0 0) hb0 (by simp only [List.map, Fct.at, fsnoc, offs, offAll, Fct.box, and_true]; omega)).set2 1 rfl (.int .i64 1) (.int .i64 i) (by omega) (by simp only [List.map, Fct.at, fset, fsnoc, offs, offAll, Fct.box, and_true]; omega))
            clear S SX S3 HF
            go_wp2_with fail
            refine ret_box22 (.slice none 0 0) (.slice none 0 0) (.int .i64 1) (.int .i64 i) bx (bx + 1) 25 28 (SF.out.block 0) (SF.out.block 1) (fun w' q0 q1 q2 q3 => by simp [results, Tryz.results11, go_sem, q0, q1, q2, q3]) rfl ?_
            exact ReadP.bad (f := (1, (i : Int))) HR.out SF.out.bel
          | true =>
            have HI2 := Lib.hid (HFI.out.1 ns (HT.out rfl))
            go_wp2_with fail
            go_roundw
            case rel => exact ⟨1, n + 1, ns, [], ro, sp, clV, by rw [HI0.out]; rfl, by go_num, HI2, by omega, by omega, by simp, by omega, Lib.hid (fun c hc => by cases hc), z4, S⟩
            case measure => simp [intOf]; omega
        · have hib : ((i : Int) == 0) = false := by rw [beq_eq_false_iff_ne]; omega
          have hfi := HI.out.mid (by omega) HNL.out
          rw [HLN.out, ← HN.out] at hfi
          have HFI := Lib.hid hfi
          have HRS := Lib.hid (readClaim33 (ln.drop 5) wq (by omega))
          clear hfi hi0 HI
          go_wp2_with fail
          refine (HRS.out).mono ?_
          rintro e w3 ⟨fs, ro, sp, ok1, rfl, hrow, ht, hf, hnl, hb3⟩
          rw [List.length_drop] at hnl
          obtain ⟨b12, hb12⟩ : ∃ b, b = w3.heap.size := ⟨_, rfl⟩
          have S3 := (((((S.step hb3).pick [0, 1, 2]).add (.rowE intE (fun b => b4 + 1 ≤ b ∧ clV.ownBlock ≠ some b ∧ b < wq.heap.size) aro ar) (((S.rowE intE 3 rfl).keep (fun b h hl => ⟨rfl, h.1, h.2, hl⟩ : ∀ b, (b4 + 1 ≤ b ∧ clV.ownBlock ≠ some b) → b < wq.heap.size → wq.heap[b]? = wq.heap[b]? ∧ (b4 + 1 ≤ b ∧ clV.ownBlock ≠ some b ∧ b < wq.heap.size))).keep (fun b h hl => ⟨hb3.block b hl, h⟩))).add (.owns claimE (b4 + 1) (fun b => b4 + 1 ≤ b) clV cs) ((S.step hb3).owns claimE 4)).add (.rowE factE (fun b => wq.heap.size ≤ b ∧ b < b12) ro fs) (hrow.mono (fun b h hl => ⟨h, by omega⟩))).box hb12.symm #[.slice ro fs.length (fs.length + sp)] 42
          have z3 : b4 + 1 ≤ wq.heap.size ∧ wq.heap.size ≤ b12 := ⟨zr, by have := hb3.size; omega⟩
          have hz3 : (w3.alloc (.cells #[.slice ro fs.length (fs.length + sp)] 42)).heap.size = b12 + 1 := by simp [hb12]
          obtain ⟨okv, hokv⟩ : ∃ b : Bool, b = (ok1 && (ln.take 5 == sClaim)) := ⟨_, rfl⟩
          have HOKV := Lib.hid hokv
          have HT := Lib.hid (show okv = true → claimO ln = some fs from fun h => by
            rw [hokv] at h
            obtain ⟨h1, h2⟩ : ok1 = true ∧ (ln.take 5 == sClaim) = true := by simpa using h
            rw [claimO_of.2.2 h5 (by simpa using h2), ht h1])
          have HFS := Lib.hid (show okv = false → claimO ln = none from fun h => by
            rw [hokv] at h
            by_cases h2 : ln.take 5 = sClaim
            · have h1 : ok1 = false := by rw [h2] at h; simpa using h
              rw [claimO_of.2.2 h5 h2, hf h1]
            · exact claimO_of.2.1 h5 h2)
          clear S hrow ht hf hb3 HRS hokv
          go_upto_region 18 with fail
          rw [← hb12]
          refine S3.genC (z := b12 + 1) (by omega) ?_
          clear S3 hz3 hb12
          intro wv zv S
          go_cut [9] (fun x W => x = .bool okv ∧ W = wv)
          case first =>
            clear HT HFS
            cases ok1 with
            | false =>
              go_wp2_with fail
              go_meet
              case rel => exact ⟨by rw [HOKV.out]; rfl, rfl⟩
            | true =>
              cases hw : (ln.take 5 == sClaim) with
              | true =>
                have hw2 : (ln.take 5 == [99, 108, 97, 105, 109]) = true := hw
                have HW := Lib.hid hw
                clear hw
                go_wp2_with fail
                go_meet
                case rel => exact ⟨by rw [HOKV.out, HW.out]; rfl, rfl⟩
              | false =>
                have hw2 : (ln.take 5 == [99, 108, 97, 105, 109]) = false := hw
                have HW := Lib.hid hw
                clear hw
                go_wp2_with fail
                go_meet
                case rel => exact ⟨by rw [HOKV.out, HW.out]; rfl, rfl⟩
          case rest =>
          obtain ⟨rfl, hwc⟩ := hcut
          have hwc := hwc.symm
          subst hwc
          have S : St w wv [.box bx #[.slice none 0 0, .slice none 0 0] 25, .box (bx + 1) #[.int .i64 0, .int .i64 0] 28, .box b4 #[.slice aro ar.length (ar.length + asp), clV] 25, .rowE intE (fun b => b4 + 1 ≤ b ∧ clV.ownBlock ≠ some b ∧ b < wq.heap.size) aro ar, .owns claimE (b4 + 1) (fun b => b4 + 1 ≤ b) clV cs, .rowE factE (fun b => wq.heap.size ≤ b ∧ b < b12) ro fs, .box b12 #[.slice ro fs.length (fs.length + sp)] 42] := S
          obtain ⟨⟨v0, v1⟩, v2, v3⟩ := S.two 2
          obtain ⟨u0, u1⟩ := S.one 6
          have HZ3 := Lib.hid z3
          have hfl : fs.length ≤ maxLen := by unfold maxLen; omega
          go_wp2_with (at_builtin; refine wpList_app rfl (.tmp 83) (.tmp 85) 23 rfl claimE S 4 rfl (x := fs) (q := fun b => wq.heap.size ≤ b ∧ b < b12) (p' := fun b => b4 + 1 ≤ b) ⟨ro, sp, rfl, S.rowE factE 5 rfl, hfl⟩ Tryz.underlying23 gi gz0 gz1 gz2 rfl rfl rfl rfl ?c1 ?c2 ?c3 ?c4 ?c5 ?c6 ?c7 ?_)
          case c1 => unfold maxLen; omega
          case c2 => omega
          case c3 => omega
          case c4 => have := HB4.out; omega
          case c5 =>
            intro bb h1 h2 h3
            have h4 := (HOWN.out bb h1); have h5 := HB4.out; have h7 := HZ3.out
            simp only [offs, offAll, Fct.box, Fct.rowE, and_true]
            refine ⟨by omega, by omega, by omega, fun e => e.2.1 h1, by omega, by omega⟩
          case c6 => intro bb h1 h1b h2; have h4 := (HOWN.out bb h2); omega
          case c7 => intro bb h1; have := HZ3.out; rcases h1 with h1 | h1; exact h1; omega
          intro gg cap w8 S8 z8 hgl hgg
          have hgb : b4 + 1 ≤ gg := (S8.ownlt claimE 4 rfl gg rfl).1
          clear v0 v1 v2 v3
          obtain ⟨⟨v0, v1⟩, v2, v3⟩ := S8.two 2
          have S9 := S8.set21 2 rfl (.slice (some ⟨gg, 0, none⟩) (cs.length + 1) cap) (by have := HB4.out; omega) (by
            have h1 := HB4.out; have h7 := HZ3.out
            simp only [fset, offs, offAll, Fct.box, Fct.rowE, Fct.owns, and_true]
            refine ⟨by omega, by omega, by omega, fun e => ?_, by omega, by omega⟩
            rcases e with e | e
            · have e' : gg = b4 := by simpa [Value.ownBlock] using e
              omega
            · omega)
          have HS10 := Lib.hid (show St w (w8.setCell ⟨b4, 1, none⟩ (.slice (some ⟨gg, 0, none⟩) (cs.length + 1) cap)) [.box bx #[.slice none 0 0, .slice none 0 0] 25, .box (bx + 1) #[.int .i64 0, .int .i64 0] 28, .box b4 #[.slice aro ar.length (ar.length + asp), .slice (some ⟨gg, 0, none⟩) (cs.length + 1) cap] 25, .rowE intE (fun b => b4 + 1 ≤ b ∧ (Value.slice (some ⟨gg, 0, none⟩) (cs.length + 1) cap).ownBlock ≠ some b) aro ar, .owns claimE (b4 + 1) (fun b => b4 + 1 ≤ b) (.slice (some ⟨gg, 0, none⟩) (cs.length + 1) cap) (cs ++ [fs])] from
            ((S9.pick [0, 1, 2]).add (.rowE intE (fun b => b4 + 1 ≤ b ∧ (Value.slice (some ⟨gg, 0, none⟩) (cs.length + 1) cap).ownBlock ≠ some b) aro ar) ((S9.rowE intE 3 rfl).keep (fun b (h : b4 + 1 ≤ b ∧ clV.ownBlock ≠ some b ∧ b < wq.heap.size) _ => ⟨rfl, h.1, fun e => by
              have e' : gg = b := by simpa [Value.ownBlock] using e
              rcases hgg with hgg | hgg
              · exact h.2.1 (by rw [hgg, e'])
              · have := HZ3.out; have h9 := h.2.2; omega⟩))).add (.owns claimE (b4 + 1) (fun b => b4 + 1 ≤ b) (.slice (some ⟨gg, 0, none⟩) (cs.length + 1) cap) (cs ++ [fs])) (S9.owns claimE 4 rfl))
          have hz9 : b4 + 1 ≤ (w8.setCell ⟨b4, 1, none⟩ (.slice (some ⟨gg, 0, none⟩) (cs.length + 1) cap)).heap.size := by simp; have := HZ3.out; omega
          clear S S8 S9 hgl hgg z8 u0 u1
          go_upto_region 20 with fail
          refine HS10.out.genC (z := b4 + 1) hz9 ?_
          clear HS10 hz9 v0 v1 v2 v3
          intro w4 z4 S
          cases okv with
          | false =>
            have HR := Lib.hid (readR_inl (k := i) H4.out (HFI.out.2 (HFS.out rfl)))
            have HF := Lib.hid (fault42 1 (i : Int) w4)
            go_wp2_with fail
            refine (S.quiet (HF.out)).mono ?_
            rintro e wx ⟨rfl, zx, SX⟩
            have S3 := SX.pick [0, 1]
            obtain ⟨⟨y0, y1⟩, y2, y3⟩ := S3.two 0
            obtain ⟨⟨u0, u1⟩, u2, u3⟩ := S3.two 1
            have SF := Lib.hid ((S3.set2 0 rfl (.slice none 0 0) (.slice none 0 0) hb0 (by simp only [List.map, Fct.at, fsnoc, offs, offAll, Fct.box, and_true]; omega)).set2 1 rfl (.int .i64 1) (.int .i64 i) (by omega) (by simp only [List.map, Fct.at, fset, fsnoc, offs, offAll, Fct.box, and_true]; omega))
            clear S SX S3 HF
            go_wp2_with fail
            refine ret_box22 (.slice none 0 0) (.slice none 0 0) (.int .i64 1) (.int .i64 i) bx (bx + 1) 25 28 (SF.out.block 0) (SF.out.block 1) (fun w' q0 q1 q2 q3 => by simp [results, Tryz.results11, go_sem, q0, q1, q2, q3]) rfl ?_
            exact ReadP.bad (f := (1, (i : Int))) HR.out SF.out.bel
          | true =>
            have HI2 := Lib.hid (HFI.out.1 fs (HT.out rfl))
            have HSM2 := Lib.hid (show ∀ c ∈ cs ++ [fs], smC 4000 c from fun c hc => by
              rcases List.mem_append.1 hc with h | h
              · exact HSM.out c h
              · have e := List.mem_singleton.1 h
                rw [e]
                exact (claim_size (HT.out rfl)).mono (by omega))
            go_wp2_with fail
            go_roundw
            case rel => exact ⟨i + 1, n + 1, ar, cs ++ [fs], aro, asp, _, by go_num, by go_num, HI2, by omega, by omega, by rw [List.length_append]; simp only [List.length_cons, List.length_nil]; omega, har, HSM2, z4, S⟩
            case measure => simp [intOf]; omega
      · obtain rfl : fr = s.length := by omega
        go_wp2_with fail
        go_meet
        case rel => exact ⟨i, ar, cs, aro, asp, clV, rfl, HI, hcs, har, HSM, zr, S⟩
  case rest =>
    clear S z2
    obtain ⟨i, ar, cs, aro, asp, clV, rfl, HI, hcs, har, HSM, zr, S⟩ := hcut
    obtain ⟨⟨v0, v1⟩, v2, v3⟩ := S.two 2
    by_cases hi0 : i = 0
    · have HR := Lib.hid (readR_inl H4.out (HI.out.fin.2 hi0))
      have hib : ((i : Int) == 0) = true := by simp [hi0]
      have HF := Lib.hid (fault42 1 0 wc)
      clear hi0 HI
      go_wp2_with fail
      refine (S.quiet (HF.out)).mono ?_
      rintro e w2 ⟨rfl, z2, S2⟩
      have S3 := S2.pick [0, 1]
      obtain ⟨⟨y0, y1⟩, y2, y3⟩ := S3.two 0
      obtain ⟨⟨u0, u1⟩, u2, u3⟩ := S3.two 1
      have SF := Lib.hid ((S3.set2 0 rfl (.slice none 0 0) (.slice none 0 0) hb0 (by simp only [List.map, Fct.at, fsnoc, offs, offAll, Fct.box, and_true]; omega)).set2 1 rfl (.int .i64 1) (.int .i64 0) (by omega) (by simp only [List.map, Fct.at, fset, fsnoc, offs, offAll, Fct.box, and_true]; omega))
      clear S S2 S3 HF
      go_wp2_with fail
      refine ret_box22 (.slice none 0 0) (.slice none 0 0) (.int .i64 1) (.int .i64 0) bx (bx + 1) 25 28 (SF.out.block 0) (SF.out.block 1) (fun w' q0 q1 q2 q3 => by simp [results, Tryz.results11, go_sem, q0, q1, q2, q3]) rfl ?_
      exact ReadP.bad HR.out SF.out.bel
    · have HRD := Lib.hid (readR_inr H4.out (HI.out.fin.1 (by omega)))
      have hib : ((i : Int) == 0) = false := by rw [beq_eq_false_iff_ne]; omega
      clear hi0 HI
      obtain ⟨co, csp, rfl, hrow, hml⟩ := (S.owns claimE 4).row (fun b h => h)
      have har2 := S.rowE intE 3 rfl
      obtain ⟨f, hf⟩ : ∃ f, f = loreF ar cs := ⟨_, rfl⟩
      have HCK := Lib.hid (lore51 ar cs (fun b => b < wc.heap.size) _ aro co (ar.length + asp) (cs.length + csp) wc har2 (hrow.mono (fun b h hl => hl)) (fun b h => h) (by omega) (by omega)
        (fun i c hc => by have := (HSM.out c (List.mem_of_getElem? hc)).1; omega) (fun i c hc j t ht => by have := (HSM.out c (List.mem_of_getElem? hc)).trees t (List.mem_of_getElem? ht); omega))
      rw [← hf] at HCK HRD
      unfold FV at HCK
      clear hf
      have HS := Lib.hid S
      clear S hrow har2
      go_wp2_with fail
      refine (HCK.out).mono ?_
      rintro e wz ⟨rfl, hbz⟩
      have SZ := HS.out.step hbz
      obtain ⟨b6, hb6⟩ : ∃ b, b = wz.heap.size := ⟨_, rfl⟩
      have S6 := SZ.box hb6.symm #[.int .i64 f.1, .int .i64 f.2] 28
      have hz6 : (wz.alloc (.cells #[.int .i64 f.1, .int .i64 f.2] 28)).heap.size = b6 + 1 := by simp [hb6]
      have HB6 := Lib.hid (show b4 + 1 ≤ b6 from by have := hbz.size; omega)
      clear SZ
      go_upto_region 27 with fail
      rw [← hb6]
      refine S6.genC (z := b6 + 1) (by omega) ?_
      clear S6 hz6 hb6 hbz HS HCK v0 v1 v2 v3
      intro w7 z7 S
      obtain ⟨⟨t0, t1⟩, t2, t3⟩ := S.two 5
      by_cases h0 : f.1 = 0
      · have HR2 := Lib.hid (show readR s = ((0, 0), ar, cs) by rw [HRD.out, if_pos h0])
        have h0b : (f.1 != 0) = false := by rw [h0]; decide
        obtain ⟨⟨v0, v1⟩, v2, v3⟩ := S.two 2
        obtain ⟨⟨p0, p1⟩, p2, p3⟩ := S.two 0
        obtain ⟨⟨u0, u1⟩, u2, u3⟩ := S.two 1
        have SF := (S.set2 0 rfl (.slice aro ar.length (ar.length + asp)) (.slice co cs.length (cs.length + csp)) hb0 (by
          have h1 := HB4.out; have h3 := HB6.out
          simp only [fsnoc, offs, offAll, Fct.box, Fct.rowE, Fct.owns, and_true]
          refine ⟨by omega, by omega, by omega, fun e => ?_, by omega⟩
          rcases e with e | e
          · have := (S.ownlt claimE 4 rfl _ e).1; omega
          · omega)).set2 1 rfl (.int .i64 0) (.int .i64 0) (by omega) (by
          have h1 := HB4.out; have h3 := HB6.out
          simp only [fset, fsnoc, offs, offAll, Fct.box, Fct.rowE, Fct.owns, and_true]
          refine ⟨by omega, by omega, by omega, fun e => ?_, by omega⟩
          rcases e with e | e
          · have := (S.ownlt claimE 4 rfl _ e).1; omega
          · omega)
        obtain ⟨co', csp', e, hrow', _⟩ := (SF.owns claimE 4 rfl).row (fun b h => h)
        simp only [Value.slice.injEq, true_and] at e
        obtain ⟨e1, e2⟩ := e
        subst e1
        have HC2 := Lib.hid (show claimE.Row (fun b => w.heap.size ≤ b) _ co cs from hrow'.keep (fun b (h : b4 + 1 ≤ b) _ => ⟨rfl, by have := HBX.out; have := HB4.out; omega⟩))
        have HA2 := Lib.hid (show intE.Row (fun b => w.heap.size ≤ b) _ aro ar from (SF.rowE intE 3 rfl).keep (fun b h _ => ⟨rfl, by have := HBX.out; have := HB4.out; have := h.1; omega⟩))
        have HSF := Lib.hid SF
        clear S SF hrow' e2
        go_wp2_with fail
        refine ret_box22 (.slice aro ar.length (ar.length + asp)) (.slice co cs.length (cs.length + csp)) (.int .i64 0) (.int .i64 0) bx (bx + 1) 25 28 (HSF.out.block 0) (HSF.out.block 1) (fun w' q0 q1 q2 q3 => by simp [results, Tryz.results11, go_sem, q0, q1, q2, q3]) rfl ?_
        refine ⟨aro, co, asp, csp, by rw [HR2.out]; rfl, by rw [HR2.out]; exact HA2.out, by rw [HR2.out]; exact HC2.out, HSF.out.bel⟩
      · have HR2 := Lib.hid (show readR s = (f, [], []) by rw [HRD.out, if_neg h0])
        have h0b : (f.1 != 0) = true := by rw [bne_iff_ne]; exact h0
        go_upto_region 28 with fail
        have S7 := S.pick [0, 1, 5]
        obtain ⟨⟨v0, v1⟩, v2, v3⟩ := S.two 0
        obtain ⟨⟨u0, u1⟩, u2, u3⟩ := S.two 1
        clear S
        have hb6x : b6 ≠ bx := by have := HB6.out; have := HB4.out; omega
        have hb6y : b6 ≠ bx + 1 := by have := HB6.out; have := HB4.out; omega
        have SF := Lib.hid (((S7.set2 0 rfl (.slice none 0 0) (.slice none 0 0) hb0 (by simp only [List.map, Fct.at, fsnoc, offs, offAll, Fct.box, and_true]; omega)).set2 1 rfl (.int .i64 f.1) (.int .i64 f.2) (by omega) (by simp only [List.map, Fct.at, fset, fsnoc, offs, offAll, Fct.box, and_true]; omega)).drew)
        clear S7
        go_region
        all_goals go_wp2_with fail
        all_goals
          refine ret_box22 (.slice none 0 0) (.slice none 0 0) (.int .i64 f.1) (.int .i64 f.2) bx (bx + 1) 25 28 (SF.out.block 0) (SF.out.block 1) (fun w' q0 q1 q2 q3 => by simp [results, Tryz.results11, go_sem, q0, q1, q2, q3]) rfl ?_
          exact ReadP.bad HR2.out SF.out.bel
end Go.Proofs.YtidgnbdlfngeaaaGreatDoor
