/-
  Walk: kit.Var and kit.ClauseOf: a clause of at most three literals over six variables, all different.
-/
import Derived.Test.YtlpoedjipncbhaaProg
import Derived.Test.YtlpoedjipncbhaaPk
import Derived.Deep.CutBlock
import Derived.Deep.DeepCutAuto
import Derived.RegionTactic
import Derived.BigQuiet
import Derived.Test.YtlpoedjipncbhaaG7
namespace Go.Proofs.Ytlpoedjipncbhaa
open Go.RowKit Go.Shelf
set_option linter.unusedVariables false
set_option maxHeartbeats 400000

structure GoodC (n : Nat) (c : List Int) : Prop where
  len : c.length ≤ 3
  lit : ∀ l ∈ c, l ≠ 0 ∧ l.natAbs ≤ n
  apart : c.Pairwise (fun x y => x.natAbs ≠ y.natAbs)
theorem var33 (x : Int) (w : World) (hx : x.natAbs ≤ 1000) : Calls Try.prog 14 #[.int .i64 x] w fun e w' => e = .returned (.int .i64 x.natAbs) ∧ w' = w := by
  go_enter Try.func14, Try.ntmps14
  by_cases h : x < 0
  · go_wp2
    refine bodyPost_ret (v := .int .i64 (-x)) (by simp [results, Try.results14, go_sem]) rfl ⟨congrArg (fun z => Ending.returned (.int .i64 z)) (show -x = (x.natAbs : Int) by omega), rfl⟩
  · go_wp2
    refine bodyPost_ret (v := .int .i64 x) (by simp [results, Try.results14, go_sem]) rfl ⟨congrArg (fun z => Ending.returned (.int .i64 z)) (show x = (x.natAbs : Int) by omega), rfl⟩
theorem swap_good {n : Nat} {M : List Int} (h : GoodC n M) {i : Nat} (hi : i + 1 < M.length) : GoodC n ((M.set (i + 1) (M[i]'(by omega))).set i (M[i + 1]'(by omega))) := by
  obtain ⟨h1, h2, h3⟩ := h
  match M, h1, hi, h2, h3 with
  | [a, b], _, hi, h2, h3 =>
    obtain rfl : i = 0 := by simp at hi; omega
    simp at h2 h3 ⊢
    exact ⟨by simp, by simp; exact ⟨h2.2, h2.1⟩, by simp; omega⟩
  | [a, b, c], _, hi, h2, h3 =>
    simp at h2 h3
    rcases (by simp at hi; omega : i = 0 ∨ i = 1) with rfl | rfl
    · exact ⟨by simp, by simp; exact ⟨h2.2.1, h2.1, h2.2.2⟩, by simp; omega⟩
    · exact ⟨by simp, by simp; exact ⟨h2.1, h2.2.2, h2.2.1⟩, by simp; omega⟩
  | [a], _, hi, _, _ => simp at hi
  | [], _, hi, _, _ => simp at hi
  | a :: b :: c :: d :: r, h1, _, _, _ => simp at h1
def ClauseP (w : World) (e : Ending) (w' : World) : Prop :=
  ∃ c lo sp, e = .returned (.slice lo c.length (c.length + sp)) ∧ GoodC 5 c ∧ intE.Row (fun b => w.heap.size ≤ b) w' lo c ∧ Below w.heap.size w w'
/-- has a literal of variable v stood among the first i? -/
def hadF (L : List Int) (v i : Nat) : Bool := (L.take i).any (fun c => c.natAbs == v)

set_option maxRecDepth 100000 in
set_option maxHeartbeats 8000000 in
theorem clause20 (x : Int) (w : World) : Calls Try.prog 5 #[.int .i64 x, .int .i64 5] w (ClauseP w) := by
  obtain ⟨i3, gi, gz0, gz1, gz2⟩ := info_parts infoI
  have S := (St.start w).add (.owns intE w.heap.size (fun b => w.heap.size ≤ b) (.slice none 0 0) []) (Elt.Own.nil _ _ _ _)
  go_enter Try.func5, Try.ntmps5
  go_wp2_with fail
  go_loopw [0, 5, 6] (fun u o kk wr => ∃ (k : Nat) (y : Int) (L : List Int), k ≤ 3 ∧ u = .int .i64 y ∧ kk = .int .i64 k ∧ L.length ≤ k ∧ GoodC 5 L ∧ St w wr [.owns intE w.heap.size (fun b => w.heap.size ≤ b) o L]) (fun _ _ kk _ => 3 - (intOf kk).toNat)
  case atStart => exact ⟨0, x, [], by omega, rfl, rfl, Nat.le_refl _, ⟨by simp, by simp, .nil⟩, S⟩
  case round =>
    clear S
    obtain ⟨k, y, L, hk, rfl, rfl, hLk, hG, S⟩ := hrel
    have HG := Lib.hid hG
    clear hG
    go_wp2_with fail
    refine (picked5 y 3 wr (by omega) (by omega)).mono ?_
    rintro e w2 ⟨r, rfl, hr0, hr1, hw2⟩
    have hw2 := hw2.symm
    subst hw2
    by_cases hkr : (k : Int) ≤ r
    · have hk2 : k ≤ 2 := by omega
      clear hr0 hr1
      go_wp2_with fail
      obtain ⟨y2, hy2⟩ : ∃ z, z = wrap64 (y.tdiv 3) := ⟨_, rfl⟩
      rw [← hy2]
      clear hy2
      refine (picked5 y2 5 wr (by omega) (by omega)).mono ?_
      rintro e w2 ⟨r2, rfl, hr0, hr1, hw2⟩
      have hw2 := hw2.symm
      subst hw2
      obtain ⟨lo, sp, rfl, hrow, _⟩ := (S.owns intE 0).row (fun b h => h)
      have HOL := Lib.hid (S.ownlt intE 0 rfl)
      have HLK := Lib.hid hLk
      have hl3 : L.length ≤ 3 := by omega
      clear hrow hLk
      go_wp2_with fail
      obtain ⟨wv, hwv⟩ : ∃ W, W = wr := ⟨_, rfl⟩
      subst hwv
      obtain ⟨y3, hy3⟩ : ∃ z, z = wrap64 (y2.tdiv 5) := ⟨_, rfl⟩
      rw [← hy3]
      clear hy3
      obtain ⟨v, hv⟩ : ∃ v, v = 1 + r2 := ⟨_, rfl⟩
      rw [← hv]
      have HV := Lib.hid (show 1 ≤ v ∧ v ≤ 5 by omega)
      clear hv hr0 hr1
      go_loopw [8, 9] (fun h i wr => ∃ (j : Nat), j ≤ L.length ∧ h = .bool (hadF L v.natAbs j) ∧ i = .int .i64 j ∧ wr = wv) (fun _ i _ => L.length - (intOf i).toNat)
      case atStart => exact ⟨0, by omega, by simp [hadF], rfl, rfl⟩
      case round =>
        obtain ⟨j, hj, rfl, rfl, hw⟩ := hrel
        have hw := hw.symm
        subst hw
        by_cases hlt : j < L.length
        case neg =>
          obtain rfl : j = L.length := by omega
          have HDE := Lib.hid (show hadF L v.natAbs L.length = L.any (fun c => c.natAbs == v.natAbs) by unfold hadF; rw [List.take_length])
          obtain ⟨had, hhad⟩ : ∃ h, h = hadF L v.natAbs L.length := ⟨_, rfl⟩
          rw [← hhad]
          have HHD := Lib.hid hhad
          clear hhad
          cases had with
          | true =>
            go_wp2_with fail
            go_roundw
            case rel => exact ⟨k + 1, y3, L, by omega, rfl, by go_num, by have := HLK.out; omega, HG.out, S⟩
            case measure => simp [intOf] <;> omega
          | false =>
            have HNo := Lib.hid (show ∀ c ∈ L, c.natAbs ≠ v.natAbs from fun c hc e => by
              have h1 := HHD.out
              rw [HDE.out] at h1
              have h2 := List.any_eq_false.1 h1.symm c hc
              simp [e] at h2)
            clear HHD HDE
            go_upto_if 54 with fail
            go_cut [7] (fun u W => ∃ l : Int, u = .int .i64 l ∧ Hid (l ≠ 0 ∧ l.natAbs = v.natAbs) ∧ W = wv)
            case first =>
              have hvv := HV.out
              by_cases hp : y3.tmod 2 = 0
              · have hpb : (y3.tmod 2 != 0) = false := by simp [hp]
                clear hp
                go_wp2_with fail
                go_meet
                case rel => exact ⟨v, rfl, Lib.hid ⟨by omega, rfl⟩, rfl⟩
              · have hpb : (y3.tmod 2 != 0) = true := by simpa using hp
                clear hp
                go_wp2_with fail
                go_meet
                case rel => exact ⟨-v, rfl, Lib.hid ⟨by omega, by omega⟩, rfl⟩
            case rest =>
              obtain ⟨l, rfl, HL, hw⟩ := hcut
              have hw := hw.symm
              subst hw
              have HLT := Lib.hid (show (L ++ [l]).length = L.length + 1 by simp)
              have HGL := Lib.hid (show GoodC 5 (L ++ [l]) from ⟨by have := HLK.out; simp; omega, fun z hz => by
                  rcases List.mem_append.1 hz with h | h
                  · exact HG.out.lit z h
                  · rw [List.mem_singleton.1 h]; have := HL.out; have := HV.out; exact ⟨HL.out.1, by omega⟩,
                List.pairwise_append.2 ⟨HG.out.apart, List.pairwise_singleton _ _, fun a ha b hb => by rw [List.mem_singleton.1 hb, HL.out.2]; exact HNo.out a ha⟩⟩)
              go_wp2_with (at_builtin; refine wpList_app rfl (.tmp 57) (.tmp 59) 22 rfl intE S 0 rfl (x := l) (q := fun _ => False) (p' := fun b => w.heap.size ≤ b) rfl Try.underlying22 gi gz0 gz1 gz2 rfl rfl ?v1 ?v2 ?c1 ?c2 ?c3 ?c4 ?c5 ?c6 ?c7 ?_)
              try (case v1 => rfl)
              try (case v2 => simp; rfl)
              case c1 => unfold maxLen; omega
              case c2 => omega
              case c3 => exact S.size
              try (case c4 => exact Nat.le_refl _)
              try (case c5 => intro bb h1 h2 h3; simp only [offs, offAll])
              try (case c6 => intro bb h; exact h.elim)
              try (case c7 => intro bb h; rcases h with h | h; exact h; exact h.elim)
              intro gg cap2 w3 S3 hs3 hgg hat
              have SB := Lib.hid S3
              clear S S3 hat
              go_wp2_with fail
              go_roundw
              case rel => exact ⟨k + 1, y3, L ++ [l], by omega, rfl, by go_num, by rw [HLT.out]; have := HLK.out; omega, HGL.out, SB.out⟩
              case measure => simp [intOf] <;> omega
        case pos =>
          have hlti : (j : Int) < (L.length : Int) := by omega
          obtain ⟨g, rfl, hgB, hgl, _, d0, d1⟩ := own_getI (S.owns intE 0) hlt
          have HST := Lib.hid (show hadF L v.natAbs (j + 1) = (hadF L v.natAbs j || (L[j].natAbs == v.natAbs)) by unfold hadF; rw [List.take_succ_eq_append_getElem hlt, List.any_append]; simp)
          obtain ⟨c, hc⟩ : ∃ c, c = L[j] := ⟨_, rfl⟩
          rw [← hc] at d0 HST
          have HCC := Lib.hid (show c ≠ 0 ∧ c.natAbs ≤ 5 by rw [hc]; exact HG.out.lit _ (List.getElem_mem hlt))
          clear hc
          have hvv := HV.out
          cases hh : hadF L v.natAbs j with
          | true =>
            rw [hh] at HST
            clear hh
            go_wp2_with fail
            go_roundw
            case rel => exact ⟨j + 1, by omega, by rw [HST.out]; rfl, by go_num, by first | rfl | trivial⟩
            case measure => simp [intOf] <;> omega
          | false =>
            rw [hh] at HST
            clear hh
            by_cases e1 : c = v
            · have e1b : (c == v) = true := by simp [e1]
              have HN := Lib.hid (show hadF L v.natAbs (j + 1) = true by rw [HST.out, e1]; simp)
              clear e1
              go_wp2_with fail
              go_roundw
              case rel => exact ⟨j + 1, by omega, by rw [HN.out], by go_num, by first | rfl | trivial⟩
              case measure => simp [intOf] <;> omega
            · have e1b : (c == v) = false := by simpa using e1
              by_cases e2 : c = -v
              · have e2b : (c == -v) = true := by simp [e2]
                have HN := Lib.hid (show hadF L v.natAbs (j + 1) = true by rw [HST.out, e2]; simp)
                clear e1 e2
                go_wp2_with fail
                go_roundw
                case rel => exact ⟨j + 1, by omega, by rw [HN.out], by go_num, by first | rfl | trivial⟩
                case measure => simp [intOf] <;> omega
              · have e2b : (c == -v) = false := by simpa using e2
                have HN := Lib.hid (show hadF L v.natAbs (j + 1) = false by rw [HST.out]; simp; omega)
                clear e1 e2
                go_wp2_with fail
                go_roundw
                case rel => exact ⟨j + 1, by omega, by rw [HN.out], by go_num, by first | rfl | trivial⟩
                case measure => simp [intOf] <;> omega
    · clear hr0 hr1
      obtain ⟨lo, sp, rfl, hrow, _⟩ := (S.owns intE 0).row (fun b h => h)
      have hl3 : L.length ≤ 3 := by omega
      clear hrow hLk
      go_wp2_with fail
      obtain ⟨wv, hwv⟩ : ∃ W, W = wr := ⟨_, rfl⟩
      subst hwv
      obtain ⟨n, hn⟩ : ∃ n, n = L.length := ⟨_, rfl⟩
      rw [← hn] at S hl3 ⊢
      obtain ⟨cp, hcp⟩ : ∃ c, c = n + sp := ⟨_, rfl⟩
      rw [← hcp] at S ⊢
      have HCP := Lib.hid hcp
      have hn2 := hn.symm
      clear hcp hn
      go_loopw [10, 11] (fun ii jj wr => ∃ (m : Nat) (M : List Int), 1 ≤ m ∧ m ≤ 4 ∧ ii = .int .i64 m ∧ M.length = n ∧ Hid (GoodC 5 M) ∧ St w wr [.owns intE w.heap.size (fun b => w.heap.size ≤ b) (.slice lo n cp) M]) (fun ii _ _ => 5 - (intOf ii).toNat)
      case atStart => exact ⟨1, L, by omega, by omega, rfl, hn2, HG, S⟩
      case round =>
        clear S HG hn2
        obtain ⟨m, M, hm1, hm4, rfl, hMn, HM, S⟩ := hrel
        by_cases hlt : m < n
        case neg =>
          have hlti : ¬ (m : Int) < (n : Int) := by omega
          obtain ⟨ao, sp2, he, hrow, _⟩ := (S.owns intE 0).row (fun b h => h)
          simp only [Value.slice.injEq] at he
          obtain ⟨rfl, _, he2⟩ := he
          have HR := Lib.hid hrow
          have HE := Lib.hid (show cp = M.length + sp2 from he2)
          have SE := Lib.hid S.bel
          clear S he2 hrow hMn
          go_wp2_with fail
          go_ret
          exact ⟨M, lo, sp2, congrArg Ending.returned (congrArg (Value.slice lo M.length) HE.out), HM.out, HR.out, SE.out⟩
        case pos =>
        have hlti : (m : Int) < (n : Int) := by omega
        go_wp2_with fail
        obtain ⟨wx, hwx⟩ : ∃ W, W = wr := ⟨_, rfl⟩
        subst hwx
        go_loopw [11] (fun jj wr => ∃ (j : Nat) (M : List Int), j ≤ m ∧ jj = .int .i64 j ∧ M.length = n ∧ Hid (GoodC 5 M) ∧ St w wr [.owns intE w.heap.size (fun b => w.heap.size ≤ b) (.slice lo n cp) M]) (fun jj _ => (intOf jj).toNat)
        case atStart => exact ⟨m, M, Nat.le_refl _, rfl, hMn, HM, S⟩
        case round =>
          clear S HM hMn
          obtain ⟨j, M, hjm, rfl, hMn, HM, S⟩ := hrel
          go_upto_region 21 with fail
          go_cut [83] (fun t W => ∃ b, t = .bool b ∧ (b = true → 0 < j) ∧ St w W [.owns intE w.heap.size (fun b => w.heap.size ≤ b) (.slice lo n cp) M])
          case first =>
            by_cases hj0 : j = 0
            · subst hj0
              refine wp_region_quiet_below (by kernel_rfl) (by kernel_rfl) ?_
              repeat (go_big_quiet_step (fail))
              refine wpQuiet_nil ?_
              intro _ hw'
              obtain ⟨⟨dq, osq⟩, hw''⟩ := hw'
              subst hw''
              have SN := Lib.hid (S.regrown dq osq)
              clear S
              go_wp2_with fail
              go_meet
              case rel => exact ⟨false, rfl, fun h => (by cases h), SN.out⟩
            · obtain ⟨i, rfl⟩ : ∃ i, j = i + 1 := ⟨j - 1, by omega⟩
              have hjs : ((i + 1 : Nat) : Int) - 1 = (i : Int) := by omega
              obtain ⟨g, rfl, hgB, hgl, _, d0, _⟩ := own_getI (S.owns intE 0) (show i + 1 < M.length by omega)
              obtain ⟨g2, he, _, _, _, d2, _⟩ := own_getI (S.owns intE 0) (show i < M.length by omega)
              simp only [Option.some.injEq, Addr.mk.injEq, and_true] at he
              subst he
              obtain ⟨ca, hca⟩ : ∃ c, c = M[i + 1]'(by omega) := ⟨_, rfl⟩
              obtain ⟨cb, hcb⟩ : ∃ c, c = M[i]'(by omega) := ⟨_, rfl⟩
              rw [← hca] at d0; rw [← hcb] at d2
              have HA := Lib.hid (show ca.natAbs ≤ 1000 by have := (HM.out.lit ca (by rw [hca]; exact List.getElem_mem _)).2; omega)
              have HB := Lib.hid (show cb.natAbs ≤ 1000 by have := (HM.out.lit cb (by rw [hcb]; exact List.getElem_mem _)).2; omega)
              have CA := Lib.hid (fun d os => Calls.regrown_of ((var33 ca (Go.Sort.grow (redrawn wr d) os) HA.out).mono fun e w' h => ⟨h.1, by rw [h.2]; exact Below.refl _ _⟩))
              have CB := Lib.hid (fun d os => Calls.regrown_of ((var33 cb (Go.Sort.grow (redrawn wr d) os) HB.out).mono fun e w' h => ⟨h.1, by rw [h.2]; exact Below.refl _ _⟩))
              obtain ⟨va, hva⟩ : ∃ v : Nat, v = ca.natAbs := ⟨_, rfl⟩
              obtain ⟨vb, hvb⟩ : ∃ v : Nat, v = cb.natAbs := ⟨_, rfl⟩
              rw [← hva] at CA; rw [← hvb] at CB
              have r0 := cell_regrown d0; have r1 := cell_regrown d2
              clear hca hcb d0 d2 hva hvb HA HB hMn
              refine wp_region_quiet_below (by kernel_rfl) (by kernel_rfl) ?_
              iterate 8 (go_big_quiet_step (exact CA.out _ _))
              iterate 8 (go_big_quiet_step (exact CB.out _ _))
              refine wpQuiet_nil ?_
              intro _ hw'
              obtain ⟨⟨dq, osq⟩, hw''⟩ := hw'
              subst hw''
              have SN := Lib.hid (S.regrown dq osq)
              have HJ := Lib.hid (show 0 < i + 1 by omega)
              clear S r0 r1 CA CB
              go_wp2_with fail
              go_meet
              case rel => exact ⟨_, rfl, fun _ => HJ.out, SN.out⟩
          case rest =>
          clear S
          obtain ⟨b, rfl, hb, S⟩ := hcut
          cases b with
          | false =>
            have SN := Lib.hid S
            clear S hb
            go_wp2_with fail
            go_roundw
            case rel => exact ⟨m + 1, M, by omega, by omega, by go_num, hMn, HM, SN.out⟩
            case measure => simp [intOf] <;> omega
          | true =>
            obtain ⟨i, rfl⟩ : ∃ i, j = i + 1 := ⟨j - 1, by have := hb rfl; omega⟩
            have hjs : ((i + 1 : Nat) : Int) - 1 = (i : Int) := by omega
            obtain ⟨g, rfl, hgB, hgl, hn1, d0, f0⟩ := own_getI (S.owns intE 0) (show i + 1 < M.length by omega)
            obtain ⟨g2, he, _, _, hn2, d2, f2⟩ := own_getI (S.owns intE 0) (show i < M.length by omega)
            simp only [Option.some.injEq, Addr.mk.injEq, and_true] at he
            subst he
            have HGS := Lib.hid (swap_good HM.out (show i + 1 < M.length by omega))
            have HLS := Lib.hid (show ((M.set (i + 1) (M[i]'(by omega))).set i (M[i + 1]'(by omega))).length = n by simp; exact hMn)
            obtain ⟨ca, hca⟩ : ∃ c, c = M[i + 1]'(by omega) := ⟨_, rfl⟩
            obtain ⟨cb, hcb⟩ : ∃ c, c = M[i]'(by omega) := ⟨_, rfl⟩
            rw [← hca] at d0 HGS HLS; rw [← hcb] at d2 HGS HLS
            have HL1 := Lib.hid (show i + 1 < M.length by omega)
            have HL0 := Lib.hid (show i < M.length by omega)
            have HG0 := Lib.hid hgB
            have SD := Lib.hid S.drew
            have q1 : (i : Int) < (n : Int) := by omega
            have q2 : (i : Int) + 1 < (n : Int) := by omega
            have q3 : i < n := by omega
            have q4 : i + 1 < n := by omega
            have q5 : IntKind.i64.wrap (i : Int) = (i : Int) := IntWalk.i64_in _ (by omega)
            have q6 : (0 : Int) ≤ (i : Int) + 1 := by omega
            clear hb hca hcb S hMn hn1 hn2
            go_upto_region 23 with fail
            refine wpT_region [15, 16, 17] (fun W => W.cell? ⟨g, i + 1, none⟩ = some (.int .i64 ca) ∧ W.cell? ⟨g, i, none⟩ = some (.int .i64 cb)) (by kernel_rfl) ?_
            have HS : wc.drew.cell? ⟨g, i + 1, none⟩ = some (.int .i64 ca) ∧ wc.drew.cell? ⟨g, i, none⟩ = some (.int .i64 cb) := ⟨d0, d2⟩
            refine wpT.take (i := 0) (by kernel_rfl) (by kernel_rfl) (by kernel_rfl) (by kernel_rfl) (by kernel_rfl) (fun _ => HS) ?_
            intro oi ho
            simp only [List.getElem?_toArray, List.getElem?_cons_zero, Option.some.injEq] at ho
            subst ho
            refine ⟨?_, Or.inl ⟨by rfl, ?_⟩, fun _ _ _ h => h, ?_⟩
            rotate_left 1
            · intro W hW
              try dsimp only at hW
              go_simp
              try with_reducible rfl
            try simp only [Act.put, List.setIfInBounds_toArray, List.set_cons_zero, List.set_cons_succ]
            refine wpT.take (i := 1) (by kernel_rfl) (by kernel_rfl) (by kernel_rfl) (by kernel_rfl) (by kernel_rfl) (fun _ => HS) ?_
            intro oi ho
            simp only [List.getElem?_toArray, List.getElem?_cons_succ, List.getElem?_cons_zero, Option.some.injEq] at ho
            subst ho
            refine ⟨?_, Or.inl ⟨by rfl, ?_⟩, fun _ _ _ h => h, ?_⟩
            rotate_left 1
            · intro W hW
              try dsimp only at hW
              go_simp
              try with_reducible rfl
            try simp only [Act.put, List.setIfInBounds_toArray, List.set_cons_zero, List.set_cons_succ]
            refine wpT.pure (i := 2) (by kernel_rfl) (by kernel_rfl) (by kernel_rfl) (by kernel_rfl) (by kernel_rfl) (fun _ => HS) ?_
            intro oi ho
            simp only [List.getElem?_toArray, List.getElem?_cons_succ, List.getElem?_cons_zero, Option.some.injEq] at ho
            subst ho
            refine ⟨?_, Or.inl ⟨by rfl, ?_⟩, fun _ _ _ h => h, ?_⟩
            rotate_left 1
            · intro W hW
              try dsimp only at hW
              go_simp
              try with_reducible rfl
            try simp only [Act.put, List.setIfInBounds_toArray, List.set_cons_zero, List.set_cons_succ]
            refine wpT.pure (i := 3) (by kernel_rfl) (by kernel_rfl) (by kernel_rfl) (by kernel_rfl) (by kernel_rfl) (fun _ => HS) ?_
            intro oi ho
            simp only [List.getElem?_toArray, List.getElem?_cons_succ, List.getElem?_cons_zero, Option.some.injEq] at ho
            subst ho
            refine ⟨?_, Or.inl ⟨by rfl, ?_⟩, fun _ _ _ h => h, ?_⟩
            rotate_left 1
            · intro W hW
              try dsimp only at hW
              go_simp
              try with_reducible rfl
            try simp only [Act.put, List.setIfInBounds_toArray, List.set_cons_zero, List.set_cons_succ]
            refine wpT.pure (i := 4) (by kernel_rfl) (by kernel_rfl) (by kernel_rfl) (by kernel_rfl) (by kernel_rfl) (fun _ => HS) ?_
            intro oi ho
            simp only [List.getElem?_toArray, List.getElem?_cons_succ, List.getElem?_cons_zero, Option.some.injEq] at ho
            subst ho
            refine ⟨?_, Or.inl ⟨by rfl, ?_⟩, fun _ _ _ h => h, ?_⟩
            rotate_left 1
            · intro W hW
              try dsimp only at hW
              go_simp
              try with_reducible rfl
            try simp only [Act.put, List.setIfInBounds_toArray, List.set_cons_zero, List.set_cons_succ]
            refine wpT.take (i := 5) (by kernel_rfl) (by kernel_rfl) (by kernel_rfl) (by kernel_rfl) (by kernel_rfl) (fun _ => HS) ?_
            intro oi ho
            simp only [List.getElem?_toArray, List.getElem?_cons_succ, List.getElem?_cons_zero, Option.some.injEq] at ho
            subst ho
            refine ⟨?_, Or.inl ⟨by rfl, ?_⟩, fun _ _ _ h => h, ?_⟩
            rotate_left 1
            · intro W hW
              try dsimp only at hW
              go_simp
              try with_reducible rfl
            try simp only [Act.put, List.setIfInBounds_toArray, List.set_cons_zero, List.set_cons_succ]
            refine wpT.take (i := 6) (by kernel_rfl) (by kernel_rfl) (by kernel_rfl) (by kernel_rfl) (by kernel_rfl) (fun _ => HS) ?_
            intro oi ho
            simp only [List.getElem?_toArray, List.getElem?_cons_succ, List.getElem?_cons_zero, Option.some.injEq] at ho
            subst ho
            refine ⟨?_, Or.inl ⟨by rfl, ?_⟩, fun _ _ _ h => h, ?_⟩
            rotate_left 1
            · intro W hW
              try dsimp only at hW
              go_simp
              try with_reducible rfl
            try simp only [Act.put, List.setIfInBounds_toArray, List.set_cons_zero, List.set_cons_succ]
            refine wpT.take (i := 7) (by kernel_rfl) (by kernel_rfl) (by kernel_rfl) (by kernel_rfl) (by kernel_rfl) (fun _ => HS) ?_
            intro oi ho
            simp only [List.getElem?_toArray, List.getElem?_cons_succ, List.getElem?_cons_zero, Option.some.injEq] at ho
            subst ho
            refine ⟨?_, Or.inl ⟨by rfl, ?_⟩, fun _ _ _ h => h, ?_⟩
            rotate_left 1
            · intro W hW
              try dsimp only at hW
              go_simp
              try with_reducible rfl
            try simp only [Act.put, List.setIfInBounds_toArray, List.set_cons_zero, List.set_cons_succ]
            refine wpT.take (i := 8) (by kernel_rfl) (by kernel_rfl) (by kernel_rfl) (by kernel_rfl) (by kernel_rfl) (fun _ => HS) ?_
            intro oi ho
            simp only [List.getElem?_toArray, List.getElem?_cons_succ, List.getElem?_cons_zero, Option.some.injEq] at ho
            subst ho
            refine ⟨?_, Or.inl ⟨by rfl, ?_⟩, fun _ _ _ h => h, ?_⟩
            rotate_left 1
            · intro W hW
              try dsimp only at hW
              go_simp
              try with_reducible rfl
            try simp only [Act.put, List.setIfInBounds_toArray, List.set_cons_zero, List.set_cons_succ]
            refine wpT.take (i := 9) (by kernel_rfl) (by kernel_rfl) (by kernel_rfl) (by kernel_rfl) (by kernel_rfl) (fun _ => HS) ?_
            intro oi ho
            simp only [List.getElem?_toArray, List.getElem?_cons_succ, List.getElem?_cons_zero, Option.some.injEq] at ho
            subst ho
            refine ⟨?_, Or.inl ⟨by rfl, ?_⟩, fun _ _ _ h => h, ?_⟩
            rotate_left 1
            · intro W hW
              try dsimp only at hW
              go_simp
              try with_reducible rfl
            try simp only [Act.put, List.setIfInBounds_toArray, List.set_cons_zero, List.set_cons_succ]
            refine wpT.take (i := 10) (by kernel_rfl) (by kernel_rfl) (by kernel_rfl) (by kernel_rfl) (by kernel_rfl) (fun _ => HS) ?_
            intro oi ho
            simp only [List.getElem?_toArray, List.getElem?_cons_succ, List.getElem?_cons_zero, Option.some.injEq] at ho
            subst ho
            refine ⟨?_, Or.inl ⟨by rfl, ?_⟩, fun _ _ _ h => h, ?_⟩
            rotate_left 1
            · intro W hW
              try dsimp only at hW
              go_simp
              try with_reducible rfl
            try simp only [Act.put, List.setIfInBounds_toArray, List.set_cons_zero, List.set_cons_succ]
            refine wpT.take (i := 11) (by kernel_rfl) (by kernel_rfl) (by kernel_rfl) (by kernel_rfl) (by kernel_rfl) (fun _ => HS) ?_
            intro oi ho
            simp only [List.getElem?_toArray, List.getElem?_cons_succ, List.getElem?_cons_zero, Option.some.injEq] at ho
            subst ho
            refine ⟨?_, Or.inl ⟨by rfl, ?_⟩, fun _ _ _ h => h, ?_⟩
            rotate_left 1
            · intro W hW
              try dsimp only at hW
              go_simp
              try with_reducible rfl
            try simp only [Act.put, List.setIfInBounds_toArray, List.set_cons_zero, List.set_cons_succ]
            refine wpT.take (i := 12) (by kernel_rfl) (by kernel_rfl) (by kernel_rfl) (by kernel_rfl) (by kernel_rfl) (fun _ => HS) ?_
            intro oi ho
            simp only [List.getElem?_toArray, List.getElem?_cons_succ, List.getElem?_cons_zero, Option.some.injEq] at ho
            subst ho
            refine ⟨?_, Or.inl ⟨by rfl, ?_⟩, fun _ _ _ h => h, ?_⟩
            rotate_left 1
            · intro W hW
              try dsimp only at hW
              go_simp
              try with_reducible rfl
            try simp only [Act.put, List.setIfInBounds_toArray, List.set_cons_zero, List.set_cons_succ]
            refine wpT.take (i := 13) (by kernel_rfl) (by kernel_rfl) (by kernel_rfl) (by kernel_rfl) (by kernel_rfl) (fun _ => HS) ?_
            intro oi ho
            simp only [List.getElem?_toArray, List.getElem?_cons_succ, List.getElem?_cons_zero, Option.some.injEq] at ho
            subst ho
            refine ⟨?_, Or.inl ⟨by rfl, ?_⟩, fun _ _ _ h => h, ?_⟩
            rotate_left 1
            · intro W hW
              try dsimp only at hW
              go_simp
              try with_reducible rfl
            try simp only [Act.put, List.setIfInBounds_toArray, List.set_cons_zero, List.set_cons_succ]
            refine wpT.take (i := 14) (by kernel_rfl) (by kernel_rfl) (by kernel_rfl) (by kernel_rfl) (by kernel_rfl) (fun _ => HS) ?_
            intro oi ho
            simp only [List.getElem?_toArray, List.getElem?_cons_succ, List.getElem?_cons_zero, Option.some.injEq] at ho
            subst ho
            refine ⟨?_, Or.inl ⟨by rfl, ?_⟩, fun _ _ _ h => h, ?_⟩
            rotate_left 1
            · intro W hW
              try dsimp only at hW
              go_simp
              try with_reducible rfl
            try simp only [Act.put, List.setIfInBounds_toArray, List.set_cons_zero, List.set_cons_succ]
            refine wpT.one (i := 15) (by kernel_rfl) ?_
            intro oi ho
            simp only [List.getElem?_toArray, List.getElem?_cons_succ, List.getElem?_cons_zero, Option.some.injEq] at ho
            subst ho
            intro K' hK
            have HK := Lib.hid hK
            clear hK
            go_simp
            have SF := Lib.hid (St.setI SD.out 0 rfl (j := i + 1) HL1.out cb HG0.out (by simp only [offs, offAll]))
            refine HK.out _ _ (fun h => absurd h (by decide)) ?_
            try simp only [Act.put, List.setIfInBounds_toArray, List.set_cons_zero, List.set_cons_succ]
            refine wpT.one (i := 16) (by kernel_rfl) ?_
            intro oi ho
            simp only [List.getElem?_toArray, List.getElem?_cons_succ, List.getElem?_cons_zero, Option.some.injEq] at ho
            subst ho
            intro K' hK
            have HK := Lib.hid hK
            clear hK
            go_simp
            refine HK.out _ _ (fun h => absurd h (by decide)) ?_
            try simp only [Act.put, List.setIfInBounds_toArray, List.set_cons_zero, List.set_cons_succ]
            refine wpT.one (i := 17) (by kernel_rfl) ?_
            intro oi ho
            simp only [List.getElem?_toArray, List.getElem?_cons_succ, List.getElem?_cons_zero, Option.some.injEq] at ho
            subst ho
            intro K' hK
            have HK := Lib.hid hK
            clear hK
            go_simp
            have SG := Lib.hid (St.setI SF.out 0 rfl (j := i) (by rw [List.length_set]; exact HL0.out) ca HG0.out trivial)
            refine HK.out _ _ (fun h => absurd h (by decide)) ?_
            try simp only [Act.put, List.setIfInBounds_toArray, List.set_cons_zero, List.set_cons_succ]
            refine wpT.done (by kernel_rfl) ?_
            clear HS SF SD
            go_wp2_with fail
            go_roundw
            case rel => exact ⟨i, _, by omega, by go_num, HLS.out, HGS, SG.out⟩
            case measure => simp [intOf] <;> omega
end Go.Proofs.Ytlpoedjipncbhaa
