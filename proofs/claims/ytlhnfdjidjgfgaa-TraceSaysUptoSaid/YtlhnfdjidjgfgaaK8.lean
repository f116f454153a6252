/-
  Walk: trace.Step.
-/
import Derived.Test.YtlhnfdjidjgfgaaProg
import Derived.Test.YtlhnfdjidjgfgaaTr0
import Derived.Test.YtlhnfdjidjgfgaaKe
import Derived.Test.YtlhnfdjidjgfgaaK5
import Derived.Test.YtlhnfdjidjgfgaaK6
import Derived.Test.YtlhnfdjidjgfgaaK7
import Derived.Test.YtlhnfdjidjgfgaaV4
import Derived.Test.YtlhnfdjidjgfgaaT29
import Derived.Test.YtlhnfdjidjgfgaaMp
import Derived.Deep.DeepCutAuto
import Derived.Deep.CutBlock
namespace Go.Proofs.Ytlhnfdjidjgfgaa
open Go.RowKit Go.Shelf
set_option linter.unusedVariables false
set_option maxHeartbeats 400000

def StepP (ar : List Int) (cs known : List (List Fc)) (g : Gt) (w : World) (e : Ending) (w' : World) : Prop :=
  ∃ ro rsp, e = .returned (.tuple #[.agg #[.slice ro (stepF ar cs known g).1.length ((stepF ar cs known g).1.length + rsp)], .int .i64 (stepF ar cs known g).2]) ∧ factE.Row (fun c => w.heap.size ≤ c) w' ro (stepF ar cs known g).1 ∧ Below w.heap.size w w'
theorem StepP.bad {ar : List Int} {cs known : List (List Fc)} {g : Gt} {w w' : World} {c : Int} (h : stepF ar cs known g = ([], c)) (hb : Below w.heap.size w w') : StepP ar cs known g w (.returned (.tuple #[.agg #[.slice none 0 0], .int .i64 c])) w' := by
  unfold StepP
  rw [h]
  exact ⟨none, 0, rfl, Elt.Row.nil, hb⟩
theorem code_small {ar : List Int} {fs : List Fc} (h : codeF ar fs = 0) : fs.length ≤ 6 ∧ ∀ t ∈ treesF fs, t.size ≤ 40 ∧ t.low :=
  ⟨(codeF_zero.1 h).1, fun t ht => ⟨(treeF_ok.1 ((codeF_zero.1 h).2 t ht).1).1, low_of_pre t (treeF_ok.1 ((codeF_zero.1 h).2 t ht).1).2.2⟩⟩
theorem mapC_id (fs : List Fc) : mapC (fun t => t) fs = fs := by simp [mapC]
theorem gC_at {l : List (List Fc)} {i : Int} {k : Nat} (hk : (k : Int) = i) (h : k < l.length) : gC l i = l[k] := by
  unfold gC
  rw [show i.toNat = k by omega, List.getD_eq_getElem?_getD, List.getElem?_eq_getElem h]; rfl
theorem rightF_len (a b : List Fc) (g : Gt) : (rightF a b g).1.length ≤ a.length + b.length + 1 := by
  unfold rightF
  split
  · simp
  · split
    · simp
    · split
      · simp
      · split
        · simp
        · split
          · simp
          · simp only [List.length_append, List.length_eraseIdx, List.length_cons, List.length_nil]
            split <;> split <;> omega
theorem stepF_end {ar : List Int} {cs known : List (List Fc)} {g : Gt} (h1 : ¬ (g.kind < 1 ∨ 4 < g.kind)) (h2 : ¬ (¬ inL g.a (if g.kind = 1 then cs.length else known.length) ∨ (g.kind = 3 ∧ ¬ inL g.b known.length)))
    (h3 : ¬ (g.kind = 2 ∧ (bindF g.bs).1 ≠ 0)) (h4 : ¬ (g.kind = 3 ∧ (rightF (gC known g.a) (gC known g.b) g).2 ≠ 0)) : stepF ar cs known g = if codeF ar (outF cs known g) ≠ 0 then ([], 10) else (outF cs known g, 0) := by
  unfold stepF
  rw [if_neg h1, if_neg h2, if_neg h3, if_neg h4]

set_option maxRecDepth 100000 in
set_option maxHeartbeats 8000000 in
theorem step64 (ar : List Int) (cs known : List (List Fc)) (g : Gt) (ao co ko po bo : Option Addr) (ca cc kcap pc bc : Nat) (w : World)
    (ha : intE.Row (fun b => b < w.heap.size) w ao ar) (hc : claimE.Row (fun b => b < w.heap.size) w co cs) (hk : claimE.Row (fun b => b < w.heap.size) w ko known) (hpl : intE.Row (fun b => b < w.heap.size) w po g.pl) (hb : treeE.Row (fun b => b < w.heap.size) w bo g.bs)
    (har : ar.length ≤ 1000000000) (hcn : cs.length ≤ maxLen) (hkn : known.length ≤ maxLen) (hpc : g.pl.length + pc ≤ maxLen) (hbc : g.bs.length + bc ≤ maxLen) (hC : ∀ c ∈ cs, codeF ar c = 0) (hK : ∀ c ∈ known, codeF ar c = 0) :
    Calls Try.prog 64 #[.agg #[.slice ao ar.length ca, .slice co cs.length cc], .slice ko known.length kcap, .agg #[.int .i64 g.kind, .int .i64 g.a, .int .i64 g.b, .int .i64 g.i, .int .i64 g.j, .bool g.turn, .slice po g.pl.length (g.pl.length + pc), .slice bo g.bs.length (g.bs.length + bc)]] w (StepP ar cs known g w) := by
  have HA := Lib.hid ha; have HC := Lib.hid hc; have HKR := Lib.hid hk; have HPL := Lib.hid hpl; have HB := Lib.hid hb
  have HPC := Lib.hid hpc; have HBC := Lib.hid hbc; have HCO := Lib.hid hC; have HKO := Lib.hid hK; have HAR := Lib.hid har
  have hcn' : cs.length ≤ 9223372036854775807 := by unfold maxLen at hcn; omega
  have hkn' : known.length ≤ 9223372036854775807 := by unfold maxLen at hkn; omega
  obtain ⟨bx, hbx⟩ : ∃ b, b = w.heap.size := ⟨_, rfl⟩
  have S1 := (((St.start w).box hbx.symm #[.slice ao ar.length ca, .slice co cs.length cc] 25).box (b := bx + 1) (by simp [hbx]) #[.int .i64 g.kind, .int .i64 g.a, .int .i64 g.b, .int .i64 g.i, .int .i64 g.j, .bool g.turn, .slice po g.pl.length (g.pl.length + pc), .slice bo g.bs.length (g.bs.length + bc)] 35).box (b := bx + 2) (by simp [hbx]) #[.slice none 0 0] 41
  have HBX := Lib.hid hbx
  clear ha hc hk hpl hb hcn hkn hpc hbc hC hK har
  go_enter Try.func64, Try.ntmps64
  go_upto_region 3 with fail
  rw [← hbx]
  refine S1.genC (z := bx + 3) (by simp [hbx]) ?_
  intro w1 z1 S
  clear S1 hbx
  change St w w1 [.box bx #[.slice ao ar.length ca, .slice co cs.length cc] 25, .box (bx + 1) #[.int .i64 g.kind, .int .i64 g.a, .int .i64 g.b, .int .i64 g.i, .int .i64 g.j, .bool g.turn, .slice po g.pl.length (g.pl.length + pc), .slice bo g.bs.length (g.bs.length + bc)] 35, .box (bx + 2) #[.slice none 0 0] 41] at S
  obtain ⟨l1, _⟩ := S.cell 0 1 rfl
  obtain ⟨g0, _⟩ := S.cell 1 0 rfl
  obtain ⟨g1, _⟩ := S.cell 1 1 rfl
  obtain ⟨g2, _⟩ := S.cell 1 2 rfl
  obtain ⟨F, hF⟩ : ∃ F, F = if g.kind = 1 then cs else known := ⟨_, rfl⟩
  have HF := Lib.hid hF
  clear hF
  obtain ⟨d1, hd1⟩ : ∃ d, (g.kind == 1) = d := ⟨_, rfl⟩
  go_upto_if 16 with fail
  go_cut [9] (fun t9 W => (∃ fo fc, t9 = .slice fo F.length fc ∧ claimE.Row (fun b => b < w.heap.size) w fo F) ∧ W = w1)
  case first =>
    cases d1 with
    | true =>
      have h1 : g.kind = 1 := by simpa using hd1
      have hF : F = cs := by rw [HF.out, if_pos h1]
      go_wp2_with fail
      go_meet
      case rel => exact ⟨⟨co, cc, by rw [hF], by rw [hF]; exact HC.out⟩, rfl⟩
    | false =>
      have h1 : ¬ g.kind = 1 := by simpa using hd1
      have hF : F = known := by rw [HF.out, if_neg h1]
      go_wp2_with fail
      go_meet
      case rel => exact ⟨⟨ko, kcap, by rw [hF], by rw [hF]; exact HKR.out⟩, rfl⟩
  case rest =>
  obtain ⟨⟨fo, fc, ht9, hrow⟩, hw⟩ := hcut
  replace hw := hw.symm
  subst hw
  subst ht9
  have HRW := Lib.hid hrow
  clear hrow
  have HFL := Lib.hid (show (if g.kind = 1 then cs.length else known.length) = F.length by rw [HF.out]; split <;> rfl)
  have hFl : F.length ≤ 9223372036854775807 := by rw [← HFL.out]; split <;> omega
  go_upto_region 5 with fail
  clear hd1
  go_cut [19] (fun t19 W => t19 = .bool (decide (g.kind < 1 ∨ 4 < g.kind)) ∧ W = w1)
  case first =>
    by_cases h1 : g.kind < 1
    · have HD := Lib.hid (show decide (g.kind < 1 ∨ 4 < g.kind) = true from decide_eq_true (.inl h1))
      go_wp2_with fail
      go_meet
      case rel => exact ⟨congrArg Value.bool HD.out.symm, rfl⟩
    · by_cases h2 : 4 < g.kind
      · have HD := Lib.hid (show decide (g.kind < 1 ∨ 4 < g.kind) = true from decide_eq_true (.inr h2))
        go_wp2_with fail
        go_meet
        case rel => exact ⟨congrArg Value.bool HD.out.symm, rfl⟩
      · have HD := Lib.hid (show decide (g.kind < 1 ∨ 4 < g.kind) = false from decide_eq_false (fun h => h.elim h1 h2))
        go_wp2_with fail
        go_meet
        case rel => exact ⟨congrArg Value.bool HD.out.symm, rfl⟩
  case rest =>
  obtain ⟨ht19, hw⟩ := hcut
  replace hw := hw.symm
  subst hw
  subst ht19
  by_cases hr : g.kind < 1 ∨ 4 < g.kind
  · have HD := Lib.hid (show stepF ar cs known g = ([], 4) by unfold stepF; rw [if_pos hr])
    have hd : decide (g.kind < 1 ∨ 4 < g.kind) = true := decide_eq_true hr
    rw [hd]
    obtain ⟨r0, r1⟩ := S.one 2
    have SG := Lib.hid (S.set1 2 rfl (.slice none 0 0) (by have := HBX.out; omega) (by simp only [offs, offAll, Fct.box, and_true]; omega))
    have hl2 := S.lt 2
    clear S
    go_wp2_with fail
    refine bodyPost_ret (v := .tuple #[.agg #[.slice none 0 0], .int .i64 4]) ?_ rfl ?_
    · obtain ⟨q0, _⟩ := SG.out.one 2
      simp [results, Try.results64, go_sem, q0]
    · exact StepP.bad HD.out SG.out.bel
  have hd : decide (g.kind < 1 ∨ 4 < g.kind) = false := decide_eq_false hr
  rw [hd]
  have HR := Lib.hid hr
  clear hd hr
  go_upto_region 7 with fail
  go_cut [29] (fun t29 W => t29 = .bool (decide (¬ inL g.a F.length)) ∧ W = w1)
  case first =>
    have C1 := step108 g.a F.length fc fo w1 hFl
    by_cases h1 : inL g.a F.length
    · rw [decide_eq_true h1] at C1
      have HC1 := Lib.hid C1
      have HD := Lib.hid (show decide (¬ inL g.a F.length) = false from decide_eq_false (fun h => h h1))
      clear C1 h1
      go_wp2_with fail
      refine HC1.out.mono ?_
      rintro e W ⟨rfl, hW⟩
      replace hW := hW.symm
      subst hW
      go_wp2_with fail
      go_meet
      case rel => exact ⟨congrArg Value.bool HD.out.symm, rfl⟩
    · rw [decide_eq_false h1] at C1
      have HC1 := Lib.hid C1
      have HD := Lib.hid (show decide (¬ inL g.a F.length) = true from decide_eq_true h1)
      clear C1 h1
      go_wp2_with fail
      refine HC1.out.mono ?_
      rintro e W ⟨rfl, hW⟩
      replace hW := hW.symm
      subst hW
      go_wp2_with fail
      go_meet
      case rel => exact ⟨congrArg Value.bool HD.out.symm, rfl⟩
  case rest =>
  obtain ⟨ht29, hw⟩ := hcut
  replace hw := hw.symm
  subst hw
  subst ht29
  by_cases hi : ¬ inL g.a F.length
  · have HD := Lib.hid (show stepF ar cs known g = ([], 3) by unfold stepF; rw [if_neg HR.out, if_pos (by rw [HFL.out]; exact .inl hi)])
    have hd : decide (¬ inL g.a F.length) = true := decide_eq_true hi
    rw [hd]
    clear hi
    obtain ⟨r0, r1⟩ := S.one 2
    have SG := Lib.hid (S.set1 2 rfl (.slice none 0 0) (by have := HBX.out; omega) (by simp only [offs, offAll, Fct.box, and_true]; omega))
    have hl2 := S.lt 2
    clear S
    go_wp2_with fail
    refine bodyPost_ret (v := .tuple #[.agg #[.slice none 0 0], .int .i64 3]) ?_ rfl ?_
    · obtain ⟨q0, _⟩ := SG.out.one 2
      simp [results, Try.results64, go_sem, q0]
    · exact StepP.bad HD.out SG.out.bel
  have hd : decide (¬ inL g.a F.length) = false := decide_eq_false hi
  rw [hd]
  have hia : inL g.a F.length := Decidable.not_not.1 hi
  clear hd hi
  go_upto_if 29 with fail
  go_cut [29] (fun t29 W => t29 = .bool (decide (g.kind = 3 ∧ ¬ inL g.b known.length)) ∧ W = w1)
  case first =>
    have C2 := step108 g.b known.length kcap ko w1 hkn'
    by_cases h3 : g.kind = 3
    · have hb3 : (g.kind == 3) = true := by simp [h3]
      by_cases h2 : inL g.b known.length
      · rw [decide_eq_true h2] at C2
        have HC2 := Lib.hid C2
        have HD := Lib.hid (show decide (g.kind = 3 ∧ ¬ inL g.b known.length) = false from decide_eq_false (fun h => h.2 h2))
        clear C2 h2 h3
        go_wp2_with fail
        refine HC2.out.mono ?_
        rintro e W ⟨rfl, hW⟩
        replace hW := hW.symm
        subst hW
        go_wp2_with fail
        go_meet
        case rel => exact ⟨congrArg Value.bool HD.out.symm, rfl⟩
      · rw [decide_eq_false h2] at C2
        have HC2 := Lib.hid C2
        have HD := Lib.hid (show decide (g.kind = 3 ∧ ¬ inL g.b known.length) = true from decide_eq_true ⟨h3, h2⟩)
        clear C2 h2 h3
        go_wp2_with fail
        refine HC2.out.mono ?_
        rintro e W ⟨rfl, hW⟩
        replace hW := hW.symm
        subst hW
        go_wp2_with fail
        go_meet
        case rel => exact ⟨congrArg Value.bool HD.out.symm, rfl⟩
    · have hb3 : (g.kind == 3) = false := by simp [h3]
      have HD := Lib.hid (show decide (g.kind = 3 ∧ ¬ inL g.b known.length) = false from decide_eq_false (fun h => h3 h.1))
      clear h3 C2
      go_wp2_with fail
      go_meet
      case rel => exact ⟨congrArg Value.bool HD.out.symm, rfl⟩
  case rest =>
  obtain ⟨ht29, hw⟩ := hcut
  replace hw := hw.symm
  subst hw
  subst ht29
  by_cases hi : g.kind = 3 ∧ ¬ inL g.b known.length
  · have HD := Lib.hid (show stepF ar cs known g = ([], 3) by unfold stepF; rw [if_neg HR.out, if_pos (.inr hi)])
    have hd : decide (g.kind = 3 ∧ ¬ inL g.b known.length) = true := decide_eq_true hi
    rw [hd]
    clear hi
    obtain ⟨r0, r1⟩ := S.one 2
    have SG := Lib.hid (S.set1 2 rfl (.slice none 0 0) (by have := HBX.out; omega) (by simp only [offs, offAll, Fct.box, and_true]; omega))
    have hl2 := S.lt 2
    clear S
    go_wp2_with fail
    refine bodyPost_ret (v := .tuple #[.agg #[.slice none 0 0], .int .i64 3]) ?_ rfl ?_
    · obtain ⟨q0, _⟩ := SG.out.one 2
      simp [results, Try.results64, go_sem, q0]
    · exact StepP.bad HD.out SG.out.bel
  have hd : decide (g.kind = 3 ∧ ¬ inL g.b known.length) = false := decide_eq_false hi
  rw [hd]
  have HI := Lib.hid (show ¬ (¬ inL g.a F.length ∨ (g.kind = 3 ∧ ¬ inL g.b known.length)) from fun h => h.elim (fun h => h hia) hi)
  have HIA := Lib.hid hia
  obtain ⟨hia0, hia1⟩ := hia
  obtain ⟨A, hA⟩ : ∃ A : Nat, (A : Int) = g.a := ⟨g.a.toNat, by omega⟩
  have hAF : A < F.length := by omega
  have hAi : (A : Int) < (F.length : Int) := by omega
  obtain ⟨fb, foff, kf, sf, rfl, hpb, c0, hfr, hml⟩ := HRW.out.claim hAF
  obtain ⟨C, hCe⟩ : ∃ C, C = F[A] := ⟨_, rfl⟩
  have HCF := Lib.hid (show C ∈ F by rw [hCe]; exact List.getElem_mem hAF)
  have HCE1 := Lib.hid (show g.kind = 1 → gC cs g.a = C by
    intro h
    have hF : F = cs := by rw [HF.out, if_pos h]
    subst hF
    rw [hCe, gC_at hA hAF])
  have HCE2 := Lib.hid (show g.kind ≠ 1 → gC known g.a = C by
    intro h
    have hF : F = known := by rw [HF.out, if_neg h]
    subst hF
    rw [hCe, gC_at hA hAF])
  rw [← hCe] at c0 hfr
  replace c0 := Below.cellOf S.bel c0
  have HCS := Lib.hid (code_small (show codeF ar C = 0 by
    have h := HCF.out
    rw [HF.out] at h
    split at h
    · exact HCO.out C h
    · exact HKO.out C h))
  have HFR := Lib.hid hfr
  have HA1 := Lib.hid hA
  rw [← hA] at g1
  clear hfr hml hCe hd hi hA hia0 hia1 HCF hpb
  obtain ⟨b10, hb10⟩ : ∃ b, b = w1.heap.size := ⟨_, rfl⟩
  have S2 := S.box hb10.symm #[.slice kf C.length (C.length + sf)] 41
  have hz2 : b10 + 1 ≤ (w1.alloc (.cells #[.slice kf C.length (C.length + sf)] 41)).heap.size := by simp [hb10]
  have HB10 := Lib.hid (show bx + 3 ≤ b10 by omega)
  go_upto_region 11 with fail
  rw [← hb10]
  refine S2.genC (z := b10 + 1) hz2 ?_
  clear S S2 hz2 l1 g0 g1 g2 hb10 c0
  intro w2 z2 S
  change St w w2 [.box bx #[.slice ao ar.length ca, .slice co cs.length cc] 25, .box (bx + 1) #[.int .i64 g.kind, .int .i64 g.a, .int .i64 g.b, .int .i64 g.i, .int .i64 g.j, .bool g.turn, .slice po g.pl.length (g.pl.length + pc), .slice bo g.bs.length (g.bs.length + bc)] 35, .box (bx + 2) #[.slice none 0 0] 41, .box b10 #[.slice kf C.length (C.length + sf)] 41] at S
  obtain ⟨g0, _⟩ := S.cell 1 0 rfl
  go_upto_block 1 with fail
  obtain ⟨O, hO⟩ : ∃ O, O = outF cs known g := ⟨_, rfl⟩
  obtain ⟨KC, hKC⟩ : ∃ KC : Int, KC = if g.kind = 3 then (rightF (gC known g.a) (gC known g.b) g).2 else 0 := ⟨_, rfl⟩
  have HO := Lib.hid hO
  have HKC := Lib.hid hKC
  clear hO hKC
  go_cut [11] (fun t11 W => ∃ oo rsp, t11 = .int .i64 KC ∧ b10 + 1 ≤ W.heap.size ∧ St w W [.box bx #[.slice ao ar.length ca, .slice co cs.length cc] 25, .box (bx + 1) #[.int .i64 g.kind, .int .i64 g.a, .int .i64 g.b, .int .i64 g.i, .int .i64 g.j, .bool g.turn, .slice po g.pl.length (g.pl.length + pc), .slice bo g.bs.length (g.bs.length + bc)] 35, .box (bx + 2) #[.slice none 0 0] 41, .box b10 #[.slice oo O.length (O.length + rsp)] 41] ∧ factE.Row (fun b => b < w.heap.size ∨ b10 < b) W oo O ∧ O.length ≤ 1000 ∧ Hid (¬ (g.kind = 2 ∧ (bindF g.bs).1 ≠ 0)))
  case first =>
    have hw0 : bx + 3 ≤ b10 := HB10.out
    by_cases h2 : g.kind = 2
    · have hb2 : (g.kind == 2) = true := by simp [h2]
      have HO2 := Lib.hid (show O = subC g.bs C by rw [HO.out]; unfold outF; rw [if_neg (by omega), if_pos h2, HCE2.out (by omega)])
      have HK2 := Lib.hid (show KC = 0 by rw [HKC.out, if_neg (by omega)])
      have H2 := Lib.hid h2
      obtain ⟨g7, _⟩ := S.cell 1 7 rfl
      clear h2
      go_wp2_with fail
      refine (S.faultF (bind17 g.bs bo _ _ w2 rfl (HB.out.kept S.bel).rowP.at)).mono ?_
      rintro e w3 ⟨c, d, rfl, hcd, z3, S3⟩
      obtain ⟨b12, hb12⟩ : ∃ b, b = w3.heap.size := ⟨_, rfl⟩
      have S4 := S3.box hb12.symm #[.int .i64 c, .int .i64 d] 29
      have z4 : b12 + 1 ≤ (w3.alloc (.cells #[.int .i64 c, .int .i64 d] 29)).heap.size := by simp [hb12]
      have HB12 := Lib.hid (show b10 + 1 ≤ b12 by omega)
      clear S S3 g0 g7
      by_cases hc : c = 0
      · have hcb : (c != 0) = false := by simp [hc]
        have HBZ := Lib.hid (show (bindF g.bs).1 = 0 by rw [hcd.out]; exact hc)
        have HBK := Lib.hid (bindF_ok HBZ.out)
        have HBS := Lib.hid (bind_size HBZ.out)
        obtain ⟨⟨x0, _⟩, x1, _⟩ := S4.two 4
        obtain ⟨y0, y1⟩ := S4.one 3
        clear hc
        go_wp2_with fail
        rw [← hb12]
        refine S4.gen (z := b12 + 1) z4 ?_
        intro w4 z5 S5
        clear S4 z4 x0 x1 y0 y1 hb12
        have HCL := Lib.hid (Below.cellOf (w := w4) (w' := w4) (Below.refl _ _) (S5.cell 1 7 rfl).1)
        refine (mapAny (fun t => t.sub g.bs) 110 #[.pointer (some ⟨bx + 1, 0, none⟩)] (enters_of Try.func110 (by kernel_rfl) rfl) C (fun b => b < w.heap.size) (fun b => b < w.heap.size) kf sf w4 (fun b h => Nat.lt_of_lt_of_le h S5.bel.size) (fun b h => Nat.lt_of_lt_of_le h S5.bel.size) (HFR.out.kept S5.bel) (by have := HCS.out.1; omega) (fun W v t ht hb hv => step110 t g.bs (fun b => b < w.heap.size) v bo (g.bs.length + bc) (bx + 1) W (fun b h => Nat.lt_of_lt_of_le h (Below.step S5.bel hb).size) (by have := HBK.out.1; omega) hv ((HB.out.kept (Below.step S5.bel hb)).rowP) (HCS.out.2 t ht).2 (by have := (HCS.out.2 t ht).1; omega) (fun i hi => by have := HBS.out i hi; omega) (Below.cellOf hb HCL.out))).mono ?_
        rintro e w6 ⟨ro, rsp, rfl, hro, hb6⟩
        have S6 := S5.step hb6
        have hl := S6.lt 3
        obtain ⟨y0, y1⟩ := S6.one 3
        have h12 := HB12.out
        have hbx := HBX.out
        have SG := Lib.hid ((S6.set1 3 rfl (.slice ro (subC g.bs C).length ((subC g.bs C).length + rsp)) (by omega) (by simp only [fsnoc, offs, offAll, Fct.box, and_true]; omega)).pick [0, 1, 2, 3])
        have HRO := Lib.hid (show factE.Row (fun b => b < w.heap.size ∨ b10 < b) (w6.setCell ⟨b10, 0, none⟩ (.slice ro (subC g.bs C).length ((subC g.bs C).length + rsp))) ro (subC g.bs C) from hro.keep (fun b h1 h2 => ⟨Below.heap_setCell _ _ _ _ (by show b ≠ b10; rcases h1 with h1 | h1; have h1' : b < w.heap.size := h1; omega; omega), by rcases h1 with h1 | h1; exact .inl h1; exact .inr (by omega)⟩))
        have hz6 : b10 + 1 ≤ (w6.setCell ⟨b10, 0, none⟩ (.slice ro (subC g.bs C).length ((subC g.bs C).length + rsp))).heap.size := by simp; omega
        have HLN := Lib.hid (show (subC g.bs C).length ≤ 1000 by have := HCS.out.1; simp [subC]; omega)
        change Hid (St w (w6.setCell ⟨b10, 0, none⟩ (.slice ro (mapC (fun t => t.sub g.bs) C).length ((mapC (fun t => t.sub g.bs) C).length + rsp))) _) at SG
        change Hid (factE.Row _ (w6.setCell ⟨b10, 0, none⟩ (.slice ro (mapC (fun t => t.sub g.bs) C).length ((mapC (fun t => t.sub g.bs) C).length + rsp))) ro _) at HRO
        change b10 + 1 ≤ (w6.setCell ⟨b10, 0, none⟩ (.slice ro (mapC (fun t => t.sub g.bs) C).length ((mapC (fun t => t.sub g.bs) C).length + rsp))).heap.size at hz6
        clear S5 S6 hro hb6 hbx h12
        go_wp2_with fail
        go_meet
        case rel => exact ⟨ro, rsp, by rw [HK2.out], hz6, by rw [HO2.out]; exact SG.out, by rw [HO2.out]; exact HRO.out, by rw [HO2.out]; exact HLN.out, Lib.hid (fun h => h.2 HBZ.out)⟩
      · have hcb : (c != 0) = true := by simp [hc]
        have HD := Lib.hid (show stepF ar cs known g = ([], c) by
          unfold stepF
          rw [if_neg HR.out, if_neg (by rw [HFL.out]; exact HI.out), if_pos ⟨H2.out, by rw [hcd.out]; exact hc⟩, hcd.out])
        obtain ⟨⟨x0, _⟩, x1, _⟩ := S4.two 4
        obtain ⟨r0, r1⟩ := S4.one 2
        have SG := Lib.hid (S4.set1 2 rfl (.slice none 0 0) (by have := HBX.out; omega) (by simp only [fsnoc, offs, offAll, Fct.box, and_true]; have := HB12.out; omega))
        have hl2 := S4.lt 2
        clear S4 hc
        go_wp2_with fail
        go_region
        all_goals (try go_wp2_with fail)
        all_goals
          refine bodyPost_ret (v := .tuple #[.agg #[.slice none 0 0], .int .i64 c]) ?_ rfl ?_
          · obtain ⟨q0, _⟩ := SG.out.one 2
            simp [results, Try.results64, go_sem, q0]
          · exact StepP.bad HD.out SG.out.drew.bel
    · have hb2 : (g.kind == 2) = false := by simp [h2]
      have HN2 := Lib.hid (show ¬ (g.kind = 2 ∧ (bindF g.bs).1 ≠ 0) from fun h => h2 h.1)
      by_cases h3 : g.kind = 3
      · have hb3 : (g.kind == 3) = true := by simp [h3]
        have hFk : F = known := by rw [HF.out, if_neg (by omega)]
        have hAK : A < known.length := by rw [← hFk]; exact hAF
        have hbl : inL g.b known.length := Classical.byContradiction fun h => HI.out (.inr ⟨h3, h⟩)
        obtain ⟨hbl0, hbl1⟩ := hbl
        obtain ⟨B, hBB⟩ : ∃ B : Nat, (B : Int) = g.b := ⟨g.b.toNat, by omega⟩
        have hBK : B < known.length := by omega
        obtain ⟨kb, koff, ka, sa, hko, _, ca0, hra, _⟩ := HKR.out.claim hAK
        obtain ⟨kb2, koff2, kc, sc, hko2, _, cb0, hrb, _⟩ := HKR.out.claim hBK
        rw [hko] at hko2
        simp only [Option.some.injEq, Addr.mk.injEq] at hko2
        obtain ⟨rfl, rfl, _⟩ := hko2
        subst hko
        obtain ⟨CA, hCA⟩ : ∃ X, X = known[A] := ⟨_, rfl⟩
        obtain ⟨CB, hCB⟩ : ∃ X, X = known[B] := ⟨_, rfl⟩
        have HSA := Lib.hid (code_small (show codeF ar CA = 0 from HKO.out CA (by rw [hCA]; exact List.getElem_mem hAK)))
        have HSB := Lib.hid (code_small (show codeF ar CB = 0 from HKO.out CB (by rw [hCB]; exact List.getElem_mem hBK)))
        have HO3 := Lib.hid (show O = (rightF CA CB g).1 by rw [HO.out]; unfold outF; rw [if_neg (by omega), if_neg h2, if_pos h3, gC_at HA1.out hAK, gC_at hBB hBK, hCA, hCB])
        have HK3 := Lib.hid (show KC = (rightF CA CB g).2 by rw [HKC.out, if_pos h3, gC_at HA1.out hAK, gC_at hBB hBK, hCA, hCB])
        rw [← hCA] at ca0 hra
        rw [← hCB] at cb0 hrb
        have HRA := Lib.hid hra; have HRB := Lib.hid hrb; have HB1 := Lib.hid hBB
        have ha0 := Below.cellOf S.bel ca0
        have hb0 := Below.cellOf S.bel cb0
        have CPL := Lib.hid (show ∀ W, Below w.heap.size w W → CellsAt W po g.pl.length (fun j => .int .i64 (gI g.pl j)) from fun W hb j hj => by
          obtain ⟨b, off, e, _, h4⟩ := (HPL.out.kept hb).int hj
          exact ⟨b, off, e, by rw [h4]; show _ = some (Value.int .i64 (g.pl.getD j 0)); rw [List.getD_eq_getElem?_getD, List.getElem?_eq_getElem hj]; rfl⟩)
        have g1 := (S.cell 1 1 rfl).1
        have g2 := (S.cell 1 2 rfl).1
        have g3 := (S.cell 1 3 rfl).1
        have g4 := (S.cell 1 4 rfl).1
        have g5 := (S.cell 1 5 rfl).1
        have g6 := (S.cell 1 6 rfl).1
        have g7 := (S.cell 1 7 rfl).1
        have FC := Lib.hid (fun W (hb : Below w2.heap.size w2 W) => (⟨Below.cellOf hb g0, by have h := Below.cellOf hb g1; rw [HA1.out]; exact h, by have h := Below.cellOf hb g2; rw [HB1.out]; exact h, Below.cellOf hb g3, Below.cellOf hb g4, Below.cellOf hb g5, Below.cellOf hb g6, Below.cellOf hb g7, Below.cellOf hb ha0, Below.cellOf hb hb0⟩ : (fun W => W.cell? ⟨bx + 1, 0, none⟩ = some (.int .i64 g.kind) ∧ W.cell? ⟨bx + 1, 1, none⟩ = some (.int .i64 (A : Int)) ∧ W.cell? ⟨bx + 1, 2, none⟩ = some (.int .i64 (B : Int)) ∧ W.cell? ⟨bx + 1, 3, none⟩ = some (.int .i64 g.i) ∧ W.cell? ⟨bx + 1, 4, none⟩ = some (.int .i64 g.j) ∧ W.cell? ⟨bx + 1, 5, none⟩ = some (.bool g.turn) ∧ W.cell? ⟨bx + 1, 6, none⟩ = some (.slice po g.pl.length (g.pl.length + pc)) ∧ W.cell? ⟨bx + 1, 7, none⟩ = some (.slice bo g.bs.length (g.bs.length + bc)) ∧ W.cell? ⟨kb, koff + A, none⟩ = some (.slice ka CA.length (CA.length + sa)) ∧ W.cell? ⟨kb, koff + B, none⟩ = some (.slice kc CB.length (CB.length + sc))) W))
        have SD := S.drew
        have hAKi : (A : Int) < (known.length : Int) := by omega
        have hBKi : (B : Int) < (known.length : Int) := by omega
        clear hFk h2 h3 hra hrb ca0 cb0 ha0 hb0 g1 g2 g3 g4 g5 g6 g7 hBB hCA hCB hbl0 hbl1 S
        go_upto_region 18 with fail
        refine wpH_region [13, 14, 15, 16] (fun W => W.cell? ⟨bx + 1, 0, none⟩ = some (.int .i64 g.kind) ∧ W.cell? ⟨bx + 1, 1, none⟩ = some (.int .i64 (A : Int)) ∧ W.cell? ⟨bx + 1, 2, none⟩ = some (.int .i64 (B : Int)) ∧ W.cell? ⟨bx + 1, 3, none⟩ = some (.int .i64 g.i) ∧ W.cell? ⟨bx + 1, 4, none⟩ = some (.int .i64 g.j) ∧ W.cell? ⟨bx + 1, 5, none⟩ = some (.bool g.turn) ∧ W.cell? ⟨bx + 1, 6, none⟩ = some (.slice po g.pl.length (g.pl.length + pc)) ∧ W.cell? ⟨bx + 1, 7, none⟩ = some (.slice bo g.bs.length (g.bs.length + bc)) ∧ W.cell? ⟨kb, koff + A, none⟩ = some (.slice ka CA.length (CA.length + sa)) ∧ W.cell? ⟨kb, koff + B, none⟩ = some (.slice kc CB.length (CB.length + sc))) (by kernel_rfl) ?_
        have HS := FC.out _ (Below.refl _ w2).drew
        refine wpH.take (i := 0) (by kernel_rfl) (by kernel_rfl) (by kernel_rfl) (by kernel_rfl) (by kernel_rfl) HS ?_
        intro oi ho
        simp only [List.getElem?_toArray, List.getElem?_cons_zero, Option.some.injEq] at ho
        subst ho
        refine ⟨?_, Or.inl ⟨by rfl, ?_⟩, fun _ _ _ h => h, ?_⟩
        rotate_left 1
        · intro W hW
          try dsimp only at hW
          go_simp
          try with_reducible rfl
        simp only [Act.put, List.setIfInBounds_toArray, List.set_cons_zero, List.set_cons_succ]
        refine wpH.take (i := 1) (by kernel_rfl) (by kernel_rfl) (by kernel_rfl) (by kernel_rfl) (by kernel_rfl) HS ?_
        intro oi ho
        simp only [List.getElem?_toArray, List.getElem?_cons_succ, List.getElem?_cons_zero, Option.some.injEq] at ho
        subst ho
        refine ⟨?_, Or.inl ⟨by rfl, ?_⟩, fun _ _ _ h => h, ?_⟩
        rotate_left 1
        · intro W hW
          try dsimp only at hW
          go_simp
          try with_reducible rfl
        simp only [Act.put, List.setIfInBounds_toArray, List.set_cons_zero, List.set_cons_succ]
        refine wpH.take (i := 2) (by kernel_rfl) (by kernel_rfl) (by kernel_rfl) (by kernel_rfl) (by kernel_rfl) HS ?_
        intro oi ho
        simp only [List.getElem?_toArray, List.getElem?_cons_succ, List.getElem?_cons_zero, Option.some.injEq] at ho
        subst ho
        refine ⟨?_, Or.inl ⟨by rfl, ?_⟩, fun _ _ _ h => h, ?_⟩
        rotate_left 1
        · intro W hW
          try dsimp only at hW
          go_simp
          try with_reducible rfl
        simp only [Act.put, List.setIfInBounds_toArray, List.set_cons_zero, List.set_cons_succ]
        refine wpH.take (i := 3) (by kernel_rfl) (by kernel_rfl) (by kernel_rfl) (by kernel_rfl) (by kernel_rfl) HS ?_
        intro oi ho
        simp only [List.getElem?_toArray, List.getElem?_cons_succ, List.getElem?_cons_zero, Option.some.injEq] at ho
        subst ho
        refine ⟨?_, Or.inl ⟨by rfl, ?_⟩, fun _ _ _ h => h, ?_⟩
        rotate_left 1
        · intro W hW
          try dsimp only at hW
          go_simp
          try with_reducible rfl
        simp only [Act.put, List.setIfInBounds_toArray, List.set_cons_zero, List.set_cons_succ]
        refine wpH.take (i := 4) (by kernel_rfl) (by kernel_rfl) (by kernel_rfl) (by kernel_rfl) (by kernel_rfl) HS ?_
        intro oi ho
        simp only [List.getElem?_toArray, List.getElem?_cons_succ, List.getElem?_cons_zero, Option.some.injEq] at ho
        subst ho
        refine ⟨?_, Or.inl ⟨by rfl, ?_⟩, fun _ _ _ h => h, ?_⟩
        rotate_left 1
        · intro W hW
          try dsimp only at hW
          go_simp
          try with_reducible rfl
        simp only [Act.put, List.setIfInBounds_toArray, List.set_cons_zero, List.set_cons_succ]
        refine wpH.take (i := 5) (by kernel_rfl) (by kernel_rfl) (by kernel_rfl) (by kernel_rfl) (by kernel_rfl) HS ?_
        intro oi ho
        simp only [List.getElem?_toArray, List.getElem?_cons_succ, List.getElem?_cons_zero, Option.some.injEq] at ho
        subst ho
        refine ⟨?_, Or.inl ⟨by rfl, ?_⟩, fun _ _ _ h => h, ?_⟩
        rotate_left 1
        · intro W hW
          try dsimp only at hW
          go_simp
          try with_reducible rfl
        simp only [Act.put, List.setIfInBounds_toArray, List.set_cons_zero, List.set_cons_succ]
        refine wpH.take (i := 6) (by kernel_rfl) (by kernel_rfl) (by kernel_rfl) (by kernel_rfl) (by kernel_rfl) HS ?_
        intro oi ho
        simp only [List.getElem?_toArray, List.getElem?_cons_succ, List.getElem?_cons_zero, Option.some.injEq] at ho
        subst ho
        refine ⟨?_, Or.inl ⟨by rfl, ?_⟩, fun _ _ _ h => h, ?_⟩
        rotate_left 1
        · intro W hW
          try dsimp only at hW
          go_simp
          try with_reducible rfl
        simp only [Act.put, List.setIfInBounds_toArray, List.set_cons_zero, List.set_cons_succ]
        refine wpH.take (i := 7) (by kernel_rfl) (by kernel_rfl) (by kernel_rfl) (by kernel_rfl) (by kernel_rfl) HS ?_
        intro oi ho
        simp only [List.getElem?_toArray, List.getElem?_cons_succ, List.getElem?_cons_zero, Option.some.injEq] at ho
        subst ho
        refine ⟨?_, Or.inl ⟨by rfl, ?_⟩, fun _ _ _ h => h, ?_⟩
        rotate_left 1
        · intro W hW
          try dsimp only at hW
          go_simp
          try with_reducible rfl
        simp only [Act.put, List.setIfInBounds_toArray, List.set_cons_zero, List.set_cons_succ]
        refine wpH.take (i := 8) (by kernel_rfl) (by kernel_rfl) (by kernel_rfl) (by kernel_rfl) (by kernel_rfl) HS ?_
        intro oi ho
        simp only [List.getElem?_toArray, List.getElem?_cons_succ, List.getElem?_cons_zero, Option.some.injEq] at ho
        subst ho
        refine ⟨?_, Or.inl ⟨by rfl, ?_⟩, fun _ _ _ h => h, ?_⟩
        rotate_left 1
        · intro W hW
          try dsimp only at hW
          go_simp
          try with_reducible rfl
        simp only [Act.put, List.setIfInBounds_toArray, List.set_cons_zero, List.set_cons_succ]
        refine wpH.take (i := 9) (by kernel_rfl) (by kernel_rfl) (by kernel_rfl) (by kernel_rfl) (by kernel_rfl) HS ?_
        intro oi ho
        simp only [List.getElem?_toArray, List.getElem?_cons_succ, List.getElem?_cons_zero, Option.some.injEq] at ho
        subst ho
        refine ⟨?_, Or.inl ⟨by rfl, ?_⟩, fun _ _ _ h => h, ?_⟩
        rotate_left 1
        · intro W hW
          try dsimp only at hW
          go_simp
          try with_reducible rfl
        simp only [Act.put, List.setIfInBounds_toArray, List.set_cons_zero, List.set_cons_succ]
        refine wpH.take (i := 10) (by kernel_rfl) (by kernel_rfl) (by kernel_rfl) (by kernel_rfl) (by kernel_rfl) HS ?_
        intro oi ho
        simp only [List.getElem?_toArray, List.getElem?_cons_succ, List.getElem?_cons_zero, Option.some.injEq] at ho
        subst ho
        refine ⟨?_, Or.inl ⟨by rfl, ?_⟩, fun _ _ _ h => h, ?_⟩
        rotate_left 1
        · intro W hW
          try dsimp only at hW
          go_simp
          try with_reducible rfl
        simp only [Act.put, List.setIfInBounds_toArray, List.set_cons_zero, List.set_cons_succ]
        refine wpH.one (i := 11) (by kernel_rfl) ?_
        intro oi ho
        simp only [List.getElem?_toArray, List.getElem?_cons_succ, List.getElem?_cons_zero, Option.some.injEq] at ho
        subst ho
        intro K hK
        have HK := Lib.hid hK
        have HSH := Lib.hid HS
        clear hK HS
        go_simp
        go_at_call 111
        rw [HA1.out, HB1.out]
        refine (right111 CA CB g (fun b => b < w.heap.size) ka kc po bo sa sc (g.pl.length + pc) (g.bs.length + bc) _ (fun b h => Nat.lt_of_lt_of_le h SD.bel.size) (HRA.out.kept SD.bel) (HRB.out.kept SD.bel) (fun j hj => (CPL.out _ SD.bel) j hj) (Nat.le_add_right _ _) (by have := HPC.out; unfold maxLen at this; omega) (by have := HSA.out.1; omega) (by have := HSB.out.1; omega) (fun t ht => by have := (HSA.out.2 t ht).1; omega) (fun t ht => by have := (HSB.out.2 t ht).1; omega)).mono ?_
        rintro e w3 ⟨ro, rsp, rfl, hro, hb3⟩
        have S3 := SD.step hb3
        have HRO := Lib.hid hro
        have HB3 := Lib.hid (Below.step (Below.refl _ w2).drew hb3)
        clear hro hb3
        dsimp only
        refine HK.out _ _ (fun _ => FC.out _ HB3.out) ?_
        have HS := FC.out _ HB3.out
        try simp only [Act.put, List.setIfInBounds_toArray, List.set_cons_zero, List.set_cons_succ]
        refine wpH.take (i := 12) (by kernel_rfl) (by kernel_rfl) (by kernel_rfl) (by kernel_rfl) (by kernel_rfl) HS ?_
        intro oi ho
        simp only [List.getElem?_toArray, List.getElem?_cons_succ, List.getElem?_cons_zero, Option.some.injEq] at ho
        subst ho
        refine ⟨?_, Or.inl ⟨by rfl, ?_⟩, fun _ _ _ h => h, ?_⟩
        rotate_left 1
        · intro W hW
          try dsimp only at hW
          go_simp
          try with_reducible rfl
        simp only [Act.put, List.setIfInBounds_toArray, List.set_cons_zero, List.set_cons_succ]
        refine wpH.two (i := 13) (j := 14) (by kernel_rfl) ?_ ?_
        · intro oi ho
          simp only [List.getElem?_toArray, List.getElem?_cons_succ, List.getElem?_cons_zero, Option.some.injEq] at ho
          subst ho
          intro K hK
          have HK := Lib.hid hK
          clear hK
          go_simp
          refine HK.out _ _ (fun h => absurd h (by decide)) ?_
          try simp only [Act.put, List.setIfInBounds_toArray, List.set_cons_zero, List.set_cons_succ]
          refine wpH.two (i := 14) (j := 15) (by kernel_rfl) ?_ ?_
          · intro oi ho
            simp only [List.getElem?_toArray, List.getElem?_cons_succ, List.getElem?_cons_zero, Option.some.injEq] at ho
            subst ho
            intro K hK
            have HK := Lib.hid hK
            clear hK
            go_simp
            refine HK.out _ _ (fun h => absurd h (by decide)) ?_
            try simp only [Act.put, List.setIfInBounds_toArray, List.set_cons_zero, List.set_cons_succ]
            refine wpH.one (i := 15) (by kernel_rfl) ?_
            intro oi ho
            simp only [List.getElem?_toArray, List.getElem?_cons_succ, List.getElem?_cons_zero, Option.some.injEq] at ho
            subst ho
            intro K hK
            have HK := Lib.hid hK
            clear hK
            obtain ⟨e0, e1⟩ := S3.one 3
            have hl3 := S3.lt 3
            go_simp
            refine HK.out _ _ (fun h => absurd h (by decide)) ?_
            try simp only [Act.put, List.setIfInBounds_toArray, List.set_cons_zero, List.set_cons_succ]
            refine wpH.one (i := 16) (by kernel_rfl) ?_
            intro oi ho
            simp only [List.getElem?_toArray, List.getElem?_cons_succ, List.getElem?_cons_zero, Option.some.injEq] at ho
            subst ho
            intro K hK
            have HK := Lib.hid hK
            clear hK
            go_simp
            refine HK.out _ _ (fun h => absurd h (by decide)) ?_
            try simp only [Act.put, List.setIfInBounds_toArray, List.set_cons_zero, List.set_cons_succ]
            refine wpH.done (by kernel_rfl) ?_
            have SG := Lib.hid ((S3.set1 3 rfl (.slice ro (rightF CA CB g).1.length ((rightF CA CB g).1.length + rsp)) (by have := HBX.out; omega) (by simp only [offs, offAll, Fct.box, and_true]; omega)))
            have hsz3 : w2.heap.size ≤ w3.heap.size := HB3.out.size
            have HROW := Lib.hid (show factE.Row (fun b => b < w.heap.size ∨ b10 < b) (w3.setCell ⟨b10, 0, none⟩ (.slice ro (rightF CA CB g).1.length ((rightF CA CB g).1.length + rsp))) ro (rightF CA CB g).1 from HRO.out.keep (fun b h1 h2 => ⟨Below.heap_setCell _ _ _ _ (by show b ≠ b10; have hbx := HBX.out; rcases h1 with h1 | h1; have h1' : b < w.heap.size := h1; omega; have h1' : w2.heap.size ≤ b := h1; omega), by rcases h1 with h1 | h1; exact .inl h1; exact .inr (by have h1' : w2.heap.size ≤ b := h1; omega)⟩))
            have hz6 : b10 + 1 ≤ (w3.setCell ⟨b10, 0, none⟩ (.slice ro (rightF CA CB g).1.length ((rightF CA CB g).1.length + rsp))).heap.size := by simp; omega
            have HLN := Lib.hid (show (rightF CA CB g).1.length ≤ 1000 by have h1 := rightF_len CA CB g; have h2 := HSA.out.1; have h3 := HSB.out.1; omega)
            clear S3 SD e0 e1
            try go_wp2_with fail
            go_meet
            case rel => exact ⟨ro, rsp, by rw [HK3.out], hz6, by rw [HO3.out]; exact SG.out, by rw [HO3.out]; exact HROW.out, by rw [HO3.out]; exact HLN.out, HN2⟩
          · intro oi ho
            simp only [List.getElem?_toArray, List.getElem?_cons_succ, List.getElem?_cons_zero, Option.some.injEq] at ho
            subst ho
            intro K hK
            have HK := Lib.hid hK
            clear hK
            obtain ⟨e0, e1⟩ := S3.one 3
            have hl3 := S3.lt 3
            go_simp
            refine HK.out _ _ (fun h => absurd h (by decide)) ?_
            try simp only [Act.put, List.setIfInBounds_toArray, List.set_cons_zero, List.set_cons_succ]
            refine wpH.one (i := 14) (by kernel_rfl) ?_
            intro oi ho
            simp only [List.getElem?_toArray, List.getElem?_cons_succ, List.getElem?_cons_zero, Option.some.injEq] at ho
            subst ho
            intro K hK
            have HK := Lib.hid hK
            clear hK
            go_simp
            refine HK.out _ _ (fun h => absurd h (by decide)) ?_
            try simp only [Act.put, List.setIfInBounds_toArray, List.set_cons_zero, List.set_cons_succ]
            refine wpH.one (i := 16) (by kernel_rfl) ?_
            intro oi ho
            simp only [List.getElem?_toArray, List.getElem?_cons_succ, List.getElem?_cons_zero, Option.some.injEq] at ho
            subst ho
            intro K hK
            have HK := Lib.hid hK
            clear hK
            go_simp
            refine HK.out _ _ (fun h => absurd h (by decide)) ?_
            try simp only [Act.put, List.setIfInBounds_toArray, List.set_cons_zero, List.set_cons_succ]
            refine wpH.done (by kernel_rfl) ?_
            have SG := Lib.hid ((S3.set1 3 rfl (.slice ro (rightF CA CB g).1.length ((rightF CA CB g).1.length + rsp)) (by have := HBX.out; omega) (by simp only [offs, offAll, Fct.box, and_true]; omega)))
            have hsz3 : w2.heap.size ≤ w3.heap.size := HB3.out.size
            have HROW := Lib.hid (show factE.Row (fun b => b < w.heap.size ∨ b10 < b) (w3.setCell ⟨b10, 0, none⟩ (.slice ro (rightF CA CB g).1.length ((rightF CA CB g).1.length + rsp))) ro (rightF CA CB g).1 from HRO.out.keep (fun b h1 h2 => ⟨Below.heap_setCell _ _ _ _ (by show b ≠ b10; have hbx := HBX.out; rcases h1 with h1 | h1; have h1' : b < w.heap.size := h1; omega; have h1' : w2.heap.size ≤ b := h1; omega), by rcases h1 with h1 | h1; exact .inl h1; exact .inr (by have h1' : w2.heap.size ≤ b := h1; omega)⟩))
            have hz6 : b10 + 1 ≤ (w3.setCell ⟨b10, 0, none⟩ (.slice ro (rightF CA CB g).1.length ((rightF CA CB g).1.length + rsp))).heap.size := by simp; omega
            have HLN := Lib.hid (show (rightF CA CB g).1.length ≤ 1000 by have h1 := rightF_len CA CB g; have h2 := HSA.out.1; have h3 := HSB.out.1; omega)
            clear S3 SD e0 e1
            try go_wp2_with fail
            go_meet
            case rel => exact ⟨ro, rsp, by rw [HK3.out], hz6, by rw [HO3.out]; exact SG.out, by rw [HO3.out]; exact HROW.out, by rw [HO3.out]; exact HLN.out, HN2⟩
        · intro oi ho
          simp only [List.getElem?_toArray, List.getElem?_cons_succ, List.getElem?_cons_zero, Option.some.injEq] at ho
          subst ho
          intro K hK
          have HK := Lib.hid hK
          clear hK
          go_simp
          refine HK.out _ _ (fun h => absurd h (by decide)) ?_
          try simp only [Act.put, List.setIfInBounds_toArray, List.set_cons_zero, List.set_cons_succ]
          refine wpH.one (i := 13) (by kernel_rfl) ?_
          intro oi ho
          simp only [List.getElem?_toArray, List.getElem?_cons_succ, List.getElem?_cons_zero, Option.some.injEq] at ho
          subst ho
          intro K hK
          have HK := Lib.hid hK
          clear hK
          go_simp
          refine HK.out _ _ (fun h => absurd h (by decide)) ?_
          try simp only [Act.put, List.setIfInBounds_toArray, List.set_cons_zero, List.set_cons_succ]
          refine wpH.one (i := 15) (by kernel_rfl) ?_
          intro oi ho
          simp only [List.getElem?_toArray, List.getElem?_cons_succ, List.getElem?_cons_zero, Option.some.injEq] at ho
          subst ho
          intro K hK
          have HK := Lib.hid hK
          clear hK
          obtain ⟨e0, e1⟩ := S3.one 3
          have hl3 := S3.lt 3
          go_simp
          refine HK.out _ _ (fun h => absurd h (by decide)) ?_
          try simp only [Act.put, List.setIfInBounds_toArray, List.set_cons_zero, List.set_cons_succ]
          refine wpH.one (i := 16) (by kernel_rfl) ?_
          intro oi ho
          simp only [List.getElem?_toArray, List.getElem?_cons_succ, List.getElem?_cons_zero, Option.some.injEq] at ho
          subst ho
          intro K hK
          have HK := Lib.hid hK
          clear hK
          go_simp
          refine HK.out _ _ (fun h => absurd h (by decide)) ?_
          try simp only [Act.put, List.setIfInBounds_toArray, List.set_cons_zero, List.set_cons_succ]
          refine wpH.done (by kernel_rfl) ?_
          have SG := Lib.hid ((S3.set1 3 rfl (.slice ro (rightF CA CB g).1.length ((rightF CA CB g).1.length + rsp)) (by have := HBX.out; omega) (by simp only [offs, offAll, Fct.box, and_true]; omega)))
          have hsz3 : w2.heap.size ≤ w3.heap.size := HB3.out.size
          have HROW := Lib.hid (show factE.Row (fun b => b < w.heap.size ∨ b10 < b) (w3.setCell ⟨b10, 0, none⟩ (.slice ro (rightF CA CB g).1.length ((rightF CA CB g).1.length + rsp))) ro (rightF CA CB g).1 from HRO.out.keep (fun b h1 h2 => ⟨Below.heap_setCell _ _ _ _ (by show b ≠ b10; have hbx := HBX.out; rcases h1 with h1 | h1; have h1' : b < w.heap.size := h1; omega; have h1' : w2.heap.size ≤ b := h1; omega), by rcases h1 with h1 | h1; exact .inl h1; exact .inr (by have h1' : w2.heap.size ≤ b := h1; omega)⟩))
          have hz6 : b10 + 1 ≤ (w3.setCell ⟨b10, 0, none⟩ (.slice ro (rightF CA CB g).1.length ((rightF CA CB g).1.length + rsp))).heap.size := by simp; omega
          have HLN := Lib.hid (show (rightF CA CB g).1.length ≤ 1000 by have h1 := rightF_len CA CB g; have h2 := HSA.out.1; have h3 := HSB.out.1; omega)
          clear S3 SD e0 e1
          try go_wp2_with fail
          go_meet
          case rel => exact ⟨ro, rsp, by rw [HK3.out], hz6, by rw [HO3.out]; exact SG.out, by rw [HO3.out]; exact HROW.out, by rw [HO3.out]; exact HLN.out, HN2⟩
      · have hb3 : (g.kind == 3) = false := by simp [h3]
        have HK0 := Lib.hid (show KC = 0 by rw [HKC.out, if_neg h3])
        by_cases h4 : g.kind = 4
        · have hb4 : (g.kind == 4) = true := by simp [h4]
          have HO4 := Lib.hid (show O = onceF C by rw [HO.out]; unfold outF; rw [if_neg (by omega), if_neg h2, if_neg h3, HCE2.out (by omega)])
          obtain ⟨y0, y1⟩ := S.one 3
          clear h2 h3 h4
          go_wp2_with fail
          refine (once112 C (fun b => b < w.heap.size) kf sf w2 (fun b h => Nat.lt_of_lt_of_le h S.bel.size) (HFR.out.kept S.bel) (by have := HCS.out.1; omega) (fun t ht => by have := (HCS.out.2 t ht).1; omega)).mono ?_
          rintro e w6 ⟨ro, rsp, rfl, hro, hb6⟩
          have S6 := S.step hb6
          have hl := S6.lt 3
          have hs6 := hb6.size
          obtain ⟨y0, y1⟩ := S6.one 3
          have SG := Lib.hid (S6.set1 3 rfl (.slice ro (onceF C).length ((onceF C).length + rsp)) (by have := HBX.out; omega) (by simp only [offs, offAll, Fct.box, and_true]; omega))
          have HRO := Lib.hid (show factE.Row (fun b => b < w.heap.size ∨ b10 < b) (w6.setCell ⟨b10, 0, none⟩ (.slice ro (onceF C).length ((onceF C).length + rsp))) ro (onceF C) from hro.keep (fun b h1 h2 => ⟨Below.heap_setCell _ _ _ _ (by show b ≠ b10; omega), .inr (by omega)⟩))
          have hz6 : b10 + 1 ≤ (w6.setCell ⟨b10, 0, none⟩ (.slice ro (onceF C).length ((onceF C).length + rsp))).heap.size := by simp; omega
          have HLN := Lib.hid (show (onceF C).length ≤ 1000 by have h1 := onceF_len C; have h2 := HCS.out.1; omega)
          clear S S6 hro hb6
          go_wp2_with fail
          go_meet
          case rel => exact ⟨ro, rsp, by rw [HK0.out], hz6, by rw [HO4.out]; exact SG.out, by rw [HO4.out]; exact HRO.out, by rw [HO4.out]; exact HLN.out, HN2⟩
        · have hb4 : (g.kind == 4) = false := by simp [h4]
          have h1 : g.kind = 1 := by have h := HR.out; omega
          have HO1 := Lib.hid (show O = C by rw [HO.out]; unfold outF; rw [if_pos h1, HCE1.out h1])
          have SG := Lib.hid S
          have HRO := Lib.hid ((HFR.out.kept S.bel).mono (q := fun b => b < w.heap.size ∨ b10 < b) (fun b h _ => .inl h))
          have HLN := Lib.hid (show C.length ≤ 1000 by have h2 := HCS.out.1; omega)
          clear h1 h2 h3 h4 S
          go_wp2_with fail
          go_meet
          case rel => exact ⟨kf, sf, by rw [HK0.out], z2, by rw [HO1.out]; exact SG.out, by rw [HO1.out]; exact HRO.out, by rw [HO1.out]; exact HLN.out, HN2⟩
  case rest =>
  obtain ⟨oo, osp, ht11, hzc, SC, hro, hlen, hn2⟩ := hcut
  subst ht11
  have HSTEP := Lib.hid (show stepF ar cs known g = if KC ≠ 0 then ([], KC) else if codeF ar O ≠ 0 then ([], 10) else (O, 0) by
    unfold stepF
    rw [if_neg HR.out, if_neg (by rw [HFL.out]; exact HI.out), if_neg hn2.out, HKC.out]
    by_cases h3 : g.kind = 3
    · rw [if_pos h3]
      by_cases h4 : (rightF (gC known g.a) (gC known g.b) g).2 ≠ 0
      · rw [if_pos ⟨h3, h4⟩, if_pos h4]
      · rw [if_neg (fun h => h4 h.2), if_neg h4, ← HO.out]
    · rw [if_neg h3, if_neg (fun h => h3 h.1), if_neg (show ¬ ((0 : Int) ≠ 0) from fun h => h rfl), ← HO.out])
  have HRO := Lib.hid hro
  have HHL := Lib.hid hlen
  clear hro hlen hn2 S g0
  by_cases hk : KC = 0
  case neg =>
    have hkb : (KC != 0) = true := by simp [hk]
    have HD := Lib.hid (show stepF ar cs known g = ([], KC) by rw [HSTEP.out, if_pos hk])
    have hw0 := HB10.out
    obtain ⟨r0, r1⟩ := SC.one 2
    have SG := Lib.hid (SC.set1 2 rfl (.slice none 0 0) (by have := HBX.out; omega) (by simp only [offs, offAll, Fct.box, and_true]; omega))
    have hl2 := SC.lt 2
    clear SC
    go_wp2_with fail
    refine bodyPost_ret (v := .tuple #[.agg #[.slice none 0 0], .int .i64 KC]) ?_ rfl ?_
    · obtain ⟨q0, _⟩ := SG.out.one 2
      simp [results, Try.results64, go_sem, q0]
    · exact StepP.bad HD.out SG.out.bel
  case pos =>
  have hkb : (KC != 0) = false := by simp [hk]
  have HS2 := Lib.hid (show stepF ar cs known g = if codeF ar O ≠ 0 then ([], 10) else (O, 0) by rw [HSTEP.out, if_neg (by simp [hk])])
  obtain ⟨l0, _⟩ := SC.cell 0 0 rfl
  obtain ⟨y0, y1⟩ := SC.one 3
  clear hk
  go_wp2_with fail
  refine (code73 ar O _ _ ao oo ca osp wc (HA.out.kept SC.bel) HRO.out HAR.out (by have := HHL.out; unfold maxLen; omega)).mono ?_
  rintro e w5 ⟨rfl, hb5⟩
  have S5 := SC.step hb5
  have HB5 := Lib.hid hb5
  have z5 := hb5.size
  clear hb5
  obtain ⟨K9, hK9⟩ : ∃ X, X = codeF ar O := ⟨_, rfl⟩
  rw [← hK9]
  have HK9 := Lib.hid hK9
  clear hK9
  have HRO5 := Lib.hid (HRO.out.keep (w' := w5) (q := fun b => b < w5.heap.size) (fun b h1 h2 => ⟨HB5.out.block b h2, by omega⟩))
  clear SC l0 y0 y1
  by_cases h9 : K9 = 0
  case neg =>
    have hkb9 : (K9 != 0) = true := by simp [h9]
    have HD := Lib.hid (show stepF ar cs known g = ([], 10) by rw [HS2.out, if_pos (by rw [← HK9.out]; exact h9)])
    have hw0 := HB10.out
    obtain ⟨r0, r1⟩ := S5.one 2
    have SG := Lib.hid (S5.set1 2 rfl (.slice none 0 0) (by have := HBX.out; omega) (by simp only [offs, offAll, Fct.box, and_true]; omega))
    have hl2 := S5.lt 2
    clear S5
    go_wp2_with fail
    refine bodyPost_ret (v := .tuple #[.agg #[.slice none 0 0], .int .i64 10]) ?_ rfl ?_
    · obtain ⟨q0, _⟩ := SG.out.one 2
      simp [results, Try.results64, go_sem, q0]
    · exact StepP.bad HD.out SG.out.bel
  case pos =>
  have hkb9 : (K9 != 0) = false := by simp [h9]
  have HD := Lib.hid (show stepF ar cs known g = (O, 0) by rw [HS2.out, if_neg (by rw [← HK9.out]; simp [h9])])
  have HOS := Lib.hid (code_small (show codeF ar O = 0 by rw [← HK9.out]; exact h9))
  obtain ⟨y0, y1⟩ := S5.one 3
  clear h9
  go_wp2_with fail
  refine (mapAny (fun t => t) 113 #[] (enters_of Try.func113 (by kernel_rfl) rfl) O (fun c => c < w5.heap.size) (fun _ => False) oo osp w5 (fun b h => h) (fun b h => h.elim) HRO5.out (by have := HHL.out; omega) (fun W v t ht hb hv => (copy50 t v W hv.at (by have := (HOS.out.2 t ht).1; omega)).mono fun e w' ⟨u, h1, h2, h3⟩ => ⟨u, h1, h2.mono (fun b h _ => .inr h), h3⟩)).mono ?_
  rintro e w6 ⟨ro, rsp, rfl, hro2, hb6⟩
  rw [mapC_id] at hro2 ⊢
  have S6 := S5.step hb6
  have hl := S6.lt 2
  obtain ⟨r0, r1⟩ := S6.one 2
  have SG := Lib.hid (S6.set1 2 rfl (.slice ro O.length (O.length + rsp)) (by have := HBX.out; omega) (by simp only [offs, offAll, Fct.box, and_true]; have := HB10.out; omega))
  have HRR := Lib.hid hro2
  have HZ := Lib.hid (show bx + 3 ≤ w5.heap.size by have := HB10.out; omega)
  clear S5 S6 hro2 hb6 y0 y1
  go_wp2_with fail
  refine bodyPost_ret (v := .tuple #[.agg #[.slice ro O.length (O.length + rsp)], .int .i64 0]) ?_ rfl ?_
  · obtain ⟨q0, _⟩ := SG.out.one 2
    simp [results, Try.results64, go_sem, q0]
  · unfold StepP
    rw [HD.out]
    refine ⟨ro, rsp, rfl, HRR.out.keep (fun b h1 h2 => ⟨Below.heap_setCell _ _ _ _ (by show b ≠ bx + 2; have hz := HZ.out; rcases h1 with h1 | h1; exact h1.elim; omega), by have hz := HZ.out; have hx := HBX.out; rcases h1 with h1 | h1; exact h1.elim; omega⟩), SG.out.bel⟩
end Go.Proofs.Ytlhnfdjidjgfgaa
