/-
  Walk: the document's Got.
-/
import Derived.Test.YtlhnfdjidjgfgaaProg
import Derived.Test.YtlhnfdjidjgfgaaK8
import Derived.Test.YtlhnfdjidjgfgaaKr
import Derived.Test.YtlhnfdjidjgfgaaDv1
import Derived.Test.YtlhnfdjidjgfgaaZ2
import Derived.Test.YtlhnfdjidjgfgaaKt0
import Derived.Deep.DeepCutAuto
import Derived.Deep.CutBlock
import Derived.BigQuiet
namespace Go.Proofs.Ytlhnfdjidjgfgaa
open Go.RowKit Go.Shelf
set_option linter.unusedVariables false
set_option maxHeartbeats 400000

/-- claims in memory: the spine is anywhere, what they hold has a footprint -/
def ClaimsAt (q : Nat → Prop) (w : World) (ko : Option Addr) (cs : List (List Fc)) : Prop :=
  ∀ (i : Nat) (h : i < cs.length), ∃ b off k sp, ko = some ⟨b, off, none⟩ ∧ w.cell? ⟨b, off + i, none⟩ = some (.slice k cs[i].length (cs[i].length + sp)) ∧ factE.Row q w k cs[i]
theorem ClaimsAt.kept {q : Nat → Prop} {w w' : World} {ko : Option Addr} {cs : List (List Fc)} (h : ClaimsAt q w ko cs) (hb : Below w.heap.size w w') : ClaimsAt q w' ko cs := fun i hi => by
  obtain ⟨b, off, k, sp, e, hc, hr⟩ := h i hi
  exact ⟨b, off, k, sp, e, Below.cellOf hb hc, hr.kept hb⟩
theorem Elt.Row.claimsAt {q : Nat → Prop} {w : World} {ko : Option Addr} {cs : List (List Fc)} (h : claimE.Row q w ko cs) : ClaimsAt q w ko cs := fun i hi => by
  obtain ⟨b, off, k, sp, e, _, hc, hr, _⟩ := h.claim hi
  exact ⟨b, off, k, sp, e, hc, hr⟩
def GotP (ar : List Int) (cs known : List (List Fc)) (g : Gt) (q : Nat → Prop) (w : World) (e : Ending) (w' : World) : Prop :=
  ∃ ro rsp, e = .returned (.tuple #[.agg #[.slice ro (stepF ar cs known g).1.length ((stepF ar cs known g).1.length + rsp)], .int .i64 (stepF ar cs known g).2]) ∧ factE.Row (fun c => q c ∨ w.heap.size ≤ c) w' ro (stepF ar cs known g).1 ∧ Below w.heap.size w w'
theorem GotP.bad {ar : List Int} {cs known : List (List Fc)} {g : Gt} {q : Nat → Prop} {w w' : World} {c : Int} (h : stepF ar cs known g = ([], c)) (hb : Below w.heap.size w w') : GotP ar cs known g q w (.returned (.tuple #[.agg #[.slice none 0 0], .int .i64 c])) w' := by
  unfold GotP
  rw [h]
  exact ⟨none, 0, rfl, Elt.Row.nil, hb⟩

theorem build39 {a : Act} {w : World} {K : Act → World → Prop} {Q : Exit → Act → World → Prop} (n : Nat) (dst : Option Tmp) {pos : String} {af : Array Edge} {ty : TypeId} (x0 x1 x2 x3 x4 : Value)
    (hE : a.tmps[n]?.getD undef = .agg #[x0, x1, x2, x3, x4]) (h : K (a.put dst (.slice (some ⟨w.heap.size, 0, none⟩) 1 1)) (w.alloc (.cells #[x0, x1, x2, x3, x4] 62))) :
    Oper.wp Try.prog { dst := dst, op := Op.buildSlice 39 1 #[(0, Operand.tmp n)], type := ty, pos := pos, after := af, guard := none } a w K Q := by
  go_simp
  exact h
theorem skip_zero_t {L : List Fc} {X : Fc} (h : X.neg = true) : (!decide (X.l = X.r)) = decide (¬ skipP (L.take 0) X) := by
  unfold skipP
  by_cases h2 : X.l = X.r <;> simp [h, h2]
theorem skip_zero_f {L : List Fc} {X : Fc} (h : X.neg = false) : true = decide (¬ skipP (L.take 0) X) := by
  unfold skipP
  simp [h]
theorem skip_step {L : List Fc} {X : Fc} {m : Nat} (h : m < L.length) : decide (¬ skipP (L.take (m + 1)) X) = (decide (¬ skipP (L.take m) X) && !decide (L[m] = X)) := by
  have e : skipP (L.take (m + 1)) X ↔ (skipP (L.take m) X ∨ L[m] = X) := by
    rw [List.take_succ_eq_append_getElem h]
    unfold skipP
    rw [List.mem_append, List.mem_singleton]
    constructor
    · rintro (h1 | h1 | h1)
      · exact .inl (.inl h1)
      · exact .inl (.inr h1)
      · exact .inr h1.symm
    · rintro ((h1 | h1) | h1)
      · exact .inl h1
      · exact .inr (.inl h1)
      · exact .inr (.inr h1.symm)
  by_cases h1 : skipP (L.take m) X <;> by_cases h2 : L[m] = X <;> simp [e, h1, h2]

set_option maxRecDepth 100000 in
set_option maxHeartbeats 8000000 in
theorem got19 (ar : List Int) (cs known : List (List Fc)) (g : Gt) (q : Nat → Prop) (ao co ko po bo : Option Addr) (ca cc kcap pc bc : Nat) (w : World) (hq : ∀ c, q c → c < w.heap.size)
    (ha : intE.Row (fun b => b < w.heap.size) w ao ar) (hc : ClaimsAt q w co cs) (hk : ClaimsAt q w ko known) (hpl : intE.Row (fun b => b < w.heap.size) w po g.pl) (hb : treeE.Row q w bo g.bs)
    (har : ar.length ≤ 1000000000) (hcn : cs.length ≤ maxLen) (hkn : known.length ≤ maxLen) (hpc : g.pl.length + pc ≤ maxLen) (hbc : g.bs.length + bc ≤ maxLen) (hC : ∀ c ∈ cs, codeF ar c = 0) (hK : ∀ c ∈ known, codeF ar c = 0) (hbs : ∀ i, i < g.bs.length → (gK g.bs i).size ≤ 1000000) :
    Calls Try.prog 19 #[.agg #[.slice ao ar.length ca, .slice co cs.length cc], .slice ko known.length kcap, .agg #[.int .i64 g.kind, .int .i64 g.a, .int .i64 g.b, .int .i64 g.i, .int .i64 g.j, .bool g.turn, .slice po g.pl.length (g.pl.length + pc), .slice bo g.bs.length (g.bs.length + bc)]] w (GotP ar cs known g q w) := by
  have HA := Lib.hid ha; have HC := Lib.hid hc; have HKR := Lib.hid hk; have HPL := Lib.hid hpl; have HB := Lib.hid hb; have HQ := Lib.hid hq
  have HPC := Lib.hid hpc; have HBC := Lib.hid hbc; have HCO := Lib.hid hC; have HKO := Lib.hid hK; have HAR := Lib.hid har; have HBZ := Lib.hid hbs
  have hcn' : cs.length ≤ 9223372036854775807 := by unfold maxLen at hcn; omega
  have hkn' : known.length ≤ 9223372036854775807 := by unfold maxLen at hkn; omega
  obtain ⟨bx, hbx⟩ : ∃ b, b = w.heap.size := ⟨_, rfl⟩
  have S1 := (((St.start w).box hbx.symm #[.slice ao ar.length ca, .slice co cs.length cc] 25).box (b := bx + 1) (by simp [hbx]) #[.int .i64 g.kind, .int .i64 g.a, .int .i64 g.b, .int .i64 g.i, .int .i64 g.j, .bool g.turn, .slice po g.pl.length (g.pl.length + pc), .slice bo g.bs.length (g.bs.length + bc)] 35).box (b := bx + 2) (by simp [hbx]) #[.slice none 0 0] 41
  have HBX := Lib.hid hbx
  clear ha hc hk hpl hb hcn hkn hpc hbc hC hK har hq hbs
  go_enter Try.func19, Try.ntmps19
  go_upto_region 2 with fail
  rw [← hbx]
  refine S1.genC (z := bx + 3) (by simp [hbx]) ?_
  intro w1 z1 S
  clear S1 hbx
  change St w w1 [.box bx #[.slice ao ar.length ca, .slice co cs.length cc] 25, .box (bx + 1) #[.int .i64 g.kind, .int .i64 g.a, .int .i64 g.b, .int .i64 g.i, .int .i64 g.j, .bool g.turn, .slice po g.pl.length (g.pl.length + pc), .slice bo g.bs.length (g.bs.length + bc)] 35, .box (bx + 2) #[.slice none 0 0] 41] at S
  obtain ⟨l1, _⟩ := S.cell 0 1 rfl
  obtain ⟨g0, _⟩ := S.cell 1 0 rfl
  obtain ⟨g1, _⟩ := S.cell 1 1 rfl
  obtain ⟨g2, _⟩ := S.cell 1 2 rfl
  obtain ⟨F, hF⟩ : ∃ F, F = if g.kind = 1 then cs else known := ⟨_, rfl⟩
  have HF := Lib.hid hF
  clear hF
  obtain ⟨d1, hd1⟩ : ∃ d, (g.kind == 1) = d := ⟨_, rfl⟩
  go_upto_if 22 with fail
  go_cut [8] (fun t8 W => (∃ fo fc, t8 = .slice fo F.length fc ∧ ClaimsAt q w fo F) ∧ W = w1)
  case first =>
    as_aux_lemma =>
    cases d1 with
    | true =>
      have h1 : g.kind = 1 := by simpa using hd1
      have hF : F = cs := by rw [HF.out, if_pos h1]
      go_wp2_with fail
      go_meet
      case rel => exact ⟨⟨co, cc, by rw [hF], by rw [hF]; exact HC.out⟩, rfl⟩
    | false =>
      have h1 : ¬ g.kind = 1 := by simpa using hd1
      have hF : F = known := by rw [HF.out, if_neg h1]
      go_wp2_with fail
      go_meet
      case rel => exact ⟨⟨ko, kcap, by rw [hF], by rw [hF]; exact HKR.out⟩, rfl⟩
  case rest =>
  obtain ⟨⟨fo, fc, ht8, hrow⟩, hw⟩ := hcut
  replace hw := hw.symm
  subst hw
  subst ht8
  have HRW := Lib.hid hrow
  clear hrow hd1
  have HFL := Lib.hid (show (if g.kind = 1 then cs.length else known.length) = F.length by rw [HF.out]; split <;> rfl)
  have hFl : F.length ≤ 9223372036854775807 := by rw [← HFL.out]; split <;> omega
  have C0 := in54 g.kind 1 4 w1
  by_cases hr : 1 ≤ g.kind ∧ g.kind ≤ 4
  case neg =>
    have HD := Lib.hid (show stepF ar cs known g = ([], 4) by unfold stepF; rw [if_pos (by omega)])
    rw [decide_eq_false hr] at C0
    have HC0 := Lib.hid C0
    clear C0 hr
    go_wp2_with fail
    refine HC0.out.mono ?_
    rintro e W ⟨rfl, hW⟩
    replace hW := hW.symm
    subst hW
    obtain ⟨r0, r1⟩ := S.one 2
    have SG := Lib.hid (S.set1 2 rfl (.slice none 0 0) (by have := HBX.out; omega) (by simp only [offs, offAll, Fct.box, and_true]; omega))
    have hl2 := S.lt 2
    clear S
    go_wp2_with fail
    refine bodyPost_ret (v := .tuple #[.agg #[.slice none 0 0], .int .i64 4]) ?_ rfl ?_
    · obtain ⟨q0, _⟩ := SG.out.one 2
      simp [results, Try.results19, go_sem, q0]
    · exact GotP.bad HD.out SG.out.bel
  case pos =>
  rw [decide_eq_true hr] at C0
  have HC0 := Lib.hid C0
  have HR := Lib.hid (show ¬ (g.kind < 1 ∨ 4 < g.kind) by omega)
  clear C0 hr
  go_wp2_with fail
  refine HC0.out.mono ?_
  rintro e W ⟨rfl, hW⟩
  replace hW := hW.symm
  subst hW
  have hwF : IntKind.i64.wrap ((F.length : Int) - 1) = (F.length : Int) - 1 := IntWalk.i64_in _ (by omega)
  go_upto_region 6 with fail
  go_cut [50] (fun t50 W => t50 = .bool (decide (¬ inL g.a F.length ∨ (g.kind = 3 ∧ ¬ inL g.b F.length))) ∧ W = w1)
  case first =>
    as_aux_lemma =>
    have C1 := in54 g.a 0 ((F.length : Int) - 1) w1
    have C2 := in54 g.b 0 ((F.length : Int) - 1) w1
    by_cases h1 : 0 ≤ g.a ∧ g.a ≤ (F.length : Int) - 1
    · rw [decide_eq_true h1] at C1
      have HC1 := Lib.hid C1
      by_cases h3 : g.kind = 3
      · have hb3 : (g.kind == 3) = true := by simp [h3]
        by_cases h2 : 0 ≤ g.b ∧ g.b ≤ (F.length : Int) - 1
        · rw [decide_eq_true h2] at C2
          have HC2 := Lib.hid C2
          have HD := Lib.hid (show decide (¬ inL g.a F.length ∨ (g.kind = 3 ∧ ¬ inL g.b F.length)) = false from decide_eq_false (fun h => h.elim (fun h => h ⟨h1.1, by omega⟩) (fun h => h.2 ⟨h2.1, by omega⟩)))
          clear C1 C2 h1 h2 h3
          go_wp2_with fail
          refine HC1.out.mono ?_
          rintro e W ⟨rfl, hW⟩
          replace hW := hW.symm
          subst hW
          go_wp2_with fail
          refine HC2.out.mono ?_
          rintro e W ⟨rfl, hW⟩
          replace hW := hW.symm
          subst hW
          go_wp2_with fail
          go_meet
          case rel => exact ⟨congrArg Value.bool HD.out.symm, rfl⟩
        · rw [decide_eq_false h2] at C2
          have HC2 := Lib.hid C2
          have HD := Lib.hid (show decide (¬ inL g.a F.length ∨ (g.kind = 3 ∧ ¬ inL g.b F.length)) = true from decide_eq_true (.inr ⟨h3, fun h => h2 ⟨h.1, by have := h.2; omega⟩⟩))
          clear C1 C2 h1 h2 h3
          go_wp2_with fail
          refine HC1.out.mono ?_
          rintro e W ⟨rfl, hW⟩
          replace hW := hW.symm
          subst hW
          go_wp2_with fail
          refine HC2.out.mono ?_
          rintro e W ⟨rfl, hW⟩
          replace hW := hW.symm
          subst hW
          go_wp2_with fail
          go_meet
          case rel => exact ⟨congrArg Value.bool HD.out.symm, rfl⟩
      · have hb3 : (g.kind == 3) = false := by simp [h3]
        have HD := Lib.hid (show decide (¬ inL g.a F.length ∨ (g.kind = 3 ∧ ¬ inL g.b F.length)) = false from decide_eq_false (fun h => h.elim (fun h => h ⟨h1.1, by omega⟩) (fun h => h3 h.1)))
        clear C1 C2 h1 h3
        go_wp2_with fail
        refine HC1.out.mono ?_
        rintro e W ⟨rfl, hW⟩
        replace hW := hW.symm
        subst hW
        go_wp2_with fail
        go_meet
        case rel => exact ⟨congrArg Value.bool HD.out.symm, rfl⟩
    · rw [decide_eq_false h1] at C1
      have HC1 := Lib.hid C1
      have HD := Lib.hid (show decide (¬ inL g.a F.length ∨ (g.kind = 3 ∧ ¬ inL g.b F.length)) = true from decide_eq_true (.inl (fun h => h1 ⟨h.1, by have := h.2; omega⟩)))
      clear C1 C2 h1
      go_wp2_with fail
      refine HC1.out.mono ?_
      rintro e W ⟨rfl, hW⟩
      replace hW := hW.symm
      subst hW
      go_wp2_with fail
      go_meet
      case rel => exact ⟨congrArg Value.bool HD.out.symm, rfl⟩
  case rest =>
  obtain ⟨ht50, hw⟩ := hcut
  replace hw := hw.symm
  subst hw
  subst ht50
  clear hwF
  by_cases hi : ¬ inL g.a F.length ∨ (g.kind = 3 ∧ ¬ inL g.b F.length)
  · have HD := Lib.hid (show stepF ar cs known g = ([], 3) by
      unfold stepF
      rw [if_neg HR.out, if_pos]
      rw [HFL.out]
      rcases hi with h | h
      · exact .inl h
      · exact .inr ⟨h.1, by have h2 := h.2; rw [HF.out, if_neg (by omega)] at h2; exact h2⟩)
    have hd : decide (¬ inL g.a F.length ∨ (g.kind = 3 ∧ ¬ inL g.b F.length)) = true := decide_eq_true hi
    rw [hd]
    clear hi
    obtain ⟨r0, r1⟩ := S.one 2
    have SG := Lib.hid (S.set1 2 rfl (.slice none 0 0) (by have := HBX.out; omega) (by simp only [offs, offAll, Fct.box, and_true]; omega))
    have hl2 := S.lt 2
    clear S
    go_wp2_with fail
    refine bodyPost_ret (v := .tuple #[.agg #[.slice none 0 0], .int .i64 3]) ?_ rfl ?_
    · obtain ⟨q0, _⟩ := SG.out.one 2
      simp [results, Try.results19, go_sem, q0]
    · exact GotP.bad HD.out SG.out.bel
  have hd : decide (¬ inL g.a F.length ∨ (g.kind = 3 ∧ ¬ inL g.b F.length)) = false := decide_eq_false hi
  rw [hd]
  have HI := Lib.hid hi
  have hia : inL g.a F.length := Classical.byContradiction fun h => hi (.inl h)
  clear hd hi
  obtain ⟨hia0, hia1⟩ := hia
  obtain ⟨A, hA⟩ : ∃ A : Nat, (A : Int) = g.a := ⟨g.a.toNat, by omega⟩
  have hAF : A < F.length := by omega
  have hAi : (A : Int) < (F.length : Int) := by omega
  obtain ⟨fb, foff, kf, sf, rfl, c0, hfr⟩ := HRW.out A hAF
  obtain ⟨C, hCe⟩ : ∃ C, C = F[A] := ⟨_, rfl⟩
  have HCF := Lib.hid (show C ∈ F by rw [hCe]; exact List.getElem_mem hAF)
  have HCE1 := Lib.hid (show g.kind = 1 → gC cs g.a = C by
    intro h
    have hF : F = cs := by rw [HF.out, if_pos h]
    subst hF
    rw [hCe, gC_at hA hAF])
  have HCE2 := Lib.hid (show g.kind ≠ 1 → gC known g.a = C by
    intro h
    have hF : F = known := by rw [HF.out, if_neg h]
    subst hF
    rw [hCe, gC_at hA hAF])
  rw [← hCe] at c0 hfr
  replace c0 := Below.cellOf S.bel c0
  have HCC := Lib.hid (show codeF ar C = 0 by
    have h := HCF.out
    rw [HF.out] at h
    split at h
    · exact HCO.out C h
    · exact HKO.out C h)
  have HCS := Lib.hid (code_small HCC.out)
  have HFR := Lib.hid hfr
  have HA1 := Lib.hid hA
  rw [← hA] at g1
  clear hfr hCe hA hia0 hia1 HCF
  obtain ⟨b9, hb9⟩ : ∃ b, b = w1.heap.size := ⟨_, rfl⟩
  have S2 := S.box hb9.symm #[.slice kf C.length (C.length + sf)] 41
  have hz2 : b9 + 1 ≤ (w1.alloc (.cells #[.slice kf C.length (C.length + sf)] 41)).heap.size := by simp [hb9]
  have HB9 := Lib.hid (show bx + 3 ≤ b9 by omega)
  go_upto_region 9 with fail
  rw [← hb9]
  refine S2.genC (z := b9 + 1) hz2 ?_
  clear S S2 hz2 l1 g0 g1 g2 hb9 c0
  intro w2 z2 S
  change St w w2 [.box bx #[.slice ao ar.length ca, .slice co cs.length cc] 25, .box (bx + 1) #[.int .i64 g.kind, .int .i64 g.a, .int .i64 g.b, .int .i64 g.i, .int .i64 g.j, .bool g.turn, .slice po g.pl.length (g.pl.length + pc), .slice bo g.bs.length (g.bs.length + bc)] 35, .box (bx + 2) #[.slice none 0 0] 41, .box b9 #[.slice kf C.length (C.length + sf)] 41] at S
  obtain ⟨g0, _⟩ := S.cell 1 0 rfl
  obtain ⟨d2, hd2⟩ : ∃ d, (g.kind == 2) = d := ⟨_, rfl⟩
  go_upto_if 59 with fail
  go_cut [] (fun W => ∃ (oo : Option Addr) (osp : Nat) (O : List Fc), b9 + 1 ≤ W.heap.size ∧ St w W [.box bx #[.slice ao ar.length ca, .slice co cs.length cc] 25, .box (bx + 1) #[.int .i64 g.kind, .int .i64 g.a, .int .i64 g.b, .int .i64 g.i, .int .i64 g.j, .bool g.turn, .slice po g.pl.length (g.pl.length + pc), .slice bo g.bs.length (g.bs.length + bc)] 35, .box (bx + 2) #[.slice none 0 0] 41, .box b9 #[.slice oo O.length (O.length + osp)] 41] ∧ factE.Row (fun b => q b ∨ b9 < b) W oo O ∧ Hid (O = if g.kind = 2 then subC g.bs C else C) ∧ Hid (¬ (g.kind = 2 ∧ (bindF g.bs).1 ≠ 0)))
  case first =>
    as_aux_lemma =>
    cases d2 with
    | false =>
      have h2 : ¬ g.kind = 2 := by simpa using hd2
      have HO := Lib.hid (show C = if g.kind = 2 then subC g.bs C else C by rw [if_neg h2])
      have HN := Lib.hid (show ¬ (g.kind = 2 ∧ (bindF g.bs).1 ≠ 0) from fun h => h2 h.1)
      have HRO := Lib.hid ((HFR.out.kept S.bel).mono (q := fun b => q b ∨ b9 < b) (fun b h _ => .inl h))
      have SB := Lib.hid S
      clear S h2 hd2
      go_wp2_with fail
      go_meet
      case rel => exact ⟨kf, sf, C, z2, SB.out, HRO.out, HO, HN⟩
    | true =>
      have h2 : g.kind = 2 := by simpa using hd2
      have H2 := Lib.hid h2
      obtain ⟨g7, _⟩ := S.cell 1 7 rfl
      clear h2 hd2
      go_wp2_with fail
      refine (S.faultF (bind16 g.bs bo _ _ w2 rfl HBZ.out (HB.out.kept S.bel).rowP.at)).mono ?_
      rintro e w3 ⟨c, d, rfl, hcd, z3, S3⟩
      obtain ⟨b10, hb10⟩ : ∃ b, b = w3.heap.size := ⟨_, rfl⟩
      have S4 := S3.box hb10.symm #[.int .i64 c, .int .i64 d] 29
      have z4 : b10 + 1 ≤ (w3.alloc (.cells #[.int .i64 c, .int .i64 d] 29)).heap.size := by simp [hb10]
      have HB10 := Lib.hid (show b9 + 1 ≤ b10 by omega)
      clear S S3 g0 g7
      by_cases hc : c = 0
      · have hcb : (c != 0) = false := by simp [hc]
        have HBZ0 := Lib.hid (show (bindF g.bs).1 = 0 by rw [hcd.out]; exact hc)
        have HBK := Lib.hid (bindF_ok HBZ0.out)
        have HO := Lib.hid (show subC g.bs C = if g.kind = 2 then subC g.bs C else C by rw [if_pos H2.out])
        have HN := Lib.hid (show ¬ (g.kind = 2 ∧ (bindF g.bs).1 ≠ 0) from fun h => h.2 HBZ0.out)
        obtain ⟨⟨x0, _⟩, x1, _⟩ := S4.two 4
        obtain ⟨iI, gi, gz0, gz1, gz2⟩ := info_parts info54
        have hcl := HCS.out.1
        clear hc
        go_wp2_with fail
        rw [← hb10]
        refine S4.genC (z := b10 + 1) z4 ?_
        intro w4 z5 S5
        have S := (S5.pick [0, 1, 2, 3]).add (.owns factE (b9 + 1) (fun c => q c ∨ b9 + 1 ≤ c) (.slice none 0 0) (subC g.bs (C.take 0))) (Elt.Own.nil _ _ _ _)
        have z6 : b9 + 1 ≤ w4.heap.size := by omega
        clear S4 S5 z4 x0 x1 hb10 z5
        go_loopw [11, 12] (fun o i wr => ∃ k : Nat, k ≤ C.length ∧ i = .int .i64 k ∧ b9 + 1 ≤ wr.heap.size ∧ St w wr [.box bx #[.slice ao ar.length ca, .slice co cs.length cc] 25, .box (bx + 1) #[.int .i64 g.kind, .int .i64 g.a, .int .i64 g.b, .int .i64 g.i, .int .i64 g.j, .bool g.turn, .slice po g.pl.length (g.pl.length + pc), .slice bo g.bs.length (g.bs.length + bc)] 35, .box (bx + 2) #[.slice none 0 0] 41, .box b9 #[.slice kf C.length (C.length + sf)] 41, .owns factE (b9 + 1) (fun c => q c ∨ b9 + 1 ≤ c) o (subC g.bs (C.take k))]) (fun _ i _ => C.length - (intOf i).toNat)
        case atStart => exact ⟨0, by omega, rfl, z6, S⟩
        case round =>
          clear S z6
          obtain ⟨k, hk, rfl, zr, S⟩ := hrel
          obtain ⟨v0, _⟩ := S.one 3
          by_cases hlt : k < C.length
          · have hlti : (k : Int) < (C.length : Int) := by omega
            obtain ⟨cb, coff, ka, sa, kb, sb, rfl, hpb, c0, c1, c2, c3, c4, t1, t2⟩ := (HFR.out.kept S.bel).fact hlt
            have hmm := treesF_mem2 hlt
            have HTK := Lib.hid (show subC g.bs (C.take (k + 1)) = subC g.bs (C.take k) ++ [⟨C[k].neg, C[k].l.sub g.bs, C[k].r.sub g.bs⟩] from map_take _ hlt)
            have HLX := Lib.hid (HCS.out.2 _ hmm.1)
            have HLY := Lib.hid (HCS.out.2 _ hmm.2)
            obtain ⟨X, hX⟩ : ∃ X, X = C[k].l := ⟨_, rfl⟩
            obtain ⟨Y, hY⟩ : ∃ Y, Y = C[k].r := ⟨_, rfl⟩
            obtain ⟨N, hN⟩ : ∃ N, N = C[k].neg := ⟨_, rfl⟩
            rw [← hX, ← hY, ← hN] at HTK
            rw [← hX] at c1 c2 t1 HLX
            rw [← hY] at c3 c4 t2 HLY
            rw [← hN] at c0
            have T1 := Lib.hid (show TreeP q w _ X from TreeP.carry (w' := w) (fun b hb _ => (S.bel.block b (HQ.out b hb)).symm) t1)
            have T2 := Lib.hid (show TreeP q w _ Y from TreeP.carry (w' := w) (fun b hb _ => (S.bel.block b (HQ.out b hb)).symm) t2)
            have HOW := Lib.hid (S.ownlt factE 4 rfl)
            obtain ⟨RL, hRL⟩ : ∃ RL, RL = subC g.bs (C.take k) := ⟨_, rfl⟩
            have hlk : RL.length = k := by rw [hRL]; simp [subC]; omega
            rw [← hRL] at S HTK
            have g7 := (S.cell 1 7 rfl).1
            have FC := Lib.hid (fun W (hb : Below wr.heap.size wr W) => (⟨Below.cellOf hb v0, Below.cellOf hb g7, Below.cellOf hb c0, Below.cellOf hb c1, Below.cellOf hb c2, Below.cellOf hb c3, Below.cellOf hb c4⟩ : (fun W => W.cell? ⟨b9, 0, none⟩ = some (.slice (some ⟨cb, coff, none⟩) C.length (C.length + sf)) ∧ W.cell? ⟨bx + 1, 7, none⟩ = some (.slice bo g.bs.length (g.bs.length + bc)) ∧ W.cell? ⟨cb, coff + k * 5, none⟩ = some (.bool N) ∧ W.cell? ⟨cb, coff + k * 5 + 1, none⟩ = some (.int .i64 X.head) ∧ W.cell? ⟨cb, coff + k * 5 + 2, none⟩ = some (.slice ka X.kids.length (X.kids.length + sa)) ∧ W.cell? ⟨cb, coff + k * 5 + 3, none⟩ = some (.int .i64 Y.head) ∧ W.cell? ⟨cb, coff + k * 5 + 4, none⟩ = some (.slice kb Y.kids.length (Y.kids.length + sb))) W))
            have SD := S.drew
            have B0 := Lib.hid (Below.refl wr.heap.size wr).drew
            go_upto_region 17 with fail
            clear S v0 g7 c0 c1 c2 c3 c4 t1 t2 hmm hX hY hN hRL
            refine wpH_region [27, 28] (fun W => W.cell? ⟨b9, 0, none⟩ = some (.slice (some ⟨cb, coff, none⟩) C.length (C.length + sf)) ∧ W.cell? ⟨bx + 1, 7, none⟩ = some (.slice bo g.bs.length (g.bs.length + bc)) ∧ W.cell? ⟨cb, coff + k * 5, none⟩ = some (.bool N) ∧ W.cell? ⟨cb, coff + k * 5 + 1, none⟩ = some (.int .i64 X.head) ∧ W.cell? ⟨cb, coff + k * 5 + 2, none⟩ = some (.slice ka X.kids.length (X.kids.length + sa)) ∧ W.cell? ⟨cb, coff + k * 5 + 3, none⟩ = some (.int .i64 Y.head) ∧ W.cell? ⟨cb, coff + k * 5 + 4, none⟩ = some (.slice kb Y.kids.length (Y.kids.length + sb))) (by kernel_rfl) ?_
            have HS := FC.out _ (Below.refl _ wr).drew
            refine wpH.take (i := 0) (by kernel_rfl) (by kernel_rfl) (by kernel_rfl) (by kernel_rfl) (by kernel_rfl) HS ?_
            intro oi ho
            simp only [List.getElem?_toArray, List.getElem?_cons_zero, Option.some.injEq] at ho
            subst ho
            refine ⟨?_, Or.inl ⟨by rfl, ?_⟩, fun _ _ _ h => h, ?_⟩
            rotate_left 1
            · intro W hW
              try dsimp only at hW
              go_simp
              try with_reducible rfl
            simp only [Act.put, List.setIfInBounds_toArray, List.set_cons_zero, List.set_cons_succ]
            refine wpH.take (i := 1) (by kernel_rfl) (by kernel_rfl) (by kernel_rfl) (by kernel_rfl) (by kernel_rfl) HS ?_
            intro oi ho
            simp only [List.getElem?_toArray, List.getElem?_cons_succ, List.getElem?_cons_zero, Option.some.injEq] at ho
            subst ho
            refine ⟨?_, Or.inl ⟨by rfl, ?_⟩, fun _ _ _ h => h, ?_⟩
            rotate_left 1
            · intro W hW
              try dsimp only at hW
              go_simp
              try with_reducible rfl
            simp only [Act.put, List.setIfInBounds_toArray, List.set_cons_zero, List.set_cons_succ]
            refine wpH.take (i := 2) (by kernel_rfl) (by kernel_rfl) (by kernel_rfl) (by kernel_rfl) (by kernel_rfl) HS ?_
            intro oi ho
            simp only [List.getElem?_toArray, List.getElem?_cons_succ, List.getElem?_cons_zero, Option.some.injEq] at ho
            subst ho
            refine ⟨?_, Or.inl ⟨by rfl, ?_⟩, fun _ _ _ h => h, ?_⟩
            rotate_left 1
            · intro W hW
              try dsimp only at hW
              go_simp
              try with_reducible rfl
            simp only [Act.put, List.setIfInBounds_toArray, List.set_cons_zero, List.set_cons_succ]
            refine wpH.take (i := 3) (by kernel_rfl) (by kernel_rfl) (by kernel_rfl) (by kernel_rfl) (by kernel_rfl) HS ?_
            intro oi ho
            simp only [List.getElem?_toArray, List.getElem?_cons_succ, List.getElem?_cons_zero, Option.some.injEq] at ho
            subst ho
            refine ⟨?_, Or.inl ⟨by rfl, ?_⟩, fun _ _ _ h => h, ?_⟩
            rotate_left 1
            · intro W hW
              try dsimp only at hW
              go_simp
              try with_reducible rfl
            simp only [Act.put, List.setIfInBounds_toArray, List.set_cons_zero, List.set_cons_succ]
            refine wpH.take (i := 4) (by kernel_rfl) (by kernel_rfl) (by kernel_rfl) (by kernel_rfl) (by kernel_rfl) HS ?_
            intro oi ho
            simp only [List.getElem?_toArray, List.getElem?_cons_succ, List.getElem?_cons_zero, Option.some.injEq] at ho
            subst ho
            refine ⟨?_, Or.inl ⟨by rfl, ?_⟩, fun _ _ _ h => h, ?_⟩
            rotate_left 1
            · intro W hW
              try dsimp only at hW
              go_simp
              try with_reducible rfl
            simp only [Act.put, List.setIfInBounds_toArray, List.set_cons_zero, List.set_cons_succ]
            refine wpH.take (i := 5) (by kernel_rfl) (by kernel_rfl) (by kernel_rfl) (by kernel_rfl) (by kernel_rfl) HS ?_
            intro oi ho
            simp only [List.getElem?_toArray, List.getElem?_cons_succ, List.getElem?_cons_zero, Option.some.injEq] at ho
            subst ho
            refine ⟨?_, Or.inl ⟨by rfl, ?_⟩, fun _ _ _ h => h, ?_⟩
            rotate_left 1
            · intro W hW
              try dsimp only at hW
              go_simp
              try with_reducible rfl
            simp only [Act.put, List.setIfInBounds_toArray, List.set_cons_zero, List.set_cons_succ]
            refine wpH.take (i := 6) (by kernel_rfl) (by kernel_rfl) (by kernel_rfl) (by kernel_rfl) (by kernel_rfl) HS ?_
            intro oi ho
            simp only [List.getElem?_toArray, List.getElem?_cons_succ, List.getElem?_cons_zero, Option.some.injEq] at ho
            subst ho
            refine ⟨?_, Or.inl ⟨by rfl, ?_⟩, fun _ _ _ h => h, ?_⟩
            rotate_left 1
            · intro W hW
              try dsimp only at hW
              go_simp
              try with_reducible rfl
            simp only [Act.put, List.setIfInBounds_toArray, List.set_cons_zero, List.set_cons_succ]
            refine wpH.take (i := 7) (by kernel_rfl) (by kernel_rfl) (by kernel_rfl) (by kernel_rfl) (by kernel_rfl) HS ?_
            intro oi ho
            simp only [List.getElem?_toArray, List.getElem?_cons_succ, List.getElem?_cons_zero, Option.some.injEq] at ho
            subst ho
            refine ⟨?_, Or.inl ⟨by rfl, ?_⟩, fun _ _ _ h => h, ?_⟩
            rotate_left 1
            · intro W hW
              try dsimp only at hW
              go_simp
              try with_reducible rfl
            simp only [Act.put, List.setIfInBounds_toArray, List.set_cons_zero, List.set_cons_succ]
            refine wpH.take (i := 8) (by kernel_rfl) (by kernel_rfl) (by kernel_rfl) (by kernel_rfl) (by kernel_rfl) HS ?_
            intro oi ho
            simp only [List.getElem?_toArray, List.getElem?_cons_succ, List.getElem?_cons_zero, Option.some.injEq] at ho
            subst ho
            refine ⟨?_, Or.inl ⟨by rfl, ?_⟩, fun _ _ _ h => h, ?_⟩
            rotate_left 1
            · intro W hW
              try dsimp only at hW
              go_simp
              try with_reducible rfl
            simp only [Act.put, List.setIfInBounds_toArray, List.set_cons_zero, List.set_cons_succ]
            refine wpH.take (i := 9) (by kernel_rfl) (by kernel_rfl) (by kernel_rfl) (by kernel_rfl) (by kernel_rfl) HS ?_
            intro oi ho
            simp only [List.getElem?_toArray, List.getElem?_cons_succ, List.getElem?_cons_zero, Option.some.injEq] at ho
            subst ho
            refine ⟨?_, Or.inl ⟨by rfl, ?_⟩, fun _ _ _ h => h, ?_⟩
            rotate_left 1
            · intro W hW
              try dsimp only at hW
              go_simp
              try with_reducible rfl
            simp only [Act.put, List.setIfInBounds_toArray, List.set_cons_zero, List.set_cons_succ]
            refine wpH.take (i := 10) (by kernel_rfl) (by kernel_rfl) (by kernel_rfl) (by kernel_rfl) (by kernel_rfl) HS ?_
            intro oi ho
            simp only [List.getElem?_toArray, List.getElem?_cons_succ, List.getElem?_cons_zero, Option.some.injEq] at ho
            subst ho
            refine ⟨?_, Or.inl ⟨by rfl, ?_⟩, fun _ _ _ h => h, ?_⟩
            rotate_left 1
            · intro W hW
              try dsimp only at hW
              go_simp
              try with_reducible rfl
            simp only [Act.put, List.setIfInBounds_toArray, List.set_cons_zero, List.set_cons_succ]
            refine wpH.take (i := 11) (by kernel_rfl) (by kernel_rfl) (by kernel_rfl) (by kernel_rfl) (by kernel_rfl) HS ?_
            intro oi ho
            simp only [List.getElem?_toArray, List.getElem?_cons_succ, List.getElem?_cons_zero, Option.some.injEq] at ho
            subst ho
            refine ⟨?_, Or.inl ⟨by rfl, ?_⟩, fun _ _ _ h => h, ?_⟩
            rotate_left 1
            · intro W hW
              try dsimp only at hW
              go_simp
              try with_reducible rfl
            simp only [Act.put, List.setIfInBounds_toArray, List.set_cons_zero, List.set_cons_succ]
            refine wpH.take (i := 12) (by kernel_rfl) (by kernel_rfl) (by kernel_rfl) (by kernel_rfl) (by kernel_rfl) HS ?_
            intro oi ho
            simp only [List.getElem?_toArray, List.getElem?_cons_succ, List.getElem?_cons_zero, Option.some.injEq] at ho
            subst ho
            refine ⟨?_, Or.inl ⟨by rfl, ?_⟩, fun _ _ _ h => h, ?_⟩
            rotate_left 1
            · intro W hW
              try dsimp only at hW
              go_simp
              try with_reducible rfl
            simp only [Act.put, List.setIfInBounds_toArray, List.set_cons_zero, List.set_cons_succ]
            refine wpH.take (i := 13) (by kernel_rfl) (by kernel_rfl) (by kernel_rfl) (by kernel_rfl) (by kernel_rfl) HS ?_
            intro oi ho
            simp only [List.getElem?_toArray, List.getElem?_cons_succ, List.getElem?_cons_zero, Option.some.injEq] at ho
            subst ho
            refine ⟨?_, Or.inl ⟨by rfl, ?_⟩, fun _ _ _ h => h, ?_⟩
            rotate_left 1
            · intro W hW
              try dsimp only at hW
              go_simp
              try with_reducible rfl
            simp only [Act.put, List.setIfInBounds_toArray, List.set_cons_zero, List.set_cons_succ]
            refine wpH.take (i := 14) (by kernel_rfl) (by kernel_rfl) (by kernel_rfl) (by kernel_rfl) (by kernel_rfl) HS ?_
            intro oi ho
            simp only [List.getElem?_toArray, List.getElem?_cons_succ, List.getElem?_cons_zero, Option.some.injEq] at ho
            subst ho
            refine ⟨?_, Or.inl ⟨by rfl, ?_⟩, fun _ _ _ h => h, ?_⟩
            rotate_left 1
            · intro W hW
              try dsimp only at hW
              go_simp
              try with_reducible rfl
            simp only [Act.put, List.setIfInBounds_toArray, List.set_cons_zero, List.set_cons_succ]
            refine wpH.take (i := 16) (by kernel_rfl) (by kernel_rfl) (by kernel_rfl) (by kernel_rfl) (by kernel_rfl) HS ?_
            intro oi ho
            simp only [List.getElem?_toArray, List.getElem?_cons_succ, List.getElem?_cons_zero, Option.some.injEq] at ho
            subst ho
            refine ⟨?_, Or.inl ⟨by rfl, ?_⟩, fun _ _ _ h => h, ?_⟩
            rotate_left 1
            · intro W hW
              try dsimp only at hW
              go_simp
              try with_reducible rfl
            simp only [Act.put, List.setIfInBounds_toArray, List.set_cons_zero, List.set_cons_succ]
            refine wpH.take (i := 17) (by kernel_rfl) (by kernel_rfl) (by kernel_rfl) (by kernel_rfl) (by kernel_rfl) HS ?_
            intro oi ho
            simp only [List.getElem?_toArray, List.getElem?_cons_succ, List.getElem?_cons_zero, Option.some.injEq] at ho
            subst ho
            refine ⟨?_, Or.inl ⟨by rfl, ?_⟩, fun _ _ _ h => h, ?_⟩
            rotate_left 1
            · intro W hW
              try dsimp only at hW
              go_simp
              try with_reducible rfl
            simp only [Act.put, List.setIfInBounds_toArray, List.set_cons_zero, List.set_cons_succ]
            refine wpH.take (i := 18) (by kernel_rfl) (by kernel_rfl) (by kernel_rfl) (by kernel_rfl) (by kernel_rfl) HS ?_
            intro oi ho
            simp only [List.getElem?_toArray, List.getElem?_cons_succ, List.getElem?_cons_zero, Option.some.injEq] at ho
            subst ho
            refine ⟨?_, Or.inl ⟨by rfl, ?_⟩, fun _ _ _ h => h, ?_⟩
            rotate_left 1
            · intro W hW
              try dsimp only at hW
              go_simp
              try with_reducible rfl
            simp only [Act.put, List.setIfInBounds_toArray, List.set_cons_zero, List.set_cons_succ]
            refine wpH.take (i := 19) (by kernel_rfl) (by kernel_rfl) (by kernel_rfl) (by kernel_rfl) (by kernel_rfl) HS ?_
            intro oi ho
            simp only [List.getElem?_toArray, List.getElem?_cons_succ, List.getElem?_cons_zero, Option.some.injEq] at ho
            subst ho
            refine ⟨?_, Or.inl ⟨by rfl, ?_⟩, fun _ _ _ h => h, ?_⟩
            rotate_left 1
            · intro W hW
              try dsimp only at hW
              go_simp
              try with_reducible rfl
            simp only [Act.put, List.setIfInBounds_toArray, List.set_cons_zero, List.set_cons_succ]
            refine wpH.take (i := 20) (by kernel_rfl) (by kernel_rfl) (by kernel_rfl) (by kernel_rfl) (by kernel_rfl) HS ?_
            intro oi ho
            simp only [List.getElem?_toArray, List.getElem?_cons_succ, List.getElem?_cons_zero, Option.some.injEq] at ho
            subst ho
            refine ⟨?_, Or.inl ⟨by rfl, ?_⟩, fun _ _ _ h => h, ?_⟩
            rotate_left 1
            · intro W hW
              try dsimp only at hW
              go_simp
              try with_reducible rfl
            simp only [Act.put, List.setIfInBounds_toArray, List.set_cons_zero, List.set_cons_succ]
            refine wpH.take (i := 21) (by kernel_rfl) (by kernel_rfl) (by kernel_rfl) (by kernel_rfl) (by kernel_rfl) HS ?_
            intro oi ho
            simp only [List.getElem?_toArray, List.getElem?_cons_succ, List.getElem?_cons_zero, Option.some.injEq] at ho
            subst ho
            refine ⟨?_, Or.inl ⟨by rfl, ?_⟩, fun _ _ _ h => h, ?_⟩
            rotate_left 1
            · intro W hW
              try dsimp only at hW
              go_simp
              try with_reducible rfl
            simp only [Act.put, List.setIfInBounds_toArray, List.set_cons_zero, List.set_cons_succ]
            refine wpH.take (i := 22) (by kernel_rfl) (by kernel_rfl) (by kernel_rfl) (by kernel_rfl) (by kernel_rfl) HS ?_
            intro oi ho
            simp only [List.getElem?_toArray, List.getElem?_cons_succ, List.getElem?_cons_zero, Option.some.injEq] at ho
            subst ho
            refine ⟨?_, Or.inl ⟨by rfl, ?_⟩, fun _ _ _ h => h, ?_⟩
            rotate_left 1
            · intro W hW
              try dsimp only at hW
              go_simp
              try with_reducible rfl
            simp only [Act.put, List.setIfInBounds_toArray, List.set_cons_zero, List.set_cons_succ]
            refine wpH.take (i := 23) (by kernel_rfl) (by kernel_rfl) (by kernel_rfl) (by kernel_rfl) (by kernel_rfl) HS ?_
            intro oi ho
            simp only [List.getElem?_toArray, List.getElem?_cons_succ, List.getElem?_cons_zero, Option.some.injEq] at ho
            subst ho
            refine ⟨?_, Or.inl ⟨by rfl, ?_⟩, fun _ _ _ h => h, ?_⟩
            rotate_left 1
            · intro W hW
              try dsimp only at hW
              go_simp
              try with_reducible rfl
            simp only [Act.put, List.setIfInBounds_toArray, List.set_cons_zero, List.set_cons_succ]
            refine wpH.one (i := 15) (by kernel_rfl) ?_
            intro oi ho
            simp only [List.getElem?_toArray, List.getElem?_cons_succ, List.getElem?_cons_zero, Option.some.injEq] at ho
            subst ho
            intro K hK
            have HK := Lib.hid hK
            clear hK
            go_simp
            go_at_call 60
            refine (SD.madeP (with19 g.bs X q _ _ _ wr.drew (fun b h => Nat.lt_of_lt_of_le (HQ.out b h) SD.bel.size) (by have := HBK.out.1; omega) (T1.out.kept SD.bel) ((HB.out.kept SD.bel).rowP) HLX.out.2 (by have := HLX.out.1; omega))).mono ?_
            rintro e wa ⟨k4, s4, rfl, hzwa, HB4x', S4⟩
            have HB4x := Lib.hid (Below.step B0.out HB4x')
            dsimp only
            refine HK.out _ _ (fun _ => FC.out _ HB4x.out) ?_
            have HS := FC.out _ HB4x.out
            try simp only [Act.put, List.setIfInBounds_toArray, List.set_cons_zero, List.set_cons_succ]
            refine wpH.one (i := 24) (by kernel_rfl) ?_
            intro oi ho
            simp only [List.getElem?_toArray, List.getElem?_cons_succ, List.getElem?_cons_zero, Option.some.injEq] at ho
            subst ho
            intro K hK
            have HK := Lib.hid hK
            clear hK
            go_simp
            go_at_call 60
            refine (S4.madeP (with19 g.bs Y q _ _ _ wa (fun b h => Nat.lt_of_lt_of_le (HQ.out b h) S4.bel.size) (by have := HBK.out.1; omega) (T2.out.kept S4.bel) ((HB.out.kept S4.bel).rowP) HLY.out.2 (by have := HLY.out.1; omega))).mono ?_
            rintro e wb ⟨k5, s5, rfl, hzwb, HB5x', S5⟩
            have HB5x := Lib.hid (Below.step HB4x.out HB5x')
            dsimp only
            refine HK.out _ _ (fun _ => FC.out _ HB5x.out) ?_
            have HS := FC.out _ HB5x.out
            try simp only [Act.put, List.setIfInBounds_toArray, List.set_cons_zero, List.set_cons_succ]
            refine wpH.take (i := 25) (by kernel_rfl) (by kernel_rfl) (by kernel_rfl) (by kernel_rfl) (by kernel_rfl) HS ?_
            intro oi ho
            simp only [List.getElem?_toArray, List.getElem?_cons_succ, List.getElem?_cons_zero, Option.some.injEq] at ho
            subst ho
            refine ⟨?_, Or.inl ⟨by rfl, ?_⟩, fun _ _ _ h => h, ?_⟩
            rotate_left 1
            · intro W hW
              try dsimp only at hW
              go_simp
              try with_reducible rfl
            simp only [Act.put, List.setIfInBounds_toArray, List.set_cons_zero, List.set_cons_succ]
            refine wpH.one (i := 26) (by kernel_rfl) ?_
            intro oi ho
            simp only [List.getElem?_toArray, List.getElem?_cons_succ, List.getElem?_cons_zero, Option.some.injEq] at ho
            subst ho
            intro K hK
            have HK := Lib.hid hK
            clear hK
            go_simp
            have HB6x := Lib.hid (HB5x.out.alloc HB5x.out.size (.cells #[.bool N, .int .i64 (X.sub g.bs).head, .slice k4 (X.sub g.bs).kids.length ((X.sub g.bs).kids.length + s4), .int .i64 (Y.sub g.bs).head, .slice k5 (Y.sub g.bs).kids.length ((Y.sub g.bs).kids.length + s5)] 62))
            refine HK.out _ _ (fun _ => FC.out _ HB6x.out) ?_
            have HS := FC.out _ HB6x.out
            try simp only [Act.put, List.setIfInBounds_toArray, List.set_cons_zero, List.set_cons_succ]
            refine wpH.one (i := 27) (by kernel_rfl) ?_
            intro oi ho
            simp only [List.getElem?_toArray, List.getElem?_cons_succ, List.getElem?_cons_zero, Option.some.injEq] at ho
            subst ho
            intro K hK
            have HK := Lib.hid hK
            clear hK
            refine step_app (by rfl) (.tmp 76) (.tmp 102) 39 (by rfl) factE S5 4 rfl (x := ⟨N, X.sub g.bs, Y.sub g.bs⟩) (q := fun b => q b ∨ (wr.heap.size ≤ b ∧ b < wb.heap.size)) (p' := fun b => q b ∨ b9 + 1 ≤ b) ⟨k4, s4, k5, s5, rfl, (S5.treeP 5).mono (fun b h _ => by rcases h with h | h; exact .inl h; exact .inr ⟨h.1, by have := h.2; have := hzwb; omega⟩), (S5.treeP 6).mono (fun b h _ => by rcases h with h | h; exact .inl h; exact .inr ⟨by have h1 : wa.heap.size ≤ b := h.1; have h2 : wr.heap.size ≤ wa.heap.size := hzwa; omega, h.2⟩)⟩ Try.underlying39 gi gz0 gz1 gz2 (by rfl) (by rfl) (by rfl) (by rfl) (by unfold maxLen; omega) (by omega) (by have h1 : wr.heap.size ≤ wa.heap.size := hzwa; have h2 : wa.heap.size ≤ wb.heap.size := hzwb; omega) (by have := HBX.out; have := HB9.out; omega) (fun bb h1 h2 h3 => by have h4 := HOW.out bb h1; have h9 := HB9.out; have hx := HBX.out; have h7 : wr.heap.size ≤ wa.heap.size := hzwa; simp only [fsnoc, offs, offAll, Fct.box, Fct.treeP, and_true]; exact ⟨by omega, by omega, by omega, by omega, fun e => e.elim (fun e => by have := HQ.out _ e; omega) (fun e => by have h8 : wr.heap.size ≤ bb := e.1; omega), fun e => e.elim (fun e => by have := HQ.out _ e; omega) (fun e => by have h8 : wa.heap.size ≤ bb := e.1; omega)⟩) (fun bb h1 h2 => by have h4 := HOW.out bb h2; have h9 := HB9.out; have hx := HBX.out; rcases h1 with h1 | h1; have := HQ.out _ h1; omega; have := h1.1; omega) (fun bb h1 => by rcases h1 with h1 | h1; exact h1; rcases h1 with h1 | h1; exact .inl h1; exact .inr (by have h5 := h1.1; omega)) ?_
            intro gg cap w6 S6 hs6 hgg hat6
            refine HK.out _ _ (fun h => absurd h (by decide)) ?_
            try simp only [Act.put, List.setIfInBounds_toArray, List.set_cons_zero, List.set_cons_succ]
            refine wpH.one (i := 28) (by kernel_rfl) ?_
            intro oi ho
            simp only [List.getElem?_toArray, List.getElem?_cons_succ, List.getElem?_cons_zero, Option.some.injEq] at ho
            subst ho
            intro K hK
            have HK := Lib.hid hK
            clear hK
            go_simp
            refine HK.out _ _ (fun h => absurd h (by decide)) ?_
            try simp only [Act.put, List.setIfInBounds_toArray, List.set_cons_zero, List.set_cons_succ]
            refine wpH.done (by kernel_rfl) ?_
            have S7 := (S6.pick [0, 1, 2, 3, 4])
            have S8 := Lib.hid (show St w w6 [.box bx #[.slice ao ar.length ca, .slice co cs.length cc] 25, .box (bx + 1) #[.int .i64 g.kind, .int .i64 g.a, .int .i64 g.b, .int .i64 g.i, .int .i64 g.j, .bool g.turn, .slice po g.pl.length (g.pl.length + pc), .slice bo g.bs.length (g.bs.length + bc)] 35, .box (bx + 2) #[.slice none 0 0] 41, .box b9 #[.slice (some ⟨cb, coff, none⟩) C.length (C.length + sf)] 41, .owns factE (b9 + 1) (fun c => q c ∨ b9 + 1 ≤ c) (.slice (some ⟨gg, 0, none⟩) (k + 1) cap) (subC g.bs (C.take (k + 1)))] by rw [HTK.out]; rw [hlk] at S7; exact S7)
            have z9 : b9 + 1 ≤ w6.heap.size := by have h7 : wr.heap.size ≤ wa.heap.size := hzwa; have h8 : wa.heap.size ≤ wb.heap.size := hzwb; omega
            clear S7 S6 S5 S4 SD hlk
            go_wp2_with fail
            go_roundw
            case rel => exact ⟨k + 1, by omega, by go_num, z9, S8.out⟩
            case measure => simp [intOf] <;> omega
          · obtain rfl : k = C.length := by omega
            rw [List.take_length] at S
            have hb9x := HB9.out
            obtain ⟨ro, rsp, rfl, hrw, _⟩ := (show factE.Own (fun c => q c ∨ b9 + 1 ≤ c) (b9 + 1) wr _ (subC g.bs C) from S.owns factE 4).row (fun b h => Or.inr h)
            have hl3 := S.lt 3
            have SG := Lib.hid ((S.set1 3 rfl (.slice ro (subC g.bs C).length ((subC g.bs C).length + rsp)) (by have := HBX.out; omega) (by
              have HOW := S.ownlt factE 4 rfl
              simp only [offs, offAll, Fct.box, Fct.owns, and_true]
              refine ⟨by omega, by omega, by omega, fun e => ?_⟩
              rcases e with e | e
              · have := (HOW b9 e).1
                omega
              · rcases e with e | e
                · have := HQ.out _ e
                  have := HBX.out
                  omega
                · omega)).pick [0, 1, 2, 3])
            have HRW := Lib.hid (show factE.Row (fun b => q b ∨ b9 < b) (wr.setCell ⟨b9, 0, none⟩ (.slice ro (subC g.bs C).length ((subC g.bs C).length + rsp))) ro (subC g.bs C) from hrw.keep (fun b h1 h2 => ⟨Below.heap_setCell _ _ _ _ (by show b ≠ b9; have hx := HBX.out; rcases h1 with h1 | h1; have := HQ.out _ h1; omega; omega), by rcases h1 with h1 | h1; exact .inl h1; exact .inr (by omega)⟩))
            have z9 : b9 + 1 ≤ (wr.setCell ⟨b9, 0, none⟩ (.slice ro (subC g.bs C).length ((subC g.bs C).length + rsp))).heap.size := by simp; omega
            clear S hrw hb9x
            go_wp2_with fail
            go_meet
            case rel => exact ⟨ro, rsp, subC g.bs C, z9, SG.out, HRW.out, HO, HN⟩
      · have hcb : (c != 0) = true := by simp [hc]
        have hw0 : bx + 3 ≤ b9 := HB9.out
        have hw1 : bx + 4 ≤ w3.heap.size := by omega
        subst hb10
        have HD := Lib.hid (show stepF ar cs known g = ([], c) by
          unfold stepF
          rw [if_neg HR.out, if_neg (by
            rw [HFL.out]
            intro h
            rcases h with h | h
            · exact HI.out (.inl h)
            · have := H2.out
              omega), if_pos ⟨H2.out, by rw [hcd.out]; exact hc⟩, hcd.out])
        obtain ⟨⟨x0, _⟩, x1, _⟩ := S4.two 4
        obtain ⟨r0, r1⟩ := S4.one 2
        have SG := Lib.hid (S4.set1 2 rfl (.slice none 0 0) (by have := HBX.out; omega) (by simp only [fsnoc, offs, offAll, Fct.box, and_true]; have := HB9.out; have := HB10.out; omega))
        have hl2 := S4.lt 2
        clear S4 hc
        go_wp2_with fail
        go_region
        all_goals (try go_wp2_with fail)
        all_goals
          refine bodyPost_ret (v := .tuple #[.agg #[.slice none 0 0], .int .i64 c]) ?_ rfl ?_
          · obtain ⟨q0, _⟩ := SG.out.one 2
            simp [results, Try.results19, go_sem, q0]
          · exact GotP.bad HD.out SG.out.drew.bel
  case rest =>
  obtain ⟨oo, osp, O, zc, SC, hro, HOX, HNB⟩ := hcut
  have HRO := Lib.hid hro
  clear S g0 hd2 hro z2
  obtain ⟨g0, _⟩ := SC.cell 1 0 rfl
  obtain ⟨d3, hd3⟩ : ∃ d, (g.kind == 3) = d := ⟨_, rfl⟩
  go_upto_if 108 with fail
  go_cut [] (fun W => ∃ (o3 : Option Addr) (s3 : Nat) (O3 : List Fc), b9 + 1 ≤ W.heap.size ∧ St w W [.box bx #[.slice ao ar.length ca, .slice co cs.length cc] 25, .box (bx + 1) #[.int .i64 g.kind, .int .i64 g.a, .int .i64 g.b, .int .i64 g.i, .int .i64 g.j, .bool g.turn, .slice po g.pl.length (g.pl.length + pc), .slice bo g.bs.length (g.bs.length + bc)] 35, .box (bx + 2) #[.slice none 0 0] 41, .box b9 #[.slice o3 O3.length (O3.length + s3)] 41] ∧ factE.Row (fun b => q b ∨ b9 < b) W o3 O3 ∧ Hid (O3 = if g.kind = 3 then (rightF (gC known g.a) (gC known g.b) g).1 else O) ∧ Hid (¬ (g.kind = 3 ∧ (rightF (gC known g.a) (gC known g.b) g).2 ≠ 0)))
  case first =>
    as_aux_lemma =>
    cases d3 with
    | false =>
      have h3 : ¬ g.kind = 3 := by simpa using hd3
      have HO := Lib.hid (show O = if g.kind = 3 then (rightF (gC known g.a) (gC known g.b) g).1 else O by rw [if_neg h3])
      have HN := Lib.hid (show ¬ (g.kind = 3 ∧ (rightF (gC known g.a) (gC known g.b) g).2 ≠ 0) from fun h => h3 h.1)
      have SB := Lib.hid SC
      clear SC h3 hd3
      go_wp2_with fail
      go_meet
      case rel => exact ⟨oo, osp, O, zc, SB.out, HRO.out, HO, HN⟩
    | true =>
      have h3 : g.kind = 3 := by simpa using hd3
      have H3 := Lib.hid h3
      have hOC : C = O := by rw [HOX.out, if_neg (by omega)]
      subst hOC
      have hFk : F = known := by rw [HF.out, if_neg (by omega)]
      have hbl : inL g.b F.length := Classical.byContradiction fun h => HI.out (.inr ⟨h3, h⟩)
      obtain ⟨hbl0, hbl1⟩ := hbl
      obtain ⟨B, hBB⟩ : ∃ B : Nat, (B : Int) = g.b := ⟨g.b.toNat, by omega⟩
      have hBF : B < F.length := by omega
      have hBi : (B : Int) < (F.length : Int) := by omega
      obtain ⟨fb2, foff2, kc, sc, hfo, cb0, hrb⟩ := HRW.out B hBF
      simp only [Option.some.injEq, Addr.mk.injEq] at hfo
      obtain ⟨rfl, rfl, _⟩ := hfo
      obtain ⟨CB, hCB⟩ : ∃ X, X = F[B] := ⟨_, rfl⟩
      have HSB := Lib.hid (code_small (show codeF ar CB = 0 from HKO.out CB (by rw [hCB, ← hFk]; exact List.getElem_mem hBF)))
      have HCB := Lib.hid (show gC known g.b = CB by subst hFk; rw [gC_at hBB hBF, hCB])
      have HCA := Lib.hid (HCE2.out (show g.kind ≠ 1 by omega))
      rw [← hCB] at cb0 hrb
      have HRB := Lib.hid hrb; have HB1 := Lib.hid hBB
      have hb0 := Below.cellOf SC.bel cb0
      have CPL := Lib.hid (show ∀ W, Below w.heap.size w W → CellsAt W po g.pl.length (fun j => .int .i64 (gI g.pl j)) from fun W hb j hj => by
        obtain ⟨b, off, e, _, h4⟩ := (HPL.out.kept hb).int hj
        exact ⟨b, off, e, by rw [h4]; show _ = some (Value.int .i64 (g.pl.getD j 0)); rw [List.getD_eq_getElem?_getD, List.getElem?_eq_getElem hj]; rfl⟩)
      have g1 := (SC.cell 1 1 rfl).1
      have g2 := (SC.cell 1 2 rfl).1
      have g3 := (SC.cell 1 3 rfl).1
      have g4 := (SC.cell 1 4 rfl).1
      have g5 := (SC.cell 1 5 rfl).1
      have g6 := (SC.cell 1 6 rfl).1
      have g7 := (SC.cell 1 7 rfl).1
      have v0 := (SC.one 3).1
      have FC := Lib.hid (fun W (hb : Below wc.heap.size wc W) => (⟨Below.cellOf hb g0, Below.cellOf hb g1, by have h := Below.cellOf hb g2; rw [HB1.out]; exact h, Below.cellOf hb g3, Below.cellOf hb g4, Below.cellOf hb g5, Below.cellOf hb g6, Below.cellOf hb g7, Below.cellOf hb v0, Below.cellOf hb hb0⟩ : (fun W => W.cell? ⟨bx + 1, 0, none⟩ = some (.int .i64 g.kind) ∧ W.cell? ⟨bx + 1, 1, none⟩ = some (.int .i64 g.a) ∧ W.cell? ⟨bx + 1, 2, none⟩ = some (.int .i64 (B : Int)) ∧ W.cell? ⟨bx + 1, 3, none⟩ = some (.int .i64 g.i) ∧ W.cell? ⟨bx + 1, 4, none⟩ = some (.int .i64 g.j) ∧ W.cell? ⟨bx + 1, 5, none⟩ = some (.bool g.turn) ∧ W.cell? ⟨bx + 1, 6, none⟩ = some (.slice po g.pl.length (g.pl.length + pc)) ∧ W.cell? ⟨bx + 1, 7, none⟩ = some (.slice bo g.bs.length (g.bs.length + bc)) ∧ W.cell? ⟨b9, 0, none⟩ = some (.slice oo C.length (C.length + osp)) ∧ W.cell? ⟨fb, foff + B, none⟩ = some (.slice kc CB.length (CB.length + sc))) W))
      have SC0 := Lib.hid SC.bel
      have SD := SC.drew
      have B0x : Hid (Below wc.heap.size wc wc.drew) := Lib.hid (Below.refl _ wc).drew
      have HRT := Lib.hid (show (rightF (gC known g.a) (gC known g.b) g) = rightF C CB g by rw [HCA.out, HCB.out])
      clear hFk h3 hd3 hrb cb0 hb0 g1 g2 g3 g4 g5 g6 g7 v0 hBB hCB hbl0 hbl1 SC g0
      go_upto_region 20 with fail
      go_cut [13, 14] (fun t13 t14 W => ∃ (b13 : Nat) (ro : Option Addr) (rsp : Nat), t13 = .pointer (some ⟨b13, 0, none⟩) ∧ t14 = .int .i64 (rightF C CB g).2 ∧ b9 + 1 ≤ b13 ∧ St w W [.box bx #[.slice ao ar.length ca, .slice co cs.length cc] 25, .box (bx + 1) #[.int .i64 g.kind, .int .i64 g.a, .int .i64 g.b, .int .i64 g.i, .int .i64 g.j, .bool g.turn, .slice po g.pl.length (g.pl.length + pc), .slice bo g.bs.length (g.bs.length + bc)] 35, .box (bx + 2) #[.slice none 0 0] 41, .box b9 #[.slice oo C.length (C.length + osp)] 41, .box b13 #[.slice ro (rightF C CB g).1.length ((rightF C CB g).1.length + rsp)] 41] ∧ factE.Row (fun b => q b ∨ b9 < b) W ro (rightF C CB g).1)
      case first =>
        refine wpH_region [13] (fun W => W.cell? ⟨bx + 1, 0, none⟩ = some (.int .i64 g.kind) ∧ W.cell? ⟨bx + 1, 1, none⟩ = some (.int .i64 g.a) ∧ W.cell? ⟨bx + 1, 2, none⟩ = some (.int .i64 (B : Int)) ∧ W.cell? ⟨bx + 1, 3, none⟩ = some (.int .i64 g.i) ∧ W.cell? ⟨bx + 1, 4, none⟩ = some (.int .i64 g.j) ∧ W.cell? ⟨bx + 1, 5, none⟩ = some (.bool g.turn) ∧ W.cell? ⟨bx + 1, 6, none⟩ = some (.slice po g.pl.length (g.pl.length + pc)) ∧ W.cell? ⟨bx + 1, 7, none⟩ = some (.slice bo g.bs.length (g.bs.length + bc)) ∧ W.cell? ⟨b9, 0, none⟩ = some (.slice oo C.length (C.length + osp)) ∧ W.cell? ⟨fb, foff + B, none⟩ = some (.slice kc CB.length (CB.length + sc))) (by kernel_rfl) ?_
        have HS := FC.out _ (Below.refl _ wc).drew
        refine wpH.take (i := 0) (by kernel_rfl) (by kernel_rfl) (by kernel_rfl) (by kernel_rfl) (by kernel_rfl) HS ?_
        intro oi ho
        simp only [List.getElem?_toArray, List.getElem?_cons_zero, Option.some.injEq] at ho
        subst ho
        refine ⟨?_, Or.inl ⟨by rfl, ?_⟩, fun _ _ _ h => h, ?_⟩
        rotate_left 1
        · intro W hW
          try dsimp only at hW
          go_simp
          try with_reducible rfl
        simp only [Act.put, List.setIfInBounds_toArray, List.set_cons_zero, List.set_cons_succ]
        refine wpH.take (i := 1) (by kernel_rfl) (by kernel_rfl) (by kernel_rfl) (by kernel_rfl) (by kernel_rfl) HS ?_
        intro oi ho
        simp only [List.getElem?_toArray, List.getElem?_cons_succ, List.getElem?_cons_zero, Option.some.injEq] at ho
        subst ho
        refine ⟨?_, Or.inl ⟨by rfl, ?_⟩, fun _ _ _ h => h, ?_⟩
        rotate_left 1
        · intro W hW
          try dsimp only at hW
          go_simp
          try with_reducible rfl
        simp only [Act.put, List.setIfInBounds_toArray, List.set_cons_zero, List.set_cons_succ]
        refine wpH.take (i := 2) (by kernel_rfl) (by kernel_rfl) (by kernel_rfl) (by kernel_rfl) (by kernel_rfl) HS ?_
        intro oi ho
        simp only [List.getElem?_toArray, List.getElem?_cons_succ, List.getElem?_cons_zero, Option.some.injEq] at ho
        subst ho
        refine ⟨?_, Or.inl ⟨by rfl, ?_⟩, fun _ _ _ h => h, ?_⟩
        rotate_left 1
        · intro W hW
          try dsimp only at hW
          go_simp
          try with_reducible rfl
        simp only [Act.put, List.setIfInBounds_toArray, List.set_cons_zero, List.set_cons_succ]
        refine wpH.take (i := 3) (by kernel_rfl) (by kernel_rfl) (by kernel_rfl) (by kernel_rfl) (by kernel_rfl) HS ?_
        intro oi ho
        simp only [List.getElem?_toArray, List.getElem?_cons_succ, List.getElem?_cons_zero, Option.some.injEq] at ho
        subst ho
        refine ⟨?_, Or.inl ⟨by rfl, ?_⟩, fun _ _ _ h => h, ?_⟩
        rotate_left 1
        · intro W hW
          try dsimp only at hW
          go_simp
          try with_reducible rfl
        simp only [Act.put, List.setIfInBounds_toArray, List.set_cons_zero, List.set_cons_succ]
        refine wpH.take (i := 4) (by kernel_rfl) (by kernel_rfl) (by kernel_rfl) (by kernel_rfl) (by kernel_rfl) HS ?_
        intro oi ho
        simp only [List.getElem?_toArray, List.getElem?_cons_succ, List.getElem?_cons_zero, Option.some.injEq] at ho
        subst ho
        refine ⟨?_, Or.inl ⟨by rfl, ?_⟩, fun _ _ _ h => h, ?_⟩
        rotate_left 1
        · intro W hW
          try dsimp only at hW
          go_simp
          try with_reducible rfl
        simp only [Act.put, List.setIfInBounds_toArray, List.set_cons_zero, List.set_cons_succ]
        refine wpH.take (i := 5) (by kernel_rfl) (by kernel_rfl) (by kernel_rfl) (by kernel_rfl) (by kernel_rfl) HS ?_
        intro oi ho
        simp only [List.getElem?_toArray, List.getElem?_cons_succ, List.getElem?_cons_zero, Option.some.injEq] at ho
        subst ho
        refine ⟨?_, Or.inl ⟨by rfl, ?_⟩, fun _ _ _ h => h, ?_⟩
        rotate_left 1
        · intro W hW
          try dsimp only at hW
          go_simp
          try with_reducible rfl
        simp only [Act.put, List.setIfInBounds_toArray, List.set_cons_zero, List.set_cons_succ]
        refine wpH.take (i := 6) (by kernel_rfl) (by kernel_rfl) (by kernel_rfl) (by kernel_rfl) (by kernel_rfl) HS ?_
        intro oi ho
        simp only [List.getElem?_toArray, List.getElem?_cons_succ, List.getElem?_cons_zero, Option.some.injEq] at ho
        subst ho
        refine ⟨?_, Or.inl ⟨by rfl, ?_⟩, fun _ _ _ h => h, ?_⟩
        rotate_left 1
        · intro W hW
          try dsimp only at hW
          go_simp
          try with_reducible rfl
        simp only [Act.put, List.setIfInBounds_toArray, List.set_cons_zero, List.set_cons_succ]
        refine wpH.two (i := 7) (j := 11) (by kernel_rfl) ?_ ?_
        · intro oi ho
          simp only [List.getElem?_toArray, List.getElem?_cons_succ, List.getElem?_cons_zero, Option.some.injEq] at ho
          subst ho
          intro K hK
          have HK := Lib.hid hK
          clear hK
          go_simp
          go_at_call 61
          rw [HB1.out]
          refine (putRight61 C CB g (fun b => (q b ∨ b9 < b) ∧ b < wc.heap.size) oo kc po bo osp sc (g.pl.length + pc) (g.bs.length + bc) wc.drew (fun b h => Nat.lt_of_lt_of_le h.2 B0x.out.size) ((HRO.out.mono (fun b h h2 => ⟨h, h2⟩)).kept B0x.out) (((HRB.out.kept SC0.out).mono (fun b h h2 => ⟨.inl h, h2⟩)).kept B0x.out) (fun j hj => (CPL.out _ SD.bel) j hj) (Nat.le_add_right _ _) (by have := HPC.out; unfold maxLen at this; omega) (by have := HCS.out.1; omega) (by have := HSB.out.1; omega) (fun t ht => by have := (HCS.out.2 t ht).1; omega) (fun t ht => by have := (HSB.out.2 t ht).1; omega)).mono ?_
          rintro e wn ⟨ro, rsp, rfl, hr2, hbn⟩
          have HR2 := Lib.hid (show factE.Row (fun b => (q b ∨ b9 < b) ∧ b < wn.heap.size) wn ro (rightF C CB g).1 from hr2.mono (fun b h h2 => ⟨h.elim (fun h => h.1) (fun h => .inr (by have hs : wc.heap.size ≤ b := h; omega)), h2⟩))
          have S9 := SD.step hbn
          have HB9y := Lib.hid (Below.step B0x.out hbn)
          have zn := hbn.size
          clear hbn hr2
          dsimp only
          refine HK.out _ _ (fun _ => FC.out _ HB9y.out) ?_
          have HS := FC.out _ HB9y.out
          try simp only [Act.put, List.setIfInBounds_toArray, List.set_cons_zero, List.set_cons_succ]
          refine wpH.take (i := 8) (by kernel_rfl) (by kernel_rfl) (by kernel_rfl) (by kernel_rfl) (by kernel_rfl) HS ?_
          intro oi ho
          simp only [List.getElem?_toArray, List.getElem?_cons_succ, List.getElem?_cons_zero, Option.some.injEq] at ho
          subst ho
          refine ⟨?_, Or.inl ⟨by rfl, ?_⟩, fun _ _ _ h => h, ?_⟩
          rotate_left 1
          · intro W hW
            try dsimp only at hW
            go_simp
            try with_reducible rfl
          simp only [Act.put, List.setIfInBounds_toArray, List.set_cons_zero, List.set_cons_succ]
          refine wpH.take (i := 9) (by kernel_rfl) (by kernel_rfl) (by kernel_rfl) (by kernel_rfl) (by kernel_rfl) HS ?_
          intro oi ho
          simp only [List.getElem?_toArray, List.getElem?_cons_succ, List.getElem?_cons_zero, Option.some.injEq] at ho
          subst ho
          refine ⟨?_, Or.inl ⟨by rfl, ?_⟩, fun _ _ _ h => h, ?_⟩
          rotate_left 1
          · intro W hW
            try dsimp only at hW
            go_simp
            try with_reducible rfl
          simp only [Act.put, List.setIfInBounds_toArray, List.set_cons_zero, List.set_cons_succ]
          refine wpH.take (i := 10) (by kernel_rfl) (by kernel_rfl) (by kernel_rfl) (by kernel_rfl) (by kernel_rfl) HS ?_
          intro oi ho
          simp only [List.getElem?_toArray, List.getElem?_cons_succ, List.getElem?_cons_zero, Option.some.injEq] at ho
          subst ho
          refine ⟨?_, Or.inl ⟨by rfl, ?_⟩, fun _ _ _ h => h, ?_⟩
          rotate_left 1
          · intro W hW
            try dsimp only at hW
            go_simp
            try with_reducible rfl
          simp only [Act.put, List.setIfInBounds_toArray, List.set_cons_zero, List.set_cons_succ]
          refine wpH.one (i := 11) (by kernel_rfl) ?_
          intro oi ho
          simp only [List.getElem?_toArray, List.getElem?_cons_succ, List.getElem?_cons_zero, Option.some.injEq] at ho
          subst ho
          intro K hK
          have HK := Lib.hid hK
          clear hK
          go_simp
          have S10 := S9.box (b := wn.heap.size) rfl #[.slice none 0 0] 41
          have HB10y := Lib.hid (HB9y.out.alloc (HB9y.out.size) (.cells #[.slice none 0 0] 41))
          refine HK.out _ _ (fun _ => FC.out _ HB10y.out) ?_
          have HS := FC.out _ HB10y.out
          try simp only [Act.put, List.setIfInBounds_toArray, List.set_cons_zero, List.set_cons_succ]
          have HRw := Lib.hid (show factE.Row (fun b => (q b ∨ b9 < b) ∧ b ≠ wn.heap.size) (wn.alloc (.cells #[.slice none 0 0] 41)) ro (rightF C CB g).1 from (HR2.out.kept ((Below.refl _ wn).alloc (Nat.le_refl _) _)).mono (fun b h _ => ⟨h.1, by have := h.2; omega⟩))
          generalize hW3 : wn.alloc (.cells #[.slice none 0 0] 41) = W3 at S10 HB10y HS HRw ⊢
          clear hW3
          refine wpH.one (i := 12) (by kernel_rfl) ?_
          intro oi ho
          simp only [List.getElem?_toArray, List.getElem?_cons_succ, List.getElem?_cons_zero, Option.some.injEq] at ho
          subst ho
          intro K hK
          have HK := Lib.hid hK
          clear hK
          obtain ⟨e0, e1⟩ := S10.one 4
          have hlb := S10.lt 4
          have hw12 : wc.heap.size ≤ wn.heap.size := by first | exact Nat.le_refl _ | (have h := zn; (try simp at h); omega)
          go_simp
          have SF := S10.set1 4 rfl (.slice ro (rightF C CB g).1.length ((rightF C CB g).1.length + rsp)) (by have := HBX.out; have := HB9.out; omega) (by have := HBX.out; have := HB9.out; simp only [fsnoc, offs, offAll, Fct.box, and_true]; omega)
          have HBF := Lib.hid (HB10y.out.setCell (p := ⟨wn.heap.size, 0, none⟩) (by show wc.heap.size ≤ wn.heap.size; omega) (.slice ro (rightF C CB g).1.length ((rightF C CB g).1.length + rsp)))
          have HR3 := Lib.hid (show factE.Row (fun b => q b ∨ b9 < b) (W3.setCell ⟨wn.heap.size, 0, none⟩ (.slice ro (rightF C CB g).1.length ((rightF C CB g).1.length + rsp))) ro (rightF C CB g).1 from HRw.out.keep (fun b h1 h2 => ⟨Below.heap_setCell _ _ _ _ h1.2, h1.1⟩))
          clear e0 e1
          refine HK.out _ _ (fun _ => FC.out _ HBF.out) ?_
          have HS := FC.out _ HBF.out
          try simp only [Act.put, List.setIfInBounds_toArray, List.set_cons_zero, List.set_cons_succ]
          refine wpH.one (i := 13) (by kernel_rfl) ?_
          intro oi ho
          simp only [List.getElem?_toArray, List.getElem?_cons_succ, List.getElem?_cons_zero, Option.some.injEq] at ho
          subst ho
          intro K hK
          have HK := Lib.hid hK
          clear hK
          go_simp
          refine HK.out _ _ (fun h => absurd h (by decide)) ?_
          try simp only [Act.put, List.setIfInBounds_toArray, List.set_cons_zero, List.set_cons_succ]
          refine wpH.done (by kernel_rfl) ?_
          have SH := Lib.hid (SF.pick [0, 1, 2, 3, 4])
          clear SF HS
          try go_wp2_with fail
          go_meet
          case rel => exact ⟨wn.heap.size, ro, rsp, rfl, rfl, by omega, SH.out, HR3.out⟩
        · intro oi ho
          simp only [List.getElem?_toArray, List.getElem?_cons_succ, List.getElem?_cons_zero, Option.some.injEq] at ho
          subst ho
          intro K hK
          have HK := Lib.hid hK
          clear hK
          go_simp
          have S9 : St w ((wc.alloc (.cells #[.slice none 0 0] 41)).drew) _ := SD.box (b := wc.heap.size) rfl #[.slice none 0 0] 41
          have HB9y : Hid (Below wc.heap.size wc ((wc.alloc (.cells #[.slice none 0 0] 41)).drew)) := Lib.hid (((Below.refl _ wc).alloc (Nat.le_refl _) _).drew)
          refine HK.out _ _ (fun _ => FC.out _ HB9y.out) ?_
          try simp only [Act.put, List.setIfInBounds_toArray, List.set_cons_zero, List.set_cons_succ]
          have hzz9 : wc.heap.size + 1 ≤ ((wc.alloc (.cells #[.slice none 0 0] 41)).drew).heap.size := by simp
          generalize hW9 : (wc.alloc (.cells #[.slice none 0 0] 41)).drew = W9 at S9 HB9y hzz9 ⊢
          clear hW9
          have HS := FC.out _ HB9y.out
          refine wpH.one (i := 7) (by kernel_rfl) ?_
          intro oi ho
          simp only [List.getElem?_toArray, List.getElem?_cons_succ, List.getElem?_cons_zero, Option.some.injEq] at ho
          subst ho
          intro K hK
          have HK := Lib.hid hK
          clear hK
          go_simp
          go_at_call 61
          rw [HB1.out]
          refine (putRight61 C CB g (fun b => (q b ∨ b9 < b) ∧ b < wc.heap.size) oo kc po bo osp sc (g.pl.length + pc) (g.bs.length + bc) W9 (fun b h => Nat.lt_of_lt_of_le h.2 HB9y.out.size) ((HRO.out.mono (fun b h h2 => ⟨h, h2⟩)).kept HB9y.out) (((HRB.out.kept SC0.out).mono (fun b h h2 => ⟨.inl h, h2⟩)).kept HB9y.out) (fun j hj => (CPL.out _ S9.bel) j hj) (Nat.le_add_right _ _) (by have := HPC.out; unfold maxLen at this; omega) (by have := HCS.out.1; omega) (by have := HSB.out.1; omega) (fun t ht => by have := (HCS.out.2 t ht).1; omega) (fun t ht => by have := (HSB.out.2 t ht).1; omega)).mono ?_
          rintro e wn ⟨ro, rsp, rfl, hr2, hbn⟩
          have HR2 := Lib.hid (show factE.Row (fun b => (q b ∨ b9 < b) ∧ b ≠ wc.heap.size) wn ro (rightF C CB g).1 from hr2.mono (fun b h h2 => ⟨h.elim (fun h => h.1) (fun h => .inr (by have hs : W9.heap.size ≤ b := h; omega)), h.elim (fun h => by have := h.2; omega) (fun h => by have hs : W9.heap.size ≤ b := h; omega)⟩))
          have S10 := S9.step hbn
          have HB10y := Lib.hid (Below.step HB9y.out hbn)
          have zn := hbn.size
          clear hbn hr2
          dsimp only
          refine HK.out _ _ (fun _ => FC.out _ HB10y.out) ?_
          have HS := FC.out _ HB10y.out
          try simp only [Act.put, List.setIfInBounds_toArray, List.set_cons_zero, List.set_cons_succ]
          refine wpH.take (i := 8) (by kernel_rfl) (by kernel_rfl) (by kernel_rfl) (by kernel_rfl) (by kernel_rfl) HS ?_
          intro oi ho
          simp only [List.getElem?_toArray, List.getElem?_cons_succ, List.getElem?_cons_zero, Option.some.injEq] at ho
          subst ho
          refine ⟨?_, Or.inl ⟨by rfl, ?_⟩, fun _ _ _ h => h, ?_⟩
          rotate_left 1
          · intro W hW
            try dsimp only at hW
            go_simp
            try with_reducible rfl
          simp only [Act.put, List.setIfInBounds_toArray, List.set_cons_zero, List.set_cons_succ]
          refine wpH.take (i := 9) (by kernel_rfl) (by kernel_rfl) (by kernel_rfl) (by kernel_rfl) (by kernel_rfl) HS ?_
          intro oi ho
          simp only [List.getElem?_toArray, List.getElem?_cons_succ, List.getElem?_cons_zero, Option.some.injEq] at ho
          subst ho
          refine ⟨?_, Or.inl ⟨by rfl, ?_⟩, fun _ _ _ h => h, ?_⟩
          rotate_left 1
          · intro W hW
            try dsimp only at hW
            go_simp
            try with_reducible rfl
          simp only [Act.put, List.setIfInBounds_toArray, List.set_cons_zero, List.set_cons_succ]
          refine wpH.take (i := 10) (by kernel_rfl) (by kernel_rfl) (by kernel_rfl) (by kernel_rfl) (by kernel_rfl) HS ?_
          intro oi ho
          simp only [List.getElem?_toArray, List.getElem?_cons_succ, List.getElem?_cons_zero, Option.some.injEq] at ho
          subst ho
          refine ⟨?_, Or.inl ⟨by rfl, ?_⟩, fun _ _ _ h => h, ?_⟩
          rotate_left 1
          · intro W hW
            try dsimp only at hW
            go_simp
            try with_reducible rfl
          simp only [Act.put, List.setIfInBounds_toArray, List.set_cons_zero, List.set_cons_succ]
          have HRw := HR2
          refine wpH.one (i := 12) (by kernel_rfl) ?_
          intro oi ho
          simp only [List.getElem?_toArray, List.getElem?_cons_succ, List.getElem?_cons_zero, Option.some.injEq] at ho
          subst ho
          intro K hK
          have HK := Lib.hid hK
          clear hK
          obtain ⟨e0, e1⟩ := S10.one 4
          have hlb := S10.lt 4
          have hw12 : wc.heap.size ≤ wc.heap.size := by first | exact Nat.le_refl _ | (have h := zn; (try simp at h); omega)
          go_simp
          have SF := S10.set1 4 rfl (.slice ro (rightF C CB g).1.length ((rightF C CB g).1.length + rsp)) (by have := HBX.out; have := HB9.out; omega) (by have := HBX.out; have := HB9.out; simp only [fsnoc, offs, offAll, Fct.box, and_true]; omega)
          have HBF := Lib.hid (HB10y.out.setCell (p := ⟨wc.heap.size, 0, none⟩) (by show wc.heap.size ≤ wc.heap.size; omega) (.slice ro (rightF C CB g).1.length ((rightF C CB g).1.length + rsp)))
          have HR3 := Lib.hid (show factE.Row (fun b => q b ∨ b9 < b) (wn.setCell ⟨wc.heap.size, 0, none⟩ (.slice ro (rightF C CB g).1.length ((rightF C CB g).1.length + rsp))) ro (rightF C CB g).1 from HRw.out.keep (fun b h1 h2 => ⟨Below.heap_setCell _ _ _ _ h1.2, h1.1⟩))
          clear e0 e1
          refine HK.out _ _ (fun _ => FC.out _ HBF.out) ?_
          have HS := FC.out _ HBF.out
          try simp only [Act.put, List.setIfInBounds_toArray, List.set_cons_zero, List.set_cons_succ]
          refine wpH.one (i := 13) (by kernel_rfl) ?_
          intro oi ho
          simp only [List.getElem?_toArray, List.getElem?_cons_succ, List.getElem?_cons_zero, Option.some.injEq] at ho
          subst ho
          intro K hK
          have HK := Lib.hid hK
          clear hK
          go_simp
          refine HK.out _ _ (fun h => absurd h (by decide)) ?_
          try simp only [Act.put, List.setIfInBounds_toArray, List.set_cons_zero, List.set_cons_succ]
          refine wpH.done (by kernel_rfl) ?_
          have SH := Lib.hid (SF.pick [0, 1, 2, 3, 4])
          clear SF HS
          try go_wp2_with fail
          go_meet
          case rel => exact ⟨wc.heap.size, ro, rsp, rfl, rfl, by omega, SH.out, HR3.out⟩
      case rest =>
      obtain ⟨b13, ro, rsp, ht13, ht14, hz13, S, hr3⟩ := hcut
      subst ht13
      subst ht14
      have HR3 := Lib.hid hr3
      clear hr3 SD
      have hw0 : bx + 3 ≤ b9 := HB9.out
      obtain ⟨RC, hRC⟩ : ∃ X, X = (rightF C CB g).2 := ⟨_, rfl⟩
      rw [← hRC]
      have HRC := Lib.hid hRC
      clear hRC
      by_cases hrc : RC = 0
      · have hcb : (RC != 0) = false := by simp [hrc]
        have HO := Lib.hid (show (rightF C CB g).1 = if g.kind = 3 then (rightF (gC known g.a) (gC known g.b) g).1 else C by rw [if_pos H3.out, HRT.out])
        have HN := Lib.hid (show ¬ (g.kind = 3 ∧ (rightF (gC known g.a) (gC known g.b) g).2 ≠ 0) from fun h => h.2 (by rw [HRT.out, ← HRC.out]; exact hrc))
        obtain ⟨e0, e1⟩ := S.one 3
        obtain ⟨e2, _⟩ := S.one 4
        have hl3 := S.lt 3
        have SG := Lib.hid ((S.set1 3 rfl (.slice ro (rightF C CB g).1.length ((rightF C CB g).1.length + rsp)) (by have := HBX.out; omega) (by simp only [offs, offAll, Fct.box, and_true]; omega)).pick [0, 1, 2, 3])
        have HR4 := Lib.hid (show factE.Row (fun b => q b ∨ b9 < b) (wc.setCell ⟨b9, 0, none⟩ (.slice ro (rightF C CB g).1.length ((rightF C CB g).1.length + rsp))) ro (rightF C CB g).1 from HR3.out.keep (fun b h1 h2 => ⟨Below.heap_setCell _ _ _ _ (by show b ≠ b9; have hx := HBX.out; rcases h1 with h1 | h1; have := HQ.out _ h1; omega; omega), h1⟩))
        have z9 : b9 + 1 ≤ (wc.setCell ⟨b9, 0, none⟩ (.slice ro (rightF C CB g).1.length ((rightF C CB g).1.length + rsp))).heap.size := by simp; omega
        clear S hrc
        go_wp2_with fail
        go_meet
        case rel => exact ⟨ro, rsp, (rightF C CB g).1, z9, SG.out, HR4.out, HO, HN⟩
      · have hcb : (RC != 0) = true := by simp [hrc]
        have HD := Lib.hid (show stepF ar cs known g = ([], RC) by
          unfold stepF
          rw [if_neg HR.out, if_neg (by
            rw [HFL.out]
            intro h
            rcases h with h | h
            · exact HI.out (.inl h)
            · exact HI.out (.inr ⟨h.1, by rw [HF.out, if_neg (by omega)]; exact h.2⟩)), if_neg (fun h => by have := H3.out; omega), if_pos ⟨H3.out, by rw [HRT.out, ← HRC.out]; exact hrc⟩, HRT.out, ← HRC.out])
        clear hrc
        obtain ⟨r0, r1⟩ := S.one 2
        have SG := Lib.hid (S.set1 2 rfl (.slice none 0 0) (by have := HBX.out; omega) (by simp only [offs, offAll, Fct.box, and_true]; omega))
        have hl2 := S.lt 2
        clear S
        go_wp2_with fail
        refine bodyPost_ret (v := .tuple #[.agg #[.slice none 0 0], .int .i64 RC]) ?_ rfl ?_
        · obtain ⟨q0, _⟩ := SG.out.one 2
          simp [results, Try.results19, go_sem, q0]
        · exact GotP.bad HD.out SG.out.bel
  case rest =>
  obtain ⟨o3, s3, O3, zd, SE, hro3, HO3, HN3⟩ := hcut
  have HRO3 := Lib.hid hro3
  clear SC g0 hd3 hro3 zc
  obtain ⟨g0, _⟩ := SE.cell 1 0 rfl
  obtain ⟨d4, hd4⟩ : ∃ d, (g.kind == 4) = d := ⟨_, rfl⟩
  go_upto_if 127 with fail
  go_cut [] (fun W => ∃ (o4 : Option Addr) (s4 : Nat) (O4 : List Fc), b9 + 1 ≤ W.heap.size ∧ St w W [.box bx #[.slice ao ar.length ca, .slice co cs.length cc] 25, .box (bx + 1) #[.int .i64 g.kind, .int .i64 g.a, .int .i64 g.b, .int .i64 g.i, .int .i64 g.j, .bool g.turn, .slice po g.pl.length (g.pl.length + pc), .slice bo g.bs.length (g.bs.length + bc)] 35, .box (bx + 2) #[.slice none 0 0] 41, .box b9 #[.slice o4 O4.length (O4.length + s4)] 41] ∧ factE.Row (fun b => q b ∨ b9 < b) W o4 O4 ∧ Hid (O4 = if g.kind = 4 then onceF O3 else O3))
  case first =>
    as_aux_lemma =>
    cases d4 with
    | false =>
      have h4 : ¬ g.kind = 4 := by simpa using hd4
      have HO := Lib.hid (show O3 = if g.kind = 4 then onceF O3 else O3 by rw [if_neg h4])
      have SB := Lib.hid SE
      clear SE h4 hd4
      go_wp2_with fail
      go_meet
      case rel => exact ⟨o3, s3, O3, zd, SB.out, HRO3.out, HO⟩
    | true =>
      have h4 : g.kind = 4 := by simpa using hd4
      have HO := Lib.hid (show onceF O3 = if g.kind = 4 then onceF O3 else O3 by rw [if_pos h4])
      have HL6 := Lib.hid (show O3.length ≤ 6 by
        have hOC3 : O3 = C := by rw [HO3.out, if_neg (by omega), HOX.out, if_neg (by omega)]
        rw [hOC3]; exact HCS.out.1)
      have hO3i : (O3.length : Int) ≤ 6 := by have := HL6.out; omega
      obtain ⟨iI, gi, gz0, gz1, gz2⟩ := info_parts info54
      obtain ⟨s0, hs0⟩ : ∃ s, s = wc.heap.size := ⟨_, rfl⟩
      have HZS := Lib.hid (show b9 + 1 ≤ s0 by omega)
      have hzr : s0 ≤ wc.heap.size := by omega
      have S := (SE.add (.rowE factE (fun b => (q b ∨ b9 < b) ∧ b < s0) o3 O3) (HRO3.out.mono (fun b h h2 => ⟨h, by rw [hs0]; exact h2⟩))).add (.owns factE s0 (fun b => q b ∨ b9 < b) (.slice none 0 0) (onceD [] (O3.take 0))) (Elt.Own.nil _ _ _ _)
      clear SE h4 hd4 hs0 zd g0
      go_wp2_with fail
      go_loopw [15, 16] (fun o i wr => ∃ k : Nat, k ≤ O3.length ∧ i = .int .i64 k ∧ s0 ≤ wr.heap.size ∧ St w wr [.box bx #[.slice ao ar.length ca, .slice co cs.length cc] 25, .box (bx + 1) #[.int .i64 g.kind, .int .i64 g.a, .int .i64 g.b, .int .i64 g.i, .int .i64 g.j, .bool g.turn, .slice po g.pl.length (g.pl.length + pc), .slice bo g.bs.length (g.bs.length + bc)] 35, .box (bx + 2) #[.slice none 0 0] 41, .box b9 #[.slice o3 O3.length (O3.length + s3)] 41, .rowE factE (fun b => (q b ∨ b9 < b) ∧ b < s0) o3 O3, .owns factE s0 (fun b => q b ∨ b9 < b) (o) (onceD [] (O3.take k))]) (fun _ i _ => O3.length - (intOf i).toNat)
      case atStart => exact ⟨0, by omega, rfl, hzr, S⟩
      case round =>
        clear S hzr
        obtain ⟨k, hk, rfl, hzr, S⟩ := hrel
        by_cases hlt : k < O3.length
        · have hlti : (k : Int) < (O3.length : Int) := by omega
          have HTK := Lib.hid (show onceD [] (O3.take (k + 1)) = if skipP (onceD [] (O3.take k)) O3[k] then onceD [] (O3.take k) else onceD [] (O3.take k) ++ [O3[k]] by rw [List.take_succ_eq_append_getElem hlt, onceD_snoc])
          have HLK := Lib.hid (show (onceD [] (O3.take k)).length ≤ 6 by
            rw [onceD_nil]
            have h1 := onceF_len (O3.take k)
            have h2 := HL6.out
            have h3 : (O3.take k).length ≤ O3.length := by simp; omega
            omega)
          obtain ⟨X, hX⟩ : ∃ X, X = O3[k] := ⟨_, rfl⟩
          have HX := Lib.hid hX
          rw [← hX] at HTK
          clear hX
          obtain ⟨L, hL⟩ : ∃ L, L = onceD [] (O3.take k) := ⟨_, rfl⟩
          rw [← hL] at S HTK HLK
          clear hL
          obtain ⟨lo, lsp, rfl, hrw, hml⟩ := (S.owns factE 5).row (fun b h => Or.inr (by have := HZS.out; omega))
          clear hrw
          obtain ⟨wv, hwv⟩ : ∃ W, W = wr := ⟨_, rfl⟩
          subst hwv
          obtain ⟨cb, coff, ka, sa, kb, sb, rfl, hpb, c0, c1, c2, c3, c4, t1, t2⟩ := (S.rowE factE 4).fact hlt
          rw [← HX.out] at c0 c1 c2 c3 c4 t1 t2
          have T1 := Lib.hid t1.at; have T2 := Lib.hid t2.at
          obtain ⟨v0, _⟩ := S.one 3
          obtain ⟨N, hN⟩ : ∃ N, N = X.neg := ⟨_, rfl⟩
          have HN := Lib.hid hN
          rw [← hN] at c0
          clear hN t1 t2 hpb hml
          go_upto_region 29 with fail
          go_cut [17] (fun t17 W => ∃ d, t17 = .bool d ∧ Hid (d = decide (¬ skipP (L.take 0) X)) ∧ s0 ≤ W.heap.size ∧ St w W [.box bx #[.slice ao ar.length ca, .slice co cs.length cc] 25, .box (bx + 1) #[.int .i64 g.kind, .int .i64 g.a, .int .i64 g.b, .int .i64 g.i, .int .i64 g.j, .bool g.turn, .slice po g.pl.length (g.pl.length + pc), .slice bo g.bs.length (g.bs.length + bc)] 35, .box (bx + 2) #[.slice none 0 0] 41, .box b9 #[.slice (some ⟨cb, coff, none⟩) O3.length (O3.length + s3)] 41, .rowE factE (fun b => (q b ∨ b9 < b) ∧ b < s0) (some ⟨cb, coff, none⟩) O3, .owns factE s0 (fun b => q b ∨ b9 < b) (.slice lo L.length (L.length + lsp)) (L)])
          case first =>
            have q0 := cell_regrown c0; have q1 := cell_regrown c1; have q2 := cell_regrown c2; have q3 := cell_regrown c3; have q4 := cell_regrown c4; have q5 := cell_regrown v0
            clear c0 c1 c2 c3 c4 v0
            cases N with
            | true =>
              have CN := Lib.hid (fun d os => Calls.regrown_of (same22 X.l X.r _ _ (Go.Sort.grow (redrawn wv d) os) (T1.out.kept (below_regrown wv d os)) (T2.out.kept (below_regrown wv d os))))
              have HV := Lib.hid (show (!decide (X.l = X.r)) = decide (¬ skipP (L.take 0) X) from skip_zero_t HN.out.symm)
              refine wp_region_quiet_below (by kernel_rfl) (by kernel_rfl) ?_
              repeat (go_big_quiet_step (exact CN.out _ _))
              refine wpQuiet_nil ?_
              intro _ hw'
              obtain ⟨⟨dq, osq⟩, hw''⟩ := hw'
              subst hw''
              have S2 := S.regrown dq osq
              have hb2 : s0 ≤ (Go.Sort.grow (redrawn wv dq) osq).heap.size := Nat.le_trans hzr (below_regrown wv dq osq).size
              clear q0 q1 q2 q3 q4 q5 S
              go_wp2_with fail
              go_meet
              case rel => exact ⟨_, rfl, HV, hb2, S2⟩
            | false =>
              have HV := Lib.hid (show true = decide (¬ skipP (L.take 0) X) from skip_zero_f HN.out.symm)
              refine wp_region_quiet_below (by kernel_rfl) (by kernel_rfl) ?_
              repeat (go_big_quiet_step (fail))
              refine wpQuiet_nil ?_
              intro _ hw'
              obtain ⟨⟨dq, osq⟩, hw''⟩ := hw'
              subst hw''
              have S2 := S.regrown dq osq
              have hb2 : s0 ≤ (Go.Sort.grow (redrawn wv dq) osq).heap.size := Nat.le_trans hzr (below_regrown wv dq osq).size
              clear q0 q1 q2 q3 q4 q5 S
              go_wp2_with fail
              go_meet
              case rel => exact ⟨_, rfl, HV, hb2, S2⟩
          case rest =>
          clear S hzr c0 c1 c2 c3 c4 v0
          obtain ⟨d0, ht17, HD0, hzr, S⟩ := hcut
          subst ht17
          have hll := HLK.out
          go_wp2_with fail
          go_loopw [17, 18] (fun t i wr => ∃ (m : Nat) (d : Bool), m ≤ L.length ∧ i = .int .i64 m ∧ t = .bool d ∧ Hid (d = decide (¬ skipP (L.take m) X)) ∧ s0 ≤ wr.heap.size ∧ St w wr [.box bx #[.slice ao ar.length ca, .slice co cs.length cc] 25, .box (bx + 1) #[.int .i64 g.kind, .int .i64 g.a, .int .i64 g.b, .int .i64 g.i, .int .i64 g.j, .bool g.turn, .slice po g.pl.length (g.pl.length + pc), .slice bo g.bs.length (g.bs.length + bc)] 35, .box (bx + 2) #[.slice none 0 0] 41, .box b9 #[.slice (some ⟨cb, coff, none⟩) O3.length (O3.length + s3)] 41, .rowE factE (fun b => (q b ∨ b9 < b) ∧ b < s0) (some ⟨cb, coff, none⟩) O3, .owns factE s0 (fun b => q b ∨ b9 < b) (.slice lo L.length (L.length + lsp)) (L)]) (fun _ i _ => L.length - (intOf i).toNat)
          case atStart => exact ⟨0, d0, by omega, rfl, rfl, HD0, hzr, S⟩
          case round =>
            clear S hzr HD0
            obtain ⟨m, d, hm, rfl, rfl, HD, hzr, S⟩ := hrel
            obtain ⟨cb2, coff2, ka, sa, kb, sb, he, hpb, c0, c1, c2, c3, c4, t1, t2⟩ := (S.rowE factE 4).fact hlt
            simp only [Option.some.injEq, Addr.mk.injEq, and_true] at he
            obtain ⟨rfl, rfl⟩ := he
            rw [← HX.out] at c0 c1 c2 c3 c4 t1 t2
            obtain ⟨v0, _⟩ := S.one 3
            by_cases hlt2 : m < L.length
            · have hlti2 : (m : Int) < (L.length : Int) := by omega
              have T1 := Lib.hid t1.at; have T2 := Lib.hid t2.at
              obtain ⟨lo2, lsp2, he2, hrw, hml⟩ := (S.owns factE 5).row (fun b h => Or.inr (by have := HZS.out; omega))
              simp only [Value.slice.injEq] at he2
              obtain ⟨rfl, _, _⟩ := he2
              obtain ⟨lb, loff, ja, ta, jb, tb, rfl, _, d0, d1, d2, d3, d4, u1, u2⟩ := hrw.fact hlt2
              have U1 := Lib.hid u1.at; have U2 := Lib.hid u2.at
              have HV := Lib.hid (skip_step (X := X) hlt2)
              rw [← HD.out] at HV
              obtain ⟨Y, hY⟩ : ∃ Y, Y = L[m] := ⟨_, rfl⟩
              rw [← hY] at HV d0 d1 d2 d3 d4 U1 U2
              have q0 := cell_regrown c0; have q1 := cell_regrown c1; have q2 := cell_regrown c2; have q3 := cell_regrown c3; have q4 := cell_regrown c4; have q5 := cell_regrown v0
              have r0 := cell_regrown d0; have r1 := cell_regrown d1; have r2 := cell_regrown d2; have r3 := cell_regrown d3; have r4 := cell_regrown d4
              clear c0 c1 c2 c3 c4 v0 d0 d1 d2 d3 d4 u1 u2 t1 t2 hrw hml hY hpb HD
              cases d with
              | true =>
                have CA := Lib.hid (fun d os => Calls.regrown_of (sameFact67 Y X ja jb ka kb ta tb sa sb (Go.Sort.grow (redrawn wr d) os) (U1.out.kept (below_regrown wr d os)) (U2.out.kept (below_regrown wr d os)) (T1.out.kept (below_regrown wr d os)) (T2.out.kept (below_regrown wr d os))))
                have HV2 := Lib.hid (show (!decide (Y = X)) = decide (¬ skipP (L.take (m + 1)) X) by rw [HV.out]; rfl)
                clear HV
                go_wp2_with fail
                refine wp_region_quiet_below (by kernel_rfl) (by kernel_rfl) ?_
                repeat (go_big_quiet_step (exact CA.out _ _))
                refine wpQuiet_nil ?_
                intro _ hw'
                obtain ⟨⟨dq, osq⟩, hw''⟩ := hw'
                subst hw''
                have S2 := S.regrown dq osq
                have hb2 : s0 ≤ (Go.Sort.grow (redrawn wr dq) osq).heap.size := Nat.le_trans hzr (below_regrown wr dq osq).size
                clear q0 q1 q2 q3 q4 q5 r0 r1 r2 r3 r4 S
                go_wp2_with fail
                go_roundw
                case rel => exact ⟨m + 1, _, by omega, by go_num, rfl, HV2, hb2, S2⟩
                case measure => simp [intOf] <;> omega
              | false =>
                have HV2 := Lib.hid (show false = decide (¬ skipP (L.take (m + 1)) X) by rw [HV.out]; rfl)
                clear HV
                go_wp2_with fail
                refine wp_region_quiet_below (by kernel_rfl) (by kernel_rfl) ?_
                repeat (go_big_quiet_step (fail))
                refine wpQuiet_nil ?_
                intro _ hw'
                obtain ⟨⟨dq, osq⟩, hw''⟩ := hw'
                subst hw''
                have S2 := S.regrown dq osq
                have hb2 : s0 ≤ (Go.Sort.grow (redrawn wr dq) osq).heap.size := Nat.le_trans hzr (below_regrown wr dq osq).size
                clear q0 q1 q2 q3 q4 q5 r0 r1 r2 r3 r4 S
                go_wp2_with fail
                go_roundw
                case rel => exact ⟨m + 1, _, by omega, by go_num, rfl, HV2, hb2, S2⟩
                case measure => simp [intOf] <;> omega
            · obtain rfl : m = L.length := by omega
              have HXI := Lib.hid (show factE.is (fun b => (q b ∨ b9 < b) ∧ b < s0) wr [.bool X.neg, .int .i64 X.l.head, .slice ka X.l.kids.length (X.l.kids.length + sa), .int .i64 X.r.head, .slice kb X.r.kids.length (X.r.kids.length + sb)] X from ⟨ka, sa, kb, sb, rfl, t1, t2⟩)
              rw [List.take_length] at HD
              clear t1 t2 hpb
              cases d with
              | true =>
                have HSN := Lib.hid (show onceD [] (O3.take (k + 1)) = L ++ [X] by rw [HTK.out, if_neg (of_decide_eq_true HD.out.symm)])
                clear HD
                go_upto_region 35 with fail
                iterate 20 go_step
                refine build39 184 (some 185) _ _ _ _ _ (by rfl) ?_
                simp only [Act.put, List.setIfInBounds_toArray, List.set_cons_zero, List.set_cons_succ]
                go_wp2_with (at_builtin; refine wpList_app rfl (.tmp 179) (.tmp 185) 39 rfl factE S 5 rfl (x := X) (q := fun b => (q b ∨ b9 < b) ∧ b < s0) (p' := fun b => q b ∨ b9 < b) HXI.out Try.underlying39 gi gz0 gz1 gz2 rfl rfl ?v1 ?v2 ?c1 ?c2 ?c3 ?c4 ?c5 ?c6 ?c7 ?_)
                case v1 => rfl
                case v2 => rfl
                case c1 => unfold maxLen; omega
                case c2 => omega
                case c3 => omega
                case c4 => have := HBX.out; have := HB9.out; have := HZS.out; omega
                case c5 =>
                  intro bb h1 h2 h3
                  have := HBX.out; have := HB9.out; have := HZS.out
                  simp only [offs, offAll, Fct.box, Fct.rowE, and_true]
                  exact ⟨by omega, by omega, by omega, by omega, fun e => by have := e.2; omega⟩
                case c6 => intro bb h1 h2; have h4 := (S.ownlt factE 5 rfl bb h2).1; have := h1.2; omega
                case c7 => intro bb h1; rcases h1 with h1 | h1; exact h1; exact h1.1
                intro gg cap2 w3 S2 hs3 hgg hat
                have S3 := Lib.hid (show St w w3 [.box bx #[.slice ao ar.length ca, .slice co cs.length cc] 25, .box (bx + 1) #[.int .i64 g.kind, .int .i64 g.a, .int .i64 g.b, .int .i64 g.i, .int .i64 g.j, .bool g.turn, .slice po g.pl.length (g.pl.length + pc), .slice bo g.bs.length (g.bs.length + bc)] 35, .box (bx + 2) #[.slice none 0 0] 41, .box b9 #[.slice (some ⟨cb, coff, none⟩) O3.length (O3.length + s3)] 41, .rowE factE (fun b => (q b ∨ b9 < b) ∧ b < s0) (some ⟨cb, coff, none⟩) O3, .owns factE s0 (fun b => q b ∨ b9 < b) (.slice (some ⟨gg, 0, none⟩) (L.length + 1) cap2) (onceD [] (O3.take (k + 1)))] by rw [HSN.out]; exact S2)
                have hz3 : s0 ≤ w3.heap.size := by omega
                clear S S2 c0 c1 c2 c3 c4 v0
                go_wp2_with fail
                go_roundw
                case rel => exact ⟨k + 1, by omega, by go_num, hz3, S3.out⟩
                case measure => simp [intOf] <;> omega
              | false =>
                have HSN := Lib.hid (show onceD [] (O3.take (k + 1)) = L by rw [HTK.out, if_pos (Classical.byContradiction fun h => by have := HD.out; rw [decide_eq_true h] at this; cases this)])
                have S3 := Lib.hid (show St w wr [.box bx #[.slice ao ar.length ca, .slice co cs.length cc] 25, .box (bx + 1) #[.int .i64 g.kind, .int .i64 g.a, .int .i64 g.b, .int .i64 g.i, .int .i64 g.j, .bool g.turn, .slice po g.pl.length (g.pl.length + pc), .slice bo g.bs.length (g.bs.length + bc)] 35, .box (bx + 2) #[.slice none 0 0] 41, .box b9 #[.slice (some ⟨cb, coff, none⟩) O3.length (O3.length + s3)] 41, .rowE factE (fun b => (q b ∨ b9 < b) ∧ b < s0) (some ⟨cb, coff, none⟩) O3, .owns factE s0 (fun b => q b ∨ b9 < b) (.slice lo L.length (L.length + lsp)) (onceD [] (O3.take (k + 1)))] by rw [HSN.out]; exact S)
                clear S c0 c1 c2 c3 c4 v0 HD
                go_wp2_with fail
                go_roundw
                case rel => exact ⟨k + 1, by omega, by go_num, hzr, S3.out⟩
                case measure => simp [intOf] <;> omega
        · obtain rfl : k = O3.length := by omega
          rw [List.take_length, onceD_nil] at S
          obtain ⟨v0, _⟩ := S.one 3
          obtain ⟨ro, rsp, rfl, hrw, _⟩ := (show factE.Own (fun b => q b ∨ b9 < b) s0 wr _ (onceF O3) from S.owns factE 5).row (fun b h => Or.inr (by have := HZS.out; omega))
          have hl3 := S.lt 3
          have SG := Lib.hid ((S.set1 3 rfl (.slice ro (onceF O3).length ((onceF O3).length + rsp)) (by have := HBX.out; have := HB9.out; omega) (by
            have HOW := S.ownlt factE 5 rfl
            have hx := HBX.out; have h9 := HB9.out; have hz := HZS.out
            simp only [offs, offAll, Fct.box, Fct.rowE, Fct.owns, and_true]
            refine ⟨by omega, by omega, by omega, fun e => ?_, fun e => ?_⟩
            · rcases e.1 with e | e
              · have := HQ.out _ e
                omega
              · omega
            · rcases e with e | e
              · have := (HOW b9 e).1
                omega
              · rcases e with e | e
                · have := HQ.out _ e
                  omega
                · omega)).pick [0, 1, 2, 3])
          have HRW := Lib.hid (show factE.Row (fun b => q b ∨ b9 < b) (wr.setCell ⟨b9, 0, none⟩ (.slice ro (onceF O3).length ((onceF O3).length + rsp))) ro (onceF O3) from hrw.keep (fun b h1 h2 => ⟨Below.heap_setCell _ _ _ _ (by show b ≠ b9; have hx := HBX.out; have h9 := HB9.out; rcases h1 with h1 | h1; have := HQ.out _ h1; omega; omega), h1⟩))
          have z9 : b9 + 1 ≤ (wr.setCell ⟨b9, 0, none⟩ (.slice ro (onceF O3).length ((onceF O3).length + rsp))).heap.size := by have := HZS.out; simp; omega
          have hw9 : bx + 3 ≤ b9 := HB9.out
          clear S hrw
          go_wp2_with fail
          go_meet
          case rel => exact ⟨ro, rsp, onceF O3, z9, SG.out, HRW.out, HO⟩
  case rest =>
  obtain ⟨o4, s4, O4, zf, SF, hro4, HO4⟩ := hcut
  have HRO4 := Lib.hid hro4
  clear SE g0 hd4 hro4 zd
  have HOUT := Lib.hid (show outF cs known g = O4 by
    have h0 := HR.out
    unfold outF
    by_cases k1 : g.kind = 1
    · rw [if_pos k1, HCE1.out k1, HO4.out, if_neg (by omega), HO3.out, if_neg (by omega), HOX.out, if_neg (by omega)]
    · rw [if_neg k1]
      by_cases k2 : g.kind = 2
      · rw [if_pos k2, HCE2.out k1, HO4.out, if_neg (by omega), HO3.out, if_neg (by omega), HOX.out, if_pos k2]
      · rw [if_neg k2]
        by_cases k3 : g.kind = 3
        · rw [if_pos k3, HO4.out, if_neg (by omega), HO3.out, if_pos k3]
        · rw [if_neg k3, HCE2.out k1, HO4.out, if_pos (by omega), HO3.out, if_neg k3, HOX.out, if_neg k2])
  have HST := Lib.hid (show stepF ar cs known g = if codeF ar O4 ≠ 0 then ([], 10) else (O4, 0) by
    rw [stepF_end HR.out (by
      rw [HFL.out]
      intro h
      rcases h with h | h
      · exact HI.out (.inl h)
      · exact HI.out (.inr ⟨h.1, by rw [HF.out, if_neg (by omega)]; exact h.2⟩)) HNB.out HN3.out, HOUT.out])
  have HLO := Lib.hid (show O4.length ≤ 1000 ∧ ∀ (i : Nat) t, (treesF O4)[i]? = some t → t.size ≤ 1000000 by
    have hs := small_of HCC.out
    by_cases k2 : g.kind = 2
    · have hz : (bindF g.bs).1 = 0 := Classical.byContradiction fun h => HNB.out ⟨k2, h⟩
      rw [HO4.out, if_neg (by omega), HO3.out, if_neg (by omega), HOX.out, if_pos k2]
      exact (small_sub hs (bind_size hz)).trees (by omega)
    · have hx : O = C := by rw [HOX.out, if_neg k2]
      by_cases k3 : g.kind = 3
      · have hFk : F = known := by rw [HF.out, if_neg (by omega)]
        have hbl : inL g.b F.length := Classical.byContradiction fun h => HI.out (.inr ⟨k3, h⟩)
        have hb : gC known g.b ∈ known := by
          rw [hFk] at hbl
          unfold gC
          rw [List.getD_eq_getElem?_getD, List.getElem?_eq_getElem (show g.b.toNat < known.length by have := hbl.1; have := hbl.2; omega)]
          exact List.getElem_mem _
        rw [HO4.out, if_neg (by omega), HO3.out, if_pos k3, HCE2.out (by omega)]
        exact (small_right hs (small_of (HKO.out _ hb)) HCS.out.1 (code_small (HKO.out _ hb)).1).trees (by omega)
      · have hx3 : O3 = C := by rw [HO3.out, if_neg k3, hx]
        by_cases k4 : g.kind = 4
        · rw [HO4.out, if_pos k4, hx3]
          exact (small_once hs).trees (by omega)
        · rw [HO4.out, if_neg k4, hx3]
          exact hs.trees (by omega))
  obtain ⟨v0, v1⟩ := SF.one 3
  obtain ⟨l0, _⟩ := SF.cell 0 0 rfl
  go_wp2_with fail
  refine (claim27 ar O4 (fun b => (q b ∨ b9 < b) ∧ b < wc.heap.size) _ o4 ao s4 ca wc (HA.out.kept SF.bel) HAR.out (HRO4.out.mono (fun b h h2 => ⟨h, h2⟩)) (by have := HLO.out.1; omega) (fun b h => h.2) HLO.out.2).mono ?_
  rintro e w5 ⟨rfl, hb5⟩
  have S5 := SF.step hb5
  have HR5 := Lib.hid (HRO4.out.kept hb5)
  have z5 : b9 + 1 ≤ w5.heap.size := Nat.le_trans zf hb5.size
  clear SF hb5 v0 v1 l0
  obtain ⟨K9, hK9⟩ : ∃ X, X = codeF ar O4 := ⟨_, rfl⟩
  rw [← hK9]
  rw [← hK9] at HST
  clear hK9
  have hw0 : bx + 3 ≤ b9 := HB9.out
  by_cases h9 : K9 = 0
  case neg =>
    have hcb : (K9 != 0) = true := by simp [h9]
    have HD := Lib.hid (show stepF ar cs known g = ([], 10) by rw [HST.out, if_pos h9])
    clear h9
    obtain ⟨r0, r1⟩ := S5.one 2
    have SG := Lib.hid (S5.set1 2 rfl (.slice none 0 0) (by have := HBX.out; omega) (by simp only [offs, offAll, Fct.box, and_true]; omega))
    have hl2 := S5.lt 2
    clear S5
    go_wp2_with fail
    refine bodyPost_ret (v := .tuple #[.agg #[.slice none 0 0], .int .i64 10]) ?_ rfl ?_
    · obtain ⟨q0, _⟩ := SG.out.one 2
      simp [results, Try.results19, go_sem, q0]
    · exact GotP.bad HD.out SG.out.bel
  case pos =>
  have hcb : (K9 != 0) = false := by simp [h9]
  have HD := Lib.hid (show stepF ar cs known g = (O4, 0) by rw [HST.out, if_neg (by simp [h9])])
  clear h9
  obtain ⟨v0, v1⟩ := S5.one 3
  obtain ⟨r0, r1⟩ := S5.one 2
  have hl2 := S5.lt 2
  have SG := Lib.hid (S5.set1 2 rfl (.slice o4 O4.length (O4.length + s4)) (by have := HBX.out; omega) (by simp only [offs, offAll, Fct.box, and_true]; omega))
  clear S5
  go_wp2_with fail
  refine bodyPost_ret (v := .tuple #[.agg #[.slice o4 O4.length (O4.length + s4)], .int .i64 0]) ?_ rfl ?_
  · obtain ⟨q0, _⟩ := SG.out.one 2
    simp [results, Try.results19, go_sem, q0]
  · unfold GotP
    rw [HD.out]
    exact ⟨o4, s4, rfl, HR5.out.keep (fun b h1 h2 => ⟨Below.heap_setCell _ _ _ _ (by show b ≠ bx + 2; have hx := HBX.out; rcases h1 with h1 | h1; have := HQ.out _ h1; omega; omega), by have hx := HBX.out; rcases h1 with h1 | h1; exact .inl h1; exact .inr (by omega)⟩), SG.out.bel⟩
end Go.Proofs.Ytlhnfdjidjgfgaa
