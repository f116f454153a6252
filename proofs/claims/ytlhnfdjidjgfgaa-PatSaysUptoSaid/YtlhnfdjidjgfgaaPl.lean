/-
  The law PatSays: for any lore and grounds it answers true.
-/
import Derived.Test.YtlhnfdjidjgfgaaProg
import Derived.Test.YtlhnfdjidjgfgaaPsl
import Derived.Test.YtlhnfdjidjgfgaaPb8
import Derived.Test.YtlhnfdjidjgfgaaKp
import Derived.Test.YtlhnfdjidjgfgaaZ2
import Derived.Test.YtlhnfdjidjgfgaaZ3
import Derived.Test.YtlhnfdjidjgfgaaPa4
import Derived.Test.YtlhnfdjidjgfgaaP4
import Derived.Test.YtlhnfdjidjgfgaaG4
import Derived.Deep.DeepCutAuto
import Derived.Deep.CutBlock
import Derived.BigQuiet
namespace Go.Proofs.Ytlhnfdjidjgfgaa
open Go.RowKit Go.Shelf
set_option linter.unusedVariables false
set_option maxHeartbeats 400000

theorem vastC_smallP {c : List Fc} (h : vastC c = false) : (treesF c).length ≤ 40 ∧ ∀ (i : Nat) t, (treesF c)[i]? = some t → t.size ≤ 200 := by
  unfold vastC at h
  rw [Bool.or_eq_false_iff] at h
  refine ⟨by have := of_decide_eq_false h.1; omega, fun i t ht => ?_⟩
  have h2 := (List.any_eq_false.1 h.2) t (List.mem_of_getElem? ht)
  unfold bigT at h2
  have h3 := of_decide_eq_false (by simpa using h2 : decide ((200 : Int) < t.size) = false)
  omega
theorem vastL_smallP {na : Nat} {cs : List (List Fc)} (h : vastL na cs = false) : na ≤ 40 ∧ cs.length ≤ 80 ∧ (∀ (i : Nat) c, cs[i]? = some c → c.length ≤ 40) ∧ ∀ (i : Nat) c, cs[i]? = some c → ∀ (j : Nat) t, (treesF c)[j]? = some t → t.size ≤ 200 := by
  unfold vastL at h
  rw [Bool.or_eq_false_iff, Bool.or_eq_false_iff] at h
  have h1 := of_decide_eq_false h.1.1
  have h2 := of_decide_eq_false h.1.2
  have h3 : ∀ (i : Nat) c, cs[i]? = some c → vastC c = false := fun i c hc => by
    have := (List.any_eq_false.1 h.2) c (List.mem_of_getElem? hc)
    simpa using this
  refine ⟨by omega, by omega, fun i c hc => ?_, fun i c hc j t ht => (vastC_smallP (h3 i c hc)).2 j t ht⟩
  have h4 := (vastC_smallP (h3 i c hc)).1
  rw [treesF_length] at h4
  omega
set_option maxRecDepth 100000 in
set_option maxHeartbeats 4000000 in
theorem vastLoreP (na : Nat) (cs : List (List Fc)) (p : Nat → Prop) (aa co : Option Addr) (ca cc : Nat) (w : World) (h : claimE.Row p w co cs) (hp : ∀ b, p b → b < w.heap.size) (hna : na ≤ 2000000) (hn : cs.length ≤ 1000000)
    (hf : ∀ (i : Nat) c, cs[i]? = some c → c.length ≤ 1000000) (hs : ∀ (i : Nat) c, cs[i]? = some c → ∀ (j : Nat) t, (treesF c)[j]? = some t → t.size ≤ 2000000) :
    Calls Try.prog 15 #[.agg #[.slice aa na ca, .slice co cs.length cc]] w fun e w' => e = .returned (.bool (vastL na cs)) ∧ Below w.heap.size w w' := by
  by_cases h1 : na ≤ 1000000
  · exact vastLore15 na cs p aa co ca cc w h hp h1 hn hf hs
  obtain ⟨bx, hbx⟩ : ∃ b, b = w.heap.size := ⟨_, rfl⟩
  have S := (St.start w).box hbx.symm #[.slice aa na ca, .slice co cs.length cc] 25
  have HBX := Lib.hid hbx
  clear h hp hs hf
  have HV := Lib.hid (show vastL na cs = true by unfold vastL; rw [decide_eq_true (show 40 < na by omega)]; simp)
  have SE := Lib.hid S.bel
  have h4i : (40 : Int) < (na : Int) := by omega
  by_cases h8 : 80 < cs.length
  · have h8i : (80 : Int) < (cs.length : Int) := by omega
    clear S h8 h1 hna
    go_enter Try.func15, Try.ntmps15
    go_wp2_with fail
    go_ret
    exact ⟨ret_bool HV.out.symm, SE.out⟩
  · have h8i : ¬ (80 : Int) < (cs.length : Int) := by omega
    clear S h8 h1 hna
    go_enter Try.func15, Try.ntmps15
    go_wp2_with fail
    go_ret
    exact ⟨ret_bool HV.out.symm, SE.out⟩
theorem St.quietP {P : Program} {n : Nat} {a : Array Value} {w0 w : World} {l : List Fct} (S : St w0 w l) {v : Value} (h : Calls P n a w fun e w' => e = .returned v ∧ Below w.heap.size w w') :
    Calls P n a w fun e w' => e = .returned v ∧ Below w.heap.size w w' ∧ w.heap.size ≤ w'.heap.size ∧ St w0 w' l :=
  h.mono fun e w' ⟨h1, h2⟩ => ⟨h1, h2, h2.size, S.step h2⟩
theorem fact_block {p : Nat → Prop} {w : World} {g : Nat} {T0 : TypeId} {t : T} {ka : Option Addr} {sa : Nat} (hb : w.heap[g]? = some (.cells #[.bool false, .int .i64 t.head, .slice ka t.kids.length (t.kids.length + sa), .int .i64 t.head, .slice ka t.kids.length (t.kids.length + sa)] T0 (0, 0)))
    (ht : TreeP p w (.agg #[.int .i64 t.head, .slice ka t.kids.length (t.kids.length + sa)]) t) (hp : p g) : factE.Row p w (some ⟨g, 0, none⟩) [⟨false, t, t⟩] :=
  row_block factE (p := p) (xs := [(⟨false, t, t⟩ : Fc)]) (css := [[.bool false, .int .i64 t.head, .slice ka t.kids.length (t.kids.length + sa), .int .i64 t.head, .slice ka t.kids.length (t.kids.length + sa)]]) hb hp rfl rfl (fun i c f h1 h2 => by
    rcases i with _ | i
    · simp at h1 h2
      subst h1 h2
      exact ⟨ka, sa, ka, sa, rfl, ht, ht⟩
    · simp at h1)
theorem subs_ok {ar : List Int} {gs : List T} (h : ∀ t ∈ gs, (treeF t).1 = 0 ∧ t.sig ar ∧ t.most = 0) : ∀ t ∈ subsF gs, (treeF t).1 = 0 ∧ t.sig ar := fun x hx => by
  refine ⟨subsF_good (fun t ht => (h t ht).1) x hx, ?_⟩
  unfold subsF at hx
  rcases mem_foldT.1 hx with hx | hx
  · cases hx
  · obtain ⟨t, ht, hx⟩ := mem_preLs.1 hx
    exact ⟨fun z hz => (h t ht).2.1.all z ((pre_all hx).1 z hz)⟩
/-- where the document's check of the grounds stands ahead of ground k -/
def PRun (ar : List Int) (cs : List (List Fc)) (gs : List T) (k : Nat) (fc gc : Int) : Prop :=
  (fc = 0 ∧ gc = 0 ∧ (loreF ar cs).1 = 0 ∧ gs.length ≤ 60 ∧ pchkF ar cs gs = pchk ar (gs.drop k) k) ∨ (fc ≠ 0 ∧ pchkF ar cs gs = (fc, gc))

set_option maxRecDepth 100000 in
set_option maxHeartbeats 8000000 in
theorem patSays6 (ar : List Int) (cs : List (List Fc)) (gs : List T) (ao co go_ : Option Addr) (ca cc gcap : Nat) (w : World)
    (ha : intE.Row (fun b => b < w.heap.size) w ao ar) (hc : claimE.Row (fun b => b < w.heap.size) w co cs) (hg : treeE.Row (fun b => b < w.heap.size) w go_ gs) (hna : ar.length ≤ 2000000) (hn : cs.length ≤ 1000000) (hgn : gs.length ≤ maxLen)
    (hf : ∀ (i : Nat) c, cs[i]? = some c → c.length ≤ 1000000) (hs : ∀ (i : Nat) c, cs[i]? = some c → ∀ (j : Nat) t, (treesF c)[j]? = some t → t.size ≤ 2000000)
    (hgs : ∀ t ∈ gs, t.size ≤ 100000000) :
    Calls Try.prog 6 #[.agg #[.slice ao ar.length ca, .slice co cs.length cc], .slice go_ gs.length gcap] w fun e w' => e = .returned (.bool true) ∧ Below w.heap.size w w' := by
  have HA := Lib.hid ha; have HC := Lib.hid hc; have HG := Lib.hid hg; have HGN := Lib.hid hgn; have HFS0 := Lib.hid hf; have HSS := Lib.hid hs; have HGS := Lib.hid hgs
  have HN := Lib.hid (And.intro hna hn)
  have HML := Lib.hid (show ar.length ≤ maxLen ∧ cs.length ≤ maxLen from by unfold maxLen; omega)
  have hgn' : gs.length ≤ 9223372036854775807 := by unfold maxLen at hgn; omega
  obtain ⟨bx, hbx⟩ : ∃ b, b = w.heap.size := ⟨_, rfl⟩
  have S1 := (St.start w).box hbx.symm #[.slice ao ar.length ca, .slice co cs.length cc] 25
  have hsz1 : (w.alloc (.cells #[.slice ao ar.length ca, .slice co cs.length cc] 25)).heap.size = bx + 1 := by simp [hbx]
  have HBX := Lib.hid hbx
  obtain ⟨⟨x0, _⟩, x1, _⟩ := S1.two 0
  clear ha hc hg hgn hf hs hgs hna hn
  go_enter Try.func6, Try.ntmps6
  go_wp2_with fail
  rw [← hbx]
  refine S1.gen (z := bx + 1) (by omega) ?_
  intro w1 z1 S
  clear S1 hbx hsz1 x0 x1
  refine (S.quiet (vastLoreP ar.length cs (fun b => b < w1.heap.size) ao co ca cc w1 ((HC.out.kept S.bel).mono (fun b h h2 => h2)) (fun b h => h) HN.out.1 HN.out.2 HFS0.out HSS.out)).mono ?_
  rintro e w2 ⟨rfl, z2, S2⟩
  clear S
  obtain ⟨vl, hvl⟩ : ∃ v, v = vastL ar.length cs := ⟨_, rfl⟩
  rw [← hvl]
  cases vl with
  | true =>
    have SE := Lib.hid S2.bel
    clear S2 hvl
    go_wp2_with fail
    go_ret
    exact ⟨rfl, SE.out⟩
  | false =>
  have HV := Lib.hid (vastL_smallP hvl.symm)
  clear hvl
  by_cases h70 : (70 : Int) < (gs.length : Int)
  · have SE := Lib.hid S2.bel
    clear S2
    go_wp2_with fail
    go_ret
    exact ⟨rfl, SE.out⟩
  obtain ⟨⟨x0, _⟩, x1, _⟩ := S2.two 0
  go_wp2_with fail
  refine (S2.faultF (lore51 ar cs (fun b => b < w2.heap.size) (fun b => b < w2.heap.size) ao co ca cc w2 ((HA.out.kept S2.bel).mono (fun b h h2 => h2)) ((HC.out.kept S2.bel).mono (fun b h h2 => h2)) (fun b h => h) (by have := HN.out.1; omega) HN.out.2 HFS0.out (fun i c hc j t ht => by have := HV.out.2.2.2 i c hc j t ht; omega))).mono ?_
  rintro e w3 ⟨C, D, rfl, HCD, z3, S3⟩
  obtain ⟨b5, hb5⟩ : ∃ b, b = w3.heap.size := ⟨_, rfl⟩
  have S4 := S3.box hb5.symm #[.int .i64 C, .int .i64 D] 29
  have z4 : b5 + 1 ≤ (w3.alloc (.cells #[.int .i64 C, .int .i64 D] 29)).heap.size := by simp [hb5]
  have HB5 := Lib.hid (show bx + 1 ≤ b5 by omega)
  clear S2 S3 x0 x1
  obtain ⟨⟨y0, y1⟩, y2, y3⟩ := S4.two 1
  go_upto_region 4 with fail
  rw [← hb5]
  refine S4.genC (z := b5 + 1) z4 ?_
  intro w4 z5 S
  clear S4 z4 hb5 y0 y1 y2 y3
  obtain ⟨y0, y1⟩ := S.two 1
  go_cut [30] (fun t30 W => t30 = .bool (decide (C = 0 ∧ 60 < gs.length)) ∧ W = w4)
  case first =>
    by_cases hC : C = 0
    · have hcb : (C == 0) = true := by simp [hC]
      by_cases h4 : 60 < gs.length
      · have HD := Lib.hid (show true = decide (C = 0 ∧ 60 < gs.length) from (decide_eq_true ⟨hC, h4⟩).symm)
        have h4i : (60 : Int) < (gs.length : Int) := by omega
        clear hC h4
        go_wp2_with fail
        go_meet
        case rel => exact ⟨congrArg Value.bool HD.out, rfl⟩
      · have HD := Lib.hid (show false = decide (C = 0 ∧ 60 < gs.length) from (decide_eq_false (fun h => h4 h.2)).symm)
        have h4i : ¬ (60 : Int) < (gs.length : Int) := by omega
        clear hC h4
        go_wp2_with fail
        go_meet
        case rel => exact ⟨congrArg Value.bool HD.out, rfl⟩
    · have hcb : (C == 0) = false := by simp [hC]
      have HD := Lib.hid (show false = decide (C = 0 ∧ 60 < gs.length) from (decide_eq_false (fun h => hC h.1)).symm)
      clear hC
      go_wp2_with fail
      go_meet
      case rel => exact ⟨congrArg Value.bool HD.out, rfl⟩
  case rest =>
  obtain ⟨ht30, hw⟩ := hcut
  replace hw := hw.symm
  subst hw
  subst ht30
  obtain ⟨dd, hdd⟩ : ∃ d, d = decide (C = 0 ∧ 60 < gs.length) := ⟨_, rfl⟩
  rw [← hdd]
  have HDD := Lib.hid hdd
  clear hdd y0 y1
  go_upto_if 30 with fail
  go_cut [] (fun W => ∃ (fc gc : Int), b5 + 1 ≤ W.heap.size ∧ St w W [.box bx #[.slice ao ar.length ca, .slice co cs.length cc] 25, .box b5 #[.int .i64 fc, .int .i64 gc] 29] ∧ Hid (PRun ar cs gs 0 fc gc))
  case first =>
    cases dd with
    | true =>
      have hCx : C = 0 ∧ 60 < gs.length := of_decide_eq_true HDD.out.symm
      have HR := Lib.hid (show PRun ar cs gs 0 2 (-1) from .inr ⟨by decide, by unfold pchkF; rw [if_neg (by rw [HCD.out]; simp [hCx.1]), if_pos hCx.2]⟩)
      clear hCx
      go_wp2_with fail
      refine (S.quiet (fault20 2 (-1) _)).mono ?_
      rintro e w9 ⟨rfl, z9, S9⟩
      obtain ⟨⟨y0, y1⟩, y2, y3⟩ := S9.two 1
      have hl := S9.lt 1
      have SG := Lib.hid (S9.set2 1 rfl (.int .i64 2) (.int .i64 (-1)) (by have := HBX.out; have := HB5.out; omega) (by have := HB5.out; simp only [fsnoc, offs, offAll, Fct.box, and_true]; omega))
      have zz : b5 + 1 ≤ ((w9.setCell ⟨b5, 0, none⟩ (.int .i64 2)).setCell ⟨b5, 1, none⟩ (.int .i64 (-1))).heap.size := by simp; omega
      clear S S9
      go_wp2_with fail
      go_meet
      case rel => exact ⟨2, -1, zz, SG.out, HR⟩
    | false =>
      have hCx : ¬ (C = 0 ∧ 60 < gs.length) := of_decide_eq_false HDD.out.symm
      have HR := Lib.hid (show PRun ar cs gs 0 C D by
        by_cases hC : C = 0
        · have h0 : (loreF ar cs).1 = 0 := by rw [HCD.out]; exact hC
          have h1 := (loreF_zero h0).1
          rw [HCD.out] at h1
          have h6 : ¬ 60 < gs.length := fun h => hCx ⟨hC, h⟩
          exact .inl ⟨hC, congrArg Prod.snd h1, h0, by omega, by unfold pchkF; rw [if_neg (by rw [h0]; simp), if_neg h6, List.drop_zero]; rfl⟩
        · refine .inr ⟨hC, ?_⟩
          unfold pchkF
          rw [if_pos (by rw [HCD.out]; exact hC), HCD.out])
      have SB := Lib.hid S
      clear hCx S
      go_wp2_with fail
      go_meet
      case rel => exact ⟨C, D, z5, SB.out, HR⟩
  case rest =>
  clear S z5 HCD HDD
  obtain ⟨fc, gc, hz, S, HRN⟩ := hcut
  go_wp2_with fail
  go_loopw [6] (fun i wr => ∃ (k : Nat) (fc gc : Int), k ≤ gs.length ∧ i = .int .i64 k ∧ b5 + 1 ≤ wr.heap.size ∧ St w wr [.box bx #[.slice ao ar.length ca, .slice co cs.length cc] 25, .box b5 #[.int .i64 fc, .int .i64 gc] 29] ∧ Hid (PRun ar cs gs k fc gc)) (fun i _ => gs.length - (intOf i).toNat)
  case atStart => exact ⟨0, fc, gc, by omega, rfl, hz, S, HRN⟩
  case round =>
    clear S hz HRN
    obtain ⟨k, fc, gc, hk, rfl, hz, S, HRN⟩ := hrel
    obtain ⟨⟨y0, y1⟩, y2, y3⟩ := S.two 1
    by_cases hround : k < gs.length ∧ fc = 0
    · as_aux_lemma =>
      obtain ⟨hlt, hfc⟩ := hround
      obtain ⟨_, hgc, hlz, hg6, hpk⟩ := HRN.out.resolve_right (fun h => h.1 hfc)
      subst hfc
      subst hgc
      have hlti : (k : Int) < (gs.length : Int) := by omega
      obtain ⟨b, off, ka, sa, rfl, _, f0, f1, htt⟩ := HG.out.tree hlt
      have HDR := Lib.hid (List.drop_eq_getElem_cons hlt)
      have HTS0 := Lib.hid (HGS.out _ (List.getElem_mem hlt))
      obtain ⟨t, ht⟩ : ∃ z, z = gs[k] := ⟨_, rfl⟩
      rw [← ht] at f0 f1 htt HDR HTS0
      have c0 := Below.cellOf S.bel f0; have c1 := Below.cellOf S.bel f1
      have HTT := Lib.hid (htt.kept S.bel)
      have HPK := Lib.hid (show pchkF ar cs gs = if codeF ar [⟨false, t, t⟩] ≠ 0 then (codeF ar [⟨false, t, t⟩], -2 - (k : Int)) else if 0 < t.most then (11, -2 - (k : Int)) else pchk ar (gs.drop (k + 1)) ((k : Int) + 1) by rw [hpk, HDR.out, pchk])
      have HLZ := Lib.hid (loreF_zero hlz)
      have HL0 := Lib.hid (And.intro hlz hg6)
      have hk60 : (k : Int) ≤ 60 := by omega
      have HF0 := Lib.hid f0; have HF1 := Lib.hid f1; have HTW := Lib.hid htt
      clear ht htt hpk HRN hlz f0 f1
      go_wp2_with fail
      refine (S.quiet (vast15 t _ _ (by have := HTS0.out; omega) HTT.out.at)).mono ?_
      rintro e w3 ⟨rfl, z4, S3⟩
      clear y0 y1 y2 y3 c0 c1
      cases hv : decide ((200 : Int) < t.size) with
      | true =>
        have SE := Lib.hid S3.bel
        clear S S3 hv HTT
        go_wp2_with fail
        go_ret
        exact ⟨rfl, SE.out⟩
      | false =>
        have HTS := Lib.hid (show t.size ≤ 1000000 by have := of_decide_eq_false hv; omega)
        clear hv S HTT
        obtain ⟨E, hE⟩ : ∃ E, E = codeF ar [⟨false, t, t⟩] := ⟨_, rfl⟩
        have HE := Lib.hid hE
        rw [← hE] at HPK
        clear hE
        have hz3 : b5 + 1 ≤ w3.heap.size := by omega
        clear hz z4
        go_upto_region 11 with fail
        have HTT := Lib.hid (HTW.out.kept S3.bel)
        have S := S3
        clear S3
        go_cut [7] (fun t7 W => t7 = .int .i64 E ∧ b5 + 1 ≤ W.heap.size ∧ St w W [.box bx #[.slice ao ar.length ca, .slice co cs.length cc] 25, .box b5 #[.int .i64 0, .int .i64 0] 29])
        case first =>
          have c0 := Below.cellOf S.bel HF0.out; have c1 := Below.cellOf S.bel HF1.out
          have x0 := (S.cell 0 0 rfl).1
          have FC := Lib.hid (fun W (hb : Below w3.heap.size w3 W) => (⟨Below.cellOf hb c0, Below.cellOf hb c1, Below.cellOf hb x0⟩ : (fun W => W.cell? ⟨b, off + k * 2, none⟩ = some (.int .i64 t.head) ∧ W.cell? ⟨b, off + k * 2 + 1, none⟩ = some (.slice ka t.kids.length (t.kids.length + sa)) ∧ W.cell? ⟨bx, 0, none⟩ = some (.slice ao ar.length ca)) W))
          clear c0 c1 x0
          refine wpH_region [] (fun W => W.cell? ⟨b, off + k * 2, none⟩ = some (.int .i64 t.head) ∧ W.cell? ⟨b, off + k * 2 + 1, none⟩ = some (.slice ka t.kids.length (t.kids.length + sa)) ∧ W.cell? ⟨bx, 0, none⟩ = some (.slice ao ar.length ca)) (by kernel_rfl) ?_
          have HS := FC.out _ (Below.refl _ w3).drew
          refine wpH.take (i := 0) (by kernel_rfl) (by kernel_rfl) (by kernel_rfl) (by kernel_rfl) (by kernel_rfl) HS ?_
          intro oi ho
          simp only [List.getElem?_toArray, List.getElem?_cons_zero, Option.some.injEq] at ho
          subst ho
          refine ⟨?_, Or.inl ⟨by rfl, ?_⟩, fun _ _ _ h => h, ?_⟩
          rotate_left 1
          · intro W hW
            try dsimp only at hW
            go_simp
            try with_reducible rfl
          simp only [Act.put, List.setIfInBounds_toArray, List.set_cons_zero, List.set_cons_succ]
          refine wpH.take (i := 1) (by kernel_rfl) (by kernel_rfl) (by kernel_rfl) (by kernel_rfl) (by kernel_rfl) HS ?_
          intro oi ho
          simp only [List.getElem?_toArray, List.getElem?_cons_succ, List.getElem?_cons_zero, Option.some.injEq] at ho
          subst ho
          refine ⟨?_, Or.inl ⟨by rfl, ?_⟩, fun _ _ _ h => h, ?_⟩
          rotate_left 1
          · intro W hW
            try dsimp only at hW
            go_simp
            try with_reducible rfl
          simp only [Act.put, List.setIfInBounds_toArray, List.set_cons_zero, List.set_cons_succ]
          refine wpH.take (i := 2) (by kernel_rfl) (by kernel_rfl) (by kernel_rfl) (by kernel_rfl) (by kernel_rfl) HS ?_
          intro oi ho
          simp only [List.getElem?_toArray, List.getElem?_cons_succ, List.getElem?_cons_zero, Option.some.injEq] at ho
          subst ho
          refine ⟨?_, Or.inl ⟨by rfl, ?_⟩, fun _ _ _ h => h, ?_⟩
          rotate_left 1
          · intro W hW
            try dsimp only at hW
            go_simp
            try with_reducible rfl
          simp only [Act.put, List.setIfInBounds_toArray, List.set_cons_zero, List.set_cons_succ]
          refine wpH.take (i := 3) (by kernel_rfl) (by kernel_rfl) (by kernel_rfl) (by kernel_rfl) (by kernel_rfl) HS ?_
          intro oi ho
          simp only [List.getElem?_toArray, List.getElem?_cons_succ, List.getElem?_cons_zero, Option.some.injEq] at ho
          subst ho
          refine ⟨?_, Or.inl ⟨by rfl, ?_⟩, fun _ _ _ h => h, ?_⟩
          rotate_left 1
          · intro W hW
            try dsimp only at hW
            go_simp
            try with_reducible rfl
          simp only [Act.put, List.setIfInBounds_toArray, List.set_cons_zero, List.set_cons_succ]
          refine wpH.take (i := 4) (by kernel_rfl) (by kernel_rfl) (by kernel_rfl) (by kernel_rfl) (by kernel_rfl) HS ?_
          intro oi ho
          simp only [List.getElem?_toArray, List.getElem?_cons_succ, List.getElem?_cons_zero, Option.some.injEq] at ho
          subst ho
          refine ⟨?_, Or.inl ⟨by rfl, ?_⟩, fun _ _ _ h => h, ?_⟩
          rotate_left 1
          · intro W hW
            try dsimp only at hW
            go_simp
            try with_reducible rfl
          simp only [Act.put, List.setIfInBounds_toArray, List.set_cons_zero, List.set_cons_succ]
          refine wpH.take (i := 5) (by kernel_rfl) (by kernel_rfl) (by kernel_rfl) (by kernel_rfl) (by kernel_rfl) HS ?_
          intro oi ho
          simp only [List.getElem?_toArray, List.getElem?_cons_succ, List.getElem?_cons_zero, Option.some.injEq] at ho
          subst ho
          refine ⟨?_, Or.inl ⟨by rfl, ?_⟩, fun _ _ _ h => h, ?_⟩
          rotate_left 1
          · intro W hW
            try dsimp only at hW
            go_simp
            try with_reducible rfl
          simp only [Act.put, List.setIfInBounds_toArray, List.set_cons_zero, List.set_cons_succ]
          refine wpH.take (i := 6) (by kernel_rfl) (by kernel_rfl) (by kernel_rfl) (by kernel_rfl) (by kernel_rfl) HS ?_
          intro oi ho
          simp only [List.getElem?_toArray, List.getElem?_cons_succ, List.getElem?_cons_zero, Option.some.injEq] at ho
          subst ho
          refine ⟨?_, Or.inl ⟨by rfl, ?_⟩, fun _ _ _ h => h, ?_⟩
          rotate_left 1
          · intro W hW
            try dsimp only at hW
            go_simp
            try with_reducible rfl
          simp only [Act.put, List.setIfInBounds_toArray, List.set_cons_zero, List.set_cons_succ]
          refine wpH.take (i := 7) (by kernel_rfl) (by kernel_rfl) (by kernel_rfl) (by kernel_rfl) (by kernel_rfl) HS ?_
          intro oi ho
          simp only [List.getElem?_toArray, List.getElem?_cons_succ, List.getElem?_cons_zero, Option.some.injEq] at ho
          subst ho
          refine ⟨?_, Or.inl ⟨by rfl, ?_⟩, fun _ _ _ h => h, ?_⟩
          rotate_left 1
          · intro W hW
            try dsimp only at hW
            go_simp
            try with_reducible rfl
          simp only [Act.put, List.setIfInBounds_toArray, List.set_cons_zero, List.set_cons_succ]
          refine wpH.take (i := 8) (by kernel_rfl) (by kernel_rfl) (by kernel_rfl) (by kernel_rfl) (by kernel_rfl) HS ?_
          intro oi ho
          simp only [List.getElem?_toArray, List.getElem?_cons_succ, List.getElem?_cons_zero, Option.some.injEq] at ho
          subst ho
          refine ⟨?_, Or.inl ⟨by rfl, ?_⟩, fun _ _ _ h => h, ?_⟩
          rotate_left 1
          · intro W hW
            try dsimp only at hW
            go_simp
            try with_reducible rfl
          simp only [Act.put, List.setIfInBounds_toArray, List.set_cons_zero, List.set_cons_succ]
          refine wpH.take (i := 11) (by kernel_rfl) (by kernel_rfl) (by kernel_rfl) (by kernel_rfl) (by kernel_rfl) HS ?_
          intro oi ho
          simp only [List.getElem?_toArray, List.getElem?_cons_succ, List.getElem?_cons_zero, Option.some.injEq] at ho
          subst ho
          refine ⟨?_, Or.inl ⟨by rfl, ?_⟩, fun _ _ _ h => h, ?_⟩
          rotate_left 1
          · intro W hW
            try dsimp only at hW
            go_simp
            try with_reducible rfl
          simp only [Act.put, List.setIfInBounds_toArray, List.set_cons_zero, List.set_cons_succ]
          refine wpH.take (i := 12) (by kernel_rfl) (by kernel_rfl) (by kernel_rfl) (by kernel_rfl) (by kernel_rfl) HS ?_
          intro oi ho
          simp only [List.getElem?_toArray, List.getElem?_cons_succ, List.getElem?_cons_zero, Option.some.injEq] at ho
          subst ho
          refine ⟨?_, Or.inl ⟨by rfl, ?_⟩, fun _ _ _ h => h, ?_⟩
          rotate_left 1
          · intro W hW
            try dsimp only at hW
            go_simp
            try with_reducible rfl
          simp only [Act.put, List.setIfInBounds_toArray, List.set_cons_zero, List.set_cons_succ]
          refine wpH.one (i := 9) (by kernel_rfl) ?_
          intro oi ho
          simp only [List.getElem?_toArray, List.getElem?_cons_succ, List.getElem?_cons_zero, Option.some.injEq] at ho
          subst ho
          intro K hK
          have HK := Lib.hid hK
          clear hK
          go_simp
          have S10 : St w ((w3.alloc (.cells #[.bool false, .int .i64 t.head, .slice ka t.kids.length (t.kids.length + sa), .int .i64 t.head, .slice ka t.kids.length (t.kids.length + sa)] 62)).drew) _ := (S.box (b := w3.heap.size) rfl #[.bool false, .int .i64 t.head, .slice ka t.kids.length (t.kids.length + sa), .int .i64 t.head, .slice ka t.kids.length (t.kids.length + sa)] 62).drew
          have HB10 : Hid (Below w3.heap.size w3 ((w3.alloc (.cells #[.bool false, .int .i64 t.head, .slice ka t.kids.length (t.kids.length + sa), .int .i64 t.head, .slice ka t.kids.length (t.kids.length + sa)] 62)).drew)) := Lib.hid (((Below.refl _ w3).alloc (Nat.le_refl _) _).drew)
          have hz10 : w3.heap.size + 1 ≤ ((w3.alloc (.cells #[.bool false, .int .i64 t.head, .slice ka t.kids.length (t.kids.length + sa), .int .i64 t.head, .slice ka t.kids.length (t.kids.length + sa)] 62)).drew).heap.size := by simp
          refine HK.out _ _ (fun _ => FC.out _ HB10.out) ?_
          generalize hW10 : (w3.alloc (.cells #[.bool false, .int .i64 t.head, .slice ka t.kids.length (t.kids.length + sa), .int .i64 t.head, .slice ka t.kids.length (t.kids.length + sa)] 62)).drew = W10 at S10 HB10 hz10 ⊢
          clear hW10
          have HS := FC.out _ HB10.out
          try simp only [Act.put, List.setIfInBounds_toArray, List.set_cons_zero, List.set_cons_succ]
          have HROW := Lib.hid (fact_block (S10.block 2) ((HTT.out.kept HB10.out).mono (fun b h h2 => h2)) (by omega))
          have S11 := Lib.hid (S10.pick [0, 1])
          clear S10
          refine wpH.take (i := 10) (by kernel_rfl) (by kernel_rfl) (by kernel_rfl) (by kernel_rfl) (by kernel_rfl) HS ?_
          intro oi ho
          simp only [List.getElem?_toArray, List.getElem?_cons_succ, List.getElem?_cons_zero, Option.some.injEq] at ho
          subst ho
          refine ⟨?_, Or.inl ⟨by rfl, ?_⟩, fun _ _ _ h => h, ?_⟩
          rotate_left 1
          · intro W hW
            try dsimp only at hW
            go_simp
            try with_reducible rfl
          simp only [Act.put, List.setIfInBounds_toArray, List.set_cons_zero, List.set_cons_succ]
          refine wpH.one (i := 13) (by kernel_rfl) ?_
          intro oi ho
          simp only [List.getElem?_toArray, List.getElem?_cons_succ, List.getElem?_cons_zero, Option.some.injEq] at ho
          subst ho
          intro K hK
          have HK := Lib.hid hK
          clear hK
          go_simp
          go_at_call 26
          refine (claim27 ar [⟨false, t, t⟩] (fun b => b < W10.heap.size) (fun b => b < W10.heap.size) (some ⟨w3.heap.size, 0, none⟩) ao 0 ca W10 ((HA.out.kept S11.out.bel).mono (fun b h h2 => h2)) (by have := HLZ.out.2.1; omega) HROW.out (by simp) (fun b h => h) (fun i t' hi => by have h1 := List.mem_of_getElem? hi; have h2 : t' = t := (by simpa [treesF] using h1); rw [h2]; exact HTS.out)).mono ?_
          rintro e wn ⟨rfl, hbn⟩
          rw [← HE.out]
          have S12 := Lib.hid (S11.out.step hbn)
          have HB12 := Lib.hid (Below.step HB10.out hbn)
          have zn := hbn.size
          clear hbn
          dsimp only
          refine HK.out _ _ (fun _ => FC.out _ HB12.out) ?_
          have HS := FC.out _ HB12.out
          try simp only [Act.put, List.setIfInBounds_toArray, List.set_cons_zero, List.set_cons_succ]
          refine wpH.one (i := 14) (by kernel_rfl) ?_
          intro oi ho
          simp only [List.getElem?_toArray, List.getElem?_cons_succ, List.getElem?_cons_zero, Option.some.injEq] at ho
          subst ho
          intro K hK
          have HK := Lib.hid hK
          clear hK
          go_simp
          refine HK.out _ _ (fun _ => FC.out _ HB12.out) ?_
          have HS := FC.out _ HB12.out
          try simp only [Act.put, List.setIfInBounds_toArray, List.set_cons_zero, List.set_cons_succ]
          refine wpH.done (by kernel_rfl) ?_
          try go_wp2_with fail
          go_meet
          case rel => exact ⟨rfl, by omega, S12.out⟩
        case rest =>
        obtain ⟨ht7, hz, S2⟩ := hcut
        subst ht7
        clear S hz3
        by_cases hE0 : E = 0
        · subst hE0
          have HC0 := Lib.hid (codeF_zero.1 HE.out.symm).2
          have HLOW := Lib.hid (show t.low from low_of_pre t (treeF_ok.1 (HC0.out t (List.mem_cons_self ..)).1).2.2)
          have c0 := Below.cellOf S2.bel HF0.out; have c1 := Below.cellOf S2.bel HF1.out
          have HT2 := Lib.hid (HTW.out.kept S2.bel)
          clear HTT
          go_wp2_with fail
          refine (S2.quiet (most30 t _ _ HLOW.out HT2.out.at)).mono ?_
          rintro e w5 ⟨rfl, z5, S5⟩
          clear S2 c0 c1 HT2
          by_cases hm : 0 < t.most
          · have HN := Lib.hid (show PRun ar cs gs (k + 1) 11 (-2 - (k : Int)) from .inr ⟨by decide, by rw [HPK.out, if_neg (by simp), if_pos hm]⟩)
            have hwk : IntKind.i64.wrap (-2 - (k : Int)) = -2 - (k : Int) := IntWalk.i64_in _ (by omega)
            go_wp2_with fail
            have S9 := S5
            clear S5
            refine (S9.quietP (fault20 11 (-2 - (k : Int)) _)).mono ?_
            rintro e w4 ⟨rfl, hb4, z4, S4⟩
            obtain ⟨⟨y0, y1⟩, y2, y3⟩ := S4.two 1
            have hl := S4.lt 1
            have SG := Lib.hid (S4.set2 1 rfl (.int .i64 11) (.int .i64 (-2 - (k : Int))) (by have := HBX.out; have := HB5.out; omega) (by have := HB5.out; simp only [offs, offAll, Fct.box, and_true]; omega))
            have zz : b5 + 1 ≤ ((w4.setCell ⟨b5, 0, none⟩ (.int .i64 11)).setCell ⟨b5, 1, none⟩ (.int .i64 (-2 - (k : Int)))).heap.size := by simp; omega
            clear S9 S4 hb4
            go_wp2_with fail
            go_roundw
            case rel => exact ⟨k + 1, 11, -2 - (k : Int), by omega, by go_num, zz, SG.out, HN⟩
            case measure => simp [intOf] <;> omega
          · have HN := Lib.hid (show PRun ar cs gs (k + 1) 0 0 from .inl ⟨rfl, rfl, HL0.out.1, HL0.out.2, by rw [HPK.out, if_neg (by simp), if_neg hm]; rfl⟩)
            have SB := Lib.hid S5
            have zz : b5 + 1 ≤ w5.heap.size := by omega
            clear S5
            go_wp2_with fail
            go_roundw
            case rel => exact ⟨k + 1, 0, 0, by omega, by go_num, zz, SB.out, HN⟩
            case measure => simp [intOf] <;> omega
        · have hcb : (E == 0) = false := by simp [hE0]
          have hcn : (E != 0) = true := by simp [hE0]
          have HN := Lib.hid (show PRun ar cs gs (k + 1) E (-2 - (k : Int)) from .inr ⟨hE0, by rw [HPK.out, if_pos hE0]⟩)
          have hwk : IntKind.i64.wrap (-2 - (k : Int)) = -2 - (k : Int) := IntWalk.i64_in _ (by omega)
          clear hE0 HTT
          go_wp2_with fail
          have S9 := S2
          clear S2
          refine (S9.quietP (fault20 E (-2 - (k : Int)) _)).mono ?_
          rintro e w4 ⟨rfl, hb4, z4, S4⟩
          obtain ⟨⟨y0, y1⟩, y2, y3⟩ := S4.two 1
          have hl := S4.lt 1
          have SG := Lib.hid (S4.set2 1 rfl (.int .i64 E) (.int .i64 (-2 - (k : Int))) (by have := HBX.out; have := HB5.out; omega) (by have := HB5.out; simp only [offs, offAll, Fct.box, and_true]; omega))
          have zz : b5 + 1 ≤ ((w4.setCell ⟨b5, 0, none⟩ (.int .i64 E)).setCell ⟨b5, 1, none⟩ (.int .i64 (-2 - (k : Int)))).heap.size := by simp; omega
          clear S9 S4 hb4
          go_wp2_with fail
          go_roundw
          case rel => exact ⟨k + 1, E, -2 - (k : Int), by omega, by go_num, zz, SG.out, HN⟩
          case measure => simp [intOf] <;> omega
    · as_aux_lemma =>
      have HRX := Lib.hid (show (fc ≠ 0 ∧ pchkF ar cs gs = (fc, gc)) ∨ (fc = 0 ∧ gc = 0 ∧ (loreF ar cs).1 = 0 ∧ gs.length ≤ 60 ∧ pchkF ar cs gs = (0, 0)) by
        rcases HRN.out with h | h
        · have hkl : k = gs.length := by
            rcases Nat.lt_or_ge k gs.length with h2 | h2
            · exact absurd ⟨h2, h.1⟩ hround
            · omega
          subst hkl
          exact .inr ⟨h.1, h.2.1, h.2.2.1, h.2.2.2.1, by rw [h.2.2.2.2, List.drop_length, pchk]⟩
        · exact .inl h)
      have hcond : ¬ (k : Int) < (gs.length : Int) ∨ (fc == 0) = false := by
        by_cases h : (k : Int) < (gs.length : Int)
        · exact .inr (by simp; intro h2; exact hround ⟨by omega, h2⟩)
        · exact .inl h
      clear HRN hround
      go_upto_region 7 with fail
      go_cut [40] (fun t40 W => t40 = .bool false ∧ W = wr)
      case first =>
        by_cases hlt : (k : Int) < (gs.length : Int)
        · have hcb : (fc == 0) = false := hcond.resolve_left (fun h => h hlt)
          clear hcond
          go_wp2_with fail
          go_meet
          case rel => exact ⟨rfl, rfl⟩
        · clear hcond
          go_wp2_with fail
          go_meet
          case rel => exact ⟨rfl, rfl⟩
      case rest =>
      obtain ⟨ht40, hw⟩ := hcut
      replace hw := hw.symm
      subst hw
      subst ht40
      clear hcond y0 y1 y2 y3
      go_upto_region 17 with fail
      obtain ⟨⟨y0, y1⟩, y2, y3⟩ := S.two 1
      obtain ⟨dz, hdz⟩ : ∃ d, (fc == 0) = d := ⟨_, rfl⟩
      go_upto_if 80 with fail
      go_cut [8] (fun t8 W => ∃ (R : List (List Fc)) (ro : Option Addr) (rs : Nat) (F G : Int), t8 = .slice ro R.length rs ∧ Hid (patDoF ar cs gs = (R, (F, G))) ∧ b5 + 1 ≤ W.heap.size ∧ St w W [.box bx #[.slice ao ar.length ca, .slice co cs.length cc] 25, .box b5 #[.int .i64 F, .int .i64 G] 29] ∧ claimE.Row (fun b => b < w.heap.size ∨ b5 + 1 ≤ b) W ro R)
      case first =>
        cases dz with
        | false =>
          have hfc : fc ≠ 0 := by simpa using hdz
          have HPD := Lib.hid (show patDoF ar cs gs = ([], (fc, gc)) by
            rcases HRX.out with h | h
            · unfold patDoF; rw [if_pos (by rw [h.2]; exact hfc), h.2]
            · exact absurd h.1 hfc)
          have SB := Lib.hid S
          clear S y0 y1 y2 y3 hfc hdz
          go_wp2_with fail
          go_meet
          case rel => exact ⟨[], none, 0, fc, gc, rfl, HPD, hz, SB.out, Elt.Row.nil⟩
        | true =>
          have hfc : fc = 0 := by simpa using hdz
          obtain ⟨_, hgc, hlz, hg6, hpk⟩ := HRX.out.resolve_left (fun h => h.1 hfc)
          subst hfc
          subst hgc
          have HLZ := Lib.hid (loreF_zero hlz)
          have HPZ := Lib.hid (pchkF_zero (show (pchkF ar cs gs).1 = 0 by rw [hpk]))
          have HPD := Lib.hid (show patDoF ar cs gs = doGo ar (subsF gs) cs 0 [] by unfold patDoF; rw [if_neg (by rw [hpk]; simp)])
          have HCC := Lib.hid (show ∀ c ∈ cs, c.length ≤ 6 ∧ ∀ t ∈ treesF c, (treeF t).1 = 0 from fun c hc => by
            have h := codeF_zero.1 (HLZ.out.2.2.2.2 c hc)
            exact ⟨h.1, fun t ht => (h.2 t ht).1⟩)
          have HDQ := Lib.hid (do_eq (ar := ar) (A := subsF gs) (subs_ok HPZ.out.2.2) cs 0 [] HLZ.out.2.2.2.2 (by omega) (by simp))
          clear hlz hpk hdz HRX
          obtain ⟨⟨x0, _⟩, x1, _⟩ := S.two 0
          go_wp2_with fail
          refine (instances28 ar cs gs (fun b => b < w.heap.size) ao co go_ ca cc gcap _ (fun b h => by have := S.bel.size; omega) (HC.out.kept S.bel) (HG.out.kept S.bel) (by have := HLZ.out.2.2.1; omega) (by omega) HCC.out (fun t ht => (HPZ.out.2.2 t ht).1)).mono ?_
          rintro e w5 ⟨ro, rs, rfl, hro, hr60, hb5⟩
          obtain ⟨RR, hRR⟩ : ∃ X, X = instD (subsF gs) cs 0 [] := ⟨_, rfl⟩
          rw [← hRR] at hro HDQ ⊢
          clear hRR hr60
          obtain ⟨RC, KI⟩ := RR
          have HKR := Lib.hid (show claimE.Row (fun b => b < w.heap.size ∨ b5 + 1 ≤ b) w5 ro RC from hro.mono (fun b h _ => h.imp id (fun h => by omega)))
          have S5 := S.step hb5
          have z5 : b5 + 1 ≤ w5.heap.size := Nat.le_trans hz hb5.size
          clear S hro hb5 x0 x1 y0 y1 y2 y3
          dsimp only
          by_cases hk0 : 0 ≤ KI
          · have HP2 := Lib.hid (show patDoF ar cs gs = (RC, (10, KI)) by
              rw [HPD.out]
              obtain ⟨h1, h2⟩ := HDQ.out
              rcases h2 with h2 | h2
              · have h3 : KI = -1 := h2.1
                omega
              · exact Prod.ext h1.symm h2.2)
            have hki : (KI ≥ 0) := hk0
            clear HDQ HPD
            go_wp2_with fail
            refine (S5.quietP (fault20 10 KI _)).mono ?_
            rintro e w6 ⟨rfl, hb6, z6, S6⟩
            obtain ⟨⟨y0, y1⟩, y2, y3⟩ := S6.two 1
            have hl := S6.lt 1
            have SG := Lib.hid (S6.set2 1 rfl (.int .i64 10) (.int .i64 KI) (by have := HBX.out; have := HB5.out; omega) (by have := HB5.out; simp only [offs, offAll, Fct.box, and_true]; omega))
            have zz : b5 + 1 ≤ ((w6.setCell ⟨b5, 0, none⟩ (.int .i64 10)).setCell ⟨b5, 1, none⟩ (.int .i64 KI)).heap.size := by simp; omega
            have HKS := Lib.hid (show claimE.Row (fun b => b < w.heap.size ∨ b5 + 1 ≤ b) ((w6.setCell ⟨b5, 0, none⟩ (.int .i64 10)).setCell ⟨b5, 1, none⟩ (.int .i64 KI)) ro RC from (HKR.out.kept hb6).keep (fun b h1 h2 => ⟨(Below.heap_setCell _ _ _ _ (by have h3 : b < w.heap.size ∨ b5 + 1 ≤ b := h1; have := HBX.out; have := HB5.out; show b ≠ b5; omega)).trans (Below.heap_setCell _ _ _ _ (by have h3 : b < w.heap.size ∨ b5 + 1 ≤ b := h1; have := HBX.out; have := HB5.out; show b ≠ b5; omega)), h1⟩))
            clear S5 S6 hb6
            go_wp2_with fail
            go_meet
            case rel => exact ⟨RC, ro, rs, 10, KI, rfl, HP2, zz, SG.out, HKS.out⟩
          · have HP2 := Lib.hid (show patDoF ar cs gs = (RC, (0, 0)) by
              rw [HPD.out]
              obtain ⟨h1, h2⟩ := HDQ.out
              rcases h2 with h2 | h2
              · exact Prod.ext h1.symm h2.2
              · exact absurd h2.1 hk0)
            have hki : ¬ (KI ≥ 0) := hk0
            have SB := Lib.hid S5
            clear HDQ HPD S5
            go_wp2_with fail
            go_meet
            case rel => exact ⟨RC, ro, rs, 0, 0, rfl, HP2, z5, SB.out, HKR.out⟩
      case rest =>
      clear S hz y0 y1 y2 y3 HRX hdz
      obtain ⟨R, ro, rs, F, G, ht8, HPD, hz, S, hro⟩ := hcut
      subst ht8
      have HRO := Lib.hid hro
      clear hro
      have HR60 := Lib.hid (show R.length ≤ 60 by have h := patDoF_len ar cs gs; rw [HPD.out] at h; exact h)
      have HR6 := Lib.hid (show ∀ c ∈ R, c.length ≤ 6 by
        intro c hc
        by_cases hF : F = 0
        · subst hF
          exact (codeF_zero.1 (patDo_ground HPD.out c hc).1).1
        · have h := patDoF_err (ar := ar) (cs := cs) (gs := gs) (by rw [HPD.out]; exact hF)
          rw [HPD.out] at h
          have h2 : R = [] := h
          rw [h2] at hc; cases hc)
      have hr60 := HR60.out
      obtain ⟨⟨x0, _⟩, x1, _⟩ := S.two 0
      go_wp2_with fail
      refine (patDo29 (fun b => b < w.heap.size) ar cs gs ao co go_ ca cc gcap _ (fun b h => by have := S.bel.size; omega) (HA.out.kept S.bel) (HC.out.kept S.bel) (HG.out.kept S.bel) HML.out.1 HML.out.2 HGN.out).mono ?_
      rintro e wt ⟨ro2, sp2, rfl, hro2, hbt⟩
      rw [HPD.out] at hro2 ⊢
      have S2 := S.step hbt
      have zt := hbt.size
      have HR2 := Lib.hid hro2
      have HR1 := Lib.hid (HRO.out.kept hbt)
      obtain ⟨b12, hb12⟩ : ∃ b, b = wt.heap.size := ⟨_, rfl⟩
      have S3 := S2.box hb12.symm #[.int .i64 F, .int .i64 G] 29
      have HAL := Lib.hid (show Below wt.heap.size wt (wt.alloc (.cells #[.int .i64 F, .int .i64 G] 29)) from (Below.refl _ wt).alloc (Nat.le_refl _) _)
      have HR2b := Lib.hid (HR2.out.kept HAL.out)
      have HR1b := Lib.hid (HR1.out.kept HAL.out)
      clear S S2 hbt hro2 x0 x1 HR1 HR2
      obtain ⟨⟨y0, _⟩, y1, _⟩ := S3.two 1
      obtain ⟨⟨u0, _⟩, u1, _⟩ := S3.two 2
      dsimp only
      go_upto_region 23 with fail
      rw [← hb12]
      clear hb12 HAL
      generalize (wt.alloc (.cells #[.int .i64 F, .int .i64 G] 29)) = wu at *
      go_wp2_with fail
      clear y0 y1 u0 u1
      have HWU := Lib.hid S3.bel
      clear S3
      go_loopw [13] (fun i wq => ∃ k : Nat, k ≤ R.length ∧ i = .int .i64 k ∧ Below wu.heap.size wu wq) (fun i _ => R.length - (intOf i).toNat)
      case atStart => exact ⟨0, by omega, rfl, Below.refl _ _⟩
      case round =>
        obtain ⟨k, hk, rfl, hbk⟩ := hrel
        by_cases hlt : k < R.length
        · have hlti : (k : Int) < (R.length : Int) := by omega
          obtain ⟨b1, off1, k1, s1, rfl, _, c1, r1, _⟩ := (HR2b.out.kept hbk).claim hlt
          obtain ⟨b2, off2, k2, s2, rfl, _, c2, r2', _⟩ := (HR1b.out.kept hbk).claim hlt
          have HL1 := Lib.hid (HR6.out _ (List.getElem_mem hlt))
          obtain ⟨F1, hF1⟩ : ∃ X, X = R[k] := ⟨_, rfl⟩
          rw [← hF1] at c1 r1 c2 r2' HL1
          have HX1 := Lib.hid r1; have HX2 := Lib.hid r2'
          have CN := Lib.hid (fun d os => Calls.regrown_of (sameClaim20 F1 F1 _ _ k1 k2 (F1.length + s1) (F1.length + s2) (Go.Sort.grow (redrawn wr d) os) (HX1.out.kept (below_regrown wr d os)) (HX2.out.kept (below_regrown wr d os)) (by have := HL1.out; omega) (by have := HL1.out; omega)))
          rw [decide_eq_true (rfl : F1 = F1)] at CN
          have q1 := cell_regrown c1; have q2 := cell_regrown c2
          clear r1 r2' c1 c2 hF1
          go_wp2_with fail
          refine wp_region_quiet_below (by kernel_rfl) (by kernel_rfl) ?_
          iterate 10 (go_big_quiet_step (exact CN.out _ _))
          refine wpQuiet_nil ?_
          intro _ hw'
          obtain ⟨⟨dq, osq⟩, hw''⟩ := hw'
          subst hw''
          have hb2 := Below.step hbk (below_regrown wr dq osq)
          clear q1 q2
          go_wp2_with fail
          go_roundw
          case rel => exact ⟨k + 1, by omega, by go_num, hb2⟩
          case measure => simp [intOf] <;> omega
        · obtain rfl : k = R.length := by omega
          have SE := Lib.hid (show Below w.heap.size w wr from Below.step HWU.out hbk)
          go_wp2_with fail
          go_ret
          exact ⟨rfl, SE.out⟩
end Go.Proofs.Ytlhnfdjidjgfgaa
