/-
  The law TraceSays: for any lore and steps it answers true.
-/
import Derived.Test.YtlhnfdjidjgfgaaProg
import Derived.Test.YtlhnfdjidjgfgaaKt
import Derived.Test.YtlhnfdjidjgfgaaKf2
import Derived.Test.YtlhnfdjidjgfgaaZ3
import Derived.Test.YtlhnfdjidjgfgaaE4
import Derived.Test.YtlhnfdjidjgfgaaE5
import Derived.Deep.DeepCutAuto
import Derived.Deep.CutBlock
import Derived.BigQuiet
namespace Go.Proofs.Ytlhnfdjidjgfgaa
open Go.RowKit Go.Shelf
set_option linter.unusedVariables false
set_option maxHeartbeats 400000

theorem vastC_smallG {c : List Fc} (h : vastC c = false) : (treesF c).length ≤ 40 ∧ ∀ (i : Nat) t, (treesF c)[i]? = some t → t.size ≤ 200 := by
  unfold vastC at h
  rw [Bool.or_eq_false_iff] at h
  refine ⟨by have := of_decide_eq_false h.1; omega, fun i t ht => ?_⟩
  have h2 := (List.any_eq_false.1 h.2) t (List.mem_of_getElem? ht)
  unfold bigT at h2
  have h3 := of_decide_eq_false (by simpa using h2 : decide ((200 : Int) < t.size) = false)
  omega
theorem vastL_smallG {na : Nat} {cs : List (List Fc)} (h : vastL na cs = false) : na ≤ 40 ∧ cs.length ≤ 80 ∧ (∀ (i : Nat) c, cs[i]? = some c → c.length ≤ 40) ∧ ∀ (i : Nat) c, cs[i]? = some c → ∀ (j : Nat) t, (treesF c)[j]? = some t → t.size ≤ 200 := by
  unfold vastL at h
  rw [Bool.or_eq_false_iff, Bool.or_eq_false_iff] at h
  have h1 := of_decide_eq_false h.1.1
  have h2 := of_decide_eq_false h.1.2
  have h3 : ∀ (i : Nat) c, cs[i]? = some c → vastC c = false := fun i c hc => by
    have := (List.any_eq_false.1 h.2) c (List.mem_of_getElem? hc)
    simpa using this
  refine ⟨by omega, by omega, fun i c hc => ?_, fun i c hc j t ht => (vastC_smallG (h3 i c hc)).2 j t ht⟩
  have h4 := (vastC_smallG (h3 i c hc)).1
  rw [treesF_length] at h4
  omega
set_option maxRecDepth 100000 in
set_option maxHeartbeats 4000000 in
theorem vastLoreG (na : Nat) (cs : List (List Fc)) (p : Nat → Prop) (aa co : Option Addr) (ca cc : Nat) (w : World) (h : claimE.Row p w co cs) (hp : ∀ b, p b → b < w.heap.size) (hna : na ≤ 2000000) (hn : cs.length ≤ 1000000)
    (hf : ∀ (i : Nat) c, cs[i]? = some c → c.length ≤ 1000000) (hs : ∀ (i : Nat) c, cs[i]? = some c → ∀ (j : Nat) t, (treesF c)[j]? = some t → t.size ≤ 2000000) :
    Calls Try.prog 15 #[.agg #[.slice aa na ca, .slice co cs.length cc]] w fun e w' => e = .returned (.bool (vastL na cs)) ∧ Below w.heap.size w w' := by
  by_cases h1 : na ≤ 1000000
  · exact vastLore15 na cs p aa co ca cc w h hp h1 hn hf hs
  obtain ⟨bx, hbx⟩ : ∃ b, b = w.heap.size := ⟨_, rfl⟩
  have S := (St.start w).box hbx.symm #[.slice aa na ca, .slice co cs.length cc] 25
  have HBX := Lib.hid hbx
  clear h hp hs hf
  have HV := Lib.hid (show vastL na cs = true by unfold vastL; rw [decide_eq_true (show 40 < na by omega)]; simp)
  have SE := Lib.hid S.bel
  have h4i : (40 : Int) < (na : Int) := by omega
  by_cases h8 : 80 < cs.length
  · have h8i : (80 : Int) < (cs.length : Int) := by omega
    clear S h8 h1 hna
    go_enter Try.func15, Try.ntmps15
    go_wp2_with fail
    go_ret
    exact ⟨ret_bool HV.out.symm, SE.out⟩
  · have h8i : ¬ (80 : Int) < (cs.length : Int) := by omega
    clear S h8 h1 hna
    go_enter Try.func15, Try.ntmps15
    go_wp2_with fail
    go_ret
    exact ⟨ret_bool HV.out.symm, SE.out⟩
theorem ClaimsAt.mono {p q : Nat → Prop} {w : World} {ko : Option Addr} {cs : List (List Fc)} (h : ClaimsAt p w ko cs) (hpq : ∀ b, p b → b < w.heap.size → q b) : ClaimsAt q w ko cs := fun i hi => by
  obtain ⟨b, off, k, sp, e, hc, hr⟩ := h i hi
  exact ⟨b, off, k, sp, e, hc, hr.mono hpq⟩
/-- an own row of claims, read as claims in memory -/
theorem own_claimsAt {p : Nat → Prop} {B : Nat} {w : World} {o : Value} {xs : List (List Fc)} (h : claimE.Own p B w o xs) : ∃ ko sp, o = .slice ko xs.length (xs.length + sp) ∧ ClaimsAt (fun b => p b ∧ o.ownBlock ≠ some b) w ko xs ∧ xs.length ≤ maxLen := by
  obtain ⟨css, hcl, ho, hk⟩ := h
  obtain ⟨_, h2⟩ := ho
  rcases h2 with ⟨rfl, hn⟩ | ⟨g, cap, cur, rfl, hB, hh, hnc, hm, hsz, htk⟩
  · have : xs = [] := List.eq_nil_of_length_eq_zero hn
    subst this
    exact ⟨none, 0, rfl, fun i hi => absurd hi (by simp), by simp⟩
  · refine ⟨some ⟨g, 0, none⟩, cap - xs.length, by congr 1; omega, fun i hi => ?_, by omega⟩
    have hcs : css[i]? = some css[i] := List.getElem?_eq_getElem (by omega)
    have hx : xs[i]? = some xs[i] := List.getElem?_eq_getElem hi
    obtain ⟨k, sp, e, hr, _⟩ := hk i _ _ hcs hx
    have h3 := flat_at (n := 1) (Elt.lens hcl hk) hcs (show css[i][0]? = some _ by rw [e]; rfl)
    refine ⟨g, 0, k, sp, rfl, ?_, hr⟩
    rw [← htk, List.getElem?_take, if_pos (by show i * 1 + 0 < xs.length * 1; omega)] at h3
    simp only [World.cell?, hh, Nat.zero_add, Option.isSome_none]
    rw [show i * 1 + 0 = i by omega] at h3
    rw [← Array.getElem?_toList, h3]; simp
theorem own_lt {p : Nat → Prop} {B : Nat} {w : World} {o : Value} {xs : List (List Fc)} (h : claimE.Own p B w o xs) : claimE.Own (fun b => p b ∧ b < w.heap.size) B w o xs := by
  obtain ⟨css, hcl, ho, hk⟩ := h
  exact ⟨css, hcl, ho, fun i cs x h1 h2 => claimE.keep (fun b hb hl => ⟨rfl, ⟨hb.1, hl⟩, hb.2⟩) (hk i cs x h1 h2)⟩
theorem stepF_bad {ar : List Int} {cs known : List (List Fc)} {g : Gt} (h : (stepF ar cs known g).2 ≠ 0) : (stepF ar cs known g).1 = [] := by
  unfold stepF at h ⊢
  by_cases h1 : g.kind < 1 ∨ 4 < g.kind
  · rw [if_pos h1]
  rw [if_neg h1] at h ⊢
  by_cases h2 : ¬ inL g.a (if g.kind = 1 then cs.length else known.length) ∨ (g.kind = 3 ∧ ¬ inL g.b known.length)
  · rw [if_pos h2]
  rw [if_neg h2] at h ⊢
  by_cases h3 : g.kind = 2 ∧ (bindF g.bs).1 ≠ 0
  · rw [if_pos h3]
  rw [if_neg h3] at h ⊢
  by_cases h4 : g.kind = 3 ∧ (rightF (gC known g.a) (gC known g.b) g).2 ≠ 0
  · rw [if_pos h4]
  rw [if_neg h4] at h ⊢
  by_cases h5 : codeF ar (outF cs known g) ≠ 0
  · rw [if_pos h5]
  rw [if_neg h5] at h
  exact absurd rfl h
/-- where the document's run stands ahead of step k -/
def RunAt (ar : List Int) (cs : List (List Fc)) (gs : List Gt) (k : Nat) (K : List (List Fc)) (fc gc : Int) : Prop :=
  (fc = 0 ∧ gc = 0 ∧ (loreF ar cs).1 = 0 ∧ gs.length ≤ 400 ∧ takeGo ar cs (gs.take k) [] 0 = (K, (0, 0))) ∨ (fc ≠ 0 ∧ takeF ar cs gs = ([], (fc, gc)))
theorem St.quietB {P : Program} {n : Nat} {a : Array Value} {w0 w : World} {l : List Fct} (S : St w0 w l) {v : Value} (h : Calls P n a w fun e w' => e = .returned v ∧ Below w.heap.size w w') :
    Calls P n a w fun e w' => e = .returned v ∧ Below w.heap.size w w' ∧ w.heap.size ≤ w'.heap.size ∧ St w0 w' l :=
  h.mono fun e w' ⟨h1, h2⟩ => ⟨h1, h2, h2.size, S.step h2⟩

set_option maxRecDepth 100000 in
set_option maxHeartbeats 8000000 in
theorem traceSays3 (ar : List Int) (cs : List (List Fc)) (gs : List Gt) (ao co go_ : Option Addr) (ca cc gcap : Nat) (w : World)
    (ha : intE.Row (fun b => b < w.heap.size) w ao ar) (hc : claimE.Row (fun b => b < w.heap.size) w co cs) (hg : gotE.Row (fun b => b < w.heap.size) w go_ gs) (hna : ar.length ≤ 2000000) (hn : cs.length ≤ 1000000) (hgn : gs.length ≤ maxLen)
    (hf : ∀ (i : Nat) c, cs[i]? = some c → c.length ≤ 1000000) (hs : ∀ (i : Nat) c, cs[i]? = some c → ∀ (j : Nat) t, (treesF c)[j]? = some t → t.size ≤ 2000000)
    (hbs : ∀ (i : Nat) g, gs[i]? = some g → ∀ (j : Nat) t, g.bs[j]? = some t → t.size ≤ 100000000) :
    Calls Try.prog 3 #[.agg #[.slice ao ar.length ca, .slice co cs.length cc], .slice go_ gs.length gcap] w fun e w' => e = .returned (.bool true) ∧ Below w.heap.size w w' := by
  have HA := Lib.hid ha; have HC := Lib.hid hc; have HG := Lib.hid hg; have HGN := Lib.hid hgn; have HFS0 := Lib.hid hf; have HSS := Lib.hid hs; have HBS := Lib.hid hbs
  have HN := Lib.hid (And.intro hna hn)
  have HML := Lib.hid (show ar.length ≤ maxLen ∧ cs.length ≤ maxLen from by unfold maxLen; omega)
  have hgn' : gs.length ≤ 9223372036854775807 := by unfold maxLen at hgn; omega
  obtain ⟨i41, gi, gz0, gz1, gz2⟩ := info_parts infoC41
  obtain ⟨bx, hbx⟩ : ∃ b, b = w.heap.size := ⟨_, rfl⟩
  have S1 := (St.start w).box hbx.symm #[.slice ao ar.length ca, .slice co cs.length cc] 25
  have hsz1 : (w.alloc (.cells #[.slice ao ar.length ca, .slice co cs.length cc] 25)).heap.size = bx + 1 := by simp [hbx]
  have HBX := Lib.hid hbx
  obtain ⟨⟨x0, _⟩, x1, _⟩ := S1.two 0
  clear ha hc hg hgn hf hs hbs hna hn
  go_enter Try.func3, Try.ntmps3
  go_wp2_with fail
  rw [← hbx]
  refine S1.gen (z := bx + 1) (by omega) ?_
  intro w1 z1 S
  clear S1 hbx hsz1 x0 x1
  refine (S.quiet (vastLoreG ar.length cs (fun b => b < w1.heap.size) ao co ca cc w1 ((HC.out.kept S.bel).mono (fun b h h2 => h2)) (fun b h => h) HN.out.1 HN.out.2 HFS0.out HSS.out)).mono ?_
  rintro e w2 ⟨rfl, z2, S2⟩
  clear S
  obtain ⟨vl, hvl⟩ : ∃ v, v = vastL ar.length cs := ⟨_, rfl⟩
  rw [← hvl]
  cases vl with
  | true =>
    have SE := Lib.hid S2.bel
    clear S2 hvl
    go_wp2_with fail
    go_ret
    exact ⟨rfl, SE.out⟩
  | false =>
  have HV := Lib.hid (vastL_smallG hvl.symm)
  clear hvl
  by_cases h45 : (450 : Int) < (gs.length : Int)
  · have SE := Lib.hid S2.bel
    clear S2
    go_wp2_with fail
    go_ret
    exact ⟨rfl, SE.out⟩
  obtain ⟨⟨x0, _⟩, x1, _⟩ := S2.two 0
  go_wp2_with fail
  refine (S2.faultF (lore51 ar cs (fun b => b < w2.heap.size) (fun b => b < w2.heap.size) ao co ca cc w2 ((HA.out.kept S2.bel).mono (fun b h h2 => h2)) ((HC.out.kept S2.bel).mono (fun b h h2 => h2)) (fun b h => h) (by have := HN.out.1; omega) HN.out.2 HFS0.out (fun i c hc j t ht => by have := HV.out.2.2.2 i c hc j t ht; omega))).mono ?_
  rintro e w3 ⟨C, D, rfl, HCD, z3, S3⟩
  obtain ⟨b5, hb5⟩ : ∃ b, b = w3.heap.size := ⟨_, rfl⟩
  have S4 := S3.box hb5.symm #[.int .i64 C, .int .i64 D] 29
  have z4 : b5 + 1 ≤ (w3.alloc (.cells #[.int .i64 C, .int .i64 D] 29)).heap.size := by simp [hb5]
  have HB5 := Lib.hid (show bx + 1 ≤ b5 by omega)
  clear S2 S3 x0 x1
  obtain ⟨⟨y0, y1⟩, y2, y3⟩ := S4.two 1
  go_upto_region 4 with fail
  rw [← hb5]
  refine S4.genC (z := b5 + 1) z4 ?_
  intro w4 z5 S
  clear S4 z4 hb5 y0 y1 y2 y3
  obtain ⟨y0, y1⟩ := S.two 1
  go_cut [32] (fun t32 W => t32 = .bool (decide (C = 0 ∧ 400 < gs.length)) ∧ W = w4)
  case first =>
    by_cases hC : C = 0
    · have hcb : (C == 0) = true := by simp [hC]
      by_cases h4 : 400 < gs.length
      · have HD := Lib.hid (show true = decide (C = 0 ∧ 400 < gs.length) from (decide_eq_true ⟨hC, h4⟩).symm)
        have h4i : (400 : Int) < (gs.length : Int) := by omega
        clear hC h4
        go_wp2_with fail
        go_meet
        case rel => exact ⟨congrArg Value.bool HD.out, rfl⟩
      · have HD := Lib.hid (show false = decide (C = 0 ∧ 400 < gs.length) from (decide_eq_false (fun h => h4 h.2)).symm)
        have h4i : ¬ (400 : Int) < (gs.length : Int) := by omega
        clear hC h4
        go_wp2_with fail
        go_meet
        case rel => exact ⟨congrArg Value.bool HD.out, rfl⟩
    · have hcb : (C == 0) = false := by simp [hC]
      have HD := Lib.hid (show false = decide (C = 0 ∧ 400 < gs.length) from (decide_eq_false (fun h => hC h.1)).symm)
      clear hC
      go_wp2_with fail
      go_meet
      case rel => exact ⟨congrArg Value.bool HD.out, rfl⟩
  case rest =>
  obtain ⟨ht32, hw⟩ := hcut
  replace hw := hw.symm
  subst hw
  subst ht32
  obtain ⟨dd, hdd⟩ : ∃ d, d = decide (C = 0 ∧ 400 < gs.length) := ⟨_, rfl⟩
  rw [← hdd]
  have HDD := Lib.hid hdd
  clear hdd y0 y1
  go_upto_if 32 with fail
  go_cut [] (fun W => ∃ (fc gc : Int), b5 + 1 ≤ W.heap.size ∧ St w W [.box bx #[.slice ao ar.length ca, .slice co cs.length cc] 25, .box b5 #[.int .i64 fc, .int .i64 gc] 29] ∧ Hid (RunAt ar cs gs 0 [] fc gc))
  case first =>
    cases dd with
    | true =>
      have hCx : C = 0 ∧ 400 < gs.length := of_decide_eq_true HDD.out.symm
      have HR := Lib.hid (show RunAt ar cs gs 0 [] 2 (-1) from .inr ⟨by decide, by unfold takeF; rw [if_neg (by rw [HCD.out]; simp [hCx.1]), if_pos hCx.2]⟩)
      clear hCx
      go_wp2_with fail
      refine (S.quiet (fault20 2 (-1) _)).mono ?_
      rintro e w9 ⟨rfl, z9, S9⟩
      obtain ⟨⟨y0, y1⟩, y2, y3⟩ := S9.two 1
      have hl := S9.lt 1
      have SG := Lib.hid (S9.set2 1 rfl (.int .i64 2) (.int .i64 (-1)) (by have := HBX.out; have := HB5.out; omega) (by have := HB5.out; simp only [fsnoc, offs, offAll, Fct.box, and_true]; omega))
      have zz : b5 + 1 ≤ ((w9.setCell ⟨b5, 0, none⟩ (.int .i64 2)).setCell ⟨b5, 1, none⟩ (.int .i64 (-1))).heap.size := by simp; omega
      clear S S9
      go_wp2_with fail
      go_meet
      case rel => exact ⟨2, -1, zz, SG.out, HR⟩
    | false =>
      have hCx : ¬ (C = 0 ∧ 400 < gs.length) := of_decide_eq_false HDD.out.symm
      have HR := Lib.hid (show RunAt ar cs gs 0 [] C D by
        by_cases hC : C = 0
        · have h0 : (loreF ar cs).1 = 0 := by rw [HCD.out]; exact hC
          have h1 := (loreF_zero h0).1
          rw [HCD.out] at h1
          exact .inl ⟨hC, congrArg Prod.snd h1, h0, by have : ¬ 400 < gs.length := fun h => hCx ⟨hC, h⟩; omega, by rw [List.take_zero, takeGo]⟩
        · refine .inr ⟨hC, ?_⟩
          unfold takeF
          rw [if_pos (by rw [HCD.out]; exact hC), HCD.out])
      have SB := Lib.hid S
      clear hCx S
      go_wp2_with fail
      go_meet
      case rel => exact ⟨C, D, z5, SB.out, HR⟩
  case rest =>
  clear S z5
  obtain ⟨fc, gc, hz, S, HRN⟩ := hcut
  go_wp2_with fail
  have S := S.add (.owns claimE (b5 + 1) (fun b => b < w.heap.size ∨ b5 + 1 ≤ b) (.slice none 0 0) []) (Elt.Own.nil _ _ _ _)
  go_loopw [6, 7] (fun o i wr => ∃ (k : Nat) (K : List (List Fc)) (fc gc : Int), k ≤ gs.length ∧ i = .int .i64 k ∧ b5 + 1 ≤ wr.heap.size ∧ St w wr [.box bx #[.slice ao ar.length ca, .slice co cs.length cc] 25, .box b5 #[.int .i64 fc, .int .i64 gc] 29, .owns claimE (b5 + 1) (fun b => b < w.heap.size ∨ b5 + 1 ≤ b) (o) (K)] ∧ Hid (RunAt ar cs gs k K fc gc)) (fun _ i _ => gs.length - (intOf i).toNat)
  case atStart => exact ⟨0, [], fc, gc, by omega, rfl, hz, S, HRN⟩
  case round =>
    clear S hz HRN HCD HDD
    obtain ⟨k, K, fc, gc, hk, rfl, hz, S, HRN⟩ := hrel
    by_cases hlt : k < gs.length
    · by_cases hfc : fc = 0
      · as_aux_lemma =>
        obtain ⟨hfc0, hgc, HZ, H4, HK⟩ := HRN.out.resolve_right (fun h => h.1 hfc)
        subst hfc
        subst hgc
        have HZ1 := Lib.hid HZ
        have H41 := Lib.hid H4
        have HLZ := Lib.hid (loreF_zero HZ)
        have hKl : K.length = k := by rw [takeGo_len HK]; simp; omega
        have HFS := Lib.hid (fun code (hs : (stepF ar cs K gs[k]).2 = code) (hc : code ≠ 0) => takeF_stop HZ H4 hlt HK hs hc)
        have HNX := Lib.hid (show (stepF ar cs K gs[k]).2 = 0 → takeGo ar cs (gs.take (k + 1)) [] 0 = (K ++ [(stepF ar cs K gs[k]).1], (0, 0)) from fun h0 => by
          rw [List.take_succ_eq_append_getElem hlt, takeGo_snoc _ (by rw [HK]), HK, if_neg (by rw [h0]; simp)])
        have HKC := Lib.hid (show ∀ c ∈ K, codeF ar c = 0 from fun c hc => by
          have := takeGo_code (ar := ar) (cs := cs) HLZ.out.2.2.2.2 (gs := gs.take k) (known := []) (i := 0) (fun c h => by simp at h) c
          rw [HK] at this; exact this hc)
        have HBZ := Lib.hid (HBS.out k gs[k] (List.getElem?_eq_getElem hlt))
        obtain ⟨ko, ksp, rfl, _, _⟩ := own_claimsAt (S.owns claimE 2)
        obtain ⟨b, off, po, pc, bo, bc, rfl, hpb, hcl, hpl, hbs, hpc, hbc⟩ := HG.out.got hlt
        obtain ⟨g, hg⟩ : ∃ g, g = gs[k] := ⟨_, rfl⟩
        rw [← hg] at hcl hpl hbs hpc hbc HFS HNX HBZ
        have HCL := Lib.hid hcl
        have HPL := Lib.hid hpl; have HB := Lib.hid hbs; have HPC := Lib.hid hpc; have HBC := Lib.hid hbc
        have HKl := Lib.hid hKl
        have HKK := Lib.hid HK
        have hbc64 : g.bs.length ≤ 9223372036854775807 := by unfold maxLen at hbc; omega
        clear hcl hpl hbs hpc hbc hg hpb hKl HK HZ H4 HRN
        obtain ⟨⟨y0, y1⟩, y2, y3⟩ := S.two 1
        obtain ⟨wv, hwv⟩ : ∃ W, W = wr := ⟨_, rfl⟩
        subst hwv
        have hlti : (k : Int) < (gs.length : Int) := by omega
        go_wp2_with fail
        clear y0 y1 y2 y3
        go_loopw [8] (fun i wr => ∃ m : Nat, m ≤ g.bs.length ∧ i = .int .i64 m ∧ Hid (∀ (j : Nat) t, j < m → g.bs[j]? = some t → t.size ≤ 200) ∧ b5 + 1 ≤ wr.heap.size ∧ St w wr [.box bx #[.slice ao ar.length ca, .slice co cs.length cc] 25, .box b5 #[.int .i64 0, .int .i64 0] 29, .owns claimE (b5 + 1) (fun b => b < w.heap.size ∨ b5 + 1 ≤ b) (.slice ko K.length (K.length + ksp)) (K)]) (fun i _ => g.bs.length - (intOf i).toNat)
        case atStart => exact ⟨0, by omega, rfl, Lib.hid (fun j t hj _ => by omega), hz, S⟩
        case round =>
          clear S hz
          obtain ⟨m, hm, rfl, HNO, hz, S⟩ := hrel
          have c7 := Below.cellOf S.bel (HCL.out 7 _ rfl)
          by_cases hlt2 : m < g.bs.length
          · have hlti2 : (m : Int) < (g.bs.length : Int) := by omega
            obtain ⟨b2, off2, ka2, sa2, rfl, hpb2, d0, d1, ht⟩ := (HB.out.kept S.bel).tree hlt2
            have HT := Lib.hid ht
            clear ht hpb2
            go_wp2_with fail
            refine (S.quiet (vast15 g.bs[m] _ _ (by have := HBZ.out m _ (List.getElem?_eq_getElem hlt2); omega) HT.out.at)).mono ?_
            rintro e w3 ⟨rfl, z4, S3⟩
            clear S d0 d1 c7
            cases hv : decide ((200 : Int) < g.bs[m].size) with
            | true =>
              have SE := Lib.hid S3.bel
              clear S3 hv
              go_wp2_with fail
              go_ret
              exact ⟨rfl, SE.out⟩
            | false =>
              have HN2 := Lib.hid (show ∀ (j : Nat) t, j < m + 1 → g.bs[j]? = some t → t.size ≤ 200 from fun j t hj hjt => by
                rcases Nat.lt_succ_iff_lt_or_eq.1 hj with h3 | rfl
                · exact HNO.out j t h3 hjt
                · rw [List.getElem?_eq_getElem hlt2] at hjt
                  obtain rfl := Option.some.inj hjt
                  have := of_decide_eq_false hv
                  omega)
              clear hv
              go_wp2_with fail
              go_roundw
              case rel => exact ⟨m + 1, by omega, by go_num, HN2, by omega, S3⟩
              case measure => simp [intOf] <;> omega
          · obtain rfl : m = g.bs.length := by omega
            have HBS2 := Lib.hid (show ∀ i, i < g.bs.length → (gK g.bs i).size ≤ 1000000 from fun i hi => by
              rw [gK_get hi]
              have := HNO.out i _ hi (List.getElem?_eq_getElem hi)
              omega)
            obtain ⟨ko2, ksp2, he2, hks, hml2⟩ := own_claimsAt (S.owns claimE 2)
            simp only [Value.slice.injEq] at he2
            obtain ⟨rfl, _, he3⟩ := he2
            have he4 : ksp = ksp2 := by omega
            subst he4
            clear he3
            have HKS := Lib.hid hks
            have HOW := Lib.hid (show ∀ c, (.slice ko K.length (K.length + ksp) : Value).ownBlock = some c → b5 + 1 ≤ c ∧ c < wr.heap.size from fun c hc => S.ownlt claimE 2 rfl c hc)
            obtain ⟨q, hq⟩ : ∃ q : Nat → Prop, q = (fun c => (c < w.heap.size ∨ b5 + 1 ≤ c) ∧ c < wr.heap.size ∧ (.slice ko K.length (K.length + ksp) : Value).ownBlock ≠ some c) := ⟨_, rfl⟩
            have HQE := Lib.hid (show ∀ c, q c ↔ (c < w.heap.size ∨ b5 + 1 ≤ c) ∧ c < wr.heap.size ∧ (.slice ko K.length (K.length + ksp) : Value).ownBlock ≠ some c from fun c => by rw [hq])
            have HQB := Lib.hid (show ¬ q b5 from fun h => by have h1 := ((HQE.out _).1 h).1; have := HBX.out; have := HB5.out; omega)
            clear hq hks hml2
            have HQ0 := Lib.hid (show ∀ c, c < w.heap.size → q c from fun c hc => (HQE.out c).2 ⟨.inl hc, by have := S.bel.size; omega, fun h => by have := (HOW.out c h).1; have := HBX.out; have := HB5.out; omega⟩)
            have SW := Lib.hid S.bel
            have S : St w wr [.box bx #[.slice ao ar.length ca, .slice co cs.length cc] 25, .box b5 #[.int .i64 0, .int .i64 0] 29, .owns claimE (b5 + 1) (fun b => (b < w.heap.size ∨ b5 + 1 ≤ b) ∧ b < wr.heap.size) (.slice ko K.length (K.length + ksp)) (K)] := (S.pick [0, 1]).add (.owns claimE (b5 + 1) (fun b => (b < w.heap.size ∨ b5 + 1 ≤ b) ∧ b < wr.heap.size) (.slice ko K.length (K.length + ksp)) K) (own_lt (S.owns claimE 2))
            have HGT := Lib.hid (fun (W : World) (hb : Below wr.heap.size wr W) => got19 ar cs K g q ao co ko po bo ca cc (K.length + ksp) pc bc W (fun c h => Nat.lt_of_lt_of_le ((HQE.out c).1 h).2.1 hb.size) ((HA.out.kept (Below.step SW.out hb)).mono (fun b h h2 => h2)) (((HC.out.kept (Below.step SW.out hb)).mono (q := q) (fun b h h2 => HQ0.out b h)).claimsAt) ((HKS.out.mono (q := q) (fun b h h2 => (HQE.out b).2 ⟨h.1, h2, h.2⟩)).kept hb) ((HPL.out.kept (Below.step SW.out hb)).mono (fun b h h2 => h2)) ((HB.out.kept (Below.step SW.out hb)).mono (fun b h h2 => HQ0.out b h)) (by have := HLZ.out.2.1; omega) HML.out.2 (by rw [HKl.out]; have := H41.out; unfold maxLen; omega) HPC.out HBC.out HLZ.out.2.2.2.2 HKC.out HBS2.out)
            unfold GotP at HGT
            obtain ⟨CD, hCD⟩ : ∃ X, X = stepF ar cs K g := ⟨_, rfl⟩
            rw [← hCD] at HGT HFS HNX
            have HCL6 := Lib.hid (show CD.1.length ≤ 6 by
              rw [hCD]
              by_cases h : (stepF ar cs K g).2 = 0
              · have h1 := stepF_zero h
                rw [h1.1]
                exact (code_small h1.2.1).1
              · rw [stepF_bad h]; simp)
            clear hCD
            obtain ⟨Cn, code⟩ := CD
            replace HCL6 := Lib.hid (show Cn.length ≤ 6 from HCL6.out)
            have hz9 : bx + 1 ≤ b5 := HB5.out
            have HZR := Lib.hid hz
            go_upto_region 15 with fail
            go_cut [9, 10] (fun t9 t10 W => ∃ (b9 : Nat) (ro : Option Addr) (rsp : Nat), t9 = .pointer (some ⟨b9, 0, none⟩) ∧ t10 = .int .i64 code ∧ wr.heap.size ≤ b9 ∧ b9 + 1 ≤ W.heap.size ∧ St w W [.box bx #[.slice ao ar.length ca, .slice co cs.length cc] 25, .box b5 #[.int .i64 0, .int .i64 0] 29, .owns claimE (b5 + 1) (fun b => (b < w.heap.size ∨ b5 + 1 ≤ b) ∧ b < wr.heap.size) (.slice ko K.length (K.length + ksp)) (K), .box b9 #[.slice ro Cn.length (Cn.length + rsp)] 41] ∧ factE.Row (fun c => q c ∨ wr.heap.size ≤ c) W ro Cn)
            case first =>
              have x0 := (S.cell 0 0 rfl).1
              have x1 := (S.cell 0 1 rfl).1
              have c0 := Below.cellOf S.bel (HCL.out 0 _ rfl); have c1 := Below.cellOf S.bel (HCL.out 1 _ rfl); have c2 := Below.cellOf S.bel (HCL.out 2 _ rfl); have c3 := Below.cellOf S.bel (HCL.out 3 _ rfl)
              have c4 := Below.cellOf S.bel (HCL.out 4 _ rfl); have c5 := Below.cellOf S.bel (HCL.out 5 _ rfl); have c6 := Below.cellOf S.bel (HCL.out 6 _ rfl)
              rw [Nat.add_zero] at c0
              have FC := Lib.hid (fun W (hb : Below wr.heap.size wr W) => (⟨Below.cellOf hb x0, Below.cellOf hb x1, Below.cellOf hb c0, Below.cellOf hb c1, Below.cellOf hb c2, Below.cellOf hb c3, Below.cellOf hb c4, Below.cellOf hb c5, Below.cellOf hb c6, Below.cellOf hb c7⟩ : (fun W => W.cell? ⟨bx, 0, none⟩ = some (.slice ao ar.length ca) ∧ W.cell? ⟨bx, 1, none⟩ = some (.slice co cs.length cc) ∧ W.cell? ⟨b, off + k * 8, none⟩ = some (.int .i64 g.kind) ∧ W.cell? ⟨b, off + k * 8 + 1, none⟩ = some (.int .i64 g.a) ∧ W.cell? ⟨b, off + k * 8 + 2, none⟩ = some (.int .i64 g.b) ∧ W.cell? ⟨b, off + k * 8 + 3, none⟩ = some (.int .i64 g.i) ∧ W.cell? ⟨b, off + k * 8 + 4, none⟩ = some (.int .i64 g.j) ∧ W.cell? ⟨b, off + k * 8 + 5, none⟩ = some (.bool g.turn) ∧ W.cell? ⟨b, off + k * 8 + 6, none⟩ = some (.slice po g.pl.length (g.pl.length + pc)) ∧ W.cell? ⟨b, off + k * 8 + 7, none⟩ = some (.slice bo g.bs.length (g.bs.length + bc))) W))
              have SD := S.drew
              have B0x : Hid (Below wr.heap.size wr wr.drew) := Lib.hid (Below.refl _ wr).drew
              clear S c0 c1 c2 c3 c4 c5 c6 c7 x0 x1
              refine wpH_region [12] (fun W => W.cell? ⟨bx, 0, none⟩ = some (.slice ao ar.length ca) ∧ W.cell? ⟨bx, 1, none⟩ = some (.slice co cs.length cc) ∧ W.cell? ⟨b, off + k * 8, none⟩ = some (.int .i64 g.kind) ∧ W.cell? ⟨b, off + k * 8 + 1, none⟩ = some (.int .i64 g.a) ∧ W.cell? ⟨b, off + k * 8 + 2, none⟩ = some (.int .i64 g.b) ∧ W.cell? ⟨b, off + k * 8 + 3, none⟩ = some (.int .i64 g.i) ∧ W.cell? ⟨b, off + k * 8 + 4, none⟩ = some (.int .i64 g.j) ∧ W.cell? ⟨b, off + k * 8 + 5, none⟩ = some (.bool g.turn) ∧ W.cell? ⟨b, off + k * 8 + 6, none⟩ = some (.slice po g.pl.length (g.pl.length + pc)) ∧ W.cell? ⟨b, off + k * 8 + 7, none⟩ = some (.slice bo g.bs.length (g.bs.length + bc))) (by kernel_rfl) ?_
              have HS := FC.out _ (Below.refl _ wr).drew
              refine wpH.take (i := 0) (by kernel_rfl) (by kernel_rfl) (by kernel_rfl) (by kernel_rfl) (by kernel_rfl) HS ?_
              intro oi ho
              simp only [List.getElem?_toArray, List.getElem?_cons_zero, Option.some.injEq] at ho
              subst ho
              refine ⟨?_, Or.inl ⟨by rfl, ?_⟩, fun _ _ _ h => h, ?_⟩
              rotate_left 1
              · intro W hW
                try dsimp only at hW
                go_simp
                try with_reducible rfl
              simp only [Act.put, List.setIfInBounds_toArray, List.set_cons_zero, List.set_cons_succ]
              refine wpH.take (i := 1) (by kernel_rfl) (by kernel_rfl) (by kernel_rfl) (by kernel_rfl) (by kernel_rfl) HS ?_
              intro oi ho
              simp only [List.getElem?_toArray, List.getElem?_cons_succ, List.getElem?_cons_zero, Option.some.injEq] at ho
              subst ho
              refine ⟨?_, Or.inl ⟨by rfl, ?_⟩, fun _ _ _ h => h, ?_⟩
              rotate_left 1
              · intro W hW
                try dsimp only at hW
                go_simp
                try with_reducible rfl
              simp only [Act.put, List.setIfInBounds_toArray, List.set_cons_zero, List.set_cons_succ]
              refine wpH.take (i := 2) (by kernel_rfl) (by kernel_rfl) (by kernel_rfl) (by kernel_rfl) (by kernel_rfl) HS ?_
              intro oi ho
              simp only [List.getElem?_toArray, List.getElem?_cons_succ, List.getElem?_cons_zero, Option.some.injEq] at ho
              subst ho
              refine ⟨?_, Or.inl ⟨by rfl, ?_⟩, fun _ _ _ h => h, ?_⟩
              rotate_left 1
              · intro W hW
                try dsimp only at hW
                go_simp
                try with_reducible rfl
              simp only [Act.put, List.setIfInBounds_toArray, List.set_cons_zero, List.set_cons_succ]
              refine wpH.take (i := 3) (by kernel_rfl) (by kernel_rfl) (by kernel_rfl) (by kernel_rfl) (by kernel_rfl) HS ?_
              intro oi ho
              simp only [List.getElem?_toArray, List.getElem?_cons_succ, List.getElem?_cons_zero, Option.some.injEq] at ho
              subst ho
              refine ⟨?_, Or.inl ⟨by rfl, ?_⟩, fun _ _ _ h => h, ?_⟩
              rotate_left 1
              · intro W hW
                try dsimp only at hW
                go_simp
                try with_reducible rfl
              simp only [Act.put, List.setIfInBounds_toArray, List.set_cons_zero, List.set_cons_succ]
              refine wpH.take (i := 4) (by kernel_rfl) (by kernel_rfl) (by kernel_rfl) (by kernel_rfl) (by kernel_rfl) HS ?_
              intro oi ho
              simp only [List.getElem?_toArray, List.getElem?_cons_succ, List.getElem?_cons_zero, Option.some.injEq] at ho
              subst ho
              refine ⟨?_, Or.inl ⟨by rfl, ?_⟩, fun _ _ _ h => h, ?_⟩
              rotate_left 1
              · intro W hW
                try dsimp only at hW
                go_simp
                try with_reducible rfl
              simp only [Act.put, List.setIfInBounds_toArray, List.set_cons_zero, List.set_cons_succ]
              refine wpH.take (i := 5) (by kernel_rfl) (by kernel_rfl) (by kernel_rfl) (by kernel_rfl) (by kernel_rfl) HS ?_
              intro oi ho
              simp only [List.getElem?_toArray, List.getElem?_cons_succ, List.getElem?_cons_zero, Option.some.injEq] at ho
              subst ho
              refine ⟨?_, Or.inl ⟨by rfl, ?_⟩, fun _ _ _ h => h, ?_⟩
              rotate_left 1
              · intro W hW
                try dsimp only at hW
                go_simp
                try with_reducible rfl
              simp only [Act.put, List.setIfInBounds_toArray, List.set_cons_zero, List.set_cons_succ]
              refine wpH.two (i := 6) (j := 10) (by kernel_rfl) ?_ ?_
              · intro oi ho
                simp only [List.getElem?_toArray, List.getElem?_cons_succ, List.getElem?_cons_zero, Option.some.injEq] at ho
                subst ho
                intro K' hK
                have HK := Lib.hid hK
                clear hK
                go_simp
                go_at_call 19
                refine (HGT.out wr.drew B0x.out).mono ?_
                rintro e wn ⟨ro, rsp, rfl, hr2, hbn⟩
                have HR2 := Lib.hid (show factE.Row (fun c => (q c ∨ wr.heap.size ≤ c) ∧ c < wn.heap.size) wn ro Cn from hr2.mono (fun b h h2 => ⟨h.elim .inl (fun h => .inr (by have hs : wr.heap.size ≤ b := h; omega)), h2⟩))
                have S9 := SD.step hbn
                have HB9y := Lib.hid (Below.step B0x.out hbn)
                have zn := hbn.size
                clear hbn hr2
                dsimp only
                refine HK.out _ _ (fun _ => FC.out _ HB9y.out) ?_
                have HS := FC.out _ HB9y.out
                try simp only [Act.put, List.setIfInBounds_toArray, List.set_cons_zero, List.set_cons_succ]
                refine wpH.take (i := 7) (by kernel_rfl) (by kernel_rfl) (by kernel_rfl) (by kernel_rfl) (by kernel_rfl) HS ?_
                intro oi ho
                simp only [List.getElem?_toArray, List.getElem?_cons_succ, List.getElem?_cons_zero, Option.some.injEq] at ho
                subst ho
                refine ⟨?_, Or.inl ⟨by rfl, ?_⟩, fun _ _ _ h => h, ?_⟩
                rotate_left 1
                · intro W hW
                  try dsimp only at hW
                  go_simp
                  try with_reducible rfl
                simp only [Act.put, List.setIfInBounds_toArray, List.set_cons_zero, List.set_cons_succ]
                refine wpH.take (i := 8) (by kernel_rfl) (by kernel_rfl) (by kernel_rfl) (by kernel_rfl) (by kernel_rfl) HS ?_
                intro oi ho
                simp only [List.getElem?_toArray, List.getElem?_cons_succ, List.getElem?_cons_zero, Option.some.injEq] at ho
                subst ho
                refine ⟨?_, Or.inl ⟨by rfl, ?_⟩, fun _ _ _ h => h, ?_⟩
                rotate_left 1
                · intro W hW
                  try dsimp only at hW
                  go_simp
                  try with_reducible rfl
                simp only [Act.put, List.setIfInBounds_toArray, List.set_cons_zero, List.set_cons_succ]
                refine wpH.take (i := 9) (by kernel_rfl) (by kernel_rfl) (by kernel_rfl) (by kernel_rfl) (by kernel_rfl) HS ?_
                intro oi ho
                simp only [List.getElem?_toArray, List.getElem?_cons_succ, List.getElem?_cons_zero, Option.some.injEq] at ho
                subst ho
                refine ⟨?_, Or.inl ⟨by rfl, ?_⟩, fun _ _ _ h => h, ?_⟩
                rotate_left 1
                · intro W hW
                  try dsimp only at hW
                  go_simp
                  try with_reducible rfl
                simp only [Act.put, List.setIfInBounds_toArray, List.set_cons_zero, List.set_cons_succ]
                refine wpH.one (i := 10) (by kernel_rfl) ?_
                intro oi ho
                simp only [List.getElem?_toArray, List.getElem?_cons_succ, List.getElem?_cons_zero, Option.some.injEq] at ho
                subst ho
                intro K' hK
                have HK := Lib.hid hK
                clear hK
                go_simp
                have S10 := S9.box (b := wn.heap.size) rfl #[.slice none 0 0] 41
                have HB10y := Lib.hid (HB9y.out.alloc (HB9y.out.size) (.cells #[.slice none 0 0] 41))
                refine HK.out _ _ (fun _ => FC.out _ HB10y.out) ?_
                have HS := FC.out _ HB10y.out
                try simp only [Act.put, List.setIfInBounds_toArray, List.set_cons_zero, List.set_cons_succ]
                have HRw := Lib.hid (show factE.Row (fun c => (q c ∨ wr.heap.size ≤ c) ∧ c ≠ wn.heap.size) (wn.alloc (.cells #[.slice none 0 0] 41)) ro Cn from (HR2.out.kept ((Below.refl _ wn).alloc (Nat.le_refl _) _)).mono (fun b h _ => ⟨h.1, by have := h.2; omega⟩))
                generalize hW3 : wn.alloc (.cells #[.slice none 0 0] 41) = W3 at S10 HB10y HS HRw ⊢
                clear hW3
                refine wpH.one (i := 11) (by kernel_rfl) ?_
                intro oi ho
                simp only [List.getElem?_toArray, List.getElem?_cons_succ, List.getElem?_cons_zero, Option.some.injEq] at ho
                subst ho
                intro K' hK
                have HK := Lib.hid hK
                clear hK
                obtain ⟨e0, e1⟩ := S10.one 3
                have hlb := S10.lt 3
                have hw12 : wr.heap.size ≤ wn.heap.size := by first | exact Nat.le_refl _ | (have h := zn; (try simp at h); omega)
                go_simp
                have SF := S10.set1 3 rfl (.slice ro Cn.length (Cn.length + rsp)) (by have := HBX.out; have := HB5.out; have := HZR.out; omega) (by have := HBX.out; have := HB5.out; have := HZR.out; have hn1 := HOW.out; simp only [fsnoc, offs, offAll, Fct.box, Fct.owns, and_true]; exact ⟨by omega, by omega, fun e => e.elim (fun e => by have := (hn1 _ e).2; omega) (fun e => by have := e.2; omega)⟩)
                have HBF := Lib.hid (HB10y.out.setCell (p := ⟨wn.heap.size, 0, none⟩) (by show wr.heap.size ≤ wn.heap.size; omega) (.slice ro Cn.length (Cn.length + rsp)))
                have HR3 := Lib.hid (show factE.Row (fun c => q c ∨ wr.heap.size ≤ c) (W3.setCell ⟨wn.heap.size, 0, none⟩ (.slice ro Cn.length (Cn.length + rsp))) ro Cn from HRw.out.keep (fun b h1 h2 => ⟨Below.heap_setCell _ _ _ _ h1.2, h1.1⟩))
                clear e0 e1
                refine HK.out _ _ (fun _ => FC.out _ HBF.out) ?_
                have HS := FC.out _ HBF.out
                try simp only [Act.put, List.setIfInBounds_toArray, List.set_cons_zero, List.set_cons_succ]
                refine wpH.one (i := 12) (by kernel_rfl) ?_
                intro oi ho
                simp only [List.getElem?_toArray, List.getElem?_cons_succ, List.getElem?_cons_zero, Option.some.injEq] at ho
                subst ho
                intro K' hK
                have HK := Lib.hid hK
                clear hK
                go_simp
                refine HK.out _ _ (fun h => absurd h (by decide)) ?_
                try simp only [Act.put, List.setIfInBounds_toArray, List.set_cons_zero, List.set_cons_succ]
                refine wpH.done (by kernel_rfl) ?_
                have SH := Lib.hid (SF.pick [0, 1, 2, 3])
                clear SF HS
                try go_wp2_with fail
                go_meet
                case rel => exact ⟨wn.heap.size, ro, rsp, rfl, rfl, by omega, by simp; omega, SH.out, HR3.out⟩
              · intro oi ho
                simp only [List.getElem?_toArray, List.getElem?_cons_succ, List.getElem?_cons_zero, Option.some.injEq] at ho
                subst ho
                intro K' hK
                have HK := Lib.hid hK
                clear hK
                go_simp
                have S9 : St w ((wr.alloc (.cells #[.slice none 0 0] 41)).drew) _ := SD.box (b := wr.heap.size) rfl #[.slice none 0 0] 41
                have HB9y : Hid (Below wr.heap.size wr ((wr.alloc (.cells #[.slice none 0 0] 41)).drew)) := Lib.hid (((Below.refl _ wr).alloc (Nat.le_refl _) _).drew)
                refine HK.out _ _ (fun _ => FC.out _ HB9y.out) ?_
                try simp only [Act.put, List.setIfInBounds_toArray, List.set_cons_zero, List.set_cons_succ]
                have hzz9 : wr.heap.size + 1 ≤ ((wr.alloc (.cells #[.slice none 0 0] 41)).drew).heap.size := by simp
                generalize hW9 : (wr.alloc (.cells #[.slice none 0 0] 41)).drew = W9 at S9 HB9y hzz9 ⊢
                clear hW9
                have HS := FC.out _ HB9y.out
                refine wpH.one (i := 6) (by kernel_rfl) ?_
                intro oi ho
                simp only [List.getElem?_toArray, List.getElem?_cons_succ, List.getElem?_cons_zero, Option.some.injEq] at ho
                subst ho
                intro K' hK
                have HK := Lib.hid hK
                clear hK
                go_simp
                go_at_call 19
                refine (HGT.out W9 HB9y.out).mono ?_
                rintro e wn ⟨ro, rsp, rfl, hr2, hbn⟩
                have HR2 := Lib.hid (show factE.Row (fun c => (q c ∨ wr.heap.size ≤ c) ∧ c ≠ wr.heap.size) wn ro Cn from hr2.mono (fun b h h2 => ⟨h.elim .inl (fun h => .inr (by have hs : W9.heap.size ≤ b := h; omega)), h.elim (fun h => by have := ((HQE.out b).1 h).2.1; omega) (fun h => by have hs : W9.heap.size ≤ b := h; omega)⟩))
                have S10 := S9.step hbn
                have HB10y := Lib.hid (Below.step HB9y.out hbn)
                have zn := hbn.size
                clear hbn hr2
                dsimp only
                refine HK.out _ _ (fun _ => FC.out _ HB10y.out) ?_
                have HS := FC.out _ HB10y.out
                try simp only [Act.put, List.setIfInBounds_toArray, List.set_cons_zero, List.set_cons_succ]
                refine wpH.take (i := 7) (by kernel_rfl) (by kernel_rfl) (by kernel_rfl) (by kernel_rfl) (by kernel_rfl) HS ?_
                intro oi ho
                simp only [List.getElem?_toArray, List.getElem?_cons_succ, List.getElem?_cons_zero, Option.some.injEq] at ho
                subst ho
                refine ⟨?_, Or.inl ⟨by rfl, ?_⟩, fun _ _ _ h => h, ?_⟩
                rotate_left 1
                · intro W hW
                  try dsimp only at hW
                  go_simp
                  try with_reducible rfl
                simp only [Act.put, List.setIfInBounds_toArray, List.set_cons_zero, List.set_cons_succ]
                refine wpH.take (i := 8) (by kernel_rfl) (by kernel_rfl) (by kernel_rfl) (by kernel_rfl) (by kernel_rfl) HS ?_
                intro oi ho
                simp only [List.getElem?_toArray, List.getElem?_cons_succ, List.getElem?_cons_zero, Option.some.injEq] at ho
                subst ho
                refine ⟨?_, Or.inl ⟨by rfl, ?_⟩, fun _ _ _ h => h, ?_⟩
                rotate_left 1
                · intro W hW
                  try dsimp only at hW
                  go_simp
                  try with_reducible rfl
                simp only [Act.put, List.setIfInBounds_toArray, List.set_cons_zero, List.set_cons_succ]
                refine wpH.take (i := 9) (by kernel_rfl) (by kernel_rfl) (by kernel_rfl) (by kernel_rfl) (by kernel_rfl) HS ?_
                intro oi ho
                simp only [List.getElem?_toArray, List.getElem?_cons_succ, List.getElem?_cons_zero, Option.some.injEq] at ho
                subst ho
                refine ⟨?_, Or.inl ⟨by rfl, ?_⟩, fun _ _ _ h => h, ?_⟩
                rotate_left 1
                · intro W hW
                  try dsimp only at hW
                  go_simp
                  try with_reducible rfl
                simp only [Act.put, List.setIfInBounds_toArray, List.set_cons_zero, List.set_cons_succ]
                have HRw := HR2
                refine wpH.one (i := 11) (by kernel_rfl) ?_
                intro oi ho
                simp only [List.getElem?_toArray, List.getElem?_cons_succ, List.getElem?_cons_zero, Option.some.injEq] at ho
                subst ho
                intro K' hK
                have HK := Lib.hid hK
                clear hK
                obtain ⟨e0, e1⟩ := S10.one 3
                have hlb := S10.lt 3
                have hw12 : wr.heap.size ≤ wr.heap.size := by first | exact Nat.le_refl _ | (have h := zn; (try simp at h); omega)
                go_simp
                have SF := S10.set1 3 rfl (.slice ro Cn.length (Cn.length + rsp)) (by have := HBX.out; have := HB5.out; have := HZR.out; omega) (by have := HBX.out; have := HB5.out; have := HZR.out; have hn1 := HOW.out; simp only [fsnoc, offs, offAll, Fct.box, Fct.owns, and_true]; exact ⟨by omega, by omega, fun e => e.elim (fun e => by have := (hn1 _ e).2; omega) (fun e => by have := e.2; omega)⟩)
                have HBF := Lib.hid (HB10y.out.setCell (p := ⟨wr.heap.size, 0, none⟩) (by show wr.heap.size ≤ wr.heap.size; omega) (.slice ro Cn.length (Cn.length + rsp)))
                have HR3 := Lib.hid (show factE.Row (fun c => q c ∨ wr.heap.size ≤ c) (wn.setCell ⟨wr.heap.size, 0, none⟩ (.slice ro Cn.length (Cn.length + rsp))) ro Cn from HRw.out.keep (fun b h1 h2 => ⟨Below.heap_setCell _ _ _ _ h1.2, h1.1⟩))
                clear e0 e1
                refine HK.out _ _ (fun _ => FC.out _ HBF.out) ?_
                have HS := FC.out _ HBF.out
                try simp only [Act.put, List.setIfInBounds_toArray, List.set_cons_zero, List.set_cons_succ]
                refine wpH.one (i := 12) (by kernel_rfl) ?_
                intro oi ho
                simp only [List.getElem?_toArray, List.getElem?_cons_succ, List.getElem?_cons_zero, Option.some.injEq] at ho
                subst ho
                intro K' hK
                have HK := Lib.hid hK
                clear hK
                go_simp
                refine HK.out _ _ (fun h => absurd h (by decide)) ?_
                try simp only [Act.put, List.setIfInBounds_toArray, List.set_cons_zero, List.set_cons_succ]
                refine wpH.done (by kernel_rfl) ?_
                have SH := Lib.hid (SF.pick [0, 1, 2, 3])
                clear SF HS
                try go_wp2_with fail
                go_meet
                case rel => exact ⟨wr.heap.size, ro, rsp, rfl, rfl, by omega, by simp; omega, SH.out, HR3.out⟩
            case rest =>
            obtain ⟨b9, ro, rsp, ht9, ht10, hz10, hz11, S2, hr3⟩ := hcut
            subst ht9
            subst ht10
            have HR3 := Lib.hid hr3
            clear S hz hr3 c7
            have HB9 := Lib.hid (show b5 + 1 ≤ b9 by have := HZR.out; omega)
            have HZ9 := Lib.hid hz10
            obtain ⟨dc, hdc⟩ : ∃ d, (code != 0) = d := ⟨_, rfl⟩
            have HDC := Lib.hid hdc
            go_upto_if 75 with fail
            go_cut [] (fun W => ∃ (fc gc : Int), b9 + 1 ≤ W.heap.size ∧ St w W [.box bx #[.slice ao ar.length ca, .slice co cs.length cc] 25, .box b5 #[.int .i64 fc, .int .i64 gc] 29, .owns claimE (b5 + 1) (fun b => (b < w.heap.size ∨ b5 + 1 ≤ b) ∧ b < wr.heap.size) (.slice ko K.length (K.length + ksp)) (K), .box b9 #[.slice ro Cn.length (Cn.length + rsp)] 41] ∧ factE.Row (fun c => q c ∨ wr.heap.size ≤ c) W ro Cn ∧ Hid (RunAt ar cs gs (k + 1) (K ++ [Cn]) fc gc))
            case first =>
              cases dc with
              | false =>
                have hcode : code = 0 := by simpa using hdc
                have HN := Lib.hid (show RunAt ar cs gs (k + 1) (K ++ [Cn]) 0 0 from .inl ⟨rfl, rfl, HZ1.out, H41.out, HNX.out hcode⟩)
                have SB := Lib.hid S2
                clear S2 hcode hdc
                go_wp2_with fail
                go_meet
                case rel => exact ⟨0, 0, hz11, SB.out, HR3.out, HN⟩
              | true =>
                have hcode : code ≠ 0 := by simpa using hdc
                have HN := Lib.hid (show RunAt ar cs gs (k + 1) (K ++ [Cn]) code k from .inr ⟨hcode, HFS.out code rfl hcode⟩)
                clear hcode hdc
                go_wp2_with fail
                refine (S2.quietB (fault20 code k _)).mono ?_
                rintro e w4 ⟨rfl, hb4, z4, S4⟩
                obtain ⟨⟨y0, y1⟩, y2, y3⟩ := S4.two 1
                have hl := S4.lt 1
                have SG := Lib.hid (S4.set2 1 rfl (.int .i64 code) (.int .i64 k) (by have := HBX.out; have := HB5.out; omega) (by
                  have h5 := HB5.out
                  have hx := HBX.out
                  have h9 := HB9.out
                  have hn1 := HOW.out
                  simp only [offs, offAll, Fct.box, Fct.owns, and_true]
                  refine ⟨by omega, fun e => ?_, by omega⟩
                  rcases e with e | e
                  · have := (hn1 _ e).1
                    omega
                  · have h3 : b5 < w.heap.size ∨ b5 + 1 ≤ b5 := e.1
                    omega))
                have HR4 := Lib.hid (show factE.Row (fun c => q c ∨ wr.heap.size ≤ c) ((w4.setCell ⟨b5, 0, none⟩ (.int .i64 code)).setCell ⟨b5, 1, none⟩ (.int .i64 k)) ro Cn from (HR3.out.kept hb4).keep (fun b h1 h2 => by
                  have hne : b ≠ b5 := fun e => by
                    subst e
                    rcases h1 with h1 | h1
                    · exact HQB.out h1
                    · have := HZR.out; omega
                  exact ⟨(Below.heap_setCell _ _ _ _ (by show b ≠ b5; exact hne)).trans (Below.heap_setCell _ _ _ _ (by show b ≠ b5; exact hne)), h1⟩))
                have zz : b9 + 1 ≤ ((w4.setCell ⟨b5, 0, none⟩ (.int .i64 code)).setCell ⟨b5, 1, none⟩ (.int .i64 k)).heap.size := by simp; omega
                clear S2 S4 hb4
                go_wp2_with fail
                go_meet
                case rel => exact ⟨code, k, zz, SG.out, HR4.out, HN⟩
            case rest =>
            clear S2 hz11 hdc
            obtain ⟨fc, gc, hz11, S2, hr4, HRN⟩ := hcut
            have HR4 := Lib.hid hr4
            clear hr4
            obtain ⟨v0, v1⟩ := S2.one 3
            have hkl4 : K.length ≤ 400 := by rw [HKl.out]; have := H41.out; omega
            have HX := Lib.hid (show claimE.is (fun c => q c ∨ wr.heap.size ≤ c) wc [.slice ro Cn.length (Cn.length + rsp)] Cn from ⟨ro, rsp, rfl, HR4.out, by have := HCL6.out; unfold maxLen; omega⟩)
            clear hlti
            go_wp2_with (at_builtin; refine wpList_app rfl (.tmp 79) (.tmp 81) 23 rfl claimE S2 2 rfl (x := Cn) (q := fun c => q c ∨ wr.heap.size ≤ c) (p' := (fun b => b < w.heap.size ∨ b5 + 1 ≤ b)) HX.out Try.underlying23 gi gz0 gz1 gz2 rfl rfl ?v1 ?v2 ?c1 ?c2 ?c3 ?c4 ?c5 ?c6 ?c7 ?_)
            try (case v1 => rfl)
            try (case v2 => rfl)
            case c1 => unfold maxLen; omega
            case c2 => omega
            case c3 => have := HB9.out; omega
            case c4 => have := HBX.out; have := HB5.out; omega
            case c5 =>
              intro bb h1 h2 h3
              have h4 := HOW.out bb h1
              have := HB5.out
              simp only [offs, offAll, Fct.box, and_true]
              exact ⟨by omega, by omega, by have := HZ9.out; omega⟩
            case c6 =>
              intro bb h1 h2
              rcases h1 with h1 | h1
              · exact ((HQE.out bb).1 h1).2.2 h2
              · have := (HOW.out bb h2).2; omega
            case c7 =>
              intro bb h1
              rcases h1 with h1 | h1
              · exact h1.1
              · rcases h1 with h1 | h1
                · exact ((HQE.out bb).1 h1).1
                · have := HZR.out
                  exact .inr (by omega)
            intro gg cap w9 S10 hs10 hgg _
            have S11 : St w w9 [.box bx #[.slice ao ar.length ca, .slice co cs.length cc] 25, .box b5 #[.int .i64 fc, .int .i64 gc] 29, .owns claimE (b5 + 1) (fun b => b < w.heap.size ∨ b5 + 1 ≤ b) (.slice (some ⟨gg, 0, none⟩) (K.length + 1) cap) (K ++ [Cn])] := S10.pick [0, 1, 2]
            have hz12 : b5 + 1 ≤ w9.heap.size := by have := HB9.out; omega
            clear S2 S10 v0 v1
            go_wp2_with fail
            go_roundw
            case rel => exact ⟨k + 1, K ++ [Cn], fc, gc, by omega, by go_num, hz12, S11, HRN⟩
            case measure => simp [intOf] <;> omega
      · have hlti : (k : Int) < (gs.length : Int) := by omega
        as_aux_lemma =>
        rcases HRN.out with h | h
        · exact absurd h.1 hfc
        have HF := Lib.hid h.2
        have HE := Lib.hid (endsF_bad h.2 hfc)
        have hcb : (fc == 0) = false := by simp [hfc]
        have hcn : (fc != 0) = true := by simp [hfc]
        clear h hfc
        obtain ⟨⟨y0, y1⟩, y2, y3⟩ := S.two 1
        obtain ⟨⟨x0, _⟩, x1, _⟩ := S.two 0
        go_wp2_with fail
        clear y0 y1 y2 y3 x0 x1

        refine (take20 ar cs gs ao co _ ca cc gcap _ ((HA.out.kept S.bel).mono (fun b h h2 => h2)) ((HC.out.kept S.bel).mono (fun b h h2 => h2)) ((HG.out.kept S.bel).mono (fun b h h2 => h2)) HML.out.1 HML.out.2 HGN.out).mono ?_
        rintro e wt ⟨ro, sp, rfl, hro, hbt⟩
        rw [HF.out] at hro ⊢
        have S2 := S.step hbt
        have zt := hbt.size
        have HRO := Lib.hid hro
        obtain ⟨b12, hb12⟩ : ∃ b, b = wt.heap.size := ⟨_, rfl⟩
        have S3 := S2.box hb12.symm #[.int .i64 fc, .int .i64 gc] 29
        have HAL := Lib.hid (show Below wt.heap.size wt (wt.alloc (.cells #[.int .i64 fc, .int .i64 gc] 29)) from (Below.refl _ wt).alloc (Nat.le_refl _) _)
        have HB12 := Lib.hid (show b5 + 1 ≤ b12 by omega)
        have hw3 : b12 + 1 ≤ (wt.alloc (.cells #[.int .i64 fc, .int .i64 gc] 29)).heap.size := by simp [hb12]
        clear S S2 hbt hro
        obtain ⟨⟨x0, _⟩, x1, _⟩ := S3.two 0
        go_wp2_with fail
        rw [← hb12]
        have HRO2 := Lib.hid (HRO.out.kept HAL.out)
        have HB12e := Lib.hid hb12
        clear hb12 x0 x1
        generalize (wt.alloc (.cells #[.int .i64 fc, .int .i64 gc] 29)) = wu at *
        refine (ends21 ar cs gs ao co _ ca cc gcap _ ((HA.out.kept S3.bel).mono (fun b h h2 => h2)) ((HC.out.kept S3.bel).mono (fun b h h2 => h2)) ((HG.out.kept S3.bel).mono (fun b h h2 => h2)) HML.out.1 HML.out.2 HGN.out).mono ?_
        rintro e wv ⟨rfl, hbv⟩
        rw [HE.out]
        have S4 := S3.step hbv
        have zv := hbv.size
        have HRO3 := Lib.hid (HRO2.out.kept hbv)
        obtain ⟨b14, hb14⟩ : ∃ b, b = wv.heap.size := ⟨_, rfl⟩
        have S5 := S4.box hb14.symm #[.int .i64 fc, .int .i64 gc] 29
        have HAL2 := Lib.hid (show Below wv.heap.size wv (wv.alloc (.cells #[.int .i64 fc, .int .i64 gc] 29)) from (Below.refl _ wv).alloc (Nat.le_refl _) _)
        have HRO4 := Lib.hid (HRO3.out.kept HAL2.out)
        have hw5 : b14 + 1 ≤ (wv.alloc (.cells #[.int .i64 fc, .int .i64 gc] 29)).heap.size := by simp [hb14]
        have HB14 := Lib.hid (show b12 + 1 ≤ b14 by omega)
        clear S3 S4 hbv

        obtain ⟨⟨y0, _⟩, y2, _⟩ := S5.two 1
        obtain ⟨⟨u0, _⟩, u2, _⟩ := S5.two 3
        obtain ⟨⟨v0, _⟩, v2, _⟩ := S5.two 4
        have SE := Lib.hid S5.bel
        clear S5
        go_wp2_with fail
        go_ret
        exact ⟨rfl, SE.out⟩
    · obtain rfl : k = gs.length := by omega
      by_cases hfc : fc = 0
      · as_aux_lemma =>
        obtain ⟨hfc, hgc, HZ, H4, HK⟩ := HRN.out.resolve_right (fun h => h.1 hfc)
        subst hfc
        subst hgc
        rw [List.take_length] at HK
        have HF := Lib.hid (show takeF ar cs gs = (K, (0, 0)) by unfold takeF; rw [if_neg (by rw [HZ]; simp), if_neg (by omega), HK])
        have HKL := Lib.hid (show K.length ≤ 400 by have h := takeF_len ar cs gs; rw [HF.out] at h; exact h)
        have HKC := Lib.hid (show ∀ c ∈ K, codeF ar c = 0 from fun c hc => by
          have := takeGo_code (ar := ar) (cs := cs) (loreF_zero HZ).2.2.2.2 (gs := gs) (known := []) (i := 0) (fun c h => by simp at h) c
          rw [HK] at this; exact this hc)
        obtain ⟨IS, hIS⟩ : ∃ b, b = (endsF ar cs gs).1 := ⟨_, rfl⟩
        have HE := Lib.hid (show endsF ar cs gs = (IS, (0, 0)) by
          rcases Nat.eq_zero_or_pos K.length with hk | hk
          · have hKn : K = [] := List.eq_nil_of_length_eq_zero hk
            subst hKn
            rw [hIS, endsF_nil HF.out]
          · rw [hIS, endsF_last HF.out hk])
        clear hIS HZ H4 HK
        obtain ⟨ko, ksp, rfl, hrow, hml2⟩ := (S.owns claimE 2).row (fun b h => Or.inr h)
        have HT := Lib.hid hrow
        clear hrow hml2
        obtain ⟨⟨y0, y1⟩, y2, y3⟩ := S.two 1
        obtain ⟨⟨x0, _⟩, x1, _⟩ := S.two 0
        go_wp2_with fail
        clear y0 y1 y2 y3 x0 x1

        refine (take20 ar cs gs ao co _ ca cc gcap _ ((HA.out.kept S.bel).mono (fun b h h2 => h2)) ((HC.out.kept S.bel).mono (fun b h h2 => h2)) ((HG.out.kept S.bel).mono (fun b h h2 => h2)) HML.out.1 HML.out.2 HGN.out).mono ?_
        rintro e wt ⟨ro, sp, rfl, hro, hbt⟩
        rw [HF.out] at hro ⊢
        have S2 := S.step hbt
        have zt := hbt.size
        have HRO := Lib.hid hro
        obtain ⟨b12, hb12⟩ : ∃ b, b = wt.heap.size := ⟨_, rfl⟩
        have S3 := S2.box hb12.symm #[.int .i64 0, .int .i64 0] 29
        have HAL := Lib.hid (show Below wt.heap.size wt (wt.alloc (.cells #[.int .i64 0, .int .i64 0] 29)) from (Below.refl _ wt).alloc (Nat.le_refl _) _)
        have HB12 := Lib.hid (show b5 + 1 ≤ b12 by omega)
        have hw3 : b12 + 1 ≤ (wt.alloc (.cells #[.int .i64 0, .int .i64 0] 29)).heap.size := by simp [hb12]
        clear S S2 hbt hro
        obtain ⟨⟨x0, _⟩, x1, _⟩ := S3.two 0
        go_wp2_with fail
        rw [← hb12]
        have HRO2 := Lib.hid (HRO.out.kept HAL.out)
        have HB12e := Lib.hid hb12
        clear hb12 x0 x1
        generalize (wt.alloc (.cells #[.int .i64 0, .int .i64 0] 29)) = wu at *
        refine (ends21 ar cs gs ao co _ ca cc gcap _ ((HA.out.kept S3.bel).mono (fun b h h2 => h2)) ((HC.out.kept S3.bel).mono (fun b h h2 => h2)) ((HG.out.kept S3.bel).mono (fun b h h2 => h2)) HML.out.1 HML.out.2 HGN.out).mono ?_
        rintro e wv ⟨rfl, hbv⟩
        rw [HE.out]
        have S4 := S3.step hbv
        have zv := hbv.size
        have HRO3 := Lib.hid (HRO2.out.kept hbv)
        obtain ⟨b14, hb14⟩ : ∃ b, b = wv.heap.size := ⟨_, rfl⟩
        have S5 := S4.box hb14.symm #[.int .i64 0, .int .i64 0] 29
        have HAL2 := Lib.hid (show Below wv.heap.size wv (wv.alloc (.cells #[.int .i64 0, .int .i64 0] 29)) from (Below.refl _ wv).alloc (Nat.le_refl _) _)
        have HRO4 := Lib.hid (HRO3.out.kept HAL2.out)
        have hw5 : b14 + 1 ≤ (wv.alloc (.cells #[.int .i64 0, .int .i64 0] 29)).heap.size := by simp [hb14]
        have HB14 := Lib.hid (show b12 + 1 ≤ b14 by omega)
        clear S3 S4 hbv

        have HT2 := Lib.hid (St.owns S5 claimE 2)
        obtain ⟨⟨y0, _⟩, y2, _⟩ := S5.two 1
        obtain ⟨⟨u0, _⟩, u2, _⟩ := S5.two 3
        obtain ⟨⟨v0, _⟩, v2, _⟩ := S5.two 4
        have hkl := HKL.out
        go_wp2_with fail
        clear y0 y2 u0 u2 v0 v2
        try rw [← hb14]
        clear hb14
        generalize (wv.alloc (.cells #[.int .i64 0, .int .i64 0] 29)) = wz at *
        have HWZ := Lib.hid S5.bel
        obtain ⟨ko2, ksp2, he2, hrow2, _⟩ := HT2.out.row (fun b h => Or.inr h)
        simp only [Value.slice.injEq] at he2
        obtain ⟨rfl, _, _⟩ := he2
        have HTR := Lib.hid hrow2
        have HROW := Lib.hid HRO4.out
        clear S5 hrow2
        go_loopw [15] (fun i wr => ∃ k : Nat, k ≤ K.length ∧ i = .int .i64 k ∧ Below wz.heap.size wz wr) (fun i _ => K.length - (intOf i).toNat)
        case atStart => exact ⟨0, by omega, rfl, Below.refl _ _⟩
        case round =>
          obtain ⟨k, hk, rfl, hbk⟩ := hrel
          by_cases hlt : k < K.length
          · have hlti : (k : Int) < (K.length : Int) := by omega
            obtain ⟨b1, off1, k1, s1, rfl, _, c1, r1, _⟩ := (HROW.out.kept hbk).claim hlt
            obtain ⟨b2, off2, k2, s2, rfl, _, c2, r2', _⟩ := (HTR.out.kept hbk).claim hlt
            obtain ⟨F1, hF1⟩ : ∃ X, X = K[k] := ⟨_, rfl⟩
            have HL1 := Lib.hid (show F1.length ≤ 6 by rw [hF1]; exact (code_small (HKC.out _ (List.getElem_mem hlt))).1)
            rw [← hF1] at c1 r1 c2 r2'
            have HX1 := Lib.hid r1; have HX2 := Lib.hid r2'
            have CN := Lib.hid (fun d os => Calls.regrown_of (sameClaim20 F1 F1 _ _ k1 k2 (F1.length + s1) (F1.length + s2) (Go.Sort.grow (redrawn wr d) os) (HX1.out.kept (below_regrown wr d os)) (HX2.out.kept (below_regrown wr d os)) (by have := HL1.out; omega) (by have := HL1.out; omega)))
            rw [decide_eq_true (rfl : F1 = F1)] at CN
            have q1 := cell_regrown c1; have q2 := cell_regrown c2
            clear r1 r2' c1 c2 hF1
            go_wp2_with fail
            refine wp_region_quiet_below (by kernel_rfl) (by kernel_rfl) ?_
            iterate 10 (go_big_quiet_step (exact CN.out _ _))
            refine wpQuiet_nil ?_
            intro _ hw'
            obtain ⟨⟨dq, osq⟩, hw''⟩ := hw'
            subst hw''
            have hb2 := Below.step hbk (below_regrown wr dq osq)
            clear q1 q2
            go_wp2_with fail
            go_roundw
            case rel => exact ⟨k + 1, by omega, by go_num, hb2⟩
            case measure => simp [intOf] <;> omega
          · obtain rfl : k = K.length := by omega
            have SE := Lib.hid (show Below w.heap.size w wr from Below.step HWZ.out hbk)
            rcases Nat.eq_zero_or_pos K.length with hk0 | hk0
            · have hKn : K = [] := List.eq_nil_of_length_eq_zero hk0
              subst hKn
              have hIS : IS = false := congrArg Prod.fst (HE.out.symm.trans (endsF_nil HF.out))
              subst hIS
              clear hk0 hk hlt
              go_wp2_with fail
              go_ret
              exact ⟨rfl, SE.out⟩
            · have hIS : IS = decide ((K[K.length - 1]'(by omega)).length = 0) := congrArg Prod.fst (HE.out.symm.trans (endsF_last HF.out hk0))
              have hki : (0 : Int) < (K.length : Int) := by omega
              have hkl1 : K.length - 1 < K.length := by omega
              obtain ⟨kb, koff, ka, sa, rfl, _, ca0, hra, hml⟩ := (HTR.out.kept hbk).claim hkl1
              have hw1 : IntKind.i64.wrap ((K.length : Int) - 1) = ((K.length - 1 : Nat) : Int) := by rw [IntWalk.i64_in _ (by omega)]; omega
              have hkl2 : ((K.length - 1 : Nat) : Int) < (K.length : Int) := by omega
              have he : (((K[K.length - 1]'hkl1).length : Int) == 0) = IS := by
                rw [hIS, Bool.eq_iff_iff, beq_iff_eq, decide_eq_true_iff]; omega
              have HE3 := Lib.hid he
              clear hIS hra hml he
              go_wp2_with fail
              go_ret
              rw [HE3.out]
              exact ⟨by simp, SE.out⟩
      · as_aux_lemma =>
        rcases HRN.out with h | h
        · exact absurd h.1 hfc
        have HF := Lib.hid h.2
        have HE := Lib.hid (endsF_bad h.2 hfc)
        have hcb : (fc == 0) = false := by simp [hfc]
        have hcn : (fc != 0) = true := by simp [hfc]
        clear h hfc
        obtain ⟨⟨y0, y1⟩, y2, y3⟩ := S.two 1
        obtain ⟨⟨x0, _⟩, x1, _⟩ := S.two 0
        go_wp2_with fail
        clear y0 y1 y2 y3 x0 x1

        refine (take20 ar cs gs ao co _ ca cc gcap _ ((HA.out.kept S.bel).mono (fun b h h2 => h2)) ((HC.out.kept S.bel).mono (fun b h h2 => h2)) ((HG.out.kept S.bel).mono (fun b h h2 => h2)) HML.out.1 HML.out.2 HGN.out).mono ?_
        rintro e wt ⟨ro, sp, rfl, hro, hbt⟩
        rw [HF.out] at hro ⊢
        have S2 := S.step hbt
        have zt := hbt.size
        have HRO := Lib.hid hro
        obtain ⟨b12, hb12⟩ : ∃ b, b = wt.heap.size := ⟨_, rfl⟩
        have S3 := S2.box hb12.symm #[.int .i64 fc, .int .i64 gc] 29
        have HAL := Lib.hid (show Below wt.heap.size wt (wt.alloc (.cells #[.int .i64 fc, .int .i64 gc] 29)) from (Below.refl _ wt).alloc (Nat.le_refl _) _)
        have HB12 := Lib.hid (show b5 + 1 ≤ b12 by omega)
        have hw3 : b12 + 1 ≤ (wt.alloc (.cells #[.int .i64 fc, .int .i64 gc] 29)).heap.size := by simp [hb12]
        clear S S2 hbt hro
        obtain ⟨⟨x0, _⟩, x1, _⟩ := S3.two 0
        go_wp2_with fail
        rw [← hb12]
        have HRO2 := Lib.hid (HRO.out.kept HAL.out)
        have HB12e := Lib.hid hb12
        clear hb12 x0 x1
        generalize (wt.alloc (.cells #[.int .i64 fc, .int .i64 gc] 29)) = wu at *
        refine (ends21 ar cs gs ao co _ ca cc gcap _ ((HA.out.kept S3.bel).mono (fun b h h2 => h2)) ((HC.out.kept S3.bel).mono (fun b h h2 => h2)) ((HG.out.kept S3.bel).mono (fun b h h2 => h2)) HML.out.1 HML.out.2 HGN.out).mono ?_
        rintro e wv ⟨rfl, hbv⟩
        rw [HE.out]
        have S4 := S3.step hbv
        have zv := hbv.size
        have HRO3 := Lib.hid (HRO2.out.kept hbv)
        obtain ⟨b14, hb14⟩ : ∃ b, b = wv.heap.size := ⟨_, rfl⟩
        have S5 := S4.box hb14.symm #[.int .i64 fc, .int .i64 gc] 29
        have HAL2 := Lib.hid (show Below wv.heap.size wv (wv.alloc (.cells #[.int .i64 fc, .int .i64 gc] 29)) from (Below.refl _ wv).alloc (Nat.le_refl _) _)
        have HRO4 := Lib.hid (HRO3.out.kept HAL2.out)
        have hw5 : b14 + 1 ≤ (wv.alloc (.cells #[.int .i64 fc, .int .i64 gc] 29)).heap.size := by simp [hb14]
        have HB14 := Lib.hid (show b12 + 1 ≤ b14 by omega)
        clear S3 S4 hbv

        obtain ⟨⟨y0, _⟩, y2, _⟩ := S5.two 1
        obtain ⟨⟨u0, _⟩, u2, _⟩ := S5.two 3
        obtain ⟨⟨v0, _⟩, v2, _⟩ := S5.two 4
        have SE := Lib.hid S5.bel
        clear S5
        go_wp2_with fail
        go_ret
        exact ⟨rfl, SE.out⟩
end Go.Proofs.Ytlhnfdjidjgfgaa
