/-
  The law ClaimSays: for any lore and text it answers true.
-/
import Derived.Test.YtidgnbdlfngeaaaGreatDoorRf
import Derived.Test.YtidgnbdlfngeaaaGreatDoorTx7
import Derived.Test.YtidgnbdlfngeaaaGreatDoorSl1
namespace Go.Proofs.YtidgnbdlfngeaaaGreatDoor
open Go.RowKit Go.Shelf
set_option linter.unusedVariables false
set_option linter.unusedSimpArgs false
set_option maxHeartbeats 400000

theorem vastC_smallS {c : List Fc} (h : vastC c = false) : (treesF c).length ≤ 40 ∧ ∀ (i : Nat) t, (treesF c)[i]? = some t → t.size ≤ 200 := by
  unfold vastC at h
  rw [Bool.or_eq_false_iff] at h
  refine ⟨by have := of_decide_eq_false h.1; omega, fun i t ht => ?_⟩
  have h2 := (List.any_eq_false.1 h.2) t (List.mem_of_getElem? ht)
  unfold bigT at h2
  have h3 := of_decide_eq_false (by simpa using h2 : decide ((200 : Int) < t.size) = false)
  omega
theorem vastL_small {na : Nat} {cs : List (List Fc)} (h : vastL na cs = false) : na ≤ 40 ∧ cs.length ≤ 80 ∧ (∀ (i : Nat) c, cs[i]? = some c → c.length ≤ 40) ∧ ∀ (i : Nat) c, cs[i]? = some c → ∀ (j : Nat) t, (treesF c)[j]? = some t → t.size ≤ 200 := by
  unfold vastL at h
  rw [Bool.or_eq_false_iff, Bool.or_eq_false_iff] at h
  have h1 := of_decide_eq_false h.1.1
  have h2 := of_decide_eq_false h.1.2
  have h3 : ∀ (i : Nat) c, cs[i]? = some c → vastC c = false := fun i c hc => by
    have := (List.any_eq_false.1 h.2) c (List.mem_of_getElem? hc)
    simpa using this
  refine ⟨by omega, by omega, fun i c hc => ?_, fun i c hc j t ht => (vastC_smallS (h3 i c hc)).2 j t ht⟩
  have h4 := (vastC_smallS (h3 i c hc)).1
  rw [treesF_length] at h4
  omega
set_option maxRecDepth 100000 in
set_option maxHeartbeats 4000000 in
theorem vastLoreS (na : Nat) (cs : List (List Fc)) (p : Nat → Prop) (aa co : Option Addr) (ca cc : Nat) (w : World) (h : claimE.Row p w co cs) (hp : ∀ b, p b → b < w.heap.size) (hna : na ≤ 2000000) (hn : cs.length ≤ 1000000)
    (hf : ∀ (i : Nat) c, cs[i]? = some c → c.length ≤ 1000000) (hs : ∀ (i : Nat) c, cs[i]? = some c → ∀ (j : Nat) t, (treesF c)[j]? = some t → t.size ≤ 2000000) :
    Calls Tryz.prog 4 #[.agg #[.slice aa na ca, .slice co cs.length cc]] w fun e w' => e = .returned (.bool (vastL na cs)) ∧ Below w.heap.size w w' := by
  by_cases h1 : na ≤ 1000000
  · exact vastLore15 na cs p aa co ca cc w h hp h1 hn hf hs
  obtain ⟨bx, hbx⟩ : ∃ b, b = w.heap.size := ⟨_, rfl⟩
  have S := (St.start w).box hbx.symm #[.slice aa na ca, .slice co cs.length cc] 25
  have HBX := Lib.hid hbx
  clear h hp hs hf
  have HV := Lib.hid (show vastL na cs = true by unfold vastL; rw [decide_eq_true (show 40 < na by omega)]; simp)
  have SE := Lib.hid S.bel
  have h4i : (40 : Int) < (na : Int) := by omega
  by_cases h8 : 80 < cs.length
  · have h8i : (80 : Int) < (cs.length : Int) := by omega
    clear S h8 h1 hna
    go_enter Tryz.func4, Tryz.ntmps4
    go_wp2_with fail
    go_ret
    exact ⟨ret_bool HV.out.symm, SE.out⟩
  · have h8i : ¬ (80 : Int) < (cs.length : Int) := by omega
    clear S h8 h1 hna
    go_enter Tryz.func4, Tryz.ntmps4
    go_wp2_with fail
    go_ret
    exact ⟨ret_bool HV.out.symm, SE.out⟩
/-- Read's contract in letters -/
theorem readV {g : FuncId} (s : Bs) (W : World) (h0 : Calls Tryz.prog g #[sV s] W (ReadP s W)) (f : Int × Int) (ar : List Int) (cs : List (List Fc)) (h : readR s = (f, ar, cs)) : Calls Tryz.prog g #[sV s] W fun e w' => ∃ (ao co : Option Addr) (sa sc : Nat), e = .returned (.tuple #[.agg #[.slice ao ar.length (ar.length + sa), .slice co cs.length (cs.length + sc)], .agg #[.int .i64 f.1, .int .i64 f.2]]) ∧
    intE.Row (fun b => W.heap.size ≤ b) w' ao ar ∧ claimE.Row (fun b => W.heap.size ≤ b) w' co cs ∧ Below W.heap.size W w' := by
  refine h0.mono ?_
  rintro e w' ⟨ao, co, sa, sc, rfl, h1, h2, h3⟩
  rw [h] at h1 h2
  exact ⟨ao, co, sa, sc, by rw [h]; rfl, h1, h2, h3⟩
theorem readR_small {s : Bs} {f : Int × Int} {ar : List Int} {cs : List (List Fc)} (h : readR s = (f, ar, cs)) : ar.length ≤ 12 ∧ cs.length ≤ 60 ∧ ∀ c ∈ cs, c.length ≤ 6 := by
  by_cases h0 : f.1 = 0
  · have h1 := read_text (s := s) (by rw [h]; exact h0)
    rw [h] at h1
    have h2 := gd_of (ar := ar) (cs := cs) (by
      unfold textR at h1
      by_cases h3 : (loreF ar cs).1 = 0
      · exact h3
      · rw [if_pos h3] at h1
        have := congrArg (fun x => x.1.1) h1
        exact absurd this h3)
    exact ⟨h2.1, h2.2.1, fun c hc => (h2.2.2.2 c hc).1⟩
  · have h1 := read_bad (s := s) (by rw [h]; exact h0)
    rw [h] at h1
    obtain ⟨rfl, rfl⟩ := Prod.mk.inj h1
    simp

set_option maxRecDepth 100000 in
set_option maxHeartbeats 8000000 in
theorem claimSays3 (ar : List Int) (cs : List (List Fc)) (s : Bs) (p q : Nat → Prop) (ao co : Option Addr) (ca cc : Nat) (w : World) (ha : intE.Row q w ao ar) (hc : claimE.Row p w co cs) (hp : ∀ c, p c → c < w.heap.size) (hq : ∀ c, q c → c < w.heap.size) (hna : ar.length ≤ 2000000) (hnc : cs.length ≤ 1000000)
    (hcl : ∀ (i : Nat) c, cs[i]? = some c → c.length ≤ 1000000) (hsz : ∀ (i : Nat) c, cs[i]? = some c → ∀ (j : Nat) t, (treesF c)[j]? = some t → t.size ≤ 2000000) (hs : s.length ≤ 9223372036854775807) (hg : GV w) :
    Calls Tryz.prog 3 #[.agg #[.slice ao ar.length ca, .slice co cs.length cc], sV s] w fun e w' => e = .returned (.bool true) ∧ Below w.heap.size w w' := by
  have HG := Lib.hid hg
  obtain ⟨g, hgf⟩ : ∃ f, f = (textR ar cs).1 := ⟨_, rfl⟩
  obtain ⟨tx, htx⟩ : ∃ f, f = (textR ar cs).2 := ⟨_, rfl⟩
  obtain ⟨f, hf⟩ : ∃ f, f = loreF ar cs := ⟨_, rfl⟩
  have HTR := Lib.hid (And.intro hgf htx)
  have HFL := Lib.hid hf
  have hml : ar.length ≤ maxLen ∧ cs.length ≤ maxLen := by unfold maxLen; omega
  have KA : ∀ W, Below w.heap.size w W → intE.Row q W ao ar := fun W hb => ha.keep (fun b h hl => ⟨hb.block b hl, h⟩)
  have KC : ∀ W, Below w.heap.size w W → claimE.Row p W co cs := fun W hb => hc.keep (fun b h hl => ⟨hb.block b hl, h⟩)
  have KP : ∀ W, Below w.heap.size w W → ∀ c, p c → c < W.heap.size := fun W hb c h => Nat.lt_of_lt_of_le (hp c h) hb.size
  have KQ : ∀ W, Below w.heap.size w W → ∀ c, q c → c < W.heap.size := fun W hb c h => Nat.lt_of_lt_of_le (hq c h) hb.size
  have HVL := Lib.hid (fun W (hb : Below w.heap.size w W) => vastLoreS ar.length cs p ao co ca cc W (KC W hb) (KP W hb) hna hnc hcl hsz)
  have HLO := Lib.hid (fun (hv : vastL ar.length cs = false) W (hb : Below w.heap.size w W) => lore51 ar cs p q ao co ca cc W (KA W hb) (KC W hb) (KP W hb) (by omega) hnc hcl (fun i c hc j t ht => by have := (vastL_small hv).2.2.2 i c hc j t ht; omega))
  have HCK := Lib.hid (fun W (hb : Below w.heap.size w W) => lore79 ar cs p q ao co ca cc W (KA W hb) (KC W hb) hml.1 hml.2)
  have HTX := Lib.hid (fun W (hb : Below w.heap.size w W) => text6 ar cs p q ao co ca cc W (KA W hb) (KC W hb) (KP W hb) (KQ W hb) hml.1 hml.2)
  have HT7 := Lib.hid (fun (h0 : (loreF ar cs).1 = 0) W (hb : Below w.heap.size w W) => text7 ar cs p q ao co ca cc W (KA W hb) (KC W hb) (KP W hb) (KQ W hb) h0)
  rw [← hf] at HLO HCK HT7
  rw [← hgf, ← htx] at HTX
  unfold FV at HLO HCK
  obtain ⟨m, hm⟩ : ∃ m, m = ar.length := ⟨_, rfl⟩
  obtain ⟨n, hn⟩ : ∃ n, n = cs.length := ⟨_, rfl⟩
  obtain ⟨V, hV⟩ : ∃ v, v = vastL ar.length cs := ⟨_, rfl⟩
  rw [← hV, ← hm, ← hn] at HVL
  rw [← hV, ← hm, ← hn] at HLO
  rw [← hm, ← hn] at HCK HTX HT7 ⊢
  obtain ⟨bx, hbx⟩ : ∃ b, b = w.heap.size := ⟨_, rfl⟩
  have S1 := (St.start w).box hbx.symm #[.slice ao m ca, .slice co n cc] 25
  have HBX := Lib.hid (show w.heap.size = bx from hbx.symm)
  have hz1 : (w.alloc (.cells #[.slice ao m ca, .slice co n cc] 25)).heap.size = bx + 1 := by simp [hbx]
  clear KA KC KP KQ ha hc hp hq hna hnc hcl hsz hg hf hgf htx hV hm hn hml
  go_enter Tryz.func3, Tryz.ntmps3
  go_upto_region 1 with fail
  rw [← hbx]
  refine S1.genC (z := bx + 1) (by omega) ?_
  clear S1 hz1 hbx
  intro w1 z1 S
  obtain ⟨⟨y0, _⟩, y2, _⟩ := S.two 0
  have HV1 := Lib.hid (HVL.out w1 S.bel)
  go_wp2_with fail
  refine (S.quiet (HV1.out)).mono ?_
  rintro e w2 ⟨rfl, z2, S2⟩
  clear S HV1 HVL y0 y2
  cases V with
  | true =>
    have SE := Lib.hid S2.bel
    clear S2
    go_wp2_with fail
    go_ret
    exact ⟨rfl, SE.out⟩
  | false =>
  by_cases h5 : 5000 < s.length
  · have h5i : (5000 : Int) < s.length := by omega
    have SE := Lib.hid S2.bel
    clear S2
    go_wp2_with fail
    go_ret
    exact ⟨rfl, SE.out⟩
  have h5i : ¬ (5000 : Int) < s.length := by omega
  obtain ⟨⟨y0, _⟩, y2, _⟩ := S2.two 0
  have HL1 := Lib.hid (HLO.out rfl w2 S2.bel)
  clear HLO
  go_wp2_with fail
  refine (S2.quiet (HL1.out)).mono ?_
  rintro e w3 ⟨rfl, z3, S3⟩
  obtain ⟨b5, hb5⟩ : ∃ b, b = w3.heap.size := ⟨_, rfl⟩
  have S4 := S3.box hb5.symm #[.int .i64 f.1, .int .i64 f.2] 28
  have hz4 : (w3.alloc (.cells #[.int .i64 f.1, .int .i64 f.2] 28)).heap.size = b5 + 1 := by simp [hb5]
  have HB5 := Lib.hid (show bx + 1 ≤ b5 by omega)
  clear S2 S3 HL1 y0 y2
  go_upto_region 4 with fail
  rw [← hb5]
  refine S4.genC (z := b5 + 1) (by omega) ?_
  clear S4 hz4 hb5
  intro w4 z4 S
  obtain ⟨⟨y0, _⟩, y2, _⟩ := S.two 0
  obtain ⟨⟨t0, _⟩, t2, _⟩ := S.two 1
  have CA := Lib.hid (fun d os => Calls.regrown_of (HCK.out (Go.Sort.grow (redrawn w4 d) os) ((S.regrown d os).bel)))
  have r0 := cell_regrown y0; have r1 := cell_regrown y2; have r2 := cell_regrown t0; have r3 := cell_regrown t2
  clear y0 y2 t0 t2 HCK
  refine wp_region_quiet_below (by kernel_rfl) (by kernel_rfl) ?_
  repeat (go_big_quiet_step (first | with_reducible exact CA.out _ _))
  refine wpQuiet_nil ?_
  intro _ hw'
  obtain ⟨⟨dq, osq⟩, hw''⟩ := hw'
  subst hw''
  refine (S.regrown dq osq).genX (z := b5 + 1) (Nat.le_trans z4 (below_regrown w4 dq osq).size) ?_
  intro w5 z5 S5
  clear r0 r1 r2 r3 CA S
  have E1 := Lib.hid (show textR ar cs = if f.1 ≠ 0 then (f, []) else if 4000 < (loreTxt ar cs).length then ((10, 0), []) else ((0, 0), loreTxt ar cs) by
    unfold textR; rw [← HFL.out])
  obtain ⟨⟨y0, _⟩, y2, _⟩ := S5.two 0
  obtain ⟨⟨t0, _⟩, t2, _⟩ := S5.two 1
  have hb5w : w.heap.size ≤ b5 := by have := HBX.out; have := HB5.out; omega
  go_upto_if 26 with fail
  go_cut [6] (fun x W => x = sV tx ∧ b5 + 1 ≤ W.heap.size ∧ St w W [.box bx #[.slice ao m ca, .slice co n cc] 25, .box b5 #[.int .i64 g.1, .int .i64 g.2] 28])
  case first =>
    by_cases h0 : f.1 = 0
    · have h0b : (f.1 == 0) = true := by rw [beq_iff_eq]; exact h0
      have HT := Lib.hid (HT7.out h0 w5 S5.bel)
      have HTT := Lib.hid E1.out
      rw [if_neg (by rw [h0]; simp)] at HTT
      clear h0 E1
      go_wp2_with fail
      refine (S5.quiet (HT.out)).mono ?_
      rintro e w6 ⟨rfl, z6, S6⟩
      clear S5 HT y0 y2 t0 t2
      obtain ⟨⟨t0, _⟩, t2, _⟩ := S6.two 1
      by_cases hbig : 4000 < (loreTxt ar cs).length
      · have hbi : (4000 : Int) < (loreTxt ar cs).length := by omega
        have HE := Lib.hid HTT.out
        rw [if_pos hbig] at HE
        have e1 : g = (10, 0) := by rw [HTR.out.1, HE.out]
        have e2 : tx = [] := by rw [HTR.out.2, HE.out]
        have HF := Lib.hid (fault20 10 0 w6)
        clear HE HTT hbig
        go_wp2_with fail
        refine (S6.quiet (HF.out)).mono ?_
        rintro e w7 ⟨rfl, z7, S7⟩
        clear S6 HF t0 t2
        obtain ⟨⟨t0, _⟩, t2, _⟩ := S7.two 1
        have HS8 := Lib.hid (S7.set2 1 rfl (.int .i64 10) (.int .i64 0) hb5w (by have := HB5.out; simp only [fsnoc, offs, offAll, Fct.box, and_true]; omega))
        clear S7
        go_wp2_with fail
        go_meet
        case rel => rw [e1, e2]; exact ⟨rfl, by simp; omega, HS8.out⟩
      · have hbi : ¬ (4000 : Int) < (loreTxt ar cs).length := by omega
        have HE := Lib.hid HTT.out
        rw [if_neg hbig] at HE
        have e1 : g = (0, 0) := by rw [HTR.out.1, HE.out]
        have e2 : tx = loreTxt ar cs := by rw [HTR.out.2, HE.out]
        have hf0 : f = (0, 0) := by
          have := (loreF_zero (ar := ar) (cs := cs) (by rw [← HFL.out]; exact beq_iff_eq.1 h0b)).1
          rw [HFL.out, this]
        clear HE HTT hbig
        have HE1 := Lib.hid e1; have HE2 := Lib.hid e2; have HF0 := Lib.hid hf0
        clear e1 e2 hf0
        go_wp2_with fail
        go_meet
        case rel => rw [HE1.out, HE2.out]; rw [HF0.out] at S6; exact ⟨rfl, by omega, S6⟩
    · have h0b : (f.1 == 0) = false := by rw [beq_eq_false_iff_ne]; exact h0
      have HE := Lib.hid E1.out
      rw [if_pos h0] at HE
      have HE1 := Lib.hid (show g = f by rw [HTR.out.1, HE.out])
      have HE2 := Lib.hid (show tx = [] by rw [HTR.out.2, HE.out])
      clear HE h0
      go_wp2_with fail
      go_meet
      case rel => rw [HE1.out, HE2.out]; exact ⟨rfl, z5, S5⟩
  case rest =>
  clear S5 z5 y0 y2 t0 t2 E1 HT7
  obtain ⟨rfl, zc, S⟩ := hcut
  obtain ⟨⟨y0, _⟩, y2, _⟩ := S.two 0
  have HT := Lib.hid (HTX.out wc S.bel)
  clear HTX
  go_wp2_with fail
  refine (S.quiet (HT.out)).mono ?_
  rintro e w6 ⟨rfl, z6, S6⟩
  obtain ⟨b8, hb8⟩ : ∃ b, b = w6.heap.size := ⟨_, rfl⟩
  have S7 := S6.box hb8.symm #[.int .i64 g.1, .int .i64 g.2] 28
  have hz7 : (w6.alloc (.cells #[.int .i64 g.1, .int .i64 g.2] 28)).heap.size = b8 + 1 := by simp [hb8]
  have HB8 := Lib.hid (show b5 + 1 ≤ b8 by omega)
  clear S S6 HT y0 y2
  go_upto_region 13 with fail
  rw [← hb8]
  refine S7.genC (z := b8 + 1) (by omega) ?_
  clear S7 hz7 hb8
  intro w7 z7 S
  obtain ⟨⟨t0, _⟩, t2, _⟩ := S.two 1
  obtain ⟨⟨u0, _⟩, u2, _⟩ := S.two 2
  obtain ⟨h, ar2, cs2, hrd⟩ : ∃ h ar2 cs2, readR s = (h, ar2, cs2) := ⟨_, _, _, rfl⟩
  have HSM := Lib.hid (readR_small hrd)
  have HR1 := Lib.hid (fun W (hb : Below w.heap.size w W) => readV (g := 10) s W (read7 s W (HG.out.kept hb) hs) h ar2 cs2 hrd)
  have HR2 := Lib.hid (fun W => readV (g := 11) s W (read11 s W hs) h ar2 cs2 hrd)
  clear hrd
  go_upto_region 15 with fail
  clear t0 t2 u0 u2
  have HR1a := Lib.hid (HR1.out w7 S.bel)
  go_wp2_with fail
  refine (HR1a.out).mono ?_
  rintro e w8 ⟨ao2, co2, sa, sc, rfl, hra, hrc, hb8'⟩
  obtain ⟨b9, hb9⟩ : ∃ b, b = w8.heap.size := ⟨_, rfl⟩
  have S8 := (((S.step hb8').add (.rowE intE (fun b => b8 + 1 ≤ b ∧ b < b9) ao2 ar2) (hra.mono (fun b h hl => ⟨by omega, by omega⟩))).add (.rowE claimE (fun b => b8 + 1 ≤ b ∧ b < b9) co2 cs2) (hrc.mono (fun b h hl => ⟨by omega, by omega⟩))).box hb9.symm #[.slice ao2 ar2.length (ar2.length + sa), .slice co2 cs2.length (cs2.length + sc)] 25
  have HB9 := Lib.hid (show b8 + 1 ≤ b9 by have := hb8'.size; omega)
  obtain ⟨⟨u0, _⟩, u2, _⟩ := S8.two 2
  have hb8w : w.heap.size ≤ b8 := by have := HB8.out; omega
  have S9 := S8.set2 2 rfl (.int .i64 h.1) (.int .i64 h.2) hb8w (by
    have h1 := HBX.out; have h2 := HB5.out; have h3 := HB8.out; have h4 := HB9.out
    simp only [fsnoc, offs, offAll, Fct.box, Fct.rowE, and_true]
    omega)
  have hz9 : b9 + 1 ≤ (((w8.alloc (.cells #[.slice ao2 ar2.length (ar2.length + sa), .slice co2 cs2.length (cs2.length + sc)] 25)).setCell ⟨b8, 0, none⟩ (.int .i64 h.1)).setCell ⟨b8, 1, none⟩ (.int .i64 h.2)).heap.size := by simp [hb9]
  clear S S8 hra hrc hb8' HR1a HR1
  go_upto_region 16 with fail
  rw [← hb9]
  refine S9.genC (z := b9 + 1) hz9 ?_
  clear S9 hz9 hb9 u0 u2
  intro w9 z9 S
  have HR2a := Lib.hid (HR2.out w9)
  go_wp2_with fail
  refine (HR2a.out).mono ?_
  rintro e w10 ⟨ao3, co3, sa3, sc3, rfl, hra, hrc, hb10'⟩
  obtain ⟨b10, hb10⟩ : ∃ b, b = w10.heap.size := ⟨_, rfl⟩
  have S10 := (((S.step hb10').add (.rowE intE (fun b => b9 + 1 ≤ b ∧ b < b10) ao3 ar2) (hra.mono (fun b h hl => ⟨by omega, by omega⟩))).add (.rowE claimE (fun b => b9 + 1 ≤ b ∧ b < b10) co3 cs2) (hrc.mono (fun b h hl => ⟨by omega, by omega⟩))).box hb10.symm #[.slice ao3 ar2.length (ar2.length + sa3), .slice co3 cs2.length (cs2.length + sc3)] 25
  have HB10 := Lib.hid (show b9 + 1 ≤ b10 by have := hb10'.size; omega)
  obtain ⟨⟨u0, _⟩, u2, _⟩ := S10.two 1
  have S11 := S10.set2 1 rfl (.int .i64 h.1) (.int .i64 h.2) hb5w (by
    have h1 := HBX.out; have h2 := HB5.out; have h3 := HB8.out; have h4 := HB9.out; have h5 := HB10.out
    simp only [fset, fsnoc, offs, offAll, Fct.box, Fct.rowE, and_true]
    omega)
  have hz11 : b10 + 1 ≤ (((w10.alloc (.cells #[.slice ao3 ar2.length (ar2.length + sa3), .slice co3 cs2.length (cs2.length + sc3)] 25)).setCell ⟨b5, 0, none⟩ (.int .i64 h.1)).setCell ⟨b5, 1, none⟩ (.int .i64 h.2)).heap.size := by simp [hb10]
  clear S S10 hra hrc hb10' HR2a HR2
  go_upto_region 17 with fail
  rw [← hb10]
  refine S11.genC (z := b10 + 1) hz11 ?_
  clear S11 hz11 hb10 u0 u2
  intro w11 z11 S
  obtain ⟨⟨t0, _⟩, t2, _⟩ := S.two 1
  obtain ⟨⟨u0, _⟩, u2, _⟩ := S.two 2
  obtain ⟨⟨v0, _⟩, v2, _⟩ := S.two 5
  obtain ⟨⟨x0, _⟩, x2, _⟩ := S.two 8
  have hsm := HSM.out
  have HSL := Lib.hid (sameLore8 ar2 cs2 _ _ _ _ ao2 co2 ao3 co3 (ar2.length + sa) (cs2.length + sc) (ar2.length + sa3) (cs2.length + sc3) w11 (S.rowE intE 3 rfl) (S.rowE claimE 4 rfl) (S.rowE intE 6 rfl) (S.rowE claimE 7 rfl) (by omega) (by omega) (fun c hc => by have := hsm.2.2 c hc; omega))
  clear hsm
  go_wp2_with fail
  refine (S.quiet (HSL.out)).mono ?_
  rintro e w12 ⟨rfl, z12, S12⟩
  have SE := Lib.hid S12.bel
  clear S S12 HSL t0 t2 u0 u2 v0 v2 x0 x2
  go_wp2_with fail
  go_ret
  exact ⟨rfl, SE.out⟩
end Go.Proofs.YtidgnbdlfngeaaaGreatDoor
