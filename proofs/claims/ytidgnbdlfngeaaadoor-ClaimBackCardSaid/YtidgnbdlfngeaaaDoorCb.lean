/-
  Walks: ClaimBack.
-/
import Derived.Test.YtidgnbdlfngeaaaDoorCf1
namespace Go.Proofs.YtidgnbdlfngeaaaDoor
open Go.RowKit Go.Shelf
set_option linter.unusedVariables false
set_option linter.unusedSimpArgs false
set_option maxHeartbeats 400000

theorem textR_len (ar : List Int) (cs : List (List Fc)) : (textR ar cs).2.length ≤ 4000 := by
  unfold textR
  split
  · simp
  · split
    · simp
    · simp only []; omega
theorem textR_ok {ar : List Int} {cs : List (List Fc)} (h : (textR ar cs).1.1 = 0) : (loreF ar cs).1 = 0 := by
  unfold textR at h
  by_cases h1 : (loreF ar cs).1 ≠ 0
  · rw [if_pos h1] at h; exact absurd h h1
  · simpa using h1
/-- Read's contract in letters -/
theorem read7v (s : Bs) (W : World) (hg : GV W) (hs : s.length ≤ 9223372036854775807) (f : Int × Int) (ar : List Int) (cs : List (List Fc)) (h : readR s = (f, ar, cs)) : Calls Tryd.prog 7 #[sV s] W fun e w' => ∃ (ao co : Option Addr) (sa sc : Nat), e = .returned (.tuple #[.agg #[.slice ao ar.length (ar.length + sa), .slice co cs.length (cs.length + sc)], .agg #[.int .i64 f.1, .int .i64 f.2]]) ∧
    intE.Row (fun b => W.heap.size ≤ b) w' ao ar ∧ claimE.Row (fun b => W.heap.size ≤ b) w' co cs ∧ Below W.heap.size W w' := by
  refine (read7 s W hg hs).mono ?_
  rintro e w' ⟨ao, co, sa, sc, rfl, h1, h2, h3⟩
  rw [h] at h1 h2
  exact ⟨ao, co, sa, sc, by rw [h]; rfl, h1, h2, h3⟩

set_option maxRecDepth 100000 in
set_option maxHeartbeats 8000000 in
theorem back3 (ar : List Int) (cs : List (List Fc)) (s : Bs) (p q : Nat → Prop) (ao co : Option Addr) (ca cc : Nat) (w : World) (ha : intE.Row q w ao ar) (hc : claimE.Row p w co cs) (hp : ∀ c, p c → c < w.heap.size) (hq : ∀ c, q c → c < w.heap.size) (hna : ar.length ≤ maxLen) (hnc : cs.length ≤ maxLen)
    (hs : s.length ≤ 9223372036854775807) (hg : GV w) :
    Calls Tryd.prog 3 #[.agg #[.slice ao ar.length ca, .slice co cs.length cc], sV s] w fun e w' => e = .returned (.bool true) ∧ Below w.heap.size w w' := by
  have HG := Lib.hid hg
  obtain ⟨f, hf⟩ : ∃ f, f = (textR ar cs).1 := ⟨_, rfl⟩
  obtain ⟨s1, hs1⟩ : ∃ f, f = (textR ar cs).2 := ⟨_, rfl⟩
  have HT1 := Lib.hid (show f.1 = 0 → readR s1 = ((0, 0), ar, cs) from fun h => by rw [hs1]; exact text_read (by rw [← hf]; exact h))
  have HT2 := Lib.hid (show f.1 ≠ 0 → s1 = [] from fun h => by rw [hs1]; exact text_bad (by rw [← hf]; exact h))
  have HT3 := Lib.hid (show f.1 = 0 → ∀ c ∈ cs, c.length ≤ 1000000 from fun h c hc => by have := ((gd_of (textR_ok (by rw [← hf]; exact h))).2.2.2 c hc).1; omega)
  have HT4 := Lib.hid (show f.1 = 0 → ar.length ≤ 1000000000 ∧ cs.length ≤ 1000000000 from fun h => by have := gd_of (textR_ok (by rw [← hf]; exact h)); omega)
  have hl1 : s1.length ≤ 9223372036854775807 := by rw [hs1]; have := textR_len ar cs; omega
  have HTX := Lib.hid (fun W (hb : Below w.heap.size w W) => text6 ar cs p q ao co ca cc W (ha.keep (fun b h hl => ⟨hb.block b hl, h⟩)) (hc.keep (fun b h hl => ⟨hb.block b hl, h⟩)) (fun c h => Nat.lt_of_lt_of_le (hp c h) hb.size) (fun c h => Nat.lt_of_lt_of_le (hq c h) hb.size) hna hnc)
  rw [← hf, ← hs1] at HTX
  have HRA := Lib.hid ha; have HRC := Lib.hid hc
  have HP := Lib.hid hp; have HQ := Lib.hid hq
  obtain ⟨m, hm⟩ : ∃ m, m = ar.length := ⟨_, rfl⟩
  obtain ⟨n, hn⟩ : ∃ n, n = cs.length := ⟨_, rfl⟩
  have HM := Lib.hid hm; have HN := Lib.hid hn
  rw [← hm, ← hn] at HTX ⊢
  obtain ⟨bx, hbx⟩ : ∃ b, b = w.heap.size := ⟨_, rfl⟩
  have S1 := (((St.start w).add (.rowE intE q ao ar) ha).add (.rowE claimE p co cs) hc).box hbx.symm #[.slice ao m ca, .slice co n cc] 25
  have HBX := Lib.hid (show w.heap.size = bx from hbx.symm)
  have hz1 : (w.alloc (.cells #[.slice ao m ca, .slice co n cc] 25)).heap.size = bx + 1 := by simp [hbx]
  clear ha hc hp hq hna hnc hf hs1 hm hn hg
  go_enter Tryd.func3, Tryd.ntmps3
  go_upto_region 1 with fail
  rw [← hbx]
  refine S1.genC (z := bx + 1) (by omega) ?_
  clear S1 hz1 hbx
  intro w1 z1 S
  go_wp2_with fail
  refine (S.quiet (fact5 w1 (HG.out.kept S.bel))).mono ?_
  rintro e w2 ⟨rfl, z2, S2⟩
  clear S
  obtain ⟨⟨y0, _⟩, y2, _⟩ := S2.two 2
  have HTX2 := Lib.hid (HTX.out w2 S2.bel)
  go_upto_region 4 with fail
  go_wp2_with fail
  refine (S2.quiet (HTX2.out)).mono ?_
  rintro e w3 ⟨rfl, z3, S3⟩
  obtain ⟨b7, hb7⟩ : ∃ b, b = w3.heap.size := ⟨_, rfl⟩
  have S4 := S3.box hb7.symm #[.int .i64 f.1, .int .i64 f.2] 28
  have hz4 : (w3.alloc (.cells #[.int .i64 f.1, .int .i64 f.2] 28)).heap.size = b7 + 1 := by simp [hb7]
  have HB7 := Lib.hid (show bx < b7 by omega)
  clear S2 S3 HTX2 y0 y2
  go_upto_region 5 with fail
  rw [← hb7]
  refine S4.genC (z := b7 + 1) (by omega) ?_
  clear S4 hz4 hb7
  intro w4 z4 S
  obtain ⟨⟨t0, t1⟩, t2, t3⟩ := S.two 3
  obtain ⟨⟨y0, _⟩, y2, _⟩ := S.two 2
  go_upto_if 22 with fail
  go_cut [] (fun W => b7 + 1 ≤ W.heap.size ∧ St w W [.rowE intE q ao ar, .rowE claimE p co cs, .box bx #[.slice ao m ca, .slice co n cc] 25, .box b7 #[.int .i64 f.1, .int .i64 f.2] 28])
  case first =>
    by_cases h0 : f.1 = 0
    · have HRD := Lib.hid (read7v s1 w4 (HG.out.kept S.bel) hl1 (0, 0) ar cs (HT1.out h0))
      rw [← HM.out, ← HN.out] at HRD
      have HS := Lib.hid S
      have H40 := Lib.hid (HT4.out h0); have H30 := Lib.hid (HT3.out h0)
      have h0b : (f.1 == 0) = true := by rw [beq_iff_eq]; exact h0
      clear S
      go_wp2_with fail
      refine (HRD.out).mono ?_
      rintro e w5 ⟨ao2, co2, sa, sc, rfl, hra, hrc, hb5⟩
      have S6 := ((HS.out.step hb5).add (.rowE intE (fun b => w4.heap.size ≤ b) ao2 ar) hra).add (.rowE claimE (fun b => w4.heap.size ≤ b) co2 cs) hrc
      obtain ⟨b8, hb8⟩ : ∃ b, b = w5.heap.size := ⟨_, rfl⟩
      have S7 := (S6.box hb8.symm #[.slice ao2 m (m + sa), .slice co2 n (n + sc)] 25).box (b := b8 + 1) (by simp [hb8]) #[.int .i64 0, .int .i64 0] 28
      have hz7 : ((w5.alloc (.cells #[.slice ao2 m (m + sa), .slice co2 n (n + sc)] 25)).alloc (.cells #[.int .i64 0, .int .i64 0] 28)).heap.size = b8 + 2 := by simp [hb8]
      have HB8 := Lib.hid (show b7 + 1 ≤ b8 by have := hb5.size; omega)
      clear S6 hra hrc hb5 HRD
      go_upto_region 7 with fail
      rw [← hb8]
      refine S7.genC (z := b8 + 2) (by omega) ?_
      clear S7 hz7 hb8 t0 t1 t2 t3 y0 y2
      intro w6 z6 S
      have HSL : Hid (Calls Tryd.prog 8 #[.agg #[.slice ao m ca, .slice co n cc], .agg #[.slice ao2 m (m + sa), .slice co2 n (n + sc)]] w6 fun e w' => e = .returned (.bool true) ∧ Below w6.heap.size w6 w') := by
        have h := sameLore8 ar cs _ _ _ _ ao co ao2 co2 ca cc (m + sa) (n + sc) w6 (S.rowE intE 0 rfl) (S.rowE claimE 1 rfl) (S.rowE intE 4 rfl) (S.rowE claimE 5 rfl) H40.out.1 H40.out.2 H30.out
        rw [← HM.out, ← HN.out] at h
        exact Lib.hid h
      obtain ⟨⟨y0, _⟩, y2, _⟩ := S.two 2
      obtain ⟨⟨v0, _⟩, v2, _⟩ := S.two 6
      obtain ⟨⟨x0, _⟩, x2, _⟩ := S.two 7
      go_wp2_with fail
      refine (S.quiet (HSL.out)).mono ?_
      rintro e w8 ⟨rfl, z8, S8⟩
      have HS8 := Lib.hid (S8.pick [0, 1, 2, 3])
      clear S S8 HSL
      go_wp2_with fail
      go_meet
      case rel => exact ⟨by have := HB8.out; omega, HS8.out⟩
    · have HE := Lib.hid (HT2.out h0)
      have h0b : (f.1 == 0) = false := by rw [beq_eq_false_iff_ne]; exact h0
      have he : s1 = [] := HT2.out h0
      subst he
      go_wp2_with fail
      go_meet
      case rel => exact ⟨z4, S⟩
  case rest =>
    clear S t0 t1 t2 t3 y0 y2
    obtain ⟨z9, S⟩ := hcut
    obtain ⟨g, ar2, cs2, hrs⟩ : ∃ (g : Int × Int) (a : List Int) (c : List (List Fc)), readR s = (g, a, c) := ⟨_, _, _, rfl⟩
    have HR1 := Lib.hid (show g.1 = 0 → textR ar2 cs2 = ((0, 0), s) from fun h => by have := read_text (s := s) (by rw [hrs]; exact h); rw [hrs] at this; exact this)
    have HR2 := Lib.hid (show g.1 ≠ 0 → ar2 = [] ∧ cs2 = [] from fun h => by have := read_bad (s := s) (by rw [hrs]; exact h); rw [hrs] at this; exact Prod.mk.inj this)
    have HRD := Lib.hid (read7v s wc (HG.out.kept S.bel) hs g ar2 cs2 hrs)
    have HS := Lib.hid S
    clear S hrs
    go_wp2_with fail
    refine (HRD.out).mono ?_
    rintro e w5 ⟨ao2, co2, sa, sc, rfl, hra, hrc, hb5⟩
    have S6 := ((HS.out.step hb5).add (.rowE intE (fun b => wc.heap.size ≤ b) ao2 ar2) hra).add (.rowE claimE (fun b => wc.heap.size ≤ b) co2 cs2) hrc
    obtain ⟨b10, hb10⟩ : ∃ b, b = w5.heap.size := ⟨_, rfl⟩
    have HB10 := Lib.hid (show b7 < b10 by have := hb5.size; omega)
    have S7 := S6.box hb10.symm #[.slice ao2 ar2.length (ar2.length + sa), .slice co2 cs2.length (cs2.length + sc)] 25
    have hz7 : (w5.alloc (.cells #[.slice ao2 ar2.length (ar2.length + sa), .slice co2 cs2.length (cs2.length + sc)] 25)).heap.size = b10 + 1 := by simp [hb10]
    have hb70 : w.heap.size ≤ b7 := by have := HBX.out; have := HB7.out; omega
    have S8 := S7.set2 3 rfl (.int .i64 g.1) (.int .i64 g.2) hb70 (by
      have h1 := HBX.out; have h2 := HB7.out; have h3 := HB10.out
      simp only [fsnoc, offs, offAll, Fct.box, Fct.rowE, and_true]
      refine ⟨fun h => by have := HQ.out _ h; omega, fun h => by have := HP.out _ h; omega, by omega, by omega, by omega, by omega⟩)
    obtain ⟨⟨t0, t1⟩, t2, t3⟩ := S7.two 3
    clear S6 S7 hra hrc hb5 HRD
    go_upto_region 12 with fail
    rw [← hb10]
    refine S8.genC (z := b10 + 1) (by simp; omega) ?_
    clear S8 hz7 hb10 t0 t1 t2 t3
    intro w6 z6 S
    obtain ⟨⟨t0, t1⟩, t2, t3⟩ := S.two 3
    obtain ⟨⟨v0, _⟩, v2, _⟩ := S.two 6
    by_cases h0 : g.1 = 0
    · have h0b : (g.1 == 0) = true := by rw [beq_iff_eq]; exact h0
      have htx := HR1.out h0
      have hgd := gd_of (textR_ok (ar := ar2) (cs := cs2) (by rw [htx]))
      have h9 := text6 ar2 cs2 (fun b => b < w6.heap.size) (fun b => b < w6.heap.size) ao2 co2 (ar2.length + sa) (cs2.length + sc) w6 ((S.rowE intE 4 rfl).keep (fun b h hl => ⟨rfl, hl⟩)) ((S.rowE claimE 5 rfl).keep (fun b h hl => ⟨rfl, hl⟩)) (fun c h => h) (fun c h => h) (by unfold maxLen; omega) (by unfold maxLen; omega)
      rw [htx] at h9
      have HTX3 := Lib.hid h9
      have HS6 := Lib.hid S
      clear S htx hgd h9
      go_wp2_with fail
      refine (HTX3.out).mono ?_
      rintro e w8 ⟨rfl, hb8⟩
      have S9 := HS6.out.step hb8
      clear t0 t1 t2 t3
      obtain ⟨⟨t0, t1⟩, t2, t3⟩ := S9.two 3
      have HBE := Lib.hid S9.bel
      clear S9 HTX3
      go_wp2_with fail
      go_ret
      exact ⟨by simp, (HBE.out.setCell (p := ⟨b7, 0, none⟩) hb70 _).setCell (p := ⟨b7, 1, none⟩) hb70 _⟩
    · have h0b : (g.1 == 0) = false := by rw [beq_eq_false_iff_ne]; exact h0
      obtain ⟨e1, e2⟩ := HR2.out h0
      subst e1
      subst e2
      have HBE := Lib.hid S.bel
      clear S
      go_wp2_with fail
      go_ret
      exact ⟨by simp, HBE.out⟩
end Go.Proofs.YtidgnbdlfngeaaaDoor
