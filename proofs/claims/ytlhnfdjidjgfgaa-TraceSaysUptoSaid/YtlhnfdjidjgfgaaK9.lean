/-
  Walk: trace.Take.
-/
import Derived.Test.YtlhnfdjidjgfgaaProg
import Derived.Test.YtlhnfdjidjgfgaaTr0
import Derived.Test.YtlhnfdjidjgfgaaKe
import Derived.Test.YtlhnfdjidjgfgaaV5
import Derived.Test.YtlhnfdjidjgfgaaK8
namespace Go.Proofs.Ytlhnfdjidjgfgaa
open Go.RowKit Go.Shelf
set_option linter.unusedVariables false
set_option maxHeartbeats 400000

def TakeP (r : List (List Fc) × (Int × Int)) (w : World) (e : Ending) (w' : World) : Prop :=
  ∃ ro sp, e = .returned (.tuple #[.slice ro r.1.length (r.1.length + sp), .agg #[.int .i64 r.2.1, .int .i64 r.2.2]]) ∧ claimE.Row (fun b => w.heap.size ≤ b) w' ro r.1 ∧ Below w.heap.size w w'
theorem ret_zf' {P : Program} {fn : Func} {R : Ending → World → Prop} {a : Act} {w : World} (z p q : Value) (c : Nat) (T' : TypeId) (hc : w.heap[c]? = some (.cells #[p, q] T' (0, 0)))
    (hres : ∀ w' : World, w'.cell? ⟨c, 0, none⟩ = some p → w'.cell? ⟨c, 1, none⟩ = some q → (results fn a.tmps).run P w' = .ok (.tuple #[z, .agg #[p, q]]) w') (hd : a.defers = [])
    (hR : R (.returned (.tuple #[z, .agg #[p, q]])) w) : bodyPost P fn R .ret a w := bodyPost_ret (hres w (box2 hc).1.1 (box2 hc).2.1) hd hR
theorem infoC41 : (Try.prog.info? 41).map (fun i => (i.zero, i.size, i.bytes)) = some (some (.agg #[.slice none 0 0]), 1, 24) := by kernel_rfl
/-- what is got so far is of claims of the lore's kind -/
theorem takeGo_code {ar : List Int} {cs : List (List Fc)} (hC : ∀ c ∈ cs, codeF ar c = 0) : ∀ {gs : List Gt} {known : List (List Fc)} {i : Int}, (∀ c ∈ known, codeF ar c = 0) → ∀ c ∈ (takeGo ar cs gs known i).1, codeF ar c = 0
  | [], known, i, h => by rw [takeGo]; exact h
  | g :: r, known, i, h => by
    rw [takeGo]
    split
    · simp
    · rename_i h0
      refine takeGo_code hC ?_
      intro c hc
      rcases List.mem_append.1 hc with hc | hc
      · exact h c hc
      · rw [List.mem_singleton] at hc
        have h1 := stepF_zero (show (stepF ar cs known g).2 = 0 by simpa using h0)
        rw [hc, h1.1]; exact h1.2.1
theorem takeGo_len {ar : List Int} {cs : List (List Fc)} {gs : List Gt} {K : List (List Fc)} (h : takeGo ar cs gs [] 0 = (K, (0, 0))) : K.length = gs.length := by
  obtain ⟨more, e, hl⟩ := takeGo_ok (ar := ar) (cs := cs) (gs := gs) (known := []) (i := 0) (by rw [h])
  rw [h] at e
  simp at e
  rw [e]; exact hl
theorem takeF_stop {ar : List Int} {cs : List (List Fc)} {gs : List Gt} {K : List (List Fc)} {k : Nat} {code : Int} (h0 : (loreF ar cs).1 = 0) (h4 : gs.length ≤ 400) (hk : k < gs.length) (h : takeGo ar cs (gs.take k) [] 0 = (K, (0, 0)))
    (hs : (stepF ar cs K gs[k]).2 = code) (hc : code ≠ 0) : takeF ar cs gs = ([], (code, (k : Int))) := by
  have hl : (gs.take k).length = k := by simp; omega
  have h1 : takeGo ar cs (gs.take (k + 1)) [] 0 = ([], (code, (k : Int))) := by
    rw [List.take_succ_eq_append_getElem hk, takeGo_snoc _ (by rw [h]), h, if_pos (by rw [hs]; exact hc), hs, hl]
    simp
  unfold takeF
  rw [if_neg (by rw [h0]; simp), if_neg (by omega), ← List.take_append_drop (k + 1) gs, takeGo_stop (by rw [h1]; exact hc), h1]

set_option maxRecDepth 100000 in
set_option maxHeartbeats 8000000 in
theorem take20 (ar : List Int) (cs : List (List Fc)) (gs : List Gt) (ao co go_ : Option Addr) (ca cc gcap : Nat) (w : World)
    (ha : intE.Row (fun b => b < w.heap.size) w ao ar) (hc : claimE.Row (fun b => b < w.heap.size) w co cs) (hg : gotE.Row (fun b => b < w.heap.size) w go_ gs) (har : ar.length ≤ maxLen) (hcn : cs.length ≤ maxLen) (hgn : gs.length ≤ maxLen) :
    Calls Try.prog 20 #[.agg #[.slice ao ar.length ca, .slice co cs.length cc], .slice go_ gs.length gcap] w (TakeP (takeF ar cs gs) w) := by
  have HA := Lib.hid ha; have HC := Lib.hid hc; have HG := Lib.hid hg; have HAR := Lib.hid har; have HCN := Lib.hid hcn; have HGN := Lib.hid hgn
  have hgn' : gs.length ≤ 9223372036854775807 := by unfold maxLen at hgn; omega
  obtain ⟨i41, gi, gz0, gz1, gz2⟩ := info_parts infoC41
  obtain ⟨bx, hbx⟩ : ∃ b, b = w.heap.size := ⟨_, rfl⟩
  have S1 := ((St.start w).box hbx.symm #[.slice ao ar.length ca, .slice co cs.length cc] 25).box (b := bx + 1) (by simp [hbx]) #[.int .i64 0, .int .i64 0] 29
  have hsz1 : ((w.alloc (.cells #[.slice ao ar.length ca, .slice co cs.length cc] 25)).alloc (.cells #[.int .i64 0, .int .i64 0] 29)).heap.size = bx + 2 := by simp [hbx]
  have HBX := Lib.hid hbx
  obtain ⟨⟨x0, _⟩, x1, _⟩ := S1.two 0
  clear ha hc hg har hcn hgn
  go_enter Try.func20, Try.ntmps20
  go_wp2_with fail
  rw [← hbx]
  refine S1.gen (z := bx + 2) (by omega) ?_
  intro w1 z1 S
  clear S1 hbx hsz1 x0 x1
  refine (S.faultF (lore79 ar cs _ _ ao co ca cc w1 (HA.out.kept S.bel) (HC.out.kept S.bel) HAR.out HCN.out)).mono ?_
  rintro e w2 ⟨C, D, rfl, HCD, z2, S2⟩
  clear S
  obtain ⟨b6, hb6⟩ : ∃ b, b = w2.heap.size := ⟨_, rfl⟩
  have S3 := S2.box hb6.symm #[.int .i64 C, .int .i64 D] 29
  have z3 : b6 + 1 ≤ (w2.alloc (.cells #[.int .i64 C, .int .i64 D] 29)).heap.size := by simp [hb6]
  have HB6 := Lib.hid (show bx + 2 ≤ b6 by omega)
  clear S2
  by_cases hC : C = 0
  case neg =>
    have hcb : (C != 0) = true := by simp [hC]
    have HF := Lib.hid (show takeF ar cs gs = ([], (C, D)) by unfold takeF; rw [if_pos (by rw [HCD.out]; exact hC), HCD.out])
    obtain ⟨⟨x0, _⟩, x1, _⟩ := S3.two 2
    obtain ⟨⟨y0, y1⟩, y2, y3⟩ := S3.two 1
    have hl := S3.lt 1
    have SB := Lib.hid S3
    clear S3 hC
    go_wp2_with fail
    try go_region
    all_goals (try rw [← hb6])
    all_goals (try go_wp2_with fail)
    all_goals
      refine ret_zf' (.slice none 0 0) (.int .i64 C) (.int .i64 D) (bx + 1) 29 (box2_set (SB.out.block 1) _ _) (fun w' q0 q1 => by simp [results, Try.results20, go_sem, q0, q1]) rfl ?_
      have hx := HBX.out
      rw [HF.out]
      exact ⟨none, 0, rfl, Elt.Row.nil, ((SB.out.bel.setCell (p := ⟨bx + 1, 0, none⟩) (by show w.heap.size ≤ bx + 1; omega) _).setCell (p := ⟨bx + 1, 1, none⟩) (by show w.heap.size ≤ bx + 1; omega) _).drew⟩
  case pos =>
  have hcb : (C != 0) = false := by simp [hC]
  have HZ := Lib.hid (show (loreF ar cs).1 = 0 by rw [HCD.out]; exact hC)
  have HLZ := Lib.hid (loreF_zero HZ.out)
  obtain ⟨⟨x0, _⟩, x1, _⟩ := S3.two 2
  by_cases h4 : (400 : Int) < gs.length
  · have HF := Lib.hid (show takeF ar cs gs = ([], (2, -1)) by unfold takeF; rw [if_neg (by rw [HZ.out]; simp), if_pos (by omega)])
    obtain ⟨⟨y0, y1⟩, y2, y3⟩ := S3.two 1
    have hl := S3.lt 1
    have SB := Lib.hid S3
    clear S3 hC
    go_wp2_with fail
    rw [← hb6]
    refine ret_zf' (.slice none 0 0) (.int .i64 2) (.int .i64 (-1)) (bx + 1) 29 (box2_set (SB.out.block 1) _ _) (fun w' q0 q1 => by simp [results, Try.results20, go_sem, q0, q1]) rfl ?_
    have hx := HBX.out
    rw [HF.out]
    exact ⟨none, 0, rfl, Elt.Row.nil, (SB.out.bel.setCell (p := ⟨bx + 1, 0, none⟩) (by show w.heap.size ≤ bx + 1; omega) _).setCell (p := ⟨bx + 1, 1, none⟩) (by show w.heap.size ≤ bx + 1; omega) _⟩
  have h400 : gs.length ≤ 400 := by omega
  have H4 := Lib.hid h400
  clear hC
  go_wp2_with fail
  rw [← hb6]
  refine S3.genC (z := bx + 2) (by have := HB6.out; omega) ?_
  intro w3 z3' S
  have S := ((S.pick [0, 1]).add (.owns claimE (bx + 2) (fun b => bx + 2 ≤ b) (.slice none 0 0) []) (Elt.Own.nil _ _ _ _))
  clear S3 z3 hb6 x0 x1
  go_loopw [7, 24] (fun o i wr => ∃ (k : Nat) (K : List (List Fc)), k ≤ gs.length ∧ i = .int .i64 k ∧ Hid (takeGo ar cs (gs.take k) [] 0 = (K, (0, 0))) ∧ bx + 2 ≤ wr.heap.size ∧ St w wr [.box bx #[.slice ao ar.length ca, .slice co cs.length cc] 25, .box (bx + 1) #[.int .i64 0, .int .i64 0] 29, .owns claimE (bx + 2) (fun b => bx + 2 ≤ b) o K]) (fun _ i _ => gs.length - (intOf i).toNat)
  case atStart => exact ⟨0, [], by omega, rfl, Lib.hid (by rw [List.take_zero, takeGo]), z3', S⟩
  case round =>
    clear S
    obtain ⟨k, K, hk, rfl, HK, z4, S⟩ := hrel
    by_cases hlt : k < gs.length
    · have hlti : (k : Int) < (gs.length : Int) := by omega
      have hKl : K.length = k := by rw [takeGo_len HK.out]; simp; omega
      obtain ⟨b, off, po, pc, bo, bc, rfl, hpb, hcl, hpl, hbs, hpc, hbc⟩ := (HG.out.kept S.bel).got hlt
      have HFS := Lib.hid (fun code (hs : (stepF ar cs K gs[k]).2 = code) (hc : code ≠ 0) => takeF_stop HZ.out H4.out hlt HK.out hs hc)
      have HNX := Lib.hid (show (stepF ar cs K gs[k]).2 = 0 → takeGo ar cs (gs.take (k + 1)) [] 0 = (K ++ [(stepF ar cs K gs[k]).1], (0, 0)) from fun h0 => by
        rw [List.take_succ_eq_append_getElem hlt, takeGo_snoc _ (by rw [HK.out]), HK.out, if_neg (by rw [h0]; simp)])
      have HKC := Lib.hid (show ∀ c ∈ K, codeF ar c = 0 from fun c hc => by
        have := takeGo_code (ar := ar) (cs := cs) HLZ.out.2.2.2.2 (gs := gs.take k) (known := []) (i := 0) (fun c h => by simp at h) c
        rw [HK.out] at this; exact this hc)
      obtain ⟨g, hg⟩ : ∃ g, g = gs[k] := ⟨_, rfl⟩
      rw [← hg] at hcl hpl hbs hpc hbc HFS HNX
      have c0 := hcl 0 _ rfl; have c1 := hcl 1 _ rfl; have c2 := hcl 2 _ rfl; have c3 := hcl 3 _ rfl
      have c4 := hcl 4 _ rfl; have c5 := hcl 5 _ rfl; have c6 := hcl 6 _ rfl; have c7 := hcl 7 _ rfl
      rw [Nat.add_zero] at c0
      have HPL := Lib.hid hpl; have HBS := Lib.hid hbs; have HPC := Lib.hid hpc; have HBC := Lib.hid hbc
      clear hcl hpl hbs hpc hbc hg hpb
      obtain ⟨ko, ksp, rfl, hrow, hml2⟩ := (S.owns claimE 2).row (fun b h => h)
      have HKR := Lib.hid hrow
      have HOW := Lib.hid (show ∀ c, Value.ownBlock (.slice ko K.length (K.length + ksp)) = some c → bx + 2 ≤ c ∧ c < wr.heap.size from fun c hc => S.ownlt claimE 2 rfl c hc)
      clear hrow
      obtain ⟨b9, hb9⟩ : ∃ b, b = wr.heap.size := ⟨_, rfl⟩
      rw [← hb9] at HOW
      have S4 := S.box hb9.symm #[.int .i64 g.kind, .int .i64 g.a, .int .i64 g.b, .int .i64 g.i, .int .i64 g.j, .bool g.turn, .slice po g.pl.length (g.pl.length + pc), .slice bo g.bs.length (g.bs.length + bc)] 35
      have z5 : b9 + 1 ≤ (wr.alloc (.cells #[.int .i64 g.kind, .int .i64 g.a, .int .i64 g.b, .int .i64 g.i, .int .i64 g.j, .bool g.turn, .slice po g.pl.length (g.pl.length + pc), .slice bo g.bs.length (g.bs.length + bc)] 35)).heap.size := by simp [hb9]
      have HAL := Lib.hid (show Below wr.heap.size wr (wr.alloc (.cells #[.int .i64 g.kind, .int .i64 g.a, .int .i64 g.b, .int .i64 g.i, .int .i64 g.j, .bool g.turn, .slice po g.pl.length (g.pl.length + pc), .slice bo g.bs.length (g.bs.length + bc)] 35)) from (Below.refl _ wr).alloc (Nat.le_refl _) _)
      obtain ⟨⟨x0, _⟩, x1, _⟩ := S4.two 0
      obtain ⟨y0, _⟩ := S4.cell 3 0 rfl
      obtain ⟨y1, _⟩ := S4.cell 3 1 rfl
      obtain ⟨y2, _⟩ := S4.cell 3 2 rfl
      obtain ⟨y3, _⟩ := S4.cell 3 3 rfl
      obtain ⟨y4, _⟩ := S4.cell 3 4 rfl
      obtain ⟨y5, _⟩ := S4.cell 3 5 rfl
      obtain ⟨y6, _⟩ := S4.cell 3 6 rfl
      obtain ⟨y7, _⟩ := S4.cell 3 7 rfl
      have HKl := Lib.hid hKl
      have HS4 := Lib.hid S4
      clear hKl S4
      go_wp2_with fail
      rw [← hb9]
      have S4 := HS4.out
      clear HS4
      refine (step64 ar cs K g ao co ko po bo ca cc (K.length + ksp) pc bc _ ((HA.out.kept S4.bel).mono (fun b h h2 => h2)) ((HC.out.kept S4.bel).mono (fun b h h2 => h2)) ((HKR.out.kept HAL.out).mono (fun b h h2 => h2)) ((HPL.out.kept HAL.out).mono (fun b h h2 => h2)) ((HBS.out.kept HAL.out).mono (fun b h h2 => h2)) (by have := HLZ.out.2.1; omega) HCN.out (by rw [HKl.out]; have := H4.out; unfold maxLen; omega) HPC.out HBC.out HLZ.out.2.2.2.2 HKC.out).mono ?_
      rintro e w8 ⟨ro, rsp, rfl, hro, hb8⟩
      obtain ⟨CD, hCD⟩ : ∃ X, X = stepF ar cs K g := ⟨_, rfl⟩
      rw [← hCD] at hro HFS HNX ⊢
      have HCD2 := Lib.hid hCD
      clear hCD
      obtain ⟨Cn, code⟩ := CD
      have z8 : b9 + 1 ≤ w8.heap.size := Nat.le_trans z5 hb8.size
      have S5 := S4.step hb8
      have HRO := Lib.hid (show factE.Row (fun c => b9 + 1 ≤ c ∧ c < w8.heap.size) w8 ro Cn from hro.mono (fun c h h2 => ⟨Nat.le_trans z5 h, h2⟩))
      have HCL := Lib.hid (show code = 0 → codeF ar Cn = 0 from fun h => by
        have h1 := stepF_zero (show (stepF ar cs K g).2 = 0 by rw [← HCD2.out]; exact h)
        have h2 := h1.1
        rw [← HCD2.out] at h2
        have h3 : Cn = outF cs K g := congrArg Prod.fst h2
        rw [h3]; exact h1.2.1)
      obtain ⟨bt, hbt⟩ : ∃ b, b = w8.heap.size := ⟨_, rfl⟩
      have S6 := S5.box hbt.symm #[.slice ro Cn.length (Cn.length + rsp)] 41
      have z6 : bt + 1 ≤ (w8.alloc (.cells #[.slice ro Cn.length (Cn.length + rsp)] 41)).heap.size := by simp [hbt]
      have hbt9 : b9 + 1 ≤ bt := by omega
      clear S4 S5 z5 x0 x1 y0 y1 y2 y3 y4 y5 y6 y7 c0 c1 c2 c3 c4 c5 c6 c7 hro hb8 S
      by_cases hcode : code = 0
      · subst hcode
        obtain ⟨v0, v1⟩ := S6.one 4
        have HN := Lib.hid (HNX.out rfl)
        have hkl : K.length ≤ 400 := by rw [HKl.out]; have := H4.out; omega
        have HKl4 := Lib.hid hkl
        clear hkl hlti
        have HR6 := Lib.hid (show claimE.is (fun c => b9 + 1 ≤ c ∧ c < bt) (w8.alloc (.cells #[.slice ro Cn.length (Cn.length + rsp)] 41)) [.slice ro Cn.length (Cn.length + rsp)] Cn from
          ⟨ro, rsp, rfl, (HRO.out.kept ((Below.refl _ w8).alloc (Nat.le_refl _) _)).mono (fun c h _ => by rw [hbt]; exact h), by have := (code_small (HCL.out rfl)).1; unfold maxLen; omega⟩)
        go_wp2_with (at_builtin; refine wpList_app rfl (.tmp 41) (.tmp 43) 23 rfl claimE S6 2 rfl (x := Cn) (q := fun c => b9 + 1 ≤ c ∧ c < bt) (p' := fun b => bx + 2 ≤ b) HR6.out Try.underlying23 gi gz0 gz1 gz2 rfl rfl ?v1 ?v2 ?c1 ?c2 ?c3 ?c4 ?c5 ?c6 ?c7 ?_)
        case v1 => rfl
        case v2 => rw [show (w8.alloc (.cells #[.slice ro Cn.length (Cn.length + rsp)] 41)).heap.size = w8.heap.size + 1 from by simp]; rfl
        case c1 => have := HKl4.out; unfold maxLen; omega
        case c2 => have := HKl4.out; omega
        case c3 => have := HB6.out; omega
        case c4 => have := HBX.out; omega
        case c5 =>
          intro bb h1 h2 h3
          have h4 := HOW.out bb h1
          simp only [fsnoc, offs, offAll, Fct.box, and_true]; omega
        case c6 => intro bb h1 h2; have h4 := HOW.out bb h2; have := h1.1; omega
        case c7 => intro bb h1; rcases h1 with h1 | h1; exact h1; have := h1.1; have := HB6.out; omega
        intro gg cap w9 S10 hs10 hgg _
        have S11 : St w w9 [.box bx #[.slice ao ar.length ca, .slice co cs.length cc] 25, .box (bx + 1) #[.int .i64 0, .int .i64 0] 29, .owns claimE (bx + 2) (fun b => bx + 2 ≤ b) (.slice (some ⟨gg, 0, none⟩) (K.length + 1) cap) (K ++ [Cn])] := S10.pick [0, 1, 2]
        have hz10 : bx + 2 ≤ w9.heap.size := by omega
        clear S6 S10 v0 v1
        go_wp2_with fail
        go_roundw
        case rel => exact ⟨k + 1, K ++ [Cn], by omega, by go_num, HN, hz10, S11⟩
        case measure => simp [intOf] <;> omega
      · have hcb2 : (code != 0) = true := by simp [hcode]
        have HF := Lib.hid (HFS.out code rfl hcode)
        obtain ⟨⟨y0, y1⟩, y2, y3⟩ := S6.two 1
        have hl := S6.lt 1
        have SB := Lib.hid S6
        clear S6 hcode
        go_wp2_with fail
        refine ret_zf' (.slice none 0 0) (.int .i64 code) (.int .i64 k) (bx + 1) 29 (box2_set (SB.out.block 1) _ _) (fun w' q0 q1 => by simp [results, Try.results20, go_sem, q0, q1]) rfl ?_
        have hx := HBX.out
        rw [HF.out]
        exact ⟨none, 0, rfl, Elt.Row.nil, (SB.out.bel.setCell (p := ⟨bx + 1, 0, none⟩) (by show w.heap.size ≤ bx + 1; omega) _).setCell (p := ⟨bx + 1, 1, none⟩) (by show w.heap.size ≤ bx + 1; omega) _⟩
    · obtain rfl : k = gs.length := by omega
      rw [List.take_length] at HK
      have HF := Lib.hid (show takeF ar cs gs = (K, (0, 0)) by unfold takeF; rw [if_neg (by rw [HZ.out]; simp), if_neg (by have := H4.out; omega), HK.out])
      obtain ⟨ko, ksp, rfl, hrow, hml2⟩ := (S.owns claimE 2).row (fun b h => h)
      have HT := Lib.hid hrow
      obtain ⟨⟨y0, y1⟩, y2, y3⟩ := S.two 1
      have hl := S.lt 1
      have SB := Lib.hid S
      clear S hrow
      go_wp2_with fail
      refine ret_zf' (.slice ko K.length (K.length + ksp)) (.int .i64 0) (.int .i64 0) (bx + 1) 29 (box2_set (SB.out.block 1) _ _) (fun w' q0 q1 => by simp [results, Try.results20, go_sem, q0, q1]) rfl ?_
      have hx := HBX.out
      rw [HF.out]
      refine ⟨ko, ksp, rfl, HT.out.keep (fun b h1 h2 => ⟨(Below.heap_setCell _ _ _ _ (by show b ≠ bx + 1; omega)).trans (Below.heap_setCell _ _ _ _ (by show b ≠ bx + 1; omega)), by omega⟩), (SB.out.bel.setCell (p := ⟨bx + 1, 0, none⟩) (by show w.heap.size ≤ bx + 1; omega) _).setCell (p := ⟨bx + 1, 1, none⟩) (by show w.heap.size ≤ bx + 1; omega) _⟩
end Go.Proofs.Ytlhnfdjidjgfgaa
