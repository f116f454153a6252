/-
  Walks: ClaimNamed.
-/
import Derived.Test.YtidgnbdlfngeaaaDoorCf1
import Derived.Test.YtidgnbdlfngeaaaDoorNf
import Derived.Test.YtidgnbdlfngeaaaDoorNmp
import Derived.Test.YtidgnbdlfngeaaaDoorG7
import Derived.Deep.DeepCutAuto
namespace Go.Proofs.YtidgnbdlfngeaaaDoor
open Go.RowKit Go.Shelf
set_option linter.unusedVariables false
set_option linter.unusedSimpArgs false
set_option maxHeartbeats 400000

theorem thin_of_ok {t : T} (h : (treeF t).1 = 0) : t.thin := fun z hz => by
  have := ((treeF_ok.1 h).2.2 z hz).2
  exact Nat.le_of_not_lt fun e => this (.inl (by omega))
theorem lowt_of_ok {t : T} (h : (treeF t).1 = 0) : t.low := low_of_pre t (treeF_ok.1 h).2.2
/-- Norm of a clause that is well formed -/
theorem norm9 (fs R : List Fc) (p : Nat → Prop) (w : World) (ao : Option Addr) (sp n : Nat) (hF : formF fs = 0) (hR : rnA fs = R) (hl : fs.length = n) (hp : ∀ c, p c → c < w.heap.size) (h : factE.Row p w ao fs) :
    Calls Tryd.prog 9 #[.agg #[.slice ao n (n + sp)]] w fun e w' => ∃ ro rsp, e = .returned (.tuple #[.agg #[.slice ro n (n + rsp)], .agg #[.int .i64 0, .int .i64 0]]) ∧
      factE.Row (fun c => w.heap.size ≤ c ∧ c < w'.heap.size) w' ro R ∧ Below w.heap.size w w' := by
  subst hl
  have h6 := (formF_ok hF).1
  refine (norm17g fs p w ao sp hp h (by omega)).mono ?_
  rintro e w' ⟨ro, rsp, rfl, h1, h2⟩
  have e1 : normO fs = R := (normO_ok hF).trans hR
  have e2 : (normO fs).length = fs.length := by rw [normO_ok hF]; simp [rnA]
  rw [e2, hF]
  exact ⟨ro, rsp, rfl, by rw [← e1]; exact h1.keep (fun b h hl => ⟨rfl, h, hl⟩), h2⟩
theorem mvC_take (x : Int) {fs : List Fc} {k : Nat} (h : k < fs.length) : mvC x (fs.take (k + 1)) = mvC x (fs.take k) ++ [⟨fs[k].neg, shT x fs[k].l, shT x fs[k].r⟩] := by
  unfold mvC; rw [map_take _ h]

mutual
theorem most_le8 : ∀ t : T, (∀ z ∈ t.pre, -8 ≤ z.head) → t.most ≤ 8
  | .node h ks, hh => by
    have h1 := hh (.node h ks) (by simp [T.pre])
    have h2 := mostL_le8 ks (fun z hz => hh z (by rw [T.pre]; exact List.mem_cons_of_mem _ hz))
    have h3 : T.head (.node h ks) = h := rfl
    rw [h3] at h1
    simp only [T.most]
    split <;> omega
theorem mostL_le8 : ∀ ks : List T, (∀ z ∈ preL ks, -8 ≤ z.head) → mostL ks ≤ 8
  | [], _ => by simp [mostL]
  | t :: r, hh => by
    have h1 := most_le8 t (fun z hz => hh z (by rw [preL]; exact List.mem_append_left _ hz))
    have h2 := mostL_le8 r (fun z hz => hh z (by rw [preL]; exact List.mem_append_right _ hz))
    simp only [mostL]; omega
end
theorem form_most {fs : List Fc} (h : formF fs = 0) : mostL (treesF fs) ≤ 8 := mostL_le8 _ fun z hz => by
  obtain ⟨t, ht, hz⟩ := pre_memL hz
  have h3 := ((treeF_ok.1 (formF_mem h t ht)).2.2 z hz).1
  unfold badHead at h3
  omega

set_option maxRecDepth 100000 in
set_option maxHeartbeats 8000000 in
theorem named4 (fs : List Fc) (x : Int) (p : Nat → Prop) (ao : Option Addr) (sp : Nat) (w : World) (h : factE.Row p w ao fs) (hp : ∀ c, p c → c < w.heap.size) (hn : fs.length ≤ 9223372036854775807) (hg : GV w) :
    Calls Tryd.prog 4 #[.agg #[.slice ao fs.length (fs.length + sp)], .int .i64 x] w fun e w' => e = .returned (.bool true) ∧ Below w.heap.size w w' := by
  have HG := Lib.hid hg; have HR := Lib.hid h; have HP := Lib.hid hp
  obtain ⟨n, hnn⟩ : ∃ n, n = fs.length := ⟨_, rfl⟩
  have HN := Lib.hid hnn
  rw [← hnn]
  obtain ⟨bx, hbx⟩ : ∃ b, b = w.heap.size := ⟨_, rfl⟩
  have S1 := ((St.start w).add (.rowE factE p ao fs) h).box hbx.symm #[.slice ao n (n + sp)] 37
  have HBX := Lib.hid (show w.heap.size = bx from hbx.symm)
  have hz1 : (w.alloc (.cells #[.slice ao n (n + sp)] 37)).heap.size = bx + 1 := by simp [hbx]
  clear h hp hg hnn
  go_enter Tryd.func4, Tryd.ntmps4
  go_upto_region 1 with fail
  rw [← hbx]
  refine S1.genC (z := bx + 1) (by omega) ?_
  clear S1 hz1 hbx
  intro w1 z1 S
  go_wp2_with fail
  refine (S.quiet (fact5 w1 (HG.out.kept S.bel))).mono ?_
  rintro e w2 ⟨rfl, z2, S2⟩
  clear S
  obtain ⟨y0, _⟩ := S2.one 1
  have HS2 := Lib.hid S2
  clear S2
  by_cases hF : formF fs = 0
  · have HF := Lib.hid hF
    obtain ⟨D, hD⟩ : ∃ D, D = rnA fs := ⟨_, rfl⟩
    have HD := Lib.hid hD
    have HDL := Lib.hid (show D.length = n by rw [hD, HN.out]; simp [rnA])
    have HDF := Lib.hid (show formF D = 0 by rw [hD]; exact formF_rnA hF)
    have HDD := Lib.hid (show rnA D = D by rw [hD]; exact rnA_twice fs)
    have HN6 := Lib.hid (show n ≤ 6 by rw [HN.out]; exact (formF_ok hF).1)
    clear hF hD
    go_upto_region 4 with fail
    go_wp2_with fail
    refine (norm9 fs D p w2 ao sp n HF.out HD.out.symm HN.out.symm (fun c h => Nat.lt_of_lt_of_le (HP.out c h) HS2.out.bel.size) (HR.out.kept HS2.out.bel)).mono ?_
    rintro e w3 ⟨ro, rsp, rfl, hrow, hb3⟩
    have S3 := (HS2.out.step hb3).add (.rowE factE (fun c => w2.heap.size ≤ c ∧ c < w3.heap.size) ro D) hrow
    obtain ⟨b6, hb6⟩ : ∃ b, b = w3.heap.size := ⟨_, rfl⟩
    rw [← hb6] at S3
    have S4 := (S3.box hb6.symm #[.slice ro n (n + rsp)] 37).box (b := b6 + 1) (by simp [hb6]) #[.int .i64 0, .int .i64 0] 28
    have hz4 : ((w3.alloc (.cells #[.slice ro n (n + rsp)] 37)).alloc (.cells #[.int .i64 0, .int .i64 0] 28)).heap.size = b6 + 2 := by simp [hb6]
    have HB6 := Lib.hid (show bx + 1 ≤ w2.heap.size ∧ w2.heap.size ≤ b6 by have := hb3.size; have := HS2.out.bel.size; omega)
    clear S3 hrow hb3 y0 HS2
    go_upto_region 5 with fail
    rw [← hb6]
    refine S4.genC (z := b6 + 2) (by omega) ?_
    clear S4 hz4 hb6
    intro w4 z4 S
    obtain ⟨y0, y1⟩ := S.one 3
    obtain ⟨⟨t0, t1⟩, t2, t3⟩ := S.two 4
    obtain ⟨x0, _⟩ := S.one 1
    have HND := Lib.hid (norm9 D D _ w4 ro rsp n HDF.out HDD.out HDL.out (fun c h => by have := h.2; omega) (S.rowE factE 2 rfl))
    have HS4 := Lib.hid S
    clear S
    go_upto_region 7 with fail
    go_wp2_with fail
    refine (HND.out).mono ?_
    rintro e w5 ⟨ro2, rsp2, rfl, hrow, hb5⟩
    have S5 := (HS4.out.step hb5).add (.rowE factE (fun c => w4.heap.size ≤ c ∧ c < w5.heap.size) ro2 D) hrow
    obtain ⟨b8, hb8⟩ : ∃ b, b = w5.heap.size := ⟨_, rfl⟩
    rw [← hb8] at S5
    have S6 := S5.box hb8.symm #[.slice ro2 n (n + rsp2)] 37
    have hz6 : (w5.alloc (.cells #[.slice ro2 n (n + rsp2)] 37)).heap.size = b8 + 1 := by simp [hb8]
    have HB8 := Lib.hid (show b6 + 2 ≤ w4.heap.size ∧ w4.heap.size ≤ b8 by have := hb5.size; omega)
    have S7 := S6.set2 4 rfl (.int .i64 0) (.int .i64 0) (by have := HBX.out; have := HB6.out; omega) (by
      have h1 := HBX.out; have h2 := HB6.out; have h3 := HB8.out
      simp only [fsnoc, offs, offAll, Fct.box, Fct.rowE, and_true]
      refine ⟨fun h => by have := HP.out _ h; omega, by omega, by omega, by omega, by omega, by omega⟩)
    clear t0 t1 t2 t3 y0 y1 x0
    obtain ⟨⟨t0, t1⟩, t2, t3⟩ := S6.two 4
    have hz7 : (((w5.alloc (.cells #[.slice ro2 n (n + rsp2)] 37)).setCell ⟨b6 + 1, 0, none⟩ (.int .i64 0)).setCell ⟨b6 + 1, 1, none⟩ (.int .i64 0)).heap.size = b8 + 1 := by simp [hb8]
    clear S5 S6 hrow hb5 HS4 HND
    go_upto_region 8 with fail
    rw [← hb8]
    refine S7.genC (z := b8 + 1) (by omega) ?_
    clear S7 hz6 hz7 hb8 t0 t1 t2 t3
    intro w6 z6 S
    have HSC : Hid (Calls Tryd.prog 10 #[.agg #[.slice ro n (n + rsp)], .agg #[.slice ro2 n (n + rsp2)]] w6 fun e w' => e = .returned (.bool true) ∧ Below w6.heap.size w6 w') := by
      have h := sameClaim20 D D _ _ ro ro2 (n + rsp) (n + rsp2) w6 (S.rowE factE 2 rfl) (S.rowE factE 5 rfl) (by rw [HDL.out]; have := HN6.out; omega) (by rw [HDL.out]; have := HN6.out; omega)
      rw [HDL.out, show decide (D = D) = true by simp] at h
      exact Lib.hid h
    obtain ⟨y0, _⟩ := S.one 3
    obtain ⟨⟨t0, _⟩, t2, _⟩ := S.two 4
    obtain ⟨v0, _⟩ := S.one 6
    have HS6 := Lib.hid S
    clear S
    go_wp2_with fail
    refine (HS6.out.quiet (HSC.out)).mono ?_
    rintro e w7 ⟨rfl, z7, S⟩
    obtain ⟨x0, _⟩ := S.one 1
    obtain ⟨m, hm⟩ : ∃ m : Int, m = ((varsC fs : Nat) : Int) := ⟨_, rfl⟩
    have HM := Lib.hid hm
    have HCM := Lib.hid (claimMost31 fs p ao sp w7 (HR.out.kept S.bel) (by rw [← HN.out]; have := HN6.out; omega) (fun b hb => Nat.lt_of_lt_of_le (HP.out b hb) S.bel.size) (fun t ht => lowt_of_ok (formF_mem HF.out t ht)))
    rw [← HN.out, ← hm] at HCM
    have hm0 : 0 ≤ m := by omega
    have hm8 : m ≤ 8 := by have := form_most HF.out; rw [hm, varsC_cast]; exact this
    have hw8 : IntKind.i64.wrap (8 - m) = 8 - m := IntWalk.i64_in _ (by omega)
    have HS7 := Lib.hid S
    clear S HS6 HSC y0 t0 t2 v0 hm
    go_upto_region 10 with fail
    go_wp2_with fail
    refine (HS7.out.quiet (HCM.out)).mono ?_
    rintro e w8 ⟨rfl, z8, S⟩
    have HS8 := Lib.hid S
    clear S HS7 HCM x0
    go_wp2_with fail
    try rw [hw8]
    refine (in11 x 0 (8 - m) w8).mono ?_
    rintro e w9 ⟨rfl, rfl⟩
    by_cases hin : 0 ≤ x ∧ x ≤ 8 - m
    · have hinb : decide (0 ≤ x ∧ x ≤ 8 - m) = true := by simpa using hin
      rw [hinb]
      have hx0 := hin.1
      have hx8 : x ≤ 8 := by omega
      have HMF := Lib.hid (show formF (mvC x fs) = 0 by
        refine formF_mv HF.out hx0 ?_
        have h1 := hin.2
        rw [HM.out, varsC_cast] at h1
        exact h1)
      have HMR := Lib.hid (show rnA (mvC x fs) = D from (rnA_mv HF.out hx0).trans HD.out.symm)
      clear hin hinb
      obtain ⟨i54, gi, gz0, gz1, gz2⟩ := info_parts info54
      obtain ⟨b9, hb9⟩ : ∃ b, b = w9.heap.size := ⟨_, rfl⟩
      have HB9 := Lib.hid (show b8 + 1 ≤ b9 by omega)
      have S9 := ((HS8.out.pick [0, 1, 2, 3, 4]).box hb9.symm #[.slice none 0 0] 37).add (.owns factE (b9 + 1) (fun b => b9 + 1 ≤ b) (.slice none 0 0) []) (Elt.Own.nil _ _ _ _)
      have hz9 : (w9.alloc (.cells #[.slice none 0 0] 37)).heap.size = b9 + 1 := by simp [hb9]
      clear HS8
      go_upto_region 13 with fail
      rw [← hb9]
      refine S9.genC (z := b9 + 1) (by omega) ?_
      clear S9 hz9 hb9
      intro w10 z10 S
      go_step
      go_wp2_with fail
      go_loopw [10] (fun i wr => ∃ (k : Nat) (o : Value), k ≤ n ∧ i = .int .i64 k ∧ b9 + 1 ≤ wr.heap.size ∧ St w wr [.rowE factE p ao fs, .box bx #[.slice ao n (n + sp)] 37, .rowE factE (fun c => w2.heap.size ≤ c ∧ c < b6) ro D, .box b6 #[.slice ro n (n + rsp)] 37, .box (b6 + 1) #[.int .i64 0, .int .i64 0] 28, .box b9 #[o] 37, .owns factE (b9 + 1) (fun b => b9 + 1 ≤ b) o (mvC x (fs.take k))]) (fun i _ => n - (intOf i).toNat)
      case atStart => exact ⟨0, _, by omega, rfl, z10, S⟩
      case round =>
        clear S
        obtain ⟨k, o, hk, rfl, z11, S⟩ := hrel
        by_cases hlt : k < n
        · have hltf : k < fs.length := by rw [← HN.out]; exact hlt
          have hlti : (k : Int) < (n : Int) := by omega
          obtain ⟨b, off, ka, sa, kb, sb, rfl, hpb, c0, c1, c2, c3, c4, t1, t2⟩ := (HR.out).fact hltf
          obtain ⟨f, hf⟩ : ∃ f, f = fs[k] := ⟨_, rfl⟩
          have HMT := Lib.hid (show mvC x (fs.take (k + 1)) = mvC x (fs.take k) ++ [⟨f.neg, shT x f.l, shT x f.r⟩] by rw [mvC_take x hltf, ← hf])
          have hok : f.l ∈ treesF fs ∧ f.r ∈ treesF fs := by rw [hf]; exact ⟨List.mem_of_getElem? (treesF_at hltf).1, List.mem_of_getElem? (treesF_at hltf).2⟩
          have HO1 := Lib.hid (formF_mem HF.out _ hok.1)
          have HO2 := Lib.hid (formF_mem HF.out _ hok.2)
          rw [← hf] at c0 c1 c2 c3 c4 t1 t2
          have T1 := Lib.hid t1; have T2 := Lib.hid t2
          have hlk : (mvC x (fs.take k)).length = k := by simp [mvC]; omega
          have FC := Lib.hid (fun (W : World) (hb : Below w.heap.size w W) => And.intro (Below.cellOf hb c0) (And.intro (Below.cellOf hb c1) (And.intro (Below.cellOf hb c2) (And.intro (Below.cellOf hb c3) (Below.cellOf hb c4)))))
          clear hf t1 t2 hok c0 c1 c2 c3 c4
          have SD := Lib.hid S.drew
          obtain ⟨x0, _⟩ := S.one 1
          go_upto_region 16 with fail
          have hz12 : wr.drew.heap.size = wr.heap.size := rfl
          have HZ := Lib.hid z11
          have BAL := Lib.hid (fun (W : World) (o : Obj) => (Below.refl W.heap.size W).alloc (Nat.le_refl _) o)
          clear S x0
          have HS := And.intro (And.intro (SD.out.one 5).1 (SD.out.one 1).1) (FC.out _ SD.out.bel)
          refine wpT_region [28] (fun W => (W.cell? ⟨b9, 0, none⟩ = some o ∧ W.cell? ⟨bx, 0, none⟩ = some (.slice (some ⟨b, off, none⟩) n (n + sp))) ∧ W.cell? ⟨b, off + k * 5, none⟩ = some (.bool f.neg) ∧ W.cell? ⟨b, off + k * 5 + 1, none⟩ = some (.int .i64 f.l.head) ∧ W.cell? ⟨b, off + k * 5 + 2, none⟩ = some (.slice ka f.l.kids.length (f.l.kids.length + sa)) ∧ W.cell? ⟨b, off + k * 5 + 3, none⟩ = some (.int .i64 f.r.head) ∧ W.cell? ⟨b, off + k * 5 + 4, none⟩ = some (.slice kb f.r.kids.length (f.r.kids.length + sb))) (by kernel_rfl) ?_
          try simp only [Act.put, List.setIfInBounds_toArray, List.set_cons_zero, List.set_cons_succ]
          refine wpT.take (i := 0) (by kernel_rfl) (by kernel_rfl) (by kernel_rfl) (by kernel_rfl) (by kernel_rfl) (fun _ => HS) ?_
          intro oi ho
          simp only [List.getElem?_toArray, List.getElem?_cons_succ, List.getElem?_cons_zero, Option.some.injEq] at ho
          subst ho
          refine ⟨?_, Or.inl ⟨by rfl, ?_⟩, fun _ _ _ h => h, ?_⟩
          rotate_left 1
          · intro W hW
            try (subst hW)
            try dsimp only at hW
            go_simp
            try with_reducible rfl
          try simp only [Act.put, List.setIfInBounds_toArray, List.set_cons_zero, List.set_cons_succ]
          refine wpT.take (i := 1) (by kernel_rfl) (by kernel_rfl) (by kernel_rfl) (by kernel_rfl) (by kernel_rfl) (fun _ => HS) ?_
          intro oi ho
          simp only [List.getElem?_toArray, List.getElem?_cons_succ, List.getElem?_cons_zero, Option.some.injEq] at ho
          subst ho
          refine ⟨?_, Or.inl ⟨by rfl, ?_⟩, fun _ _ _ h => h, ?_⟩
          rotate_left 1
          · intro W hW
            try (subst hW)
            try dsimp only at hW
            go_simp
            try with_reducible rfl
          try simp only [Act.put, List.setIfInBounds_toArray, List.set_cons_zero, List.set_cons_succ]
          refine wpT.take (i := 2) (by kernel_rfl) (by kernel_rfl) (by kernel_rfl) (by kernel_rfl) (by kernel_rfl) (fun _ => HS) ?_
          intro oi ho
          simp only [List.getElem?_toArray, List.getElem?_cons_succ, List.getElem?_cons_zero, Option.some.injEq] at ho
          subst ho
          refine ⟨?_, Or.inl ⟨by rfl, ?_⟩, fun _ _ _ h => h, ?_⟩
          rotate_left 1
          · intro W hW
            try (subst hW)
            try dsimp only at hW
            go_simp
            try with_reducible rfl
          try simp only [Act.put, List.setIfInBounds_toArray, List.set_cons_zero, List.set_cons_succ]
          refine wpT.take (i := 3) (by kernel_rfl) (by kernel_rfl) (by kernel_rfl) (by kernel_rfl) (by kernel_rfl) (fun _ => HS) ?_
          intro oi ho
          simp only [List.getElem?_toArray, List.getElem?_cons_succ, List.getElem?_cons_zero, Option.some.injEq] at ho
          subst ho
          refine ⟨?_, Or.inl ⟨by rfl, ?_⟩, fun _ _ _ h => h, ?_⟩
          rotate_left 1
          · intro W hW
            try (subst hW)
            try dsimp only at hW
            go_simp
            try with_reducible rfl
          try simp only [Act.put, List.setIfInBounds_toArray, List.set_cons_zero, List.set_cons_succ]
          refine wpT.take (i := 4) (by kernel_rfl) (by kernel_rfl) (by kernel_rfl) (by kernel_rfl) (by kernel_rfl) (fun _ => HS) ?_
          intro oi ho
          simp only [List.getElem?_toArray, List.getElem?_cons_succ, List.getElem?_cons_zero, Option.some.injEq] at ho
          subst ho
          refine ⟨?_, Or.inl ⟨by rfl, ?_⟩, fun _ _ _ h => h, ?_⟩
          rotate_left 1
          · intro W hW
            try (subst hW)
            try dsimp only at hW
            go_simp
            try with_reducible rfl
          try simp only [Act.put, List.setIfInBounds_toArray, List.set_cons_zero, List.set_cons_succ]
          refine wpT.take (i := 5) (by kernel_rfl) (by kernel_rfl) (by kernel_rfl) (by kernel_rfl) (by kernel_rfl) (fun _ => HS) ?_
          intro oi ho
          simp only [List.getElem?_toArray, List.getElem?_cons_succ, List.getElem?_cons_zero, Option.some.injEq] at ho
          subst ho
          refine ⟨?_, Or.inl ⟨by rfl, ?_⟩, fun _ _ _ h => h, ?_⟩
          rotate_left 1
          · intro W hW
            try (subst hW)
            try dsimp only at hW
            go_simp
            try with_reducible rfl
          try simp only [Act.put, List.setIfInBounds_toArray, List.set_cons_zero, List.set_cons_succ]
          refine wpT.take (i := 6) (by kernel_rfl) (by kernel_rfl) (by kernel_rfl) (by kernel_rfl) (by kernel_rfl) (fun _ => HS) ?_
          intro oi ho
          simp only [List.getElem?_toArray, List.getElem?_cons_succ, List.getElem?_cons_zero, Option.some.injEq] at ho
          subst ho
          refine ⟨?_, Or.inl ⟨by rfl, ?_⟩, fun _ _ _ h => h, ?_⟩
          rotate_left 1
          · intro W hW
            try (subst hW)
            try dsimp only at hW
            go_simp
            try with_reducible rfl
          try simp only [Act.put, List.setIfInBounds_toArray, List.set_cons_zero, List.set_cons_succ]
          refine wpT.take (i := 7) (by kernel_rfl) (by kernel_rfl) (by kernel_rfl) (by kernel_rfl) (by kernel_rfl) (fun _ => HS) ?_
          intro oi ho
          simp only [List.getElem?_toArray, List.getElem?_cons_succ, List.getElem?_cons_zero, Option.some.injEq] at ho
          subst ho
          refine ⟨?_, Or.inl ⟨by rfl, ?_⟩, fun _ _ _ h => h, ?_⟩
          rotate_left 1
          · intro W hW
            try (subst hW)
            try dsimp only at hW
            go_simp
            try with_reducible rfl
          try simp only [Act.put, List.setIfInBounds_toArray, List.set_cons_zero, List.set_cons_succ]
          refine wpT.take (i := 8) (by kernel_rfl) (by kernel_rfl) (by kernel_rfl) (by kernel_rfl) (by kernel_rfl) (fun _ => HS) ?_
          intro oi ho
          simp only [List.getElem?_toArray, List.getElem?_cons_succ, List.getElem?_cons_zero, Option.some.injEq] at ho
          subst ho
          refine ⟨?_, Or.inl ⟨by rfl, ?_⟩, fun _ _ _ h => h, ?_⟩
          rotate_left 1
          · intro W hW
            try (subst hW)
            try dsimp only at hW
            go_simp
            try with_reducible rfl
          try simp only [Act.put, List.setIfInBounds_toArray, List.set_cons_zero, List.set_cons_succ]
          refine wpT.take (i := 9) (by kernel_rfl) (by kernel_rfl) (by kernel_rfl) (by kernel_rfl) (by kernel_rfl) (fun _ => HS) ?_
          intro oi ho
          simp only [List.getElem?_toArray, List.getElem?_cons_succ, List.getElem?_cons_zero, Option.some.injEq] at ho
          subst ho
          refine ⟨?_, Or.inl ⟨by rfl, ?_⟩, fun _ _ _ h => h, ?_⟩
          rotate_left 1
          · intro W hW
            try (subst hW)
            try dsimp only at hW
            go_simp
            try with_reducible rfl
          try simp only [Act.put, List.setIfInBounds_toArray, List.set_cons_zero, List.set_cons_succ]
          refine wpT.take (i := 10) (by kernel_rfl) (by kernel_rfl) (by kernel_rfl) (by kernel_rfl) (by kernel_rfl) (fun _ => HS) ?_
          intro oi ho
          simp only [List.getElem?_toArray, List.getElem?_cons_succ, List.getElem?_cons_zero, Option.some.injEq] at ho
          subst ho
          refine ⟨?_, Or.inl ⟨by rfl, ?_⟩, fun _ _ _ h => h, ?_⟩
          rotate_left 1
          · intro W hW
            try (subst hW)
            try dsimp only at hW
            go_simp
            try with_reducible rfl
          try simp only [Act.put, List.setIfInBounds_toArray, List.set_cons_zero, List.set_cons_succ]
          refine wpT.take (i := 11) (by kernel_rfl) (by kernel_rfl) (by kernel_rfl) (by kernel_rfl) (by kernel_rfl) (fun _ => HS) ?_
          intro oi ho
          simp only [List.getElem?_toArray, List.getElem?_cons_succ, List.getElem?_cons_zero, Option.some.injEq] at ho
          subst ho
          refine ⟨?_, Or.inl ⟨by rfl, ?_⟩, fun _ _ _ h => h, ?_⟩
          rotate_left 1
          · intro W hW
            try (subst hW)
            try dsimp only at hW
            go_simp
            try with_reducible rfl
          try simp only [Act.put, List.setIfInBounds_toArray, List.set_cons_zero, List.set_cons_succ]
          refine wpT.take (i := 12) (by kernel_rfl) (by kernel_rfl) (by kernel_rfl) (by kernel_rfl) (by kernel_rfl) (fun _ => HS) ?_
          intro oi ho
          simp only [List.getElem?_toArray, List.getElem?_cons_succ, List.getElem?_cons_zero, Option.some.injEq] at ho
          subst ho
          refine ⟨?_, Or.inl ⟨by rfl, ?_⟩, fun _ _ _ h => h, ?_⟩
          rotate_left 1
          · intro W hW
            try (subst hW)
            try dsimp only at hW
            go_simp
            try with_reducible rfl
          try simp only [Act.put, List.setIfInBounds_toArray, List.set_cons_zero, List.set_cons_succ]
          refine wpT.take (i := 13) (by kernel_rfl) (by kernel_rfl) (by kernel_rfl) (by kernel_rfl) (by kernel_rfl) (fun _ => HS) ?_
          intro oi ho
          simp only [List.getElem?_toArray, List.getElem?_cons_succ, List.getElem?_cons_zero, Option.some.injEq] at ho
          subst ho
          refine ⟨?_, Or.inl ⟨by rfl, ?_⟩, fun _ _ _ h => h, ?_⟩
          rotate_left 1
          · intro W hW
            try (subst hW)
            try dsimp only at hW
            go_simp
            try with_reducible rfl
          try simp only [Act.put, List.setIfInBounds_toArray, List.set_cons_zero, List.set_cons_succ]
          refine wpT.take (i := 14) (by kernel_rfl) (by kernel_rfl) (by kernel_rfl) (by kernel_rfl) (by kernel_rfl) (fun _ => HS) ?_
          intro oi ho
          simp only [List.getElem?_toArray, List.getElem?_cons_succ, List.getElem?_cons_zero, Option.some.injEq] at ho
          subst ho
          refine ⟨?_, Or.inl ⟨by rfl, ?_⟩, fun _ _ _ h => h, ?_⟩
          rotate_left 1
          · intro W hW
            try (subst hW)
            try dsimp only at hW
            go_simp
            try with_reducible rfl
          try simp only [Act.put, List.setIfInBounds_toArray, List.set_cons_zero, List.set_cons_succ]
          refine wpT.take (i := 16) (by kernel_rfl) (by kernel_rfl) (by kernel_rfl) (by kernel_rfl) (by kernel_rfl) (fun _ => HS) ?_
          intro oi ho
          simp only [List.getElem?_toArray, List.getElem?_cons_succ, List.getElem?_cons_zero, Option.some.injEq] at ho
          subst ho
          refine ⟨?_, Or.inl ⟨by rfl, ?_⟩, fun _ _ _ h => h, ?_⟩
          rotate_left 1
          · intro W hW
            try (subst hW)
            try dsimp only at hW
            go_simp
            try with_reducible rfl
          try simp only [Act.put, List.setIfInBounds_toArray, List.set_cons_zero, List.set_cons_succ]
          refine wpT.take (i := 17) (by kernel_rfl) (by kernel_rfl) (by kernel_rfl) (by kernel_rfl) (by kernel_rfl) (fun _ => HS) ?_
          intro oi ho
          simp only [List.getElem?_toArray, List.getElem?_cons_succ, List.getElem?_cons_zero, Option.some.injEq] at ho
          subst ho
          refine ⟨?_, Or.inl ⟨by rfl, ?_⟩, fun _ _ _ h => h, ?_⟩
          rotate_left 1
          · intro W hW
            try (subst hW)
            try dsimp only at hW
            go_simp
            try with_reducible rfl
          try simp only [Act.put, List.setIfInBounds_toArray, List.set_cons_zero, List.set_cons_succ]
          refine wpT.take (i := 18) (by kernel_rfl) (by kernel_rfl) (by kernel_rfl) (by kernel_rfl) (by kernel_rfl) (fun _ => HS) ?_
          intro oi ho
          simp only [List.getElem?_toArray, List.getElem?_cons_succ, List.getElem?_cons_zero, Option.some.injEq] at ho
          subst ho
          refine ⟨?_, Or.inl ⟨by rfl, ?_⟩, fun _ _ _ h => h, ?_⟩
          rotate_left 1
          · intro W hW
            try (subst hW)
            try dsimp only at hW
            go_simp
            try with_reducible rfl
          try simp only [Act.put, List.setIfInBounds_toArray, List.set_cons_zero, List.set_cons_succ]
          refine wpT.take (i := 19) (by kernel_rfl) (by kernel_rfl) (by kernel_rfl) (by kernel_rfl) (by kernel_rfl) (fun _ => HS) ?_
          intro oi ho
          simp only [List.getElem?_toArray, List.getElem?_cons_succ, List.getElem?_cons_zero, Option.some.injEq] at ho
          subst ho
          refine ⟨?_, Or.inl ⟨by rfl, ?_⟩, fun _ _ _ h => h, ?_⟩
          rotate_left 1
          · intro W hW
            try (subst hW)
            try dsimp only at hW
            go_simp
            try with_reducible rfl
          try simp only [Act.put, List.setIfInBounds_toArray, List.set_cons_zero, List.set_cons_succ]
          refine wpT.take (i := 20) (by kernel_rfl) (by kernel_rfl) (by kernel_rfl) (by kernel_rfl) (by kernel_rfl) (fun _ => HS) ?_
          intro oi ho
          simp only [List.getElem?_toArray, List.getElem?_cons_succ, List.getElem?_cons_zero, Option.some.injEq] at ho
          subst ho
          refine ⟨?_, Or.inl ⟨by rfl, ?_⟩, fun _ _ _ h => h, ?_⟩
          rotate_left 1
          · intro W hW
            try (subst hW)
            try dsimp only at hW
            go_simp
            try with_reducible rfl
          try simp only [Act.put, List.setIfInBounds_toArray, List.set_cons_zero, List.set_cons_succ]
          refine wpT.take (i := 21) (by kernel_rfl) (by kernel_rfl) (by kernel_rfl) (by kernel_rfl) (by kernel_rfl) (fun _ => HS) ?_
          intro oi ho
          simp only [List.getElem?_toArray, List.getElem?_cons_succ, List.getElem?_cons_zero, Option.some.injEq] at ho
          subst ho
          refine ⟨?_, Or.inl ⟨by rfl, ?_⟩, fun _ _ _ h => h, ?_⟩
          rotate_left 1
          · intro W hW
            try (subst hW)
            try dsimp only at hW
            go_simp
            try with_reducible rfl
          try simp only [Act.put, List.setIfInBounds_toArray, List.set_cons_zero, List.set_cons_succ]
          refine wpT.take (i := 22) (by kernel_rfl) (by kernel_rfl) (by kernel_rfl) (by kernel_rfl) (by kernel_rfl) (fun _ => HS) ?_
          intro oi ho
          simp only [List.getElem?_toArray, List.getElem?_cons_succ, List.getElem?_cons_zero, Option.some.injEq] at ho
          subst ho
          refine ⟨?_, Or.inl ⟨by rfl, ?_⟩, fun _ _ _ h => h, ?_⟩
          rotate_left 1
          · intro W hW
            try (subst hW)
            try dsimp only at hW
            go_simp
            try with_reducible rfl
          try simp only [Act.put, List.setIfInBounds_toArray, List.set_cons_zero, List.set_cons_succ]
          refine wpT.one (i := 15) (by kernel_rfl) ?_
          intro oi ho
          simp only [List.getElem?_toArray, List.getElem?_cons_succ, List.getElem?_cons_zero, Option.some.injEq] at ho
          subst ho
          intro K' hK
          have HK := Lib.hid hK
          clear hK
          clear HS
          go_simp
          go_at_call 13
          refine (SD.out.made (moved13 x hx0 (by omega) f.l _ _ (T1.out.kept SD.out.bel).at (lowt_of_ok HO1.out) (thin_of_ok HO1.out))).mono ?_
          rintro e w12 ⟨k4, s4, rfl, hz4, S4⟩
          have hz4 : wr.heap.size ≤ w12.heap.size := hz4
          dsimp only
          have HS := And.intro (And.intro (S4.one 5).1 (S4.one 1).1) (FC.out _ S4.bel)
          refine HK.out _ _ (fun _ => HS) ?_
          try simp only [Act.put, List.setIfInBounds_toArray, List.set_cons_zero, List.set_cons_succ]
          refine wpT.one (i := 23) (by kernel_rfl) ?_
          intro oi ho
          simp only [List.getElem?_toArray, List.getElem?_cons_succ, List.getElem?_cons_zero, Option.some.injEq] at ho
          subst ho
          intro K' hK
          have HK := Lib.hid hK
          clear hK
          clear HS
          go_simp
          go_at_call 13
          refine (S4.made (moved13 x hx0 (by omega) f.r _ _ (T2.out.kept S4.bel).at (lowt_of_ok HO2.out) (thin_of_ok HO2.out))).mono ?_
          rintro e w13 ⟨k5, s5, rfl, hz5, S5⟩
          dsimp only
          have HS := And.intro (And.intro (S5.one 5).1 (S5.one 1).1) (FC.out _ S5.bel)
          refine HK.out _ _ (fun _ => HS) ?_
          try simp only [Act.put, List.setIfInBounds_toArray, List.set_cons_zero, List.set_cons_succ]
          refine wpT.take (i := 24) (by kernel_rfl) (by kernel_rfl) (by kernel_rfl) (by kernel_rfl) (by kernel_rfl) (fun _ => HS) ?_
          intro oi ho
          simp only [List.getElem?_toArray, List.getElem?_cons_succ, List.getElem?_cons_zero, Option.some.injEq] at ho
          subst ho
          refine ⟨?_, Or.inl ⟨by rfl, ?_⟩, fun _ _ _ h => h, ?_⟩
          rotate_left 1
          · intro W hW
            try (subst hW)
            try dsimp only at hW
            go_simp
            try with_reducible rfl
          try simp only [Act.put, List.setIfInBounds_toArray, List.set_cons_zero, List.set_cons_succ]
          refine wpT.one (i := 25) (by kernel_rfl) ?_
          intro oi ho
          simp only [List.getElem?_toArray, List.getElem?_cons_succ, List.getElem?_cons_zero, Option.some.injEq] at ho
          subst ho
          intro K' hK
          have HK := Lib.hid hK
          clear hK
          clear HS
          go_simp
          have SA := S5.alloc (.cells #[.bool f.neg, .int .i64 (shT x f.l).head, .slice k4 (shT x f.l).kids.length ((shT x f.l).kids.length + s4), .int .i64 (shT x f.r).head, .slice k5 (shT x f.r).kids.length ((shT x f.r).kids.length + s5)] 47)
          have HS := And.intro (And.intro (SA.one 5).1 (SA.one 1).1) (FC.out _ SA.bel)
          refine HK.out _ _ (fun _ => HS) ?_
          try simp only [Act.put, List.setIfInBounds_toArray, List.set_cons_zero, List.set_cons_succ]
          refine wpT.one (i := 26) (by kernel_rfl) ?_
          intro oi ho
          simp only [List.getElem?_toArray, List.getElem?_cons_succ, List.getElem?_cons_zero, Option.some.injEq] at ho
          subst ho
          intro K' hK
          have HK := Lib.hid hK
          clear hK
          clear HS
          refine step_app (by rfl) (.tmp 55) (.tmp 79) 35 (by rfl) factE S5 6 rfl (x := ⟨f.neg, shT x f.l, shT x f.r⟩) (q := fun b => wr.heap.size ≤ b ∧ b < w13.heap.size) (p' := fun b => b9 + 1 ≤ b) ⟨k4, s4, k5, s5, rfl, (S5.tree 7).mono (fun b h _ => ⟨h.1, by have := h.2; omega⟩), (S5.tree 8).mono (fun b h _ => ⟨by have h1 : w12.heap.size ≤ b := h.1; omega, h.2⟩)⟩ Tryd.underlying35 gi gz0 gz1 gz2 (by rfl) (by rfl) (by rfl) (by rfl) (by unfold maxLen; omega) (by have := HN6.out; omega) (by have := HZ.out; omega) (by have := HB9.out; have := HB8.out; have := HB6.out; have := HBX.out; omega)
            (fun bb h1 h2 h3 => by
              have h4 : bb < wr.heap.size := (SD.out.ownlt factE 6 rfl bb h1).2
              have h5 := HB9.out; have h6 := HB8.out; have h7 := HB6.out; have h8 := HBX.out
              simp only [fsnoc, offs, offAll, Fct.box, Fct.rowE, Fct.tree, and_true]
              refine ⟨fun h => by have := HP.out _ h; omega, by omega, by omega, by omega, by omega, by omega, by omega, by omega⟩)
            (fun bb h1 h2 => by have h4 : bb < wr.heap.size := (SD.out.ownlt factE 6 rfl bb h2).2; have h5 := h1.1; omega) (fun bb h1 => by have := HZ.out; rcases h1 with h1 | h1; exact h1; have h5 := h1.1; omega) ?_
          intro gg cap w14 S6 hs6 hgg hat6
          have HS := And.intro (And.intro (S6.one 5).1 (S6.one 1).1) (FC.out _ S6.bel)
          refine HK.out _ _ (fun _ => HS) ?_
          try simp only [Act.put, List.setIfInBounds_toArray, List.set_cons_zero, List.set_cons_succ]
          refine wpT.take (i := 27) (by kernel_rfl) (by kernel_rfl) (by kernel_rfl) (by kernel_rfl) (by kernel_rfl) (fun _ => HS) ?_
          intro oi ho
          simp only [List.getElem?_toArray, List.getElem?_cons_succ, List.getElem?_cons_zero, Option.some.injEq] at ho
          subst ho
          refine ⟨?_, Or.inl ⟨by rfl, ?_⟩, fun _ _ _ h => h, ?_⟩
          rotate_left 1
          · intro W hW
            try (subst hW)
            try dsimp only at hW
            go_simp
            try with_reducible rfl
          obtain ⟨u0, u1⟩ := S6.one 5
          try simp only [Act.put, List.setIfInBounds_toArray, List.set_cons_zero, List.set_cons_succ]
          refine wpT.one (i := 28) (by kernel_rfl) ?_
          intro oi ho
          simp only [List.getElem?_toArray, List.getElem?_cons_succ, List.getElem?_cons_zero, Option.some.injEq] at ho
          subst ho
          intro K' hK
          have HK := Lib.hid hK
          clear hK
          go_simp
          refine HK.out _ _ (fun h => absurd h (by decide)) ?_
          try simp only [Act.put, List.setIfInBounds_toArray, List.set_cons_zero, List.set_cons_succ]
          refine wpT.done (by kernel_rfl) ?_
          have S7 := (S6.set1 5 rfl (.slice (some ⟨gg, 0, none⟩) ((mvC x (fs.take k)).length + 1) cap) (by have := HB9.out; have := HB8.out; have := HB6.out; have := HBX.out; omega) (by
            have h5 := HB9.out; have h6 := HB8.out; have h7 := HB6.out; have h8 := HBX.out; have h9 := HZ.out
            simp only [fset, fsnoc, offs, offAll, Fct.box, Fct.rowE, Fct.tree, Fct.owns, and_true]
            refine ⟨fun h => by have := HP.out _ h; omega, by omega, by omega, by omega, by omega, fun e => ?_, by omega, by omega⟩
            rcases e with e | e
            · have h8 := (S6.ownlt factE 6 rfl b9 e).1; omega
            · omega)).pick [0, 1, 2, 3, 4, 5, 6]
          rw [← HMT.out, hlk] at S7
          have S8 := Lib.hid S7
          have hz8 : b9 + 1 ≤ (w14.setCell ⟨b9, 0, none⟩ (.slice (some ⟨gg, 0, none⟩) (k + 1) cap)).heap.size := by have := HZ.out; simp; omega
          clear S7 S6 S5 S4 SA HS u0 u1
          try rw [hlk]
          go_wp2_with fail
          go_roundw
          case rel => exact ⟨k + 1, _, by omega, by go_num, hz8, S8.out⟩
          case measure => simp [intOf] <;> omega
        · obtain rfl : k = n := by omega
          have et : fs.take k = fs := by rw [HN.out, List.take_length]
          rw [et] at S
          have HML := Lib.hid (show (mvC x fs).length = k by rw [HN.out]; simp [mvC])
          obtain ⟨mo, msp, rfl, hrow, hml2⟩ := (S.owns factE 6).row (fun b h => h)
          rw [HML.out] at S
          have HND := Lib.hid (norm9 (mvC x fs) D (fun b => b < wr.heap.size) wr mo msp k HMF.out HMR.out HML.out (fun c h => h) (hrow.keep (fun b h hl => ⟨rfl, hl⟩)))
          have SB := Lib.hid (show St w wr [.rowE factE p ao fs, .box bx #[.slice ao k (k + sp)] 37, .rowE factE (fun c => w2.heap.size ≤ c ∧ c < b6) ro D, .box b6 #[.slice ro k (k + rsp)] 37, .box (b6 + 1) #[.int .i64 0, .int .i64 0] 28, .box b9 #[.slice mo k (k + msp)] 37] from S.pick [0, 1, 2, 3, 4, 5])
          obtain ⟨x0, _⟩ := S.one 1
          obtain ⟨u0, _⟩ := S.one 5
          have HZ := Lib.hid z11
          clear S hrow et
          go_upto_region 17 with fail
          go_wp2_with fail
          refine (HND.out).mono ?_
          rintro e w15 ⟨ro3, rsp3, rfl, hrow, hb5⟩
          have S5 := (SB.out.step hb5).add (.rowE factE (fun c => wr.heap.size ≤ c ∧ c < w15.heap.size) ro3 D) hrow
          obtain ⟨b11, hb11⟩ : ∃ b, b = w15.heap.size := ⟨_, rfl⟩
          rw [← hb11] at S5
          have S6 := S5.box hb11.symm #[.slice ro3 k (k + rsp3)] 37
          have HB11 := Lib.hid (show b9 + 1 ≤ wr.heap.size ∧ wr.heap.size ≤ b11 by have := hb5.size; have := HZ.out; omega)
          have S7 := S6.set2 4 rfl (.int .i64 0) (.int .i64 0) (by have := HBX.out; have := HB6.out; omega) (by
            have h1 := HBX.out; have h2 := HB6.out; have h3 := HB8.out; have h4 := HB9.out; have h5 := HB11.out
            simp only [fsnoc, offs, offAll, Fct.box, Fct.rowE, and_true]
            refine ⟨fun h => by have := HP.out _ h; omega, by omega, by omega, by omega, by omega, by omega, by omega⟩)
          clear x0 u0
          obtain ⟨⟨t0, t1⟩, t2, t3⟩ := S6.two 4
          have hz7 : (((w15.alloc (.cells #[.slice ro3 k (k + rsp3)] 37)).setCell ⟨b6 + 1, 0, none⟩ (.int .i64 0)).setCell ⟨b6 + 1, 1, none⟩ (.int .i64 0)).heap.size = b11 + 1 := by simp [hb11]
          clear S5 S6 hrow hb5 SB HND
          go_upto_region 18 with fail
          rw [← hb11]
          refine S7.genC (z := b11 + 1) (by omega) ?_
          clear S7 hz7 hb11 t0 t1 t2 t3
          intro w16 z16 S
          have HSC : Hid (Calls Tryd.prog 10 #[.agg #[.slice ro k (k + rsp)], .agg #[.slice ro3 k (k + rsp3)]] w16 fun e w' => e = .returned (.bool true) ∧ Below w16.heap.size w16 w') := by
            have h := sameClaim20 D D _ _ ro ro3 (k + rsp) (k + rsp3) w16 (S.rowE factE 2 rfl) (S.rowE factE 6 rfl) (by rw [HDL.out]; have := HN6.out; omega) (by rw [HDL.out]; have := HN6.out; omega)
            rw [HDL.out, show decide (D = D) = true by simp] at h
            exact Lib.hid h
          obtain ⟨y0, _⟩ := S.one 3
          obtain ⟨⟨t0, _⟩, t2, _⟩ := S.two 4
          obtain ⟨v0, _⟩ := S.one 7
          have HS6 := Lib.hid S
          clear S
          go_wp2_with fail
          refine (HS6.out.quiet (HSC.out)).mono ?_
          rintro e w17 ⟨rfl, z17, S⟩
          have HBE := Lib.hid S.bel
          clear S HS6 HSC y0 t0 t2 v0
          go_wp2_with fail
          go_ret
          exact ⟨by simp, HBE.out⟩
    · have hinb : decide (0 ≤ x ∧ x ≤ 8 - m) = false := by simpa using hin
      rw [hinb]
      have HBE := Lib.hid HS8.out.bel
      clear hin hinb
      go_wp2_with fail
      go_ret
      exact ⟨by simp, HBE.out⟩
  · obtain ⟨c, hc⟩ : ∃ c, c = formF fs := ⟨_, rfl⟩
    have hcb : (c != 0) = true := by rw [hc]; simpa using hF
    have HC := Lib.hid hc
    have HO := Lib.hid (show normO fs = [] by unfold normO; rw [if_neg hF])
    have HNO := norm17g fs p w2 ao sp (fun c h => Nat.lt_of_lt_of_le (HP.out c h) HS2.out.bel.size) (HR.out.kept HS2.out.bel) hn
    rw [HO.out, ← hc, ← HN.out] at HNO
    simp only [List.length_nil, Nat.zero_add] at HNO
    have HNO := Lib.hid HNO
    clear hF hc
    go_upto_region 4 with fail
    go_wp2_with fail
    refine (HNO.out).mono ?_
    rintro e w3 ⟨ro, rsp, rfl, hrow, hb3⟩
    have S3 := HS2.out.step hb3
    obtain ⟨b6, hb6⟩ : ∃ b, b = w3.heap.size := ⟨_, rfl⟩
    have S4 := (S3.box hb6.symm #[.slice ro 0 rsp] 37).box (b := b6 + 1) (by simp [hb6]) #[.int .i64 c, .int .i64 0] 28
    have hz4 : ((w3.alloc (.cells #[.slice ro 0 rsp] 37)).alloc (.cells #[.int .i64 c, .int .i64 0] 28)).heap.size = b6 + 2 := by simp [hb6]
    clear S3 hrow hb3 y0 HS2 HNO
    go_upto_region 5 with fail
    rw [← hb6]
    refine S4.genC (z := b6 + 2) (by omega) ?_
    clear S4 hz4 hb6
    intro w4 z4 S
    obtain ⟨y0, y1⟩ := S.one 2
    obtain ⟨⟨t0, t1⟩, t2, t3⟩ := S.two 3
    have HBE := Lib.hid S.bel
    clear S
    go_wp2_with fail
    go_ret
    exact ⟨by simp, HBE.out⟩
end Go.Proofs.YtidgnbdlfngeaaaDoor
