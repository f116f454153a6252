/-
  Walk: pat.patterns.
-/
import Derived.Test.YtlhnfdjidjgfgaaProg
import Derived.Test.YtlhnfdjidjgfgaaPb2
import Derived.Test.YtlhnfdjidjgfgaaPb3
import Derived.Test.YtlhnfdjidjgfgaaT25
import Derived.Test.YtlhnfdjidjgfgaaNk3
import Derived.Test.YtlhnfdjidjgfgaaPa2
import Derived.RegionTactic
namespace Go.Proofs.Ytlhnfdjidjgfgaa
open Go.RowKit Go.Shelf Go.Maps
set_option linter.unusedVariables false
set_option maxHeartbeats 400000
attribute [local go_sem] Oper.semAt_some

set_option maxRecDepth 100000 in
set_option maxHeartbeats 8000000 in
theorem patterns130 (fs : List Fc) (p : Nat → Prop) (ao : Option Addr) (sp : Nat) (w : World) (hp : ∀ c, p c → c < w.heap.size) (h : factE.Row p w ao fs) (hn : fs.length ≤ 1000) (hz : sizeL (treesF fs) ≤ 1000000) (hd : ∀ t ∈ treesF fs, t.deep ≤ 100000 ∧ ∀ x ∈ t.pre, okN x) :
    Calls Try.prog 130 #[.agg #[.slice ao fs.length (fs.length + sp)]] w fun e w' => ∃ o, e = .returned o ∧ treeE.Own p w.heap.size w' o (patF fs) ∧ Below w.heap.size w w' := by
  have HR := Lib.hid h; have HP := Lib.hid hp; have HD := Lib.hid hd
  obtain ⟨bx, hbx⟩ : ∃ b, b = w.heap.size := ⟨_, rfl⟩
  have S1 := (St.start w).box hbx.symm #[.slice ao fs.length (fs.length + sp)] 41
  have hsz1 : (w.alloc (.cells #[.slice ao fs.length (fs.length + sp)] 41)).heap.size = bx + 1 := by simp [hbx]
  clear h hp hd
  refine (callsIn_wide (n := 4)).1 ?_
  refine callsIn_of_wp_marks Try.func130 rfl trivial ?_ rfl
  simp only [Try.ntmps130, List.size_toArray, List.length_cons, List.length_nil, Nat.reduceAdd, Nat.reduceSub, Array.replicate_succ, Array.replicate_zero, List.push_toArray, List.append_toArray, List.nil_append, List.cons_append]
  refine wpIn_wide.2 ?_
  go_wp2_with fail
  rw [← hbx]
  have HBX := Lib.hid (show w.heap.size ≤ bx ∧ bx ≤ w.heap.size by omega)
  refine S1.gen (z := bx + 1) (by omega) ?_
  clear S1 hbx hsz1
  intro w1 z1 S
  refine (terms150 fs p ao _ w1 (fun c hc => by have := HP.out c hc; have := HBX.out; omega) (HR.out.kept S.bel) hn).mono ?_
  rintro e w2 ⟨o1, rfl, ho1, hb2⟩
  obtain ⟨ao1, sp1, rfl, hr1, _⟩ := ho1.rowQ
  have S2 := S.step hb2
  have HR1 := Lib.hid (RowAt.of_rowE hr1.row)
  have HTL := Lib.hid (treesF_len fs)
  have HSZ := Lib.hid (fun i (hi : i < (treesF fs).length) => show (gK (treesF fs) i).size ≤ 1000000 ∧ (gK (treesF fs) i).deep ≤ 100000 ∧ ∀ x ∈ (gK (treesF fs) i).pre, okN x from
    ⟨Nat.le_trans (sizeL_elem hi) hz, by rw [gK_get hi]; exact HD.out _ (List.getElem_mem hi)⟩)
  have z2 := hb2.size
  have HLN := Lib.hid (show (treesF fs).length ≤ 1000000 by rw [HTL.out]; omega)
  clear S ho1 hr1 hb2
  go_wp2_with fail
  refine (vars149 (treesF fs) ao1 _ w2 HR1.out HLN.out hz HSZ.out).mono ?_
  rintro e w3 ⟨bm, rfl, hmc, hb3⟩
  have S3 := S2.step hb3
  have hlen := fun ty => hmc.len ty
  obtain ⟨n, hnn⟩ : ∃ n, n = (orderL (treesF fs) []).length := ⟨_, rfl⟩
  rw [← hnn] at hlen
  have HN := Lib.hid hnn
  obtain ⟨b3, hb3e⟩ : ∃ b, b = w3.heap.size := ⟨_, rfl⟩
  have S4 := (S3.box hb3e.symm #[.int .i64 (n : Int)] 3).box (b := b3 + 1) (by simp [hb3e]) #[.slice none 0 0] 32
  have hsz4 : ((w3.alloc (.cells #[.int .i64 (n : Int)] 3)).alloc (.cells #[.slice none 0 0] 32)).heap.size = b3 + 2 := by simp [hb3e]
  have z3 := hb3.size
  have hbx3 : bx + 1 ≤ b3 := by omega
  clear S2 S3 hmc hb3 hnn
  obtain ⟨x0, _⟩ := S4.one 0
  go_wp2_with fail
  rw [← hb3e]
  refine S4.gen (z := b3 + 2) (by omega) ?_
  clear S4 hb3e hsz4 hlen z2 z3 x0
  intro w4 z4 S
  have HX3 := Lib.hid hbx3
  refine (terms150 fs p ao _ w4 (fun c hc => by have := HP.out c hc; have := HBX.out; omega) (HR.out.kept S.bel) hn).mono ?_
  rintro e w5 ⟨o2, rfl, ho2, hb5⟩
  obtain ⟨ao2, sp2, rfl, hr2, _⟩ := ho2.rowQ
  have S2 := S.step hb5
  obtain ⟨H, hH⟩ : ∃ H, H = w5.heap.size := ⟨_, rfl⟩
  have SR := (S2.add (.owns treeE H p (.slice none 0 0) []) (Elt.Own.nil _ _ _ _)).add (.rowQ treeE (fun b => b3 + 2 ≤ b ∧ b < H) p ao2 (treesF fs)) (hr2.keep (fun b h h2 => ⟨rfl, by have := h.1; omega, by omega⟩) (fun b h h2 => ⟨rfl, h⟩))
  have S3 := SR.add (.marks w.heap.size []) (Marks.nil _ _)
  have z5 : b3 + 2 ≤ H := by have := hb5.size; omega
  have zH : H ≤ w5.heap.size := by omega
  clear S ho2 hr2 hb5 z4 S2 SR hH
  have hl3 : ((treesF fs).length : Int) ≤ 9223372036854775807 := by have := HLN.out; omega
  have HZ5 := Lib.hid z5
  go_wp2_with fail
  obtain ⟨ts, hts⟩ : ∃ ts, ts = treesF fs := ⟨_, rfl⟩
  rw [← hts] at S3 hl3 hz HTL HSZ HLN HN HD HR1 ⊢
  have HTS := Lib.hid hts
  clear hts HR1
  refine wp_loop (fun a W => ∃ (k : Nat) (ds : List Nat) (L : List T) (ov z6 z17 z18 z19 z20 z21 z47 : Value), k ≤ ts.length ∧
      a = { tmps := #[.agg #[.slice ao fs.length (fs.length + sp)], .pointer (some ⟨bx, 0, none⟩), .slice none 0 0, .pointer (some ⟨b3, 0, none⟩), .pointer (some ⟨b3 + 1, 0, none⟩), undef, z6, undef, undef, .agg #[.slice ao fs.length (fs.length + sp)], .slice ao1 ts.length (ts.length + sp1), .map (some bm), .int .i64 (n : Int), .agg #[.slice ao fs.length (fs.length + sp)], .slice ao2 ts.length (ts.length + sp2), .int .i64 (ts.length : Int), .int .i64 (k : Int), z17, z18, z19, z20, z21, undef, undef, undef, undef, undef, undef, undef, undef, undef, undef, undef, undef, undef, undef, undef, undef, undef, undef, undef, undef, undef, undef, undef, undef, undef, z47, undef], defers := ds.map mark } ∧
      Hid (L = (preL (ts.take k)).foldl (patStep n) []) ∧ (L = [] → ov = .slice none 0 0) ∧ H ≤ W.heap.size ∧
      St w W [.box bx #[.slice ao fs.length (fs.length + sp)] 41, .box b3 #[.int .i64 (n : Int)] 3, .box (b3 + 1) #[ov] 32, .owns treeE H p ov L, .rowQ treeE (fun b => b3 + 2 ≤ b ∧ b < H) p ao2 ts, .marks w.heap.size ds]) (fun a _ => ts.length - (intOf (a.tmps.getD 16 undef)).toNat) ?start ?round
  case start => exact ⟨0, [], [], _, _, _, _, _, _, _, _, by omega, rfl, Lib.hid rfl, fun _ => rfl, zH, S3⟩
  case round =>
    clear S3 zH
    rintro a W ⟨k, ds, L, ov, z6, z17, z18, z19, z20, z21, z47, hk, rfl, HL, hnil, zW, S⟩
    have HNL := Lib.hid hnil
    clear hnil
    by_cases hlt : k < ts.length
    · have hlti : (k : Int) < (ts.length : Int) := by omega
      obtain ⟨b, off, ko, ksp, rfl, _, c0, c1, ht⟩ := (S.rowQ treeE 4).tree hlt
      have HSK := Lib.hid (HSZ.out k hlt)
      have HTK := Lib.hid (preL_take hlt)
      have HST := Lib.hid (show sizeL (ts.take k) + (gK ts k).size ≤ 1000000 by have h1 := sizeL_take hlt; have h2 := sizeL_take_le ts (k + 1); omega)
      have HT := Lib.hid (ht.before HP.out S.bel).at
      have HTP := Lib.hid (ht.before HP.out S.bel)
      clear ht
      generalize gK ts k = x at c0 c1 HSK HTK HST HT HTP ⊢
      obtain ⟨bq, hbq⟩ : ∃ b, b = W.heap.size := ⟨_, rfl⟩
      have S4 := S.box hbq.symm #[.int .i64 x.head, .slice ko x.kids.length (x.kids.length + ksp)] 38
      have hsz4 : (W.alloc (.cells #[.int .i64 x.head, .slice ko x.kids.length (x.kids.length + ksp)] 38)).heap.size = bq + 1 := by simp [hbq]
      have HBQ := Lib.hid (show H ≤ bq by omega)
      clear S zW
      go_wp2_with fail
      rw [← hbq]
      refine S4.gen (z := bq + 1) (by omega) ?_
      clear S4 hbq hsz4 c0 c1
      intro w6 z6' S
      refine (nodes48 (.agg #[.int .i64 x.head, .slice ko x.kids.length (x.kids.length + ksp)]) x w6 (HT.out.kept S.bel)).mono ?_
      rintro e w7 ⟨rfl, hw7⟩
      replace hw7 : w7 = w6.alloc (.cells #[.int .i64 x.head, .slice ko x.kids.length (x.kids.length + ksp)] 38) := hw7
      obtain ⟨bk, hbk⟩ : ∃ b, b = w6.heap.size := ⟨_, rfl⟩
      have S5 := S.box hbk.symm #[.int .i64 x.head, .slice ko x.kids.length (x.kids.length + ksp)] 38
      rw [← hw7] at S5
      have hs7 : bk + 1 ≤ w7.heap.size ∧ w7.heap.size ≤ bk + 1 := by rw [hw7, hbk]; simp
      have HBK := Lib.hid (show bq + 1 ≤ bk by omega)
      rw [← hbk]
      clear hw7 hbk S z6'
      go_wp2_with fail
      have hk7 := S5.block 7
      have hbel := S5.bel
      have hq1 := HBQ.out
      have hq2 := HBK.out
      have hq3 := HZ5.out
      have hq4 := HX3.out
      have hq5 := HBX.out
      have HK7 := Lib.hid hk7
      have SX := Lib.hid S5
      have hlL : L.length ≤ sizeL (ts.take k) := by
        rw [HL.out]
        have h1 := patFold_len n (preL (ts.take k)) []
        have h2 := preL_len (ts.take k)
        simp at h1; omega
      have HLL := Lib.hid hlL
      have HOK := Lib.hid HSK.out.2.2
      have HXS := Lib.hid HSK.out.1
      have HXD := Lib.hid HSK.out.2.1
      have S6 := S5.pick [1, 2, 3, 5, 4, 0]
      have S6 : St w w7 [.box b3 #[.int .i64 (n : Int)] 3, .box (b3 + 1) #[ov] 32, .owns treeE H p ov L, .marks w.heap.size ds, .rowQ treeE (fun b => b3 + 2 ≤ b ∧ b < H) p (some ⟨b, off, none⟩) ts, .box bx #[.slice ao fs.length (fs.length + sp)] 41] := S6
      have hmk := S6.marks 3
      have hmD : ∀ D ∈ ds, D < w7.heap.size := fun D hD => (Array.getElem?_eq_some_iff.1 (hmk.2 D hD).2).1
      have HMD := Lib.hid hmD
      have hGF : ∀ (pre : List (NY p w x)) (o' : Value), ((pre.map (·.t)).foldl (patStep n) L = [] → o' = .slice none 0 0) → ∀ f ∈ ([.box b3 #[.int .i64 (n : Int)] 3, .box (b3 + 1) #[o'] 32, .owns treeE H p o' ((pre.map (·.t)).foldl (patStep n) L), .marks w.heap.size ds, .rowQ treeE (fun b => b3 + 2 ≤ b ∧ b < H) p (some ⟨b, off, none⟩) ts, .box bx #[.slice ao fs.length (fs.length + sp)] 41] : List Fct), GoodF w7.heap.size f := by
        intro pre o' _ f hf
        simp only [List.mem_cons, List.not_mem_nil, or_false] at hf
        rcases hf with rfl | rfl | rfl | rfl | rfl | rfl
        · exact GoodF.box _ _ _ _
        · exact GoodF.box _ _ _ _
        · exact GoodF.owns treeE (fun b hb => by have := HP.out b hb; omega)
        · exact GoodF.below (fun b hb => hmD b hb)
        · exact GoodF.below (fun b hb => by rcases hb with hb | hb; omega; have := HP.out b hb; omega)
        · exact GoodF.box _ _ _ _
      clear S5 hk7 hmk
      refine (wpIn_wide (n := 4)).1 ?_
      refine wpIn_rangeFunc_ownH rfl (by omega) (gf := 123) (lb := #[.pointer (some ⟨bk, 0, none⟩)]) rfl trivial (enters_of Try.func123 (by kernel_rfl) rfl)
        (nodes_stopsM p w bq bk x ko ksp w7 (by have := HXS.out; omega) HXD.out (by omega) hbel (by omega) HTP.out HK7.out) (fun h k => KpM.trans h k) (KpM.putObj hbel.size) (Below.refl _ _) (fun _ => rfl)
        (fun pre V => ∃ o', St w V [.box b3 #[.int .i64 (n : Int)] 3, .box (b3 + 1) #[o'] 32, .owns treeE H p o' ((pre.map (·.t)).foldl (patStep n) L), .marks w.heap.size ds, .rowQ treeE (fun b => b3 + 2 ≤ b ∧ b < H) p (some ⟨b, off, none⟩) ts, .box bx #[.slice ao fs.length (fs.length + sp)] 41] ∧ ((pre.map (·.t)).foldl (patStep n) L = [] → o' = .slice none 0 0) ∧ w7.heap.size ≤ V.heap.size)
        (fun _ _ _ => False)
        (ownFrom_St (by omega) (fun _ => trivial) (fun (pre : List (NY p w x)) o' => ((pre.map (·.t)).foldl (patStep n) L = [] → o' = .slice none 0 0)) _ hGF _)
        (fun _ _ _ _ _ hs _ _ => hs)
        ⟨ov, S6, HNL.out, Nat.le_refl _⟩
        (fun y a' V => ∃ Bx : Nat, V.heap[Bx]? = some (.cells #[.int .i64 y.t.head, .slice y.ao y.t.kids.length (y.t.kids.length + y.sp)] 38 (0, 0)) ∧ a' = { tmps := #[.agg #[.slice ao fs.length (fs.length + sp)], .pointer (some ⟨bx, 0, none⟩), .slice none 0 0, .pointer (some ⟨b3, 0, none⟩), .pointer (some ⟨b3 + 1, 0, none⟩), undef, .pointer (some ⟨bq, 0, none⟩), undef, .pointer (some ⟨Bx, 0, none⟩), .agg #[.slice ao fs.length (fs.length + sp)], .slice ao1 ts.length (ts.length + sp1), .map (some bm), .int .i64 (n : Int), .agg #[.slice ao fs.length (fs.length + sp)], .slice (some ⟨b, off, none⟩) ts.length (ts.length + sp2), .int .i64 (ts.length : Int), .int .i64 (k : Int), .bool true, .pointer (some ⟨b, off + k * 2, none⟩), .agg #[.int .i64 x.head, .slice ko x.kids.length (x.kids.length + ksp)], .agg #[.int .i64 x.head, .slice ko x.kids.length (x.kids.length + ksp)], .func (.func 123) #[] #[.pointer (some ⟨bk, 0, none⟩)], y.pl, .agg #[.int .i64 y.t.head, .slice y.ao y.t.kids.length (y.t.kids.length + y.sp)], undef, undef, undef, undef, undef, undef, undef, undef, undef, undef, undef, undef, undef, undef, undef, undef, undef, undef, undef, undef, undef, undef, undef, z47, undef], defers := [] })
        (fun y a' _ X Y row hs hg hr => by obtain ⟨Bx, q2, q3⟩ := hs; exact ⟨Bx, own_block Bx (fun _ : Unit => _) (fun _ => rfl) () X Y row q2 hg (fun r e => (hr r e).2), q3⟩)
        ?assign ?body ?done ?stop
      case assign =>
        rintro ll pre y V K ⟨o', SV, hn', hV⟩ hK
        have HK := Lib.hid hK; have SV := Lib.hid SV; have HN' := Lib.hid hn'
        simp only [NY.encs]
        clear hK hn'
        gi_wp2
        exact HK.out _ _ (KeepsFrom.alloc' _ _ _) (KpM.of ((Below.refl _ V).alloc (Nat.le_refl _) _) (by omega)) ⟨o', SV.out.alloc _, HN'.out, by simp; omega⟩ ⟨V.heap.size, heap_ofAlloc V _, rfl⟩
      case body =>
        rintro ll pre y a' V hl ⟨rr, hr⟩ ⟨o', SV, hn', hV⟩ ⟨Bx, hbx, rfl⟩ hlt3
        clear hr rr
        obtain ⟨ypl, yao, ysp, yt, yat, yht, ym⟩ := y
        obtain ⟨h1, h2, h3, h4, h5⟩ := okN_num (HOK.out yt ym)
        have H5 := Lib.hid h5
        have HN' := Lib.hid hn'
        obtain ⟨M, hM⟩ : ∃ M, M = (pre.map (·.t)).foldl (patStep n) L := ⟨_, rfl⟩
        rw [← hM] at SV hn'
        have HM := Lib.hid hM
        have HN0 := Lib.hid hn'
        obtain ⟨go, gsp, rfl, hrq, _⟩ := (SV.owns treeE 2).rowQ
        have HRQ := Lib.hid hrq
        have HSN := Lib.hid (show ((pre ++ [(⟨ypl, yao, ysp, yt, yat, yht, ym⟩ : NY p w x)]).map (·.t)).foldl (patStep n) L = patStep n M yt by rw [List.map_append, List.foldl_append, ← hM]; rfl)
        have HML := Lib.hid (show M.length ≤ 1000000 by
          have q1 := patFold_len n (pre.map (·.t)) L
          have q2 := HLL.out
          have q3 := HST.out
          rw [← hM] at q1
          simp at q1; omega)
        have HBX8 := Lib.hid hbx
        have HYT := Lib.hid yht
        have HYP := Lib.hid (pre_all ym)
        obtain ⟨⟨x0, _⟩, x1, _⟩ := box2 hbx
        obtain ⟨n0, _⟩ := SV.one 0
        obtain ⟨v0, _⟩ := SV.one 1
        have SVH := Lib.hid SV
        clear hM hbx h5 hn' SV HN' hrq
        dsimp only at x0 x1 ⊢
        by_cases hpos : 0 < yt.head
        case neg =>
          have HPS := Lib.hid (show patStep n M yt = M by unfold patStep; rw [if_neg (fun h => hpos h.1)])
          gi_wp2_with fail
          have FC := Lib.hid (fun W (hb : Below V.heap.size V W) => (⟨Below.cellOf hb x0, Below.cellOf hb x1, Below.cellOf hb n0, Below.cellOf hb v0⟩ : _ ∧ _ ∧ _ ∧ _))
          clear x0 x1 n0 v0
          refine wpH_region_round [] (fun W => W.cell? ⟨Bx, 0, none⟩ = some (.int .i64 yt.head) ∧ W.cell? ⟨Bx, 1, none⟩ = some (.slice yao yt.kids.length (yt.kids.length + ysp)) ∧ W.cell? ⟨b3, 0, none⟩ = some (.int .i64 (n : Int)) ∧ W.cell? ⟨b3 + 1, 0, none⟩ = some (.slice go M.length (M.length + gsp))) (by kernel_rfl) (by kernel_rfl) (fun _ _ h => h) ?_
          have HS := FC.out _ (Below.refl _ V).drew
          refine wpH.take (i := 0) (by kernel_rfl) (by kernel_rfl) (by kernel_rfl) (by kernel_rfl) (by kernel_rfl) HS ?_
          intro oi ho
          simp only [List.getElem?_toArray, List.getElem?_cons_zero, Option.some.injEq] at ho
          subst ho
          refine ⟨?_, Or.inl ⟨by rfl, ?_⟩, fun _ _ _ h => h, ?_⟩
          rotate_left 1
          · intro W hW
            try dsimp only at hW
            go_simp
            try with_reducible rfl
          try simp only [Act.put, List.setIfInBounds_toArray, List.set_cons_zero, List.set_cons_succ]
          refine wpH.take (i := 1) (by kernel_rfl) (by kernel_rfl) (by kernel_rfl) (by kernel_rfl) (by kernel_rfl) HS ?_
          intro oi ho
          simp only [List.getElem?_toArray, List.getElem?_cons_succ, List.getElem?_cons_zero, Option.some.injEq] at ho
          subst ho
          refine ⟨?_, Or.inl ⟨by rfl, ?_⟩, fun _ _ _ h => h, ?_⟩
          rotate_left 1
          · intro W hW
            try dsimp only at hW
            go_simp
            try with_reducible rfl
          try simp only [Act.put, List.setIfInBounds_toArray, List.set_cons_zero, List.set_cons_succ]
          refine wpH.take (i := 2) (by kernel_rfl) (by kernel_rfl) (by kernel_rfl) (by kernel_rfl) (by kernel_rfl) HS ?_
          intro oi ho
          simp only [List.getElem?_toArray, List.getElem?_cons_succ, List.getElem?_cons_zero, Option.some.injEq] at ho
          subst ho
          refine ⟨?_, Or.inl ⟨by rfl, ?_⟩, fun _ _ _ h => h, ?_⟩
          rotate_left 1
          · intro W hW
            try dsimp only at hW
            go_simp
            try with_reducible rfl
          try simp only [Act.put, List.setIfInBounds_toArray, List.set_cons_zero, List.set_cons_succ]
          rw [show decide ((0 : Int) < yt.head) = false from decide_eq_false (by omega)]
          refine wpH.take (i := 3) (by kernel_rfl) (by kernel_rfl) (by kernel_rfl) (by kernel_rfl) (by kernel_rfl) HS ?_
          intro oi ho
          simp only [List.getElem?_toArray, List.getElem?_cons_succ, List.getElem?_cons_zero, Option.some.injEq] at ho
          subst ho
          refine ⟨?_, Or.inl ⟨by rfl, ?_⟩, fun _ _ _ h => h, ?_⟩
          rotate_left 1
          · intro W hW
            try dsimp only at hW
            go_simp
            try with_reducible rfl
          try simp only [Act.put, List.setIfInBounds_toArray, List.set_cons_zero, List.set_cons_succ]
          refine wpH.take (i := 4) (by kernel_rfl) (by kernel_rfl) (by kernel_rfl) (by kernel_rfl) (by kernel_rfl) HS ?_
          intro oi ho
          simp only [List.getElem?_toArray, List.getElem?_cons_succ, List.getElem?_cons_zero, Option.some.injEq] at ho
          subst ho
          refine ⟨undef, Or.inr ⟨by rfl, rfl⟩, fun _ _ _ h => h, ?_⟩
          try simp only [Act.put, List.setIfInBounds_toArray, List.set_cons_zero, List.set_cons_succ]
          refine wpH.take (i := 8) (by kernel_rfl) (by kernel_rfl) (by kernel_rfl) (by kernel_rfl) (by kernel_rfl) HS ?_
          intro oi ho
          simp only [List.getElem?_toArray, List.getElem?_cons_succ, List.getElem?_cons_zero, Option.some.injEq] at ho
          subst ho
          refine ⟨undef, Or.inr ⟨by rfl, rfl⟩, fun _ _ _ h => h, ?_⟩
          try simp only [Act.put, List.setIfInBounds_toArray, List.set_cons_zero, List.set_cons_succ]
          refine wpH.one (i := 5) (by kernel_rfl) ?_
          intro oi ho
          simp only [List.getElem?_toArray, List.getElem?_cons_succ, List.getElem?_cons_zero, Option.some.injEq] at ho
          subst ho
          intro K hK
          have HK := Lib.hid hK
          clear hK
          go_simp
          refine HK.out _ _ (fun _ => HS) ?_
          try simp only [Act.put, List.setIfInBounds_toArray, List.set_cons_zero, List.set_cons_succ]
          refine wpH.one (i := 6) (by kernel_rfl) ?_
          intro oi ho
          simp only [List.getElem?_toArray, List.getElem?_cons_succ, List.getElem?_cons_zero, Option.some.injEq] at ho
          subst ho
          intro K hK
          have HK := Lib.hid hK
          clear hK
          go_simp
          refine HK.out _ _ (fun _ => HS) ?_
          try simp only [Act.put, List.setIfInBounds_toArray, List.set_cons_zero, List.set_cons_succ]
          refine wpH.one (i := 7) (by kernel_rfl) ?_
          intro oi ho
          simp only [List.getElem?_toArray, List.getElem?_cons_succ, List.getElem?_cons_zero, Option.some.injEq] at ho
          subst ho
          intro K hK
          have HK := Lib.hid hK
          clear hK
          go_simp
          refine HK.out _ _ (fun _ => HS) ?_
          try simp only [Act.put, List.setIfInBounds_toArray, List.set_cons_zero, List.set_cons_succ]
          refine wpH.one (i := 9) (by kernel_rfl) ?_
          intro oi ho
          simp only [List.getElem?_toArray, List.getElem?_cons_succ, List.getElem?_cons_zero, Option.some.injEq] at ho
          subst ho
          intro K hK
          have HK := Lib.hid hK
          clear hK
          go_simp
          refine HK.out _ _ (fun _ => HS) ?_
          try simp only [Act.put, List.setIfInBounds_toArray, List.set_cons_zero, List.set_cons_succ]
          refine wpH.one (i := 10) (by kernel_rfl) ?_
          intro oi ho
          simp only [List.getElem?_toArray, List.getElem?_cons_succ, List.getElem?_cons_zero, Option.some.injEq] at ho
          subst ho
          intro K hK
          have HK := Lib.hid hK
          clear hK
          go_simp
          refine HK.out _ _ (fun _ => HS) ?_
          try simp only [Act.put, List.setIfInBounds_toArray, List.set_cons_zero, List.set_cons_succ]
          refine wpH.one (i := 11) (by kernel_rfl) ?_
          intro oi ho
          simp only [List.getElem?_toArray, List.getElem?_cons_succ, List.getElem?_cons_zero, Option.some.injEq] at ho
          subst ho
          intro K hK
          have HK := Lib.hid hK
          clear hK
          go_simp
          refine HK.out _ _ (fun _ => HS) ?_
          try simp only [Act.put, List.setIfInBounds_toArray, List.set_cons_zero, List.set_cons_succ]
          refine wpH.take (i := 12) (by kernel_rfl) (by kernel_rfl) (by kernel_rfl) (by kernel_rfl) (by kernel_rfl) HS ?_
          intro oi ho
          simp only [List.getElem?_toArray, List.getElem?_cons_succ, List.getElem?_cons_zero, Option.some.injEq] at ho
          subst ho
          refine ⟨undef, Or.inr ⟨by rfl, rfl⟩, fun _ _ _ h => h, ?_⟩
          try simp only [Act.put, List.setIfInBounds_toArray, List.set_cons_zero, List.set_cons_succ]
          refine wpH.take (i := 13) (by kernel_rfl) (by kernel_rfl) (by kernel_rfl) (by kernel_rfl) (by kernel_rfl) HS ?_
          intro oi ho
          simp only [List.getElem?_toArray, List.getElem?_cons_succ, List.getElem?_cons_zero, Option.some.injEq] at ho
          subst ho
          refine ⟨undef, Or.inr ⟨by rfl, rfl⟩, fun _ _ _ h => h, ?_⟩
          try simp only [Act.put, List.setIfInBounds_toArray, List.set_cons_zero, List.set_cons_succ]
          refine wpH.one (i := 14) (by kernel_rfl) ?_
          intro oi ho
          simp only [List.getElem?_toArray, List.getElem?_cons_succ, List.getElem?_cons_zero, Option.some.injEq] at ho
          subst ho
          intro K hK
          have HK := Lib.hid hK
          clear hK
          go_simp
          refine HK.out _ _ (fun _ => HS) ?_
          try simp only [Act.put, List.setIfInBounds_toArray, List.set_cons_zero, List.set_cons_succ]
          refine wpH.one (i := 15) (by kernel_rfl) ?_
          intro oi ho
          simp only [List.getElem?_toArray, List.getElem?_cons_succ, List.getElem?_cons_zero, Option.some.injEq] at ho
          subst ho
          intro K hK
          have HK := Lib.hid hK
          clear hK
          go_simp
          refine HK.out _ _ (fun _ => HS) ?_
          try simp only [Act.put, List.setIfInBounds_toArray, List.set_cons_zero, List.set_cons_succ]
          refine wpH.one (i := 16) (by kernel_rfl) ?_
          intro oi ho
          simp only [List.getElem?_toArray, List.getElem?_cons_succ, List.getElem?_cons_zero, Option.some.injEq] at ho
          subst ho
          intro K hK
          have HK := Lib.hid hK
          clear hK
          go_simp
          refine HK.out _ _ (fun _ => HS) ?_
          try simp only [Act.put, List.setIfInBounds_toArray, List.set_cons_zero, List.set_cons_succ]
          refine wpH.done (by kernel_rfl) ?_
          gi_wp2
          all_goals first
            | (exfalso; exact undef_bool (by assumption))
            | exact ⟨KeepsFrom.ofBelow (Below.refl _ V).drew, KpM.of (Below.refl _ V).drew (by omega), _, by rw [HSN.out, HPS.out]; exact SVH.out.drew, by rw [HSN.out, HPS.out]; exact HN0.out, hV⟩
        case pos =>
          gi_wp2_with fail
          have FC := Lib.hid (fun W (hb : Below V.heap.size V W) => (⟨Below.cellOf hb x0, Below.cellOf hb x1, Below.cellOf hb n0, Below.cellOf hb v0⟩ : _ ∧ _ ∧ _ ∧ _))
          clear x0 x1 n0 v0
          refine wpH_region_round [] (fun W => W.cell? ⟨Bx, 0, none⟩ = some (.int .i64 yt.head) ∧ W.cell? ⟨Bx, 1, none⟩ = some (.slice yao yt.kids.length (yt.kids.length + ysp)) ∧ W.cell? ⟨b3, 0, none⟩ = some (.int .i64 (n : Int)) ∧ W.cell? ⟨b3 + 1, 0, none⟩ = some (.slice go M.length (M.length + gsp))) (by kernel_rfl) (by kernel_rfl) (fun _ _ h => h) ?_
          have HS := FC.out _ (Below.refl _ V).drew
          refine wpH.take (i := 0) (by kernel_rfl) (by kernel_rfl) (by kernel_rfl) (by kernel_rfl) (by kernel_rfl) HS ?_
          intro oi ho
          simp only [List.getElem?_toArray, List.getElem?_cons_zero, Option.some.injEq] at ho
          subst ho
          refine ⟨?_, Or.inl ⟨by rfl, ?_⟩, fun _ _ _ h => h, ?_⟩
          rotate_left 1
          · intro W hW
            try dsimp only at hW
            go_simp
            try with_reducible rfl
          try simp only [Act.put, List.setIfInBounds_toArray, List.set_cons_zero, List.set_cons_succ]
          refine wpH.take (i := 1) (by kernel_rfl) (by kernel_rfl) (by kernel_rfl) (by kernel_rfl) (by kernel_rfl) HS ?_
          intro oi ho
          simp only [List.getElem?_toArray, List.getElem?_cons_succ, List.getElem?_cons_zero, Option.some.injEq] at ho
          subst ho
          refine ⟨?_, Or.inl ⟨by rfl, ?_⟩, fun _ _ _ h => h, ?_⟩
          rotate_left 1
          · intro W hW
            try dsimp only at hW
            go_simp
            try with_reducible rfl
          try simp only [Act.put, List.setIfInBounds_toArray, List.set_cons_zero, List.set_cons_succ]
          refine wpH.take (i := 2) (by kernel_rfl) (by kernel_rfl) (by kernel_rfl) (by kernel_rfl) (by kernel_rfl) HS ?_
          intro oi ho
          simp only [List.getElem?_toArray, List.getElem?_cons_succ, List.getElem?_cons_zero, Option.some.injEq] at ho
          subst ho
          refine ⟨?_, Or.inl ⟨by rfl, ?_⟩, fun _ _ _ h => h, ?_⟩
          rotate_left 1
          · intro W hW
            try dsimp only at hW
            go_simp
            try with_reducible rfl
          try simp only [Act.put, List.setIfInBounds_toArray, List.set_cons_zero, List.set_cons_succ]
          refine wpH.take (i := 3) (by kernel_rfl) (by kernel_rfl) (by kernel_rfl) (by kernel_rfl) (by kernel_rfl) HS ?_
          intro oi ho
          simp only [List.getElem?_toArray, List.getElem?_cons_succ, List.getElem?_cons_zero, Option.some.injEq] at ho
          subst ho
          refine ⟨?_, Or.inl ⟨by rfl, ?_⟩, fun _ _ _ h => h, ?_⟩
          rotate_left 1
          · intro W hW
            try dsimp only at hW
            go_simp
            try with_reducible rfl
          try simp only [Act.put, List.setIfInBounds_toArray, List.set_cons_zero, List.set_cons_succ]
          refine wpH.take (i := 4) (by kernel_rfl) (by kernel_rfl) (by kernel_rfl) (by kernel_rfl) (by kernel_rfl) HS ?_
          intro oi ho
          simp only [List.getElem?_toArray, List.getElem?_cons_succ, List.getElem?_cons_zero, Option.some.injEq] at ho
          subst ho
          refine ⟨?_, Or.inl ⟨by rfl, ?_⟩, fun _ _ _ h => h, ?_⟩
          rotate_left 1
          · intro W hW
            try dsimp only at hW
            go_simp
            try with_reducible rfl
          try simp only [Act.put, List.setIfInBounds_toArray, List.set_cons_zero, List.set_cons_succ]
          refine wpH.take (i := 8) (by kernel_rfl) (by kernel_rfl) (by kernel_rfl) (by kernel_rfl) (by kernel_rfl) HS ?_
          intro oi ho
          simp only [List.getElem?_toArray, List.getElem?_cons_succ, List.getElem?_cons_zero, Option.some.injEq] at ho
          subst ho
          refine ⟨?_, Or.inl ⟨by rfl, ?_⟩, fun _ _ _ h => h, ?_⟩
          rotate_left 1
          · intro W hW
            try dsimp only at hW
            go_simp
            try with_reducible rfl
          try simp only [Act.put, List.setIfInBounds_toArray, List.set_cons_zero, List.set_cons_succ]
          refine wpH.one (i := 5) (by kernel_rfl) ?_
          intro oi ho
          simp only [List.getElem?_toArray, List.getElem?_cons_succ, List.getElem?_cons_zero, Option.some.injEq] at ho
          subst ho
          intro K hK
          have HK := Lib.hid hK
          clear hK
          go_simp
          have HB1 := Lib.hid ((Below.refl V.heap.size V).drew.alloc (by simp) (.cells #[.int .i64 yt.head, .slice yao yt.kids.length (yt.kids.length + ysp)] 38))
          have hrow := heap_ofAlloc V.drew (.cells #[.int .i64 yt.head, .slice yao yt.kids.length (yt.kids.length + ysp)] 38)
          refine HK.out _ _ (fun _ => FC.out _ HB1.out) ?_
          try simp only [Act.put, List.setIfInBounds_toArray, List.set_cons_zero, List.set_cons_succ]
          have HS := FC.out _ HB1.out
          refine wpH.one (i := 6) (by kernel_rfl) ?_
          intro oi ho
          simp only [List.getElem?_toArray, List.getElem?_cons_succ, List.getElem?_cons_zero, Option.some.injEq] at ho
          subst ho
          intro K hK
          have HK := Lib.hid hK
          clear hK
          have hrow2 : RowAt (V.drew.alloc (.cells #[.int .i64 yt.head, .slice yao yt.kids.length (yt.kids.length + ysp)] 38)) (some ⟨V.heap.size, 0, none⟩) [yt] := fun i hi => by
            obtain rfl : i = 0 := by simpa using hi
            obtain ⟨⟨e0, _⟩, e1, _⟩ := box2 hrow
            exact ⟨_, 0, yao, ysp, rfl, e0, e1, HYT.out.at.kept (SVH.out.bel.trans (HB1.out.mono SVH.out.size))⟩
          have HRW := Lib.hid hrow2
          clear hrow hrow2
          go_simp
          go_at_call 149
          refine (vars149 [yt] _ 1 _ HRW.out (by simp) (by have := HYP.out.2.1; have := HXS.out; simp [sizeL]; omega) (fun i hi => by
            obtain rfl : i = 0 := by simpa using hi
            exact ⟨by have := HYP.out.2.1; have := HXS.out; simp [gK]; omega, by have := HYP.out.2.2; have := HXD.out; simp [gK]; omega, fun z hz => HOK.out z (HYP.out.1 z hz)⟩)).mono ?_
          rintro e w8 ⟨bm8, rfl, hmc, hb8⟩
          have HB2 := Lib.hid (Below.step HB1.out hb8)
          have hlen := fun ty => hmc.len ty
          obtain ⟨m8, hm8⟩ : ∃ m, m = (orderL [yt] []).length := ⟨_, rfl⟩
          rw [← hm8] at hlen
          have HM8 := Lib.hid (show m8 = (yt.order []).length from hm8)
          clear hb8 hmc hm8
          dsimp only
          refine HK.out _ _ (fun _ => FC.out _ HB2.out) ?_
          try simp only [Act.put, List.setIfInBounds_toArray, List.set_cons_zero, List.set_cons_succ]
          have HS := FC.out _ HB2.out
          refine wpH.one (i := 7) (by kernel_rfl) ?_
          intro oi ho
          simp only [List.getElem?_toArray, List.getElem?_cons_succ, List.getElem?_cons_zero, Option.some.injEq] at ho
          subst ho
          intro K hK
          have HK := Lib.hid hK
          clear hK
          go_simp
          refine HK.out _ _ (fun _ => HS) ?_
          try simp only [Act.put, List.setIfInBounds_toArray, List.set_cons_zero, List.set_cons_succ]
          by_cases hmn : m8 = n
          rotate_left 1
          · skip
            have hmb : ((m8 : Int) == (n : Int)) = false := by simpa using fun h => hmn (by omega)
            have HPS := Lib.hid (show patStep n M yt = M by unfold patStep; rw [if_neg (fun h => hmn (by rw [HM8.out]; exact h.2))])
            clear hmn hlen
            refine wpH.one (i := 9) (by kernel_rfl) ?_
            intro oi ho
            simp only [List.getElem?_toArray, List.getElem?_cons_succ, List.getElem?_cons_zero, Option.some.injEq] at ho
            subst ho
            intro K hK
            have HK := Lib.hid hK
            clear hK
            go_simp
            refine HK.out _ _ (fun _ => HS) ?_
            try simp only [Act.put, List.setIfInBounds_toArray, List.set_cons_zero, List.set_cons_succ]
            refine wpH.one (i := 10) (by kernel_rfl) ?_
            intro oi ho
            simp only [List.getElem?_toArray, List.getElem?_cons_succ, List.getElem?_cons_zero, Option.some.injEq] at ho
            subst ho
            intro K hK
            have HK := Lib.hid hK
            clear hK
            go_simp
            refine HK.out _ _ (fun _ => HS) ?_
            try simp only [Act.put, List.setIfInBounds_toArray, List.set_cons_zero, List.set_cons_succ]
            refine wpH.one (i := 11) (by kernel_rfl) ?_
            intro oi ho
            simp only [List.getElem?_toArray, List.getElem?_cons_succ, List.getElem?_cons_zero, Option.some.injEq] at ho
            subst ho
            intro K hK
            have HK := Lib.hid hK
            clear hK
            go_simp
            refine HK.out _ _ (fun _ => HS) ?_
            try simp only [Act.put, List.setIfInBounds_toArray, List.set_cons_zero, List.set_cons_succ]
            refine wpH.take (i := 12) (by kernel_rfl) (by kernel_rfl) (by kernel_rfl) (by kernel_rfl) (by kernel_rfl) HS ?_
            intro oi ho
            simp only [List.getElem?_toArray, List.getElem?_cons_succ, List.getElem?_cons_zero, Option.some.injEq] at ho
            subst ho
            refine ⟨undef, Or.inr ⟨by rfl, rfl⟩, fun _ _ _ h => h, ?_⟩
            try simp only [Act.put, List.setIfInBounds_toArray, List.set_cons_zero, List.set_cons_succ]
            refine wpH.take (i := 13) (by kernel_rfl) (by kernel_rfl) (by kernel_rfl) (by kernel_rfl) (by kernel_rfl) HS ?_
            intro oi ho
            simp only [List.getElem?_toArray, List.getElem?_cons_succ, List.getElem?_cons_zero, Option.some.injEq] at ho
            subst ho
            refine ⟨undef, Or.inr ⟨by rfl, rfl⟩, fun _ _ _ h => h, ?_⟩
            try simp only [Act.put, List.setIfInBounds_toArray, List.set_cons_zero, List.set_cons_succ]
            refine wpH.one (i := 14) (by kernel_rfl) ?_
            intro oi ho
            simp only [List.getElem?_toArray, List.getElem?_cons_succ, List.getElem?_cons_zero, Option.some.injEq] at ho
            subst ho
            intro K hK
            have HK := Lib.hid hK
            clear hK
            go_simp
            refine HK.out _ _ (fun _ => HS) ?_
            try simp only [Act.put, List.setIfInBounds_toArray, List.set_cons_zero, List.set_cons_succ]
            refine wpH.one (i := 15) (by kernel_rfl) ?_
            intro oi ho
            simp only [List.getElem?_toArray, List.getElem?_cons_succ, List.getElem?_cons_zero, Option.some.injEq] at ho
            subst ho
            intro K hK
            have HK := Lib.hid hK
            clear hK
            go_simp
            refine HK.out _ _ (fun _ => HS) ?_
            try simp only [Act.put, List.setIfInBounds_toArray, List.set_cons_zero, List.set_cons_succ]
            refine wpH.one (i := 16) (by kernel_rfl) ?_
            intro oi ho
            simp only [List.getElem?_toArray, List.getElem?_cons_succ, List.getElem?_cons_zero, Option.some.injEq] at ho
            subst ho
            intro K hK
            have HK := Lib.hid hK
            clear hK
            go_simp
            refine HK.out _ _ (fun _ => HS) ?_
            try simp only [Act.put, List.setIfInBounds_toArray, List.set_cons_zero, List.set_cons_succ]
            refine wpH.done (by kernel_rfl) ?_
            gi_wp2
            all_goals first
              | (exfalso; exact undef_bool (by assumption))
              | exact ⟨KeepsFrom.ofBelow HB2.out, KpM.of HB2.out (by omega), _, by rw [HSN.out, HPS.out]; exact SVH.out.step HB2.out, by rw [HSN.out, HPS.out]; exact HN0.out, Nat.le_trans hV HB2.out.size⟩
          · skip
            have hmb : ((m8 : Int) == (n : Int)) = true := by simp [hmn]
            have HPS := Lib.hid (show patStep n M yt = addT M yt by unfold patStep; rw [if_pos ⟨hpos, by rw [← HM8.out]; exact hmn⟩])
            clear hmn hlen
            refine wpH.one (i := 9) (by kernel_rfl) ?_
            intro oi ho
            simp only [List.getElem?_toArray, List.getElem?_cons_succ, List.getElem?_cons_zero, Option.some.injEq] at ho
            subst ho
            intro K hK
            have HK := Lib.hid hK
            clear hK
            go_simp
            refine HK.out _ _ (fun _ => HS) ?_
            try simp only [Act.put, List.setIfInBounds_toArray, List.set_cons_zero, List.set_cons_succ]
            refine wpH.one (i := 10) (by kernel_rfl) ?_
            intro oi ho
            simp only [List.getElem?_toArray, List.getElem?_cons_succ, List.getElem?_cons_zero, Option.some.injEq] at ho
            subst ho
            intro K hK
            have HK := Lib.hid hK
            clear hK
            go_simp
            refine HK.out _ _ (fun _ => HS) ?_
            try simp only [Act.put, List.setIfInBounds_toArray, List.set_cons_zero, List.set_cons_succ]
            refine wpH.one (i := 11) (by kernel_rfl) ?_
            intro oi ho
            simp only [List.getElem?_toArray, List.getElem?_cons_succ, List.getElem?_cons_zero, Option.some.injEq] at ho
            subst ho
            intro K hK
            have HK := Lib.hid hK
            clear hK
            go_simp
            refine HK.out _ _ (fun _ => HS) ?_
            try simp only [Act.put, List.setIfInBounds_toArray, List.set_cons_zero, List.set_cons_succ]
            refine wpH.take (i := 12) (by kernel_rfl) (by kernel_rfl) (by kernel_rfl) (by kernel_rfl) (by kernel_rfl) HS ?_
            intro oi ho
            simp only [List.getElem?_toArray, List.getElem?_cons_succ, List.getElem?_cons_zero, Option.some.injEq] at ho
            subst ho
            refine ⟨?_, Or.inl ⟨by rfl, ?_⟩, fun _ _ _ h => h, ?_⟩
            rotate_left 1
            · intro W hW
              try dsimp only at hW
              go_simp
              try with_reducible rfl
            try simp only [Act.put, List.setIfInBounds_toArray, List.set_cons_zero, List.set_cons_succ]
            refine wpH.take (i := 13) (by kernel_rfl) (by kernel_rfl) (by kernel_rfl) (by kernel_rfl) (by kernel_rfl) HS ?_
            intro oi ho
            simp only [List.getElem?_toArray, List.getElem?_cons_succ, List.getElem?_cons_zero, Option.some.injEq] at ho
            subst ho
            refine ⟨?_, Or.inl ⟨by rfl, ?_⟩, fun _ _ _ h => h, ?_⟩
            rotate_left 1
            · intro W hW
              try dsimp only at hW
              go_simp
              try with_reducible rfl
            try simp only [Act.put, List.setIfInBounds_toArray, List.set_cons_zero, List.set_cons_succ]
            refine wpH.one (i := 14) (by kernel_rfl) ?_
            intro oi ho
            simp only [List.getElem?_toArray, List.getElem?_cons_succ, List.getElem?_cons_zero, Option.some.injEq] at ho
            subst ho
            intro K hK
            have HK := Lib.hid hK
            clear hK
            go_simp
            go_at_call 74
            refine (has74 M yt _ go (M.length + gsp) _ w8 (HRQ.out.row.kept HB2.out) (HYT.out.at.kept (SVH.out.bel.trans (HB2.out.mono SVH.out.size))) (by have := HML.out; omega)).mono ?_
            rintro e w9 ⟨rfl, hb9⟩
            have HB3 := Lib.hid (Below.step HB2.out hb9)
            clear hb9
            dsimp only
            refine HK.out _ _ (fun _ => FC.out _ HB3.out) ?_
            try simp only [Act.put, List.setIfInBounds_toArray, List.set_cons_zero, List.set_cons_succ]
            have HS := FC.out _ HB3.out
            by_cases hmem : yt ∈ M
            · skip
              rw [decide_eq_true hmem]
              have HAD := Lib.hid (show addT M yt = M by unfold addT; rw [if_pos hmem])
              clear hmem
              refine wpH.one (i := 15) (by kernel_rfl) ?_
              intro oi ho
              simp only [List.getElem?_toArray, List.getElem?_cons_succ, List.getElem?_cons_zero, Option.some.injEq] at ho
              subst ho
              intro K hK
              have HK := Lib.hid hK
              clear hK
              go_simp
              refine HK.out _ _ (fun _ => HS) ?_
              try simp only [Act.put, List.setIfInBounds_toArray, List.set_cons_zero, List.set_cons_succ]
              refine wpH.one (i := 16) (by kernel_rfl) ?_
              intro oi ho
              simp only [List.getElem?_toArray, List.getElem?_cons_succ, List.getElem?_cons_zero, Option.some.injEq] at ho
              subst ho
              intro K hK
              have HK := Lib.hid hK
              clear hK
              go_simp
              refine HK.out _ _ (fun _ => HS) ?_
              try simp only [Act.put, List.setIfInBounds_toArray, List.set_cons_zero, List.set_cons_succ]
              refine wpH.done (by kernel_rfl) ?_
              gi_wp2
              all_goals first
                | (exfalso; exact undef_bool (by assumption))
                | exact ⟨KeepsFrom.ofBelow HB3.out, KpM.of HB3.out (by omega), _, by rw [HSN.out, HPS.out, HAD.out]; exact SVH.out.step HB3.out, by rw [HSN.out, HPS.out, HAD.out]; exact HN0.out, Nat.le_trans hV HB3.out.size⟩
            · skip
              rw [decide_eq_false hmem]
              have HAD := Lib.hid (show addT M yt = M ++ [yt] by unfold addT; rw [if_neg hmem])
              clear hmem
              refine wpH.one (i := 15) (by kernel_rfl) ?_
              intro oi ho
              simp only [List.getElem?_toArray, List.getElem?_cons_succ, List.getElem?_cons_zero, Option.some.injEq] at ho
              subst ho
              intro K hK
              have HK := Lib.hid hK
              clear hK
              go_simp
              refine HK.out _ _ (fun _ => HS) ?_
              try simp only [Act.put, List.setIfInBounds_toArray, List.set_cons_zero, List.set_cons_succ]
              refine wpH.one (i := 16) (by kernel_rfl) ?_
              intro oi ho
              simp only [List.getElem?_toArray, List.getElem?_cons_succ, List.getElem?_cons_zero, Option.some.injEq] at ho
              subst ho
              intro K hK
              have HK := Lib.hid hK
              clear hK
              go_simp
              refine HK.out _ _ (fun _ => HS) ?_
              try simp only [Act.put, List.setIfInBounds_toArray, List.set_cons_zero, List.set_cons_succ]
              refine wpH.done (by kernel_rfl) ?_
              gi_wp2_with fail
              have FD := Lib.hid (fun W (hb : Below V.heap.size V W) => (⟨(FC.out W hb).1, (FC.out W hb).2.1, (FC.out W hb).2.2.2⟩ : _ ∧ _ ∧ _))
              have hml := HML.out
              have hml1 : (M.length : Int) < (M.length : Int) + 1 := by omega
              obtain ⟨i38, gi, gz0, gz1, gz2⟩ := info_parts infoT38
              refine wpH_region_round [4, 5, 6, 7] (fun W => W.cell? ⟨Bx, 0, none⟩ = some (.int .i64 yt.head) ∧ W.cell? ⟨Bx, 1, none⟩ = some (.slice yao yt.kids.length (yt.kids.length + ysp)) ∧ W.cell? ⟨b3 + 1, 0, none⟩ = some (.slice go M.length (M.length + gsp))) (by kernel_rfl) (by kernel_rfl) (fun _ _ h => h) ?_
              have HB4 := Lib.hid HB3.out.drew
              have HS := FD.out _ HB4.out
              have S9 := Lib.hid (show St w w9.drew [.box b3 #[.int .i64 (n : Int)] 3, .box (b3 + 1) #[.slice go M.length (M.length + gsp)] 32, .owns treeE H p (.slice go M.length (M.length + gsp)) (M), .marks w.heap.size ds, .rowQ treeE (fun b => b3 + 2 ≤ b ∧ b < H) p (some ⟨b, off, none⟩) ts, .box bx #[.slice ao fs.length (fs.length + sp)] 41] from (SVH.out.step HB3.out).drew)
              refine wpH.take (i := 0) (by kernel_rfl) (by kernel_rfl) (by kernel_rfl) (by kernel_rfl) (by kernel_rfl) HS ?_
              intro oi ho
              simp only [List.getElem?_toArray, List.getElem?_cons_zero, Option.some.injEq] at ho
              subst ho
              refine ⟨?_, Or.inl ⟨by rfl, ?_⟩, fun _ _ _ h => h, ?_⟩
              rotate_left 1
              · intro W hW
                try dsimp only at hW
                go_simp
                try with_reducible rfl
              try simp only [Act.put, List.setIfInBounds_toArray, List.set_cons_zero, List.set_cons_succ]
              refine wpH.take (i := 1) (by kernel_rfl) (by kernel_rfl) (by kernel_rfl) (by kernel_rfl) (by kernel_rfl) HS ?_
              intro oi ho
              simp only [List.getElem?_toArray, List.getElem?_cons_succ, List.getElem?_cons_zero, Option.some.injEq] at ho
              subst ho
              refine ⟨?_, Or.inl ⟨by rfl, ?_⟩, fun _ _ _ h => h, ?_⟩
              rotate_left 1
              · intro W hW
                try dsimp only at hW
                go_simp
                try with_reducible rfl
              try simp only [Act.put, List.setIfInBounds_toArray, List.set_cons_zero, List.set_cons_succ]
              refine wpH.take (i := 2) (by kernel_rfl) (by kernel_rfl) (by kernel_rfl) (by kernel_rfl) (by kernel_rfl) HS ?_
              intro oi ho
              simp only [List.getElem?_toArray, List.getElem?_cons_succ, List.getElem?_cons_zero, Option.some.injEq] at ho
              subst ho
              refine ⟨?_, Or.inl ⟨by rfl, ?_⟩, fun _ _ _ h => h, ?_⟩
              rotate_left 1
              · intro W hW
                try dsimp only at hW
                go_simp
                try with_reducible rfl
              try simp only [Act.put, List.setIfInBounds_toArray, List.set_cons_zero, List.set_cons_succ]
              refine wpH.one (i := 3) (by kernel_rfl) ?_
              intro oi ho
              simp only [List.getElem?_toArray, List.getElem?_cons_succ, List.getElem?_cons_zero, Option.some.injEq] at ho
              subst ho
              intro K hK
              have HK := Lib.hid hK
              clear hK
              go_simp
              have HB5 := Lib.hid (HB4.out.alloc HB4.out.size (.cells #[.int .i64 0, .slice none 0 0] 38))
              refine HK.out _ _ (fun _ => FD.out _ HB5.out) ?_
              try simp only [Act.put, List.setIfInBounds_toArray, List.set_cons_zero, List.set_cons_succ]
              have HS := FD.out _ HB5.out
              refine wpH.one (i := 4) (by kernel_rfl) ?_
              intro oi ho
              simp only [List.getElem?_toArray, List.getElem?_cons_succ, List.getElem?_cons_zero, Option.some.injEq] at ho
              subst ho
              intro K hK
              have HK := Lib.hid hK
              clear hK
              rw [if_pos (by rfl)]
              refine wp_app1 (.tmp 41) (.tmp 44) 32 rfl treeE S9.out 2 rfl (x := zeroT) (q := fun _ => False) (p' := p) (fun e => HN0.out e) ⟨none, 0, rfl, TreeP.leaf _ _ _⟩ Try.underlying32 gi gz0 gz1 gz2 rfl rfl rfl rfl (by unfold maxLen; omega) (by omega) (by simp; have := HB3.out.size; omega) (by omega) ?c5 (fun b h => h.elim) (fun b h => h.elim id (fun h => h.elim)) ?_
              case c5 =>
                intro bb e1 e2 e3
                simp only [offs, offAll, Fct.box, Fct.marks, Fct.rowQ, and_true]
                refine ⟨by omega, by omega, fun e => ?_, fun e => by rcases e with e | e; omega; have := HP.out _ e; omega, by omega⟩
                obtain ⟨css, _, ho, _⟩ := S9.out.owns treeE 2
                have hmm := ((S9.out.marks 3).2 bb e).2
                rcases ho.2 with ⟨h6, _⟩ | ⟨g6, cap6, cur6, h6, _, hg6, _⟩
                · rw [h6] at e1; simp [Value.ownBlock] at e1
                · have hbb : g6 = bb := by rw [h6] at e1; simpa [Value.ownBlock] using e1
                  subst hbb; rw [hmm] at hg6; cases hg6
              intro gg cap w10 S10 hs10 hgg hat hsm hgr
              have S10 : St w w10 [.box b3 #[.int .i64 (n : Int)] 3, .box (b3 + 1) #[.slice go M.length (M.length + gsp)] 32, .owns treeE H p (.slice (some ⟨gg, 0, none⟩) (M.length + 1) cap) (M ++ [zeroT]), .marks w.heap.size ds, .rowQ treeE (fun b => b3 + 2 ≤ b ∧ b < H) p (some ⟨b, off, none⟩) ts, .box bx #[.slice ao fs.length (fs.length + sp)] 41] := S10
              obtain ⟨zc, hz1, hz2, hz3, hz4, hz5, hz6, hz7, hz8⟩ := own_cells (S10.owns treeE 2) (i := M.length) (x := zeroT) (by simp)
              obtain ⟨zk, zsp, rfl, _⟩ := hz1
              have u0 : w10.cell? ⟨gg, M.length * 2, none⟩ = some (.int .i64 0) := hz2 0 _ rfl
              have u1 : w10.cell? ⟨gg, M.length * 2 + 1, none⟩ = some (.slice zk 0 (0 + zsp)) := hz2 1 _ rfl
              have f0 := hz3 (M.length * 2)
              have f1 := hz3 (M.length * 2 + 1)
              obtain ⟨v0, v1⟩ := S10.one 1
              have hlb := S10.lt 1
              have hne : b3 + 1 ≠ gg := by omega
              have HNE := Lib.hid hne
              have hgd : gg ∉ ds := fun e => by
                have hmm := ((S10.marks 3).2 gg e).2
                obtain ⟨css, _, ho, _⟩ := S10.owns treeE 2
                rcases ho.2 with ⟨h6, _⟩ | ⟨g6, cap6, cur6, h6, _, hg6, _⟩
                · simp at h6
                · simp only [Value.slice.injEq, Option.some.injEq, Addr.mk.injEq] at h6
                  obtain ⟨⟨rfl, _⟩, _⟩ := h6
                  rw [hmm] at hg6; cases hg6
              have hset : (M ++ [zeroT]).set M.length yt = M ++ [yt] := by rw [List.set_append_right _ _ (Nat.le_refl _)]; simp
              have hyt : TreeP (fun b => p b ∧ b ≠ gg) w10 (.agg #[.int .i64 yt.head, .slice yao yt.kids.length (yt.kids.length + ysp)]) yt := (HYT.out.mono (fun b h _ => ⟨h, by have := HP.out b h; omega⟩)).kept S10.bel
              have SA : St w ((w10.setCell ⟨gg, M.length * 2, none⟩ (.int .i64 yt.head)).setCell ⟨gg, M.length * 2 + 1, none⟩ (.slice yao yt.kids.length (yt.kids.length + ysp))) [.box b3 #[.int .i64 (n : Int)] 3, .box (b3 + 1) #[.slice go M.length (M.length + gsp)] 32, .owns treeE H p (.slice (some ⟨gg, 0, none⟩) (M.length + 1) cap) (M ++ [yt]), .marks w.heap.size ds, .rowQ treeE (fun b => b3 + 2 ≤ b ∧ b < H) p (some ⟨b, off, none⟩) ts, .box bx #[.slice ao fs.length (fs.length + sp)] 41] := by
                have h9 := S10.putE treeE 2 rfl (by simp) (j := M.length) (by simp) (x := yt) (cs := [.int .i64 yt.head, .slice yao yt.kids.length (yt.kids.length + ysp)]) ⟨yao, ysp, rfl, hyt⟩ (by omega) (by simp only [offs, offAll, Fct.box, Fct.marks, Fct.rowQ, and_true]; exact ⟨by omega, by omega, hgd, fun e => by rcases e with e | e; omega; have := HP.out _ e; omega, by omega⟩)
                rw [hset] at h9; exact h9
              have SB : St w (((w10.setCell ⟨gg, M.length * 2, none⟩ (.int .i64 yt.head)).setCell ⟨gg, M.length * 2 + 1, none⟩ (.slice yao yt.kids.length (yt.kids.length + ysp))).setCell ⟨b3 + 1, 0, none⟩ (.slice (some ⟨gg, 0, none⟩) (M.length + 1) cap)) [.box b3 #[.int .i64 (n : Int)] 3, .box (b3 + 1) #[.slice (some ⟨gg, 0, none⟩) (M.length + 1) cap] 32, .owns treeE H p (.slice (some ⟨gg, 0, none⟩) (M.length + 1) cap) (M ++ [yt]), .marks w.heap.size ds, .rowQ treeE (fun b => b3 + 2 ≤ b ∧ b < H) p (some ⟨b, off, none⟩) ts, .box bx #[.slice ao fs.length (fs.length + sp)] 41] := SA.set1 1 rfl (.slice (some ⟨gg, 0, none⟩) (M.length + 1) cap) (by omega) (by
                simp only [offs, offAll, Fct.box, Fct.marks, Fct.rowQ, Fct.owns, Value.ownBlock, and_true]
                refine ⟨by omega, fun e => ?_, fun e => ?_, fun e => by rcases e with e | e; omega; have := HP.out _ e; omega, by omega⟩
                · rcases e with e | e; simp at e; omega; (have := HP.out _ e; omega)
                · have hmm := ((S10.marks 3).2 _ e).2; rw [S10.block 1] at hmm; cases hmm)
              have SC : St w (w10.setCell ⟨b3 + 1, 0, none⟩ (.slice (some ⟨gg, 0, none⟩) (M.length + 1) cap)) [.box b3 #[.int .i64 (n : Int)] 3, .box (b3 + 1) #[.slice (some ⟨gg, 0, none⟩) (M.length + 1) cap] 32, .owns treeE H p (.slice (some ⟨gg, 0, none⟩) (M.length + 1) cap) (M ++ [zeroT]), .marks w.heap.size ds, .rowQ treeE (fun b => b3 + 2 ≤ b ∧ b < H) p (some ⟨b, off, none⟩) ts, .box bx #[.slice ao fs.length (fs.length + sp)] 41] := S10.set1 1 rfl (.slice (some ⟨gg, 0, none⟩) (M.length + 1) cap) (by omega) (by
                simp only [offs, offAll, Fct.box, Fct.marks, Fct.rowQ, Fct.owns, Value.ownBlock, and_true]
                refine ⟨by omega, fun e => ?_, fun e => ?_, fun e => by rcases e with e | e; omega; have := HP.out _ e; omega, by omega⟩
                · rcases e with e | e; simp at e; omega; (have := HP.out _ e; omega)
                · have hmm := ((S10.marks 3).2 _ e).2; rw [S10.block 1] at hmm; cases hmm)
              have SD : St w (((w10.setCell ⟨b3 + 1, 0, none⟩ (.slice (some ⟨gg, 0, none⟩) (M.length + 1) cap)).setCell ⟨gg, M.length * 2, none⟩ (.int .i64 yt.head)).setCell ⟨gg, M.length * 2 + 1, none⟩ (.slice yao yt.kids.length (yt.kids.length + ysp))) [.box b3 #[.int .i64 (n : Int)] 3, .box (b3 + 1) #[.slice (some ⟨gg, 0, none⟩) (M.length + 1) cap] 32, .owns treeE H p (.slice (some ⟨gg, 0, none⟩) (M.length + 1) cap) (M ++ [yt]), .marks w.heap.size ds, .rowQ treeE (fun b => b3 + 2 ≤ b ∧ b < H) p (some ⟨b, off, none⟩) ts, .box bx #[.slice ao fs.length (fs.length + sp)] 41] := by
                have h9 := SC.putE treeE 2 rfl (by simp) (j := M.length) (by simp) (x := yt) (cs := [.int .i64 yt.head, .slice yao yt.kids.length (yt.kids.length + ysp)]) ⟨yao, ysp, rfl, (hyt.setCell (a := ⟨b3 + 1, 0, none⟩) (by show ¬ (p (b3 + 1) ∧ b3 + 1 ≠ gg); intro h; have := HP.out _ h.1; omega) _)⟩ (by omega) (by simp only [offs, offAll, Fct.box, Fct.marks, Fct.rowQ, and_true]; exact ⟨by omega, by omega, hgd, fun e => by rcases e with e | e; omega; have := HP.out _ e; omega, by omega⟩)
                rw [hset] at h9; exact h9
              have SB := Lib.hid SB; have SD := Lib.hid SD
              obtain ⟨css9, hcl9, hown9, hk9⟩ := S10.owns treeE 2
              have hown9 : w10.ownsRow H 38 2 (.slice (some ⟨gg, 0, none⟩) (M.length + 1) cap) (M.length + 1) css9.flatten := by have := hown9; simp at this; exact this
              have FIN := Lib.hid (fun W (SW : St w W [.box b3 #[.int .i64 (n : Int)] 3, .box (b3 + 1) #[.slice (some ⟨gg, 0, none⟩) (M.length + 1) cap] 32, .owns treeE H p (.slice (some ⟨gg, 0, none⟩) (M.length + 1) cap) (M ++ [yt]), .marks w.heap.size ds, .rowQ treeE (fun b => b3 + 2 ≤ b ∧ b < H) p (some ⟨b, off, none⟩) ts, .box bx #[.slice ao fs.length (fs.length + sp)] 41]) (hsz : w10.heap.size ≤ W.heap.size) (hBB : ∀ b, b < V.heap.size → b ≠ gg → b ≠ b3 + 1 → W.heap[b]? = w10.heap[b]?) => (
                have hv9 : V.heap.size ≤ w9.heap.size := HB3.out.size
                have h9 : w9.heap.size ≤ w10.heap.size := by simpa using hs10
                have hw1 : ∀ b, b < V.heap.size → (w9.drew.alloc (.cells #[.int .i64 0, .slice none 0 0] 38)).heap[b]? = V.heap[b]? := fun b hb => (Below.heap_alloc w9.drew _ b (by simp; omega)).trans (HB3.out.block b hb)
                have hat2 : (Value.slice go M.length (M.length + gsp)).ownBlock = some gg ∨ V.heap.size ≤ gg := hat.imp id (fun e => by simp at e; omega)
                have hk1 : KeepsFrom w7.heap.size V W := KeepsFrom.app (by omega) (SVH.out.owns treeE 2) (SVH.out.block 1) hw1 (by simp; omega) hgr hat2 hBB
                have hbV : Below w.heap.size V W := ⟨SW.bel.os.trans SVH.out.bel.os.symm, SW.bel.tape.trans SVH.out.bel.tape.symm, SW.bel.output.trans SVH.out.bel.output.symm, by omega, fun b hb => (SW.bel.block b hb).trans (SVH.out.bel.block b hb).symm⟩
                have hk2 : KpM w.heap.size bq V W := KpM.app hbV (SVH.out.owns treeE 2) (fun e => HN0.out e) hw1 (by simp; omega) hsm hgr hat2 hown9 hBB (by omega)
                (⟨hk1, hk2, _, by rw [HSN.out, HPS.out, HAD.out]; exact SW, by rw [HSN.out, HPS.out, HAD.out]; exact fun e => by simp at e, by omega⟩ : KeepsFrom w7.heap.size V W ∧ KpM w.heap.size bq V W ∧ ∃ o2, St w W [.box b3 #[.int .i64 (n : Int)] 3, .box (b3 + 1) #[o2] 32, .owns treeE H p o2 (((pre ++ [(⟨ypl, yao, ysp, yt, yat, yht, ym⟩ : NY p w x)]).map (·.t)).foldl (patStep n) L), .marks w.heap.size ds, .rowQ treeE (fun b => b3 + 2 ≤ b ∧ b < H) p (some ⟨b, off, none⟩) ts, .box bx #[.slice ao fs.length (fs.length + sp)] 41] ∧ (((pre ++ [(⟨ypl, yao, ysp, yt, yat, yht, ym⟩ : NY p w x)]).map (·.t)).foldl (patStep n) L = [] → o2 = .slice none 0 0) ∧ w7.heap.size ≤ W.heap.size)))
              clear hk9 hcl9
              clear SA SC hown9 hset hyt hgd hat hsm hgr hz2 hz3 hz5 hz6 hz7 hz8 S10 hs10 hml h1 h2 h3 h4
              refine HK.out _ _ (fun h => absurd h (by decide)) ?_
              try simp only [Act.put, List.setIfInBounds_toArray, List.set_cons_zero, List.set_cons_succ]
              refine wpH.two (i := 5) (j := 7) (by kernel_rfl) ?_ ?_
              · intro oi ho
                simp only [List.getElem?_toArray, List.getElem?_cons_succ, List.getElem?_cons_zero, Option.some.injEq] at ho
                subst ho
                intro K hK
                have HK := Lib.hid hK
                clear hK
                go_simp
                refine HK.out _ _ (fun h => absurd h (by decide)) ?_
                try simp only [Act.put, List.setIfInBounds_toArray, List.set_cons_zero, List.set_cons_succ]
                refine wpH.two (i := 6) (j := 7) (by kernel_rfl) ?_ ?_
                · intro oi ho
                  simp only [List.getElem?_toArray, List.getElem?_cons_succ, List.getElem?_cons_zero, Option.some.injEq] at ho
                  subst ho
                  intro K hK
                  have HK := Lib.hid hK
                  clear hK
                  go_simp
                  refine HK.out _ _ (fun h => absurd h (by decide)) ?_
                  try simp only [Act.put, List.setIfInBounds_toArray, List.set_cons_zero, List.set_cons_succ]
                  refine wpH.one (i := 7) (by kernel_rfl) ?_
                  intro oi ho
                  simp only [List.getElem?_toArray, List.getElem?_cons_succ, List.getElem?_cons_zero, Option.some.injEq] at ho
                  subst ho
                  intro K hK
                  have HK := Lib.hid hK
                  clear hK
                  go_simp
                  refine HK.out _ _ (fun h => absurd h (by decide)) ?_
                  try simp only [Act.put, List.setIfInBounds_toArray, List.set_cons_zero, List.set_cons_succ]
                  refine wpH.done (by kernel_rfl) ?_
                  gi_wp2
                  exact FIN.out _ SB.out (by simp) (fun b2 q1 q2 q3 => by simp only [World.setCell, Array.getElem?_modify]; rw [if_neg (by show ¬ _; omega), if_neg (by show ¬ _; omega), if_neg (by show ¬ _; omega)])
                · intro oi ho
                  simp only [List.getElem?_toArray, List.getElem?_cons_succ, List.getElem?_cons_zero, Option.some.injEq] at ho
                  subst ho
                  intro K hK
                  have HK := Lib.hid hK
                  clear hK
                  go_simp
                  refine HK.out _ _ (fun h => absurd h (by decide)) ?_
                  try simp only [Act.put, List.setIfInBounds_toArray, List.set_cons_zero, List.set_cons_succ]
                  refine wpH.one (i := 6) (by kernel_rfl) ?_
                  intro oi ho
                  simp only [List.getElem?_toArray, List.getElem?_cons_succ, List.getElem?_cons_zero, Option.some.injEq] at ho
                  subst ho
                  intro K hK
                  have HK := Lib.hid hK
                  clear hK
                  go_simp
                  refine HK.out _ _ (fun h => absurd h (by decide)) ?_
                  try simp only [Act.put, List.setIfInBounds_toArray, List.set_cons_zero, List.set_cons_succ]
                  refine wpH.done (by kernel_rfl) ?_
                  gi_wp2
                  exact FIN.out _ SD.out (by simp) (fun b2 q1 q2 q3 => by simp only [World.setCell, Array.getElem?_modify]; rw [if_neg (by show ¬ _; omega), if_neg (by show ¬ _; omega), if_neg (by show ¬ _; omega)])
              · intro oi ho
                simp only [List.getElem?_toArray, List.getElem?_cons_succ, List.getElem?_cons_zero, Option.some.injEq] at ho
                subst ho
                intro K hK
                have HK := Lib.hid hK
                clear hK
                go_simp
                refine HK.out _ _ (fun h => absurd h (by decide)) ?_
                try simp only [Act.put, List.setIfInBounds_toArray, List.set_cons_zero, List.set_cons_succ]
                refine wpH.one (i := 5) (by kernel_rfl) ?_
                intro oi ho
                simp only [List.getElem?_toArray, List.getElem?_cons_succ, List.getElem?_cons_zero, Option.some.injEq] at ho
                subst ho
                intro K hK
                have HK := Lib.hid hK
                clear hK
                go_simp
                refine HK.out _ _ (fun h => absurd h (by decide)) ?_
                try simp only [Act.put, List.setIfInBounds_toArray, List.set_cons_zero, List.set_cons_succ]
                refine wpH.one (i := 6) (by kernel_rfl) ?_
                intro oi ho
                simp only [List.getElem?_toArray, List.getElem?_cons_succ, List.getElem?_cons_zero, Option.some.injEq] at ho
                subst ho
                intro K hK
                have HK := Lib.hid hK
                clear hK
                go_simp
                refine HK.out _ _ (fun h => absurd h (by decide)) ?_
                try simp only [Act.put, List.setIfInBounds_toArray, List.set_cons_zero, List.set_cons_succ]
                refine wpH.done (by kernel_rfl) ?_
                gi_wp2
                exact FIN.out _ SD.out (by simp) (fun b2 q1 q2 q3 => by simp only [World.setCell, Array.getElem?_modify]; rw [if_neg (by show ¬ _; omega), if_neg (by show ¬ _; omega), if_neg (by show ¬ _; omega)])
      case done =>
        rintro D xs V hD hxs ⟨o', SV, hn', hV⟩ hK
        have hpr := mapY_snd hxs
        have HLK := (show (xs.map (·.t)).foldl (patStep n) L = (preL (ts.take (k + 1))).foldl (patStep n) [] by rw [hpr, HTK.out, List.foldl_append, ← HL.out])
        have hm0 := SV.marks 3
        have HMK := Lib.hid (show Marks w.heap.size V (D :: ds) from ⟨List.nodup_cons.2 ⟨fun hm => by have := HMD.out D hm; omega, hm0.1⟩, fun b2 hb2 => by
          rcases List.mem_cons.1 hb2 with rfl | hb2
          · exact ⟨by omega, hK⟩
          · exact hm0.2 b2 hb2⟩)
        have SN := (((SV.pick [5, 0, 1, 2, 4]).add (.marks w.heap.size (D :: ds)) HMK.out))
        obtain ⟨FN, hFN⟩ : ∃ X, X = (xs.map (·.t)).foldl (patStep n) L := ⟨_, rfl⟩
        rw [← hFN] at hn' HLK SN
        have SN := Lib.hid SN; have HLK := Lib.hid HLK
        have HNV := Lib.hid hn'
        have zV : H ≤ V.heap.size := by omega
        have HLEN := Lib.hid (show (k : Int) + 1 = ((k + 1 : Nat) : Int) by omega)
        clear hm0 hK hxs hpr SV hn'
        go_wp2_with fail
        refine ⟨⟨k + 1, by omega, D :: ds, ⟨HLEN.out, rfl⟩, FN, HLK, o', HNV.out, SN.out⟩, ?_⟩
        simp [intOf] <;> omega
      case stop =>
        rintro D c' pre V _ _ h _
        exact h.elim
    · obtain rfl : k = ts.length := by omega
      obtain ⟨v0, v1⟩ := S.one 2
      have hlb := S.lt 2
      have HMK := Lib.hid (S.marks 5)
      have HO := Lib.hid (S.owns treeE 3)
      have HSB := Lib.hid S.bel
      have HF := Lib.hid (show L = patF fs by rw [HL.out, List.take_length]; unfold patF; rw [← HTS.out, ← HN.out])
      clear S
      go_wp2_with fail
      refine bodyM_marks2 HMK.out HSB.out.size (fun w' hb' hk' => ⟨_, results_tmp rfl _ _ _, _, rfl, ?_, HSB.out.trans hb'⟩)
      rw [← HF.out]
      refine Elt.Own.low' ((Fct.owns treeE H p ov L).stable W w' (fun b hb hlt => ?_) HO.out) (by have := HBX.out; have := HX3.out; have := HZ5.out; omega)
      rcases hb with hb | hb
      · obtain ⟨css, _, ho, _⟩ := HO.out
        rcases ho.2 with ⟨rfl, _⟩ | ⟨g, cap0, cur0, rfl, _, hgg, _⟩
        · simp [Value.ownBlock] at hb
        · have hbg : g = b := by simpa [Value.ownBlock] using hb
          subst hbg
          exact hk' _ _ hgg (fun d e => by cases e)
      · exact hb'.block b (HP.out b hb)
end Go.Proofs.Ytlhnfdjidjgfgaa
