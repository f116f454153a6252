/-
  Walk: pat.Do.
-/
import Derived.Test.YtlhnfdjidjgfgaaProg
import Derived.Test.YtlhnfdjidjgfgaaPb7
import Derived.Test.YtlhnfdjidjgfgaaPa6
import Derived.RegionTactic
namespace Go.Proofs.Ytlhnfdjidjgfgaa
open Go.RowKit Go.Shelf Go.Maps
set_option linter.unusedVariables false
set_option maxHeartbeats 400000
attribute [local go_sem] Oper.semAt_some

/-- the marks are taken up: all else lies as it lay -/
theorem leaves_marks3 {n B : Nat} {P : Program} {fn : Func} {tmps : Array Value} {R : Ending → World → Prop} : ∀ (ds : List Nat) (w : World), Marks B w ds →
    (∀ w', Below B w w' → (∀ b : Nat, b ∉ ds → w'.heap[b]? = w.heap[b]?) → w'.heap.size = w.heap.size → ∃ v, (results fn tmps).run P w' = .ok v w' ∧ R (.returned v) w') → B ≤ w.heap.size →
    LeavesInM Fence.wide n P fn tmps R (ds.map mark) .returning w
  | [], w, _, H, _ => H w (Below.refl _ _) (fun _ _ => rfl) rfl
  | D :: ds, w, hm, H, hB => by
    have hD := hm.2 D (by simp)
    have hn := List.nodup_cons.1 hm.1
    refine ⟨by simp, .inl ⟨D, w.putObj D (.deferred none), rfl, run_takeDeferred hD.2, ?_⟩⟩
    have hbD : Below B w (w.putObj D (.deferred none)) := (Below.refl B w).grown (grownBy_putObj' w D _) hB (fun k e => by cases e; exact hD.1)
    refine leaves_marks3 ds _ ⟨hn.2, fun b hb => ⟨(hm.2 b (by simp [hb])).1, (World.putObj_heap_other (fun e => hn.1 (by rw [← e]; exact hb))).trans (hm.2 b (by simp [hb])).2⟩⟩ ?_ (by simpa using hB)
    intro w' hb' hk' hs'
    refine H w' (hbD.trans hb') (fun b hb => ?_) (by simpa using hs')
    have hne : b ≠ D := fun e => hb (by simp [e])
    have e1 : (w.putObj D (.deferred none)).heap[b]? = w.heap[b]? := World.putObj_heap_other hne
    exact (hk' b (fun h => hb (by simp [h]))).trans e1
theorem retM_zf {n B : Nat} {P : Program} {fn : Func} {tmps : Array Value} {R : Ending → World → Prop} (ds : List Nat) {w : World} (z p q : Value) (c : Nat) (T' : TypeId) (hc : w.heap[c]? = some (.cells #[p, q] T' (0, 0))) (hm : Marks B w ds) (hB : B ≤ w.heap.size)
    (hres : ∀ w' : World, w'.cell? ⟨c, 0, none⟩ = some p → w'.cell? ⟨c, 1, none⟩ = some q → (results fn tmps).run P w' = .ok (.tuple #[z, .agg #[p, q]]) w')
    (hR : ∀ w', Below B w w' → (∀ b : Nat, b ∉ ds → w'.heap[b]? = w.heap[b]?) → w'.heap.size = w.heap.size → R (.returned (.tuple #[z, .agg #[p, q]])) w') :
    bodyPostM Fence.wide n P fn R .ret { tmps := tmps, defers := ds.map mark } w :=
  leaves_marks3 ds w hm (fun w' h1 h2 h3 => by
    have h4 := (h2 c (fun h => by rw [(hm.2 c h).2] at hc; cases hc)).trans hc
    exact ⟨_, hres w' (box2 h4).1.1 (box2 h4).2.1, hR w' h1 h2 h3⟩) hB
def DoPatP (qi : Nat → Prop) (r : List (List Fc) × (Int × Int)) (w : World) (e : Ending) (w' : World) : Prop :=
  ∃ ro sp, e = .returned (.tuple #[.slice ro r.1.length (r.1.length + sp), .agg #[.int .i64 r.2.1, .int .i64 r.2.2]]) ∧ claimE.Row (fun b => qi b ∨ w.heap.size ≤ b) w' ro r.1 ∧ Below w.heap.size w w'

set_option maxRecDepth 100000 in
set_option maxHeartbeats 8000000 in
theorem patDo29 (qi : Nat → Prop) (ar : List Int) (cs : List (List Fc)) (gs : List T) (ao co go_ : Option Addr) (ca cc gsp : Nat) (w : World)
    (hqi : ∀ b, qi b → b < w.heap.size) (ha : intE.Row qi w ao ar) (hc : claimE.Row qi w co cs) (hg : treeE.Row qi w go_ gs) (har : ar.length ≤ maxLen) (hcn : cs.length ≤ maxLen) (hgn : gs.length ≤ maxLen) :
    Calls Try.prog 29 #[.agg #[.slice ao ar.length ca, .slice co cs.length cc], .slice go_ gs.length gsp] w (DoPatP qi (patDoF ar cs gs) w) := by
  have HQI := Lib.hid hqi
  have HA := Lib.hid ha; have HC := Lib.hid hc; have HG := Lib.hid hg; have HAR := Lib.hid har; have HCN := Lib.hid hcn; have HGN := Lib.hid hgn
  have hgn' : gs.length ≤ 9223372036854775807 := by unfold maxLen at hgn; omega
  have hcn' : cs.length ≤ 9223372036854775807 := by unfold maxLen at hcn; omega
  obtain ⟨bx, hbx⟩ : ∃ b, b = w.heap.size := ⟨_, rfl⟩
  have S1 := ((St.start w).box hbx.symm #[.slice ao ar.length ca, .slice co cs.length cc] 25).box (b := bx + 1) (by simp [hbx]) #[.int .i64 0, .int .i64 0] 29
  have hsz1 : ((w.alloc (.cells #[.slice ao ar.length ca, .slice co cs.length cc] 25)).alloc (.cells #[.int .i64 0, .int .i64 0] 29)).heap.size = bx + 2 := by simp [hbx]
  have HBX := Lib.hid (show w.heap.size ≤ bx ∧ bx ≤ w.heap.size by omega)
  obtain ⟨⟨x0, _⟩, x1, _⟩ := S1.two 0
  clear ha hc hg har hcn hgn hqi
  refine (callsIn_wide (n := 4)).1 ?_
  refine callsIn_of_wp_marks Try.func29 rfl trivial ?_ rfl
  simp only [Try.ntmps29, List.size_toArray, List.length_cons, List.length_nil, Nat.reduceAdd, Nat.reduceSub, Array.replicate_succ, Array.replicate_zero, List.push_toArray, List.append_toArray, List.nil_append, List.cons_append]
  refine wpIn_wide.2 ?_
  go_wp2_with fail
  rw [← hbx]
  refine S1.gen (z := bx + 2) (by omega) ?_
  clear S1 hbx hsz1 x0 x1
  intro w1 z1 S
  refine (check72 ar cs gs ao co go_ ca cc gsp w1 ((HA.out.kept S.bel).mono (fun b h h2 => h2)) ((HC.out.kept S.bel).mono (fun b h h2 => h2)) ((HG.out.kept S.bel).mono (fun b h h2 => h2)) HAR.out HCN.out HGN.out).mono ?_
  rintro e w2 ⟨rfl, hb2⟩
  have S2 := S.step hb2
  have z2 := hb2.size
  obtain ⟨C, D, hCD⟩ : ∃ C D, pchkF ar cs gs = (C, D) := ⟨_, _, rfl⟩
  rw [hCD]
  have HCD := Lib.hid hCD
  obtain ⟨b6, hb6⟩ : ∃ b, b = w2.heap.size := ⟨_, rfl⟩
  have S3 := S2.box hb6.symm #[.int .i64 C, .int .i64 D] 29
  have hsz3 : (w2.alloc (.cells #[.int .i64 C, .int .i64 D] 29)).heap.size = b6 + 1 := by simp [hb6]
  have HB6 := Lib.hid (show bx + 2 ≤ b6 by omega)
  clear S S2 hb2 hCD
  dsimp only [FV]
  by_cases hC : C = 0
  case neg =>
    have hcb : (C != 0) = true := by simp [hC]
    have HF := Lib.hid (show patDoF ar cs gs = ([], (C, D)) by unfold patDoF; rw [if_pos (by rw [HCD.out]; exact hC), HCD.out])
    obtain ⟨⟨y0, y1⟩, y2, y3⟩ := S3.two 1
    have hl1 := S3.lt 1
    have SB := Lib.hid S3
    clear S3 hC
    go_wp2_with fail
    go_region
    all_goals go_wp2_with fail
    all_goals
      refine retM_zf [] (.slice none 0 0) (.int .i64 C) (.int .i64 D) (bx + 1) 29 (box2_set (show (w2.alloc (.cells #[.int .i64 C, .int .i64 D] 29)).drew.heap[bx + 1]? = _ from SB.out.block 1) _ _) (Marks.nil w.heap.size _) (by have := SB.out.size; simp at this; simp; omega) (fun w' q0 q1 => by simp [results, Try.results29, go_sem, q0, q1]) ?_
      intro w' hb' _ _
      rw [HF.out]
      exact ⟨none, 0, rfl, fun i x hi => by simp at hi, ((SB.out.drew.bel.setCell (p := ⟨bx + 1, 0, none⟩) (by have := HBX.out; show w.heap.size ≤ bx + 1; omega) _).setCell (p := ⟨bx + 1, 1, none⟩) (by have := HBX.out; show w.heap.size ≤ bx + 1; omega) _).trans hb'⟩
  case pos =>
  subst hC
  have HZ := Lib.hid (pchkF_zero (show (pchkF ar cs gs).1 = 0 by rw [HCD.out]))
  have HF := Lib.hid (show patDoF ar cs gs = doGo ar (subsF gs) cs 0 [] by unfold patDoF; rw [if_neg (by rw [HCD.out]; simp)])
  have S4 := S3.box (b := b6 + 1) (by simp [hb6]) #[.slice none 0 0] 32
  have hsz4 : ((w2.alloc (.cells #[.int .i64 0, .int .i64 D] 29)).alloc (.cells #[.slice none 0 0] 32)).heap.size = b6 + 2 := by simp [hb6]
  obtain ⟨⟨y0, _⟩, y1, _⟩ := S3.two 2
  clear S3 hsz3
  have hgl : gs.length ≤ 60 := HZ.out.2.1
  go_wp2_with fail
  rw [← hb6]
  refine S4.genC (z := b6 + 2) (by omega) ?_
  clear S4 hb6 hsz4 y0 y1
  intro w5 z5 S
  obtain ⟨H, hH⟩ : ∃ H, H = w5.heap.size := ⟨_, rfl⟩
  have HH2 := Lib.hid (show b6 + 2 ≤ H by omega)
  have S3 := (S.add (.owns treeE H qi (.slice none 0 0) []) (Elt.Own.nil _ _ _ _)).add (.marks w.heap.size []) (Marks.nil _ _)
  have zH : H ≤ w5.heap.size := by omega
  have S3 : St w w5 [.box bx #[.slice ao ar.length ca, .slice co cs.length cc] 25, .box (bx + 1) #[.int .i64 0, .int .i64 0] 29, .box b6 #[.int .i64 0, .int .i64 D] 29, .box (b6 + 1) #[.slice none 0 0] 32, .owns treeE H qi (.slice none 0 0) [], .marks w.heap.size []] := S3
  clear S hH
  have HGZ := Lib.hid (fun i (hi : i < gs.length) => treeF_ok.1 (HZ.out.2.2 (gK gs i) (by rw [gK_get hi]; exact List.getElem_mem hi)).1)
  have HSZ := Lib.hid (show sizeL gs ≤ 10000 by
    have h1 := sizeL_bound (n := 40) (l := gs) (fun t ht => (treeF_ok.1 (HZ.out.2.2 t ht).1).1)
    omega)
  refine wp_loop (fun a W => ∃ (k : Nat) (ds : List Nat) (L : List T) (ov z9 z26 z27 z28 z29 z30 z43 : Value), k ≤ gs.length ∧
      a = { tmps := #[.agg #[.slice ao ar.length ca, .slice co cs.length cc], .slice go_ gs.length gsp, .pointer (some ⟨bx, 0, none⟩), undef, .slice none 0 0, .pointer (some ⟨bx + 1, 0, none⟩), .pointer (some ⟨b6, 0, none⟩), .pointer (some ⟨b6 + 1, 0, none⟩), undef, z9, undef, undef, undef, undef, undef, undef, .agg #[.slice ao ar.length ca, .slice co cs.length cc], .slice go_ gs.length gsp, .agg #[.int .i64 0, .int .i64 D], .pointer (some ⟨b6, 0, none⟩), .int .i64 0, .bool false, undef, .slice go_ gs.length gsp, .int .i64 (gs.length : Int), .int .i64 (k : Int), z26, z27, z28, z29, z30, undef, undef, undef, undef, undef, undef, undef, undef, undef, undef, undef, undef, z43, undef, undef, undef, undef, undef, undef, undef, undef, undef, undef, undef, undef, undef, undef, undef, undef, undef, undef, undef], defers := ds.map mark } ∧
      Hid (L = (preL (gs.take k)).foldl addT []) ∧ (L = [] → ov = .slice none 0 0) ∧ H ≤ W.heap.size ∧
      St w W [.box bx #[.slice ao ar.length ca, .slice co cs.length cc] 25, .box (bx + 1) #[.int .i64 0, .int .i64 0] 29, .box b6 #[.int .i64 0, .int .i64 D] 29, .box (b6 + 1) #[ov] 32, .owns treeE H qi ov L, .marks w.heap.size ds]) (fun a _ => gs.length - (intOf (a.tmps.getD 25 undef)).toNat) ?start ?round
  case start => exact ⟨0, [], [], _, _, _, _, _, _, _, _, by omega, rfl, Lib.hid rfl, fun _ => rfl, zH, S3⟩
  case round =>
    clear S3 zH
    rintro a W ⟨k, ds, L, ov, z9, z26, z27, z28, z29, z30, z43, hk, rfl, HL, hnil, zW, S⟩
    have HNL := Lib.hid hnil
    clear hnil
    by_cases hlt : k < gs.length
    · have hlti : (k : Int) < (gs.length : Int) := by omega
      obtain ⟨b, off, ko, ksp, rfl, _, c0', c1', ht'⟩ := (HG.out).tree hlt
      have c0 := Below.cellOf S.bel c0'
      have c1 := Below.cellOf S.bel c1'
      rw [← gK_get hlt] at c0 c1 ht'
      have HSK := Lib.hid (HGZ.out k hlt)
      have HTK := Lib.hid (preL_take hlt)
      have HST := Lib.hid (show sizeL (gs.take k) + (gK gs k).size ≤ 10000 by have h1 := sizeL_take hlt; have h2 := sizeL_take_le gs (k + 1); have := HSZ.out; omega)
      have HTP := Lib.hid ht'
      clear ht' c0' c1'
      generalize gK gs k = x at c0 c1 HSK HTK HST HTP ⊢
      obtain ⟨bq, hbq⟩ : ∃ b, b = W.heap.size := ⟨_, rfl⟩
      have S4 := S.box hbq.symm #[.int .i64 x.head, .slice ko x.kids.length (x.kids.length + ksp)] 38
      have hsz4 : (W.alloc (.cells #[.int .i64 x.head, .slice ko x.kids.length (x.kids.length + ksp)] 38)).heap.size = bq + 1 := by simp [hbq]
      have HBQ := Lib.hid (show H ≤ bq by omega)
      clear S zW
      go_wp2_with fail
      rw [← hbq]
      refine S4.gen (z := bq + 1) (by omega) ?_
      clear S4 hbq hsz4 c0 c1
      intro w6 z6' S
      refine (nodes48 (.agg #[.int .i64 x.head, .slice ko x.kids.length (x.kids.length + ksp)]) x w6 (HTP.out.at.kept S.bel)).mono ?_
      rintro e w7 ⟨rfl, hw7⟩
      replace hw7 : w7 = w6.alloc (.cells #[.int .i64 x.head, .slice ko x.kids.length (x.kids.length + ksp)] 38) := hw7
      obtain ⟨bk, hbk⟩ : ∃ b, b = w6.heap.size := ⟨_, rfl⟩
      have S5 := S.box hbk.symm #[.int .i64 x.head, .slice ko x.kids.length (x.kids.length + ksp)] 38
      rw [← hw7] at S5
      have hs7 : bk + 1 ≤ w7.heap.size ∧ w7.heap.size ≤ bk + 1 := by rw [hw7, hbk]; simp
      have HBK := Lib.hid (show bq + 1 ≤ bk by omega)
      rw [← hbk]
      clear hw7 hbk S z6'
      go_wp2_with fail
      have hk7 := S5.block 7
      have hbel := S5.bel
      have hq1 := HBQ.out
      have hq2 := HBK.out
      have hq3 := HH2.out
      have hq4 := HB6.out
      have hq5 := HBX.out
      have HK7 := Lib.hid hk7
      have hlL : L.length ≤ sizeL (gs.take k) := by
        rw [HL.out]
        have h1 := foldT_len (preL (gs.take k)) []
        have h2 := preL_len (gs.take k)
        simp at h1; omega
      have HLL := Lib.hid hlL
      have HOK := Lib.hid HSK.out.2.2
      have HXS := Lib.hid HSK.out.1
      have HXD := Lib.hid HSK.out.2.1
      have S6 : St w w7 [.box bx #[.slice ao ar.length ca, .slice co cs.length cc] 25, .box (bx + 1) #[.int .i64 0, .int .i64 0] 29, .box (b6 + 1) #[ov] 32, .owns treeE H qi ov L, .marks w.heap.size ds, .box b6 #[.int .i64 0, .int .i64 D] 29] := S5.pick [0, 1, 3, 4, 5, 2]
      have hmk := S6.marks 4
      have hmD : ∀ D ∈ ds, D < w7.heap.size := fun D hD => (Array.getElem?_eq_some_iff.1 (hmk.2 D hD).2).1
      have HMD := Lib.hid hmD
      have hGF : ∀ (pre : List (NY qi w x)) (o' : Value), ((pre.map (·.t)).foldl addT L = [] → o' = .slice none 0 0) → ∀ f ∈ ([.box bx #[.slice ao ar.length ca, .slice co cs.length cc] 25, .box (bx + 1) #[.int .i64 0, .int .i64 0] 29, .box (b6 + 1) #[o'] 32, .owns treeE H qi o' ((pre.map (·.t)).foldl addT L), .marks w.heap.size ds, .box b6 #[.int .i64 0, .int .i64 D] 29] : List Fct), GoodF w7.heap.size f := by
        intro pre o' _ f hf
        simp only [List.mem_cons, List.not_mem_nil, or_false] at hf
        rcases hf with rfl | rfl | rfl | rfl | rfl | rfl
        · exact GoodF.box _ _ _ _
        · exact GoodF.box _ _ _ _
        · exact GoodF.box _ _ _ _
        · exact GoodF.owns treeE (fun b hb => by have h9 := HQI.out b hb; omega)
        · exact GoodF.below (fun b hb => hmD b hb)
        · exact GoodF.box _ _ _ _
      clear S5 hk7 hmk
      refine (wpIn_wide (n := 4)).1 ?_
      refine wpIn_rangeFunc_ownH rfl (by omega) (gf := 123) (lb := #[.pointer (some ⟨bk, 0, none⟩)]) rfl trivial (enters_of Try.func123 (by kernel_rfl) rfl)
        (nodes_stopsM qi w bq bk x ko ksp w7 (by have := HXS.out; omega) (by have := HXD.out; omega) (by omega) hbel (by omega) HTP.out HK7.out) (fun h k => KpM.trans h k) (KpM.putObj hbel.size) (Below.refl _ _) (fun _ => rfl)
        (fun pre V => ∃ o', St w V [.box bx #[.slice ao ar.length ca, .slice co cs.length cc] 25, .box (bx + 1) #[.int .i64 0, .int .i64 0] 29, .box (b6 + 1) #[o'] 32, .owns treeE H qi o' ((pre.map (·.t)).foldl addT L), .marks w.heap.size ds, .box b6 #[.int .i64 0, .int .i64 D] 29] ∧ ((pre.map (·.t)).foldl addT L = [] → o' = .slice none 0 0) ∧ w7.heap.size ≤ V.heap.size)
        (fun _ _ _ => False)
        (ownFrom_St (by omega) (fun _ => trivial) (fun (pre : List (NY qi w x)) o' => ((pre.map (·.t)).foldl addT L = [] → o' = .slice none 0 0)) _ hGF _)
        (fun _ _ _ _ _ hs _ _ => hs)
        ⟨ov, S6, HNL.out, Nat.le_refl _⟩
        (fun y a' V => ∃ Bx : Nat, V.heap[Bx]? = some (.cells #[.int .i64 y.t.head, .slice y.ao y.t.kids.length (y.t.kids.length + y.sp)] 38 (0, 0)) ∧ a' = { tmps := #[.agg #[.slice ao ar.length ca, .slice co cs.length cc], .slice (some ⟨b, off, none⟩) gs.length gsp, .pointer (some ⟨bx, 0, none⟩), undef, .slice none 0 0, .pointer (some ⟨bx + 1, 0, none⟩), .pointer (some ⟨b6, 0, none⟩), .pointer (some ⟨b6 + 1, 0, none⟩), undef, .pointer (some ⟨bq, 0, none⟩), undef, .pointer (some ⟨Bx, 0, none⟩), undef, undef, undef, undef, .agg #[.slice ao ar.length ca, .slice co cs.length cc], .slice (some ⟨b, off, none⟩) gs.length gsp, .agg #[.int .i64 0, .int .i64 D], .pointer (some ⟨b6, 0, none⟩), .int .i64 0, .bool false, undef, .slice (some ⟨b, off, none⟩) gs.length gsp, .int .i64 (gs.length : Int), .int .i64 (k : Int), .bool true, .pointer (some ⟨b, off + k * 2, none⟩), .agg #[.int .i64 x.head, .slice ko x.kids.length (x.kids.length + ksp)], .agg #[.int .i64 x.head, .slice ko x.kids.length (x.kids.length + ksp)], .func (.func 123) #[] #[.pointer (some ⟨bk, 0, none⟩)], y.pl, .agg #[.int .i64 y.t.head, .slice y.ao y.t.kids.length (y.t.kids.length + y.sp)], undef, undef, undef, undef, undef, undef, undef, undef, undef, undef, z43, undef, undef, undef, undef, undef, undef, undef, undef, undef, undef, undef, undef, undef, undef, undef, undef, undef, undef, undef], defers := [] })
        (fun y a' _ X Y row hs hg hr => by obtain ⟨Bx, q2, q3⟩ := hs; exact ⟨Bx, own_block Bx (fun _ : Unit => _) (fun _ => rfl) () X Y row q2 hg (fun r e => (hr r e).2), q3⟩)
        ?assign ?body ?done ?stop
      case assign =>
        rintro ll pre y V K ⟨o', SV, hn', hV⟩ hK
        have HK := Lib.hid hK; have SV := Lib.hid SV; have HN' := Lib.hid hn'
        simp only [NY.encs]
        clear hK hn'
        gi_wp2
        exact HK.out _ _ (KeepsFrom.alloc' _ _ _) (KpM.of ((Below.refl _ V).alloc (Nat.le_refl _) _) (by omega)) ⟨o', SV.out.alloc _, HN'.out, by simp; omega⟩ ⟨V.heap.size, heap_ofAlloc V _, rfl⟩
      case body =>
        rintro ll pre y a' V hl ⟨rr, hr⟩ ⟨o', SV, hn', hV⟩ ⟨Bx, hbx, rfl⟩ hlt3
        clear hr rr
        obtain ⟨ypl, yao, ysp, yt, yat, yht, ym⟩ := y
        obtain ⟨M, hM⟩ : ∃ M, M = (pre.map (·.t)).foldl addT L := ⟨_, rfl⟩
        rw [← hM] at SV hn'
        have HN0 := Lib.hid hn'
        obtain ⟨go, gsp2, rfl, hrq, _⟩ := (SV.owns treeE 3).rowQ
        have HRQ := Lib.hid hrq
        have HSN := Lib.hid (show ((pre ++ [(⟨ypl, yao, ysp, yt, yat, yht, ym⟩ : NY qi w x)]).map (·.t)).foldl addT L = addT M yt by rw [List.map_append, List.foldl_append, ← hM]; rfl)
        have HML := Lib.hid (show M.length ≤ 1000000 by
          have q1 := foldT_len (pre.map (·.t)) L
          have q2 := HLL.out
          have q3 := HST.out
          rw [← hM] at q1
          simp at q1; omega)
        have HYT := Lib.hid yht
        obtain ⟨⟨x0, _⟩, x1, _⟩ := box2 hbx
        obtain ⟨v0, _⟩ := SV.one 2
        have SVH := Lib.hid SV
        have HBX8 := Lib.hid hbx
        clear hM hbx hn' SV hrq
        dsimp only at x0 x1 ⊢
        gi_wp2_with fail
        refine ⟨trivial, ?_⟩
        refine (CallsIn.inRound ll (callsIn_wide.2 (has74 M yt _ go (M.length + gsp2) _ V HRQ.out.row (HYT.out.at.kept SVH.out.bel) HML.out))).mono ?_
        rintro e w9 ⟨rfl, hb9⟩
        have HB3 := Lib.hid hb9
        have x0 := Below.cellOf hb9 x0
        have x1 := Below.cellOf hb9 x1
        have v0 := Below.cellOf hb9 v0
        clear hb9
        by_cases hmem : yt ∈ M
        · rw [decide_eq_true hmem]
          have HAD := Lib.hid (show addT M yt = M by unfold addT; rw [if_pos hmem])
          clear hmem x0 x1 v0
          gi_wp2
          all_goals first
            | (exfalso; exact undef_bool (by assumption))
            | exact ⟨KeepsFrom.ofBelow HB3.out, KpM.of HB3.out (by omega), _, by rw [HSN.out, HAD.out]; exact SVH.out.step HB3.out, by rw [HSN.out, HAD.out]; exact HN0.out, Nat.le_trans hV HB3.out.size⟩
        · rw [decide_eq_false hmem]
          have HAD := Lib.hid (show addT M yt = M ++ [yt] by unfold addT; rw [if_neg hmem])
          clear hmem
          gi_wp2_with fail
          have FD := Lib.hid (fun W (hb : Below w9.heap.size w9 W) => (⟨Below.cellOf hb x0, Below.cellOf hb x1, Below.cellOf hb v0⟩ : _ ∧ _ ∧ _))
          have hml := HML.out
          have hml1 : (M.length : Int) < (M.length : Int) + 1 := by omega
          obtain ⟨i38, gi, gz0, gz1, gz2⟩ := info_parts infoT38
          refine wpH_region_round [4, 5, 6, 7] (fun W => W.cell? ⟨Bx, 0, none⟩ = some (.int .i64 yt.head) ∧ W.cell? ⟨Bx, 1, none⟩ = some (.slice yao yt.kids.length (yt.kids.length + ysp)) ∧ W.cell? ⟨b6 + 1, 0, none⟩ = some (.slice go M.length (M.length + gsp2))) (by kernel_rfl) (by kernel_rfl) (fun _ _ h => h) ?_
          have HB4 := Lib.hid (Below.refl w9.heap.size w9).drew
          have HS := FD.out _ HB4.out
          have S9 := Lib.hid (show St w w9.drew [.box bx #[.slice ao ar.length ca, .slice co cs.length cc] 25, .box (bx + 1) #[.int .i64 0, .int .i64 0] 29, .box (b6 + 1) #[.slice go M.length (M.length + gsp2)] 32, .owns treeE H qi (.slice go M.length (M.length + gsp2)) (M), .marks w.heap.size ds, .box b6 #[.int .i64 0, .int .i64 D] 29] from (SVH.out.step HB3.out).drew)
          clear x0 x1 v0
          refine wpH.take (i := 0) (by kernel_rfl) (by kernel_rfl) (by kernel_rfl) (by kernel_rfl) (by kernel_rfl) HS ?_
          intro oi ho
          simp only [List.getElem?_toArray, List.getElem?_cons_zero, Option.some.injEq] at ho
          subst ho
          refine ⟨?_, Or.inl ⟨by rfl, ?_⟩, fun _ _ _ h => h, ?_⟩
          rotate_left 1
          · intro W hW
            try dsimp only at hW
            go_simp
            try with_reducible rfl
          try simp only [Act.put, List.setIfInBounds_toArray, List.set_cons_zero, List.set_cons_succ]
          refine wpH.take (i := 1) (by kernel_rfl) (by kernel_rfl) (by kernel_rfl) (by kernel_rfl) (by kernel_rfl) HS ?_
          intro oi ho
          simp only [List.getElem?_toArray, List.getElem?_cons_succ, List.getElem?_cons_zero, Option.some.injEq] at ho
          subst ho
          refine ⟨?_, Or.inl ⟨by rfl, ?_⟩, fun _ _ _ h => h, ?_⟩
          rotate_left 1
          · intro W hW
            try dsimp only at hW
            go_simp
            try with_reducible rfl
          try simp only [Act.put, List.setIfInBounds_toArray, List.set_cons_zero, List.set_cons_succ]
          refine wpH.take (i := 2) (by kernel_rfl) (by kernel_rfl) (by kernel_rfl) (by kernel_rfl) (by kernel_rfl) HS ?_
          intro oi ho
          simp only [List.getElem?_toArray, List.getElem?_cons_succ, List.getElem?_cons_zero, Option.some.injEq] at ho
          subst ho
          refine ⟨?_, Or.inl ⟨by rfl, ?_⟩, fun _ _ _ h => h, ?_⟩
          rotate_left 1
          · intro W hW
            try dsimp only at hW
            go_simp
            try with_reducible rfl
          try simp only [Act.put, List.setIfInBounds_toArray, List.set_cons_zero, List.set_cons_succ]
          refine wpH.one (i := 3) (by kernel_rfl) ?_
          intro oi ho
          simp only [List.getElem?_toArray, List.getElem?_cons_succ, List.getElem?_cons_zero, Option.some.injEq] at ho
          subst ho
          intro K hK
          have HK := Lib.hid hK
          clear hK
          go_simp
          have HB5 := Lib.hid (HB4.out.alloc HB4.out.size (.cells #[.int .i64 0, .slice none 0 0] 38))
          refine HK.out _ _ (fun _ => FD.out _ HB5.out) ?_
          try simp only [Act.put, List.setIfInBounds_toArray, List.set_cons_zero, List.set_cons_succ]
          have HS := FD.out _ HB5.out
          refine wpH.one (i := 4) (by kernel_rfl) ?_
          intro oi ho
          simp only [List.getElem?_toArray, List.getElem?_cons_succ, List.getElem?_cons_zero, Option.some.injEq] at ho
          subst ho
          intro K hK
          have HK := Lib.hid hK
          clear hK
          rw [if_pos (by rfl)]
          have hv9 := HB3.out.size
          refine wp_app1 (.tmp 37) (.tmp 40) 32 rfl treeE S9.out 3 rfl (x := zeroT) (q := fun _ => False) (p' := qi) (fun e => HN0.out e) ⟨none, 0, rfl, TreeP.leaf _ _ _⟩ Try.underlying32 gi gz0 gz1 gz2 rfl rfl rfl rfl (by unfold maxLen; omega) (by omega) (by simp; omega) (by omega) ?c5 (fun b h => h.elim) (fun b h => h.elim id (fun h => h.elim)) ?_
          case c5 =>
            intro bb e1 e2 e3
            simp only [offs, offAll, Fct.box, Fct.marks, and_true]
            refine ⟨by omega, by omega, by omega, fun e => ?_, by omega⟩
            obtain ⟨css, _, ho, _⟩ := S9.out.owns treeE 3
            have hmm := ((S9.out.marks 4).2 bb e).2
            rcases ho.2 with ⟨h6, _⟩ | ⟨g6, cap6, cur6, h6, _, hg6, _⟩
            · rw [h6] at e1; simp [Value.ownBlock] at e1
            · have hbb : g6 = bb := by rw [h6] at e1; simpa [Value.ownBlock] using e1
              subst hbb; rw [hmm] at hg6; cases hg6
          intro gg cap w10 S10 hs10 hgg hat hsm hgr
          have S10 : St w w10 [.box bx #[.slice ao ar.length ca, .slice co cs.length cc] 25, .box (bx + 1) #[.int .i64 0, .int .i64 0] 29, .box (b6 + 1) #[.slice go M.length (M.length + gsp2)] 32, .owns treeE H qi (.slice (some ⟨gg, 0, none⟩) (M.length + 1) cap) (M ++ [zeroT]), .marks w.heap.size ds, .box b6 #[.int .i64 0, .int .i64 D] 29] := S10
          obtain ⟨zc, hz1, hz2, hz3, hz4, hz5, hz6, hz7, hz8⟩ := own_cells (S10.owns treeE 3) (i := M.length) (x := zeroT) (by simp)
          obtain ⟨zk, zsp, rfl, _⟩ := hz1
          have u0 : w10.cell? ⟨gg, M.length * 2, none⟩ = some (.int .i64 0) := hz2 0 _ rfl
          have u1 : w10.cell? ⟨gg, M.length * 2 + 1, none⟩ = some (.slice zk 0 (0 + zsp)) := hz2 1 _ rfl
          have f0 := hz3 (M.length * 2)
          have f1 := hz3 (M.length * 2 + 1)
          obtain ⟨v0, v1⟩ := S10.one 2
          have hlb := S10.lt 2
          have hne : b6 + 1 ≠ gg := by omega
          have HNE := Lib.hid hne
          have hgd : gg ∉ ds := fun e => by
            have hmm := ((S10.marks 4).2 gg e).2
            obtain ⟨css, _, ho, _⟩ := S10.owns treeE 3
            rcases ho.2 with ⟨h6, _⟩ | ⟨g6, cap6, cur6, h6, _, hg6, _⟩
            · simp at h6
            · simp only [Value.slice.injEq, Option.some.injEq, Addr.mk.injEq] at h6
              obtain ⟨⟨rfl, _⟩, _⟩ := h6
              rw [hmm] at hg6; cases hg6
          have hset : (M ++ [zeroT]).set M.length yt = M ++ [yt] := by rw [List.set_append_right _ _ (Nat.le_refl _)]; simp
          have hyt : TreeP (fun b => qi b ∧ b ≠ gg) w10 (.agg #[.int .i64 yt.head, .slice yao yt.kids.length (yt.kids.length + ysp)]) yt := (HYT.out.mono (fun b h _ => ⟨h, by have h9 := HQI.out b h; omega⟩)).kept S10.bel
          have SA : St w ((w10.setCell ⟨gg, M.length * 2, none⟩ (.int .i64 yt.head)).setCell ⟨gg, M.length * 2 + 1, none⟩ (.slice yao yt.kids.length (yt.kids.length + ysp))) [.box bx #[.slice ao ar.length ca, .slice co cs.length cc] 25, .box (bx + 1) #[.int .i64 0, .int .i64 0] 29, .box (b6 + 1) #[.slice go M.length (M.length + gsp2)] 32, .owns treeE H qi (.slice (some ⟨gg, 0, none⟩) (M.length + 1) cap) (M ++ [yt]), .marks w.heap.size ds, .box b6 #[.int .i64 0, .int .i64 D] 29] := by
            have h9 := S10.putE treeE 3 rfl (by simp) (j := M.length) (by simp) (x := yt) (cs := [.int .i64 yt.head, .slice yao yt.kids.length (yt.kids.length + ysp)]) ⟨yao, ysp, rfl, hyt⟩ (by omega) (by simp only [offs, offAll, Fct.box, Fct.marks, and_true]; exact ⟨by omega, by omega, by omega, hgd, by omega⟩)
            rw [hset] at h9; exact h9
          have SB : St w (((w10.setCell ⟨gg, M.length * 2, none⟩ (.int .i64 yt.head)).setCell ⟨gg, M.length * 2 + 1, none⟩ (.slice yao yt.kids.length (yt.kids.length + ysp))).setCell ⟨b6 + 1, 0, none⟩ (.slice (some ⟨gg, 0, none⟩) (M.length + 1) cap)) [.box bx #[.slice ao ar.length ca, .slice co cs.length cc] 25, .box (bx + 1) #[.int .i64 0, .int .i64 0] 29, .box (b6 + 1) #[.slice (some ⟨gg, 0, none⟩) (M.length + 1) cap] 32, .owns treeE H qi (.slice (some ⟨gg, 0, none⟩) (M.length + 1) cap) (M ++ [yt]), .marks w.heap.size ds, .box b6 #[.int .i64 0, .int .i64 D] 29] := SA.set1 2 rfl (.slice (some ⟨gg, 0, none⟩) (M.length + 1) cap) (by omega) (by
            simp only [offs, offAll, Fct.box, Fct.marks, Fct.owns, Value.ownBlock, and_true]
            refine ⟨by omega, by omega, fun e => ?_, fun e => ?_, by omega⟩
            · rcases e with e | e; simp at e; omega; (have := HQI.out _ e; omega)
            · have hmm := ((S10.marks 4).2 _ e).2; rw [S10.block 2] at hmm; cases hmm)
          have SC : St w (w10.setCell ⟨b6 + 1, 0, none⟩ (.slice (some ⟨gg, 0, none⟩) (M.length + 1) cap)) [.box bx #[.slice ao ar.length ca, .slice co cs.length cc] 25, .box (bx + 1) #[.int .i64 0, .int .i64 0] 29, .box (b6 + 1) #[.slice (some ⟨gg, 0, none⟩) (M.length + 1) cap] 32, .owns treeE H qi (.slice (some ⟨gg, 0, none⟩) (M.length + 1) cap) (M ++ [zeroT]), .marks w.heap.size ds, .box b6 #[.int .i64 0, .int .i64 D] 29] := S10.set1 2 rfl (.slice (some ⟨gg, 0, none⟩) (M.length + 1) cap) (by omega) (by
            simp only [offs, offAll, Fct.box, Fct.marks, Fct.owns, Value.ownBlock, and_true]
            refine ⟨by omega, by omega, fun e => ?_, fun e => ?_, by omega⟩
            · rcases e with e | e; simp at e; omega; (have := HQI.out _ e; omega)
            · have hmm := ((S10.marks 4).2 _ e).2; rw [S10.block 2] at hmm; cases hmm)
          have SD : St w (((w10.setCell ⟨b6 + 1, 0, none⟩ (.slice (some ⟨gg, 0, none⟩) (M.length + 1) cap)).setCell ⟨gg, M.length * 2, none⟩ (.int .i64 yt.head)).setCell ⟨gg, M.length * 2 + 1, none⟩ (.slice yao yt.kids.length (yt.kids.length + ysp))) [.box bx #[.slice ao ar.length ca, .slice co cs.length cc] 25, .box (bx + 1) #[.int .i64 0, .int .i64 0] 29, .box (b6 + 1) #[.slice (some ⟨gg, 0, none⟩) (M.length + 1) cap] 32, .owns treeE H qi (.slice (some ⟨gg, 0, none⟩) (M.length + 1) cap) (M ++ [yt]), .marks w.heap.size ds, .box b6 #[.int .i64 0, .int .i64 D] 29] := by
            have h9 := SC.putE treeE 3 rfl (by simp) (j := M.length) (by simp) (x := yt) (cs := [.int .i64 yt.head, .slice yao yt.kids.length (yt.kids.length + ysp)]) ⟨yao, ysp, rfl, (hyt.setCell (a := ⟨b6 + 1, 0, none⟩) (by show ¬ (qi (b6 + 1) ∧ b6 + 1 ≠ gg); intro h; have := HQI.out _ h.1; omega) _)⟩ (by omega) (by simp only [offs, offAll, Fct.box, Fct.marks, and_true]; exact ⟨by omega, by omega, by omega, hgd, by omega⟩)
            rw [hset] at h9; exact h9
          have SB := Lib.hid SB; have SD := Lib.hid SD
          obtain ⟨css9, hcl9, hown9, hk9⟩ := S10.owns treeE 3
          have hown9 : w10.ownsRow H 38 2 (.slice (some ⟨gg, 0, none⟩) (M.length + 1) cap) (M.length + 1) css9.flatten := by have := hown9; simp at this; exact this
          have FIN := Lib.hid (fun W (SW : St w W [.box bx #[.slice ao ar.length ca, .slice co cs.length cc] 25, .box (bx + 1) #[.int .i64 0, .int .i64 0] 29, .box (b6 + 1) #[.slice (some ⟨gg, 0, none⟩) (M.length + 1) cap] 32, .owns treeE H qi (.slice (some ⟨gg, 0, none⟩) (M.length + 1) cap) (M ++ [yt]), .marks w.heap.size ds, .box b6 #[.int .i64 0, .int .i64 D] 29]) (hsz : w10.heap.size ≤ W.heap.size) (hBB : ∀ b, b < V.heap.size → b ≠ gg → b ≠ b6 + 1 → W.heap[b]? = w10.heap[b]?) => (
            have h9 : w9.heap.size ≤ w10.heap.size := by simpa using hs10
            have hw1 : ∀ b, b < V.heap.size → (w9.drew.alloc (.cells #[.int .i64 0, .slice none 0 0] 38)).heap[b]? = V.heap[b]? := fun b hb => (Below.heap_alloc w9.drew _ b (by simp; omega)).trans (HB3.out.block b hb)
            have hat2 : (Value.slice go M.length (M.length + gsp2)).ownBlock = some gg ∨ V.heap.size ≤ gg := hat.imp id (fun e => by simp at e; omega)
            have hk1 : KeepsFrom w7.heap.size V W := KeepsFrom.app (by omega) (SVH.out.owns treeE 3) (SVH.out.block 2) hw1 (by simp; omega) hgr hat2 hBB
            have hbV : Below w.heap.size V W := ⟨SW.bel.os.trans SVH.out.bel.os.symm, SW.bel.tape.trans SVH.out.bel.tape.symm, SW.bel.output.trans SVH.out.bel.output.symm, by omega, fun b hb => (SW.bel.block b hb).trans (SVH.out.bel.block b hb).symm⟩
            have hk2 : KpM w.heap.size bq V W := KpM.app hbV (SVH.out.owns treeE 3) (fun e => HN0.out e) hw1 (by simp; omega) hsm hgr hat2 hown9 hBB (by omega)
            (⟨hk1, hk2, _, by rw [HSN.out, HAD.out]; exact SW, by rw [HSN.out, HAD.out]; exact fun e => by simp at e, by omega⟩ : KeepsFrom w7.heap.size V W ∧ KpM w.heap.size bq V W ∧ ∃ o2, St w W [.box bx #[.slice ao ar.length ca, .slice co cs.length cc] 25, .box (bx + 1) #[.int .i64 0, .int .i64 0] 29, .box (b6 + 1) #[o2] 32, .owns treeE H qi o2 (((pre ++ [(⟨ypl, yao, ysp, yt, yat, yht, ym⟩ : NY qi w x)]).map (·.t)).foldl addT L), .marks w.heap.size ds, .box b6 #[.int .i64 0, .int .i64 D] 29] ∧ (((pre ++ [(⟨ypl, yao, ysp, yt, yat, yht, ym⟩ : NY qi w x)]).map (·.t)).foldl addT L = [] → o2 = .slice none 0 0) ∧ w7.heap.size ≤ W.heap.size)))
          clear hk9 hcl9
          clear SA SC hown9 hset hyt hgd hat hsm hgr hz2 hz3 hz5 hz6 hz7 hz8 S10 hs10 hml
          refine HK.out _ _ (fun h => absurd h (by decide)) ?_
          try simp only [Act.put, List.setIfInBounds_toArray, List.set_cons_zero, List.set_cons_succ]
          refine wpH.two (i := 5) (j := 7) (by kernel_rfl) ?_ ?_
          · intro oi ho
            simp only [List.getElem?_toArray, List.getElem?_cons_succ, List.getElem?_cons_zero, Option.some.injEq] at ho
            subst ho
            intro K hK
            have HK := Lib.hid hK
            clear hK
            go_simp
            refine HK.out _ _ (fun h => absurd h (by decide)) ?_
            try simp only [Act.put, List.setIfInBounds_toArray, List.set_cons_zero, List.set_cons_succ]
            refine wpH.two (i := 6) (j := 7) (by kernel_rfl) ?_ ?_
            · intro oi ho
              simp only [List.getElem?_toArray, List.getElem?_cons_succ, List.getElem?_cons_zero, Option.some.injEq] at ho
              subst ho
              intro K hK
              have HK := Lib.hid hK
              clear hK
              go_simp
              refine HK.out _ _ (fun h => absurd h (by decide)) ?_
              try simp only [Act.put, List.setIfInBounds_toArray, List.set_cons_zero, List.set_cons_succ]
              refine wpH.one (i := 7) (by kernel_rfl) ?_
              intro oi ho
              simp only [List.getElem?_toArray, List.getElem?_cons_succ, List.getElem?_cons_zero, Option.some.injEq] at ho
              subst ho
              intro K hK
              have HK := Lib.hid hK
              clear hK
              go_simp
              refine HK.out _ _ (fun h => absurd h (by decide)) ?_
              try simp only [Act.put, List.setIfInBounds_toArray, List.set_cons_zero, List.set_cons_succ]
              refine wpH.done (by kernel_rfl) ?_
              gi_wp2
              exact FIN.out _ SB.out (by simp) (fun b2 q1 q2 q3 => by simp only [World.setCell, Array.getElem?_modify]; rw [if_neg (by show ¬ _; omega), if_neg (by show ¬ _; omega), if_neg (by show ¬ _; omega)])
            · intro oi ho
              simp only [List.getElem?_toArray, List.getElem?_cons_succ, List.getElem?_cons_zero, Option.some.injEq] at ho
              subst ho
              intro K hK
              have HK := Lib.hid hK
              clear hK
              go_simp
              refine HK.out _ _ (fun h => absurd h (by decide)) ?_
              try simp only [Act.put, List.setIfInBounds_toArray, List.set_cons_zero, List.set_cons_succ]
              refine wpH.one (i := 6) (by kernel_rfl) ?_
              intro oi ho
              simp only [List.getElem?_toArray, List.getElem?_cons_succ, List.getElem?_cons_zero, Option.some.injEq] at ho
              subst ho
              intro K hK
              have HK := Lib.hid hK
              clear hK
              go_simp
              refine HK.out _ _ (fun h => absurd h (by decide)) ?_
              try simp only [Act.put, List.setIfInBounds_toArray, List.set_cons_zero, List.set_cons_succ]
              refine wpH.done (by kernel_rfl) ?_
              gi_wp2
              exact FIN.out _ SD.out (by simp) (fun b2 q1 q2 q3 => by simp only [World.setCell, Array.getElem?_modify]; rw [if_neg (by show ¬ _; omega), if_neg (by show ¬ _; omega), if_neg (by show ¬ _; omega)])
          · intro oi ho
            simp only [List.getElem?_toArray, List.getElem?_cons_succ, List.getElem?_cons_zero, Option.some.injEq] at ho
            subst ho
            intro K hK
            have HK := Lib.hid hK
            clear hK
            go_simp
            refine HK.out _ _ (fun h => absurd h (by decide)) ?_
            try simp only [Act.put, List.setIfInBounds_toArray, List.set_cons_zero, List.set_cons_succ]
            refine wpH.one (i := 5) (by kernel_rfl) ?_
            intro oi ho
            simp only [List.getElem?_toArray, List.getElem?_cons_succ, List.getElem?_cons_zero, Option.some.injEq] at ho
            subst ho
            intro K hK
            have HK := Lib.hid hK
            clear hK
            go_simp
            refine HK.out _ _ (fun h => absurd h (by decide)) ?_
            try simp only [Act.put, List.setIfInBounds_toArray, List.set_cons_zero, List.set_cons_succ]
            refine wpH.one (i := 6) (by kernel_rfl) ?_
            intro oi ho
            simp only [List.getElem?_toArray, List.getElem?_cons_succ, List.getElem?_cons_zero, Option.some.injEq] at ho
            subst ho
            intro K hK
            have HK := Lib.hid hK
            clear hK
            go_simp
            refine HK.out _ _ (fun h => absurd h (by decide)) ?_
            try simp only [Act.put, List.setIfInBounds_toArray, List.set_cons_zero, List.set_cons_succ]
            refine wpH.done (by kernel_rfl) ?_
            gi_wp2
            exact FIN.out _ SD.out (by simp) (fun b2 q1 q2 q3 => by simp only [World.setCell, Array.getElem?_modify]; rw [if_neg (by show ¬ _; omega), if_neg (by show ¬ _; omega), if_neg (by show ¬ _; omega)])
      case done =>
        rintro D2 xs V hD hxs ⟨o', SV, hn', hV⟩ hK
        have hpr := mapY_snd hxs
        have HLK := (show (xs.map (·.t)).foldl addT L = (preL (gs.take (k + 1))).foldl addT [] by rw [hpr, HTK.out, List.foldl_append, ← HL.out])
        have hm0 := SV.marks 4
        have HMK := Lib.hid (show Marks w.heap.size V (D2 :: ds) from ⟨List.nodup_cons.2 ⟨fun hm => by have := HMD.out D2 hm; omega, hm0.1⟩, fun b2 hb2 => by
          rcases List.mem_cons.1 hb2 with rfl | hb2
          · exact ⟨by omega, hK⟩
          · exact hm0.2 b2 hb2⟩)
        have SN := (((SV.pick [0, 1, 5, 2, 3]).add (.marks w.heap.size (D2 :: ds)) HMK.out))
        obtain ⟨FN, hFN⟩ : ∃ X, X = (xs.map (·.t)).foldl addT L := ⟨_, rfl⟩
        rw [← hFN] at hn' HLK SN
        have SN := Lib.hid SN; have HLK := Lib.hid HLK
        have HNV := Lib.hid hn'
        have zV : H ≤ V.heap.size := by omega
        have HLEN := Lib.hid (show (k : Int) + 1 = ((k + 1 : Nat) : Int) by omega)
        clear hm0 hK hxs hpr SV hn'
        go_wp2_with fail
        refine ⟨⟨k + 1, by omega, D2 :: ds, ⟨HLEN.out, rfl⟩, FN, HLK, o', HNV.out, SN.out⟩, ?_⟩
        simp [intOf] <;> omega
      case stop =>
        rintro D c' pre V _ _ h _
        exact h.elim
    · obtain rfl : k = gs.length := by omega
      have HLS := Lib.hid (show L = subsF gs by rw [HL.out, List.take_length]; rfl)
      have HLG := Lib.hid (subsF_good (gs := gs) (fun t ht => (HZ.out.2.2 t ht).1))
      have HLN := Lib.hid (show (subsF gs).length ≤ 10000 from Nat.le_trans subsF_len HSZ.out)
      rw [← HLS.out] at HLG HLN HF
      obtain ⟨so, ssp, rfl, hrq, _⟩ := (S.owns treeE 4).rowQ
      obtain ⟨b12, hb12⟩ : ∃ b, b = W.heap.size := ⟨_, rfl⟩
      have hmD : ∀ D ∈ ds, D < b12 := fun D hD => by have := (Array.getElem?_eq_some_iff.1 ((S.marks 5).2 D hD).2).1; omega
      have HMD := Lib.hid hmD
      have SQ := (S.pick [0, 1, 3, 5]).add (.rowE treeE (fun b => (H ≤ b ∧ b < b12) ∨ qi b) so L) (hrq.row.mono (fun b h _ => h.imp (fun h => ⟨h.1, by omega⟩) id))
      have SR := (SQ.boxH hb12.symm #[.slice none 0 0] 23).cons (.owns claimE (b12 + 1) (fun b => qi b ∨ b12 < b) (.slice none 0 0) []) (Elt.Own.nil _ _ _ _)
      have SR : St w (W.alloc (.cells #[.slice none 0 0] 23)) (.box b12 #[.slice none 0 0] 23 :: .owns claimE (b12 + 1) (fun b => qi b ∨ b12 < b) (.slice none 0 0) [] :: .box bx #[.slice ao ar.length ca, .slice co cs.length cc] 25 :: .box (bx + 1) #[.int .i64 0, .int .i64 0] 29 :: .box (b6 + 1) #[.slice so L.length (L.length + ssp)] 32 :: .marks w.heap.size ds :: .rowE treeE (fun b => (H ≤ b ∧ b < b12) ∨ qi b) so L :: []) := SR.swap
      have hszR : (W.alloc (.cells #[.slice none 0 0] 23)).heap.size = b12 + 1 := by simp [hb12]
      have HB12 := Lib.hid (show H ≤ b12 by omega)
      clear S SQ hrq
      obtain ⟨⟨x0, _⟩, x1, _⟩ := SR.two 2
      go_wp2_with fail
      rw [← hb12]
      refine SR.genC (z := b12 + 1) (by omega) ?_
      clear SR hb12 hszR x0 x1 zW HL
      intro w8 z8 S
      obtain ⟨R, hR⟩ : ∃ R, R = doGo ar L cs 0 [] := ⟨_, rfl⟩
      rw [← hR] at HF
      have HR := Lib.hid hR.symm
      have HCZ := Lib.hid (loreF_zero HZ.out.1).2.2.2.2
      clear hR
      go_loopw [47] (fun i wr => ∃ (k : Nat) (K' : List (List Fc)) (ov' : Value), k ≤ cs.length ∧ i = .int .i64 k ∧ Hid (doGo ar L (cs.drop k) k K' = R) ∧ K'.length ≤ 60 ∧ Hid (∀ x ∈ K', x.length ≤ 1000000) ∧ b12 + 1 ≤ wr.heap.size ∧
        St w wr (.box b12 #[ov'] 23 :: .owns claimE (b12 + 1) (fun b => qi b ∨ b12 < b) ov' K' :: .box bx #[.slice ao ar.length ca, .slice co cs.length cc] 25 :: .box (bx + 1) #[.int .i64 0, .int .i64 0] 29 :: .box (b6 + 1) #[.slice so L.length (L.length + ssp)] 32 :: .marks w.heap.size ds :: .rowE treeE (fun b => (H ≤ b ∧ b < b12) ∨ qi b) so L :: [])) (fun i _ => cs.length - (intOf i).toNat)
      case atStart => exact ⟨0, [], _, by omega, by trivial, by rw [List.drop_zero]; exact HR, by simp, Lib.hid (fun x h => by cases h), z8, S⟩
      case round =>
        clear S z8
        obtain ⟨k, K', ov', hk, rfl, HG2, hK60, HKK, zr, S⟩ := hrel
        by_cases hlt : k < cs.length
        · have hlti : (k : Int) < (cs.length : Int) := by omega
          obtain ⟨cb, coff, kc, spc, rfl, _, c0', hcr', hcm⟩ := HC.out.claim hlt
          have c0 := Below.cellOf S.bel c0'
          have HCC := Lib.hid (HCZ.out cs[k] (List.getElem_mem hlt))
          have HDG := Lib.hid (show doGo ar L (cs[k] :: cs.drop (k + 1)) k K' = R by rw [← HG2.out, List.drop_eq_getElem_cons hlt])
          obtain ⟨c, hc⟩ : ∃ c, c = cs[k] := ⟨_, rfl⟩
          rw [← hc] at c0 hcr' HCC HDG
          have HCR := Lib.hid hcr'
          obtain ⟨v0, _⟩ := S.one 4
          have hl7 := S.lt 4
          have S5 := S.alloc (.cells #[.slice kc c.length (c.length + spc)] 41)
          have HBA := Lib.hid ((Below.refl wr.heap.size wr).alloc (Nat.le_refl _) (.cells #[.slice kc c.length (c.length + spc)] 41))
          have hsz5 : (wr.alloc (.cells #[.slice kc c.length (c.length + spc)] 41)).heap.size = wr.heap.size + 1 := by simp
          clear S HG2 hc c0' hcr'
          go_wp2_with fail
          clear c0 v0
          generalize (wr.alloc (.cells #[.slice kc c.length (c.length + spc)] 41)) = w9 at *
          have hq3 := HH2.out
          have hq4 := HB6.out
          have hq5 := HBX.out
          have hq6 := HB12.out
          have hOW := fun b (e : ov'.ownBlock = some b) => S5.ownlt claimE 1 rfl b e
          have HAR2 := Lib.hid (loreF_zero HZ.out.1).2.1
          have HIL := Lib.hid (fun (h : (instF ar L c K').2 = true) => instF_len hK60 h)
          have HIM := Lib.hid (fun y (h : y ∈ (instF ar L c K').1) => instF_mem h)
          have hcell := (S5.two 2).1.1
          have hint : intE.Row qi w9 ao ar := HA.out.kept S5.bel
          have hfact : factE.Row qi w9 kc c := HCR.out.kept S5.bel
          have hrow := S5.rowE treeE 6
          have hoff9 : ∀ b, (b = b12 ∨ ov'.ownBlock = some b ∨ w9.heap.size ≤ b) → offAll b (.box bx #[.slice ao ar.length ca, .slice (some ⟨cb, coff, none⟩) cs.length cc] 25 :: .box (bx + 1) #[.int .i64 0, .int .i64 0] 29 :: .box (b6 + 1) #[.slice so L.length (L.length + ssp)] 32 :: .marks w.heap.size ds :: .rowE treeE (fun b => (H ≤ b ∧ b < b12) ∨ qi b) so L :: []) := by
            intro b2 hb2
            have hge : b12 ≤ b2 := by
              rcases hb2 with h | h | h
              · omega
              · have := (hOW b2 h).1; omega
              · omega
            simp only [offAll, Fct.box, Fct.marks, Fct.rowE, and_true]
            exact ⟨by omega, by omega, by omega, fun h => by have := HMD.out b2 h; omega, fun e => e.elim (fun e => by omega) (fun e => by have := HQI.out b2 e; omega)⟩
          have HOFF9 := Lib.hid hoff9; have HOW := Lib.hid hOW; have HCELL := Lib.hid hcell; have HINT := Lib.hid hint; have HFACT := Lib.hid hfact; have HROW := Lib.hid hrow
          have S5H := Lib.hid S5
          clear hoff9 hOW hcell hint hfact hrow S5
          refine (instances80 (w0 := w) ar L c K' bx b12 (b12 + 1) (fun b => qi b ∨ b12 < b) qi qi (fun b => (H ≤ b ∧ b < b12) ∨ qi b) ao kc so ca spc ssp ov' (.box bx #[.slice ao ar.length ca, .slice (some ⟨cb, coff, none⟩) cs.length cc] 25 :: .box (bx + 1) #[.int .i64 0, .int .i64 0] 29 :: .box (b6 + 1) #[.slice so L.length (L.length + ssp)] 32 :: .marks w.heap.size ds :: .rowE treeE (fun b => (H ≤ b ∧ b < b12) ∨ qi b) so L :: []) w9 S5H.out HOFF9.out HCELL.out HINT.out HFACT.out HROW.out (by omega) (by omega) (by omega) (fun b h => .inr (by omega)) (fun e => e.elim (fun e => by have := HQI.out _ e; omega) (fun e => by omega))
            (fun b h => have hb := HQI.out b h; ⟨⟨by omega, by omega, fun e => by have := (HOW.out b e).1; omega⟩, .inl h⟩) (fun b h => have hb : b < b12 := h.elim (fun h => h.2) (fun h => by have := HQI.out b h; omega); ⟨by omega, by omega, fun e => by have := (HOW.out b e).1; omega⟩) (fun b h => have hb := HQI.out b h; ⟨by omega, by omega, fun e => by have := (HOW.out b e).1; omega⟩) ⟨by omega, fun e => by have := (HOW.out bx e).1; omega⟩
            (by have := HAR2.out; omega) HCC.out hK60 HKK.out (fun e => by have := (HOW.out b12 e).1; omega) HLG.out (by have := HLN.out; omega)).mono ?_
          rintro e w10 ⟨rfl, ov2, S6, ho2, z10⟩
          obtain ⟨IK, hIK⟩ : ∃ z, z = instF ar L c K' := ⟨_, rfl⟩
          have HIK := Lib.hid hIK.symm
          rw [← hIK] at S6 HIL HIM ⊢
          have S6H := Lib.hid S6
          clear S6 ho2 hIK
          obtain ⟨IK, IB⟩ := IK
          cases IB with
          | false =>
            have HRR := Lib.hid (show R = ([], (10, (k : Int))) by rw [← HDG.out, doGo, HIK.out]; rfl)
            obtain ⟨⟨y0, y1⟩, y2, y3⟩ := S6H.out.two 3
            have hl1 := S6H.out.lt 3
            go_wp2_with fail
            refine retM_zf ds (.slice none 0 0) (.int .i64 10) (.int .i64 k) (bx + 1) 29 (box2_set (S6H.out.block 3) _ _) (((S6H.out.marks 5).kept (fun d hd => (Below.heap_setCell _ _ _ _ (fun e => by have h9 : d = bx + 1 := e; subst h9; rw [S6H.out.block 3] at hd; cases hd)).trans (Below.heap_setCell _ _ _ _ (fun e => by have h9 : d = bx + 1 := e; subst h9; rw [S6H.out.block 3] at hd; cases hd))))) (by have := S6H.out.size; simp; omega) (fun w' q0 q1 => by simp [results, Try.results29, go_sem, q0, q1]) ?_
            intro w' hb' _ _
            rw [HF.out, HRR.out]
            exact ⟨none, 0, rfl, fun i x hi => by simp at hi, ((S6H.out.bel.setCell (p := ⟨bx + 1, 0, none⟩) (by show w.heap.size ≤ bx + 1; omega) _).setCell (p := ⟨bx + 1, 1, none⟩) (by show w.heap.size ≤ bx + 1; omega) _).trans hb'⟩
          | true =>
            have HRR := Lib.hid (show doGo ar L (cs.drop (k + 1)) ((k : Int) + 1) IK = R by rw [← HDG.out, doGo, HIK.out]; rfl)
            have hIL : IK.length ≤ 60 := HIL.out rfl
            have HKN := Lib.hid (show ∀ y ∈ IK, y.length ≤ 1000000 from fun y hy => by
              rcases HIM.out y hy with h | ⟨h, _⟩
              · exact HKK.out y h
              · have := (codeF_zero.1 h).1; omega)
            have z11 : b12 + 1 ≤ w10.heap.size := by omega
            go_wp2_with fail
            go_roundw
            case rel => exact ⟨k + 1, IK, ov2, by omega, by go_num, by rw [show ((k + 1 : Nat) : Int) = (k : Int) + 1 by omega]; exact HRR, hIL, HKN, z11, S6H.out⟩
            case measure => simp [intOf] <;> omega
        · obtain rfl : k = cs.length := by omega
          have HRR := Lib.hid (show R = (K', (0, 0)) by rw [← HG2.out, List.drop_length]; rfl)
          obtain ⟨⟨y0, y1⟩, y2, y3⟩ := S.two 3
          have hl1 := S.lt 3
          obtain ⟨v0, _⟩ := S.one 0
          have SH := Lib.hid S
          clear S
          obtain ⟨ro, rsp, rfl, hrow, _⟩ := (show claimE.Own (fun b => qi b ∨ b12 < b) (b12 + 1) wr ov' K' from SH.out.owns claimE 1).row (fun b h => Or.inr (by omega))
          have HROW := Lib.hid hrow
          have hq5 := HBX.out
          have hq3 := HH2.out
          have hq4 := HB6.out
          have hq6 := HB12.out
          have HMK := Lib.hid (SH.out.marks 5)
          clear hrow
          go_wp2_with fail
          refine retM_zf ds (.slice ro K'.length (K'.length + rsp)) (.int .i64 0) (.int .i64 0) (bx + 1) 29 (box2_set (SH.out.block 3) _ _) ((HMK.out.kept (fun d hd => (Below.heap_setCell _ _ _ _ (fun e => by have h9 : d = bx + 1 := e; subst h9; rw [SH.out.block 3] at hd; cases hd)).trans (Below.heap_setCell _ _ _ _ (fun e => by have h9 : d = bx + 1 := e; subst h9; rw [SH.out.block 3] at hd; cases hd))))) (by have := SH.out.size; simp; omega) (fun w' q0 q1 => by simp [results, Try.results29, go_sem, q0, q1]) ?_
          intro w' hb' hk' hs'
          rw [HF.out, HRR.out]
          refine ⟨ro, rsp, rfl, HROW.out.keep (fun b h1 h2 => ⟨?_, (show qi b ∨ b12 < b from h1).imp id (fun h => by omega)⟩), ((SH.out.bel.setCell (p := ⟨bx + 1, 0, none⟩) (by show w.heap.size ≤ bx + 1; omega) _).setCell (p := ⟨bx + 1, 1, none⟩) (by show w.heap.size ≤ bx + 1; omega) _).trans hb'⟩
          have h1' : b < w.heap.size ∨ b12 < b := (show qi b ∨ b12 < b from h1).imp (HQI.out b) id
          refine (hk' b (fun h => ?_)).trans ((Below.heap_setCell _ _ _ _ (by show b ≠ bx + 1; omega)).trans (Below.heap_setCell _ _ _ _ (by show b ≠ bx + 1; omega)))
          have h3 := HMD.out b h
          have h4 := (HMK.out.2 b h).1
          omega

end Go.Proofs.Ytlhnfdjidjgfgaa
