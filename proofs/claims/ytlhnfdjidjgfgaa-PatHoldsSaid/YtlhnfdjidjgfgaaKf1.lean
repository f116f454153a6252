/-
  Walks: slices.Clone, slices.Delete of facts; trace.without.
  Walks: slices.Grow of nothing, slices.Concat of facts.
  Three rows of facts put together; a row of one fact.
  Walk: the lore of apart.
-/
import Derived.Test.YtlhnfdjidjgfgaaProg
import Derived.Test.YtlhnfdjidjgfgaaPa2
import Derived.Test.YtlhnfdjidjgfgaaXd
import Derived.Test.YtlhnfdjidjgfgaaG4
import Derived.RegionTactic
import Derived.Deep.DeepCutAuto
import Derived.Deep.Upon
import Derived.Test.YtlhnfdjidjgfgaaMp
import Derived.Test.YtlhnfdjidjgfgaaKp
import Derived.Test.YtlhnfdjidjgfgaaXb
import Derived.Test.YtlhnfdjidjgfgaaT25
namespace Go.Proofs.Ytlhnfdjidjgfgaa
open Go.RowKit Go.Shelf
set_option linter.unusedVariables false
set_option maxHeartbeats 400000

theorem infoFc : (Try.prog.info? 62).map (fun i => (i.zero, i.size, i.bytes)) = some (some (.agg #[.bool false, .int .i64 0, .slice none 0 0, .int .i64 0, .slice none 0 0]), 5, 72) := by kernel_rfl

set_option maxRecDepth 100000 in
set_option maxHeartbeats 4000000 in
theorem clone157 (fs : List Fc) (p : Nat → Prop) (ad : Addr) (c : Nat) (w : World) (hr : factE.Row p w (some ad) fs) (hp : ∀ b, p b → b < w.heap.size) (h0 : 0 < fs.length) (hn : fs.length ≤ 1000) :
    Calls Try.prog 157 #[.slice (some ad) fs.length c] w fun e w' => ∃ g cap, e = .returned (.slice (some ⟨g, 0, none⟩) fs.length cap) ∧ factE.Own p w.heap.size w' (.slice (some ⟨g, 0, none⟩) fs.length cap) fs ∧ Below w.heap.size w w' := by
  have HR := Lib.hid hr; have HP := Lib.hid hp
  clear hr hp
  obtain ⟨iI, gi, gz0, gz1, gz2⟩ := info_parts infoFc
  obtain ⟨bx, hbx⟩ : ∃ b, b = w.heap.size := ⟨_, rfl⟩
  have S1 : St w (w.alloc (.cells #[] 62)) [.owns factE bx p (.slice (some ⟨bx, 0, none⟩) 0 0) []] := by
    have h := (St.start w).alloc (.cells #[] 62)
    refine h.add (.owns factE bx p (.slice (some ⟨bx, 0, none⟩) 0 0) []) ⟨[], rfl, ⟨by simp, .inr ⟨bx, 0, #[], rfl, Nat.le_refl _, by rw [hbx]; exact heap_alloc_new w _, Nat.le_refl _, by simp, by simp, by simp⟩⟩, fun i cs x h => by simp at h⟩
  have HBX := Lib.hid hbx
  have hnil := fun (w : World) a n c => Lib.run_eql_slice_nil (P := Try.prog) w 39 62 a n c 0 0 Try.underlying39
  have hl0 : fs.length = 0 → False := fun h => by omega
  go_enter Try.func157, Try.ntmps157
  go_wp2_with (at_builtin; rw [← hbx]; refine wpList_appRow rfl (.tmp 5) (.tmp 6) 39 rfl factE S1 0 rfl (q := p) (p' := p) (ad := ad) (c := c) (HR.out.kept S1.bel) h0 Try.underlying39 gi gz0 gz1 gz2 rfl rfl ?v1 ?v2 ?c1 ?c2 ?c3 ?c4 ?c5 ?c6 ?c7 ?_)
  case v1 => rfl
  case v2 => rfl
  case c1 => unfold maxLen; simp; omega
  case c2 => simp; omega
  case c3 => simp; omega
  case c4 => omega
  case c5 => intro b h1 h2 h3; simp only [offs, offAll]
  case c6 => intro b h1 h2; have h3 := HP.out b h1; have h4 : bx = b := by simpa [Value.ownBlock] using h2
             omega
  case c7 => intro b h1; rcases h1 with h1 | h1 <;> exact h1
  intro gg cap w3 S2 hs3 hgg hat
  have SE := Lib.hid S2.bel
  have SO := Lib.hid (S2.owns factE 0)
  clear S1 S2
  go_wp2_with fail
  go_ret
  exact ⟨gg, cap, rfl, SO.out, SE.out⟩

theorem below_set {w0 : World} {g : Nat} : ∀ (vs : List Value) (o : Nat), w0.heap.size ≤ g → ∀ (w : World), Below w0.heap.size w0 w → Below w0.heap.size w0 (w.setCells g o vs)
  | [], _, _, _, h => h
  | v :: r, o, hg, w, h => below_set r (o + 1) hg _ (h.setCell (p := ⟨g, o, Option.none⟩) hg v)
set_option maxRecDepth 100000 in
set_option maxHeartbeats 4000000 in
/-- an element of an own row is taken out -/
theorem delete156 {w0 : World} (fs : List Fc) (p : Nat → Prop) (B g cap i : Nat) (w : World) (hw : Below w0.heap.size w0 w) (hB : w0.heap.size ≤ B) (ho : factE.Own p B w (.slice (some ⟨g, 0, none⟩) fs.length cap) fs) (hi : i < fs.length) (hn : fs.length ≤ 1000) :
    Calls Try.prog 156 #[.slice (some ⟨g, 0, none⟩) fs.length cap, .int .i64 i, .int .i64 ((i : Int) + 1)] w fun e w' => e = .returned (.slice (some ⟨g, 0, none⟩) (fs.length - 1) cap) ∧ factE.Own p B w' (.slice (some ⟨g, 0, none⟩) (fs.length - 1) cap) (fs.eraseIdx i) ∧ Below w0.heap.size w0 w' := by
  replace ho : factE.Own p B w.drew (.slice (some ⟨g, 0, none⟩) fs.length cap) fs := by
    obtain ⟨css, h1, h2, h3⟩ := ho
    exact ⟨css, h1, h2.drew, fun i cs x hc hx => factE.keep (w := w) (w' := w.drew) (fun b hb _ => ⟨rfl, hb⟩) (h3 i cs x hc hx)⟩
  obtain ⟨hg, hBg, hnc, hcm, hcl, news, hnl, hn1, hnc2, hrem⟩ := ho.removed hi
  have hcm' : cap ≤ 9223372036854775807 := hcm
  obtain ⟨m, hm⟩ : ∃ m, fs.length = m + 1 := ⟨fs.length - 1, by omega⟩
  obtain ⟨iI, gi, gz0, gz1, gz2⟩ := info_parts infoFc
  have e5 : factE.n = 5 := rfl
  rw [e5] at hnl hnc2 hrem hcl
  rw [hm] at hnl hcl hrem hnc hn hi ho
  simp only [Nat.add_sub_cancel] at hrem
  obtain ⟨A, hA, hsrc⟩ : ∃ A : Addr, (if cap = i + 1 then (some ⟨g, 0, none⟩ : Option Addr) else some ⟨g, (i + 1) * 5, none⟩) = some A ∧ ∀ (j : Nat) u, news[j]? = some u → w.drew.cell? (A.add j) = some u := by
    by_cases h : cap = i + 1
    · refine ⟨⟨g, 0, none⟩, by simp [h], fun j u hu => ?_⟩
      have h0 : news.length = 0 := by rw [hnl]; omega
      rw [List.length_eq_zero_iff.1 h0] at hu; simp at hu
    · exact ⟨⟨g, (i + 1) * 5, none⟩, by simp [h], fun j u hu => by rw [Addr.add_lit]; exact hnc2 j u hu⟩
  have HR1 := Lib.hid (fun ty => by
    have h := run_append_room_cells (P := Try.prog) w.drew 39 ty 62 iI Try.underlying39 gi g 0 i cap A (m - i) (cap - (i + 1)) news (by rw [gz1, hnl]; congr 1; omega) hsrc hn1 (by omega) (fun j hj => by rw [gz1, Nat.zero_add]; exact (hcl _ (by omega)).1) (fun j hj => by rw [gz1, Nat.zero_add]; exact (hcl _ (by omega)).2)
    rw [gz1, Nat.zero_add, show i + (m - i) = m by omega] at h
    exact h)
  obtain ⟨W1, hW1⟩ : ∃ W1, W1 = w.drew.setCells g (i * 5) news := ⟨_, rfl⟩
  rw [← hW1] at HR1
  have hc1 : ∀ j, j < (m + 1) * 5 → (W1.cell? ⟨g, j, none⟩).isSome = true ∧ W1.frozen? ⟨g, j, none⟩ = false := fun j hj => by
    rw [hW1]
    refine ⟨?_, by rw [World.frozen?_setCells]; exact (hcl j hj).2⟩
    by_cases h : i * 5 ≤ j ∧ j < i * 5 + news.length
    · have h2 := World.cell?_setCells_in g news (i * 5) w.drew (fun t ht => (hcl _ (by omega)).1) (j - i * 5) (by omega)
      rw [show i * 5 + (j - i * 5) = j by omega] at h2
      rw [h2]; rfl
    · rw [World.cell?_setCells_out g news _ _ _ (fun _ _ => by simp only; omega)]; exact (hcl j hj).1
  obtain ⟨zs, hzl, hclr⟩ := run_clear_rows (P := Try.prog) W1 39 62 (.agg #[.bool false, .int .i64 0, .slice none 0 0, .int .i64 0, .slice none 0 0]) 5 Try.underlying39 (fun w => by simp only [zeroValue, typeInfo]; simp [gi, gz0]) (by rfl) (by show ∀ u ∈ [Value.bool false, .int .i64 0, .slice none 0 0, .int .i64 0, .slice none 0 0], u.oneCell' = true; simp [Value.oneCell']) (by omega) g (m * 5) 1 (cap - m) (by omega) (fun j hj => (hc1 _ (by omega)).1) (fun j hj => (hc1 _ (by omega)).2)
  have HO := Lib.hid (show factE.Own p B (W1.setCells g (m * 5) zs) (.slice (some ⟨g, 0, none⟩) m cap) (fs.eraseIdx i) by
    have h := hrem zs (by rw [hzl])
    rw [hW1]
    exact h)
  have HBW := Lib.hid (show Below w0.heap.size w0 (W1.setCells g (m * 5) zs) by
    rw [hW1]; exact below_set _ _ (by omega) _ (below_set _ _ (by omega) _ hw.drew))
  have hcap1 : ¬ cap = m := by omega
  rw [show fs.length - 1 = m by omega]
  rw [hm]
  have hq1 : 0 ≤ (i : Int) + 1 := by omega
  have hq2 : i ≤ m := by omega
  have hq3 : i ≤ cap := by omega
  have hq4 : (i : Int) + 1 ≤ (m : Int) + 1 := by omega
  clear hW1 hc1 hrem hsrc hcl hnl hn1 hnc2 hw ho hg hB hBg
  go_enter Try.func156, Try.ntmps156
  go_wp2_with fail
  refine wpH_region [] (fun _ => True) (by kernel_rfl) ?_
  refine wpH.take (i := 0) (by kernel_rfl) (by kernel_rfl) (by kernel_rfl) (by kernel_rfl) (by kernel_rfl) trivial ?_
  intro oi ho
  simp only [List.getElem?_toArray, List.getElem?_cons_zero, Option.some.injEq] at ho
  subst ho
  refine ⟨?_, Or.inl ⟨by rfl, ?_⟩, fun _ _ _ h => h, ?_⟩
  rotate_left 1
  · intro W hW
    try dsimp only at hW
    go_simp
    try with_reducible rfl
  simp only [Act.put, List.setIfInBounds_toArray, List.set_cons_zero, List.set_cons_succ]
  refine wpH.take (i := 1) (by kernel_rfl) (by kernel_rfl) (by kernel_rfl) (by kernel_rfl) (by kernel_rfl) trivial ?_
  intro oi ho
  simp only [List.getElem?_toArray, List.getElem?_cons_succ, List.getElem?_cons_zero, Option.some.injEq] at ho
  subst ho
  refine ⟨?_, Or.inl ⟨by rfl, ?_⟩, fun _ _ _ h => h, ?_⟩
  rotate_left 1
  · intro W hW
    try dsimp only at hW
    go_simp
    try with_reducible rfl
  simp only [Act.put, List.setIfInBounds_toArray, List.set_cons_zero, List.set_cons_succ]
  refine wpH.take (i := 2) (by kernel_rfl) (by kernel_rfl) (by kernel_rfl) (by kernel_rfl) (by kernel_rfl) trivial ?_
  intro oi ho
  simp only [List.getElem?_toArray, List.getElem?_cons_succ, List.getElem?_cons_zero, Option.some.injEq] at ho
  subst ho
  refine ⟨?_, Or.inl ⟨by rfl, ?_⟩, fun _ _ _ h => h, ?_⟩
  rotate_left 1
  · intro W hW
    try dsimp only at hW
    go_simp
    try with_reducible rfl
  simp only [Act.put, List.setIfInBounds_toArray, List.set_cons_zero, List.set_cons_succ]
  refine wpH.take (i := 3) (by kernel_rfl) (by kernel_rfl) (by kernel_rfl) (by kernel_rfl) (by kernel_rfl) trivial ?_
  intro oi ho
  simp only [List.getElem?_toArray, List.getElem?_cons_succ, List.getElem?_cons_zero, Option.some.injEq] at ho
  subst ho
  refine ⟨?_, Or.inl ⟨by rfl, ?_⟩, fun _ _ _ h => h, ?_⟩
  rotate_left 1
  · intro W hW
    try dsimp only at hW
    go_simp
    try with_reducible rfl
  simp only [Act.put, List.setIfInBounds_toArray, List.set_cons_zero, List.set_cons_succ]
  refine wpH.take (i := 4) (by kernel_rfl) (by kernel_rfl) (by kernel_rfl) (by kernel_rfl) (by kernel_rfl) trivial ?_
  intro oi ho
  simp only [List.getElem?_toArray, List.getElem?_cons_succ, List.getElem?_cons_zero, Option.some.injEq] at ho
  subst ho
  refine ⟨?_, Or.inl ⟨by rfl, ?_⟩, fun _ _ _ h => h, ?_⟩
  rotate_left 1
  · intro W hW
    try dsimp only at hW
    go_simp
    try with_reducible rfl
  simp only [Act.put, List.setIfInBounds_toArray, List.set_cons_zero, List.set_cons_succ]
  refine wpH.take (i := 5) (by kernel_rfl) (by kernel_rfl) (by kernel_rfl) (by kernel_rfl) (by kernel_rfl) trivial ?_
  intro oi ho
  simp only [List.getElem?_toArray, List.getElem?_cons_succ, List.getElem?_cons_zero, Option.some.injEq] at ho
  subst ho
  refine ⟨?_, Or.inl ⟨by rfl, ?_⟩, fun _ _ _ h => h, ?_⟩
  rotate_left 1
  · intro W hW
    try dsimp only at hW
    go_simp
    try with_reducible rfl
  simp only [Act.put, List.setIfInBounds_toArray, List.set_cons_zero, List.set_cons_succ]
  refine wpH.one (i := 6) (by kernel_rfl) ?_
  intro oi ho
  simp only [List.getElem?_toArray, List.getElem?_cons_succ, List.getElem?_cons_zero, Option.some.injEq] at ho
  subst ho
  intro K hK
  have HK := Lib.hid hK
  clear hK
  rw [if_pos (by simp [Region.wanted])]
  refine Lib.wp_append_run w.drew (.tmp 22) (.tmp 25) 39 39 rfl (.slice (some ⟨g, 0, none⟩) i cap) (.slice (some A) (m - i) (cap - (i + 1))) rfl rfl (.slice (some ⟨g, 0, none⟩) m cap) W1 (HR1.out _) ?_
  refine HK.out _ _ (fun _ => trivial) ?_
  try simp only [Act.put, List.setIfInBounds_toArray, List.set_cons_zero, List.set_cons_succ]
  refine wpH.take (i := 7) (by kernel_rfl) (by kernel_rfl) (by kernel_rfl) (by kernel_rfl) (by kernel_rfl) trivial ?_
  intro oi ho
  simp only [List.getElem?_toArray, List.getElem?_cons_succ, List.getElem?_cons_zero, Option.some.injEq] at ho
  subst ho
  refine ⟨?_, Or.inl ⟨by rfl, ?_⟩, fun _ _ _ h => h, ?_⟩
  rotate_left 1
  · intro W hW
    try dsimp only at hW
    go_simp
    try with_reducible rfl
  simp only [Act.put, List.setIfInBounds_toArray, List.set_cons_zero]
  refine wpH.done (by kernel_rfl) ?_
  go_wp2_with fail
  go_ret
  exact ⟨rfl, HO.out, HBW.out⟩

set_option maxRecDepth 100000 in
set_option maxHeartbeats 4000000 in
/-- the others -/
theorem without142 (fs : List Fc) (p : Nat → Prop) (ad : Addr) (c i : Nat) (w : World) (hr : factE.Row p w (some ad) fs) (hp : ∀ b, p b → b < w.heap.size) (hi : i < fs.length) (hn : fs.length ≤ 1000) :
    Calls Try.prog 142 #[.slice (some ad) fs.length c, .int .i64 i] w fun e w' => ∃ g cap, e = .returned (.slice (some ⟨g, 0, none⟩) (fs.length - 1) cap) ∧ factE.Own p w.heap.size w' (.slice (some ⟨g, 0, none⟩) (fs.length - 1) cap) (fs.eraseIdx i) ∧ Below w.heap.size w w' := by
  go_enter Try.func142, Try.ntmps142
  go_wp2_with fail
  refine (clone157 fs p ad c w hr hp (by omega) hn).mono ?_
  rintro e w1 ⟨g, cap, rfl, ho, hb⟩
  have HO := Lib.hid ho; have HB := Lib.hid hb
  clear ho hb
  go_wp2_with fail
  refine (delete156 (w0 := w) fs p w.heap.size g cap i w1 HB.out (Nat.le_refl _) HO.out hi hn).mono ?_
  rintro e w2 ⟨rfl, ho2, hb2⟩
  have HO2 := Lib.hid ho2; have HB2 := Lib.hid hb2
  clear ho2 hb2
  go_wp2_with fail
  go_ret
  exact ⟨g, cap, rfl, HO2.out, HB2.out⟩
end Go.Proofs.Ytlhnfdjidjgfgaa
namespace Go.Proofs.Ytlhnfdjidjgfgaa
open Go.RowKit Go.Shelf
set_option linter.unusedVariables false
set_option maxHeartbeats 400000

set_option maxRecDepth 100000 in
set_option maxHeartbeats 4000000 in
theorem grow155 (n : Nat) (p : Nat → Prop) (w : World) (h0 : 0 < n) (hn : n ≤ 1000) :
    Calls Try.prog 155 #[.slice none 0 0, .int .i64 n] w fun e w' => ∃ g cap, e = .returned (.slice (some ⟨g, 0, none⟩) 0 cap) ∧ factE.Own p w.heap.size w' (.slice (some ⟨g, 0, none⟩) 0 cap) [] ∧ Below w.heap.size w w' := by
  obtain ⟨iI, gi, gz0, gz1, gz2⟩ := info_parts infoFc
  have hr := fun ty => Lib.run_append_nil_zeros (P := Try.prog) w 39 3 ty 62 iI _ .i64 .i64 Try.underlying39 Try.underlying3 gi gz0 n h0 (by rw [gz1]; omega) (by omega) (by rw [gz2]; omega)
  have hge := grownCap_ge w n 0 62
  have hcm := grownCap_le_maxLen w n 0 62 (by unfold maxLen; omega)
  obtain ⟨cap, hcap⟩ : ∃ cap, cap = grownCap w n 0 62 := ⟨_, rfl⟩
  rw [← hcap] at hge hcm
  have hr' := hr
  simp only [← hcap] at hr'
  have hcm' : cap ≤ 9223372036854775807 := hcm
  have hni : ¬ (n : Int) < 0 := by omega
  have hnp : (0 : Int) < (n : Int) := by omega
  have HR := Lib.hid hr'
  obtain ⟨W1, hW1⟩ : ∃ W1, W1 = w.drew.alloc (.cells (Builtin.zeroCells (Value.agg #[.bool false, .int .i64 0, .slice none 0 0, .int .i64 0, .slice none 0 0]).cells n ++ Builtin.zeroCells (Value.agg #[.bool false, .int .i64 0, .slice none 0 0, .int .i64 0, .slice none 0 0]).cells (cap - n)) 62) := ⟨_, rfl⟩
  rw [← hW1] at HR
  have HO := Lib.hid (show factE.Own p w.heap.size W1 (.slice (some ⟨w.heap.size, 0, none⟩) 0 cap) [] by
    refine ⟨[], rfl, ⟨by simp, .inr ⟨w.heap.size, cap, _, rfl, Nat.le_refl _, by rw [hW1]; exact heap_alloc_new w.drew _, by simp, hcm, ?_, by simp⟩⟩, fun i cs x h => by simp at h⟩
    simp only [Array.size_append, Builtin.zeroCells, Array.size_map, Array.size_range]
    show n * 5 + (cap - n) * 5 = cap * 5
    omega)
  have HB := Lib.hid (show Below w.heap.size w W1 by rw [hW1]; exact (Below.refl _ w).drew.alloc (Nat.le_refl _) _)
  clear hr hr' hcap hW1
  go_enter Try.func155, Try.ntmps155
  go_wp2_with (at_builtin; refine Lib.wpList_append_run _ rfl (.tmp 20) (.tmp 21) 39 3 rfl (.slice none 0 0) (.int .i64 n) rfl rfl (.slice (some ⟨w.heap.size, 0, none⟩) n cap) W1 (HR.out _) ?_)
  go_ret
  exact ⟨_, cap, rfl, HO.out, HB.out⟩

def flatP (prt : Nat → List Fc) : Nat → List Fc
  | 0 => []
  | k + 1 => flatP prt k ++ prt k
theorem flatP_le (prt : Nat → List Fc) {k n : Nat} (h : k ≤ n) : (flatP prt k).length ≤ (flatP prt n).length := by
  induction n with
  | zero => have : k = 0 := by omega
            subst this; exact Nat.le_refl _
  | succ n ih =>
    by_cases e : k = n + 1
    · subst e; exact Nat.le_refl _
    · have := ih (by omega)
      simp only [flatP, List.length_append]; omega
theorem src_none {P : Program} {w : World} {t e : TypeId} (ht : P.underlying t = some (.slice e)) (size : Nat) (ad : Addr) (c : Nat) : Src P size t (.slice (some ad) 0 c) 0 [] w where
  kind := .inl ⟨e, ht⟩
  len := fun w' => by simp [Builtin.lenOf]
  cells := by
    have h := run_firstCells_some (P := P) w size 0 ad 0 c [] (by simp) (fun j u h => by simp at h)
    simpa using h
  cellsD := by
    have h := run_firstCells_some (P := P) w.drew size 0 ad 0 c [] (by simp) (fun j u h => by simp at h)
    simpa using h
  newsLen := by simp
  one := fun u h => by simp at h

set_option maxRecDepth 100000 in
set_option maxHeartbeats 4000000 in
theorem concat141 (n : Nat) (prt : Nat → List Fc) (pad : Nat → Addr) (pcp : Nat → Nat) (bt ot c : Nat) (q : Nat → Prop) (w : World) (hcells : ∀ k, k < n → w.cell? ⟨bt, ot + k, none⟩ = some (.slice (some (pad k)) (prt k).length (pcp k))) (hrow : ∀ k, k < n → factE.Row q w (some (pad k)) (prt k)) (hq : ∀ b, q b → b < w.heap.size) (hn : n ≤ 100) (ht : (flatP prt n).length ≤ 1000) (h0 : 0 < (flatP prt n).length) :
    Calls Try.prog 141 #[.slice (some ⟨bt, ot, none⟩) n c] w fun e w' => ∃ g cap, e = .returned (.slice (some ⟨g, 0, none⟩) (flatP prt n).length cap) ∧ factE.Own q w.heap.size w' (.slice (some ⟨g, 0, none⟩) (flatP prt n).length cap) (flatP prt n) ∧ Below w.heap.size w w' := by
  have HC := Lib.hid hcells; have HR := Lib.hid hrow; have HQ := Lib.hid hq
  clear hcells hrow hq
  obtain ⟨iI, gi, gz0, gz1, gz2⟩ := info_parts infoFc
  go_enter Try.func141, Try.ntmps141
  go_wp2_with fail
  go_loopw [3, 11] (fun s i wr => ∃ k : Nat, k ≤ n ∧ s = .int .i64 (flatP prt k).length ∧ i = .int .i64 k ∧ wr = w) (fun _ i _ => n - (intOf i).toNat)
  case atStart => exact ⟨0, by omega, rfl, rfl, rfl⟩
  case round =>
    obtain ⟨k, hk, rfl, rfl, rfl⟩ := hrel
    by_cases hlt : k < n
    · have hlti : (k : Int) < (n : Int) := by omega
      have c0 := HC.out k hlt
      have hle := flatP_le prt (show k + 1 ≤ n by omega)
      have hsum : ((flatP prt k).length : Int) + ((prt k).length : Int) = ((flatP prt (k + 1)).length : Int) := by simp only [flatP, List.length_append]; omega
      have hsn : ¬ ((flatP prt (k + 1)).length : Int) < 0 := by omega
      have hw64 : wrap64 (((flatP prt k).length : Int) + ((prt k).length : Int)) = ((flatP prt (k + 1)).length : Int) := by rw [hsum]; unfold wrap64; omega
      have HSUM := Lib.hid hsum
      have HW64 := Lib.hid hw64
      clear hsum
      go_wp2_with fail
      go_roundw
      case rel => exact ⟨k + 1, by omega, by rw [HW64.out], by go_num, trivial⟩
      case measure => simp [intOf] <;> omega
    · obtain rfl : k = n := by omega
      obtain ⟨N, hN⟩ : ∃ N, N = flatP prt k := ⟨_, rfl⟩
      obtain ⟨w0, hw0⟩ : ∃ W, W = wr := ⟨_, rfl⟩
      subst hw0
      go_wp2_with fail
      refine (grow155 (flatP prt k).length q w0 h0 ht).mono ?_
      rintro e w1 ⟨g, cap, rfl, ho, hb⟩
      have S : St w0 w1 [.owns factE w0.heap.size q (.slice (some ⟨g, 0, none⟩) 0 cap) (flatP prt 0)] := ((St.start w0).step hb).add (.owns factE w0.heap.size q (.slice (some ⟨g, 0, none⟩) 0 cap) []) ho
      have hz1 := hb.size
      clear ho hb
      go_wp2_with fail
      go_loopw [6, 27] (fun o i wr => ∃ (j g cap : Nat), j ≤ k ∧ o = .slice (some ⟨g, 0, none⟩) (flatP prt j).length cap ∧ i = .int .i64 j ∧ w0.heap.size ≤ wr.heap.size ∧ St w0 wr [.owns factE w0.heap.size q (.slice (some ⟨g, 0, none⟩) (flatP prt j).length cap) (flatP prt j)]) (fun _ i _ => k - (intOf i).toNat)
      case atStart => exact ⟨0, g, cap, by omega, rfl, rfl, hz1, S⟩
      case round =>
        clear S hz1
        obtain ⟨j, g, cap, hj, rfl, rfl, hz1, S⟩ := hrel
        by_cases hlt2 : j < k
        · have hlti : (j : Int) < (k : Int) := by omega
          have c0 := Below.cellOf S.bel (HC.out j hlt2)
          have hle := flatP_le prt (show j + 1 ≤ k by omega)
          have hll : (flatP prt j).length + (prt j).length ≤ 1000 := by have : (flatP prt (j + 1)).length = (flatP prt j).length + (prt j).length := by simp [flatP]
                                                                        omega
          by_cases hm : 0 < (prt j).length
          · go_wp2_with (at_builtin; refine wpList_appRow rfl (.tmp 31) (.tmp 32) 39 rfl factE S 0 rfl (q := q) (p' := q) (ad := pad j) (c := pcp j) ((HR.out j hlt2).kept S.bel) hm Try.underlying39 gi gz0 gz1 gz2 rfl rfl ?v1 ?v2 ?c1 ?c2 ?c3 ?c4 ?c5 ?c6 ?c7 ?_)
            case v1 => rfl
            case v2 => rfl
            case c1 => unfold maxLen; omega
            case c2 => omega
            case c3 => exact hz1
            case c4 => exact Nat.le_refl _
            case c5 => intro b h1 h2 h3; simp only [offs, offAll]
            case c6 => intro b h1 h2; have h3 := HQ.out b h1; have h4 := (S.ownlt factE 0 rfl b h2).1; omega
            case c7 => intro b h1; rcases h1 with h1 | h1 <;> exact h1
            intro gg cap2 w3 S2 hs3 hgg hat
            have hlen : (flatP prt j).length + (prt j).length = (flatP prt (j + 1)).length := by simp [flatP]
            rw [hlen] at S2 ⊢
            have S3 := Lib.hid S2
            have hz3 : w0.heap.size ≤ w3.heap.size := by omega
            clear S S2 hat c0 hlen
            go_wp2_with fail
            go_roundw
            case rel => exact ⟨j + 1, gg, cap2, by omega, rfl, by go_num, hz3, S3.out⟩
            case measure => simp [intOf] <;> omega
          · have he : prt j = [] := List.eq_nil_of_length_eq_zero (by omega)
            have hl0 : (prt j).length = 0 := by omega
            have hfl : flatP prt (j + 1) = flatP prt j := by simp [flatP, he]
            have hcap : (flatP prt j).length ≤ cap := by
              obtain ⟨css, _, ho, _⟩ := S.owns factE 0
              obtain ⟨_, _, _, h, _⟩ := ownsRow_cell ho
              exact h
            have HRUN := Lib.hid (fun ty => run_append_nothing (P := Try.prog) wr 39 39 ty 62 iI Try.underlying39 gi (some ⟨g, 0, none⟩) (flatP prt j).length cap hcap _ (src_none Try.underlying39 iI.size (pad j) (pcp j)))
            have S3 := Lib.hid S
            rw [hl0] at c0
            clear S hl0 he
            go_wp2_with (at_builtin; refine Lib.wpList_append_run _ rfl (.tmp 31) (.tmp 32) 39 39 rfl (.slice (some ⟨g, 0, none⟩) (flatP prt j).length cap) (.slice (some (pad j)) 0 (pcp j)) rfl rfl _ _ (HRUN.out _) ?_)
            go_roundw
            case rel => exact ⟨j + 1, g, cap, by omega, by rw [hfl], by go_num, hz1, by rw [hfl]; exact S3.out⟩
            case measure => simp [intOf] <;> omega
        · obtain rfl : j = k := by omega
          have SO := Lib.hid (S.owns factE 0)
          have SE := Lib.hid S.bel
          clear S
          go_wp2_with fail
          go_ret
          exact ⟨g, cap, rfl, SO.out, SE.out⟩
end Go.Proofs.Ytlhnfdjidjgfgaa
namespace Go.Proofs.Ytlhnfdjidjgfgaa
open Go.RowKit Go.Shelf
set_option linter.unusedVariables false
set_option maxHeartbeats 400000

theorem fact_row5 {w : World} {b : Nat} {L : Fc} {k1 k2 : Option Addr} {s1 s2 : Nat} {q : Nat → Prop} (h : w.heap[b]? = some (.cells #[.bool L.neg, .int .i64 L.l.head, .slice k1 L.l.kids.length (L.l.kids.length + s1), .int .i64 L.r.head, .slice k2 L.r.kids.length (L.r.kids.length + s2)] 62 (0, 0))) (hb : q b)
    (h1 : TreeP q w (.agg #[.int .i64 L.l.head, .slice k1 L.l.kids.length (L.l.kids.length + s1)]) L.l) (h2 : TreeP q w (.agg #[.int .i64 L.r.head, .slice k2 L.r.kids.length (L.r.kids.length + s2)]) L.r) : factE.Row q w (some ⟨b, 0, none⟩) [L] := fun i f hi => by
  match i with
  | 0 =>
    simp at hi; subst hi
    refine ⟨b, 0, [.bool L.neg, .int .i64 L.l.head, .slice k1 L.l.kids.length (L.l.kids.length + s1), .int .i64 L.r.head, .slice k2 L.r.kids.length (L.r.kids.length + s2)], rfl, hb, fun j u hu => ?_, k1, s1, k2, s2, rfl, h1, h2⟩
    simp only [World.cell?, h, Option.isSome_none]
    simpa using hu
  | i + 1 => simp at hi
/-- an own row of facts, read as a row whose blocks are new or the elements' -/
theorem own_rowQ {p : Nat → Prop} {B g n cap s : Nat} {w : World} {xs : List Fc} (h : factE.Own p B w (.slice (some ⟨g, 0, none⟩) n cap) xs) (hs : s ≤ B) :
    factE.Row (fun c => p c ∨ (s ≤ c ∧ c < w.heap.size)) w (some ⟨g, 0, none⟩) xs ∧ n = xs.length ∧ xs.length ≤ cap := by
  obtain ⟨css, hcl, ho, hk⟩ := h
  have h2 : factE.Own (fun c => p c ∨ B ≤ c) B w (.slice (some ⟨g, 0, none⟩) n cap) xs :=
    ⟨css, hcl, ho, fun i cs x h1 h3 => factE.keep (fun b hb _ => ⟨rfl, .inl hb.1, hb.2⟩) (hk i cs x h1 h3)⟩
  obtain ⟨ao, sp, e, hr, _⟩ := h2.row (fun b hb => .inr hb)
  simp only [Value.slice.injEq] at e
  obtain ⟨e1, e2, e3⟩ := e
  rw [← e1] at hr
  exact ⟨hr.mono (fun b h1 h3 => h1.elim .inl (fun h1 => .inr ⟨by omega, h3⟩)), e2, by omega⟩
theorem concat3 (a b : List Fc) (L : Fc) (ga gb bs na nb ca cb bt : Nat) (q : Nat → Prop) (w : World) (hna : na = a.length) (hnb : nb = b.length)
    (hbt : w.heap[bt]? = some (.cells #[.slice (some ⟨ga, 0, none⟩) na ca, .slice (some ⟨gb, 0, none⟩) nb cb, .slice (some ⟨bs, 0, none⟩) 1 1] 39 (0, 0)))
    (ha : factE.Row q w (some ⟨ga, 0, none⟩) a) (hb : factE.Row q w (some ⟨gb, 0, none⟩) b) (hL : factE.Row q w (some ⟨bs, 0, none⟩) [L]) (hq : ∀ c, q c → c < w.heap.size) (hla : a.length ≤ 100) (hlb : b.length ≤ 100) :
    Calls Try.prog 141 #[.slice (some ⟨bt, 0, none⟩) 3 3] w fun e w' => ∃ g cap, e = .returned (.slice (some ⟨g, 0, none⟩) (a ++ b ++ [L]).length cap) ∧ factE.Own q w.heap.size w' (.slice (some ⟨g, 0, none⟩) (a ++ b ++ [L]).length cap) (a ++ b ++ [L]) ∧ Below w.heap.size w w' := by
  subst hna hnb
  have hfl : flatP (fun k => if k = 0 then a else if k = 1 then b else [L]) 3 = a ++ b ++ [L] := by simp [flatP]
  have h := concat141 3 (fun k => if k = 0 then a else if k = 1 then b else [L]) (fun k => if k = 0 then ⟨ga, 0, none⟩ else if k = 1 then ⟨gb, 0, none⟩ else ⟨bs, 0, none⟩) (fun k => if k = 0 then ca else if k = 1 then cb else 1) bt 0 3 q w
    (fun k hk => by
      match k, hk with
      | 0, _ => simp [World.cell?, hbt]
      | 1, _ => simp [World.cell?, hbt]
      | 2, _ => simp [World.cell?, hbt]) (fun k hk => by
      match k, hk with
      | 0, _ => exact ha
      | 1, _ => exact hb
      | 2, _ => exact hL) hq (by omega) (by rw [hfl]; simp; omega) (by rw [hfl]; simp; omega)
  rw [hfl] at h
  exact h
end Go.Proofs.Ytlhnfdjidjgfgaa
namespace Go.Proofs.Ytlhnfdjidjgfgaa
open Go.RowKit Go.Shelf
set_option linter.unusedVariables false
set_option maxHeartbeats 400000

set_option maxRecDepth 100000 in
set_option maxHeartbeats 4000000 in
theorem apart30 (w : World) : Calls Try.prog 30 #[] w fun e w' => ∃ ao co, e = .returned (.agg #[.slice ao 1 1, .slice co 1 1]) ∧ intE.Row (fun b => w.heap.size ≤ b) w' ao [0] ∧ claimE.Row (fun b => w.heap.size ≤ b) w' co apartC ∧ Below w.heap.size w w' := by
  obtain ⟨bx, hbx⟩ : ∃ b, b = w.heap.size := ⟨_, rfl⟩
  have S1 := ((St.start w).box hbx.symm #[.slice none 0 0, .slice none 0 0] 25).box (b := bx + 1) (by simp [hbx]) #[.int .i64 0] 3
  have HBX := Lib.hid hbx
  go_enter Try.func30, Try.ntmps30
  go_wp2_with fail
  rw [← hbx]
  refine S1.gen (z := bx + 2) (by simp [hbx]) ?_
  intro w1 z1 S
  clear S1 hbx
  refine (S.quiet (leaf25 1 w1)).mono ?_
  rintro e w2 ⟨rfl, z2, S2⟩
  clear S
  go_wp2_with fail
  refine (S2.quiet (leaf25 1 w2)).mono ?_
  rintro e w3 ⟨rfl, z3, S3⟩
  have S4 := (S3.box (b := w3.heap.size) rfl #[.bool true, .int .i64 1, .slice none 0 0, .int .i64 1, .slice none 0 0] 62).box (b := w3.heap.size + 1) (by simp) #[.slice (some ⟨w3.heap.size, 0, none⟩) 1 1] 41
  have hz4 : bx + 2 ≤ w3.heap.size := by omega
  obtain ⟨⟨x0, x1⟩, x2, x3⟩ := S4.two 0
  have hl := S4.lt 0
  have SG := Lib.hid (S4.set2 0 rfl (.slice (some ⟨bx + 1, 0, none⟩) 1 1) (.slice (some ⟨w3.heap.size + 1, 0, none⟩) 1 1) (by have := HBX.out; omega) (by simp only [fsnoc, offs, offAll, Fct.box, and_true]; omega))
  clear S2 S3 S4
  go_wp2_with fail
  refine bodyPost_ret (v := .agg #[.slice (some ⟨bx + 1, 0, none⟩) 1 1, .slice (some ⟨w3.heap.size + 1, 0, none⟩) 1 1]) ?_ rfl ?_
  · obtain ⟨⟨z0, _⟩, z2, _⟩ := SG.out.two 0
    simp [results, Try.results30, go_sem, z0, z2]
  · have hx := HBX.out
    have k1 := SG.out.block 1
    have k3 := SG.out.block 3
    have k2 := fact_row5 (L := ⟨true, leaf1, leaf1⟩) (k1 := none) (k2 := none) (s1 := 0) (s2 := 0) (q := fun b => w.heap.size ≤ b) (SG.out.block 2) (by show w.heap.size ≤ w3.heap.size; omega) (TreeP.leaf _ _ 1) (TreeP.leaf _ _ 1)
    refine ⟨_, _, rfl, fun i x hi => ?_, fun i x hi => ?_, SG.out.bel⟩
    · match i with
      | 0 =>
        simp at hi; subst hi
        refine ⟨bx + 1, 0, [.int .i64 0], rfl, by show w.heap.size ≤ bx + 1; omega, fun j u hu => ?_, rfl⟩
        simp only [World.cell?, k1, Option.isSome_none]
        simpa using hu
      | i + 1 => simp at hi
    · match i with
      | 0 =>
        simp [apartC] at hi; subst hi
        refine ⟨w3.heap.size + 1, 0, [.slice (some ⟨w3.heap.size, 0, none⟩) 1 1], rfl, by show w.heap.size ≤ w3.heap.size + 1; omega, fun j u hu => ?_, some ⟨w3.heap.size, 0, none⟩, 0, rfl, k2, by show 1 ≤ maxLen; unfold maxLen; omega⟩
        simp only [World.cell?, k3, Option.isSome_none]
        simpa using hu
      | i + 1 => simp [apartC] at hi
end Go.Proofs.Ytlhnfdjidjgfgaa
