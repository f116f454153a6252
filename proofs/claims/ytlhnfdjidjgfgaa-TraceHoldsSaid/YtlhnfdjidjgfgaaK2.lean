/-
  Walks: slices.Clone, slices.Delete of facts; trace.without.
-/
import Derived.Test.YtlhnfdjidjgfgaaProg
import Derived.Test.YtlhnfdjidjgfgaaK1
import Derived.Test.YtlhnfdjidjgfgaaXd
import Derived.Test.YtlhnfdjidjgfgaaG4
import Derived.RegionTactic
namespace Go.Proofs.Ytlhnfdjidjgfgaa
open Go.RowKit Go.Shelf
set_option linter.unusedVariables false
set_option maxHeartbeats 400000

theorem infoFc : (Try.prog.info? 62).map (fun i => (i.zero, i.size, i.bytes)) = some (some (.agg #[.bool false, .int .i64 0, .slice none 0 0, .int .i64 0, .slice none 0 0]), 5, 72) := by kernel_rfl

set_option maxRecDepth 100000 in
set_option maxHeartbeats 4000000 in
theorem clone157 (fs : List Fc) (p : Nat → Prop) (ad : Addr) (c : Nat) (w : World) (hr : factE.Row p w (some ad) fs) (hp : ∀ b, p b → b < w.heap.size) (h0 : 0 < fs.length) (hn : fs.length ≤ 1000) :
    Calls Try.prog 157 #[.slice (some ad) fs.length c] w fun e w' => ∃ g cap, e = .returned (.slice (some ⟨g, 0, none⟩) fs.length cap) ∧ factE.Own p w.heap.size w' (.slice (some ⟨g, 0, none⟩) fs.length cap) fs ∧ Below w.heap.size w w' := by
  have HR := Lib.hid hr; have HP := Lib.hid hp
  clear hr hp
  obtain ⟨iI, gi, gz0, gz1, gz2⟩ := info_parts infoFc
  obtain ⟨bx, hbx⟩ : ∃ b, b = w.heap.size := ⟨_, rfl⟩
  have S1 : St w (w.alloc (.cells #[] 62)) [.owns factE bx p (.slice (some ⟨bx, 0, none⟩) 0 0) []] := by
    have h := (St.start w).alloc (.cells #[] 62)
    refine h.add (.owns factE bx p (.slice (some ⟨bx, 0, none⟩) 0 0) []) ⟨[], rfl, ⟨by simp, .inr ⟨bx, 0, #[], rfl, Nat.le_refl _, by rw [hbx]; exact heap_alloc_new w _, Nat.le_refl _, by simp, by simp, by simp⟩⟩, fun i cs x h => by simp at h⟩
  have HBX := Lib.hid hbx
  have hnil := fun (w : World) a n c => Lib.run_eql_slice_nil (P := Try.prog) w 39 62 a n c 0 0 Try.underlying39
  have hl0 : fs.length = 0 → False := fun h => by omega
  go_enter Try.func157, Try.ntmps157
  go_wp2_with (at_builtin; rw [← hbx]; refine wpList_appRow rfl (.tmp 5) (.tmp 6) 39 rfl factE S1 0 rfl (q := p) (p' := p) (ad := ad) (c := c) (HR.out.kept S1.bel) h0 Try.underlying39 gi gz0 gz1 gz2 rfl rfl ?v1 ?v2 ?c1 ?c2 ?c3 ?c4 ?c5 ?c6 ?c7 ?_)
  case v1 => rfl
  case v2 => rfl
  case c1 => unfold maxLen; simp; omega
  case c2 => simp; omega
  case c3 => simp; omega
  case c4 => omega
  case c5 => intro b h1 h2 h3; simp only [offs, offAll]
  case c6 => intro b h1 h2; have h3 := HP.out b h1; have h4 : bx = b := by simpa [Value.ownBlock] using h2
             omega
  case c7 => intro b h1; rcases h1 with h1 | h1 <;> exact h1
  intro gg cap w3 S2 hs3 hgg hat
  have SE := Lib.hid S2.bel
  have SO := Lib.hid (S2.owns factE 0)
  clear S1 S2
  go_wp2_with fail
  go_ret
  exact ⟨gg, cap, rfl, SO.out, SE.out⟩

theorem below_set {w0 : World} {g : Nat} : ∀ (vs : List Value) (o : Nat), w0.heap.size ≤ g → ∀ (w : World), Below w0.heap.size w0 w → Below w0.heap.size w0 (w.setCells g o vs)
  | [], _, _, _, h => h
  | v :: r, o, hg, w, h => below_set r (o + 1) hg _ (h.setCell (p := ⟨g, o, Option.none⟩) hg v)
set_option maxRecDepth 100000 in
set_option maxHeartbeats 4000000 in
/-- an element of an own row is taken out -/
theorem delete156 {w0 : World} (fs : List Fc) (p : Nat → Prop) (B g cap i : Nat) (w : World) (hw : Below w0.heap.size w0 w) (hB : w0.heap.size ≤ B) (ho : factE.Own p B w (.slice (some ⟨g, 0, none⟩) fs.length cap) fs) (hi : i < fs.length) (hn : fs.length ≤ 1000) :
    Calls Try.prog 156 #[.slice (some ⟨g, 0, none⟩) fs.length cap, .int .i64 i, .int .i64 ((i : Int) + 1)] w fun e w' => e = .returned (.slice (some ⟨g, 0, none⟩) (fs.length - 1) cap) ∧ factE.Own p B w' (.slice (some ⟨g, 0, none⟩) (fs.length - 1) cap) (fs.eraseIdx i) ∧ Below w0.heap.size w0 w' := by
  replace ho : factE.Own p B w.drew (.slice (some ⟨g, 0, none⟩) fs.length cap) fs := by
    obtain ⟨css, h1, h2, h3⟩ := ho
    exact ⟨css, h1, h2.drew, fun i cs x hc hx => factE.keep (w := w) (w' := w.drew) (fun b hb _ => ⟨rfl, hb⟩) (h3 i cs x hc hx)⟩
  obtain ⟨hg, hBg, hnc, hcm, hcl, news, hnl, hn1, hnc2, hrem⟩ := ho.removed hi
  have hcm' : cap ≤ 9223372036854775807 := hcm
  obtain ⟨m, hm⟩ : ∃ m, fs.length = m + 1 := ⟨fs.length - 1, by omega⟩
  obtain ⟨iI, gi, gz0, gz1, gz2⟩ := info_parts infoFc
  have e5 : factE.n = 5 := rfl
  rw [e5] at hnl hnc2 hrem hcl
  rw [hm] at hnl hcl hrem hnc hn hi ho
  simp only [Nat.add_sub_cancel] at hrem
  obtain ⟨A, hA, hsrc⟩ : ∃ A : Addr, (if cap = i + 1 then (some ⟨g, 0, none⟩ : Option Addr) else some ⟨g, (i + 1) * 5, none⟩) = some A ∧ ∀ (j : Nat) u, news[j]? = some u → w.drew.cell? (A.add j) = some u := by
    by_cases h : cap = i + 1
    · refine ⟨⟨g, 0, none⟩, by simp [h], fun j u hu => ?_⟩
      have h0 : news.length = 0 := by rw [hnl]; omega
      rw [List.length_eq_zero_iff.1 h0] at hu; simp at hu
    · exact ⟨⟨g, (i + 1) * 5, none⟩, by simp [h], fun j u hu => by rw [Addr.add_lit]; exact hnc2 j u hu⟩
  have HR1 := Lib.hid (fun ty => by
    have h := run_append_room_cells (P := Try.prog) w.drew 39 ty 62 iI Try.underlying39 gi g 0 i cap A (m - i) (cap - (i + 1)) news (by rw [gz1, hnl]; congr 1; omega) hsrc hn1 (by omega) (fun j hj => by rw [gz1, Nat.zero_add]; exact (hcl _ (by omega)).1) (fun j hj => by rw [gz1, Nat.zero_add]; exact (hcl _ (by omega)).2)
    rw [gz1, Nat.zero_add, show i + (m - i) = m by omega] at h
    exact h)
  obtain ⟨W1, hW1⟩ : ∃ W1, W1 = w.drew.setCells g (i * 5) news := ⟨_, rfl⟩
  rw [← hW1] at HR1
  have hc1 : ∀ j, j < (m + 1) * 5 → (W1.cell? ⟨g, j, none⟩).isSome = true ∧ W1.frozen? ⟨g, j, none⟩ = false := fun j hj => by
    rw [hW1]
    refine ⟨?_, by rw [World.frozen?_setCells]; exact (hcl j hj).2⟩
    by_cases h : i * 5 ≤ j ∧ j < i * 5 + news.length
    · have h2 := World.cell?_setCells_in g news (i * 5) w.drew (fun t ht => (hcl _ (by omega)).1) (j - i * 5) (by omega)
      rw [show i * 5 + (j - i * 5) = j by omega] at h2
      rw [h2]; rfl
    · rw [World.cell?_setCells_out g news _ _ _ (fun _ _ => by simp only; omega)]; exact (hcl j hj).1
  obtain ⟨zs, hzl, hclr⟩ := run_clear_rows (P := Try.prog) W1 39 62 (.agg #[.bool false, .int .i64 0, .slice none 0 0, .int .i64 0, .slice none 0 0]) 5 Try.underlying39 (fun w => by simp only [zeroValue, typeInfo]; simp [gi, gz0]) (by rfl) (by show ∀ u ∈ [Value.bool false, .int .i64 0, .slice none 0 0, .int .i64 0, .slice none 0 0], u.oneCell' = true; simp [Value.oneCell']) (by omega) g (m * 5) 1 (cap - m) (by omega) (fun j hj => (hc1 _ (by omega)).1) (fun j hj => (hc1 _ (by omega)).2)
  have HO := Lib.hid (show factE.Own p B (W1.setCells g (m * 5) zs) (.slice (some ⟨g, 0, none⟩) m cap) (fs.eraseIdx i) by
    have h := hrem zs (by rw [hzl])
    rw [hW1]
    exact h)
  have HBW := Lib.hid (show Below w0.heap.size w0 (W1.setCells g (m * 5) zs) by
    rw [hW1]; exact below_set _ _ (by omega) _ (below_set _ _ (by omega) _ hw.drew))
  have hcap1 : ¬ cap = m := by omega
  rw [show fs.length - 1 = m by omega]
  rw [hm]
  have hq1 : 0 ≤ (i : Int) + 1 := by omega
  have hq2 : i ≤ m := by omega
  have hq3 : i ≤ cap := by omega
  have hq4 : (i : Int) + 1 ≤ (m : Int) + 1 := by omega
  clear hW1 hc1 hrem hsrc hcl hnl hn1 hnc2 hw ho hg hB hBg
  go_enter Try.func156, Try.ntmps156
  go_wp2_with fail
  refine wpH_region [] (fun _ => True) (by kernel_rfl) ?_
  refine wpH.take (i := 0) (by kernel_rfl) (by kernel_rfl) (by kernel_rfl) (by kernel_rfl) (by kernel_rfl) trivial ?_
  intro oi ho
  simp only [List.getElem?_toArray, List.getElem?_cons_zero, Option.some.injEq] at ho
  subst ho
  refine ⟨?_, Or.inl ⟨by rfl, ?_⟩, fun _ _ _ h => h, ?_⟩
  rotate_left 1
  · intro W hW
    try dsimp only at hW
    go_simp
    try with_reducible rfl
  simp only [Act.put, List.setIfInBounds_toArray, List.set_cons_zero, List.set_cons_succ]
  refine wpH.take (i := 1) (by kernel_rfl) (by kernel_rfl) (by kernel_rfl) (by kernel_rfl) (by kernel_rfl) trivial ?_
  intro oi ho
  simp only [List.getElem?_toArray, List.getElem?_cons_succ, List.getElem?_cons_zero, Option.some.injEq] at ho
  subst ho
  refine ⟨?_, Or.inl ⟨by rfl, ?_⟩, fun _ _ _ h => h, ?_⟩
  rotate_left 1
  · intro W hW
    try dsimp only at hW
    go_simp
    try with_reducible rfl
  simp only [Act.put, List.setIfInBounds_toArray, List.set_cons_zero, List.set_cons_succ]
  refine wpH.take (i := 2) (by kernel_rfl) (by kernel_rfl) (by kernel_rfl) (by kernel_rfl) (by kernel_rfl) trivial ?_
  intro oi ho
  simp only [List.getElem?_toArray, List.getElem?_cons_succ, List.getElem?_cons_zero, Option.some.injEq] at ho
  subst ho
  refine ⟨?_, Or.inl ⟨by rfl, ?_⟩, fun _ _ _ h => h, ?_⟩
  rotate_left 1
  · intro W hW
    try dsimp only at hW
    go_simp
    try with_reducible rfl
  simp only [Act.put, List.setIfInBounds_toArray, List.set_cons_zero, List.set_cons_succ]
  refine wpH.take (i := 3) (by kernel_rfl) (by kernel_rfl) (by kernel_rfl) (by kernel_rfl) (by kernel_rfl) trivial ?_
  intro oi ho
  simp only [List.getElem?_toArray, List.getElem?_cons_succ, List.getElem?_cons_zero, Option.some.injEq] at ho
  subst ho
  refine ⟨?_, Or.inl ⟨by rfl, ?_⟩, fun _ _ _ h => h, ?_⟩
  rotate_left 1
  · intro W hW
    try dsimp only at hW
    go_simp
    try with_reducible rfl
  simp only [Act.put, List.setIfInBounds_toArray, List.set_cons_zero, List.set_cons_succ]
  refine wpH.take (i := 4) (by kernel_rfl) (by kernel_rfl) (by kernel_rfl) (by kernel_rfl) (by kernel_rfl) trivial ?_
  intro oi ho
  simp only [List.getElem?_toArray, List.getElem?_cons_succ, List.getElem?_cons_zero, Option.some.injEq] at ho
  subst ho
  refine ⟨?_, Or.inl ⟨by rfl, ?_⟩, fun _ _ _ h => h, ?_⟩
  rotate_left 1
  · intro W hW
    try dsimp only at hW
    go_simp
    try with_reducible rfl
  simp only [Act.put, List.setIfInBounds_toArray, List.set_cons_zero, List.set_cons_succ]
  refine wpH.take (i := 5) (by kernel_rfl) (by kernel_rfl) (by kernel_rfl) (by kernel_rfl) (by kernel_rfl) trivial ?_
  intro oi ho
  simp only [List.getElem?_toArray, List.getElem?_cons_succ, List.getElem?_cons_zero, Option.some.injEq] at ho
  subst ho
  refine ⟨?_, Or.inl ⟨by rfl, ?_⟩, fun _ _ _ h => h, ?_⟩
  rotate_left 1
  · intro W hW
    try dsimp only at hW
    go_simp
    try with_reducible rfl
  simp only [Act.put, List.setIfInBounds_toArray, List.set_cons_zero, List.set_cons_succ]
  refine wpH.one (i := 6) (by kernel_rfl) ?_
  intro oi ho
  simp only [List.getElem?_toArray, List.getElem?_cons_succ, List.getElem?_cons_zero, Option.some.injEq] at ho
  subst ho
  intro K hK
  have HK := Lib.hid hK
  clear hK
  rw [if_pos (by simp [Region.wanted])]
  refine Lib.wp_append_run w.drew (.tmp 22) (.tmp 25) 39 39 rfl (.slice (some ⟨g, 0, none⟩) i cap) (.slice (some A) (m - i) (cap - (i + 1))) rfl rfl (.slice (some ⟨g, 0, none⟩) m cap) W1 (HR1.out _) ?_
  refine HK.out _ _ (fun _ => trivial) ?_
  try simp only [Act.put, List.setIfInBounds_toArray, List.set_cons_zero, List.set_cons_succ]
  refine wpH.take (i := 7) (by kernel_rfl) (by kernel_rfl) (by kernel_rfl) (by kernel_rfl) (by kernel_rfl) trivial ?_
  intro oi ho
  simp only [List.getElem?_toArray, List.getElem?_cons_succ, List.getElem?_cons_zero, Option.some.injEq] at ho
  subst ho
  refine ⟨?_, Or.inl ⟨by rfl, ?_⟩, fun _ _ _ h => h, ?_⟩
  rotate_left 1
  · intro W hW
    try dsimp only at hW
    go_simp
    try with_reducible rfl
  simp only [Act.put, List.setIfInBounds_toArray, List.set_cons_zero]
  refine wpH.done (by kernel_rfl) ?_
  go_wp2_with fail
  go_ret
  exact ⟨rfl, HO.out, HBW.out⟩

set_option maxRecDepth 100000 in
set_option maxHeartbeats 4000000 in
/-- the others -/
theorem without142 (fs : List Fc) (p : Nat → Prop) (ad : Addr) (c i : Nat) (w : World) (hr : factE.Row p w (some ad) fs) (hp : ∀ b, p b → b < w.heap.size) (hi : i < fs.length) (hn : fs.length ≤ 1000) :
    Calls Try.prog 142 #[.slice (some ad) fs.length c, .int .i64 i] w fun e w' => ∃ g cap, e = .returned (.slice (some ⟨g, 0, none⟩) (fs.length - 1) cap) ∧ factE.Own p w.heap.size w' (.slice (some ⟨g, 0, none⟩) (fs.length - 1) cap) (fs.eraseIdx i) ∧ Below w.heap.size w w' := by
  go_enter Try.func142, Try.ntmps142
  go_wp2_with fail
  refine (clone157 fs p ad c w hr hp (by omega) hn).mono ?_
  rintro e w1 ⟨g, cap, rfl, ho, hb⟩
  have HO := Lib.hid ho; have HB := Lib.hid hb
  clear ho hb
  go_wp2_with fail
  refine (delete156 (w0 := w) fs p w.heap.size g cap i w1 HB.out (Nat.le_refl _) HO.out hi hn).mono ?_
  rintro e w2 ⟨rfl, ho2, hb2⟩
  have HO2 := Lib.hid ho2; have HB2 := Lib.hid hb2
  clear ho2 hb2
  go_wp2_with fail
  go_ret
  exact ⟨g, cap, rfl, HO2.out, HB2.out⟩
end Go.Proofs.Ytlhnfdjidjgfgaa
