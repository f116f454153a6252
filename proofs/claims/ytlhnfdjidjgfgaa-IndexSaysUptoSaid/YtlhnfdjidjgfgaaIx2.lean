/-
  Walks: index.Over, index.Under, index.Meet.
-/
import Derived.Test.YtlhnfdjidjgfgaaProg
import Derived.Test.YtlhnfdjidjgfgaaIx
import Derived.Test.YtlhnfdjidjgfgaaSh
import Derived.Test.YtlhnfdjidjgfgaaXe
import Derived.Test.YtlhnfdjidjgfgaaUx5
import Derived.Test.YtlhnfdjidjgfgaaG2
import Derived.RegionTactic
namespace Go.Proofs.Ytlhnfdjidjgfgaa
open Go.RowKit Go.Shelf
set_option linter.unusedVariables false
set_option maxHeartbeats 400000

theorem findF_ok {ks : List T} {t : T} (h : (findF ks t).1 = 0) : ks.length ≤ 60 ∧ (∀ i, i < ks.length → (treeF (gK ks i)).1 = 0) ∧ (treeF t).1 = 0 := by
  unfold findF at h
  by_cases h1 : 60 < ks.length
  · rw [if_pos h1] at h; simp at h
  rw [if_neg h1] at h
  by_cases h2 : (firstT ks 0).1 = 0
  · rw [if_neg (by simpa using h2)] at h
    by_cases h3 : (treeF t).1 = 0
    · refine ⟨by omega, fun i hi => ?_, h3⟩
      refine Classical.byContradiction fun hc => ?_
      -- the first that is wrong
      have key : ∀ n, n ≤ ks.length → (∀ j, j < n → (treeF (gK ks j)).1 = 0) ∨ ∃ k, k < n ∧ (∀ j, j < k → (treeF (gK ks j)).1 = 0) ∧ (treeF (gK ks k)).1 ≠ 0 := by
        intro n
        induction n with
        | zero => intro _; exact .inl (fun j hj => by omega)
        | succ n ih =>
          intro hn
          rcases ih (by omega) with h | ⟨k, h4, h5, h6⟩
          · by_cases h7 : (treeF (gK ks n)).1 = 0
            · exact .inl (fun j hj => by by_cases e : j = n; subst e; exact h7; exact h j (by omega))
            · exact .inr ⟨n, by omega, h, h7⟩
          · exact .inr ⟨k, by omega, h5, h6⟩
      rcases key ks.length (Nat.le_refl _) with h4 | ⟨k, h4, h5, h6⟩
      · exact hc (h4 i hi)
      · have := firstT_hit (a := 0) h5 h4 h6
        rw [this] at h2; exact h6 h2
    · rw [if_pos h3] at h; exact absurd h h3
  · rw [if_pos h2] at h; exact absurd h h2
theorem ok_parts {t : T} (h : (treeF t).1 = 0) : (∀ z ∈ t.pre, okN z) ∧ t.size ≤ 40 ∧ t.deep ≤ 12 := by
  have := treeF_ok.1 h
  exact ⟨this.2.2, this.1, this.2.1⟩
theorem ok_thin {t : T} (h : (treeF t).1 = 0) : t.thin := fun z hz => by
  have := ((ok_parts h).1 z hz).2
  exact Nat.le_of_not_lt fun e => this (.inl (by omega))
theorem sh_size (b : Int) (t : T) : (shT b t).size = t.size := by
  induction t using T.ind with
  | h t ih =>
    rw [shT_eq, T.size_eq, T.size_eq t]
    congr 1
    show sizeL (shL b t.kids) = sizeL t.kids
    have key : ∀ ks : List T, (∀ i, i < ks.length → (shT b (gK ks i)).size = (gK ks i).size) → sizeL (shL b ks) = sizeL ks := by
      intro ks
      induction ks with
      | nil => intro _; rfl
      | cons k r ihr =>
        intro h
        have h0 : (shT b k).size = k.size := h 0 (by simp)
        simp only [shL, sizeL]
        rw [h0, ihr (fun i hi => h (i + 1) (by simpa using hi))]
    exact key t.kids ih
theorem gK_shL (b : Int) : ∀ {l : List T} {i : Nat}, i < l.length → gK (shL b l) i = shT b (gK l i)
  | [], i, h => by simp at h
  | k :: r, 0, _ => rfl
  | k :: r, i + 1, h => by
    have := gK_shL b (l := r) (i := i) (by simpa using h)
    simpa [shL, gK] using this
theorem sh_va {t : T} (h : (treeF t).1 = 0) : VA 16 (shT 8 t) := by
  have h0 := treeF_ok.1 h
  refine ⟨?_, by rw [sh_size]; omega⟩
  have key : ∀ t : T, (∀ z ∈ t.pre, okN z) → ∀ x ∈ (shT 8 t).pre, x.head < 0 → x.kids = [] ∧ vI x < 16 := fun t => by
    induction t using T.ind with
    | h t ih =>
      intro ho x hx hn
      rw [shT_eq, T.pre_eq] at hx
      rcases List.mem_cons.1 hx with rfl | hx
      · have h1 := okN_num (ho t (by rw [T.pre_eq]; simp))
        have hn' : (if t.head < 0 then t.head - 8 else t.head) < 0 := hn
        by_cases e : t.head < 0
        · have h2 := h1.2.2.2.2 e
          refine ⟨?_, ?_⟩
          · show shL 8 t.kids = []
            exact List.eq_nil_of_length_eq_zero (by rw [shL_length]; exact h2)
          · show (-(if t.head < 0 then t.head - 8 else t.head) - 1).toNat < 16
            rw [if_pos e]; omega
        · rw [if_neg e] at hn'; omega
      · obtain ⟨i, hi, h2⟩ := mem_preL hx
        have hi' : i < t.kids.length := by simpa [T.kids, shL_length] using hi
        have h2' : x ∈ (gK (shL 8 t.kids) i).pre := h2
        rw [gK_shL 8 hi'] at h2'
        exact ih i hi' (fun z hz => ho z (by rw [T.pre_eq]; exact List.mem_cons_of_mem _ (kid_pre_mem hi' hz))) x h2' hn
  exact key t h0.2.2
/-- can two terms be made one whose variables are kept apart? -/
def Meets (x t : T) : Prop := ∃ θ, (shT 8 x).inst θ = t.inst θ

set_option maxRecDepth 100000 in
set_option maxHeartbeats 4000000 in
theorem over92 (x t : T) (xk tk : Option Addr) (xs ts bt : Nat) (w : World) (hx : TreeAt w (.agg #[.int .i64 x.head, .slice xk x.kids.length (x.kids.length + xs)]) x) (ht : TreeAt w (.agg #[.int .i64 t.head, .slice tk t.kids.length (t.kids.length + ts)]) t) (hb : w.heap[bt]? = some (.cells #[.int .i64 t.head, .slice tk t.kids.length (t.kids.length + ts)] 38 (0, 0))) (ox : (treeF x).1 = 0) (ot : (treeF t).1 = 0) :
    Calls Try.prog 92 #[.agg #[.int .i64 x.head, .slice xk x.kids.length (x.kids.length + xs)], .pointer (some ⟨bt, 0, none⟩)] w fun e w' => e = .returned (.bool (fitF x t).isSome) ∧ Below w.heap.size w w' := by
  have TX := Lib.hid hx; have TT := Lib.hid ht; have OX := Lib.hid (ok_parts ox); have OT := Lib.hid (ok_parts ot)
  obtain ⟨bx, hbx⟩ : ∃ b, b = w.heap.size := ⟨_, rfl⟩
  have S1 := (((St.start w).add (.box bt #[.int .i64 t.head, .slice tk t.kids.length (t.kids.length + ts)] 38) hb).box hbx.symm #[.int .i64 x.head, .slice xk x.kids.length (x.kids.length + xs)] 38)
  have hltw := heap_lt hb
  clear hx ht ox ot hb
  go_enter Try.func92, Try.ntmps92
  obtain ⟨⟨x0, _⟩, x1, _⟩ := S1.two 0
  go_wp2_with fail
  rw [← hbx]
  refine S1.gen (z := bx + 1) (by simp [hbx]) ?_
  intro w1 z1 S
  clear S1 hbx x0 x1
  refine (match55 x t _ _ w1 (TX.out.kept S.bel) (TT.out.kept S.bel) OX.out.1 (by have := OX.out.2.1; omega) (by have := OX.out.2.2; omega) (by have := OT.out.2.1; omega)).mono ?_
  rintro e w2 ⟨ro, rc, rfl, _, hb2⟩
  have SE := Lib.hid (S.step hb2).bel
  clear S hb2
  go_wp2_with fail
  go_ret
  exact ⟨rfl, SE.out⟩

set_option maxRecDepth 100000 in
set_option maxHeartbeats 4000000 in
theorem under93 (x t : T) (xk tk : Option Addr) (xs ts bt : Nat) (w : World) (hx : TreeAt w (.agg #[.int .i64 x.head, .slice xk x.kids.length (x.kids.length + xs)]) x) (ht : TreeAt w (.agg #[.int .i64 t.head, .slice tk t.kids.length (t.kids.length + ts)]) t) (hb : w.heap[bt]? = some (.cells #[.int .i64 t.head, .slice tk t.kids.length (t.kids.length + ts)] 38 (0, 0))) (ox : (treeF x).1 = 0) (ot : (treeF t).1 = 0) :
    Calls Try.prog 93 #[.agg #[.int .i64 x.head, .slice xk x.kids.length (x.kids.length + xs)], .pointer (some ⟨bt, 0, none⟩)] w fun e w' => e = .returned (.bool (fitF t x).isSome) ∧ Below w.heap.size w w' := by
  have TX := Lib.hid hx; have TT := Lib.hid ht; have OX := Lib.hid (ok_parts ox); have OT := Lib.hid (ok_parts ot)
  obtain ⟨bx, hbx⟩ : ∃ b, b = w.heap.size := ⟨_, rfl⟩
  have S1 := (((St.start w).add (.box bt #[.int .i64 t.head, .slice tk t.kids.length (t.kids.length + ts)] 38) hb).box hbx.symm #[.int .i64 x.head, .slice xk x.kids.length (x.kids.length + xs)] 38)
  have hltw := heap_lt hb
  clear hx ht ox ot hb
  go_enter Try.func93, Try.ntmps93
  obtain ⟨⟨x0, _⟩, x1, _⟩ := S1.two 0
  go_wp2_with fail
  rw [← hbx]
  refine S1.gen (z := bx + 1) (by simp [hbx]) ?_
  intro w1 z1 S
  clear S1 hbx x0 x1
  refine (match55 t x _ _ w1 (TT.out.kept S.bel) (TX.out.kept S.bel) OT.out.1 (by have := OT.out.2.1; omega) (by have := OT.out.2.2; omega) (by have := OX.out.2.1; omega)).mono ?_
  rintro e w2 ⟨ro, rc, rfl, _, hb2⟩
  have SE := Lib.hid (S.step hb2).bel
  clear S hb2
  go_wp2_with fail
  go_ret
  exact ⟨rfl, SE.out⟩

open Classical in
set_option maxRecDepth 100000 in
set_option maxHeartbeats 4000000 in
theorem meet94 (x t : T) (xk tk : Option Addr) (xs ts bt : Nat) (w : World) (hx : TreeAt w (.agg #[.int .i64 x.head, .slice xk x.kids.length (x.kids.length + xs)]) x) (ht : TreeAt w (.agg #[.int .i64 t.head, .slice tk t.kids.length (t.kids.length + ts)]) t) (hb : w.heap[bt]? = some (.cells #[.int .i64 t.head, .slice tk t.kids.length (t.kids.length + ts)] 38 (0, 0))) (ox : (treeF x).1 = 0) (ot : (treeF t).1 = 0) :
    Calls Try.prog 94 #[.agg #[.int .i64 x.head, .slice xk x.kids.length (x.kids.length + xs)], .pointer (some ⟨bt, 0, none⟩)] w fun e w' => e = .returned (.bool (decide (Meets x t))) ∧ Below w.heap.size w w' := by
  have TX := Lib.hid hx; have TT := Lib.hid ht
  have HLO := Lib.hid (low_of_pre x (ok_parts ox).1); have HTH := Lib.hid (ok_thin ox)
  have HVX := Lib.hid (sh_va ox); have HVT := Lib.hid ((okA.va (ok_parts ot).1 (by have := (ok_parts ot).2.1; omega)).mono (N' := 16) (by decide))
  obtain ⟨bx, hbx⟩ : ∃ b, b = w.heap.size := ⟨_, rfl⟩
  have S1 := (((St.start w).add (.box bt #[.int .i64 t.head, .slice tk t.kids.length (t.kids.length + ts)] 38) hb).box hbx.symm #[.int .i64 x.head, .slice xk x.kids.length (x.kids.length + xs)] 38)
  clear hx ht ox ot hb
  go_enter Try.func94, Try.ntmps94
  go_wp2_with fail
  rw [← hbx]
  refine S1.genC (z := bx + 1) (by simp [hbx]) ?_
  intro w1 z1 S
  clear S1 hbx
  have SD : St w w1.drew [.box bt #[.int .i64 t.head, .slice tk t.kids.length (t.kids.length + ts)] 38, .box bx #[.int .i64 x.head, .slice xk x.kids.length (x.kids.length + xs)] 38] := S.drew
  clear S
  refine wpG_region 99 (fun W => W.cell? ⟨bx, 0, none⟩ = some (.int .i64 x.head) ∧ W.cell? ⟨bx, 1, none⟩ = some (.slice xk x.kids.length (x.kids.length + xs)) ∧ W.cell? ⟨bt, 0, none⟩ = some (.int .i64 t.head) ∧ W.cell? ⟨bt, 1, none⟩ = some (.slice tk t.kids.length (t.kids.length + ts))) (by kernel_rfl) ?_
  have HS := (⟨(SD.two 1).1.1, (SD.two 1).2.1, (SD.two 0).1.1, (SD.two 0).2.1⟩: _ ∧ _ ∧ _ ∧ _)
  refine wpG.take0 (i := 0) (by kernel_rfl) (by kernel_rfl) (by kernel_rfl) (by kernel_rfl) HS ?_
  intro oi ho
  simp only [List.getElem?_toArray, List.getElem?_cons_zero, Option.some.injEq] at ho
  subst ho
  refine ⟨?_, Or.inl ⟨by rfl, ?_⟩, fun _ _ _ h => h, ?_⟩
  rotate_left 1
  · intro W hW
    try dsimp only at hW
    go_simp
    try with_reducible rfl
  simp only [Act.put, List.setIfInBounds_toArray, List.set_cons_zero, List.set_cons_succ]
  refine wpG.take0 (i := 2) (by kernel_rfl) (by kernel_rfl) (by kernel_rfl) (by kernel_rfl) HS ?_
  intro oi ho
  simp only [List.getElem?_toArray, List.getElem?_cons_succ, List.getElem?_cons_zero, Option.some.injEq] at ho
  subst ho
  refine ⟨?_, Or.inl ⟨by rfl, ?_⟩, fun _ _ _ h => h, ?_⟩
  rotate_left 1
  · intro W hW
    try dsimp only at hW
    go_simp
    try with_reducible rfl
  simp only [Act.put, List.setIfInBounds_toArray, List.set_cons_zero, List.set_cons_succ]
  refine wpG.one (i := 1) (by kernel_rfl) ?_
  intro oi ho
  simp only [List.getElem?_toArray, List.getElem?_cons_succ, List.getElem?_cons_zero, Option.some.injEq] at ho
  subst ho
  intro K hK
  have HK := Lib.hid hK
  have HSH := Lib.hid HS
  clear hK HS
  go_simp
  go_at_call 96
  refine (SD.made (shift96 8 (by decide) (by decide) x _ w1.drew (TX.out.kept SD.bel) HLO.out HTH.out)).mono ?_
  rintro e w4 ⟨k4, s4, rfl, z4, S4⟩
  dsimp only
  refine HK.out _ _ (fun _ => ⟨(S4.two 1).1.1, (S4.two 1).2.1, (S4.two 0).1.1, (S4.two 0).2.1⟩) ?_
  have HS := ((⟨(S4.two 1).1.1, (S4.two 1).2.1, (S4.two 0).1.1, (S4.two 0).2.1⟩) : _ ∧ _ ∧ _ ∧ _)
  try simp only [Act.put, List.setIfInBounds_toArray, List.set_cons_zero, List.set_cons_succ]
  refine wpG.one (i := 3) (by kernel_rfl) ?_
  intro oi ho
  simp only [List.getElem?_toArray, List.getElem?_cons_succ, List.getElem?_cons_zero, Option.some.injEq] at ho
  subst ho
  intro K hK
  have HK := Lib.hid hK
  have HSH := Lib.hid HS
  clear hK HS
  go_simp
  go_at_call 95
  refine (can95 16 (shT 8 x) t _ _ w4 (S4.tree 2).at (TT.out.kept S4.bel) HVX.out HVT.out (by decide)).mono ?_
  rintro e w5 ⟨r, rfl, hr, hb5⟩
  obtain rfl : r = decide (Meets x t) := by rw [Bool.eq_iff_iff]; simp only [decide_eq_true_eq]; exact hr
  have S5 := S4.step hb5
  clear hr hb5
  dsimp only
  refine HK.out _ _ (fun _ => ⟨(S5.two 1).1.1, (S5.two 1).2.1, (S5.two 0).1.1, (S5.two 0).2.1⟩) ?_
  have HS := ((⟨(S5.two 1).1.1, (S5.two 1).2.1, (S5.two 0).1.1, (S5.two 0).2.1⟩) : _ ∧ _ ∧ _ ∧ _)
  try simp only [Act.put, List.setIfInBounds_toArray, List.set_cons_zero, List.set_cons_succ]
  refine wpG.one (i := 4) (by kernel_rfl) ?_
  intro oi ho
  simp only [List.getElem?_toArray, List.getElem?_cons_succ, List.getElem?_cons_zero, Option.some.injEq] at ho
  subst ho
  intro K hK
  have HK := Lib.hid hK
  have HSH := Lib.hid HS
  clear hK HS
  go_simp
  refine HK.out _ _ (fun _ => ⟨(S5.two 1).1.1, (S5.two 1).2.1, (S5.two 0).1.1, (S5.two 0).2.1⟩) ?_
  have HS := ((⟨(S5.two 1).1.1, (S5.two 1).2.1, (S5.two 0).1.1, (S5.two 0).2.1⟩) : _ ∧ _ ∧ _ ∧ _)
  try simp only [Act.put, List.setIfInBounds_toArray, List.set_cons_zero, List.set_cons_succ]
  refine wpG.done (by kernel_rfl) ?_
  have SE := Lib.hid S5.bel
  clear SD S4 S5 HS
  go_wp2_with fail
  go_ret
  exact ⟨rfl, SE.out⟩

open Classical in
set_option maxRecDepth 100000 in
set_option maxHeartbeats 4000000 in
theorem over43 (ao : Option Addr) (ks : List T) (c : Nat) (t : T) (v : Value) (w : World) (hn : ks.length ≤ 9223372036854775807) (hr : RowAt w ao ks) (ht : TreeAt w v t) :
    Calls Try.prog 43 #[.slice ao ks.length c, v] w (FindP ks t (fun i => (fitF (gK ks i) t).isSome) w) := by
  obtain ⟨tk, ts, rfl⟩ := ht.form
  have HR := Lib.hid hr; have TT := Lib.hid ht
  obtain ⟨bx, hbx⟩ : ∃ b, b = w.heap.size := ⟨_, rfl⟩
  have S1 := ((St.start w).box hbx.symm #[.int .i64 t.head, .slice tk t.kids.length (t.kids.length + ts)] 38).box (b := bx + 1) (by simp [hbx]) #[.int .i64 0, .int .i64 0] 29
  have HBX := Lib.hid hbx
  obtain ⟨⟨x0, _⟩, x1, _⟩ := S1.two 0
  clear hr ht
  go_enter Try.func43, Try.ntmps43
  go_wp2_with fail
  rw [← hbx]
  refine S1.gen (z := bx + 2) (by simp [hbx]) ?_
  intro w1 z1 S
  clear S1 hbx x0 x1
  refine (find91 92 #[.pointer (some ⟨bx, 0, none⟩)] (enters_of Try.func92 (by kernel_rfl) rfl) ao ks c t _ (fun i => (fitF (gK ks i) t).isSome) w1 hn (HR.out.below S.bel) (TT.out.kept S.bel) (fun h0 i wa u hi hba hu => ?_)).mono ?_
  · obtain ⟨xk, xs, rfl⟩ := hu.form
    have hok := findF_ok h0
    exact over92 (gK ks i) t xk tk xs ts bx wa hu ((TT.out.kept S.bel).kept hba) (Below.heapAt hba (S.block 0)) (hok.2.1 i hi) hok.2.2
  · rintro e w2 ⟨L, f, ro, rc, rfl, hf, hL, hrow, hb2⟩
    have S2 := (S.step hb2).add (.rowE intE (fun b => w1.heap.size ≤ b) ro L) hrow
    have HF := Lib.hid hf; have HL := Lib.hid hL
    have z2 := hb2.size
    obtain ⟨f1, f2⟩ := f
    obtain ⟨⟨x0, x1⟩, x2, x3⟩ := S2.two 1
    have hl := S2.lt 1
    have SG := Lib.hid (S2.set2 1 rfl (.int .i64 f1) (.int .i64 f2) (by have := HBX.out; omega) (by simp only [fsnoc, offs, offAll, Fct.box, Fct.rowE, and_true]; omega))
    clear S S2 hb2 hf hL hrow
    simp only [FV]
    go_wp2_with fail
    refine bodyPost_ret (v := .tuple #[.slice ro L.length rc, .agg #[.int .i64 f1, .int .i64 f2]]) ?_ rfl ?_
    · obtain ⟨⟨z0, _⟩, z1, _⟩ := SG.out.two 1
      simp [results, Try.results43, go_sem, z0, z1]
    · exact ⟨L, (f1, f2), ro, rc, rfl, HF.out, HL.out, (SG.out.rowE intE 2).mono (fun b h _ => by have := HBX.out; omega), SG.out.bel⟩

open Classical in
set_option maxRecDepth 100000 in
set_option maxHeartbeats 4000000 in
theorem under44 (ao : Option Addr) (ks : List T) (c : Nat) (t : T) (v : Value) (w : World) (hn : ks.length ≤ 9223372036854775807) (hr : RowAt w ao ks) (ht : TreeAt w v t) :
    Calls Try.prog 44 #[.slice ao ks.length c, v] w (FindP ks t (fun i => (fitF t (gK ks i)).isSome) w) := by
  obtain ⟨tk, ts, rfl⟩ := ht.form
  have HR := Lib.hid hr; have TT := Lib.hid ht
  obtain ⟨bx, hbx⟩ : ∃ b, b = w.heap.size := ⟨_, rfl⟩
  have S1 := ((St.start w).box hbx.symm #[.int .i64 t.head, .slice tk t.kids.length (t.kids.length + ts)] 38).box (b := bx + 1) (by simp [hbx]) #[.int .i64 0, .int .i64 0] 29
  have HBX := Lib.hid hbx
  obtain ⟨⟨x0, _⟩, x1, _⟩ := S1.two 0
  clear hr ht
  go_enter Try.func44, Try.ntmps44
  go_wp2_with fail
  rw [← hbx]
  refine S1.gen (z := bx + 2) (by simp [hbx]) ?_
  intro w1 z1 S
  clear S1 hbx x0 x1
  refine (find91 93 #[.pointer (some ⟨bx, 0, none⟩)] (enters_of Try.func93 (by kernel_rfl) rfl) ao ks c t _ (fun i => (fitF t (gK ks i)).isSome) w1 hn (HR.out.below S.bel) (TT.out.kept S.bel) (fun h0 i wa u hi hba hu => ?_)).mono ?_
  · obtain ⟨xk, xs, rfl⟩ := hu.form
    have hok := findF_ok h0
    exact under93 (gK ks i) t xk tk xs ts bx wa hu ((TT.out.kept S.bel).kept hba) (Below.heapAt hba (S.block 0)) (hok.2.1 i hi) hok.2.2
  · rintro e w2 ⟨L, f, ro, rc, rfl, hf, hL, hrow, hb2⟩
    have S2 := (S.step hb2).add (.rowE intE (fun b => w1.heap.size ≤ b) ro L) hrow
    have HF := Lib.hid hf; have HL := Lib.hid hL
    have z2 := hb2.size
    obtain ⟨f1, f2⟩ := f
    obtain ⟨⟨x0, x1⟩, x2, x3⟩ := S2.two 1
    have hl := S2.lt 1
    have SG := Lib.hid (S2.set2 1 rfl (.int .i64 f1) (.int .i64 f2) (by have := HBX.out; omega) (by simp only [fsnoc, offs, offAll, Fct.box, Fct.rowE, and_true]; omega))
    clear S S2 hb2 hf hL hrow
    simp only [FV]
    go_wp2_with fail
    refine bodyPost_ret (v := .tuple #[.slice ro L.length rc, .agg #[.int .i64 f1, .int .i64 f2]]) ?_ rfl ?_
    · obtain ⟨⟨z0, _⟩, z1, _⟩ := SG.out.two 1
      simp [results, Try.results44, go_sem, z0, z1]
    · exact ⟨L, (f1, f2), ro, rc, rfl, HF.out, HL.out, (SG.out.rowE intE 2).mono (fun b h _ => by have := HBX.out; omega), SG.out.bel⟩

open Classical in
set_option maxRecDepth 100000 in
set_option maxHeartbeats 4000000 in
theorem meet45 (ao : Option Addr) (ks : List T) (c : Nat) (t : T) (v : Value) (w : World) (hn : ks.length ≤ 9223372036854775807) (hr : RowAt w ao ks) (ht : TreeAt w v t) :
    Calls Try.prog 45 #[.slice ao ks.length c, v] w (FindP ks t (fun i => decide (Meets (gK ks i) t)) w) := by
  obtain ⟨tk, ts, rfl⟩ := ht.form
  have HR := Lib.hid hr; have TT := Lib.hid ht
  obtain ⟨bx, hbx⟩ : ∃ b, b = w.heap.size := ⟨_, rfl⟩
  have S1 := ((St.start w).box hbx.symm #[.int .i64 t.head, .slice tk t.kids.length (t.kids.length + ts)] 38).box (b := bx + 1) (by simp [hbx]) #[.int .i64 0, .int .i64 0] 29
  have HBX := Lib.hid hbx
  obtain ⟨⟨x0, _⟩, x1, _⟩ := S1.two 0
  clear hr ht
  go_enter Try.func45, Try.ntmps45
  go_wp2_with fail
  rw [← hbx]
  refine S1.gen (z := bx + 2) (by simp [hbx]) ?_
  intro w1 z1 S
  clear S1 hbx x0 x1
  refine (find91 94 #[.pointer (some ⟨bx, 0, none⟩)] (enters_of Try.func94 (by kernel_rfl) rfl) ao ks c t _ (fun i => decide (Meets (gK ks i) t)) w1 hn (HR.out.below S.bel) (TT.out.kept S.bel) (fun h0 i wa u hi hba hu => ?_)).mono ?_
  · obtain ⟨xk, xs, rfl⟩ := hu.form
    have hok := findF_ok h0
    exact meet94 (gK ks i) t xk tk xs ts bx wa hu ((TT.out.kept S.bel).kept hba) (Below.heapAt hba (S.block 0)) (hok.2.1 i hi) hok.2.2
  · rintro e w2 ⟨L, f, ro, rc, rfl, hf, hL, hrow, hb2⟩
    have S2 := (S.step hb2).add (.rowE intE (fun b => w1.heap.size ≤ b) ro L) hrow
    have HF := Lib.hid hf; have HL := Lib.hid hL
    have z2 := hb2.size
    obtain ⟨f1, f2⟩ := f
    obtain ⟨⟨x0, x1⟩, x2, x3⟩ := S2.two 1
    have hl := S2.lt 1
    have SG := Lib.hid (S2.set2 1 rfl (.int .i64 f1) (.int .i64 f2) (by have := HBX.out; omega) (by simp only [fsnoc, offs, offAll, Fct.box, Fct.rowE, and_true]; omega))
    clear S S2 hb2 hf hL hrow
    simp only [FV]
    go_wp2_with fail
    refine bodyPost_ret (v := .tuple #[.slice ro L.length rc, .agg #[.int .i64 f1, .int .i64 f2]]) ?_ rfl ?_
    · obtain ⟨⟨z0, _⟩, z1, _⟩ := SG.out.two 1
      simp [results, Try.results45, go_sem, z0, z1]
    · exact ⟨L, (f1, f2), ro, rc, rfl, HF.out, HL.out, (SG.out.rowE intE 2).mono (fun b h _ => by have := HBX.out; omega), SG.out.bel⟩
end Go.Proofs.Ytlhnfdjidjgfgaa
