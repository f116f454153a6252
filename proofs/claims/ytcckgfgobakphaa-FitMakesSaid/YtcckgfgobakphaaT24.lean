/-
  Walks: tree.Vars.
-/
import Derived.Test.YtcckgfgobakphaaProg
import Derived.Test.YtcckgfgobakphaaBase
import Derived.Test.YtcckgfgobakphaaT15
import Derived.Test.YtcckgfgobakphaaT20
import Derived.Test.YtcckgfgobakphaaT23
import Derived.Laws.OwnMore
namespace Go.Proofs.Ytcckgfgobakphaa
open Go.RowKit Go.Shelf
set_option linter.unusedVariables false
set_option maxHeartbeats 400000
attribute [local go_sem] Oper.semAt_some

/-- a row of integers of the call's own, place by place -/
def RowI (w : World) (base : Nat) (v : Value) (m : Nat) (p : Nat → Int) : Prop := w.ownsRow base 3 1 v m ((List.range m).map fun j => .int .i64 (p j))
def setI (p : Nat → Int) (j : Nat) (x : Int) : Nat → Int := fun i => if i = j then x else p i
theorem RowI.cell {w : World} {base g m cap : Nat} {p : Nat → Int} (h : RowI w base (.slice (some ⟨g, 0, none⟩) m cap) m p) {j : Nat} (hj : j < m) :
    w.cell? ⟨g, j, none⟩ = some (.int .i64 (p j)) ∧ w.frozen? ⟨g, j, none⟩ = false := by
  refine ⟨?_, h.frozenAt j⟩
  rw [h.cellAt j (by omega)]
  simp [hj]
theorem RowI.set {w : World} {base g m cap : Nat} {p : Nat → Int} (h : RowI w base (.slice (some ⟨g, 0, none⟩) m cap) m p) (j : Nat) (b : Int) :
    RowI (w.setCell ⟨g, j, none⟩ (.int .i64 b)) base (.slice (some ⟨g, 0, none⟩) m cap) m (setI p j b) := by
  have := (h.stored j (.int .i64 b)).1
  unfold RowI
  have e : ((List.range m).map fun i => Value.int .i64 (p i)).set j (.int .i64 b) = (List.range m).map fun i => Value.int .i64 (setI p j b i) := by
    apply List.ext_getElem (by simp)
    intro i h1 h2
    simp only [List.getElem_set, List.getElem_map, List.getElem_range, setI]
    by_cases hij : j = i
    · subst hij; simp
    · have : ¬ i = j := fun h => hij h.symm
      simp [hij, this]
  rw [e] at this
  exact this
theorem RowI.below {w w' : World} {base g m cap : Nat} {p : Nat → Int} (h : RowI w base (.slice (some ⟨g, 0, none⟩) m cap) m p) (hb : Below w.heap.size w w') :
    RowI w' base (.slice (some ⟨g, 0, none⟩) m cap) m p :=
  World.ownsRow.kept h (row := none) ⟨hb.os, hb.tape, hb.output, hb.size, fun k hk _ => hb.block k hk⟩ (.inr (by simp [Value.ownBlock]))
theorem RowI.lt {w : World} {base g m cap : Nat} {p : Nat → Int} (h : RowI w base (.slice (some ⟨g, 0, none⟩) m cap) m p) : base ≤ g ∧ g < w.heap.size := World.ownsRow.lt h g rfl
theorem RowI.congr {w : World} {base m : Nat} {v : Value} {p q : Nat → Int} (h : RowI w base v m p) (he : ∀ j, j < m → p j = q j) : RowI w base v m q := by
  unfold RowI at h ⊢
  rw [List.map_congr_left (g := fun j => Value.int .i64 (q j)) (fun j hj => by rw [he j (by simpa using hj)])] at h
  exact h
theorem RowI.block {w : World} {base g m cap : Nat} {p : Nat → Int} (h : RowI w base (.slice (some ⟨g, 0, none⟩) m cap) m p) : ∃ cur, w.heap[g]? = some (.cells cur 3 (0, 0)) := by
  rcases h.2 with ⟨h1, _⟩ | ⟨g', cap', cur, h1, _, h2, _⟩
  · cases h1
  · simp at h1; rw [h1.1]; exact ⟨cur, h2⟩
theorem RowI.own {β : Type} (base g m cap : Nat) (p : β → Nat → Int) : Own (fun s W => RowI W base (.slice (some ⟨g, 0, none⟩) m cap) m (p s)) := fun s A B row hs hg hr =>
  World.ownsRow.kept hs hg (.inr (fun e => by
    obtain ⟨o, ho, hc⟩ := hr g (by simpa [Value.ownBlock] using e.symm)
    obtain ⟨cur, h2⟩ := RowI.block hs
    rw [h2] at ho; cases ho; cases hc))
theorem RowI.ints {w : World} {base m : Nat} {v : Value} {p : Nat → Int} (h : RowI w base v m p) : IntsAt w v ((List.range m).map p) := by
  have e : (List.range m).map (fun j => Value.int .i64 (p j)) = ((List.range m).map p).map (Value.int .i64) := by rw [List.map_map]; rfl
  unfold RowI at h
  rw [e] at h
  exact IntsAt.ofOwn (base := base) (by simpa using h)

theorem head_le_most (t : T) : ∀ x ∈ t.pre, -x.head ≤ t.most := by
  intro x hx
  have h1 := maxV_pre t 0 (by omega)
  have key : ∀ (l : List T) (m : Int), ∀ x ∈ l, -x.head ≤ maxV l m := by
    intro l
    induction l with
    | nil => intro m x hx; cases hx
    | cons y r ih =>
      intro m x hx
      rw [maxV]
      rcases List.mem_cons.1 hx with rfl | hx
      · have := maxV_le r (max m (-x.head)); omega
      · exact ih _ x hx
  have h2 := key t.pre 0 x hx
  have := t.most_nonneg
  omega
theorem most_le (t : T) (h : ∀ x ∈ t.pre, okN x) : t.most ≤ 8 := by
  have h1 := maxV_pre t 0 (by omega)
  have key : ∀ (l : List T) (m : Int), m ≤ 8 → (∀ x ∈ l, okN x) → maxV l m ≤ 8 := by
    intro l
    induction l with
    | nil => intro m hm _; exact hm
    | cons y r ih =>
      intro m hm hx
      rw [maxV]
      have := (hx y (by simp)).1
      exact ih _ (by simp only [badHead] at this; omega) (fun x h => hx x (by simp [h]))
  have h2 := key t.pre 0 (by omega) h
  have := t.most_nonneg
  omega

def countsOf (t : T) : List Int := (List.range t.most.toNat).map fun (k : Nat) => ((t.times (-(k : Int) - 1) : Nat) : Int)
def varsF (t : T) : List Int := if (treeF t).1 = 0 then countsOf t else []
def VarsPost (t : T) (w : World) (e : Ending) (w' : World) : Prop := ∃ v, e = .returned (.tuple #[v, FV (treeF t)]) ∧ IntsAt w' v (varsF t) ∧ Below w.heap.size w w'

set_option maxRecDepth 100000 in
set_option maxHeartbeats 4000000 in
theorem vars26 (t : T) (v : Value) (w : World) (ht : TreeAt w v t) : Calls Try.prog 26 #[v] w (VarsPost t w) := by
  obtain ⟨k, sp, rfl⟩ := ht.form
  have HT := Lib.hid ht; clear ht
  have hA := heap_alloc_old (o' := .cells #[.int .i64 0, .int .i64 0] 28) (heap_ofAlloc w (.cells #[.int .i64 t.head, .slice k t.kids.length (t.kids.length + sp)] 24))
  have hB := heap_ofAlloc (w.alloc (.cells #[.int .i64 t.head, .slice k t.kids.length (t.kids.length + sp)] 24)) (.cells #[.int .i64 0, .int .i64 0] 28)
  rw [World.size_alloc] at hB
  have hb0 := ((Below.refl w.heap.size w).alloc (Nat.le_refl _) (.cells #[.int .i64 t.head, .slice k t.kids.length (t.kids.length + sp)] 24)).alloc (by simp) (.cells #[.int .i64 0, .int .i64 0] 28)
  have HCK := Lib.hid (fun W h => check29 t (.agg #[.int .i64 t.head, .slice k t.kids.length (t.kids.length + sp)]) W h)
  obtain ⟨⟨rc, ra⟩, hR⟩ : ∃ r, treeF t = r := ⟨_, rfl⟩
  rw [hR] at HCK
  have HR := Lib.hid hR
  clear hR
  cases hc : (rc != 0) with
  | true =>
    have HVF := Lib.hid (show varsF t = [] by rw [varsF, if_neg (by rw [HR.out]; simpa using hc)])
    go_enter Try.func26, Try.ntmps26
    go_wp2_with fail
    refine (HCK.out _ (HT.out.kept hb0)).mono ?_
    rintro e w1 ⟨rfl, hb1⟩
    have hA1 := Below.heapAt hb1 hA; have hB1 := Below.heapAt hb1 hB
    have hb01 := Below.step hb0 hb1
    clear hA hB hb0 hb1
    simp only [FV]
    go_wp2_with fail
    have hB2 := heap_alloc_old (o' := .cells #[.int .i64 rc, .int .i64 ra] 28) hB1
    have hF2 := heap_ofAlloc w1 (.cells #[.int .i64 rc, .int .i64 ra] 28)
    have hb02 := hb01.alloc hb01.size (.cells #[.int .i64 rc, .int .i64 ra] 28)
    generalize w1.alloc (.cells #[.int .i64 rc, .int .i64 ra] 28) = w2 at hB2 hF2 hb02 ⊢
    obtain ⟨⟨a0, a1⟩, a2, a3⟩ := box2 (w := w2.drew) hB2
    obtain ⟨⟨a4, a5⟩, a6, a7⟩ := box2 hB2
    obtain ⟨⟨f0, f1⟩, f2, f3⟩ := box2 (w := w2.drew) hF2
    obtain ⟨⟨f4, f5⟩, f6, f7⟩ := box2 hF2
    have HB2 := Lib.hid hB2
    clear hB2 hF2 hA1 hB1
    go_region
    all_goals
      go_wp2_with fail
      have q5 := box2_set HB2.out (.int .i64 rc) (.int .i64 ra)
      refine bodyPost_ret (v := .tuple #[.slice none 0 0, .agg #[.int .i64 rc, .int .i64 ra]]) ?_ rfl ?_
      · obtain ⟨⟨z0, _⟩, z1, _⟩ := box2 q5
        simp [results, Try.results26, go_sem, z0, z1]
      · exact ⟨_, by rw [HR.out]; rfl, by rw [HVF.out]; exact IntsAt.nil _, ((hb02.setCell (p := ⟨w.heap.size + 1, 0, none⟩) (by simp) _).setCell (p := ⟨w.heap.size + 1, 1, none⟩) (by simp) _).drew⟩
  | false =>
    have hok : (treeF t).1 = 0 := by rw [HR.out]; simpa using hc
    have HOK := Lib.hid (treeF_ok.1 hok)
    obtain ⟨rfl, rfl⟩ : rc = 0 ∧ ra = 0 := by have := treeF_ok0 hok; rw [HR.out] at this; simpa using this
    have HVF := Lib.hid (show varsF t = countsOf t by rw [varsF, if_pos hok])
    have hm8 := most_le t HOK.out.2.2
    have hm0 := t.most_nonneg
    have HNOD := Lib.hid (fun W h => nodes48 (.agg #[.int .i64 t.head, .slice k t.kids.length (t.kids.length + sp)]) t W h)
    clear hok hc
    obtain ⟨i3, gi, gz0, gz1, gz2⟩ := info_parts info3
    refine (callsIn_wide (n := 4)).1 ?_
    refine callsIn_of_wp_marks Try.func26 rfl trivial ?_ rfl
    simp only [Try.ntmps26, List.size_toArray, List.length_cons, List.length_nil, Nat.reduceAdd, Nat.reduceSub, Array.replicate_succ, Array.replicate_zero, List.push_toArray, List.append_toArray, List.nil_append, List.cons_append]
    refine wpIn_wide.2 ?_
    go_wp2_with fail
    refine (HCK.out _ (HT.out.kept hb0)).mono ?_
    rintro e w1 ⟨rfl, hb1⟩
    have hA1 := Below.heapAt hb1 hA; have hB1 := Below.heapAt hb1 hB
    have hb01 := Below.step hb0 hb1
    clear hA hB hb0 hb1
    simp only [FV]
    obtain ⟨⟨x0, _⟩, x1, _⟩ := box2 hA1
    have hlA := heap_lt hA1
    go_wp2_with fail
    have hA2 := heap_alloc_old (o' := .cells #[.int .i64 0, .int .i64 0] 28) hA1
    have hB2 := heap_alloc_old (o' := .cells #[.int .i64 0, .int .i64 0] 28) hB1
    have hb02 := hb01.alloc hb01.size (.cells #[.int .i64 0, .int .i64 0] 28)
    have hs2 : (w1.alloc (.cells #[.int .i64 0, .int .i64 0] 28)).heap.size = w1.heap.size + 1 := by simp
    have hA3 := heap_alloc_old (o' := .cells #[.int .i64 t.head, .slice k t.kids.length (t.kids.length + sp)] 24) hA2
    have hB3 := heap_alloc_old (o' := .cells #[.int .i64 t.head, .slice k t.kids.length (t.kids.length + sp)] 24) hB2
    have hR3 := heap_ofAlloc (w1.alloc (.cells #[.int .i64 0, .int .i64 0] 28)) (.cells #[.int .i64 t.head, .slice k t.kids.length (t.kids.length + sp)] 24)
    have hb03 := hb02.alloc hb02.size (.cells #[.int .i64 t.head, .slice k t.kids.length (t.kids.length + sp)] 24)
    rw [hs2] at hR3
    clear hA1 hB1 hA2 hB2 hb01 hb02 x0 x1 hlA hs2
    generalize (w1.alloc (.cells #[.int .i64 0, .int .i64 0] 28)).alloc (.cells #[.int .i64 t.head, .slice k t.kids.length (t.kids.length + sp)] 24) = w3 at hA3 hB3 hR3 hb03 ⊢
    have hrow : RowAt w3 (some ⟨w1.heap.size + 1, 0, none⟩) [t] := fun i hi => by
      obtain rfl : i = 0 := by simp at hi; omega
      obtain ⟨⟨z0, _⟩, z1, _⟩ := box2 hR3
      exact ⟨w1.heap.size + 1, 0, k, sp, rfl, by simpa [gK] using z0, by simpa [gK] using z1, by simpa [gK] using HT.out.kept hb03⟩
    refine (max47 [t] (some ⟨w1.heap.size + 1, 0, none⟩) 1 w3 hrow (by simp) (fun i hi => by
      obtain rfl : i = 0 := by simp at hi; omega
      simp only [gK, List.getD_cons_zero]
      exact ⟨by have := HOK.out.1; omega, by have := HOK.out.2.1; omega, HOK.out.2.2⟩)).mono ?_
    rintro e w4 ⟨rfl, hb4⟩
    have hA4 := Below.heapAt hb4 hA3; have hB4 := Below.heapAt hb4 hB3
    have hb04 := Below.step hb03 hb4
    obtain ⟨N, hN⟩ : ∃ N : Nat, (N : Int) = mostL [t] := ⟨t.most.toNat, by simp only [mostL]; omega⟩
    have hN8 : N ≤ 8 := by simp only [mostL] at hN; omega
    have hNm : (N : Int) = t.most := by rw [hN]; simp only [mostL]; omega
    rw [← hN]
    have HNM := Lib.hid hNm
    clear hN hNm hA3 hB3 hR3 hb03 hb4 hrow
    go_wp2_with (at_make; refine wpList_make_full _ rfl (.tmp 16) (.tmp 16) 40 rfl w4.heap.size 3 i3 (.int .i64 0) 1 Try.underlying40 gi gz0 gz1 .i64 .i64 _ _ N rfl rfl rfl rfl ?m1 ?m2 ?m3 ?_)
    case m1 => rw [gz2]; omega
    case m2 => unfold maxLen; omega
    case m3 => exact Nat.le_refl _
    intro w5 hown hgrow
    have hrow : RowI w5 w4.heap.size (.slice (some ⟨w4.heap.size, 0, none⟩) N N) N (fun _ => 0) := by
      unfold RowI
      have e : (madeCells (Value.int .i64 0).cells (N * 1)).toList = (List.range N).map fun _ => Value.int .i64 0 := by
        rw [Nat.mul_one]
        show (madeCells #[Value.int .i64 0] N).toList = _
        rw [toList_madeCells_one]
        apply List.ext_getElem <;> simp
      have hown' : w5.ownsRow w4.heap.size 3 1 (Value.slice (some ⟨w4.heap.size, 0, none⟩) N N) N (madeCells (Value.int .i64 0).cells (N * 1)).toList := by
        rw [Nat.mul_one]; exact hown
      rw [e] at hown'; exact hown'
    have hb5 : Below w4.heap.size w4 w5 := (Below.refl _ _).grown hgrow (Nat.le_refl _) (fun q hq => by cases hq)
    have hA5 := Below.heapAt hb5 hA4; have hB5 := Below.heapAt hb5 hB4
    have hb05 := Below.step hb04 hb5
    have hlo := hrow.lt.2
    have g0 : w.heap.size ≤ w4.heap.size := hb04.size
    have gB4 := heap_lt hB4
    obtain ⟨⟨x0, _⟩, x1, _⟩ := box2 hA5
    have hlA := heap_lt hA5
    clear hown hgrow hA4 hB4 hb04 hb5
    go_wp2_with fail
    have hA6 := heap_alloc_old (o' := .cells #[.slice (some ⟨w4.heap.size, 0, none⟩) N N] 40) hA5
    have hB6 := heap_alloc_old (o' := .cells #[.slice (some ⟨w4.heap.size, 0, none⟩) N N] 40) hB5
    have hV6 := heap_ofAlloc w5 (.cells #[.slice (some ⟨w4.heap.size, 0, none⟩) N N] 40)
    have hrow6 := hrow.below ((Below.refl w5.heap.size w5).alloc (Nat.le_refl _) (.cells #[.slice (some ⟨w4.heap.size, 0, none⟩) N N] 40))
    have hb06 := hb05.alloc hb05.size (.cells #[.slice (some ⟨w4.heap.size, 0, none⟩) N N] 40)
    have hs6 : w5.heap.size < (w5.alloc (.cells #[.slice (some ⟨w4.heap.size, 0, none⟩) N N] 40)).heap.size := by simp
    clear hA5 hB5 hb05 hrow x0 x1 hlA
    generalize w5.alloc (.cells #[.slice (some ⟨w4.heap.size, 0, none⟩) N N] 40) = w6 at hA6 hB6 hV6 hb06 hrow6 hs6 ⊢
    refine (HNOD.out w6 (HT.out.kept hb06)).mono ?_
    rintro e w7 ⟨rfl, hw7⟩
    have hB7 := heap_alloc_old (o' := .cells #[.int .i64 t.head, .slice k t.kids.length (t.kids.length + sp)] 24) hB6
    have hV7 := heap_alloc_old (o' := .cells #[.int .i64 t.head, .slice k t.kids.length (t.kids.length + sp)] 24) hV6
    have hK7 := heap_ofAlloc w6 (.cells #[.int .i64 t.head, .slice k t.kids.length (t.kids.length + sp)] 24)
    have hrow7 := hrow6.below ((Below.refl w6.heap.size w6).alloc (Nat.le_refl _) (.cells #[.int .i64 t.head, .slice k t.kids.length (t.kids.length + sp)] 24))
    have hb07 := hb06.alloc hb06.size (.cells #[.int .i64 t.head, .slice k t.kids.length (t.kids.length + sp)] 24)
    have hs7 : w6.heap.size < (w6.alloc (.cells #[.int .i64 t.head, .slice k t.kids.length (t.kids.length + sp)] 24)).heap.size := by simp
    rw [show w7 = w6.alloc (.cells #[.int .i64 t.head, .slice k t.kids.length (t.kids.length + sp)] 24) from hw7]
    clear hw7 w7 hA6 hB6 hV6 hrow6
    generalize w6.alloc (.cells #[.int .i64 t.head, .slice k t.kids.length (t.kids.length + sp)] 24) = W2 at hB7 hV7 hK7 hb07 hrow7 hs7 ⊢
    have g1 : w4.heap.size < w6.heap.size := by omega
    have g2 : w6.heap.size ≤ W2.heap.size := by omega
    have g3 : w.heap.size ≤ w6.heap.size := hb06.size
    have g4 : w5.heap.size < W2.heap.size := by omega
    obtain ⟨bo, hbo⟩ : ∃ b, b = w4.heap.size := ⟨_, rfl⟩
    obtain ⟨bv, hbv⟩ : ∃ b, b = w5.heap.size := ⟨_, rfl⟩
    obtain ⟨bk, hbk⟩ : ∃ b, b = w6.heap.size := ⟨_, rfl⟩
    obtain ⟨br, hbr⟩ : ∃ b, b = w.heap.size + 1 := ⟨_, rfl⟩
    rw [← hbo] at hV7 hrow7 ⊢
    rw [← hbv] at hV7 ⊢
    rw [← hbk] at hK7 ⊢
    rw [← hbr] at hB7 ⊢
    have e1 : w.heap.size ≤ bo := by omega
    have e2 : bo < w6.heap.size := by omega
    have e3 : w.heap.size ≤ br := by omega
    have e4 : br ≠ bo := by omega
    have e5 : bv ≠ bo := by omega
    have e6 : bv < W2.heap.size := heap_lt hV7
    have e7 : br < W2.heap.size := heap_lt hB7
    have HMEM := Lib.hid (fun (y : T) (hy : y ∈ t.pre) => (⟨HOK.out.2.2 y hy, head_le_most t y hy⟩ : okN y ∧ -y.head ≤ t.most))
    clear hbo hbv hbk hbr
    go_wp2_with fail
    refine (wpIn_wide (n := 4)).1 ?_
    refine wpIn_rangeFunc_ownH rfl (by omega) (gf := 58) (lb := #[.pointer (some ⟨bk, 0, none⟩)]) rfl trivial (enters_of Try.func58 (by kernel_rfl) rfl)
      (nodes_stops w w6.heap.size bk t k sp W2 (by have := HOK.out.1; omega) (by have := HOK.out.2.1; omega) g3 hb07 g2 HT.out hK7) (fun h k => KpN.trans h k) (KpN.putObj hb07.size) (Below.refl _ _) (fun _ => rfl)
      (fun pre V => (RowI V bo (.slice (some ⟨bo, 0, none⟩) N N) N (fun j => ((cntV (-(j : Int) - 1) (pre.map (·.t)) : Nat) : Int)) ∧ (∀ b, b < W2.heap.size → b ≠ bo → V.heap[b]? = W2.heap[b]?)) ∧ Below w.heap.size w V)
      (fun _ _ _ => False)
      (OwnFrom.and (OwnFrom.and (Own.from (RowI.own _ bo N N (fun pre : List (NX w t) => fun j => ((cntV (-(j : Int) - 1) (pre.map (·.t)) : Nat) : Int))) _) (ownFrom_frame W2 bo _ (Nat.le_refl _))) (ownFrom_below (Nat.le_refl _) hb07.size))
      (fun _ _ _ _ _ hs _ _ => hs)
      ⟨⟨hrow7.congr (fun j _ => rfl), fun _ _ _ => rfl⟩, hb07⟩
      (fun y a' V => ∃ Bx : Nat, V.heap[Bx]? = some (.cells #[.int .i64 y.t.head, .slice y.ao y.t.kids.length (y.t.kids.length + y.sp)] 24 (0, 0)) ∧ a' = { tmps := #[.agg #[Value.int IntKind.i64 t.head, Value.slice k t.kids.length (t.kids.length + sp)], .pointer (some ⟨w.heap.size, 0, none⟩), .slice none 0 0, .pointer (some ⟨br, 0, none⟩), .pointer (some ⟨w1.heap.size, 0, none⟩), .pointer (some ⟨bv, 0, none⟩), undef, .pointer (some ⟨Bx, 0, none⟩), .agg #[Value.int IntKind.i64 t.head, Value.slice k t.kids.length (t.kids.length + sp)], .agg #[Value.int IntKind.i64 0, Value.int IntKind.i64 0], .pointer (some ⟨w1.heap.size, 0, none⟩), .int IntKind.i64 0, .bool false, undef, .agg #[Value.int IntKind.i64 t.head, Value.slice k t.kids.length (t.kids.length + sp)], .slice (some ⟨w1.heap.size + 1, 0, none⟩) 1 1, .int IntKind.i64 (N : Int), .slice (some ⟨bo, 0, none⟩) N N, .agg #[Value.int IntKind.i64 t.head, Value.slice k t.kids.length (t.kids.length + sp)], .func (.func 58) #[] #[.pointer (some ⟨bk, 0, none⟩)], y.pl, .agg #[.int .i64 y.t.head, .slice y.ao y.t.kids.length (y.t.kids.length + y.sp)], undef, undef, undef, undef, undef, undef, undef, undef, undef, undef, undef, undef, undef, undef], defers := [] })
      (fun y a' _ X Y row hs hg hr => by obtain ⟨Bx, q2, q3⟩ := hs; exact ⟨Bx, own_block Bx (fun _ : Unit => _) (fun _ => rfl) () X Y row q2 hg (fun r e => (hr r e).2), q3⟩)
      ?assign ?body ?done ?stop
    case assign =>
      rintro l pre y V K ⟨⟨i1, i2⟩, i3⟩ hK
      have HK := Lib.hid hK; have I1 := Lib.hid i1; have I2 := Lib.hid i2; have I3 := Lib.hid i3
      have I4 := Lib.hid (frame_size i2 (o := .cells _ 3 (0, 0)) hrow7.block.choose_spec i1.lt.2)
      simp only [NX.encs]
      clear hK i1 i2 i3
      gi_wp2
      exact HK.out _ _ (KeepsFrom.alloc' _ _ _) (KpN.of ((Below.refl _ V).alloc (Nat.le_refl _) _) I3.out.size) ⟨⟨I1.out.below ((Below.refl _ V).alloc (Nat.le_refl _) _), fun b h1 h2 => (Below.heap_alloc V _ b (by have := I4.out; omega)).trans (I2.out b h1 h2)⟩, I3.out.alloc I3.out.size _⟩ ⟨V.heap.size, heap_ofAlloc V _, rfl⟩
    case body =>
      rintro l pre y a' V hl ⟨r, hr⟩ ⟨⟨i1, i2⟩, i3⟩ ⟨Bx, hbx, rfl⟩ hlt
      clear hr r
      have I1 := Lib.hid i1; have I2 := Lib.hid i2; have I3 := Lib.hid i3
      obtain ⟨ypl, yao, ysp, yt, yat, yht, ym⟩ := y
      have hok := HMEM.out yt ym
      have h1 : -8 ≤ yt.head := by have := hok.1.1; simp only [badHead] at this; omega
      have h2 : yt.head ≤ 12 := by have := hok.1.1; simp only [badHead] at this; omega
      have h3 : -yt.head ≤ (N : Int) := by have := HNM.out; omega
      have hpl : pre.length < 40 := by have := HOK.out.1; omega
      obtain ⟨⟨x0, _⟩, x1, _⟩ := box2 hbx
      have hV := (i2 bv e6 e5).trans hV7
      obtain ⟨v0, _⟩ := box1 hV
      clear i2 i3 hbx hok hV
      dsimp only at x0 x1 ⊢
      by_cases hneg : yt.head < 0
      · obtain ⟨j, hj⟩ : ∃ j : Nat, (j : Int) = -yt.head - 1 := ⟨(-yt.head - 1).toNat, by omega⟩
        have hjN : j < N := by omega
        obtain ⟨c0, c1⟩ := i1.cell hjN
        have hcl := cntV_le (-(j : Int) - 1) (pre.map (·.t))
        rw [List.length_map] at hcl
        have HNEW := Lib.hid (show ∀ q, q < N → setI (fun j => ((cntV (-(j : Int) - 1) (pre.map (·.t)) : Nat) : Int)) j ((cntV (-(j : Int) - 1) (pre.map (·.t)) : Nat) + 1) q = ((cntV (-(q : Int) - 1) ((pre ++ [(⟨ypl, yao, ysp, yt, yat, yht, ym⟩ : NX w t)]).map (·.t)) : Nat) : Int) from fun q hq => by
          rw [List.map_append, cntV_append]
          simp only [setI, List.map_cons, List.map_nil, cntV]
          by_cases hqj : q = j
          · subst hqj; rw [if_pos rfl, if_pos (by omega)]; omega
          · rw [if_neg hqj, if_neg (by omega)]; omega)
        have HJ := Lib.hid hj
        have hj' : -yt.head - 1 = (j : Int) := hj.symm
        clear hj i1
        generalize cntV (-(j : Int) - 1) (pre.map (·.t)) = C at c0 hcl HNEW ⊢
        gi_wp2
        exact ⟨(KeepsOthers.setCell _ _ _).from _, KpN.setCell _ e1 e2 _, ⟨(I1.out.set j ((C : Int) + 1)).congr HNEW.out, fun b' q1 q2 => (Below.heap_setCell V _ _ b' q2).trans (I2.out b' q1 q2)⟩, I3.out.setCell (p := ⟨bo, j, none⟩) e1 _⟩
      · have HNEW := Lib.hid (show ∀ q, q < N → ((cntV (-(q : Int) - 1) (pre.map (·.t)) : Nat) : Int) = ((cntV (-(q : Int) - 1) ((pre ++ [(⟨ypl, yao, ysp, yt, yat, yht, ym⟩ : NX w t)]).map (·.t)) : Nat) : Int) from fun q hq => by
          rw [List.map_append, cntV_append]
          simp only [List.map_cons, List.map_nil, cntV]
          rw [if_neg (by omega)]; omega)
        clear i1
        gi_wp2
        exact ⟨KeepsFrom.refl _ _, KpN.refl _ _ _, ⟨I1.out.congr HNEW.out, I2.out⟩, I3.out⟩
    case done =>
      rintro D xs V hD hxs ⟨⟨i1, i2⟩, i3⟩ hK
      have I3 := Lib.hid i3; have HK := Lib.hid hK
      have hV := (i2 bv e6 e5).trans hV7
      obtain ⟨v0, _⟩ := box1 hV
      have hBr := (i2 br e7 e4).trans hB7
      have HBR := Lib.hid hBr
      obtain ⟨⟨x0, x2⟩, x1, x3⟩ := box2 hBr
      have HROW := Lib.hid i1
      have HCE := Lib.hid (show countsOf t = (List.range N).map (fun (j : Nat) => ((cntV (-(j : Int) - 1) (xs.map (·.t)) : Nat) : Int)) by
        unfold countsOf
        have hN : t.most.toNat = N := by have := HNM.out; omega
        rw [hN, map_pt_snd hxs]
        apply List.map_congr_left
        intro j _
        rw [cntV_pre])
      clear i1 i2 i3 hK hxs hV hBr
      go_wp2_with fail
      have hk2 := ((KeepsOthers.setCell V ⟨br, 0, none⟩ (.int .i64 0)).trans (KeepsOthers.setCell _ ⟨br, 1, none⟩ (.int .i64 0))).same D _ HK.out rfl
      have q5 := (putObj_other (o' := .deferred none) (box2_set HBR.out (.int .i64 0) (.int .i64 0)) hk2).trans (box2_set HBR.out (.int .i64 0) (.int .i64 0))
      have hr2 : RowI ((V.setCell ⟨br, 0, none⟩ (.int .i64 0)).setCell ⟨br, 1, none⟩ (.int .i64 0)) bo (.slice (some ⟨bo, 0, none⟩) N N) N (fun j => ((cntV (-(j : Int) - 1) (xs.map (·.t)) : Nat) : Int)) :=
        ownsRow_setCell_other (ownsRow_setCell_other HROW.out (by simp [Value.ownBlock]; omega) _) (by simp [Value.ownBlock]; omega) _
      have hr3 : RowI (((V.setCell ⟨br, 0, none⟩ (.int .i64 0)).setCell ⟨br, 1, none⟩ (.int .i64 0)).putObj D (.deferred none)) bo (.slice (some ⟨bo, 0, none⟩) N N) N (fun j => ((cntV (-(j : Int) - 1) (xs.map (·.t)) : Nat) : Int)) :=
        ownsRow_putObj hr2 _ hk2 rfl
      refine ⟨by simp, .inl ⟨_, _, rfl, run_takeDeferred hk2, ?_⟩⟩
      refine ⟨.tuple #[.slice (some ⟨bo, 0, none⟩) N N, .agg #[.int .i64 0, .int .i64 0]], ?_, _, by rw [HR.out]; rfl, by rw [HVF.out, HCE.out]; exact hr3.ints, ?_⟩
      · obtain ⟨⟨z0, _⟩, z1, _⟩ := box2 q5
        simp [results, Try.results26, go_sem, z0, z1]
      · exact ((I3.out.setCell (p := ⟨br, 0, none⟩) e3 _).setCell (p := ⟨br, 1, none⟩) e3 _).trans (belowK_b (w := w) (Nat.le_refl _) _ D _ _ (by have := hb07.size; omega) hk2 rfl rfl)
    case stop =>
      rintro D c' pre V _ _ h _
      exact h.elim
end Go.Proofs.Ytcckgfgobakphaa
