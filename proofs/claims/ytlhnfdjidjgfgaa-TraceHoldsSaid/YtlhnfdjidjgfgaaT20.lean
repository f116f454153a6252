/-
  Walks: tree.Do.
-/
import Derived.Test.YtlhnfdjidjgfgaaProg
import Derived.Test.YtlhnfdjidjgfgaaBase
import Derived.Test.YtlhnfdjidjgfgaaXa
import Derived.Test.YtlhnfdjidjgfgaaXd
import Derived.Test.YtlhnfdjidjgfgaaT19
namespace Go.Proofs.Ytlhnfdjidjgfgaa
open Go.RowKit Go.Shelf
set_option linter.unusedVariables false
set_option maxHeartbeats 400000


/-- tree.Do, plain -/
def zeroT : T := .node 0 []
def doF (t : T) (bs : List T) : T × (Int × Int) := if (treeF t).1 ≠ 0 then (zeroT, treeF t) else if (bindF bs).1 ≠ 0 then (zeroT, bindF bs) else if (treeF (t.sub bs)).1 ≠ 0 then (zeroT, (10, 0)) else (t.sub bs, (0, 0))

theorem low_of_pre (t : T) (h : ∀ x ∈ t.pre, okN x) : t.low := low_of_nodes t 0 (by rw [(nodes_scan t 0).1, scan_ok h])
theorem RowAt.foot {w : World} {ao : Option Addr} {ks : List T} (h : RowAt w ao ks) : RowP (fun b => b < w.heap.size) w ao ks := fun i hi => by
  obtain ⟨b, off, k, sp, e, h1, h2, h3⟩ := h i hi
  exact ⟨b, off, k, sp, e, block_lt_of_cell h1, h1, h2, h3.foot⟩
theorem bindL_ok : ∀ (bs : List T) (k : Int), (bindL bs k).1 = 0 → ∀ i, i < bs.length → (gK bs i).head = 0 ∧ (gK bs i).kids = [] ∨ (gK bs i).head ≠ 0 ∧ (treeF (gK bs i)).1 = 0
  | [], _, _, i, hi => by simp at hi
  | t :: r, k, h, i, hi => by
    rw [bindL] at h
    by_cases h0 : t.head = 0
    · rw [if_pos h0] at h
      by_cases hk : 0 < t.kids.length
      · rw [if_pos hk] at h; simp at h
      · rw [if_neg hk] at h
        cases i with
        | zero => exact .inl ⟨by simpa [gK] using h0, by simpa [gK] using List.eq_nil_of_length_eq_zero (by omega)⟩
        | succ i => have := bindL_ok r (k + 1) h i (by simpa using hi); simpa only [gK, List.getD_cons_succ] using this
    · rw [if_neg h0] at h
      by_cases hk : (treeF t).1 ≠ 0
      · rw [if_pos hk] at h; exact absurd h hk
      · rw [if_neg hk] at h
        cases i with
        | zero => exact .inr ⟨by simpa [gK] using h0, by simpa [gK] using hk⟩
        | succ i => have := bindL_ok r (k + 1) h i (by simpa using hi); simpa only [gK, List.getD_cons_succ] using this
theorem bindF_ok {bs : List T} (h : (bindF bs).1 = 0) : bs.length ≤ 8 ∧ ∀ i, i < bs.length → (gK bs i).head = 0 ∧ (gK bs i).kids = [] ∨ (gK bs i).head ≠ 0 ∧ (treeF (gK bs i)).1 = 0 := by
  rw [bindF] at h
  by_cases h8 : 8 < bs.length
  · rw [if_pos h8] at h; simp at h
  · rw [if_neg h8] at h; exact ⟨by omega, bindL_ok bs 0 h⟩
theorem bind_size {bs : List T} (h : (bindF bs).1 = 0) : ∀ i, i < bs.length → (gK bs i).size ≤ 40 := fun i hi => by
  rcases (bindF_ok h).2 i hi with ⟨_, h2⟩ | ⟨_, h2⟩
  · rw [T.size_eq, h2]; simp [sizeL]
  · exact (treeF_ok.1 h2).1

theorem ret_box22 {P : Program} {fn : Func} {R : Ending → World → Prop} {a : Act} {w : World} (x y p q : Value) (b c : Nat) (T T' : TypeId) (hb : w.heap[b]? = some (.cells #[x, y] T (0, 0))) (hc : w.heap[c]? = some (.cells #[p, q] T' (0, 0)))
    (hres : ∀ w' : World, w'.cell? ⟨b, 0, none⟩ = some x → w'.cell? ⟨b, 1, none⟩ = some y → w'.cell? ⟨c, 0, none⟩ = some p → w'.cell? ⟨c, 1, none⟩ = some q → (results fn a.tmps).run P w' = .ok (.tuple #[.agg #[x, y], .agg #[p, q]]) w') (hd : a.defers = [])
    (hR : R (.returned (.tuple #[.agg #[x, y], .agg #[p, q]])) w) : bodyPost P fn R .ret a w := bodyPost_ret (hres w (box2 hb).1.1 (box2 hb).2.1 (box2 hc).1.1 (box2 hc).2.1) hd hR

theorem two22 {w : World} {b c : Nat} {x0 y0 p0 q0 : Value} {T T' : TypeId} (hb : w.heap[b]? = some (.cells #[x0, y0] T (0, 0))) (hc : w.heap[c]? = some (.cells #[p0, q0] T' (0, 0))) (hne : b < c) (x y p q : Value) :
    ((((w.setCell ⟨b, 0, none⟩ x).setCell ⟨b, 1, none⟩ y).setCell ⟨c, 0, none⟩ p).setCell ⟨c, 1, none⟩ q).heap[b]? = some (.cells #[x, y] T (0, 0)) ∧
    ((((w.setCell ⟨b, 0, none⟩ x).setCell ⟨b, 1, none⟩ y).setCell ⟨c, 0, none⟩ p).setCell ⟨c, 1, none⟩ q).heap[c]? = some (.cells #[p, q] T' (0, 0)) :=
  ⟨heap_set_other (heap_set_other (box2_set hb x y) (by simp; omega)) (by simp; omega), box2_set (heap_set_other (heap_set_other hc (by simp; omega)) (by simp; omega)) p q⟩
theorem below22 {w0 w : World} {B b c : Nat} (h : Below B w0 w) (hb : B ≤ b) (hc : B ≤ c) (x y p q : Value) :
    Below B w0 ((((w.setCell ⟨b, 0, none⟩ x).setCell ⟨b, 1, none⟩ y).setCell ⟨c, 0, none⟩ p).setCell ⟨c, 1, none⟩ q) :=
  (((h.setCell (p := ⟨b, 0, none⟩) hb x).setCell (p := ⟨b, 1, none⟩) hb y).setCell (p := ⟨c, 0, none⟩) hc p).setCell (p := ⟨c, 1, none⟩) hc q
theorem field28_0 (c a : Int) (w : World) : (Instr.field 29 (.agg #[.int .i64 c, .int .i64 a]) 0).run Try.prog w = .ok (.int .i64 c) w := by kernel_rfl
def DoPost (r : T × (Int × Int)) (w : World) (e : Ending) (w' : World) : Prop := ∃ u, e = .returned (.tuple #[u, FV r.2]) ∧ TreeAt w' u r.1 ∧ Below w.heap.size w w'
theorem TreeAt.zero (w : World) : TreeAt w (.agg #[.int .i64 0, .slice none 0 0]) zeroT := (TreeP.leaf (fun _ => True) w 0).at

def DoPostP (p0 : Nat → Prop) (r : T × (Int × Int)) (w : World) (e : Ending) (w' : World) : Prop := ∃ u, e = .returned (.tuple #[u, FV r.2]) ∧ TreeP (fun b => p0 b ∨ w.heap.size ≤ b) w' u r.1 ∧ Below w.heap.size w w'
theorem TreeP.zero (p : Nat → Prop) (w : World) : TreeP p w (.agg #[.int .i64 0, .slice none 0 0]) zeroT := TreeP.leaf p w 0
theorem RowP.at {p : Nat → Prop} {w : World} {ao : Option Addr} {ks : List T} (h : RowP p w ao ks) : RowAt w ao ks := fun i hi => by
  obtain ⟨b, off, k, sp, e, _, h1, h2, h3⟩ := h i hi
  exact ⟨b, off, k, sp, e, h1, h2, h3.at⟩

set_option maxRecDepth 100000 in
set_option maxHeartbeats 4000000 in
theorem do21P (p0 : Nat → Prop) (t : T) (bs : List T) (v : Value) (bo : Option Addr) (bc : Nat) (w : World) (hp0 : ∀ b, p0 b → b < w.heap.size) (htp : TreeP p0 w v t) (hbp : RowP p0 w bo bs) :
    Calls Try.prog 37 #[v, .slice bo bs.length bc] w (DoPostP p0 (doF t bs) w) := by
  obtain ⟨k, sp, rfl⟩ := htp.at.form
  have HT := Lib.hid htp.at; have HB := Lib.hid hbp.at
  have HTP := Lib.hid htp; have HBP := Lib.hid hbp; have HP0 := Lib.hid hp0
  clear htp hbp hp0
  obtain ⟨W0, hW0⟩ : ∃ W0, W0 = ((w.alloc (.cells #[.int .i64 t.head, .slice k t.kids.length (t.kids.length + sp)] 38)).alloc (.cells #[.int .i64 0, .slice none 0 0] 38)).alloc (.cells #[.int .i64 0, .int .i64 0] 29) := ⟨_, rfl⟩
  have hA : W0.heap[w.heap.size]? = some (.cells #[.int .i64 t.head, .slice k t.kids.length (t.kids.length + sp)] 38 (0, 0)) := by
    rw [hW0]; exact heap_alloc_old (heap_alloc_old (heap_ofAlloc _ _))
  have hB : W0.heap[w.heap.size + 1]? = some (.cells #[.int .i64 0, .slice none 0 0] 38 (0, 0)) := by
    rw [hW0]; exact heap_alloc_old (by have := heap_ofAlloc (w.alloc (.cells #[.int .i64 t.head, .slice k t.kids.length (t.kids.length + sp)] 38)) (.cells #[.int .i64 0, .slice none 0 0] 38); rwa [World.size_alloc] at this)
  have hC : W0.heap[w.heap.size + 1 + 1]? = some (.cells #[.int .i64 0, .int .i64 0] 29 (0, 0)) := by
    rw [hW0]; have := heap_ofAlloc ((w.alloc (.cells #[.int .i64 t.head, .slice k t.kids.length (t.kids.length + sp)] 38)).alloc (.cells #[.int .i64 0, .slice none 0 0] 38)) (.cells #[.int .i64 0, .int .i64 0] 29); simpa only [World.size_alloc] using this
  have hb0 : Below w.heap.size w W0 := by rw [hW0]; exact (((Below.refl w.heap.size w).alloc (Nat.le_refl _) _).alloc (by simp) _).alloc (by simp; omega) _
  have hs0 : W0.heap.size = w.heap.size + 3 := by rw [hW0]; simp
  have hfld := field28_0
  go_enter Try.func37, Try.ntmps37
  go_wp2_with fail
  rw [← hW0]
  clear hW0
  obtain ⟨b4, hb4⟩ : ∃ b, b = w.heap.size + 1 := ⟨_, rfl⟩
  obtain ⟨b5, hb5⟩ : ∃ b, b = w.heap.size + 1 + 1 := ⟨_, rfl⟩
  rw [← hb5] at hC ⊢; rw [← hb4] at hB ⊢
  have g4 : w.heap.size ≤ b4 := by omega
  have g5 : w.heap.size ≤ b5 := by omega
  have g45 : b4 < b5 := by omega
  have gs : b5 < W0.heap.size := by omega
  have gW : w.heap.size ≤ W0.heap.size := by omega
  clear hb4 hb5 hs0
  refine (check29 t _ _ (HT.out.kept hb0)).mono ?_
  rintro e w1 ⟨rfl, hb1⟩
  have hA1 := Below.heapAt hb1 hA; have hB1 := Below.heapAt hb1 hB; have hC1 := Below.heapAt hb1 hC
  have hb01 := Below.step hb0 hb1
  clear hA hB hC hb0 hb1
  obtain ⟨⟨rc, ra⟩, hR⟩ : ∃ r, treeF t = r := ⟨_, rfl⟩
  rw [hR]
  simp only [FV]
  have HR := Lib.hid hR
  clear hR
  cases hc : (rc != 0) with
  | true =>
    have HD := Lib.hid (show doF t bs = (zeroT, (rc, ra)) by rw [doF, if_pos (by rw [HR.out]; simpa using hc), HR.out])
    go_wp2_with fail
    have hB2 := heap_alloc_old (o' := .cells #[.int .i64 rc, .int .i64 ra] 29) hB1
    have hC2 := heap_alloc_old (o' := .cells #[.int .i64 rc, .int .i64 ra] 29) hC1
    have hF2 := heap_ofAlloc w1 (.cells #[.int .i64 rc, .int .i64 ra] 29)
    have hb02 := hb01.alloc hb01.size (.cells #[.int .i64 rc, .int .i64 ra] 29)
    generalize w1.alloc (.cells #[.int .i64 rc, .int .i64 ra] 29) = w2 at hB2 hC2 hF2 hb02 ⊢
    obtain ⟨⟨a0, a1⟩, a2, a3⟩ := box2 (w := w2.drew) hB2
    obtain ⟨⟨a4, a5⟩, a6, a7⟩ := box2 hB2
    obtain ⟨⟨f4, f5⟩, f6, f7⟩ := box2 hF2
    have hn1 : ¬ w1.heap.size = b4 := by have := heap_lt hB1; omega
    have hn2 : ¬ b4 = w1.heap.size := by have := heap_lt hB1; omega
    have hn3 : ¬ b4 = b5 := by omega
    have hn4 : ¬ b5 = b4 := by omega
    obtain ⟨⟨c4, c5⟩, c6, c7⟩ := box2 hC2
    obtain ⟨⟨c0, c1⟩, c2, c3⟩ := box2 (w := w2.drew) hC2
    obtain ⟨⟨f0, f1⟩, f2, f3⟩ := box2 (w := w2.drew) hF2
    have HB2 := Lib.hid hB2; have HC2 := Lib.hid hC2
    clear hB2 hC2 hF2 hA1 hB1 hC1
    go_region
    all_goals
      go_wp2_with fail
      obtain ⟨q4, q5⟩ := two22 HB2.out HC2.out g45 (.int .i64 0) (.slice none 0 0) (.int .i64 rc) (.int .i64 ra)
      refine ret_box22 (.int .i64 0) (.slice none 0 0) (.int .i64 rc) (.int .i64 ra) b4 b5 38 29 (hb := q4) (hc := q5) (fun w' z0 z1 z2 z3 => by simp [results, Try.results37, go_sem, z0, z1, z2, z3]) rfl ?_
      exact ⟨_, by rw [HD.out]; rfl, by rw [HD.out]; exact TreeP.zero _ _, (below22 hb02 g4 g5 _ _ _ _).drew⟩
  | false =>
    have hrc : (treeF t).1 = 0 := by rw [HR.out]; simpa using hc
    have HOK := Lib.hid hrc
    clear hrc
    go_wp2_with fail
    have hA2 := heap_alloc_old (o' := .cells #[.int .i64 rc, .int .i64 ra] 29) hA1
    have hB2 := heap_alloc_old (o' := .cells #[.int .i64 rc, .int .i64 ra] 29) hB1
    have hC2 := heap_alloc_old (o' := .cells #[.int .i64 rc, .int .i64 ra] 29) hC1
    have hb02 := hb01.alloc hb01.size (.cells #[.int .i64 rc, .int .i64 ra] 29)
    generalize w1.alloc (.cells #[.int .i64 rc, .int .i64 ra] 29) = w2 at hA2 hB2 hC2 hb02 ⊢
    clear hA1 hB1 hC1 hb01
    refine (bind17 bs bo bs.length bc w2 rfl (HB.out.below hb02)).mono ?_
    rintro e w3 ⟨rfl, hb3⟩
    have hA3 := Below.heapAt hb3 hA2; have hB3 := Below.heapAt hb3 hB2; have hC3 := Below.heapAt hb3 hC2
    have hb03 := Below.step hb02 hb3
    clear hA2 hB2 hC2 hb02 hb3
    obtain ⟨⟨sc, sa⟩, hS⟩ : ∃ r, bindF bs = r := ⟨_, rfl⟩
    rw [hS]
    simp only [FV]
    have HS := Lib.hid hS
    clear hS
    cases hsc : (sc != 0) with
    | true =>
      have HD := Lib.hid (show doF t bs = (zeroT, (sc, sa)) by rw [doF, if_neg (by simp [HOK.out]), if_pos (by rw [HS.out]; simpa using hsc), HS.out])
      go_wp2_with fail
      have hB4 := heap_alloc_old (o' := .cells #[.int .i64 sc, .int .i64 sa] 29) hB3
      have hC4 := heap_alloc_old (o' := .cells #[.int .i64 sc, .int .i64 sa] 29) hC3
      have hF4 := heap_ofAlloc w3 (.cells #[.int .i64 sc, .int .i64 sa] 29)
      have hb04 := hb03.alloc hb03.size (.cells #[.int .i64 sc, .int .i64 sa] 29)
      generalize w3.alloc (.cells #[.int .i64 sc, .int .i64 sa] 29) = w4 at hB4 hC4 hF4 hb04 ⊢
      obtain ⟨⟨a0, a1⟩, a2, a3⟩ := box2 (w := w4.drew) hB4
      obtain ⟨⟨a4, a5⟩, a6, a7⟩ := box2 hB4
      obtain ⟨⟨f4, f5⟩, f6, f7⟩ := box2 hF4
      have hn1 : ¬ w3.heap.size = b4 := by have := heap_lt hB3; omega
      have hn2 : ¬ b4 = w3.heap.size := by have := heap_lt hB3; omega
      have hn3 : ¬ b4 = b5 := by omega
      have hn4 : ¬ b5 = b4 := by omega
      obtain ⟨⟨c4, c5⟩, c6, c7⟩ := box2 hC4
      obtain ⟨⟨c0, c1⟩, c2, c3⟩ := box2 (w := w4.drew) hC4
      obtain ⟨⟨f0, f1⟩, f2, f3⟩ := box2 (w := w4.drew) hF4
      have HB4 := Lib.hid hB4; have HC4 := Lib.hid hC4
      clear hB4 hC4 hF4 hA3 hB3 hC3
      go_region
      all_goals
        go_wp2_with fail
        obtain ⟨q4, q5⟩ := two22 HB4.out HC4.out g45 (.int .i64 0) (.slice none 0 0) (.int .i64 sc) (.int .i64 sa)
        refine ret_box22 (.int .i64 0) (.slice none 0 0) (.int .i64 sc) (.int .i64 sa) b4 b5 38 29 (hb := q4) (hc := q5) (fun w' z0 z1 z2 z3 => by simp [results, Try.results37, go_sem, z0, z1, z2, z3]) rfl ?_
        exact ⟨_, by rw [HD.out]; rfl, by rw [HD.out]; exact TreeP.zero _ _, (below22 hb04 g4 g5 _ _ _ _).drew⟩
    | false =>
      have hbo : (bindF bs).1 = 0 := by rw [HS.out]; simpa using hsc
      have HBO := Lib.hid hbo
      have hbl := (bindF_ok hbo).1
      clear hbo
      obtain ⟨⟨a0, a1⟩, a2, a3⟩ := box2 hA3
      have hlA := heap_lt hA3
      go_wp2_with fail
      have hA4 := heap_alloc_old (o' := .cells #[.int .i64 sc, .int .i64 sa] 29) hA3
      have hB4 := heap_alloc_old (o' := .cells #[.int .i64 sc, .int .i64 sa] 29) hB3
      have hC4 := heap_alloc_old (o' := .cells #[.int .i64 sc, .int .i64 sa] 29) hC3
      have hb04 := hb03.alloc hb03.size (.cells #[.int .i64 sc, .int .i64 sa] 29)
      have gw4 : w.heap.size ≤ (w3.alloc (.cells #[.int .i64 sc, .int .i64 sa] 29)).heap.size := hb04.size
      generalize w3.alloc (.cells #[.int .i64 sc, .int .i64 sa] 29) = w4 at gw4 hA4 hB4 hC4 hb04 ⊢
      clear hA3 hB3 hC3 hb03 a0 a1 a2 a3 hlA
      have htr := HTP.out.kept hb04
      have hro := HBP.out.kept hb04
      have hok := treeF_ok.1 HOK.out
      refine (apply45 bs t p0 _ bo bc w4 (fun b h => Nat.lt_of_lt_of_le (HP0.out b h) hb04.size) (by omega) htr hro (low_of_pre t hok.2.2) (by have := hok.1; omega) (fun i hi => by have := bind_size HBO.out i hi; omega)).mono ?_
      rintro e w5 ⟨u, rfl, hu, hb5⟩
      obtain ⟨uk, usp, rfl⟩ := hu.at.form
      have HU := Lib.hid hu.at
      have HUP := Lib.hid hu
      have g54 : b5 < w4.heap.size := heap_lt hC4
      clear htr hro hok hu
      have hB5 := Below.heapAt hb5 hB4; have hC5 := Below.heapAt hb5 hC4
      have hb05 := Below.step hb04 hb5
      clear hA4 hB4 hC4 hb04 hb5
      generalize hTS : t.sub bs = ts at HU HUP ⊢
      have HTS := Lib.hid hTS
      clear hTS
      go_wp2_with fail
      have hB6 := heap_alloc_old (o' := .cells #[.int .i64 ts.head, .slice uk ts.kids.length (ts.kids.length + usp)] 38) hB5
      have hC6 := heap_alloc_old (o' := .cells #[.int .i64 ts.head, .slice uk ts.kids.length (ts.kids.length + usp)] 38) hC5
      have hU6 := heap_ofAlloc w5 (.cells #[.int .i64 ts.head, .slice uk ts.kids.length (ts.kids.length + usp)] 38)
      have hb06 := hb05.alloc hb05.size (.cells #[.int .i64 ts.head, .slice uk ts.kids.length (ts.kids.length + usp)] 38)
      have HU6 := Lib.hid (HU.out.kept ((Below.refl _ w5).alloc (Nat.le_refl _) (.cells #[.int .i64 ts.head, .slice uk ts.kids.length (ts.kids.length + usp)] 38)))
      have HUP6 := Lib.hid (HUP.out.kept ((Below.refl _ w5).alloc (Nat.le_refl _) (.cells #[.int .i64 ts.head, .slice uk ts.kids.length (ts.kids.length + usp)] 38)))
      have hs6 : w5.heap.size < (w5.alloc (.cells #[.int .i64 ts.head, .slice uk ts.kids.length (ts.kids.length + usp)] 38)).heap.size := by simp
      generalize w5.alloc (.cells #[.int .i64 ts.head, .slice uk ts.kids.length (ts.kids.length + usp)] 38) = w6 at hB6 hC6 hU6 hb06 HU6 HUP6 hs6 ⊢
      refine (check29 ts _ _ HU6.out).mono ?_
      rintro e w7 ⟨rfl, hb7⟩
      have hB7 := Below.heapAt hb7 hB6; have hC7 := Below.heapAt hb7 hC6; have hU7 := Below.heapAt hb7 hU6
      have hb07 := Below.step hb06 hb7
      have HU7 := Lib.hid (HUP6.out.kept hb7)
      clear hB6 hC6 hU6 hb06 hb7 hB5 hC5 hb05
      obtain ⟨⟨vc, va⟩, hV⟩ : ∃ r, treeF ts = r := ⟨_, rfl⟩
      rw [hV]
      simp only [FV]
      have HV := Lib.hid hV
      clear hV
      have hlB := heap_lt hB7; have hlC := heap_lt hC7
      obtain ⟨⟨a0, a1⟩, a2, a3⟩ := box2 hB7
      obtain ⟨⟨c0, c1⟩, c2, c3⟩ := box2 hC7
      obtain ⟨⟨f0, _⟩, f2, _⟩ := box2 hU7
      have HB7 := Lib.hid hB7; have HC7 := Lib.hid hC7
      clear hB7 hC7 hU7
      cases hvc : (vc != 0) with
      | true =>
        have HD := Lib.hid (show doF t bs = (zeroT, (10, 0)) by rw [doF, if_neg (by simp [HOK.out]), if_neg (by simp [HBO.out]), if_pos (by rw [HTS.out, HV.out]; simpa using hvc)])
        go_wp2_with fail
        obtain ⟨q4, q5⟩ := two22 HB7.out HC7.out g45 (.int .i64 0) (.slice none 0 0) (.int .i64 10) (.int .i64 0)
        refine ret_box22 (.int .i64 0) (.slice none 0 0) (.int .i64 10) (.int .i64 0) b4 b5 38 29 (hb := q4) (hc := q5) (fun w' z0 z1 z2 z3 => by simp [results, Try.results37, go_sem, z0, z1, z2, z3]) rfl ?_
        exact ⟨_, by rw [HD.out]; rfl, by rw [HD.out]; exact TreeP.zero _ _, below22 hb07 g4 g5 _ _ _ _⟩
      | false =>
        have HD := Lib.hid (show doF t bs = (ts, (0, 0)) by rw [doF, if_neg (by simp [HOK.out]), if_neg (by simp [HBO.out]), if_neg (by rw [HTS.out, HV.out]; simpa using hvc), HTS.out])
        go_wp2_with fail
        obtain ⟨q4, q5⟩ := two22 HB7.out HC7.out g45 (.int .i64 ts.head) (.slice uk ts.kids.length (ts.kids.length + usp)) (.int .i64 0) (.int .i64 0)
        refine ret_box22 (.int .i64 ts.head) (.slice uk ts.kids.length (ts.kids.length + usp)) (.int .i64 0) (.int .i64 0) b4 b5 38 29 (hb := q4) (hc := q5) (fun w' z0 z1 z2 z3 => by simp [results, Try.results37, go_sem, z0, z1, z2, z3]) rfl ?_
        refine ⟨_, by rw [HD.out]; rfl, ?_, below22 hb07 g4 g5 _ _ _ _⟩
        rw [HD.out]
        have e4 : ¬ (p0 b4 ∨ w4.heap.size ≤ b4) := fun h => by rcases h with h | h; (have := HP0.out _ h; omega); omega
        have e5 : ¬ (p0 b5 ∨ w4.heap.size ≤ b5) := fun h => by rcases h with h | h; (have := HP0.out _ h; omega); omega
        exact ((((HU7.out.setCell (a := ⟨b4, 0, none⟩) e4 _).setCell (a := ⟨b4, 1, none⟩) e4 _).setCell (a := ⟨b5, 0, none⟩) e5 _).setCell (a := ⟨b5, 1, none⟩) e5 _).mono (fun b h _ => by rcases h with h | h; exact .inl h; right; omega)

theorem do21 (t : T) (bs : List T) (v : Value) (bo : Option Addr) (bc : Nat) (w : World) (ht : TreeAt w v t) (hb : RowAt w bo bs) :
    Calls Try.prog 37 #[v, .slice bo bs.length bc] w (DoPost (doF t bs) w) :=
  (do21P (fun b => b < w.heap.size) t bs v bo bc w (fun _ h => h) ht.foot hb.foot).mono fun e w' ⟨u, h1, h2, h3⟩ => ⟨u, h1, h2.at, h3⟩
end Go.Proofs.Ytlhnfdjidjgfgaa
