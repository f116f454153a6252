/-
  Walks: tree.At.
-/
import Derived.Test.YtcckgfgobakphaaProg
import Derived.Test.YtcckgfgobakphaaBase
import Derived.Test.YtcckgfgobakphaaT25
namespace Go.Proofs.Ytcckgfgobakphaa
open Go.RowKit Go.Shelf
set_option linter.unusedVariables false
set_option maxHeartbeats 400000

def atF (t : T) (place : List Int) : T × (Int × Int) := if (treeF t).1 ≠ 0 then (zeroT, treeF t) else if 0 ≤ (t.get place 0).2 then (zeroT, (6, (t.get place 0).2)) else ((t.get place 0).1, (0, 0))
theorem get_size : ∀ (p : List Int) (t : T) (i : Int), (t.get p i).1.size ≤ t.size
  | [], t, i => Nat.le_refl _
  | k :: r, t, i => by
    rw [T.get]
    by_cases hb : k < 1 ∨ (t.kids.length : Int) < k
    · rw [if_pos hb]; have := t.size_pos; simp only [zeroT, T.size, sizeL]; omega
    · rw [if_neg hb]
      have h1 := get_size r (gK t.kids (k - 1).toNat) (i + 1)
      have h2 := kid_size (l := t.kids) (i := (k - 1).toNat) (by omega)
      have := T.size_eq t; omega

set_option maxRecDepth 100000 in
set_option maxHeartbeats 4000000 in
theorem at27 (t : T) (place : List Int) (v : Value) (po : Option Addr) (pc : Nat) (w : World) (ht : TreeAt w v t) (hb : CellsAt w po place.length (fun j => .int .i64 (gI place j))) (hpl : place.length ≤ 9223372036854775807) :
    Calls Try.prog 27 #[v, .slice po place.length pc] w (DoPost (atF t place) w) := by
  obtain ⟨k, sp, rfl⟩ := ht.form
  have HT := Lib.hid ht; have HB := Lib.hid hb; clear ht hb
  obtain ⟨W0, hW0⟩ : ∃ W0, W0 = ((w.alloc (.cells #[.int .i64 t.head, .slice k t.kids.length (t.kids.length + sp)] 24)).alloc (.cells #[.int .i64 0, .slice none 0 0] 24)).alloc (.cells #[.int .i64 0, .int .i64 0] 28) := ⟨_, rfl⟩
  have hA : W0.heap[w.heap.size]? = some (.cells #[.int .i64 t.head, .slice k t.kids.length (t.kids.length + sp)] 24 (0, 0)) := by
    rw [hW0]; exact heap_alloc_old (heap_alloc_old (heap_ofAlloc _ _))
  have hB : W0.heap[w.heap.size + 1]? = some (.cells #[.int .i64 0, .slice none 0 0] 24 (0, 0)) := by
    rw [hW0]; exact heap_alloc_old (by have := heap_ofAlloc (w.alloc (.cells #[.int .i64 t.head, .slice k t.kids.length (t.kids.length + sp)] 24)) (.cells #[.int .i64 0, .slice none 0 0] 24); rwa [World.size_alloc] at this)
  have hC : W0.heap[w.heap.size + 1 + 1]? = some (.cells #[.int .i64 0, .int .i64 0] 28 (0, 0)) := by
    rw [hW0]; have := heap_ofAlloc ((w.alloc (.cells #[.int .i64 t.head, .slice k t.kids.length (t.kids.length + sp)] 24)).alloc (.cells #[.int .i64 0, .slice none 0 0] 24)) (.cells #[.int .i64 0, .int .i64 0] 28); simpa only [World.size_alloc] using this
  have hb0 : Below w.heap.size w W0 := by rw [hW0]; exact (((Below.refl w.heap.size w).alloc (Nat.le_refl _) _).alloc (by simp) _).alloc (by simp; omega) _
  have hs0 : W0.heap.size = w.heap.size + 3 := by rw [hW0]; simp
  go_enter Try.func27, Try.ntmps27
  go_wp2_with fail
  rw [← hW0]
  clear hW0
  obtain ⟨b4, hb4⟩ : ∃ b, b = w.heap.size + 1 := ⟨_, rfl⟩
  obtain ⟨b5, hb5⟩ : ∃ b, b = w.heap.size + 1 + 1 := ⟨_, rfl⟩
  rw [← hb5] at hC ⊢; rw [← hb4] at hB ⊢
  have g4 : w.heap.size ≤ b4 := by omega
  have g5 : w.heap.size ≤ b5 := by omega
  have g45 : b4 < b5 := by omega
  have gs : b5 < W0.heap.size := by omega
  have gW : w.heap.size ≤ W0.heap.size := by omega
  clear hb4 hb5 hs0
  refine (check29 t _ _ (HT.out.kept hb0)).mono ?_
  rintro e w1 ⟨rfl, hb1⟩
  have hA1 := Below.heapAt hb1 hA; have hB1 := Below.heapAt hb1 hB; have hC1 := Below.heapAt hb1 hC
  have hb01 := Below.step hb0 hb1
  clear hA hB hC hb0 hb1
  obtain ⟨⟨rc, ra⟩, hR⟩ : ∃ r, treeF t = r := ⟨_, rfl⟩
  rw [hR]
  simp only [FV]
  have HR := Lib.hid hR
  clear hR
  cases hc : (rc != 0) with
  | true =>
    have HD := Lib.hid (show atF t place = (zeroT, (rc, ra)) by rw [atF, if_pos (by rw [HR.out]; simpa using hc), HR.out])
    go_wp2_with fail
    have hB2 := heap_alloc_old (o' := .cells #[.int .i64 rc, .int .i64 ra] 28) hB1
    have hC2 := heap_alloc_old (o' := .cells #[.int .i64 rc, .int .i64 ra] 28) hC1
    have hF2 := heap_ofAlloc w1 (.cells #[.int .i64 rc, .int .i64 ra] 28)
    have hb02 := hb01.alloc hb01.size (.cells #[.int .i64 rc, .int .i64 ra] 28)
    generalize w1.alloc (.cells #[.int .i64 rc, .int .i64 ra] 28) = w2 at hB2 hC2 hF2 hb02 ⊢
    obtain ⟨⟨a0, a1⟩, a2, a3⟩ := box2 (w := w2.drew) hB2
    obtain ⟨⟨a4, a5⟩, a6, a7⟩ := box2 hB2
    obtain ⟨⟨f4, f5⟩, f6, f7⟩ := box2 hF2
    have hn1 : ¬ w1.heap.size = b4 := by have := heap_lt hB1; omega
    have hn2 : ¬ b4 = w1.heap.size := by have := heap_lt hB1; omega
    have hn3 : ¬ b4 = b5 := by omega
    have hn4 : ¬ b5 = b4 := by omega
    obtain ⟨⟨c4, c5⟩, c6, c7⟩ := box2 hC2
    obtain ⟨⟨c0, c1⟩, c2, c3⟩ := box2 (w := w2.drew) hC2
    obtain ⟨⟨f0, f1⟩, f2, f3⟩ := box2 (w := w2.drew) hF2
    have HB2 := Lib.hid hB2; have HC2 := Lib.hid hC2
    clear hB2 hC2 hF2 hA1 hB1 hC1
    go_region
    all_goals
      go_wp2_with fail
      obtain ⟨q4, q5⟩ := two22 HB2.out HC2.out g45 (.int .i64 0) (.slice none 0 0) (.int .i64 rc) (.int .i64 ra)
      refine ret_box22 (.int .i64 0) (.slice none 0 0) (.int .i64 rc) (.int .i64 ra) b4 b5 24 28 (hb := q4) (hc := q5) (fun w' z0 z1 z2 z3 => by simp [results, Try.results27, go_sem, z0, z1, z2, z3]) rfl ?_
      exact ⟨_, by rw [HD.out]; rfl, by rw [HD.out]; exact TreeAt.zero _, (below22 hb02 g4 g5 _ _ _ _).drew⟩
  | false =>
    have hrc : (treeF t).1 = 0 := by rw [HR.out]; simpa using hc
    have HOK := Lib.hid hrc
    clear hrc
    obtain ⟨⟨x0, _⟩, x1, _⟩ := box2 hA1
    have hlA := heap_lt hA1
    go_wp2_with fail
    clear x0 x1 hlA
    have hA2 := heap_alloc_old (o' := .cells #[.int .i64 rc, .int .i64 ra] 28) hA1
    have hB2 := heap_alloc_old (o' := .cells #[.int .i64 rc, .int .i64 ra] 28) hB1
    have hC2 := heap_alloc_old (o' := .cells #[.int .i64 rc, .int .i64 ra] 28) hC1
    have hb02 := hb01.alloc hb01.size (.cells #[.int .i64 rc, .int .i64 ra] 28)
    generalize w1.alloc (.cells #[.int .i64 rc, .int .i64 ra] 28) = w2 at hA2 hB2 hC2 hb02 ⊢
    clear hA1 hB1 hC1 hb01
    refine (get49 t place _ po pc w2 (HT.out.kept hb02) (HB.out.below hb02) hpl).mono ?_
    rintro e w3 ⟨u, rfl, hu, hb3⟩
    obtain ⟨uk, usp, rfl⟩ := hu.form
    have HU := Lib.hid hu
    have hB3 := Below.heapAt hb3 hB2; have hC3 := Below.heapAt hb3 hC2
    have hb03 := Below.step hb02 hb3
    have HG := Lib.hid (T.get_lt place t 0 (by omega))
    have HGS := Lib.hid (get_size place t 0)
    clear hA2 hB2 hC2 hb02 hb3 hu
    obtain ⟨⟨x, gi⟩, hgx⟩ : ∃ r, t.get place 0 = r := ⟨_, rfl⟩
    rw [hgx] at HU HG ⊢
    have HGX := Lib.hid hgx
    clear hgx
    dsimp only at HU HG ⊢
    have hok := treeF_ok.1 HOK.out
    by_cases hge : 0 ≤ gi
    · have HD := Lib.hid (show atF t place = (zeroT, (6, gi)) by rw [atF, if_neg (by simp [HOK.out]), HGX.out]; simp only; rw [if_pos hge])
      have hlB := heap_lt hB3; have hlC := heap_lt hC3
      obtain ⟨⟨a0, a1⟩, a2, a3⟩ := box2 hB3
      obtain ⟨⟨c0, c1⟩, c2, c3⟩ := box2 hC3
      have HB3 := Lib.hid hB3; have HC3 := Lib.hid hC3
      clear hB3 hC3
      go_wp2_with fail
      obtain ⟨q4, q5⟩ := two22 HB3.out HC3.out g45 (.int .i64 0) (.slice none 0 0) (.int .i64 6) (.int .i64 gi)
      have hbf := below22 hb03 g4 g5 (.int .i64 0) (.slice none 0 0) (.int .i64 6) (.int .i64 gi)
      refine ret_box22 (.int .i64 0) (.slice none 0 0) (.int .i64 6) (.int .i64 gi) b4 b5 24 28 (hb := heap_alloc_old q4) (hc := heap_alloc_old q5) (fun w' z0 z1 z2 z3 => by simp [results, Try.results27, go_sem, z0, z1, z2, z3]) rfl ?_
      exact ⟨_, by rw [HD.out]; rfl, by rw [HD.out]; exact TreeAt.zero _, hbf.alloc hbf.size _⟩
    · have HD := Lib.hid (show atF t place = (x, (0, 0)) by rw [atF, if_neg (by simp [HOK.out]), HGX.out]; simp only; rw [if_neg hge])
      have HXS := Lib.hid (show x.size ≤ 100000000 by have := hok.1; have h2 := HGS.out; rw [HGX.out] at h2; simp only at h2; omega)
      have hU0 := HU.out
      go_wp2_with fail
      have hB4 := heap_alloc_old (o' := .cells #[.int .i64 x.head, .slice uk x.kids.length (x.kids.length + usp)] 24) hB3
      have hC4 := heap_alloc_old (o' := .cells #[.int .i64 x.head, .slice uk x.kids.length (x.kids.length + usp)] 24) hC3
      have hb04 := hb03.alloc hb03.size (.cells #[.int .i64 x.head, .slice uk x.kids.length (x.kids.length + usp)] 24)
      have hU4 := hU0.kept ((Below.refl _ w3).alloc (Nat.le_refl _) (.cells #[.int .i64 x.head, .slice uk x.kids.length (x.kids.length + usp)] 24))
      generalize w3.alloc (.cells #[.int .i64 x.head, .slice uk x.kids.length (x.kids.length + usp)] 24) = w4 at hB4 hC4 hb04 hU4 ⊢
      refine (copy50 x _ w4 hU4 HXS.out).mono ?_
      rintro e w5 ⟨z, rfl, hz, hb5⟩
      obtain ⟨zk, zsp, rfl⟩ := hz.at.form
      have hB5 := Below.heapAt hb5 hB4; have hC5 := Below.heapAt hb5 hC4
      have hb05 := Below.step hb04 hb5
      have HZ := Lib.hid hz
      have g6 : b5 < w4.heap.size := heap_lt hC4
      obtain ⟨⟨a0, a1⟩, a2, a3⟩ := box2 hB5
      obtain ⟨⟨c0, c1⟩, c2, c3⟩ := box2 hC5
      have HB5 := Lib.hid hB5; have HC5 := Lib.hid hC5
      clear hB3 hC3 hB4 hC4 hb04 hU4 hU0 hb5 hb03 hz hB5 hC5
      go_wp2_with fail
      obtain ⟨q4, q5⟩ := two22 HB5.out HC5.out g45 (.int .i64 x.head) (.slice zk x.kids.length (x.kids.length + zsp)) (.int .i64 0) (.int .i64 0)
      refine ret_box22 (.int .i64 x.head) (.slice zk x.kids.length (x.kids.length + zsp)) (.int .i64 0) (.int .i64 0) b4 b5 24 28 (hb := q4) (hc := q5) (fun w' z0 z1 z2 z3 => by simp [results, Try.results27, go_sem, z0, z1, z2, z3]) rfl ?_
      refine ⟨_, by rw [HD.out]; rfl, ?_, below22 hb05 g4 g5 _ _ _ _⟩
      rw [HD.out]
      exact ((((HZ.out.setCell (a := ⟨b4, 0, none⟩) (by simp; omega) _).setCell (a := ⟨b4, 1, none⟩) (by simp; omega) _).setCell (a := ⟨b5, 0, none⟩) (by simp; omega) _).setCell (a := ⟨b5, 1, none⟩) (by simp; omega) _).at
end Go.Proofs.Ytcckgfgobakphaa
