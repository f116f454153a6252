/-
  Walks: tree.At once more (where its result lies), tree.Put.
-/
import Derived.Test.YtcckgfgobakphaaProg
import Derived.Test.YtcckgfgobakphaaBase
import Derived.Test.YtcckgfgobakphaaT26
import Derived.Test.YtcckgfgobakphaaT31
namespace Go.Proofs.Ytcckgfgobakphaa
open Go.RowKit Go.Shelf
set_option linter.unusedVariables false
set_option maxHeartbeats 400000

def DoPostN (r : T × (Int × Int)) (w : World) (e : Ending) (w' : World) : Prop := ∃ u, e = .returned (.tuple #[u, FV r.2]) ∧ TreeP (fun b => w.heap.size ≤ b) w' u r.1 ∧ Below w.heap.size w w'

set_option maxRecDepth 100000 in
set_option maxHeartbeats 4000000 in
theorem at27N (t : T) (place : List Int) (v : Value) (po : Option Addr) (pc : Nat) (w : World) (ht : TreeAt w v t) (hb : CellsAt w po place.length (fun j => .int .i64 (gI place j))) (hpl : place.length ≤ 9223372036854775807) :
    Calls Try.prog 27 #[v, .slice po place.length pc] w (DoPostN (atF t place) w) := by
  obtain ⟨k, sp, rfl⟩ := ht.form
  have HT := Lib.hid ht; have HB := Lib.hid hb; clear ht hb
  obtain ⟨W0, hW0⟩ : ∃ W0, W0 = ((w.alloc (.cells #[.int .i64 t.head, .slice k t.kids.length (t.kids.length + sp)] 24)).alloc (.cells #[.int .i64 0, .slice none 0 0] 24)).alloc (.cells #[.int .i64 0, .int .i64 0] 28) := ⟨_, rfl⟩
  have hA : W0.heap[w.heap.size]? = some (.cells #[.int .i64 t.head, .slice k t.kids.length (t.kids.length + sp)] 24 (0, 0)) := by
    rw [hW0]; exact heap_alloc_old (heap_alloc_old (heap_ofAlloc _ _))
  have hB : W0.heap[w.heap.size + 1]? = some (.cells #[.int .i64 0, .slice none 0 0] 24 (0, 0)) := by
    rw [hW0]; exact heap_alloc_old (by have := heap_ofAlloc (w.alloc (.cells #[.int .i64 t.head, .slice k t.kids.length (t.kids.length + sp)] 24)) (.cells #[.int .i64 0, .slice none 0 0] 24); rwa [World.size_alloc] at this)
  have hC : W0.heap[w.heap.size + 1 + 1]? = some (.cells #[.int .i64 0, .int .i64 0] 28 (0, 0)) := by
    rw [hW0]; have := heap_ofAlloc ((w.alloc (.cells #[.int .i64 t.head, .slice k t.kids.length (t.kids.length + sp)] 24)).alloc (.cells #[.int .i64 0, .slice none 0 0] 24)) (.cells #[.int .i64 0, .int .i64 0] 28); simpa only [World.size_alloc] using this
  have hb0 : Below w.heap.size w W0 := by rw [hW0]; exact (((Below.refl w.heap.size w).alloc (Nat.le_refl _) _).alloc (by simp) _).alloc (by simp; omega) _
  have hs0 : W0.heap.size = w.heap.size + 3 := by rw [hW0]; simp
  go_enter Try.func27, Try.ntmps27
  go_wp2_with fail
  rw [← hW0]
  clear hW0
  obtain ⟨b4, hb4⟩ : ∃ b, b = w.heap.size + 1 := ⟨_, rfl⟩
  obtain ⟨b5, hb5⟩ : ∃ b, b = w.heap.size + 1 + 1 := ⟨_, rfl⟩
  rw [← hb5] at hC ⊢; rw [← hb4] at hB ⊢
  have g4 : w.heap.size ≤ b4 := by omega
  have g5 : w.heap.size ≤ b5 := by omega
  have g45 : b4 < b5 := by omega
  have gs : b5 < W0.heap.size := by omega
  have gW : w.heap.size ≤ W0.heap.size := by omega
  clear hb4 hb5 hs0
  refine (check29 t _ _ (HT.out.kept hb0)).mono ?_
  rintro e w1 ⟨rfl, hb1⟩
  have hA1 := Below.heapAt hb1 hA; have hB1 := Below.heapAt hb1 hB; have hC1 := Below.heapAt hb1 hC
  have hb01 := Below.step hb0 hb1
  clear hA hB hC hb0 hb1
  obtain ⟨⟨rc, ra⟩, hR⟩ : ∃ r, treeF t = r := ⟨_, rfl⟩
  rw [hR]
  simp only [FV]
  have HR := Lib.hid hR
  clear hR
  cases hc : (rc != 0) with
  | true =>
    have HD := Lib.hid (show atF t place = (zeroT, (rc, ra)) by rw [atF, if_pos (by rw [HR.out]; simpa using hc), HR.out])
    go_wp2_with fail
    have hB2 := heap_alloc_old (o' := .cells #[.int .i64 rc, .int .i64 ra] 28) hB1
    have hC2 := heap_alloc_old (o' := .cells #[.int .i64 rc, .int .i64 ra] 28) hC1
    have hF2 := heap_ofAlloc w1 (.cells #[.int .i64 rc, .int .i64 ra] 28)
    have hb02 := hb01.alloc hb01.size (.cells #[.int .i64 rc, .int .i64 ra] 28)
    generalize w1.alloc (.cells #[.int .i64 rc, .int .i64 ra] 28) = w2 at hB2 hC2 hF2 hb02 ⊢
    obtain ⟨⟨a0, a1⟩, a2, a3⟩ := box2 (w := w2.drew) hB2
    obtain ⟨⟨a4, a5⟩, a6, a7⟩ := box2 hB2
    obtain ⟨⟨f4, f5⟩, f6, f7⟩ := box2 hF2
    have hn1 : ¬ w1.heap.size = b4 := by have := heap_lt hB1; omega
    have hn2 : ¬ b4 = w1.heap.size := by have := heap_lt hB1; omega
    have hn3 : ¬ b4 = b5 := by omega
    have hn4 : ¬ b5 = b4 := by omega
    obtain ⟨⟨c4, c5⟩, c6, c7⟩ := box2 hC2
    obtain ⟨⟨c0, c1⟩, c2, c3⟩ := box2 (w := w2.drew) hC2
    obtain ⟨⟨f0, f1⟩, f2, f3⟩ := box2 (w := w2.drew) hF2
    have HB2 := Lib.hid hB2; have HC2 := Lib.hid hC2
    clear hB2 hC2 hF2 hA1 hB1 hC1
    go_region
    all_goals
      go_wp2_with fail
      obtain ⟨q4, q5⟩ := two22 HB2.out HC2.out g45 (.int .i64 0) (.slice none 0 0) (.int .i64 rc) (.int .i64 ra)
      refine ret_box22 (.int .i64 0) (.slice none 0 0) (.int .i64 rc) (.int .i64 ra) b4 b5 24 28 (hb := q4) (hc := q5) (fun w' z0 z1 z2 z3 => by simp [results, Try.results27, go_sem, z0, z1, z2, z3]) rfl ?_
      exact ⟨_, by rw [HD.out]; rfl, by rw [HD.out]; exact TreeP.zero _ _, (below22 hb02 g4 g5 _ _ _ _).drew⟩
  | false =>
    have hrc : (treeF t).1 = 0 := by rw [HR.out]; simpa using hc
    have HOK := Lib.hid hrc
    clear hrc
    obtain ⟨⟨x0, _⟩, x1, _⟩ := box2 hA1
    have hlA := heap_lt hA1
    go_wp2_with fail
    clear x0 x1 hlA
    have hA2 := heap_alloc_old (o' := .cells #[.int .i64 rc, .int .i64 ra] 28) hA1
    have hB2 := heap_alloc_old (o' := .cells #[.int .i64 rc, .int .i64 ra] 28) hB1
    have hC2 := heap_alloc_old (o' := .cells #[.int .i64 rc, .int .i64 ra] 28) hC1
    have hb02 := hb01.alloc hb01.size (.cells #[.int .i64 rc, .int .i64 ra] 28)
    generalize w1.alloc (.cells #[.int .i64 rc, .int .i64 ra] 28) = w2 at hA2 hB2 hC2 hb02 ⊢
    clear hA1 hB1 hC1 hb01
    refine (get49 t place _ po pc w2 (HT.out.kept hb02) (HB.out.below hb02) hpl).mono ?_
    rintro e w3 ⟨u, rfl, hu, hb3⟩
    obtain ⟨uk, usp, rfl⟩ := hu.form
    have HU := Lib.hid hu
    have hB3 := Below.heapAt hb3 hB2; have hC3 := Below.heapAt hb3 hC2
    have hb03 := Below.step hb02 hb3
    have HG := Lib.hid (T.get_lt place t 0 (by omega))
    have HGS := Lib.hid (get_size place t 0)
    clear hA2 hB2 hC2 hb02 hb3 hu
    obtain ⟨⟨x, gi⟩, hgx⟩ : ∃ r, t.get place 0 = r := ⟨_, rfl⟩
    rw [hgx] at HU HG ⊢
    have HGX := Lib.hid hgx
    clear hgx
    dsimp only at HU HG ⊢
    have hok := treeF_ok.1 HOK.out
    by_cases hge : 0 ≤ gi
    · have HD := Lib.hid (show atF t place = (zeroT, (6, gi)) by rw [atF, if_neg (by simp [HOK.out]), HGX.out]; simp only; rw [if_pos hge])
      have hlB := heap_lt hB3; have hlC := heap_lt hC3
      obtain ⟨⟨a0, a1⟩, a2, a3⟩ := box2 hB3
      obtain ⟨⟨c0, c1⟩, c2, c3⟩ := box2 hC3
      have HB3 := Lib.hid hB3; have HC3 := Lib.hid hC3
      clear hB3 hC3
      go_wp2_with fail
      obtain ⟨q4, q5⟩ := two22 HB3.out HC3.out g45 (.int .i64 0) (.slice none 0 0) (.int .i64 6) (.int .i64 gi)
      have hbf := below22 hb03 g4 g5 (.int .i64 0) (.slice none 0 0) (.int .i64 6) (.int .i64 gi)
      refine ret_box22 (.int .i64 0) (.slice none 0 0) (.int .i64 6) (.int .i64 gi) b4 b5 24 28 (hb := heap_alloc_old q4) (hc := heap_alloc_old q5) (fun w' z0 z1 z2 z3 => by simp [results, Try.results27, go_sem, z0, z1, z2, z3]) rfl ?_
      exact ⟨_, by rw [HD.out]; rfl, by rw [HD.out]; exact TreeP.zero _ _, hbf.alloc hbf.size _⟩
    · have HD := Lib.hid (show atF t place = (x, (0, 0)) by rw [atF, if_neg (by simp [HOK.out]), HGX.out]; simp only; rw [if_neg hge])
      have HXS := Lib.hid (show x.size ≤ 100000000 by have := hok.1; have h2 := HGS.out; rw [HGX.out] at h2; simp only at h2; omega)
      have hU0 := HU.out
      go_wp2_with fail
      have hB4 := heap_alloc_old (o' := .cells #[.int .i64 x.head, .slice uk x.kids.length (x.kids.length + usp)] 24) hB3
      have hC4 := heap_alloc_old (o' := .cells #[.int .i64 x.head, .slice uk x.kids.length (x.kids.length + usp)] 24) hC3
      have hb04 := hb03.alloc hb03.size (.cells #[.int .i64 x.head, .slice uk x.kids.length (x.kids.length + usp)] 24)
      have hU4 := hU0.kept ((Below.refl _ w3).alloc (Nat.le_refl _) (.cells #[.int .i64 x.head, .slice uk x.kids.length (x.kids.length + usp)] 24))
      generalize w3.alloc (.cells #[.int .i64 x.head, .slice uk x.kids.length (x.kids.length + usp)] 24) = w4 at hB4 hC4 hb04 hU4 ⊢
      refine (copy50 x _ w4 hU4 HXS.out).mono ?_
      rintro e w5 ⟨z, rfl, hz, hb5⟩
      obtain ⟨zk, zsp, rfl⟩ := hz.at.form
      have hB5 := Below.heapAt hb5 hB4; have hC5 := Below.heapAt hb5 hC4
      have hb05 := Below.step hb04 hb5
      have HZ := Lib.hid hz
      have g6 : b5 < w4.heap.size := heap_lt hC4
      obtain ⟨⟨a0, a1⟩, a2, a3⟩ := box2 hB5
      obtain ⟨⟨c0, c1⟩, c2, c3⟩ := box2 hC5
      have HB5 := Lib.hid hB5; have HC5 := Lib.hid hC5
      clear hB3 hC3 hB4 hC4 hb04 hU4 hU0 hb5 hb03 hz hB5 hC5
      go_wp2_with fail
      obtain ⟨q4, q5⟩ := two22 HB5.out HC5.out g45 (.int .i64 x.head) (.slice zk x.kids.length (x.kids.length + zsp)) (.int .i64 0) (.int .i64 0)
      refine ret_box22 (.int .i64 x.head) (.slice zk x.kids.length (x.kids.length + zsp)) (.int .i64 0) (.int .i64 0) b4 b5 24 28 (hb := q4) (hc := q5) (fun w' z0 z1 z2 z3 => by simp [results, Try.results27, go_sem, z0, z1, z2, z3]) rfl ?_
      refine ⟨_, by rw [HD.out]; rfl, ?_, below22 hb05 g4 g5 _ _ _ _⟩
      rw [HD.out]
      exact ((((HZ.out.setCell (a := ⟨b4, 0, none⟩) (by simp; omega) _).setCell (a := ⟨b4, 1, none⟩) (by simp; omega) _).setCell (a := ⟨b5, 0, none⟩) (by simp; omega) _).setCell (a := ⟨b5, 1, none⟩) (by simp; omega) _).mono (fun b h _ => by have h1 := h; omega)

def putF (t : T) (place : List Int) (s : T) : T × (Int × Int) := if (treeF t).1 ≠ 0 then (zeroT, treeF t) else if (treeF s).1 ≠ 0 then (zeroT, ((treeF s).1, -1)) else if 0 ≤ (t.get place 0).2 then (zeroT, (6, (t.get place 0).2)) else if (treeF (T.withAt place t s)).1 ≠ 0 then (zeroT, (10, 0)) else (T.withAt place t s, (0, 0))
set_option maxRecDepth 100000 in
set_option maxHeartbeats 8000000 in
theorem put28 (t : T) (place : List Int) (s : T) (v : Value) (po : Option Addr) (pc : Nat) (sv : Value) (w : World) (ht : TreeAt w v t) (hb : CellsAt w po place.length (fun j => .int .i64 (gI place j))) (hs : TreeAt w sv s) (hpl : place.length ≤ pc) (hpc : pc ≤ 9223372036854775807) :
    Calls Try.prog 28 #[v, .slice po place.length pc, sv] w (DoPostN (putF t place s) w) := by
  obtain ⟨k, sp, rfl⟩ := ht.form
  obtain ⟨so, ssp, rfl⟩ := hs.form
  have HT := Lib.hid ht; have HP := Lib.hid hb; have HS := Lib.hid hs; clear ht hb hs
  obtain ⟨W0, hW0⟩ : ∃ W0, W0 = (((w.alloc (.cells #[.int .i64 t.head, .slice k t.kids.length (t.kids.length + sp)] 24)).alloc (.cells #[.int .i64 s.head, .slice so s.kids.length (s.kids.length + ssp)] 24)).alloc (.cells #[.int .i64 0, .slice none 0 0] 24)).alloc (.cells #[.int .i64 0, .int .i64 0] 28) := ⟨_, rfl⟩
  have hA : W0.heap[w.heap.size]? = some (.cells #[.int .i64 t.head, .slice k t.kids.length (t.kids.length + sp)] 24 (0, 0)) := by
    rw [hW0]; exact heap_alloc_old (heap_alloc_old (heap_alloc_old (heap_ofAlloc _ _)))
  have hS : W0.heap[w.heap.size + 1]? = some (.cells #[.int .i64 s.head, .slice so s.kids.length (s.kids.length + ssp)] 24 (0, 0)) := by
    rw [hW0]; exact heap_alloc_old (heap_alloc_old (by have := heap_ofAlloc (w.alloc (.cells #[.int .i64 t.head, .slice k t.kids.length (t.kids.length + sp)] 24)) (.cells #[.int .i64 s.head, .slice so s.kids.length (s.kids.length + ssp)] 24); rwa [World.size_alloc] at this))
  have hB : W0.heap[w.heap.size + 1 + 1]? = some (.cells #[.int .i64 0, .slice none 0 0] 24 (0, 0)) := by
    rw [hW0]; exact heap_alloc_old (by have := heap_ofAlloc ((w.alloc (.cells #[.int .i64 t.head, .slice k t.kids.length (t.kids.length + sp)] 24)).alloc (.cells #[.int .i64 s.head, .slice so s.kids.length (s.kids.length + ssp)] 24)) (.cells #[.int .i64 0, .slice none 0 0] 24); simpa only [World.size_alloc] using this)
  have hC : W0.heap[w.heap.size + 1 + 1 + 1]? = some (.cells #[.int .i64 0, .int .i64 0] 28 (0, 0)) := by
    rw [hW0]; have := heap_ofAlloc (((w.alloc (.cells #[.int .i64 t.head, .slice k t.kids.length (t.kids.length + sp)] 24)).alloc (.cells #[.int .i64 s.head, .slice so s.kids.length (s.kids.length + ssp)] 24)).alloc (.cells #[.int .i64 0, .slice none 0 0] 24)) (.cells #[.int .i64 0, .int .i64 0] 28); simpa only [World.size_alloc] using this
  have hb0 : Below w.heap.size w W0 := by rw [hW0]; exact ((((Below.refl w.heap.size w).alloc (Nat.le_refl _) _).alloc (by simp) _).alloc (by simp; omega) _).alloc (by simp; omega) _
  have hs0 : W0.heap.size = w.heap.size + 4 := by rw [hW0]; simp
  go_enter Try.func28, Try.ntmps28
  go_wp2_with fail
  rw [← hW0]
  clear hW0
  obtain ⟨bs, hbs⟩ : ∃ b, b = w.heap.size + 1 := ⟨_, rfl⟩
  obtain ⟨b4, hb4⟩ : ∃ b, b = w.heap.size + 1 + 1 := ⟨_, rfl⟩
  obtain ⟨b5, hb5⟩ : ∃ b, b = w.heap.size + 1 + 1 + 1 := ⟨_, rfl⟩
  rw [← hb5] at hC ⊢; rw [← hb4] at hB ⊢; rw [← hbs] at hS ⊢
  have g4 : w.heap.size ≤ b4 := by omega
  have g5 : w.heap.size ≤ b5 := by omega
  have g45 : b4 < b5 := by omega
  have gs : b5 < W0.heap.size := by omega
  have gW : w.heap.size ≤ W0.heap.size := by omega
  clear hb4 hb5 hbs hs0
  refine (check29 t _ _ (HT.out.kept hb0)).mono ?_
  rintro e w1 ⟨rfl, hb1⟩
  have hA1 := Below.heapAt hb1 hA; have hB1 := Below.heapAt hb1 hB; have hC1 := Below.heapAt hb1 hC; have hS1 := Below.heapAt hb1 hS
  have hb01 := Below.step hb0 hb1
  clear hA hB hC hS hb0 hb1
  obtain ⟨⟨rc, ra⟩, hR⟩ : ∃ r, treeF t = r := ⟨_, rfl⟩
  rw [hR]
  simp only [FV]
  have HR := Lib.hid hR
  clear hR
  cases hc : (rc != 0) with
  | true =>
    have HD := Lib.hid (show putF t place s = (zeroT, (rc, ra)) by rw [putF, if_pos (by rw [HR.out]; simpa using hc), HR.out])
    go_wp2_with fail
    have hB2 := heap_alloc_old (o' := .cells #[.int .i64 rc, .int .i64 ra] 28) hB1
    have hC2 := heap_alloc_old (o' := .cells #[.int .i64 rc, .int .i64 ra] 28) hC1
    have hF2 := heap_ofAlloc w1 (.cells #[.int .i64 rc, .int .i64 ra] 28)
    have hb02 := hb01.alloc hb01.size (.cells #[.int .i64 rc, .int .i64 ra] 28)
    generalize w1.alloc (.cells #[.int .i64 rc, .int .i64 ra] 28) = w2 at hB2 hC2 hF2 hb02 ⊢
    obtain ⟨⟨a0, a1⟩, a2, a3⟩ := box2 (w := w2.drew) hB2
    obtain ⟨⟨a4, a5⟩, a6, a7⟩ := box2 hB2
    obtain ⟨⟨f4, f5⟩, f6, f7⟩ := box2 hF2
    have hn1 : ¬ w1.heap.size = b4 := by have := heap_lt hB1; omega
    have hn2 : ¬ b4 = w1.heap.size := by have := heap_lt hB1; omega
    have hn3 : ¬ b4 = b5 := by omega
    have hn4 : ¬ b5 = b4 := by omega
    obtain ⟨⟨c4, c5⟩, c6, c7⟩ := box2 hC2
    obtain ⟨⟨c0, c1⟩, c2, c3⟩ := box2 (w := w2.drew) hC2
    obtain ⟨⟨f0, f1⟩, f2, f3⟩ := box2 (w := w2.drew) hF2
    have hn5 : ¬ w1.heap.size = b5 := by have := heap_lt hC1; omega
    have hn6 : ¬ b5 = w1.heap.size := by omega
    have HBX := Lib.hid hB2; have HCX := Lib.hid hC2
    clear hB2 hC2 hF2
    go_region
    all_goals
      go_wp2_with fail
      obtain ⟨q4, q5⟩ := two22 HBX.out HCX.out g45 (.int .i64 0) (.slice none 0 0) (.int .i64 rc) (.int .i64 ra)
      refine ret_box22 (.int .i64 0) (.slice none 0 0) (.int .i64 rc) (.int .i64 ra) b4 b5 24 28 (hb := q4) (hc := q5) (fun w' z0 z1 z2 z3 => by simp [results, Try.results28, go_sem, z0, z1, z2, z3]) rfl ?_
      exact ⟨_, by rw [HD.out]; rfl, by rw [HD.out]; exact TreeP.zero _ _, (below22 hb02 g4 g5 _ _ _ _).drew⟩
  | false =>
    have hrc : (treeF t).1 = 0 := by rw [HR.out]; simpa using hc
    have HOK := Lib.hid hrc
    clear hrc
    obtain ⟨⟨x0, _⟩, x1, _⟩ := box2 hS1
    have hlA := heap_lt hS1
    go_wp2_with fail
    clear x0 x1 hlA
    have hA2 := heap_alloc_old (o' := .cells #[.int .i64 rc, .int .i64 ra] 28) hA1
    have hB2 := heap_alloc_old (o' := .cells #[.int .i64 rc, .int .i64 ra] 28) hB1
    have hC2 := heap_alloc_old (o' := .cells #[.int .i64 rc, .int .i64 ra] 28) hC1
    have hS2 := heap_alloc_old (o' := .cells #[.int .i64 rc, .int .i64 ra] 28) hS1
    have hb02 := hb01.alloc hb01.size (.cells #[.int .i64 rc, .int .i64 ra] 28)
    generalize w1.alloc (.cells #[.int .i64 rc, .int .i64 ra] 28) = w2 at hA2 hB2 hC2 hS2 hb02 ⊢
    clear hA1 hB1 hC1 hS1 hb01
    refine (check29 s _ w2 (HS.out.kept hb02)).mono ?_
    rintro e w3 ⟨rfl, hb3⟩
    have hA3 := Below.heapAt hb3 hA2; have hB3 := Below.heapAt hb3 hB2; have hC3 := Below.heapAt hb3 hC2; have hS3 := Below.heapAt hb3 hS2
    have hb03 := Below.step hb02 hb3
    clear hA2 hB2 hC2 hS2 hb02 hb3
    obtain ⟨⟨sc, sa⟩, hSR⟩ : ∃ r, treeF s = r := ⟨_, rfl⟩
    rw [hSR]
    simp only [FV]
    have HSR := Lib.hid hSR
    clear hSR
    cases hsc : (sc != 0) with
    | true =>
      have HD := Lib.hid (show putF t place s = (zeroT, (sc, -1)) by rw [putF, if_neg (by simp [HOK.out]), if_pos (by rw [HSR.out]; simpa using hsc), HSR.out])
      go_wp2_with fail
      have hB4 := heap_alloc_old (o' := .cells #[.int .i64 sc, .int .i64 sa] 28) hB3
      have hC4 := heap_alloc_old (o' := .cells #[.int .i64 sc, .int .i64 sa] 28) hC3
      have hF4 := heap_ofAlloc w3 (.cells #[.int .i64 sc, .int .i64 sa] 28)
      have hb04 := hb03.alloc hb03.size (.cells #[.int .i64 sc, .int .i64 sa] 28)
      generalize w3.alloc (.cells #[.int .i64 sc, .int .i64 sa] 28) = w4 at hB4 hC4 hF4 hb04 ⊢
      obtain ⟨⟨a0, a1⟩, a2, a3⟩ := box2 (w := w4.drew) hB4
      obtain ⟨⟨a4, a5⟩, a6, a7⟩ := box2 hB4
      obtain ⟨⟨f4, f5⟩, f6, f7⟩ := box2 hF4
      have hn1 : ¬ w3.heap.size = b4 := by have := heap_lt hB3; omega
      have hn2 : ¬ b4 = w3.heap.size := by have := heap_lt hB3; omega
      have hn3 : ¬ b4 = b5 := by omega
      have hn4 : ¬ b5 = b4 := by omega
      obtain ⟨⟨c4, c5⟩, c6, c7⟩ := box2 hC4
      obtain ⟨⟨c0, c1⟩, c2, c3⟩ := box2 (w := w4.drew) hC4
      obtain ⟨⟨f0, f1⟩, f2, f3⟩ := box2 (w := w4.drew) hF4
      have hn5 : ¬ w3.heap.size = b5 := by have := heap_lt hC3; omega
      have hn6 : ¬ b5 = w3.heap.size := by omega
      have HBX := Lib.hid hB4; have HCX := Lib.hid hC4
      clear hB4 hC4 hF4
      go_region
      all_goals
        go_wp2_with fail
        obtain ⟨q4, q5⟩ := two22 HBX.out HCX.out g45 (.int .i64 0) (.slice none 0 0) (.int .i64 sc) (.int .i64 (-1))
        refine ret_box22 (.int .i64 0) (.slice none 0 0) (.int .i64 sc) (.int .i64 (-1)) b4 b5 24 28 (hb := q4) (hc := q5) (fun w' z0 z1 z2 z3 => by simp [results, Try.results28, go_sem, z0, z1, z2, z3]) rfl ?_
        exact ⟨_, by rw [HD.out]; rfl, by rw [HD.out]; exact TreeP.zero _ _, (below22 hb04 g4 g5 _ _ _ _).drew⟩
    | false =>
      have hsc' : (treeF s).1 = 0 := by rw [HSR.out]; simpa using hsc
      have HOS := Lib.hid hsc'
      clear hsc'
      obtain ⟨⟨x0, _⟩, x1, _⟩ := box2 hA3
      have hlA := heap_lt hA3
      go_wp2_with fail
      clear x0 x1 hlA
      have hA4 := heap_alloc_old (o' := .cells #[.int .i64 sc, .int .i64 sa] 28) hA3
      have hB4 := heap_alloc_old (o' := .cells #[.int .i64 sc, .int .i64 sa] 28) hB3
      have hC4 := heap_alloc_old (o' := .cells #[.int .i64 sc, .int .i64 sa] 28) hC3
      have hS4 := heap_alloc_old (o' := .cells #[.int .i64 sc, .int .i64 sa] 28) hS3
      have hb04 := hb03.alloc hb03.size (.cells #[.int .i64 sc, .int .i64 sa] 28)
      generalize w3.alloc (.cells #[.int .i64 sc, .int .i64 sa] 28) = w4 at hA4 hB4 hC4 hS4 hb04 ⊢
      clear hA3 hB3 hC3 hS3 hb03
      refine (get49 t place _ po pc w4 (HT.out.kept hb04) (HP.out.below hb04) (Nat.le_trans hpl hpc)).mono ?_
      rintro e w5 ⟨u, rfl, hu, hb5⟩
      obtain ⟨uk, usp, rfl⟩ := hu.form
      have hA5 := Below.heapAt hb5 hA4; have hB5 := Below.heapAt hb5 hB4; have hC5 := Below.heapAt hb5 hC4; have hS5 := Below.heapAt hb5 hS4
      have hb05 := Below.step hb04 hb5
      have HG := Lib.hid (T.get_lt place t 0 (by omega))
      clear hA4 hB4 hC4 hS4 hb04 hb5 hu
      obtain ⟨⟨x, gi⟩, hgx⟩ : ∃ r, t.get place 0 = r := ⟨_, rfl⟩
      rw [hgx] at HG ⊢
      have HGX := Lib.hid hgx
      clear hgx
      dsimp only at HG ⊢
      have hA6 := heap_alloc_old (o' := .cells #[.int .i64 x.head, .slice uk x.kids.length (x.kids.length + usp)] 24) hA5
      have hB6 := heap_alloc_old (o' := .cells #[.int .i64 x.head, .slice uk x.kids.length (x.kids.length + usp)] 24) hB5
      have hC6 := heap_alloc_old (o' := .cells #[.int .i64 x.head, .slice uk x.kids.length (x.kids.length + usp)] 24) hC5
      have hS6 := heap_alloc_old (o' := .cells #[.int .i64 x.head, .slice uk x.kids.length (x.kids.length + usp)] 24) hS5
      have hb06 := hb05.alloc hb05.size (.cells #[.int .i64 x.head, .slice uk x.kids.length (x.kids.length + usp)] 24)
      by_cases hge : 0 ≤ gi
      · have HD := Lib.hid (show putF t place s = (zeroT, (6, gi)) by rw [putF, if_neg (by simp [HOK.out]), if_neg (by simp [HOS.out]), HGX.out]; simp only; rw [if_pos hge])
        have hlB := heap_lt hB5; have hlC := heap_lt hC5
        obtain ⟨⟨a0, a1⟩, a2, a3⟩ := box2 hB5
        obtain ⟨⟨c0, c1⟩, c2, c3⟩ := box2 hC5
        have HB5 := Lib.hid hB5; have HC5 := Lib.hid hC5
        clear hB5 hC5 hA5 hS5 hA6 hB6 hC6 hS6
        go_wp2_with fail
        obtain ⟨q4, q5⟩ := two22 HB5.out HC5.out g45 (.int .i64 0) (.slice none 0 0) (.int .i64 6) (.int .i64 gi)
        have hbf := below22 hb05 g4 g5 (.int .i64 0) (.slice none 0 0) (.int .i64 6) (.int .i64 gi)
        refine ret_box22 (.int .i64 0) (.slice none 0 0) (.int .i64 6) (.int .i64 gi) b4 b5 24 28 (hb := heap_alloc_old q4) (hc := heap_alloc_old q5) (fun w' z0 z1 z2 z3 => by simp [results, Try.results28, go_sem, z0, z1, z2, z3]) rfl ?_
        exact ⟨_, by rw [HD.out]; rfl, by rw [HD.out]; exact TreeP.zero _ _, hbf.alloc hbf.size _⟩
      · have hok := treeF_ok.1 HOK.out
        have hoks := treeF_ok.1 HOS.out
        obtain ⟨⟨x0, _⟩, x1, _⟩ := box2 hA5
        obtain ⟨⟨y0, _⟩, y1, _⟩ := box2 hS5
        have hlA := heap_lt hA5; have hlS := heap_lt hS5
        have HTW := Lib.hid (HT.out.kept hb06); have HSW := Lib.hid (HS.out.kept hb06); have HPW := Lib.hid (HP.out.below hb06)
        have ht1 : t.size ≤ 100000000 := by omega
        have hs1 : s.size ≤ 100000000 := by omega
        clear hok hoks hA5 hB5 hC5 hS5 hA6 hS6
        go_wp2_with fail
        clear x0 x1 y0 y1 hlA hlS
        generalize w5.alloc (.cells #[.int .i64 x.head, .slice uk x.kids.length (x.kids.length + usp)] 24) = w6 at hB6 hC6 hb06 HTW HSW HPW ⊢
        refine (with51 s place t _ po pc _ w6 HTW.out HSW.out HPW.out hpl hpc ht1 hs1).mono ?_
        rintro e w7 ⟨z, rfl, hz, hb7⟩
        obtain ⟨zk, zsp, rfl⟩ := hz.at.form
        have hB7 := Below.heapAt hb7 hB6; have hC7 := Below.heapAt hb7 hC6
        have hb07 := Below.step hb06 hb7
        have g6 : b5 < w6.heap.size := heap_lt hC6
        have gw6 : w.heap.size ≤ w6.heap.size := hb06.size
        have HU := Lib.hid hz
        generalize hTS : T.withAt place t s = ts at HU ⊢
        have HTS := Lib.hid hTS
        clear hTS hB6 hC6 hb06 hb7 hz hb05
        go_wp2_with fail
        have hB8 := heap_alloc_old (o' := .cells #[.int .i64 ts.head, .slice zk ts.kids.length (ts.kids.length + zsp)] 24) hB7
        have hC8 := heap_alloc_old (o' := .cells #[.int .i64 ts.head, .slice zk ts.kids.length (ts.kids.length + zsp)] 24) hC7
        have hU8 := heap_ofAlloc w7 (.cells #[.int .i64 ts.head, .slice zk ts.kids.length (ts.kids.length + zsp)] 24)
        have hb08 := hb07.alloc hb07.size (.cells #[.int .i64 ts.head, .slice zk ts.kids.length (ts.kids.length + zsp)] 24)
        have HU8 := Lib.hid (HU.out.kept ((Below.refl _ w7).alloc (Nat.le_refl _) (.cells #[.int .i64 ts.head, .slice zk ts.kids.length (ts.kids.length + zsp)] 24)))
        have hs8 : w7.heap.size < (w7.alloc (.cells #[.int .i64 ts.head, .slice zk ts.kids.length (ts.kids.length + zsp)] 24)).heap.size := by simp
        generalize w7.alloc (.cells #[.int .i64 ts.head, .slice zk ts.kids.length (ts.kids.length + zsp)] 24) = w8 at hB8 hC8 hU8 hb08 HU8 hs8 ⊢
        refine (check29 ts _ _ HU8.out.at).mono ?_
        rintro e w9 ⟨rfl, hb9⟩
        have hB9 := Below.heapAt hb9 hB8; have hC9 := Below.heapAt hb9 hC8; have hU9 := Below.heapAt hb9 hU8
        have hb09 := Below.step hb08 hb9
        have HU9 := Lib.hid (HU8.out.kept hb9)
        clear hB8 hC8 hU8 hb08 hb9 hB7 hC7 hb07
        obtain ⟨⟨vc, va⟩, hV⟩ : ∃ r, treeF ts = r := ⟨_, rfl⟩
        rw [hV]
        simp only [FV]
        have HV := Lib.hid hV
        clear hV
        have hlB := heap_lt hB9; have hlC := heap_lt hC9
        obtain ⟨⟨a0, a1⟩, a2, a3⟩ := box2 hB9
        obtain ⟨⟨c0, c1⟩, c2, c3⟩ := box2 hC9
        obtain ⟨⟨f0, _⟩, f2, _⟩ := box2 hU9
        have HB9 := Lib.hid hB9; have HC9 := Lib.hid hC9
        clear hB9 hC9 hU9
        have hF28 := field28_0 vc va
        cases hvc : (vc != 0) with
        | true =>
          have HD := Lib.hid (show putF t place s = (zeroT, (10, 0)) by rw [putF, if_neg (by simp [HOK.out]), if_neg (by simp [HOS.out]), HGX.out]; simp only; rw [if_neg (by omega), if_pos (by rw [HTS.out, HV.out]; simpa using hvc)])
          go_wp2_with fail
          obtain ⟨q4, q5⟩ := two22 HB9.out HC9.out g45 (.int .i64 0) (.slice none 0 0) (.int .i64 10) (.int .i64 0)
          refine ret_box22 (.int .i64 0) (.slice none 0 0) (.int .i64 10) (.int .i64 0) b4 b5 24 28 (hb := q4) (hc := q5) (fun w' z0 z1 z2 z3 => by simp [results, Try.results28, go_sem, z0, z1, z2, z3]) rfl ?_
          exact ⟨_, by rw [HD.out]; rfl, by rw [HD.out]; exact TreeP.zero _ _, below22 hb09 g4 g5 _ _ _ _⟩
        | false =>
          have HD := Lib.hid (show putF t place s = (ts, (0, 0)) by rw [putF, if_neg (by simp [HOK.out]), if_neg (by simp [HOS.out]), HGX.out]; simp only; rw [if_neg (by omega), if_neg (by rw [HTS.out, HV.out]; simpa using hvc), HTS.out])
          go_wp2_with fail
          obtain ⟨q4, q5⟩ := two22 HB9.out HC9.out g45 (.int .i64 ts.head) (.slice zk ts.kids.length (ts.kids.length + zsp)) (.int .i64 0) (.int .i64 0)
          refine ret_box22 (.int .i64 ts.head) (.slice zk ts.kids.length (ts.kids.length + zsp)) (.int .i64 0) (.int .i64 0) b4 b5 24 28 (hb := q4) (hc := q5) (fun w' z0 z1 z2 z3 => by simp [results, Try.results28, go_sem, z0, z1, z2, z3]) rfl ?_
          refine ⟨_, by rw [HD.out]; rfl, ?_, below22 hb09 g4 g5 _ _ _ _⟩
          rw [HD.out]
          exact ((((HU9.out.setCell (a := ⟨b4, 0, none⟩) (by simp; omega) _).setCell (a := ⟨b4, 1, none⟩) (by simp; omega) _).setCell (a := ⟨b5, 0, none⟩) (by simp; omega) _).setCell (a := ⟨b5, 1, none⟩) (by simp; omega) _).mono (fun b h _ => by have h1 := h; omega)
end Go.Proofs.Ytcckgfgobakphaa
