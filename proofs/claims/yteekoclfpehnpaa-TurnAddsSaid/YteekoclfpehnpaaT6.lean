/-
  Walks: the document's Tree; the law's vast, none.
-/
import Derived.Test.YteekoclfpehnpaaProg
import Derived.Test.YteekoclfpehnpaaBase
import Derived.Test.YteekoclfpehnpaaT4
import Derived.Test.YteekoclfpehnpaaT5
namespace Go.Proofs.Yteekoclfpehnpaa
open Go.RowKit Go.Shelf
set_option linter.unusedVariables false
set_option maxHeartbeats 400000

def treeF (t : T) : Int × Int := if 40 < t.size then (2, 0) else if 12 < t.deep then (10, 0) else (t.nodes 0).1
def FV (f : Int × Int) : Value := .agg #[.int .i64 f.1, .int .i64 f.2]

set_option maxRecDepth 100000 in
theorem tree18 (t : T) (v : Value) (w : World) (hs : t.size ≤ 1000000) (ht : TreeAt w v t) :
    Calls Try.prog 45 #[v] w fun e w' => e = .returned (FV (treeF t)) ∧ Below w.heap.size w w' := by
  obtain ⟨k, sp, rfl⟩ := ht.form
  have HT := Lib.hid ht; clear ht
  have hbx := heap_alloc_old (o' := .cells #[.int .i64 0, .int .i64 0] 32) (heap_ofAlloc w (.cells #[.int .i64 t.head, .slice k t.kids.length (t.kids.length + sp)] 44))
  have hby := heap_ofAlloc (w.alloc (.cells #[.int .i64 t.head, .slice k t.kids.length (t.kids.length + sp)] 44)) (.cells #[.int .i64 0, .int .i64 0] 32)
  rw [World.size_alloc] at hby
  have hb0 := ((Below.refl w.heap.size w).alloc (Nat.le_refl _) (.cells #[.int .i64 t.head, .slice k t.kids.length (t.kids.length + sp)] 44)).alloc (by simp) (.cells #[.int .i64 0, .int .i64 0] 32)
  have HS := Lib.hid (fun W h => size41 t (.agg #[.int .i64 t.head, .slice k t.kids.length (t.kids.length + sp)]) W (by omega) h)
  have HD := Lib.hid (fun W h => deep43 t (.agg #[.int .i64 t.head, .slice k t.kids.length (t.kids.length + sp)]) W (by have := deep_le t; omega) h)
  have HN := Lib.hid (fun W h => nodes44 t 0 (.agg #[.int .i64 t.head, .slice k t.kids.length (t.kids.length + sp)]) W (by omega) (by omega) h)
  by_cases h40 : (40 : Int) < t.size
  · have HF := Lib.hid (show treeF t = (2, 0) by rw [treeF, if_pos (by omega)])
    go_enter Try.func45, Try.ntmps45
    go_wp2_with fail
    refine (HS.out _ (HT.out.kept hb0)).mono ?_
    rintro e w1 ⟨rfl, hb1⟩
    have hy1 := Below.heapAt hb1 hby
    have hb01 := Below.step hb0 hb1
    clear hbx hby hb0 hb1
    go_wp2_with fail
    refine (fault42 2 0 _).mono ?_
    rintro e w2 ⟨rfl, hb2⟩
    have hy2 := Below.heapAt hb2 hy1
    have hyl := heap_lt hy2
    have hbw := Below.step hb01 hb2
    obtain ⟨⟨y0, y1⟩, y2, y3⟩ := box2 hy2
    clear hy1 hb01 hb2
    go_wp2_with fail
    refine ret_box2 (.int .i64 2) (.int .i64 0) (w.heap.size + 1) 32 (box2_set hy2 _ _) (fun w' q0 q1 => by simp [results, Try.results45, go_sem, q0, q1]) rfl ?_
    exact ⟨by rw [HF.out]; rfl, (hbw.setCell (p := ⟨w.heap.size + 1, 0, none⟩) (by simp) _).setCell (p := ⟨w.heap.size + 1, 1, none⟩) (by simp) _⟩
  · by_cases h12 : (12 : Int) < t.deep
    · have HF := Lib.hid (show treeF t = (10, 0) by rw [treeF, if_neg (by omega), if_pos (by omega)])
      go_enter Try.func45, Try.ntmps45
      go_wp2_with fail
      refine (HS.out _ (HT.out.kept hb0)).mono ?_
      rintro e w1 ⟨rfl, hb1⟩
      have hx1 := Below.heapAt hb1 hbx
      have hy1 := Below.heapAt hb1 hby
      have hb01 := Below.step hb0 hb1
      obtain ⟨⟨x0, _⟩, x1, _⟩ := box2 hx1
      clear hbx hby hb0 hb1
      go_wp2_with fail
      refine (HD.out _ (HT.out.kept hb01)).mono ?_
      rintro e w2 ⟨rfl, hb2⟩
      have hy2 := Below.heapAt hb2 hy1
      have hb02 := Below.step hb01 hb2
      clear hx1 hy1 hb01 hb2 x0 x1
      go_wp2_with fail
      refine (fault42 10 0 _).mono ?_
      rintro e w3 ⟨rfl, hb3⟩
      have hy3 := Below.heapAt hb3 hy2
      have hyl := heap_lt hy3
      have hbw := Below.step hb02 hb3
      obtain ⟨⟨y0, y1⟩, y2, y3⟩ := box2 hy3
      clear hy2 hb02 hb3
      go_wp2_with fail
      refine ret_box2 (.int .i64 10) (.int .i64 0) (w.heap.size + 1) 32 (box2_set hy3 _ _) (fun w' q0 q1 => by simp [results, Try.results45, go_sem, q0, q1]) rfl ?_
      exact ⟨by rw [HF.out]; rfl, (hbw.setCell (p := ⟨w.heap.size + 1, 0, none⟩) (by simp) _).setCell (p := ⟨w.heap.size + 1, 1, none⟩) (by simp) _⟩
    · have HF := Lib.hid (show treeF t = (t.nodes 0).1 by rw [treeF, if_neg (by omega), if_neg (by omega)])
      go_enter Try.func45, Try.ntmps45
      go_wp2_with fail
      refine (HS.out _ (HT.out.kept hb0)).mono ?_
      rintro e w1 ⟨rfl, hb1⟩
      have hx1 := Below.heapAt hb1 hbx
      have hy1 := Below.heapAt hb1 hby
      have hb01 := Below.step hb0 hb1
      obtain ⟨⟨x0, _⟩, x1, _⟩ := box2 hx1
      clear hbx hby hb0 hb1
      go_wp2_with fail
      refine (HD.out _ (HT.out.kept hb01)).mono ?_
      rintro e w2 ⟨rfl, hb2⟩
      have hx2 := Below.heapAt hb2 hx1
      have hy2 := Below.heapAt hb2 hy1
      have hb02 := Below.step hb01 hb2
      clear hx1 hy1 hb01 hb2 x0 x1
      obtain ⟨⟨x0, _⟩, x1, _⟩ := box2 hx2
      go_wp2_with fail
      refine (HN.out _ (HT.out.kept hb02)).mono ?_
      rintro e w3 ⟨rfl, hb3⟩
      have hy3 := Below.heapAt hb3 hy2
      have hyl := heap_lt hy3
      have hbw := Below.step hb02 hb3
      obtain ⟨⟨y0, y1⟩, y2, y3⟩ := box2 hy3
      clear hy2 hb02 hb3 x0 x1 hx2
      generalize t.nodes 0 = R at HF ⊢
      obtain ⟨⟨rc, ra⟩, rn⟩ := R
      go_wp2_with fail
      have hsz := hbw.size
      refine ret_box2 (.int .i64 rc) (.int .i64 ra) (w.heap.size + 1) 32 (heap_alloc_old (box2_set hy3 _ _)) (fun w' q0 q1 => by simp [results, Try.results45, go_sem, q0, q1]) rfl ?_
      exact ⟨by rw [HF.out]; rfl, ((hbw.setCell (p := ⟨w.heap.size + 1, 0, none⟩) (by simp) _).setCell (p := ⟨w.heap.size + 1, 1, none⟩) (by simp) _).alloc (by simp; omega) _⟩

theorem vast15 (t : T) (v : Value) (w : World) (hs : t.size ≤ 1000000000) (ht : TreeAt w v t) :
    Calls Try.prog 22 #[v] w fun e w' => e = .returned (.bool (decide ((200 : Int) < t.size))) ∧ Below w.heap.size w w' := by
  obtain ⟨k, sp, rfl⟩ := ht.form
  have HS := Lib.hid (fun W h => size41 t (.agg #[.int .i64 t.head, .slice k t.kids.length (t.kids.length + sp)]) W hs h)
  have HT := Lib.hid ht; clear ht
  have hb0 := (Below.refl w.heap.size w).alloc (Nat.le_refl _) (.cells #[.int .i64 t.head, .slice k t.kids.length (t.kids.length + sp)] 44)
  go_enter Try.func22, Try.ntmps22
  go_wp2_with fail
  refine (HS.out _ (HT.out.kept hb0)).mono ?_
  rintro e w1 ⟨rfl, hb1⟩
  have hb01 := Below.step hb0 hb1
  go_wp2_with fail
  go_ret
  exact ⟨rfl, hb01⟩
theorem none24 (t : T) (v : Value) (w : World) (ht : TreeAt w v t) :
    Calls Try.prog 35 #[v] w fun e w' => e = .returned (.bool (decide (t.head = 0 ∧ t.kids.length = 0))) ∧ Below w.heap.size w w' := by
  obtain ⟨k, sp, rfl⟩ := ht.form
  clear ht
  have hb0 := (Below.refl w.heap.size w).alloc (Nat.le_refl _) (.cells #[.int .i64 t.head, .slice k t.kids.length (t.kids.length + sp)] 44)
  cases h0 : (t.head == 0) with
  | true =>
    have HE := Lib.hid (eq_of_beq h0)
    go_enter Try.func35, Try.ntmps35
    go_wp2_with fail
    go_ret
    exact ⟨ret_bool (by rw [Bool.eq_iff_iff]; have := HE.out; simp [this] <;> omega), hb0⟩
  | false =>
    have HE := Lib.hid (show t.head ≠ 0 by simpa using h0)
    go_enter Try.func35, Try.ntmps35
    go_wp2_with fail
    go_ret
    exact ⟨ret_bool (by have := HE.out; simp [this]), hb0⟩
end Go.Proofs.Yteekoclfpehnpaa
