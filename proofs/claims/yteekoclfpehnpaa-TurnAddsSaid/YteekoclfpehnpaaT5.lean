/-
  Walks: the document's nodes and Tree.
-/
import Derived.Test.YteekoclfpehnpaaProg
import Derived.Test.YteekoclfpehnpaaBase
import Derived.Test.YteekoclfpehnpaaT3
namespace Go.Proofs.Yteekoclfpehnpaa
open Go.RowKit Go.Shelf
set_option linter.unusedVariables false
set_option maxHeartbeats 400000

def badHead (h : Int) : Prop := h = 0 ∨ h < -8 ∨ 12 < h
def badKids (h : Int) (n : Nat) : Prop := 3 < n ∨ (h < 0 ∧ 0 < n)
instance (h : Int) : Decidable (badHead h) := by unfold badHead; infer_instance
instance (h : Int) (n : Nat) : Decidable (badKids h n) := by unfold badKids; infer_instance
mutual
def T.nodes : T → Int → (Int × Int) × Int
  | .node h ks, a => if badHead h then ((3, a), a) else if badKids h ks.length then ((9, a), a) else nodesL ks (a + 1)
def nodesL : List T → Int → (Int × Int) × Int
  | [], a => ((0, 0), a)
  | t :: r, a => if (t.nodes a).1.1 ≠ 0 then t.nodes a else nodesL r (t.nodes a).2
end
theorem T.nodes_eq (t : T) (a : Int) : t.nodes a = if badHead t.head then ((3, a), a) else if badKids t.head t.kids.length then ((9, a), a) else nodesL t.kids (a + 1) := by cases t; rw [T.nodes]; rfl
theorem drop_gK {l : List T} {i : Nat} (h : i < l.length) : l.drop i = gK l i :: l.drop (i + 1) := by rw [List.drop_eq_getElem_cons h, gK_get h]
theorem nodes_le (t : T) : ∀ a : Int, a ≤ (t.nodes a).2 ∧ (t.nodes a).2 ≤ a + t.size ∧ (((t.nodes a).1.1 = 0) → (t.nodes a).1 = (0, 0)) := by
  induction t using T.ind with
  | h t ih =>
    intro a
    rw [T.nodes_eq, T.size_eq]
    split
    · exact ⟨by simp, by simp; omega, by simp⟩
    · split
      · exact ⟨by simp, by simp; omega, by simp⟩
      · have key : ∀ (l : List T), (∀ i, i < l.length → ∀ a : Int, a ≤ ((gK l i).nodes a).2 ∧ ((gK l i).nodes a).2 ≤ a + (gK l i).size ∧ (((gK l i).nodes a).1.1 = 0 → ((gK l i).nodes a).1 = (0, 0))) → ∀ a : Int, a ≤ (nodesL l a).2 ∧ (nodesL l a).2 ≤ a + sizeL l ∧ ((nodesL l a).1.1 = 0 → (nodesL l a).1 = (0, 0)) := by
          intro l
          induction l with
          | nil => intro _ a; simp [nodesL, sizeL]
          | cons x r ihr =>
            intro h a
            have h0 := h 0 (by simp) a
            have e : gK (x :: r) 0 = x := by simp [gK]
            rw [e] at h0
            have hr := ihr (fun i hi => by have := h (i + 1) (by simpa using hi); simpa [gK] using this)
            simp only [nodesL, sizeL]
            split
            · exact ⟨h0.1, by omega, h0.2.2⟩
            · have := hr (x.nodes a).2
              exact ⟨by omega, by omega, this.2.2⟩
        have := key t.kids ih (a + 1)
        exact ⟨by omega, by omega, this.2.2⟩

/-- a function's end whose first result lies in a block of two cells, its second in a slot -/
theorem ret_box2s {P : Program} {fn : Func} {R : Ending → World → Prop} {a : Act} {w : World} (p q : Value) (x : Value) (c : Nat) (T' : TypeId)
    (hc : w.heap[c]? = some (.cells #[p, q] T' (0, 0)))
    (hres : ∀ w' : World, w'.cell? ⟨c, 0, none⟩ = some p → w'.cell? ⟨c, 1, none⟩ = some q → (results fn a.tmps).run P w' = .ok (.tuple #[.agg #[p, q], x]) w') (hd : a.defers = [])
    (hR : R (.returned (.tuple #[.agg #[p, q], x])) w) : bodyPost P fn R .ret a w :=
  bodyPost_ret (hres w (box2 hc).1.1 (box2 hc).2.1) hd hR

set_option maxRecDepth 100000 in
set_option maxHeartbeats 4000000 in
theorem nodes44 (t : T) : ∀ (a : Int) (v : Value) (w : World), 0 ≤ a → a + t.size ≤ 1000000000 → TreeAt w v t →
    Calls Try.prog 92 #[v, .int .i64 a] w fun e w' => e = .returned (.tuple #[.agg #[.int .i64 (t.nodes a).1.1, .int .i64 (t.nodes a).1.2], .int .i64 (t.nodes a).2]) ∧ Below w.heap.size w w' := by
  induction t using T.ind with
  | h t ih =>
  intro a v w ha0 ha ht
  obtain ⟨ao, sp, rfl, hr, hml⟩ := ht.open
  have hml : t.kids.length ≤ 9223372036854775807 := hml
  have HR := Lib.hid hr; have IH := Lib.hid ih
  have HE := Lib.hid (T.nodes_eq t a)
  have HSZ := Lib.hid (show a + 1 + sizeL t.kids ≤ 1000000000 by rw [T.size_eq] at ha; omega)
  have ha1 : a ≤ 1000000000 := by omega
  clear ht hr ih ha
  have hbx := heap_alloc_old (o' := .cells #[.int .i64 0, .int .i64 0] 32) (heap_ofAlloc w (.cells #[.int .i64 t.head, .slice ao t.kids.length (t.kids.length + sp)] 44))
  have hby := heap_ofAlloc (w.alloc (.cells #[.int .i64 t.head, .slice ao t.kids.length (t.kids.length + sp)] 44)) (.cells #[.int .i64 0, .int .i64 0] 32)
  rw [World.size_alloc] at hby
  have hb0 := ((Below.refl w.heap.size w).alloc (Nat.le_refl _) (.cells #[.int .i64 t.head, .slice ao t.kids.length (t.kids.length + sp)] 44)).alloc (by simp) (.cells #[.int .i64 0, .int .i64 0] 32)
  by_cases hbh : badHead t.head
  · have HF := Lib.hid (show t.nodes a = ((3, a), a) by rw [HE.out, if_pos hbh])
    clear HE
    by_cases h0 : t.head = 0
    · have e1 : (t.head == 0) = true := by simp [h0]
      clear h0 hbh
      go_enter Try.func92, Try.ntmps92
      go_wp2_with fail
      refine (fault42 3 a _).mono ?_
      rintro e w2 ⟨rfl, hb2⟩
      have hy2 := Below.heapAt hb2 hby
      have hyl := heap_lt hy2
      have hbw := Below.step hb0 hb2
      obtain ⟨⟨y0, y1⟩, y2, y3⟩ := box2 hy2
      clear hbx hby hb0 hb2
      go_wp2_with fail
      refine ret_box2s (.int .i64 3) (.int .i64 a) (.int .i64 a) (w.heap.size + 1) 32 (box2_set hy2 _ _) (fun w' q0 q1 => by simp [results, Try.results92, go_sem, q0, q1]) rfl ?_
      exact ⟨by rw [HF.out], (hbw.setCell (p := ⟨w.heap.size + 1, 0, none⟩) (by simp) _).setCell (p := ⟨w.heap.size + 1, 1, none⟩) (by simp) _⟩
    · have e1 : (t.head == 0) = false := by simp [h0]
      by_cases h8 : t.head < -8
      · clear hbh h0
        go_enter Try.func92, Try.ntmps92
        go_wp2_with fail
        refine (fault42 3 a _).mono ?_
        rintro e w2 ⟨rfl, hb2⟩
        have hy2 := Below.heapAt hb2 hby
        have hyl := heap_lt hy2
        have hbw := Below.step hb0 hb2
        obtain ⟨⟨y0, y1⟩, y2, y3⟩ := box2 hy2
        clear hbx hby hb0 hb2
        go_wp2_with fail
        refine ret_box2s (.int .i64 3) (.int .i64 a) (.int .i64 a) (w.heap.size + 1) 32 (box2_set hy2 _ _) (fun w' q0 q1 => by simp [results, Try.results92, go_sem, q0, q1]) rfl ?_
        exact ⟨by rw [HF.out], (hbw.setCell (p := ⟨w.heap.size + 1, 0, none⟩) (by simp) _).setCell (p := ⟨w.heap.size + 1, 1, none⟩) (by simp) _⟩
      · have h12 : 12 < t.head := by simp only [badHead] at hbh; omega
        clear hbh h0
        go_enter Try.func92, Try.ntmps92
        go_wp2_with fail
        refine (fault42 3 a _).mono ?_
        rintro e w2 ⟨rfl, hb2⟩
        have hy2 := Below.heapAt hb2 hby
        have hyl := heap_lt hy2
        have hbw := Below.step hb0 hb2
        obtain ⟨⟨y0, y1⟩, y2, y3⟩ := box2 hy2
        clear hbx hby hb0 hb2
        go_wp2_with fail
        refine ret_box2s (.int .i64 3) (.int .i64 a) (.int .i64 a) (w.heap.size + 1) 32 (box2_set hy2 _ _) (fun w' q0 q1 => by simp [results, Try.results92, go_sem, q0, q1]) rfl ?_
        exact ⟨by rw [HF.out], (hbw.setCell (p := ⟨w.heap.size + 1, 0, none⟩) (by simp) _).setCell (p := ⟨w.heap.size + 1, 1, none⟩) (by simp) _⟩
  · by_cases hbk : badKids t.head t.kids.length
    · have HF := Lib.hid (show t.nodes a = ((9, a), a) by rw [HE.out, if_neg hbh, if_pos hbk])
      clear HE
      simp only [badHead, not_or] at hbh
      obtain ⟨g1, g2, g3⟩ := hbh
      have e1 : (t.head == 0) = false := by simp [g1]
      clear g1
      by_cases h3 : (3 : Int) < t.kids.length
      · clear hbk
        go_enter Try.func92, Try.ntmps92
        go_wp2_with fail
        refine (fault42 9 a _).mono ?_
        rintro e w2 ⟨rfl, hb2⟩
        have hy2 := Below.heapAt hb2 hby
        have hyl := heap_lt hy2
        have hbw := Below.step hb0 hb2
        obtain ⟨⟨y0, y1⟩, y2, y3⟩ := box2 hy2
        clear hbx hby hb0 hb2
        go_wp2_with fail
        refine ret_box2s (.int .i64 9) (.int .i64 a) (.int .i64 a) (w.heap.size + 1) 32 (box2_set hy2 _ _) (fun w' q0 q1 => by simp [results, Try.results92, go_sem, q0, q1]) rfl ?_
        exact ⟨by rw [HF.out], (hbw.setCell (p := ⟨w.heap.size + 1, 0, none⟩) (by simp) _).setCell (p := ⟨w.heap.size + 1, 1, none⟩) (by simp) _⟩
      · have h4 : t.head < 0 ∧ (0 : Int) < t.kids.length := by simp only [badKids] at hbk; omega
        obtain ⟨h4, h5⟩ := h4
        clear hbk
        go_enter Try.func92, Try.ntmps92
        go_wp2_with fail
        refine (fault42 9 a _).mono ?_
        rintro e w2 ⟨rfl, hb2⟩
        have hy2 := Below.heapAt hb2 hby
        have hyl := heap_lt hy2
        have hbw := Below.step hb0 hb2
        obtain ⟨⟨y0, y1⟩, y2, y3⟩ := box2 hy2
        clear hbx hby hb0 hb2
        go_wp2_with fail
        refine ret_box2s (.int .i64 9) (.int .i64 a) (.int .i64 a) (w.heap.size + 1) 32 (box2_set hy2 _ _) (fun w' q0 q1 => by simp [results, Try.results92, go_sem, q0, q1]) rfl ?_
        exact ⟨by rw [HF.out], (hbw.setCell (p := ⟨w.heap.size + 1, 0, none⟩) (by simp) _).setCell (p := ⟨w.heap.size + 1, 1, none⟩) (by simp) _⟩
    · have HE2 := Lib.hid (show t.nodes a = nodesL t.kids (a + 1) by rw [HE.out, if_neg hbh, if_neg hbk])
      simp only [badHead, badKids, not_or, not_and] at hbh hbk
      obtain ⟨g1, g2, g3⟩ := hbh
      obtain ⟨g4, g5⟩ := hbk
      have e1 : (t.head == 0) = false := by simp [g1]
      clear HE g1
      by_cases hneg : t.head < 0
      · have g6 : ¬ (0 : Int) < t.kids.length := by have := g5 hneg; omega
        clear g5
        go_enter Try.func92, Try.ntmps92
        go_wp2_with fail
        generalize (w.alloc (.cells #[.int .i64 t.head, .slice ao t.kids.length (t.kids.length + sp)] 44)).alloc (.cells #[.int .i64 0, .int .i64 0] 32) = w0 at hbx hby hb0 ⊢
        have XB := Lib.hid hbx; have YB := Lib.hid hby; have HB0 := Lib.hid hb0
        obtain ⟨by_, hby_⟩ : ∃ b, b = w.heap.size + 1 := ⟨_, rfl⟩
        rw [← hby_] at YB ⊢
        have HY := Lib.hid hby_
        clear hbx hby hby_ hb0
        go_loopw [1, 6, 7, 8] (fun at_ i _ _ wr => ∃ (k : Nat) (A : Int), k ≤ t.kids.length ∧ at_ = .int .i64 A ∧ i = .int .i64 k ∧ nodesL (t.kids.drop k) A = nodesL t.kids (a + 1) ∧ a + 1 ≤ A ∧ A ≤ a + 1 + sizeL (t.kids.take k) ∧ Below w0.heap.size w0 wr) (fun _ i _ _ _ => t.kids.length - (intOf i).toNat)
        case atStart => exact ⟨0, a + 1, by omega, by go_num, rfl, by simp, by omega, by simp [sizeL], Below.refl _ _⟩
        case round =>
          obtain ⟨k, A, hk, rfl, rfl, hnd, hA1, hA2, hb⟩ := hrel
          have HND := Lib.hid hnd
          have hle := sizeL_take_le t.kids k
          have hA3 : A ≤ 1000000000 := by have := HSZ.out; omega
          have HA2 := Lib.hid hA2
          obtain ⟨⟨x0, _⟩, x1, _⟩ := box2 (Below.heapAt hb XB.out)
          have hyb := Below.heapAt hb YB.out
          clear x0 hnd hle hA2
          by_cases hlt : k < t.kids.length
          · exact absurd hlt (by omega)
          · obtain rfl : k = t.kids.length := by omega
            have hyl := heap_lt hyb
            obtain ⟨⟨y0, y1⟩, y2, y3⟩ := box2 hyb
            have hbw := Below.step HB0.out hb
            have hly : w.heap.size ≤ by_ := by have := HY.out; omega
            go_wp2_with fail
            refine ret_box2s (.int .i64 0) (.int .i64 0) (.int .i64 A) by_ 32 (box2_set hyb _ _) (fun w' q0 q1 => by simp [results, Try.results92, go_sem, q0, q1]) rfl ?_
            exact ⟨by have h := HND.out; rw [List.drop_length, nodesL] at h; rw [HE2.out, ← h], (hbw.setCell (p := ⟨by_, 0, none⟩) hly _).setCell (p := ⟨by_, 1, none⟩) hly _⟩
      · clear g5
        go_enter Try.func92, Try.ntmps92
        go_wp2_with fail
        generalize (w.alloc (.cells #[.int .i64 t.head, .slice ao t.kids.length (t.kids.length + sp)] 44)).alloc (.cells #[.int .i64 0, .int .i64 0] 32) = w0 at hbx hby hb0 ⊢
        have XB := Lib.hid hbx; have YB := Lib.hid hby; have HB0 := Lib.hid hb0
        obtain ⟨by_, hby_⟩ : ∃ b, b = w.heap.size + 1 := ⟨_, rfl⟩
        rw [← hby_] at YB ⊢
        have HY := Lib.hid hby_
        clear hbx hby hby_ hb0
        go_loopw [1, 6, 7, 8] (fun at_ i _ _ wr => ∃ (k : Nat) (A : Int), k ≤ t.kids.length ∧ at_ = .int .i64 A ∧ i = .int .i64 k ∧ nodesL (t.kids.drop k) A = nodesL t.kids (a + 1) ∧ a + 1 ≤ A ∧ A ≤ a + 1 + sizeL (t.kids.take k) ∧ Below w0.heap.size w0 wr) (fun _ i _ _ _ => t.kids.length - (intOf i).toNat)
        case atStart => exact ⟨0, a + 1, by omega, by go_num, rfl, by simp, by omega, by simp [sizeL], Below.refl _ _⟩
        case round =>
          obtain ⟨k, A, hk, rfl, rfl, hnd, hA1, hA2, hb⟩ := hrel
          have HND := Lib.hid hnd
          have hle := sizeL_take_le t.kids k
          have hA3 : A ≤ 1000000000 := by have := HSZ.out; omega
          have HA2 := Lib.hid hA2
          obtain ⟨⟨x0, _⟩, x1, _⟩ := box2 (Below.heapAt hb XB.out)
          have hyb := Below.heapAt hb YB.out
          clear x0 hnd hle hA2
          by_cases hlt : k < t.kids.length
          · obtain ⟨b, off, ko, ksp, rfl, c1, c2, c3⟩ := (HR.out.below (Below.step HB0.out hb)) k hlt
            have HST := Lib.hid (sizeL_take hlt)
            have hs1 := sizeL_take_le t.kids (k + 1)
            have hs2 : A + (gK t.kids k).size ≤ 1000000000 := by have := HSZ.out; have h := HST.out; have h2 := HA2.out; omega
            have HC := Lib.hid c3
            have HNL := Lib.hid (nodes_le (gK t.kids k) A)
            have HND2 := Lib.hid (show nodesL (t.kids.drop k) A = if ((gK t.kids k).nodes A).1.1 ≠ 0 then (gK t.kids k).nodes A else nodesL (t.kids.drop (k + 1)) ((gK t.kids k).nodes A).2 by rw [drop_gK hlt, nodesL])
            clear c3 hs1
            go_wp2_with fail
            refine (IH.out k hlt A _ _ (by omega) hs2 HC.out).mono ?_
            rintro e w2 ⟨rfl, hb2⟩
            have hy2 := Below.heapAt hb2 hyb
            have hb3 := Below.step hb hb2
            clear hb2 hyb hs2
            generalize (gK t.kids k).nodes A = R at HNL HND2 ⊢
            obtain ⟨⟨rc, ra⟩, rn⟩ := R
            have hrn := HNL.out.2.1
            have hs3 : rn ≤ 1000000000 := by have h2 := HA2.out; have h3 := HST.out; have h4 := sizeL_take_le t.kids (k + 1); have := HSZ.out; simp only at hrn; omega
            clear hrn
            by_cases hc : rc = 0
            · have hcb : (rc != 0) = false := by simp [hc]
              have HCC := Lib.hid hc
              clear hc
              go_wp2_with fail
              go_roundw
              case rel =>
                have h1 := HND2.out
                have h2 := HNL.out
                have h3 := HST.out
                have h4 := HA2.out
                simp only [ne_eq] at h1 h2
                refine ⟨k + 1, rn, by omega, rfl, by go_num, ?_, by omega, by omega, hb3.alloc hb3.size _⟩
                rw [← HND.out, h1, if_neg (by simp [HCC.out])]
              case measure => simp [intOf] <;> omega
            · have hcb : (rc != 0) = true := by simp [hc]
              have HCC := Lib.hid hc
              clear hc
              have hyl := heap_lt hy2
              obtain ⟨⟨y0, y1⟩, y2, y3⟩ := box2 hy2
              have hbw := Below.step HB0.out hb3
              have hly : w.heap.size ≤ by_ := by have := HY.out; omega
              have hsz2 := hbw.size
              go_wp2_with fail
              refine ret_box2s (.int .i64 rc) (.int .i64 ra) (.int .i64 rn) by_ 32 (heap_alloc_old (box2_set hy2 _ _)) (fun w' q0 q1 => by simp [results, Try.results92, go_sem, q0, q1]) rfl ?_
              exact ⟨by rw [HE2.out, ← HND.out, HND2.out, if_pos (by simpa using HCC.out)], ((hbw.setCell (p := ⟨by_, 0, none⟩) hly _).setCell (p := ⟨by_, 1, none⟩) hly _).alloc (by simp; omega) _⟩
          · obtain rfl : k = t.kids.length := by omega
            have hyl := heap_lt hyb
            obtain ⟨⟨y0, y1⟩, y2, y3⟩ := box2 hyb
            have hbw := Below.step HB0.out hb
            have hly : w.heap.size ≤ by_ := by have := HY.out; omega
            go_wp2_with fail
            refine ret_box2s (.int .i64 0) (.int .i64 0) (.int .i64 A) by_ 32 (box2_set hyb _ _) (fun w' q0 q1 => by simp [results, Try.results92, go_sem, q0, q1]) rfl ?_
            exact ⟨by have h := HND.out; rw [List.drop_length, nodesL] at h; rw [HE2.out, ← h], (hbw.setCell (p := ⟨by_, 0, none⟩) hly _).setCell (p := ⟨by_, 1, none⟩) hly _⟩
end Go.Proofs.Yteekoclfpehnpaa
