/-
  Walks: tree.Bind, tree.Do.
  Walks: tree.Do.
  Walks: tree.Max.
  Walks: tree.Vars.
  A row of trees that the call itself has made (make(api.Bind, n)), written place by place.
  A row of trees that is written place by place, as a fact of a walk's state; facts ahead of an unknown list.
-/
import Derived.Test.YtlhnfdjidjgfgaaProg
import Derived.Test.YtlhnfdjidjgfgaaBase
import Derived.Test.YtlhnfdjidjgfgaaXa
import Derived.Test.YtlhnfdjidjgfgaaXd
import Derived.Laws.OwnMore
import Derived.Test.YtlhnfdjidjgfgaaXb
namespace Go.Proofs.Ytlhnfdjidjgfgaa
open Go.RowKit Go.Shelf
set_option linter.unusedVariables false
set_option maxHeartbeats 400000

set_option maxRecDepth 100000 in
set_option maxHeartbeats 4000000 in
theorem bind17 (bs : List T) (ao : Option Addr) (n c : Nat) (w : World) (hn : n = bs.length) (hb : RowAt w ao bs) :
    Calls Try.prog 88 #[.slice ao n c] w fun e w' => e = .returned (FV (bindF bs)) ∧ Below w.heap.size w w' := by
  subst hn
  have HB := Lib.hid hb; clear hb
  have hbx := heap_ofAlloc w (.cells #[.int .i64 0, .int .i64 0] 29)
  have hb0 := (Below.refl w.heap.size w).alloc (Nat.le_refl _) (.cells #[.int .i64 0, .int .i64 0] 29)
  have hxl := heap_lt hbx
  by_cases h8 : (8 : Int) < bs.length
  · have HF := Lib.hid (show bindF bs = (2, -1) by rw [bindF, if_pos (by omega)])
    obtain ⟨⟨y0, y1⟩, y2, y3⟩ := box2 hbx
    go_enter Try.func88, Try.ntmps88
    go_wp2_with fail
    refine ret_box2 (.int .i64 2) (.int .i64 (-1)) w.heap.size 29 (heap_ofAlloc w _) (fun w' q0 q1 => by simp [results, Try.results88, go_sem, q0, q1]) rfl ?_
    exact ⟨by rw [HF.out]; rfl, (Below.refl _ _).alloc (Nat.le_refl _) _⟩
  · have HF := Lib.hid (show bindF bs = bindL bs 0 by rw [bindF, if_neg (by omega)])
    go_enter Try.func88, Try.ntmps88
    go_wp2_with fail
    generalize w.alloc (.cells #[.int .i64 0, .int .i64 0] 29) = w0 at hbx hb0 hxl ⊢
    have XB := Lib.hid hbx; have HB0 := Lib.hid hb0
    clear hbx hb0
    obtain ⟨bx, hbx⟩ : ∃ bx, bx = w.heap.size := ⟨_, rfl⟩
    rw [← hbx] at XB hxl ⊢
    have HBX := Lib.hid hbx
    clear hbx
    go_loopw [3, 4, 5, 12] (fun _ _ _ i wr => ∃ k : Nat, k ≤ bs.length ∧ i = .int .i64 k ∧ bindL (bs.drop k) k = bindL bs 0 ∧ Below w0.heap.size w0 wr) (fun _ _ _ i _ => bs.length - (intOf i).toNat)
    case atStart => exact ⟨0, by omega, rfl, by simp, Below.refl _ _⟩
    case round =>
      obtain ⟨k, hk, rfl, hbl, hb⟩ := hrel
      have HBL := Lib.hid hbl; clear hbl
      have hx := Below.heapAt hb XB.out
      have hbw := Below.step HB0.out hb
      have hly : w.heap.size ≤ bx := by have := HBX.out; omega
      by_cases hlt : k < bs.length
      · obtain ⟨b, off, ko, ksp, rfl, c1, c2, c3⟩ := (HB.out.below hbw) k hlt
        have HC := Lib.hid c3
        have HD := Lib.hid (show bindL (bs.drop k) k = if (gK bs k).head = 0 then (if 0 < (gK bs k).kids.length then (5, -1 - (k : Int)) else bindL (bs.drop (k + 1)) (k + 1)) else if (treeF (gK bs k)).1 ≠ 0 then ((treeF (gK bs k)).1, -1 - (k : Int)) else bindL (bs.drop (k + 1)) (k + 1) by rw [drop_gK hlt, bindL])
        clear c3
        generalize gK bs k = x at c1 c2 HC HD ⊢
        have hbk := (Below.refl wr.heap.size wr).alloc (Nat.le_refl _) (.cells #[.int .i64 x.head, .slice ko x.kids.length (x.kids.length + ksp)] 38)
        have hbb := heap_ofAlloc wr (.cells #[.int .i64 x.head, .slice ko x.kids.length (x.kids.length + ksp)] 38)
        have hbl := heap_lt hx
        cases h0 : (x.head == 0) with
        | true =>
          have HH := Lib.hid (eq_of_beq h0)
          by_cases hkl : (0 : Int) < x.kids.length
          · have HK := Lib.hid hkl
            obtain ⟨⟨y0, y1⟩, y2, y3⟩ := box2 hx
            go_wp2_with fail
            refine ret_box2 (.int .i64 5) (.int .i64 (-1 - (k : Int))) bx 29 (heap_alloc_old (box2_set hx _ _)) (fun w' q0 q1 => by simp [results, Try.results88, go_sem, q0, q1]) rfl ?_
            exact ⟨by rw [HF.out, ← HBL.out, HD.out, if_pos HH.out, if_pos (by have := HK.out; omega)]; rfl, ((hbw.setCell (p := ⟨bx, 0, none⟩) hly _).setCell (p := ⟨bx, 1, none⟩) hly _).alloc (by simp; have := hbw.size; omega) _⟩
          · have HK := Lib.hid hkl
            go_wp2_with fail
            go_roundw
            case rel => exact ⟨k + 1, by omega, by go_num, by rw [← HBL.out, HD.out, if_pos HH.out, if_neg (by have := HK.out; omega)]; rfl, Below.step hb hbk⟩
            case measure => simp [intOf] <;> omega
        | false =>
          have HH := Lib.hid (show x.head ≠ 0 by simpa using h0)
          go_wp2_with fail
          refine (check29 x _ _ (HC.out.kept hbk)).mono ?_
          rintro e w1 ⟨rfl, hb1⟩
          have hx1 := Below.heapAt (Below.step hbk hb1) hx
          have hbw1 := Below.step hbw (Below.step hbk hb1)
          have hb01 := Below.step hb (Below.step hbk hb1)
          clear hb1 hx hbk hbb
          generalize treeF x = R at HD ⊢
          obtain ⟨rc, ra⟩ := R
          simp only [FV]
          cases hc : (rc != 0) with
          | false =>
            have HCC := Lib.hid (show rc = 0 by simpa using hc)
            go_wp2_with fail
            go_roundw
            case rel => exact ⟨k + 1, by omega, by go_num, by rw [← HBL.out, HD.out, if_neg HH.out, if_neg (by simp [HCC.out])]; rfl, hb01.alloc hb01.size _⟩
            case measure => simp [intOf] <;> omega
          | true =>
            have HCC := Lib.hid (show rc ≠ 0 by simpa using hc)
            obtain ⟨⟨y0, y1⟩, y2, y3⟩ := box2 hx1
            have hxl2 := heap_lt hx1
            go_wp2_with fail
            refine ret_box2 (.int .i64 rc) (.int .i64 (-1 - (k : Int))) bx 29 (heap_alloc_old (box2_set hx1 _ _)) (fun w' q0 q1 => by simp [results, Try.results88, go_sem, q0, q1]) rfl ?_
            exact ⟨by rw [HF.out, ← HBL.out, HD.out, if_neg HH.out, if_pos (by simpa using HCC.out)]; rfl, ((hbw1.setCell (p := ⟨bx, 0, none⟩) hly _).setCell (p := ⟨bx, 1, none⟩) hly _).alloc (by simp; have := hbw1.size; omega) _⟩
      · obtain rfl : k = bs.length := by omega
        have hxl := heap_lt hx
        obtain ⟨⟨y0, y1⟩, y2, y3⟩ := box2 hx
        go_wp2_with fail
        refine ret_box2 (.int .i64 0) (.int .i64 0) bx 29 (box2_set hx _ _) (fun w' q0 q1 => by simp [results, Try.results88, go_sem, q0, q1]) rfl ?_
        exact ⟨by have h := HBL.out; rw [List.drop_length, bindL] at h; rw [HF.out, ← h]; rfl, (hbw.setCell (p := ⟨bx, 0, none⟩) hly _).setCell (p := ⟨bx, 1, none⟩) hly _⟩
end Go.Proofs.Ytlhnfdjidjgfgaa
namespace Go.Proofs.Ytlhnfdjidjgfgaa
open Go.RowKit Go.Shelf
set_option linter.unusedVariables false
set_option maxHeartbeats 400000


/-- tree.Do, plain -/
def zeroT : T := .node 0 []
def doF (t : T) (bs : List T) : T × (Int × Int) := if (treeF t).1 ≠ 0 then (zeroT, treeF t) else if (bindF bs).1 ≠ 0 then (zeroT, bindF bs) else if (treeF (t.sub bs)).1 ≠ 0 then (zeroT, (10, 0)) else (t.sub bs, (0, 0))

theorem low_of_pre (t : T) (h : ∀ x ∈ t.pre, okN x) : t.low := low_of_nodes t 0 (by rw [(nodes_scan t 0).1, scan_ok h])
theorem RowAt.foot {w : World} {ao : Option Addr} {ks : List T} (h : RowAt w ao ks) : RowP (fun b => b < w.heap.size) w ao ks := fun i hi => by
  obtain ⟨b, off, k, sp, e, h1, h2, h3⟩ := h i hi
  exact ⟨b, off, k, sp, e, block_lt_of_cell h1, h1, h2, h3.foot⟩
theorem bindL_ok : ∀ (bs : List T) (k : Int), (bindL bs k).1 = 0 → ∀ i, i < bs.length → (gK bs i).head = 0 ∧ (gK bs i).kids = [] ∨ (gK bs i).head ≠ 0 ∧ (treeF (gK bs i)).1 = 0
  | [], _, _, i, hi => by simp at hi
  | t :: r, k, h, i, hi => by
    rw [bindL] at h
    by_cases h0 : t.head = 0
    · rw [if_pos h0] at h
      by_cases hk : 0 < t.kids.length
      · rw [if_pos hk] at h; simp at h
      · rw [if_neg hk] at h
        cases i with
        | zero => exact .inl ⟨by simpa [gK] using h0, by simpa [gK] using List.eq_nil_of_length_eq_zero (by omega)⟩
        | succ i => have := bindL_ok r (k + 1) h i (by simpa using hi); simpa only [gK, List.getD_cons_succ] using this
    · rw [if_neg h0] at h
      by_cases hk : (treeF t).1 ≠ 0
      · rw [if_pos hk] at h; exact absurd h hk
      · rw [if_neg hk] at h
        cases i with
        | zero => exact .inr ⟨by simpa [gK] using h0, by simpa [gK] using hk⟩
        | succ i => have := bindL_ok r (k + 1) h i (by simpa using hi); simpa only [gK, List.getD_cons_succ] using this
theorem bindF_ok {bs : List T} (h : (bindF bs).1 = 0) : bs.length ≤ 8 ∧ ∀ i, i < bs.length → (gK bs i).head = 0 ∧ (gK bs i).kids = [] ∨ (gK bs i).head ≠ 0 ∧ (treeF (gK bs i)).1 = 0 := by
  rw [bindF] at h
  by_cases h8 : 8 < bs.length
  · rw [if_pos h8] at h; simp at h
  · rw [if_neg h8] at h; exact ⟨by omega, bindL_ok bs 0 h⟩
theorem bind_size {bs : List T} (h : (bindF bs).1 = 0) : ∀ i, i < bs.length → (gK bs i).size ≤ 40 := fun i hi => by
  rcases (bindF_ok h).2 i hi with ⟨_, h2⟩ | ⟨_, h2⟩
  · rw [T.size_eq, h2]; simp [sizeL]
  · exact (treeF_ok.1 h2).1

theorem ret_box22 {P : Program} {fn : Func} {R : Ending → World → Prop} {a : Act} {w : World} (x y p q : Value) (b c : Nat) (T T' : TypeId) (hb : w.heap[b]? = some (.cells #[x, y] T (0, 0))) (hc : w.heap[c]? = some (.cells #[p, q] T' (0, 0)))
    (hres : ∀ w' : World, w'.cell? ⟨b, 0, none⟩ = some x → w'.cell? ⟨b, 1, none⟩ = some y → w'.cell? ⟨c, 0, none⟩ = some p → w'.cell? ⟨c, 1, none⟩ = some q → (results fn a.tmps).run P w' = .ok (.tuple #[.agg #[x, y], .agg #[p, q]]) w') (hd : a.defers = [])
    (hR : R (.returned (.tuple #[.agg #[x, y], .agg #[p, q]])) w) : bodyPost P fn R .ret a w := bodyPost_ret (hres w (box2 hb).1.1 (box2 hb).2.1 (box2 hc).1.1 (box2 hc).2.1) hd hR

theorem two22 {w : World} {b c : Nat} {x0 y0 p0 q0 : Value} {T T' : TypeId} (hb : w.heap[b]? = some (.cells #[x0, y0] T (0, 0))) (hc : w.heap[c]? = some (.cells #[p0, q0] T' (0, 0))) (hne : b < c) (x y p q : Value) :
    ((((w.setCell ⟨b, 0, none⟩ x).setCell ⟨b, 1, none⟩ y).setCell ⟨c, 0, none⟩ p).setCell ⟨c, 1, none⟩ q).heap[b]? = some (.cells #[x, y] T (0, 0)) ∧
    ((((w.setCell ⟨b, 0, none⟩ x).setCell ⟨b, 1, none⟩ y).setCell ⟨c, 0, none⟩ p).setCell ⟨c, 1, none⟩ q).heap[c]? = some (.cells #[p, q] T' (0, 0)) :=
  ⟨heap_set_other (heap_set_other (box2_set hb x y) (by simp; omega)) (by simp; omega), box2_set (heap_set_other (heap_set_other hc (by simp; omega)) (by simp; omega)) p q⟩
theorem below22 {w0 w : World} {B b c : Nat} (h : Below B w0 w) (hb : B ≤ b) (hc : B ≤ c) (x y p q : Value) :
    Below B w0 ((((w.setCell ⟨b, 0, none⟩ x).setCell ⟨b, 1, none⟩ y).setCell ⟨c, 0, none⟩ p).setCell ⟨c, 1, none⟩ q) :=
  (((h.setCell (p := ⟨b, 0, none⟩) hb x).setCell (p := ⟨b, 1, none⟩) hb y).setCell (p := ⟨c, 0, none⟩) hc p).setCell (p := ⟨c, 1, none⟩) hc q
theorem field28_0 (c a : Int) (w : World) : (Instr.field 29 (.agg #[.int .i64 c, .int .i64 a]) 0).run Try.prog w = .ok (.int .i64 c) w := by kernel_rfl
def DoPost (r : T × (Int × Int)) (w : World) (e : Ending) (w' : World) : Prop := ∃ u, e = .returned (.tuple #[u, FV r.2]) ∧ TreeAt w' u r.1 ∧ Below w.heap.size w w'
theorem TreeAt.zero (w : World) : TreeAt w (.agg #[.int .i64 0, .slice none 0 0]) zeroT := (TreeP.leaf (fun _ => True) w 0).at

def DoPostP (p0 : Nat → Prop) (r : T × (Int × Int)) (w : World) (e : Ending) (w' : World) : Prop := ∃ u, e = .returned (.tuple #[u, FV r.2]) ∧ TreeP (fun b => p0 b ∨ w.heap.size ≤ b) w' u r.1 ∧ Below w.heap.size w w'
theorem TreeP.zero (p : Nat → Prop) (w : World) : TreeP p w (.agg #[.int .i64 0, .slice none 0 0]) zeroT := TreeP.leaf p w 0
theorem RowP.at {p : Nat → Prop} {w : World} {ao : Option Addr} {ks : List T} (h : RowP p w ao ks) : RowAt w ao ks := fun i hi => by
  obtain ⟨b, off, k, sp, e, _, h1, h2, h3⟩ := h i hi
  exact ⟨b, off, k, sp, e, h1, h2, h3.at⟩

set_option maxRecDepth 100000 in
set_option maxHeartbeats 4000000 in
theorem do21P (p0 : Nat → Prop) (t : T) (bs : List T) (v : Value) (bo : Option Addr) (bc : Nat) (w : World) (hp0 : ∀ b, p0 b → b < w.heap.size) (htp : TreeP p0 w v t) (hbp : RowP p0 w bo bs) :
    Calls Try.prog 37 #[v, .slice bo bs.length bc] w (DoPostP p0 (doF t bs) w) := by
  obtain ⟨k, sp, rfl⟩ := htp.at.form
  have HT := Lib.hid htp.at; have HB := Lib.hid hbp.at
  have HTP := Lib.hid htp; have HBP := Lib.hid hbp; have HP0 := Lib.hid hp0
  clear htp hbp hp0
  obtain ⟨W0, hW0⟩ : ∃ W0, W0 = ((w.alloc (.cells #[.int .i64 t.head, .slice k t.kids.length (t.kids.length + sp)] 38)).alloc (.cells #[.int .i64 0, .slice none 0 0] 38)).alloc (.cells #[.int .i64 0, .int .i64 0] 29) := ⟨_, rfl⟩
  have hA : W0.heap[w.heap.size]? = some (.cells #[.int .i64 t.head, .slice k t.kids.length (t.kids.length + sp)] 38 (0, 0)) := by
    rw [hW0]; exact heap_alloc_old (heap_alloc_old (heap_ofAlloc _ _))
  have hB : W0.heap[w.heap.size + 1]? = some (.cells #[.int .i64 0, .slice none 0 0] 38 (0, 0)) := by
    rw [hW0]; exact heap_alloc_old (by have := heap_ofAlloc (w.alloc (.cells #[.int .i64 t.head, .slice k t.kids.length (t.kids.length + sp)] 38)) (.cells #[.int .i64 0, .slice none 0 0] 38); rwa [World.size_alloc] at this)
  have hC : W0.heap[w.heap.size + 1 + 1]? = some (.cells #[.int .i64 0, .int .i64 0] 29 (0, 0)) := by
    rw [hW0]; have := heap_ofAlloc ((w.alloc (.cells #[.int .i64 t.head, .slice k t.kids.length (t.kids.length + sp)] 38)).alloc (.cells #[.int .i64 0, .slice none 0 0] 38)) (.cells #[.int .i64 0, .int .i64 0] 29); simpa only [World.size_alloc] using this
  have hb0 : Below w.heap.size w W0 := by rw [hW0]; exact (((Below.refl w.heap.size w).alloc (Nat.le_refl _) _).alloc (by simp) _).alloc (by simp; omega) _
  have hs0 : W0.heap.size = w.heap.size + 3 := by rw [hW0]; simp
  have hfld := field28_0
  go_enter Try.func37, Try.ntmps37
  go_wp2_with fail
  rw [← hW0]
  clear hW0
  obtain ⟨b4, hb4⟩ : ∃ b, b = w.heap.size + 1 := ⟨_, rfl⟩
  obtain ⟨b5, hb5⟩ : ∃ b, b = w.heap.size + 1 + 1 := ⟨_, rfl⟩
  rw [← hb5] at hC ⊢; rw [← hb4] at hB ⊢
  have g4 : w.heap.size ≤ b4 := by omega
  have g5 : w.heap.size ≤ b5 := by omega
  have g45 : b4 < b5 := by omega
  have gs : b5 < W0.heap.size := by omega
  have gW : w.heap.size ≤ W0.heap.size := by omega
  clear hb4 hb5 hs0
  refine (check29 t _ _ (HT.out.kept hb0)).mono ?_
  rintro e w1 ⟨rfl, hb1⟩
  have hA1 := Below.heapAt hb1 hA; have hB1 := Below.heapAt hb1 hB; have hC1 := Below.heapAt hb1 hC
  have hb01 := Below.step hb0 hb1
  clear hA hB hC hb0 hb1
  obtain ⟨⟨rc, ra⟩, hR⟩ : ∃ r, treeF t = r := ⟨_, rfl⟩
  rw [hR]
  simp only [FV]
  have HR := Lib.hid hR
  clear hR
  cases hc : (rc != 0) with
  | true =>
    have HD := Lib.hid (show doF t bs = (zeroT, (rc, ra)) by rw [doF, if_pos (by rw [HR.out]; simpa using hc), HR.out])
    go_wp2_with fail
    have hB2 := heap_alloc_old (o' := .cells #[.int .i64 rc, .int .i64 ra] 29) hB1
    have hC2 := heap_alloc_old (o' := .cells #[.int .i64 rc, .int .i64 ra] 29) hC1
    have hF2 := heap_ofAlloc w1 (.cells #[.int .i64 rc, .int .i64 ra] 29)
    have hb02 := hb01.alloc hb01.size (.cells #[.int .i64 rc, .int .i64 ra] 29)
    generalize w1.alloc (.cells #[.int .i64 rc, .int .i64 ra] 29) = w2 at hB2 hC2 hF2 hb02 ⊢
    obtain ⟨⟨a0, a1⟩, a2, a3⟩ := box2 (w := w2.drew) hB2
    obtain ⟨⟨a4, a5⟩, a6, a7⟩ := box2 hB2
    obtain ⟨⟨f4, f5⟩, f6, f7⟩ := box2 hF2
    have hn1 : ¬ w1.heap.size = b4 := by have := heap_lt hB1; omega
    have hn2 : ¬ b4 = w1.heap.size := by have := heap_lt hB1; omega
    have hn3 : ¬ b4 = b5 := by omega
    have hn4 : ¬ b5 = b4 := by omega
    obtain ⟨⟨c4, c5⟩, c6, c7⟩ := box2 hC2
    obtain ⟨⟨c0, c1⟩, c2, c3⟩ := box2 (w := w2.drew) hC2
    obtain ⟨⟨f0, f1⟩, f2, f3⟩ := box2 (w := w2.drew) hF2
    have HB2 := Lib.hid hB2; have HC2 := Lib.hid hC2
    clear hB2 hC2 hF2 hA1 hB1 hC1
    go_region
    all_goals
      go_wp2_with fail
      obtain ⟨q4, q5⟩ := two22 HB2.out HC2.out g45 (.int .i64 0) (.slice none 0 0) (.int .i64 rc) (.int .i64 ra)
      refine ret_box22 (.int .i64 0) (.slice none 0 0) (.int .i64 rc) (.int .i64 ra) b4 b5 38 29 (hb := q4) (hc := q5) (fun w' z0 z1 z2 z3 => by simp [results, Try.results37, go_sem, z0, z1, z2, z3]) rfl ?_
      exact ⟨_, by rw [HD.out]; rfl, by rw [HD.out]; exact TreeP.zero _ _, (below22 hb02 g4 g5 _ _ _ _).drew⟩
  | false =>
    have hrc : (treeF t).1 = 0 := by rw [HR.out]; simpa using hc
    have HOK := Lib.hid hrc
    clear hrc
    go_wp2_with fail
    have hA2 := heap_alloc_old (o' := .cells #[.int .i64 rc, .int .i64 ra] 29) hA1
    have hB2 := heap_alloc_old (o' := .cells #[.int .i64 rc, .int .i64 ra] 29) hB1
    have hC2 := heap_alloc_old (o' := .cells #[.int .i64 rc, .int .i64 ra] 29) hC1
    have hb02 := hb01.alloc hb01.size (.cells #[.int .i64 rc, .int .i64 ra] 29)
    generalize w1.alloc (.cells #[.int .i64 rc, .int .i64 ra] 29) = w2 at hA2 hB2 hC2 hb02 ⊢
    clear hA1 hB1 hC1 hb01
    refine (bind17 bs bo bs.length bc w2 rfl (HB.out.below hb02)).mono ?_
    rintro e w3 ⟨rfl, hb3⟩
    have hA3 := Below.heapAt hb3 hA2; have hB3 := Below.heapAt hb3 hB2; have hC3 := Below.heapAt hb3 hC2
    have hb03 := Below.step hb02 hb3
    clear hA2 hB2 hC2 hb02 hb3
    obtain ⟨⟨sc, sa⟩, hS⟩ : ∃ r, bindF bs = r := ⟨_, rfl⟩
    rw [hS]
    simp only [FV]
    have HS := Lib.hid hS
    clear hS
    cases hsc : (sc != 0) with
    | true =>
      have HD := Lib.hid (show doF t bs = (zeroT, (sc, sa)) by rw [doF, if_neg (by simp [HOK.out]), if_pos (by rw [HS.out]; simpa using hsc), HS.out])
      go_wp2_with fail
      have hB4 := heap_alloc_old (o' := .cells #[.int .i64 sc, .int .i64 sa] 29) hB3
      have hC4 := heap_alloc_old (o' := .cells #[.int .i64 sc, .int .i64 sa] 29) hC3
      have hF4 := heap_ofAlloc w3 (.cells #[.int .i64 sc, .int .i64 sa] 29)
      have hb04 := hb03.alloc hb03.size (.cells #[.int .i64 sc, .int .i64 sa] 29)
      generalize w3.alloc (.cells #[.int .i64 sc, .int .i64 sa] 29) = w4 at hB4 hC4 hF4 hb04 ⊢
      obtain ⟨⟨a0, a1⟩, a2, a3⟩ := box2 (w := w4.drew) hB4
      obtain ⟨⟨a4, a5⟩, a6, a7⟩ := box2 hB4
      obtain ⟨⟨f4, f5⟩, f6, f7⟩ := box2 hF4
      have hn1 : ¬ w3.heap.size = b4 := by have := heap_lt hB3; omega
      have hn2 : ¬ b4 = w3.heap.size := by have := heap_lt hB3; omega
      have hn3 : ¬ b4 = b5 := by omega
      have hn4 : ¬ b5 = b4 := by omega
      obtain ⟨⟨c4, c5⟩, c6, c7⟩ := box2 hC4
      obtain ⟨⟨c0, c1⟩, c2, c3⟩ := box2 (w := w4.drew) hC4
      obtain ⟨⟨f0, f1⟩, f2, f3⟩ := box2 (w := w4.drew) hF4
      have HB4 := Lib.hid hB4; have HC4 := Lib.hid hC4
      clear hB4 hC4 hF4 hA3 hB3 hC3
      go_region
      all_goals
        go_wp2_with fail
        obtain ⟨q4, q5⟩ := two22 HB4.out HC4.out g45 (.int .i64 0) (.slice none 0 0) (.int .i64 sc) (.int .i64 sa)
        refine ret_box22 (.int .i64 0) (.slice none 0 0) (.int .i64 sc) (.int .i64 sa) b4 b5 38 29 (hb := q4) (hc := q5) (fun w' z0 z1 z2 z3 => by simp [results, Try.results37, go_sem, z0, z1, z2, z3]) rfl ?_
        exact ⟨_, by rw [HD.out]; rfl, by rw [HD.out]; exact TreeP.zero _ _, (below22 hb04 g4 g5 _ _ _ _).drew⟩
    | false =>
      have hbo : (bindF bs).1 = 0 := by rw [HS.out]; simpa using hsc
      have HBO := Lib.hid hbo
      have hbl := (bindF_ok hbo).1
      clear hbo
      obtain ⟨⟨a0, a1⟩, a2, a3⟩ := box2 hA3
      have hlA := heap_lt hA3
      go_wp2_with fail
      have hA4 := heap_alloc_old (o' := .cells #[.int .i64 sc, .int .i64 sa] 29) hA3
      have hB4 := heap_alloc_old (o' := .cells #[.int .i64 sc, .int .i64 sa] 29) hB3
      have hC4 := heap_alloc_old (o' := .cells #[.int .i64 sc, .int .i64 sa] 29) hC3
      have hb04 := hb03.alloc hb03.size (.cells #[.int .i64 sc, .int .i64 sa] 29)
      have gw4 : w.heap.size ≤ (w3.alloc (.cells #[.int .i64 sc, .int .i64 sa] 29)).heap.size := hb04.size
      generalize w3.alloc (.cells #[.int .i64 sc, .int .i64 sa] 29) = w4 at gw4 hA4 hB4 hC4 hb04 ⊢
      clear hA3 hB3 hC3 hb03 a0 a1 a2 a3 hlA
      have htr := HTP.out.kept hb04
      have hro := HBP.out.kept hb04
      have hok := treeF_ok.1 HOK.out
      refine (apply45 bs t p0 _ bo bc w4 (fun b h => Nat.lt_of_lt_of_le (HP0.out b h) hb04.size) (by omega) htr hro (low_of_pre t hok.2.2) (by have := hok.1; omega) (fun i hi => by have := bind_size HBO.out i hi; omega)).mono ?_
      rintro e w5 ⟨u, rfl, hu, hb5⟩
      obtain ⟨uk, usp, rfl⟩ := hu.at.form
      have HU := Lib.hid hu.at
      have HUP := Lib.hid hu
      have g54 : b5 < w4.heap.size := heap_lt hC4
      clear htr hro hok hu
      have hB5 := Below.heapAt hb5 hB4; have hC5 := Below.heapAt hb5 hC4
      have hb05 := Below.step hb04 hb5
      clear hA4 hB4 hC4 hb04 hb5
      generalize hTS : t.sub bs = ts at HU HUP ⊢
      have HTS := Lib.hid hTS
      clear hTS
      go_wp2_with fail
      have hB6 := heap_alloc_old (o' := .cells #[.int .i64 ts.head, .slice uk ts.kids.length (ts.kids.length + usp)] 38) hB5
      have hC6 := heap_alloc_old (o' := .cells #[.int .i64 ts.head, .slice uk ts.kids.length (ts.kids.length + usp)] 38) hC5
      have hU6 := heap_ofAlloc w5 (.cells #[.int .i64 ts.head, .slice uk ts.kids.length (ts.kids.length + usp)] 38)
      have hb06 := hb05.alloc hb05.size (.cells #[.int .i64 ts.head, .slice uk ts.kids.length (ts.kids.length + usp)] 38)
      have HU6 := Lib.hid (HU.out.kept ((Below.refl _ w5).alloc (Nat.le_refl _) (.cells #[.int .i64 ts.head, .slice uk ts.kids.length (ts.kids.length + usp)] 38)))
      have HUP6 := Lib.hid (HUP.out.kept ((Below.refl _ w5).alloc (Nat.le_refl _) (.cells #[.int .i64 ts.head, .slice uk ts.kids.length (ts.kids.length + usp)] 38)))
      have hs6 : w5.heap.size < (w5.alloc (.cells #[.int .i64 ts.head, .slice uk ts.kids.length (ts.kids.length + usp)] 38)).heap.size := by simp
      generalize w5.alloc (.cells #[.int .i64 ts.head, .slice uk ts.kids.length (ts.kids.length + usp)] 38) = w6 at hB6 hC6 hU6 hb06 HU6 HUP6 hs6 ⊢
      refine (check29 ts _ _ HU6.out).mono ?_
      rintro e w7 ⟨rfl, hb7⟩
      have hB7 := Below.heapAt hb7 hB6; have hC7 := Below.heapAt hb7 hC6; have hU7 := Below.heapAt hb7 hU6
      have hb07 := Below.step hb06 hb7
      have HU7 := Lib.hid (HUP6.out.kept hb7)
      clear hB6 hC6 hU6 hb06 hb7 hB5 hC5 hb05
      obtain ⟨⟨vc, va⟩, hV⟩ : ∃ r, treeF ts = r := ⟨_, rfl⟩
      rw [hV]
      simp only [FV]
      have HV := Lib.hid hV
      clear hV
      have hlB := heap_lt hB7; have hlC := heap_lt hC7
      obtain ⟨⟨a0, a1⟩, a2, a3⟩ := box2 hB7
      obtain ⟨⟨c0, c1⟩, c2, c3⟩ := box2 hC7
      obtain ⟨⟨f0, _⟩, f2, _⟩ := box2 hU7
      have HB7 := Lib.hid hB7; have HC7 := Lib.hid hC7
      clear hB7 hC7 hU7
      cases hvc : (vc != 0) with
      | true =>
        have HD := Lib.hid (show doF t bs = (zeroT, (10, 0)) by rw [doF, if_neg (by simp [HOK.out]), if_neg (by simp [HBO.out]), if_pos (by rw [HTS.out, HV.out]; simpa using hvc)])
        go_wp2_with fail
        obtain ⟨q4, q5⟩ := two22 HB7.out HC7.out g45 (.int .i64 0) (.slice none 0 0) (.int .i64 10) (.int .i64 0)
        refine ret_box22 (.int .i64 0) (.slice none 0 0) (.int .i64 10) (.int .i64 0) b4 b5 38 29 (hb := q4) (hc := q5) (fun w' z0 z1 z2 z3 => by simp [results, Try.results37, go_sem, z0, z1, z2, z3]) rfl ?_
        exact ⟨_, by rw [HD.out]; rfl, by rw [HD.out]; exact TreeP.zero _ _, below22 hb07 g4 g5 _ _ _ _⟩
      | false =>
        have HD := Lib.hid (show doF t bs = (ts, (0, 0)) by rw [doF, if_neg (by simp [HOK.out]), if_neg (by simp [HBO.out]), if_neg (by rw [HTS.out, HV.out]; simpa using hvc), HTS.out])
        go_wp2_with fail
        obtain ⟨q4, q5⟩ := two22 HB7.out HC7.out g45 (.int .i64 ts.head) (.slice uk ts.kids.length (ts.kids.length + usp)) (.int .i64 0) (.int .i64 0)
        refine ret_box22 (.int .i64 ts.head) (.slice uk ts.kids.length (ts.kids.length + usp)) (.int .i64 0) (.int .i64 0) b4 b5 38 29 (hb := q4) (hc := q5) (fun w' z0 z1 z2 z3 => by simp [results, Try.results37, go_sem, z0, z1, z2, z3]) rfl ?_
        refine ⟨_, by rw [HD.out]; rfl, ?_, below22 hb07 g4 g5 _ _ _ _⟩
        rw [HD.out]
        have e4 : ¬ (p0 b4 ∨ w4.heap.size ≤ b4) := fun h => by rcases h with h | h; (have := HP0.out _ h; omega); omega
        have e5 : ¬ (p0 b5 ∨ w4.heap.size ≤ b5) := fun h => by rcases h with h | h; (have := HP0.out _ h; omega); omega
        exact ((((HU7.out.setCell (a := ⟨b4, 0, none⟩) e4 _).setCell (a := ⟨b4, 1, none⟩) e4 _).setCell (a := ⟨b5, 0, none⟩) e5 _).setCell (a := ⟨b5, 1, none⟩) e5 _).mono (fun b h _ => by rcases h with h | h; exact .inl h; right; omega)

theorem do21 (t : T) (bs : List T) (v : Value) (bo : Option Addr) (bc : Nat) (w : World) (ht : TreeAt w v t) (hb : RowAt w bo bs) :
    Calls Try.prog 37 #[v, .slice bo bs.length bc] w (DoPost (doF t bs) w) :=
  (do21P (fun b => b < w.heap.size) t bs v bo bc w (fun _ h => h) ht.foot hb.foot).mono fun e w' ⟨u, h1, h2, h3⟩ => ⟨u, h1, h2.at, h3⟩
end Go.Proofs.Ytlhnfdjidjgfgaa
namespace Go.Proofs.Ytlhnfdjidjgfgaa
open Go.RowKit Go.Shelf
set_option linter.unusedVariables false
set_option maxHeartbeats 400000
attribute [local go_sem] Oper.semAt_some

def mark (D : Nat) : Deferred := { target := .collected D, args := #[] }
def Marks (B : Nat) (W : World) (ds : List Nat) : Prop := ds.Nodup ∧ ∀ D ∈ ds, B ≤ D ∧ W.heap[D]? = some (.deferred (some []))
theorem Marks.nil (B : Nat) (W : World) : Marks B W [] := ⟨List.nodup_nil, fun D h => by cases h⟩
theorem Marks.kept {B : Nat} {W W' : World} {ds : List Nat} (h : Marks B W ds) (hk : ∀ (D : Nat), W.heap[D]? = some (Obj.deferred (some [])) → W'.heap[D]? = W.heap[D]?) : Marks B W' ds :=
  ⟨h.1, fun D hD => ⟨(h.2 D hD).1, (hk D (h.2 D hD).2).trans (h.2 D hD).2⟩⟩
theorem Marks.below {B : Nat} {W W' : World} {ds : List Nat} (h : Marks B W ds) (hb : Below W.heap.size W W') : Marks B W' ds := h.kept fun D hD => hb.block D (Array.getElem?_eq_some_iff.1 hD).1
theorem Marks.cons {B : Nat} {W W' : World} {ds : List Nat} {D : Nat} (h : Marks B W ds) (hk : ∀ (b : Nat), b < W.heap.size → W.heap[b]? = some (Obj.deferred (some [])) → W'.heap[b]? = W.heap[b]?) (hD : W'.heap[D]? = some (.deferred (some []))) (hB : B ≤ D) (hn : W.heap.size ≤ D) : Marks B W' (D :: ds) := by
  have h' : Marks B W' ds := h.kept fun b hb => hk b (Array.getElem?_eq_some_iff.1 hb).1 hb
  refine ⟨List.nodup_cons.2 ⟨fun hm => ?_, h'.1⟩, fun b hb => ?_⟩
  · have := (Array.getElem?_eq_some_iff.1 (h.2 D hm).2).1; omega
  · rcases List.mem_cons.1 hb with rfl | hb
    · exact ⟨hB, hD⟩
    · exact h'.2 b hb
/-- the marks are taken up: what is no mark lies as it lay -/
theorem leaves_marks {n B : Nat} {P : Program} {fn : Func} {tmps : Array Value} {R : Ending → World → Prop} : ∀ (ds : List Nat) (w : World), Marks B w ds →
    (∀ w', Below B w w' → (∀ (b : Nat) (cs : Array Value) (ty : TypeId) (fz : Nat × Nat), w.heap[b]? = some (Obj.cells cs ty fz) → w'.heap[b]? = w.heap[b]?) → ∃ v, (results fn tmps).run P w' = .ok v w' ∧ R (.returned v) w') → B ≤ w.heap.size →
    LeavesInM Fence.wide n P fn tmps R (ds.map mark) .returning w
  | [], w, _, H, _ => H w (Below.refl _ _) (fun _ _ _ _ _ => rfl)
  | D :: ds, w, hm, H, hB => by
    have hD := hm.2 D (by simp)
    have hn := List.nodup_cons.1 hm.1
    refine ⟨by simp, .inl ⟨D, w.putObj D (.deferred none), rfl, run_takeDeferred hD.2, ?_⟩⟩
    have hbD : Below B w (w.putObj D (.deferred none)) := (Below.refl B w).grown (grownBy_putObj' w D _) hB (fun k e => by cases e; exact hD.1)
    refine leaves_marks ds _ ⟨hn.2, fun b hb => ⟨(hm.2 b (by simp [hb])).1, (World.putObj_heap_other (fun e => hn.1 (by rw [← e]; exact hb))).trans (hm.2 b (by simp [hb])).2⟩⟩ ?_ (by simpa using hB)
    intro w' hb' hk'
    refine H w' (hbD.trans hb') fun b cs ty fz hb => ?_
    have hne : b ≠ D := fun e => by subst e; rw [hD.2] at hb; cases hb
    have e1 : (w.putObj D (.deferred none)).heap[b]? = w.heap[b]? := World.putObj_heap_other hne
    exact (hk' b cs ty fz (e1.trans hb)).trans e1
theorem bodyM_marks {n B : Nat} {P : Program} {fn : Func} {tmps : Array Value} {R : Ending → World → Prop} {ds : List Nat} {w : World} (hm : Marks B w ds) (hB : B ≤ w.heap.size)
    (H : ∀ w', Below B w w' → (∀ (b : Nat) (cs : Array Value) (ty : TypeId) (fz : Nat × Nat), w.heap[b]? = some (Obj.cells cs ty fz) → w'.heap[b]? = w.heap[b]?) → ∃ v, (results fn tmps).run P w' = .ok v w' ∧ R (.returned v) w') :
    bodyPostM Fence.wide n P fn R .ret { tmps := tmps, defers := ds.map mark } w := leaves_marks ds w hm H hB

theorem ownFrom_frame {β : Type} (W2 : World) (bn B : Nat) (hB : W2.heap.size ≤ B) : OwnFrom B (fun (_ : β) V => ∀ b, b < W2.heap.size → b ≠ bn → V.heap[b]? = W2.heap[b]?) :=
  fun _ X Y row hs hg hr b h1 h2 => by
    have hX := hs b h1 h2
    have hlt : b < X.heap.size := by
      rw [Array.getElem?_eq_getElem h1] at hX
      exact (Array.getElem?_eq_some_iff.1 hX).1
    exact (hg.block b hlt (fun e => by have := (hr b e.symm).1; omega)).trans hX
theorem frame_size {V W2 : World} {bn : Nat} {o : Obj} (h : ∀ b, b < W2.heap.size → b ≠ bn → V.heap[b]? = W2.heap[b]?) (hb : W2.heap[bn]? = some o) (hlv : bn < V.heap.size) : W2.heap.size ≤ V.heap.size := by
  by_cases h0 : W2.heap.size ≤ V.heap.size
  · exact h0
  · have h1 : V.heap.size < W2.heap.size := by omega
    have h2 := h V.heap.size h1 (by omega)
    rw [Array.getElem?_eq_getElem h1] at h2
    have := (Array.getElem?_eq_some_iff.1 h2).1
    omega

set_option maxRecDepth 100000 in
set_option maxHeartbeats 4000000 in
theorem max47 (ks : List T) (ao : Option Addr) (c : Nat) (w : World) (hr : RowAt w ao ks) (hn : ks.length ≤ 100000000) (hsz : ∀ i, i < ks.length → (gK ks i).size ≤ 1000000 ∧ (gK ks i).deep ≤ 100000 ∧ ∀ x ∈ (gK ks i).pre, okN x) :
    Calls Try.prog 100 #[.slice ao ks.length c] w fun e w' => e = .returned (.int .i64 (mostL ks)) ∧ Below w.heap.size w w' := by
  have HR := Lib.hid hr; have HSZ := Lib.hid hsz; clear hr hsz
  have hbn := heap_ofAlloc w (.cells #[.int .i64 0] 3)
  have hb0 := (Below.refl w.heap.size w).alloc (Nat.le_refl _) (.cells #[.int .i64 0] 3)
  have hsw : w.heap.size < (w.alloc (.cells #[.int .i64 0] 3)).heap.size := by simp
  refine (callsIn_wide (n := 4)).1 ?_
  refine callsIn_of_wp_marks Try.func100 rfl trivial ?_ rfl
  simp only [Try.ntmps100, List.size_toArray, List.length_cons, List.length_nil, Nat.reduceAdd, Nat.reduceSub, Array.replicate_succ, Array.replicate_zero, List.push_toArray, List.append_toArray, List.nil_append, List.cons_append]
  gi_wp2_with fail
  generalize w.alloc (.cells #[.int .i64 0] 3) = w0 at hbn hb0 hsw ⊢
  refine wpIn_loop (fun a W => ∃ (k : Nat) (ds : List Nat) (z5 z11 z12 z13 z14 z15 z23 : Value), k ≤ ks.length ∧
      a = { tmps := #[.slice ao ks.length c, undef, .int .i64 0, .pointer (some ⟨w.heap.size, 0, none⟩), undef, z5, undef, undef, .slice ao ks.length c, .int .i64 (ks.length : Int), .int .i64 (k : Int), z11, z12, z13, z14, z15, undef, undef, undef, undef, undef, undef, undef, z23, undef], defers := ds.map mark } ∧
      W.heap[w.heap.size]? = some (.cells #[.int .i64 (mostL (ks.take k))] 3 (0, 0)) ∧ Marks w.heap.size W ds ∧ Below w.heap.size w W ∧ w0.heap.size ≤ W.heap.size) (fun a _ => ks.length - (intOf (a.tmps.getD 10 undef)).toNat) ?start ?round
  case start => exact ⟨0, [], _, _, _, _, _, _, _, by omega, rfl, by simpa [mostL] using hbn, Marks.nil _ _, hb0, Nat.le_refl _⟩
  case round =>
    rintro a W ⟨k, ds, z5, z11, z12, z13, z14, z15, z23, hk, rfl, hbox, hmk, hbw, hws⟩
    obtain ⟨M, hM⟩ : ∃ M, M = mostL (ks.take k) := ⟨_, rfl⟩
    rw [← hM] at hbox
    have hM0 : 0 ≤ M := by rw [hM]; exact mostL_nonneg _
    have HMK := Lib.hid hmk; have HM := Lib.hid hM
    clear hmk hM
    by_cases hlt : k < ks.length
    · obtain ⟨b, off, ko, ksp, rfl, c1, c2, c3⟩ := HR.out k hlt
      have d1 := Below.cellOf hbw c1; have d2 := Below.cellOf hbw c2
      have HC0 := Lib.hid c3
      have HSK := Lib.hid (HSZ.out k hlt)
      have HTK := Lib.hid (mostL_take hlt)
      clear c3 c1 c2
      generalize gK ks k = x at d1 d2 HC0 HSK HTK ⊢
      gi_wp2_with fail
      have hb1 := (Below.refl W.heap.size W).alloc (Nat.le_refl _) (.cells #[.int .i64 x.head, .slice ko x.kids.length (x.kids.length + ksp)] 38)
      have hbox1 := heap_alloc_old (o' := .cells #[.int .i64 x.head, .slice ko x.kids.length (x.kids.length + ksp)] 38) hbox
      refine ⟨trivial, ?_⟩
      refine (callsIn_wide.2 (nodes48 (.agg #[.int .i64 x.head, .slice ko x.kids.length (x.kids.length + ksp)]) x _ (HC0.out.kept (Below.step hbw hb1)))).mono ?_
      rintro e w2 ⟨rfl, hw2⟩
      have hb2 := hb1.alloc hb1.size (.cells #[.int .i64 x.head, .slice ko x.kids.length (x.kids.length + ksp)] 38)
      have hbox2 := heap_alloc_old (o' := .cells #[.int .i64 x.head, .slice ko x.kids.length (x.kids.length + ksp)] 38) hbox1
      have hk2 := heap_ofAlloc (W.alloc (.cells #[.int .i64 x.head, .slice ko x.kids.length (x.kids.length + ksp)] 38)) (.cells #[.int .i64 x.head, .slice ko x.kids.length (x.kids.length + ksp)] 38)
      rw [show w2 = (W.alloc (.cells #[.int .i64 x.head, .slice ko x.kids.length (x.kids.length + ksp)] 38)).alloc (.cells #[.int .i64 x.head, .slice ko x.kids.length (x.kids.length + ksp)] 38) from hw2]
      rw [World.size_alloc] at hk2
      have hs2 : ((W.alloc (.cells #[.int .i64 x.head, .slice ko x.kids.length (x.kids.length + ksp)] 38)).alloc (.cells #[.int .i64 x.head, .slice ko x.kids.length (x.kids.length + ksp)] 38)).heap.size = W.heap.size + 2 := by simp
      have hkeepW : ∀ b, b < W.heap.size → ((W.alloc (.cells #[.int .i64 x.head, .slice ko x.kids.length (x.kids.length + ksp)] 38)).alloc (.cells #[.int .i64 x.head, .slice ko x.kids.length (x.kids.length + ksp)] 38)).heap[b]? = W.heap[b]? := fun b hb => hb2.block b hb
      clear hw2 w2 hbox1 hb1
      generalize (W.alloc (.cells #[.int .i64 x.head, .slice ko x.kids.length (x.kids.length + ksp)] 38)).alloc (.cells #[.int .i64 x.head, .slice ko x.kids.length (x.kids.length + ksp)] 38) = W2 at hb2 hbox2 hk2 hs2 hkeepW ⊢
      gi_wp2_with fail
      obtain ⟨bn, hbn'⟩ : ∃ b, b = w.heap.size := ⟨_, rfl⟩
      obtain ⟨bk, hbk'⟩ : ∃ b, b = W.heap.size + 1 := ⟨_, rfl⟩
      rw [← hbk'] at hk2 ⊢
      rw [← hbn'] at hbox2 hbox ⊢
      have hbw2 := Below.step hbw hb2
      have g1 : w.heap.size ≤ bn := by omega
      have g2 : bn < W.heap.size := by have := heap_lt hbox; omega
      have g3 : W.heap.size ≤ W2.heap.size := by omega
      have HSK2 := Lib.hid (fun y (hy : y ∈ x.pre) => HSK.out.2.2 y hy)
      have HBN := Lib.hid hbn'
      clear hbk' hbn' d1 d2 hs2
      refine wpIn_rangeFunc_ownH rfl (by omega) (gf := 123) (lb := #[.pointer (some ⟨bk, 0, none⟩)]) rfl trivial (enters_of Try.func123 (by kernel_rfl) rfl)
        (nodes_stops w W.heap.size bk x ko ksp W2 (by have := HSK.out.1; omega) (HSK.out.2.1) hbw.size hbw2 g3 HC0.out hk2) (fun h k => KpN.trans h k) (KpN.putObj hbw2.size) (Below.refl _ _) (fun _ => rfl)
        (fun pre V => (V.heap[bn]? = some (.cells #[.int .i64 (maxV (pre.map (·.t)) M)] 3 (0, 0)) ∧ (∀ b, b < W2.heap.size → b ≠ bn → V.heap[b]? = W2.heap[b]?)) ∧ Below w.heap.size w V)
        (fun _ _ _ => False)
        (OwnFrom.and (OwnFrom.and (Own.from (own_block bn _ (fun _ => rfl)) _) (ownFrom_frame W2 bn _ (Nat.le_refl _))) (ownFrom_below (Nat.le_refl _) hbw2.size))
        (fun _ _ _ _ _ hs _ _ => hs)
        ⟨⟨by simpa [maxV] using hbox2, fun _ _ _ => rfl⟩, hbw2⟩
        (fun y a' V => ∃ Bx : Nat, V.heap[Bx]? = some (.cells #[.int .i64 y.t.head, .slice y.ao y.t.kids.length (y.t.kids.length + y.sp)] 38 (0, 0)) ∧ a' = { tmps := #[.slice (some ⟨b, off, none⟩) ks.length c, undef, .int IntKind.i64 0, .pointer (some ⟨bn, 0, none⟩), undef, .pointer (some ⟨W.heap.size, 0, none⟩), undef, .pointer (some ⟨Bx, 0, none⟩), .slice (some ⟨b, off, none⟩) ks.length c, .int IntKind.i64 (ks.length : Int), .int IntKind.i64 (k : Int), .bool true, .pointer (some ⟨b, off + k * 2, none⟩), .agg #[Value.int IntKind.i64 x.head, Value.slice ko x.kids.length (x.kids.length + ksp)], .agg #[Value.int IntKind.i64 x.head, Value.slice ko x.kids.length (x.kids.length + ksp)], .func (.func 123) #[] #[.pointer (some ⟨bk, 0, none⟩)], y.pl, .agg #[.int .i64 y.t.head, .slice y.ao y.t.kids.length (y.t.kids.length + y.sp)], undef, undef, undef, undef, undef, z23, undef], defers := [] })
        (fun y a' _ X Y row hs hg hr => by obtain ⟨Bx, q2, q3⟩ := hs; exact ⟨Bx, own_block Bx (fun _ : Unit => _) (fun _ => rfl) () X Y row q2 hg (fun r e => (hr r e).2), q3⟩)
        ?assign ?body ?done ?stop
      case assign =>
        rintro l pre y V K ⟨⟨i1, i2⟩, i3⟩ hK
        have HK := Lib.hid hK; have I1 := Lib.hid i1; have I2 := Lib.hid i2; have I3 := Lib.hid i3
        have hlv := heap_lt i1
        have I4 := Lib.hid (frame_size i2 hbox2 hlv)
        simp only [NX.encs]
        clear hK i1 i2 i3
        gi_wp2
        exact HK.out _ _ (KeepsFrom.alloc' _ _ _) (KpN.of ((Below.refl _ V).alloc (Nat.le_refl _) _) I3.out.size) ⟨⟨heap_alloc_old I1.out, fun b h1 h2 => (Below.heap_alloc V _ b (by have := I4.out; omega)).trans (I2.out b h1 h2)⟩, I3.out.alloc I3.out.size _⟩ ⟨V.heap.size, heap_ofAlloc V _, rfl⟩
      case body =>
        rintro l pre y a' V hl ⟨r, hr⟩ ⟨⟨i1, i2⟩, i3⟩ ⟨Bx, hbx, rfl⟩ hlt
        clear hr r
        have I1 := Lib.hid i1; have I2 := Lib.hid i2; have I3 := Lib.hid i3
        obtain ⟨ypl, yao, ysp, yt, yat, yht, ym⟩ := y
        have hok := HSK2.out yt ym
        have h1 : -8 ≤ yt.head := by have := hok.1; simp only [badHead] at this; omega
        have h2 : yt.head ≤ 12 := by have := hok.1; simp only [badHead] at this; omega
        obtain ⟨⟨x0, _⟩, x1, _⟩ := box2 hbx
        obtain ⟨n0, n1⟩ := box1 i1
        have hln := heap_lt i1
        clear i1 i2 i3 hbx hok
        dsimp only at x0 x1 ⊢
        have hms : maxV ((pre ++ [(⟨ypl, yao, ysp, yt, yat, yht, ym⟩ : NX w x)]).map (·.t)) M = max (maxV (pre.map (·.t)) M) (-yt.head) := by
          rw [List.map_append, maxV_append]; rfl
        have HMS := Lib.hid hms
        have hml := maxV_le (pre.map (·.t)) M
        clear hms
        generalize maxV (pre.map (·.t)) M = MV at n0 I1 HMS hml ⊢
        have HI1 := I1
        by_cases hc : MV < -yt.head
        · gi_wp2
          all_goals first
            | (exfalso; omega)
            | exact ⟨(KeepsOthers.setCell _ _ _).from _, KpN.setCell _ g1 g2 _, ⟨by rw [HMS.out]; exact box1_set' HI1.out _ (by congr 1; omega), fun b' q1 q2 => (Below.heap_setCell V _ _ b' q2).trans (I2.out b' q1 q2)⟩, I3.out.setCell (p := ⟨bn, 0, none⟩) g1 _⟩
        · gi_wp2
          all_goals first
            | (exfalso; omega)
            | exact ⟨(KeepsOthers.setCell _ _ _).from _, KpN.setCell _ g1 g2 _, ⟨by rw [HMS.out]; exact box1_set' HI1.out _ (by congr 1; omega), fun b' q1 q2 => (Below.heap_setCell V _ _ b' q2).trans (I2.out b' q1 q2)⟩, I3.out.setCell (p := ⟨bn, 0, none⟩) g1 _⟩
      case done =>
        rintro D xs V hD hxs ⟨⟨i1, i2⟩, i3⟩ hK
        have hpr := map_pt_snd hxs
        have HMX := Lib.hid (show maxV (xs.map (·.t)) M = mostL (ks.take (k + 1)) by rw [hpr, maxV_pre x M hM0, HTK.out, ← HM.out])
        have I1 := Lib.hid i1; have I2 := Lib.hid i2; have I3 := Lib.hid i3
        have HK := Lib.hid hK
        have hlv := heap_lt i1
        have I4 := Lib.hid (frame_size i2 hbox2 hlv)
        clear i1 i2 i3 hK hxs hpr
        have HMK2 := Lib.hid (HMK.out.cons (D := D) (W' := V) (fun b h1 h2 => (I2.out b (by omega) (fun e => by rw [e, hbox] at h2; cases h2)).trans (hkeepW b h1)) HK.out (by omega) (by omega))
        have hlen : (k : Int) + 1 = ((k + 1 : Nat) : Int) := by omega
        have HLEN := Lib.hid hlen
        clear hlen
        gi_wp2
        refine ⟨⟨k + 1, D :: ds, .pointer (some ⟨W.heap.size, 0, none⟩), .bool true, .pointer (some ⟨b, off + k * 2, none⟩), .agg #[.int .i64 x.head, .slice ko x.kids.length (x.kids.length + ksp)], .agg #[.int .i64 x.head, .slice ko x.kids.length (x.kids.length + ksp)], .func (.func 123) #[] #[.pointer (some ⟨bk, 0, none⟩)], .int .i64 ((k : Int) + 1), by omega, ?_, ?_, HMK2.out, I3.out, by have := I4.out; omega⟩, ?_⟩
        · rw [HBN.out, HLEN.out]; rfl
        · have := I1.out; rw [HMX.out, HBN.out] at this; exact this
        · simp [intOf] <;> omega
      case stop =>
        rintro D c' pre V _ _ h _
        exact h.elim
    · obtain rfl : k = ks.length := by omega
      have hlb := heap_lt hbox
      obtain ⟨n0, n1⟩ := box1 hbox
      have HBX := Lib.hid hbox
      clear hbox
      gi_wp2_with fail
      refine bodyM_marks HMK.out hbw.size (fun w' hb' hk' => ⟨_, results_tmp rfl _ _ _, ?_, hbw.trans hb'⟩)
      show Ending.returned (.int .i64 M) = _
      exact ret_int (by rw [HM.out, List.take_length])
end Go.Proofs.Ytlhnfdjidjgfgaa
namespace Go.Proofs.Ytlhnfdjidjgfgaa
open Go.RowKit Go.Shelf
set_option linter.unusedVariables false
set_option maxHeartbeats 400000
attribute [local go_sem] Oper.semAt_some

/-- a row of integers of the call's own, place by place -/
def RowI (w : World) (base : Nat) (v : Value) (m : Nat) (p : Nat → Int) : Prop := w.ownsRow base 3 1 v m ((List.range m).map fun j => .int .i64 (p j))
def setI (p : Nat → Int) (j : Nat) (x : Int) : Nat → Int := fun i => if i = j then x else p i
theorem RowI.cell {w : World} {base g m cap : Nat} {p : Nat → Int} (h : RowI w base (.slice (some ⟨g, 0, none⟩) m cap) m p) {j : Nat} (hj : j < m) :
    w.cell? ⟨g, j, none⟩ = some (.int .i64 (p j)) ∧ w.frozen? ⟨g, j, none⟩ = false := by
  refine ⟨?_, h.frozenAt j⟩
  rw [h.cellAt j (by omega)]
  simp [hj]
theorem RowI.set {w : World} {base g m cap : Nat} {p : Nat → Int} (h : RowI w base (.slice (some ⟨g, 0, none⟩) m cap) m p) (j : Nat) (b : Int) :
    RowI (w.setCell ⟨g, j, none⟩ (.int .i64 b)) base (.slice (some ⟨g, 0, none⟩) m cap) m (setI p j b) := by
  have := (h.stored j (.int .i64 b)).1
  unfold RowI
  have e : ((List.range m).map fun i => Value.int .i64 (p i)).set j (.int .i64 b) = (List.range m).map fun i => Value.int .i64 (setI p j b i) := by
    apply List.ext_getElem (by simp)
    intro i h1 h2
    simp only [List.getElem_set, List.getElem_map, List.getElem_range, setI]
    by_cases hij : j = i
    · subst hij; simp
    · have : ¬ i = j := fun h => hij h.symm
      simp [hij, this]
  rw [e] at this
  exact this
theorem RowI.below {w w' : World} {base g m cap : Nat} {p : Nat → Int} (h : RowI w base (.slice (some ⟨g, 0, none⟩) m cap) m p) (hb : Below w.heap.size w w') :
    RowI w' base (.slice (some ⟨g, 0, none⟩) m cap) m p :=
  World.ownsRow.kept h (row := none) ⟨hb.os, hb.tape, hb.output, hb.size, fun k hk _ => hb.block k hk⟩ (.inr (by simp [Value.ownBlock]))
theorem RowI.lt {w : World} {base g m cap : Nat} {p : Nat → Int} (h : RowI w base (.slice (some ⟨g, 0, none⟩) m cap) m p) : base ≤ g ∧ g < w.heap.size := World.ownsRow.lt h g rfl
theorem RowI.congr {w : World} {base m : Nat} {v : Value} {p q : Nat → Int} (h : RowI w base v m p) (he : ∀ j, j < m → p j = q j) : RowI w base v m q := by
  unfold RowI at h ⊢
  rw [List.map_congr_left (g := fun j => Value.int .i64 (q j)) (fun j hj => by rw [he j (by simpa using hj)])] at h
  exact h
theorem RowI.block {w : World} {base g m cap : Nat} {p : Nat → Int} (h : RowI w base (.slice (some ⟨g, 0, none⟩) m cap) m p) : ∃ cur, w.heap[g]? = some (.cells cur 3 (0, 0)) := by
  rcases h.2 with ⟨h1, _⟩ | ⟨g', cap', cur, h1, _, h2, _⟩
  · cases h1
  · simp at h1; rw [h1.1]; exact ⟨cur, h2⟩
theorem RowI.own {β : Type} (base g m cap : Nat) (p : β → Nat → Int) : Own (fun s W => RowI W base (.slice (some ⟨g, 0, none⟩) m cap) m (p s)) := fun s A B row hs hg hr =>
  World.ownsRow.kept hs hg (.inr (fun e => by
    obtain ⟨o, ho, hc⟩ := hr g (by simpa [Value.ownBlock] using e.symm)
    obtain ⟨cur, h2⟩ := RowI.block hs
    rw [h2] at ho; cases ho; cases hc))
theorem RowI.ints {w : World} {base m : Nat} {v : Value} {p : Nat → Int} (h : RowI w base v m p) : IntsAt w v ((List.range m).map p) := by
  have e : (List.range m).map (fun j => Value.int .i64 (p j)) = ((List.range m).map p).map (Value.int .i64) := by rw [List.map_map]; rfl
  unfold RowI at h
  rw [e] at h
  exact IntsAt.ofOwn (base := base) (by simpa using h)

theorem head_le_most (t : T) : ∀ x ∈ t.pre, -x.head ≤ t.most := by
  intro x hx
  have h1 := maxV_pre t 0 (by omega)
  have key : ∀ (l : List T) (m : Int), ∀ x ∈ l, -x.head ≤ maxV l m := by
    intro l
    induction l with
    | nil => intro m x hx; cases hx
    | cons y r ih =>
      intro m x hx
      rw [maxV]
      rcases List.mem_cons.1 hx with rfl | hx
      · have := maxV_le r (max m (-x.head)); omega
      · exact ih _ x hx
  have h2 := key t.pre 0 x hx
  have := t.most_nonneg
  omega
theorem most_le (t : T) (h : ∀ x ∈ t.pre, okN x) : t.most ≤ 8 := by
  have h1 := maxV_pre t 0 (by omega)
  have key : ∀ (l : List T) (m : Int), m ≤ 8 → (∀ x ∈ l, okN x) → maxV l m ≤ 8 := by
    intro l
    induction l with
    | nil => intro m hm _; exact hm
    | cons y r ih =>
      intro m hm hx
      rw [maxV]
      have := (hx y (by simp)).1
      exact ih _ (by simp only [badHead] at this; omega) (fun x h => hx x (by simp [h]))
  have h2 := key t.pre 0 (by omega) h
  have := t.most_nonneg
  omega

def countsOf (t : T) : List Int := (List.range t.most.toNat).map fun (k : Nat) => ((t.times (-(k : Int) - 1) : Nat) : Int)
def varsF (t : T) : List Int := if (treeF t).1 = 0 then countsOf t else []
def VarsPost (t : T) (w : World) (e : Ending) (w' : World) : Prop := ∃ v, e = .returned (.tuple #[v, FV (treeF t)]) ∧ IntsAt w' v (varsF t) ∧ Below w.heap.size w w'

end Go.Proofs.Ytlhnfdjidjgfgaa
namespace Go.Proofs.Ytlhnfdjidjgfgaa
open Go.RowKit Go.Shelf
set_option linter.unusedVariables false
set_option maxHeartbeats 400000

def RowSet (p : Nat → Prop) (B : Nat) (w : World) (g n : Nat) (ks : Nat → T) : Prop :=
  ∃ cs : List Value, w.ownsRow B 38 2 (.slice (some ⟨g, 0, none⟩) n n) n cs ∧ ∀ i, i < n → ∃ k sp, cs[i * 2]? = some (.int .i64 (ks i).head) ∧ cs[i * 2 + 1]? = some (.slice k (ks i).kids.length ((ks i).kids.length + sp)) ∧
    TreeP (fun b => p b ∧ b ≠ g) w (.agg #[.int .i64 (ks i).head, .slice k (ks i).kids.length ((ks i).kids.length + sp)]) (ks i)
theorem RowSet.lt {p : Nat → Prop} {B : Nat} {w : World} {g n : Nat} {ks : Nat → T} (h : RowSet p B w g n ks) : B ≤ g ∧ g < w.heap.size := by
  obtain ⟨cs, h1, _⟩ := h; exact World.ownsRow.lt h1 g rfl
theorem RowSet.get {p : Nat → Prop} {B : Nat} {w : World} {g n : Nat} {ks : Nat → T} (h : RowSet p B w g n ks) {i : Nat} (hi : i < n) :
    ∃ k sp, w.cell? ⟨g, i * 2, none⟩ = some (.int .i64 (ks i).head) ∧ w.cell? ⟨g, i * 2 + 1, none⟩ = some (.slice k (ks i).kids.length ((ks i).kids.length + sp)) ∧
      w.frozen? ⟨g, i * 2, none⟩ = false ∧ w.frozen? ⟨g, i * 2 + 1, none⟩ = false ∧
      TreeP (fun b => p b ∧ b ≠ g) w (.agg #[.int .i64 (ks i).head, .slice k (ks i).kids.length ((ks i).kids.length + sp)]) (ks i) := by
  obtain ⟨cs, h1, h2⟩ := h
  obtain ⟨k, sp, e1, e2, e3⟩ := h2 i hi
  refine ⟨k, sp, ?_, ?_, h1.frozenAt _, h1.frozenAt _, e3⟩
  · rw [h1.cellAt _ (by omega)]; exact e1
  · rw [h1.cellAt _ (by omega)]; exact e2
theorem RowSet.below {p : Nat → Prop} {B : Nat} {w w' : World} {g n : Nat} {ks : Nat → T} (h : RowSet p B w g n ks) (hb : Below w.heap.size w w') : RowSet p B w' g n ks := by
  obtain ⟨cs, h1, h2⟩ := h
  refine ⟨cs, own_below h1 hb, fun i hi => ?_⟩
  obtain ⟨k, sp, e1, e2, e3⟩ := h2 i hi
  exact ⟨k, sp, e1, e2, e3.kept hb⟩
theorem RowSet.other {p : Nat → Prop} {B : Nat} {w : World} {g n : Nat} {ks : Nat → T} (h : RowSet p B w g n ks) {a : Addr} (hg : a.block ≠ g) (hp : ¬ p a.block) (u : Value) : RowSet p B (w.setCell a u) g n ks := by
  obtain ⟨cs, h1, h2⟩ := h
  refine ⟨cs, ownsRow_setCell_other h1 (by simp [Value.ownBlock]; exact fun e => hg e.symm) u, fun i hi => ?_⟩
  obtain ⟨k, sp, e1, e2, e3⟩ := h2 i hi
  exact ⟨k, sp, e1, e2, e3.setCell (fun h => hp h.1) u⟩
def setT (ks : Nat → T) (j : Nat) (t : T) : Nat → T := fun i => if i = j then t else ks i
theorem RowSet.set {p : Nat → Prop} {B : Nat} {w : World} {g n : Nat} {ks : Nat → T} (h : RowSet p B w g n ks) {j : Nat} (hj : j < n) {t : T} {k : Option Addr} {sp : Nat}
    (ht : TreeP (fun b => p b ∧ b ≠ g) w (.agg #[.int .i64 t.head, .slice k t.kids.length (t.kids.length + sp)]) t) :
    RowSet p B ((w.setCell ⟨g, j * 2, none⟩ (.int .i64 t.head)).setCell ⟨g, j * 2 + 1, none⟩ (.slice k t.kids.length (t.kids.length + sp))) g n (setT ks j t) := by
  obtain ⟨cs, h1, h2⟩ := h
  have hcl : cs.length = n * 2 := h1.1
  refine ⟨(cs.set (j * 2) (.int .i64 t.head)).set (j * 2 + 1) (.slice k t.kids.length (t.kids.length + sp)), ((h1.stored (j * 2) _).1.stored (j * 2 + 1) _).1, fun i hi => ?_⟩
  by_cases e : i = j
  · subst e
    refine ⟨k, sp, ?_, ?_, ?_⟩
    · simp only [setT, if_pos]
      rw [List.getElem?_set_ne (by omega), List.getElem?_set_self (by omega)]
    · simp only [setT, if_pos]
      rw [List.getElem?_set_self (by simp; omega)]
    · simp only [setT, if_pos]
      exact (ht.setCell (a := ⟨g, i * 2, none⟩) (fun h => h.2 rfl) _).setCell (a := ⟨g, i * 2 + 1, none⟩) (fun h => h.2 rfl) _
  · obtain ⟨k', sp', e1, e2, e3⟩ := h2 i hi
    simp only [setT, if_neg e]
    refine ⟨k', sp', ?_, ?_, (e3.setCell (a := ⟨g, j * 2, none⟩) (fun h => h.2 rfl) _).setCell (a := ⟨g, j * 2 + 1, none⟩) (fun h => h.2 rfl) _⟩
    · rw [List.getElem?_set_ne (by omega), List.getElem?_set_ne (by omega)]; exact e1
    · rw [List.getElem?_set_ne (by omega), List.getElem?_set_ne (by omega)]; exact e2
theorem RowSet.congr {p : Nat → Prop} {B : Nat} {w : World} {g n : Nat} {ks ls : Nat → T} (h : RowSet p B w g n ks) (he : ∀ i, i < n → ks i = ls i) : RowSet p B w g n ls := by
  obtain ⟨cs, h1, h2⟩ := h
  refine ⟨cs, h1, fun i hi => ?_⟩
  rw [← he i hi]; exact h2 i hi
theorem RowSet.mono {p q : Nat → Prop} {B : Nat} {w : World} {g n : Nat} {ks : Nat → T} (h : RowSet p B w g n ks) (hpq : ∀ b, p b → b < w.heap.size → q b) : RowSet q B w g n ks := by
  obtain ⟨cs, h1, h2⟩ := h
  refine ⟨cs, h1, fun i hi => ?_⟩
  obtain ⟨k, sp, e1, e2, e3⟩ := h2 i hi
  exact ⟨k, sp, e1, e2, e3.mono (fun b h h2 => ⟨hpq b h.1 h2, h.2⟩)⟩
def listT (n : Nat) (ks : Nat → T) : List T := (List.range n).map ks
theorem listT_length (n : Nat) (ks : Nat → T) : (listT n ks).length = n := by simp [listT]
theorem listT_gK {n : Nat} {ks : Nat → T} {i : Nat} (hi : i < n) : gK (listT n ks) i = ks i := by simp [listT, gK, hi]
theorem RowSet.row {p : Nat → Prop} {B : Nat} {w : World} {g n : Nat} {ks : Nat → T} (h : RowSet p B w g n ks) : RowP (fun b => (p b ∧ b ≠ g) ∨ b = g) w (some ⟨g, 0, none⟩) (listT n ks) := fun i hi => by
  rw [listT_length] at hi
  obtain ⟨k, sp, e1, e2, _, _, e3⟩ := h.get hi
  rw [listT_gK hi]
  exact ⟨g, 0, k, sp, rfl, .inr rfl, by simpa using e1, by simpa using e2, e3.mono (fun b h _ => .inl h)⟩
theorem RowSet.made {w w' : World} {g n : Nat} {B : Nat} (h : w'.ownsRow B 38 2 (.slice (some ⟨g, 0, none⟩) n n) n (madeCells (Value.agg #[.int .i64 0, .slice none 0 0]).cells (n * 2)).toList) (p : Nat → Prop) : RowSet p B w' g n (fun _ => zeroT) := by
  have e0 : (i0 : Nat) → i0 < n * 2 → (madeCells (Value.agg #[.int .i64 0, .slice none 0 0]).cells (n * 2)).toList[i0]? = some (#[Value.int .i64 0, .slice none 0 0][i0 % 2]!) := by
    intro i0 hi0
    have hz : (Value.agg #[.int .i64 0, .slice none 0 0]).cells = #[Value.int .i64 0, .slice none 0 0] := by rfl
    rw [hz]
    simp [madeCells, hi0]
  refine ⟨_, h, fun i hi => ⟨none, 0, ?_, ?_, TreeP.zero _ _⟩⟩
  · rw [e0 _ (by omega), Nat.mul_mod_left]; rfl
  · rw [e0 _ (by omega), show (i * 2 + 1) % 2 = 1 by omega]; rfl
end Go.Proofs.Ytlhnfdjidjgfgaa
namespace Go.Proofs.Ytlhnfdjidjgfgaa
open Go.RowKit Go.Shelf
set_option linter.unusedVariables false

theorem RowP.mono {p q : Nat → Prop} {w : World} {ao : Option Addr} {ks : List T} (h : RowP p w ao ks) (hpq : ∀ b, p b → b < w.heap.size → q b) : RowP q w ao ks := fun i hi => by
  obtain ⟨b, off, k, sp, e, hp, h1, h2, h3⟩ := h i hi
  exact ⟨b, off, k, sp, e, hpq b hp (block_lt_of_cell h1), h1, h2, h3.mono hpq⟩
theorem at_mem {l : List Fct} {w : World} (h : ∀ f ∈ l, f.holds w) : ∀ i, (Fct.at l i).holds w := by
  induction l with
  | nil => intro i; trivial
  | cons f r ih =>
    intro i
    cases i with
    | zero => exact h f (by simp)
    | succ i => exact ih (fun g hg => h g (by simp [hg])) i
theorem mem_at {l : List Fct} {w : World} (h : ∀ i, (Fct.at l i).holds w) : ∀ f ∈ l, f.holds w := by
  induction l with
  | nil => intro f hf; cases hf
  | cons f r ih =>
    intro g hg
    rcases List.mem_cons.1 hg with rfl | hg
    · exact h 0
    · exact ih (fun i => h (i + 1)) g hg
theorem St.sub {w0 w : World} {l l' : List Fct} (S : St w0 w l) (h : ∀ f ∈ l', f ∈ l) : St w0 w l' := ⟨S.1, at_mem fun f hf => mem_at S.2 f (h f hf)⟩
theorem St.cons {w0 w : World} {l : List Fct} (S : St w0 w l) (f : Fct) (hf : f.holds w) : St w0 w (f :: l) := ⟨S.1, fun i => match i with | 0 => hf | i + 1 => S.2 i⟩
theorem St.boxH {w0 w : World} {l : List Fct} (S : St w0 w l) {b : Nat} (hb : w.heap.size = b) (cs : Array Value) (T : TypeId) : St w0 (w.alloc (.cells cs T)) (.box b cs T :: l) := by
  subst hb
  exact (S.alloc _).cons (.box _ cs T) (heap_ofAlloc w (.cells cs T))
theorem St.tail {w0 w : World} {f : Fct} {l : List Fct} (S : St w0 w (f :: l)) : St w0 w l := S.drop

def fdel : List Fct → Nat → List Fct
  | [], _ => []
  | _ :: r, 0 => r
  | f :: r, i + 1 => f :: fdel r i
def fins (f : Fct) : Nat → List Fct → List Fct
  | 0, l => f :: l
  | _ + 1, [] => [f]
  | i + 1, g :: r => g :: fins f i r
theorem mem_fdel {f : Fct} : ∀ {l : List Fct} {i : Nat}, f ∈ fdel l i → f ∈ l
  | [], _, h => by cases h
  | _ :: _, 0, h => by simp [fdel] at h; simp [h]
  | g :: r, i + 1, h => by
    simp only [fdel, List.mem_cons] at h ⊢
    rcases h with h | h
    · exact .inl h
    · exact .inr (mem_fdel h)
theorem mem_fins {f g : Fct} : ∀ {i : Nat} {l : List Fct}, f ∈ fins g i l → f = g ∨ f ∈ l
  | 0, _, h => by simpa [fins] using h
  | _ + 1, [], h => by simp [fins] at h; exact .inl h
  | i + 1, k :: r, h => by
    simp only [fins, List.mem_cons] at h ⊢
    rcases h with h | h
    · exact .inr (.inl h)
    · rcases mem_fins h with h | h
      · exact .inl h
      · exact .inr (.inr h)
/-- fact number i to the front -/
theorem St.pull {w0 w : World} {l : List Fct} (S : St w0 w l) (i : Nat) : St w0 w (Fct.at l i :: fdel l i) := ⟨S.1, fun j => match j with
  | 0 => S.2 i
  | j + 1 => at_mem (fun f hf => mem_at S.2 f (mem_fdel hf)) j⟩
/-- the front fact back to place i -/
theorem St.back {w0 w : World} {f : Fct} {l : List Fct} (S : St w0 w (f :: l)) (i : Nat) : St w0 w (fins f i l) :=
  ⟨S.1, at_mem fun g hg => mem_at S.2 g (by rcases mem_fins hg with h | h <;> simp [h])⟩

def Fct.rset (p : Nat → Prop) (B g n : Nat) (bs : Nat → T) : Fct :=
  ⟨fun c => c = g ∨ p c, fun w => RowSet p B w g n bs, fun w w' h ht => by
    obtain ⟨cs, ho, hk⟩ := ht
    exact ⟨cs, ownsRow_carry ho (fun b hb hlt => h b (.inl (by simpa [Value.ownBlock] using hb.symm)) hlt), fun i hi => by
      obtain ⟨k, sp, c1, c2, c3⟩ := hk i hi
      exact ⟨k, sp, c1, c2, c3.carry (fun b hb hlt => h b (.inr hb.1) hlt)⟩⟩⟩
theorem St.rset {w0 w : World} {l : List Fct} (S : St w0 w l) (i : Nat) {p : Nat → Prop} {B g n : Nat} {bs : Nat → T} (h : Fct.at l i = Fct.rset p B g n bs := by rfl) : RowSet p B w g n bs := by
  have := S.2 i
  rw [h] at this; exact this
/-- a place of the row is written -/
theorem St.rput {w0 w : World} {l : List Fct} {p p' : Nat → Prop} {B g n : Nat} {bs : Nat → T} (S : St w0 w (.rset p B g n bs :: l)) {j : Nat} (hj : j < n) {t : T} {k : Option Addr} {sp : Nat}
    (ht : TreeP p' w (.agg #[.int .i64 t.head, .slice k t.kids.length (t.kids.length + sp)]) t) (hp : ∀ b, p b → p' b) (hg : ¬ p' g) (h0 : w0.heap.size ≤ g) (hoff : offAll g l) :
    St w0 ((w.setCell ⟨g, j * 2, Option.none⟩ (.int .i64 t.head)).setCell ⟨g, j * 2 + 1, Option.none⟩ (.slice k t.kids.length (t.kids.length + sp))) (.rset p' B g n (setT bs j t) :: l) := by
  refine ⟨(S.bel.setCell (p := ⟨g, j * 2, Option.none⟩) h0 _).setCell (p := ⟨g, j * 2 + 1, Option.none⟩) h0 _, fun i => ?_⟩
  match i with
  | 0 => exact ((S.rset 0).mono (fun b h _ => hp b h)).set hj (ht.mono fun b h _ => ⟨h, fun e => hg (e ▸ h)⟩)
  | i + 1 =>
    refine (Fct.at l i).stable w _ (fun c hc hlt => ?_) (S.2 (i + 1))
    have hne : c ≠ g := fun e => offAll_at hoff i (e ▸ hc)
    exact (Below.heap_setCell _ _ _ _ hne).trans (Below.heap_setCell _ _ _ _ hne)
theorem St.rmono {w0 w : World} {l : List Fct} {p p' : Nat → Prop} {B g n : Nat} {bs : Nat → T} (S : St w0 w (.rset p B g n bs :: l)) (hp : ∀ b, p b → b < w.heap.size → p' b) : St w0 w (.rset p' B g n bs :: l) :=
  S.tail.cons (.rset p' B g n bs) ((S.rset 0).mono hp)
end Go.Proofs.Ytlhnfdjidjgfgaa
