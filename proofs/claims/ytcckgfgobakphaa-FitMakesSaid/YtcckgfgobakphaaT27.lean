/-
  Walks: the law's two, treeFact.
-/
import Derived.Test.YtcckgfgobakphaaProg
import Derived.Test.YtcckgfgobakphaaBase
import Derived.Test.YtcckgfgobakphaaT14
import Derived.Test.YtcckgfgobakphaaT20
import Derived.Test.YtcckgfgobakphaaT26
import Derived.Test.YtcckgfgobakphaaRinv
namespace Go.Proofs.Ytcckgfgobakphaa
open Go.RowKit Go.Shelf
set_option linter.unusedVariables false
set_option maxHeartbeats 400000

def OneTree (t : T) (w : World) (e : Ending) (w' : World) : Prop := ∃ u, e = .returned u ∧ TreeAt w' u t ∧ Below w.heap.size w w'

theorem cellsN {W : World} {B : Nat} {cs : Array Value} {ty : TypeId} (h : W.heap[B]? = some (.cells cs ty (0, 0))) (j : Nat) : W.cell? ⟨B, j, none⟩ = cs[j]? := by
  simp [World.cell?, h]
theorem row_two {W : World} {B : Nat} {a b : T} {ka kb : Option Addr} {sa sb : Nat} (h : W.heap[B]? = some (.cells #[.int .i64 a.head, .slice ka a.kids.length (a.kids.length + sa), .int .i64 b.head, .slice kb b.kids.length (b.kids.length + sb)] 24 (0, 0)))
    (ha : TreeAt W (.agg #[.int .i64 a.head, .slice ka a.kids.length (a.kids.length + sa)]) a) (hb : TreeAt W (.agg #[.int .i64 b.head, .slice kb b.kids.length (b.kids.length + sb)]) b) : RowAt W (some ⟨B, 0, none⟩) [a, b] := fun i hi => by
  have h2 : i < 2 := by simpa using hi
  rcases (show i = 0 ∨ i = 1 by omega) with rfl | rfl
  · exact ⟨B, 0, ka, sa, rfl, by rw [cellsN h]; rfl, by rw [cellsN h]; rfl, ha⟩
  · exact ⟨B, 0, kb, sb, rfl, by rw [cellsN h]; rfl, by rw [cellsN h]; rfl, hb⟩
theorem row_one {W : World} {B : Nat} {a : T} {ka : Option Addr} {sa : Nat} (h : W.heap[B]? = some (.cells #[.int .i64 a.head, .slice ka a.kids.length (a.kids.length + sa)] 24 (0, 0)))
    (ha : TreeAt W (.agg #[.int .i64 a.head, .slice ka a.kids.length (a.kids.length + sa)]) a) : RowAt W (some ⟨B, 0, none⟩) [a] := fun i hi => by
  have h2 : i = 0 := by simpa using hi
  subst h2
  exact ⟨B, 0, ka, sa, rfl, by rw [cellsN h]; rfl, by rw [cellsN h]; rfl, ha⟩

theorem row_leaf {W : World} {B : Nat} {h : Int} (hb : W.heap[B]? = some (.cells #[.int .i64 h, .slice none 0 0] 24 (0, 0))) : RowAt W (some ⟨B, 0, none⟩) [.node h []] :=
  row_one (a := .node h []) (ka := none) (sa := 0) hb (TreeP.leaf (fun _ => True) W h).at
set_option maxRecDepth 100000 in
theorem two46 (h : Int) (a b : T) (va vb : Value) (w : World) (ha : TreeAt w va a) (hb : TreeAt w vb b) : Calls Try.prog 46 #[.int .i64 h, va, vb] w (OneTree (.node h [a, b]) w) := by
  obtain ⟨ka, sa, rfl⟩ := ha.form
  obtain ⟨kb, sb, rfl⟩ := hb.form
  have HA := Lib.hid ha; have HB := Lib.hid hb
  clear ha hb
  go_enter Try.func46, Try.ntmps46
  go_wp2_with fail
  have hbw := ((((Below.refl w.heap.size w).alloc (Nat.le_refl _) (.cells #[.int .i64 a.head, .slice ka a.kids.length (a.kids.length + sa)] 24)).alloc (by simp) (.cells #[.int .i64 b.head, .slice kb b.kids.length (b.kids.length + sb)] 24)).alloc (by simp; omega) (.cells #[.int .i64 h, .slice (some ⟨w.heap.size + 1 + 1 + 1, 0, none⟩) 2 2] 24)).alloc (by simp; omega) (.cells #[.int .i64 a.head, .slice ka a.kids.length (a.kids.length + sa), .int .i64 b.head, .slice kb b.kids.length (b.kids.length + sb)] 24)
  have h3 := heap_ofAlloc (((w.alloc (.cells #[.int .i64 a.head, .slice ka a.kids.length (a.kids.length + sa)] 24)).alloc (.cells #[.int .i64 b.head, .slice kb b.kids.length (b.kids.length + sb)] 24)).alloc (.cells #[.int .i64 h, .slice (some ⟨w.heap.size + 1 + 1 + 1, 0, none⟩) 2 2] 24)) (.cells #[.int .i64 a.head, .slice ka a.kids.length (a.kids.length + sa), .int .i64 b.head, .slice kb b.kids.length (b.kids.length + sb)] 24)
  have h2 := heap_alloc_old (o' := .cells #[.int .i64 a.head, .slice ka a.kids.length (a.kids.length + sa), .int .i64 b.head, .slice kb b.kids.length (b.kids.length + sb)] 24) (heap_ofAlloc ((w.alloc (.cells #[.int .i64 a.head, .slice ka a.kids.length (a.kids.length + sa)] 24)).alloc (.cells #[.int .i64 b.head, .slice kb b.kids.length (b.kids.length + sb)] 24)) (.cells #[.int .i64 h, .slice (some ⟨w.heap.size + 1 + 1 + 1, 0, none⟩) 2 2] 24))
  simp only [World.size_alloc] at h2 h3
  refine ret_box2 (.int .i64 h) (.slice (some ⟨w.heap.size + 1 + 1 + 1, 0, none⟩) 2 2) (w.heap.size + 1 + 1) 24 h2 (fun w' q0 q1 => by simp [results, Try.results46, go_sem, q0, q1]) rfl ?_
  exact ⟨_, rfl, TreeAt.close (ks := [a, b]) (sp := 0) (row_two h3 (HA.out.kept hbw) (HB.out.kept hbw)) (by unfold maxLen; simp), hbw⟩

theorem do21n (t : T) (bs : List T) (v : Value) (bo : Option Addr) (n bc : Nat) (w : World) (hn : bs.length = n) (ht : TreeAt w v t) (hb : RowAt w bo bs) :
    Calls Try.prog 21 #[v, .slice bo n bc] w (DoPost (doF t bs) w) := by subst hn; exact do21 t bs v bo bc w ht hb

def factT : T := .node 1 [.node 2 [], .node (-1) []]
def factS : T := .node 1 [.node 2 [], .node 3 []]
theorem fact_at : atF factT [2] = (.node (-1) [], (0, 0)) := by rfl
theorem fact_do : doF factT [.node 3 []] = (factS, (0, 0)) := by rfl

/-- what holds in the course of treeFact's third statement: which slots have been filled, ahead of the stores -/
def Av (s4 s5 : Value) (b : Nat) : Prop := s4 ≠ .pointer (some ⟨b, 0, none⟩) ∧ s5 ≠ .pointer (some ⟨b, 0, none⟩)
def TupF (uk3 : Option Addr) (usp3 : Nat) : Value := .tuple #[.agg #[.int .i64 1, .slice uk3 2 (2 + usp3)], .agg #[.int .i64 0, .int .i64 0]]
structure FactM (w6 : World) (uk : Option Addr) (usp : Nat) (c0 c1 c2 c3 c4 c5 c6 c7 c8 : Bool) (s4 s5 s15 s16 s17 s18 s19 s20 s21 : Value) (W : World) : Prop where
  bel : Below w6.heap.size w6 W
  fr : ∀ b, W.heap.size ≤ b → Av s4 s5 b
  lo : ∀ b, b < w6.heap.size → Av s4 s5 b
  l0 : c0 = true → s16 = .agg #[.int .i64 1, .slice uk 2 (2 + usp)]
  l1 : c1 = true → s17 = .agg #[.int .i64 3, .slice none 0 0]
  l2 : c2 = true → ∃ bl, s18 = .slice (some ⟨bl, 0, none⟩) 1 1 ∧ W.heap[bl]? = some (.cells #[.int .i64 3, .slice none 0 0] 24 (0, 0)) ∧ Av s4 s5 bl
  l3 : c3 = true → ∃ uk3 usp3, s19 = TupF uk3 usp3 ∧ TreeP (Av s4 s5) W (.agg #[.int .i64 1, .slice uk3 2 (2 + usp3)]) factS
  l4 : c4 = true → ∃ uk3 usp3, s15 = TupF uk3 usp3 ∧ TreeP (Av s4 s5) W (.agg #[.int .i64 1, .slice uk3 2 (2 + usp3)]) factS
  l5 : c5 = true → ∃ uk3 usp3, s20 = .agg #[.int .i64 1, .slice uk3 2 (2 + usp3)] ∧ TreeP (Av s4 s5) W (.agg #[.int .i64 1, .slice uk3 2 (2 + usp3)]) factS
  l6 : c6 = true → s21 = .agg #[.int .i64 0, .int .i64 0]
  l7 : c7 = true → ∃ b4, s4 = .pointer (some ⟨b4, 0, none⟩) ∧ W.heap[b4]? = some (.cells #[.int .i64 0, .slice none 0 0] 24 (0, 0)) ∧ w6.heap.size ≤ b4 ∧ s5 ≠ .pointer (some ⟨b4, 0, none⟩)
  l8 : c8 = true → ∃ b5, s5 = .pointer (some ⟨b5, 0, none⟩) ∧ W.heap[b5]? = some (.cells #[.int .i64 0, .int .i64 0] 28 (0, 0)) ∧ w6.heap.size ≤ b5
theorem FactM.mono {w6 W W' : World} {uk : Option Addr} {usp : Nat} {c0 c1 c2 c3 c4 c5 c6 c7 c8 : Bool} {s4 s5 s15 s16 s17 s18 s19 s20 s21 : Value} (h : FactM w6 uk usp c0 c1 c2 c3 c4 c5 c6 c7 c8 s4 s5 s15 s16 s17 s18 s19 s20 s21 W)
    (hb : Below W.heap.size W W') : FactM w6 uk usp c0 c1 c2 c3 c4 c5 c6 c7 c8 s4 s5 s15 s16 s17 s18 s19 s20 s21 W' where
  bel := Below.step h.bel hb
  fr := fun b h1 => h.fr b (Nat.le_trans hb.size h1)
  lo := h.lo
  l0 := h.l0
  l1 := h.l1
  l2 := fun hc => by obtain ⟨bl, e1, e2, e3⟩ := h.l2 hc; exact ⟨bl, e1, Below.heapAt hb e2, e3⟩
  l3 := fun hc => by obtain ⟨u, q, e1, e2⟩ := h.l3 hc; exact ⟨u, q, e1, e2.kept hb⟩
  l4 := fun hc => by obtain ⟨u, q, e1, e2⟩ := h.l4 hc; exact ⟨u, q, e1, e2.kept hb⟩
  l5 := fun hc => by obtain ⟨u, q, e1, e2⟩ := h.l5 hc; exact ⟨u, q, e1, e2.kept hb⟩
  l6 := h.l6
  l7 := fun hc => by obtain ⟨b4, e1, e2, e3⟩ := h.l7 hc; exact ⟨b4, e1, Below.heapAt hb e2, e3⟩
  l8 := fun hc => by obtain ⟨b5, e1, e2, e3⟩ := h.l8 hc; exact ⟨b5, e1, Below.heapAt hb e2, e3⟩
/-- behind the first store -/
structure FactN (w6 : World) (c6 c10 : Bool) (s4 s5 s15 s21 : Value) (W : World) : Prop where
  bel : Below w6.heap.size w6 W
  t15 : ∃ uk3 usp3, s15 = TupF uk3 usp3
  l6 : c6 = true → s21 = .agg #[.int .i64 0, .int .i64 0]
  l : ∃ b4 b5 x y uk3 usp3, s4 = .pointer (some ⟨b4, 0, none⟩) ∧ s5 = .pointer (some ⟨b5, 0, none⟩) ∧ w6.heap.size ≤ b5 ∧ b4 ≠ b5 ∧ W.heap[b4]? = some (.cells #[.int .i64 1, .slice uk3 2 (2 + usp3)] 24 (0, 0)) ∧ W.heap[b5]? = some (.cells #[.int .i64 x, .int .i64 y] 28 (0, 0)) ∧
    TreeP (fun b => b ≠ b5) W (.agg #[.int .i64 1, .slice uk3 2 (2 + usp3)]) factS ∧ (c10 = true → x = 0 ∧ y = 0)

structure FactR (w7 : World) (b3 b5 : Nat) (uk2 : Option Addr) (usp2 : Nat) (uk3 : Option Addr) (usp3 : Nat) (c0 c1 c2 c3 c4 c5 c6 c7 c8 c9 c10 c11 c12 c13 c14 c15 c16 c17 c18 c19 c20 : Bool) (s22 s23 s24 s25 s26 s27 s28 s29 s30 s31 s32 s33 s34 s35 s36 s37 s38 s39 s40 s41 s0 : Value) (W : World) : Prop where
  bel : Below w7.heap.size w7 W
  l0 : c0 = true → s22 = .pointer (some ⟨b3, 0, none⟩)
  l1 : c1 = true → s23 = .int .i64 0
  l2 : c2 = true → s24 = .bool true
  l3 : c3 = true → s25 = .bool true
  l4 : c4 = true → s26 = .pointer (some ⟨b5, 0, none⟩)
  l5 : c5 = true → s27 = .int .i64 0
  l6 : c6 = true → s28 = .bool true
  l7 : c7 = true → s29 = .bool true
  l8 : c8 = true → s30 = .bool true
  l9 : c9 = true → s31 = .agg #[.int .i64 (-1), .slice uk2 0 usp2]
  l10 : c10 = true → s32 = .agg #[.int .i64 (-1), .slice none 0 0]
  l11 : c11 = true → s33 = .bool true
  l12 : c12 = true → s34 = .bool true
  l13 : c13 = true → s35 = .bool true
  l14 : c14 = true → s36 = .agg #[.int .i64 1, .slice uk3 2 (2 + usp3)]
  l15 : c15 = true → s37 = .agg #[.int .i64 2, .slice none 0 0]
  l16 : c16 = true → s38 = .agg #[.int .i64 3, .slice none 0 0]
  l17 : c17 = true → ∃ uk6 usp6, s39 = .agg #[.int .i64 1, .slice uk6 2 (2 + usp6)] ∧ TreeAt W (.agg #[.int .i64 1, .slice uk6 2 (2 + usp6)]) factS
  l18 : c18 = true → s40 = .bool true
  l19 : c19 = true → s41 = .bool true
  l20 : c20 = true → s0 = .bool true
theorem FactR.mono {w7 : World} {b3 b5 : Nat} {uk2 : Option Addr} {usp2 : Nat} {uk3 : Option Addr} {usp3 : Nat} {c0 c1 c2 c3 c4 c5 c6 c7 c8 c9 c10 c11 c12 c13 c14 c15 c16 c17 c18 c19 c20 : Bool} {s22 s23 s24 s25 s26 s27 s28 s29 s30 s31 s32 s33 s34 s35 s36 s37 s38 s39 s40 s41 s0 : Value} {W W' : World} (h : FactR w7 b3 b5 uk2 usp2 uk3 usp3 c0 c1 c2 c3 c4 c5 c6 c7 c8 c9 c10 c11 c12 c13 c14 c15 c16 c17 c18 c19 c20 s22 s23 s24 s25 s26 s27 s28 s29 s30 s31 s32 s33 s34 s35 s36 s37 s38 s39 s40 s41 s0 W) (hb : Below W.heap.size W W') : FactR w7 b3 b5 uk2 usp2 uk3 usp3 c0 c1 c2 c3 c4 c5 c6 c7 c8 c9 c10 c11 c12 c13 c14 c15 c16 c17 c18 c19 c20 s22 s23 s24 s25 s26 s27 s28 s29 s30 s31 s32 s33 s34 s35 s36 s37 s38 s39 s40 s41 s0 W' where
  bel := Below.step h.bel hb
  l0 := h.l0
  l1 := h.l1
  l2 := h.l2
  l3 := h.l3
  l4 := h.l4
  l5 := h.l5
  l6 := h.l6
  l7 := h.l7
  l8 := h.l8
  l9 := h.l9
  l10 := h.l10
  l11 := h.l11
  l12 := h.l12
  l13 := h.l13
  l14 := h.l14
  l15 := h.l15
  l16 := h.l16
  l17 := fun hc => by obtain ⟨uk6, usp6, e1, e2⟩ := h.l17 hc; exact ⟨uk6, usp6, e1, e2.kept hb⟩
  l18 := h.l18
  l19 := h.l19
  l20 := h.l20

set_option maxRecDepth 100000 in
set_option maxHeartbeats 4000000 in
theorem treeFact23 (w : World) : Calls Try.prog 23 #[] w fun e w' => e = .returned (.bool true) ∧ Below w.heap.size w w' := by
  go_enter Try.func23, Try.ntmps23
  go_wp2_with fail
  refine (leaf25 2 w).mono ?_
  rintro e w1 ⟨rfl, hb1⟩
  go_wp2_with fail
  refine (leaf25 (-1) w1).mono ?_
  rintro e w2 ⟨rfl, hb2⟩
  have hb02 := Below.step hb1 hb2
  go_wp2_with fail
  refine (two46 1 (.node 2 []) (.node (-1) []) _ _ w2 (TreeP.leaf (fun _ => True) w2 2).at (TreeP.leaf (fun _ => True) w2 (-1)).at).mono ?_
  rintro e w3 ⟨u, rfl, hu, hb3⟩
  obtain ⟨uk, usp, rfl⟩ := hu.form
  have hb03 := Below.step hb02 hb3
  change TreeAt w3 _ factT at hu
  have HU := Lib.hid hu
  clear hu hb1 hb2 hb3 hb02
  simp only [T.head, T.kids, List.length_cons, List.length_nil, Nat.zero_add, Nat.reduceAdd] at HU ⊢
  go_wp2_with fail
  have h13 := heap_alloc_old (o' := .cells #[.int .i64 2] 3) (heap_ofAlloc w3 (.cells #[.int .i64 1, .slice uk 2 (2 + usp)] 24))
  have hp3 := heap_ofAlloc (w3.alloc (.cells #[.int .i64 1, .slice uk 2 (2 + usp)] 24)) (.cells #[.int .i64 2] 3)
  rw [World.size_alloc] at hp3
  have hbB := below_two w3 (.cells #[.int .i64 1, .slice uk 2 (2 + usp)] 24) (.cells #[.int .i64 2] 3)
  generalize (w3.alloc (.cells #[.int .i64 1, .slice uk 2 (2 + usp)] 24)).alloc (.cells #[.int .i64 2] 3) = w4 at h13 hp3 hbB ⊢
  have hcp : CellsAt w4 (some ⟨w3.heap.size + 1, 0, none⟩) [(2 : Int)].length (fun j => .int .i64 (gI [(2 : Int)] j)) := fun j hj => by
    have : j = 0 := by simpa using hj
    subst this
    exact ⟨_, _, rfl, (box1 hp3).1⟩
  have H1 := at27 factT [2] (.agg #[.int .i64 1, .slice uk 2 (2 + usp)]) (some ⟨w3.heap.size + 1, 0, none⟩) 1 w4 (HU.out.kept hbB) hcp (by simp)
  rw [fact_at] at H1
  have hb04 := Below.step hb03 hbB
  have HU4 := Lib.hid (HU.out.kept hbB)
  refine H1.mono ?_
  rintro e w5 ⟨u2, rfl, hu2, hb5⟩
  obtain ⟨uk2, usp2, rfl⟩ := hu2.form
  have h15 := Below.heapAt hb5 h13
  have hb05 := Below.step hb04 hb5
  have HU5 := Lib.hid (HU4.out.kept hb5)
  have HU2 := Lib.hid hu2
  clear H1 hcp hp3 hbB hb03 HU HU4 hb04 hb5 h13 hu2
  simp only [FV, T.head, T.kids, List.length_nil, Nat.zero_add] at HU2 ⊢
  obtain ⟨⟨x0, _⟩, x1, _⟩ := box2 h15
  have hl1 := heap_lt h15
  go_wp2_with fail
  have h16 := heap_alloc_old (o' := .cells #[.int .i64 0, .int .i64 0] 28) (heap_alloc_old (o' := .cells #[.int .i64 (-1), .slice uk2 0 usp2] 24) h15)
  have h26 := heap_alloc_old (o' := .cells #[.int .i64 0, .int .i64 0] 28) (heap_ofAlloc w5 (.cells #[.int .i64 (-1), .slice uk2 0 usp2] 24))
  have h36 := heap_ofAlloc (w5.alloc (.cells #[.int .i64 (-1), .slice uk2 0 usp2] 24)) (.cells #[.int .i64 0, .int .i64 0] 28)
  rw [World.size_alloc] at h36
  have hbB := below_two w5 (.cells #[.int .i64 (-1), .slice uk2 0 usp2] 24) (.cells #[.int .i64 0, .int .i64 0] 28)
  have hb06 := Below.step hb05 hbB
  have HU6 := Lib.hid (HU5.out.kept hbB)
  have HU26 := Lib.hid (HU2.out.kept hbB)
  clear x0 x1 hl1 h15 HU5 HU2 hb05
  generalize (w5.alloc (.cells #[.int .i64 (-1), .slice uk2 0 usp2] 24)).alloc (.cells #[.int .i64 0, .int .i64 0] 28) = w6 at h16 h26 h36 hbB hb06 HU6 HU26 ⊢
  obtain ⟨b1, hb1'⟩ : ∃ b, b = w3.heap.size := ⟨_, rfl⟩
  obtain ⟨b2, hb2'⟩ : ∃ b, b = w5.heap.size := ⟨_, rfl⟩
  obtain ⟨b3, hb3'⟩ : ∃ b, b = w5.heap.size + 1 := ⟨_, rfl⟩
  rw [← hb3'] at h36 ⊢; rw [← hb2'] at h26 ⊢; rw [← hb1'] at h16 ⊢
  clear hb1' hb2' hb3' hbB
  have H16 := Lib.hid h16; have H26 := Lib.hid h26; have H36 := Lib.hid h36
  clear h16 h26 h36
  refine wp_region_inv (by kernel_rfl) (by kernel_rfl) (fun L a W => ∃ s4 s5 s15 s16 s17 s18 s19 s20 s21 : Value,
    a = { tmps := #[.bool false, .pointer (some ⟨b1, 0, none⟩), .pointer (some ⟨b2, 0, none⟩), .pointer (some ⟨b3, 0, none⟩), s4, s5, .agg #[Value.int IntKind.i64 2, Value.slice none 0 0], .agg #[Value.int IntKind.i64 (-1), Value.slice none 0 0], .agg #[Value.int IntKind.i64 1, Value.slice uk 2 (2 + usp)], .tuple #[Value.agg #[Value.int IntKind.i64 (-1), Value.slice uk2 0 usp2], Value.agg #[Value.int IntKind.i64 0, Value.int IntKind.i64 0]], .agg #[Value.int IntKind.i64 1, Value.slice uk 2 (2 + usp)], .slice (some ⟨b1 + 1, 0, none⟩) 1 1, .tuple #[Value.agg #[Value.int IntKind.i64 (-1), Value.slice uk2 0 usp2], Value.agg #[Value.int IntKind.i64 0, Value.int IntKind.i64 0]], .agg #[Value.int IntKind.i64 (-1), Value.slice uk2 0 usp2], .agg #[Value.int IntKind.i64 0, Value.int IntKind.i64 0], s15, s16, s17, s18, s19, s20, s21, undef, undef, undef, undef, undef, undef, undef, undef, undef, undef, undef, undef, undef, undef, undef, undef, undef, undef, undef, undef], defers := [] } ∧
    (L 9 = false → FactM w6 uk usp (L 0) (L 1) (L 2) (L 3) (L 4) (L 5) (L 6) (L 7) (L 8) s4 s5 s15 s16 s17 s18 s19 s20 s21 W ∧ (L 7 = false → s4 = undef) ∧ (L 8 = false → s5 = undef) ∧ L 10 = false) ∧
    (L 9 = true → FactN w6 (L 6) (L 10) s4 s5 s15 s21 W ∧ L 0 = true ∧ L 1 = true ∧ L 2 = true ∧ L 3 = true ∧ L 4 = true ∧ L 5 = true ∧ L 7 = true ∧ L 8 = true)) ?h0 ?step ?fin
  case h0 =>
    refine ⟨undef, undef, undef, undef, undef, undef, undef, undef, undef, rfl, fun _ => ⟨⟨(Below.refl _ _).drew, ?_, ?_, ?_, ?_, ?_, ?_, ?_, ?_, ?_, ?_, ?_⟩, fun _ => rfl, fun _ => rfl, rfl⟩, fun h => by cases h⟩
    all_goals first | (intro b _; exact ⟨by simp [undef], by simp [undef]⟩) | (intro h; cases h)
  case fin =>
    rintro L a W7 hall ⟨s4, s5, s15, s16, s17, s18, s19, s20, s21, rfl, hM, hN⟩
    obtain ⟨hn, _⟩ := hN (hall 9 (by decide))
    obtain ⟨b4, b5, x, y, uk3, usp3, rfl, rfl, hg5, hne, hb4, hb5, hu, hxy⟩ := hn.l
    obtain ⟨rfl, rfl⟩ := hxy (hall 10 (by decide))
    have hbel := hn.bel
    have h2W := Below.heapAt hbel H26.out
    have h3W := Below.heapAt hbel H36.out
    have HU2W := Lib.hid (HU26.out.kept hbel)
    have HUW := Lib.hid hu.at
    have HBW := Lib.hid (Below.step hb06 hbel)
    clear hM hN hn hall hu hbel
    go_wp2_with fail
    have H2 := Lib.hid h2W; have H3 := Lib.hid h3W; have H4 := Lib.hid hb4; have H5 := Lib.hid hb5
    clear h2W h3W hb4 hb5
    refine wp_region_inv (by kernel_rfl) (by kernel_rfl) (fun L a W => ∃ s22 s23 s24 s25 s26 s27 s28 s29 s30 s31 s32 s33 s34 s35 s36 s37 s38 s39 s40 s41 s0 : Value, a = { tmps := #[s0, .pointer (some ⟨b1, 0, none⟩), .pointer (some ⟨b2, 0, none⟩), .pointer (some ⟨b3, 0, none⟩), .pointer (some ⟨b4, 0, none⟩), .pointer (some ⟨b5, 0, none⟩), .agg #[Value.int IntKind.i64 2, Value.slice none 0 0], .agg #[Value.int IntKind.i64 (-1), Value.slice none 0 0], .agg #[Value.int IntKind.i64 1, Value.slice uk 2 (2 + usp)], .tuple #[Value.agg #[Value.int IntKind.i64 (-1), Value.slice uk2 0 usp2], Value.agg #[Value.int IntKind.i64 0, Value.int IntKind.i64 0]], .agg #[Value.int IntKind.i64 1, Value.slice uk 2 (2 + usp)], .slice (some ⟨b1 + 1, 0, none⟩) 1 1, .tuple #[Value.agg #[Value.int IntKind.i64 (-1), Value.slice uk2 0 usp2], Value.agg #[Value.int IntKind.i64 0, Value.int IntKind.i64 0]], .agg #[Value.int IntKind.i64 (-1), Value.slice uk2 0 usp2], .agg #[Value.int IntKind.i64 0, Value.int IntKind.i64 0], s15, s16, s17, s18, s19, s20, s21, s22, s23, s24, s25, s26, s27, s28, s29, s30, s31, s32, s33, s34, s35, s36, s37, s38, s39, s40, s41], defers := [] } ∧ FactR W7 b3 b5 uk2 usp2 uk3 usp3 (L 0) (L 1) (L 2) (L 3) (L 4) (L 5) (L 6) (L 7) (L 8) (L 9) (L 10) (L 11) (L 12) (L 13) (L 14) (L 15) (L 16) (L 17) (L 18) (L 19) (L 20) s22 s23 s24 s25 s26 s27 s28 s29 s30 s31 s32 s33 s34 s35 s36 s37 s38 s39 s40 s41 s0 W) ?h0' ?step' ?fin'
    case h0' =>
      refine ⟨_, _, _, _, _, _, _, _, _, _, _, _, _, _, _, _, _, _, _, _, _, rfl, ⟨(Below.refl _ _).drew, ?_, ?_, ?_, ?_, ?_, ?_, ?_, ?_, ?_, ?_, ?_, ?_, ?_, ?_, ?_, ?_, ?_, ?_, ?_, ?_, ?_⟩⟩
      all_goals (intro h; cases h)
    case step' =>
      rintro L a W i o ho ⟨s22, s23, s24, s25, s26, s27, s28, s29, s30, s31, s32, s33, s34, s35, s36, s37, s38, s39, s40, s41, s0, rfl, hM⟩ hLi hdep K hK
      have hi : i < 21 := by
        have := (Array.getElem?_eq_some_iff.1 ho).1
        simpa using this
      rcases (show i = 0 ∨ i = 1 ∨ i = 2 ∨ i = 3 ∨ i = 4 ∨ i = 5 ∨ i = 6 ∨ i = 7 ∨ i = 8 ∨ i = 9 ∨ i = 10 ∨ i = 11 ∨ i = 12 ∨ i = 13 ∨ i = 14 ∨ i = 15 ∨ i = 16 ∨ i = 17 ∨ i = 18 ∨ i = 19 ∨ i = 20 by omega) with rfl | rfl | rfl | rfl | rfl | rfl | rfl | rfl | rfl | rfl | rfl | rfl | rfl | rfl | rfl | rfl | rfl | rfl | rfl | rfl | rfl
      all_goals
        simp only [List.getElem?_toArray, List.getElem?_cons_succ, List.getElem?_cons_zero, Option.some.injEq] at ho
        subst ho
        simp [Region.binds] at hdep
      · have HM := Lib.hid hM
        clear hM hdep hLi
        go_simp
        refine hK _ _ ?_
        exact ⟨_, s23, s24, s25, s26, s27, s28, s29, s30, s31, s32, s33, s34, s35, s36, s37, s38, s39, s40, s41, s0, rfl, { HM.out with l0 := fun _ => rfl }⟩
      · obtain rfl := hM.l0 (by first | exact hdep | simp [hdep])
        have HM := Lib.hid hM
        obtain ⟨⟨y0, _⟩, y1, _⟩ := box2 (Below.heapAt HM.out.bel H3.out)
        clear hM hdep hLi
        go_simp
        refine hK _ _ ?_
        exact ⟨_, _, s24, s25, s26, s27, s28, s29, s30, s31, s32, s33, s34, s35, s36, s37, s38, s39, s40, s41, s0, rfl, { HM.out with l1 := fun _ => rfl }⟩
      · obtain rfl := hM.l1 (by first | exact hdep | simp [hdep])
        have HM := Lib.hid hM
        clear hM hdep hLi
        go_simp
        refine hK _ _ ?_
        exact ⟨s22, _, _, s25, s26, s27, s28, s29, s30, s31, s32, s33, s34, s35, s36, s37, s38, s39, s40, s41, s0, rfl, { HM.out with l2 := fun _ => rfl }⟩
      · obtain rfl := hM.l2 (by first | exact hdep | simp [hdep])
        have HM := Lib.hid hM
        clear hM hdep hLi
        go_simp
        refine hK _ _ ?_
        exact ⟨s22, s23, _, _, s26, s27, s28, s29, s30, s31, s32, s33, s34, s35, s36, s37, s38, s39, s40, s41, s0, rfl, { HM.out with l3 := fun _ => rfl }⟩
      · obtain rfl := hM.l3 (by first | exact hdep | simp [hdep])
        have HM := Lib.hid hM
        clear hM hdep hLi
        go_simp
        refine hK _ _ ?_
        exact ⟨s22, s23, s24, _, _, s27, s28, s29, s30, s31, s32, s33, s34, s35, s36, s37, s38, s39, s40, s41, s0, rfl, { HM.out with l4 := fun _ => rfl }⟩
      · obtain rfl := hM.l3 (by first | exact hdep | simp [hdep])
        obtain rfl := hM.l4 (by first | exact hdep | simp [hdep])
        have HM := Lib.hid hM
        obtain ⟨⟨y0, _⟩, y1, _⟩ := box2 (Below.heapAt HM.out.bel H5.out)
        clear hM hdep hLi
        go_simp
        refine hK _ _ ?_
        exact ⟨s22, s23, s24, _, _, _, s28, s29, s30, s31, s32, s33, s34, s35, s36, s37, s38, s39, s40, s41, s0, rfl, { HM.out with l5 := fun _ => rfl }⟩
      · obtain rfl := hM.l3 (by first | exact hdep | simp [hdep])
        obtain rfl := hM.l5 (by first | exact hdep | simp [hdep])
        have HM := Lib.hid hM
        clear hM hdep hLi
        go_simp
        refine hK _ _ ?_
        exact ⟨s22, s23, s24, _, s26, _, _, s29, s30, s31, s32, s33, s34, s35, s36, s37, s38, s39, s40, s41, s0, rfl, { HM.out with l6 := fun _ => rfl }⟩
      · obtain rfl := hM.l3 (by first | exact hdep | simp [hdep])
        obtain rfl := hM.l6 (by first | exact hdep | simp [hdep])
        have HM := Lib.hid hM
        clear hM hdep hLi
        go_simp
        refine hK _ _ ?_
        exact ⟨s22, s23, s24, _, s26, s27, _, _, s30, s31, s32, s33, s34, s35, s36, s37, s38, s39, s40, s41, s0, rfl, { HM.out with l7 := fun _ => rfl }⟩
      · obtain rfl := hM.l7 (by first | exact hdep | simp [hdep])
        have HM := Lib.hid hM
        clear hM hdep hLi
        go_simp
        refine hK _ _ ?_
        exact ⟨s22, s23, s24, s25, s26, s27, s28, _, _, s31, s32, s33, s34, s35, s36, s37, s38, s39, s40, s41, s0, rfl, { HM.out with l8 := fun _ => rfl }⟩
      · obtain rfl := hM.l8 (by first | exact hdep | simp [hdep])
        have HM := Lib.hid hM
        obtain ⟨⟨y0, _⟩, y1, _⟩ := box2 (Below.heapAt HM.out.bel H2.out)
        clear hM hdep hLi
        go_simp
        refine hK _ _ ?_
        exact ⟨s22, s23, s24, s25, s26, s27, s28, s29, _, _, s32, s33, s34, s35, s36, s37, s38, s39, s40, s41, s0, rfl, { HM.out with l9 := fun _ => rfl }⟩
      · obtain rfl := hM.l8 (by first | exact hdep | simp [hdep])
        have HM := Lib.hid hM
        clear hM hdep hLi
        go_simp
        refine (leaf25 (-1) W).mono ?_
        rintro e W' ⟨rfl, hb⟩
        refine hK _ _ ?_
        exact ⟨s22, s23, s24, s25, s26, s27, s28, s29, _, s31, _, s33, s34, s35, s36, s37, s38, s39, s40, s41, s0, rfl, { HM.out.mono hb with l10 := fun _ => rfl }⟩
      · obtain rfl := hM.l8 (by first | exact hdep | simp [hdep])
        obtain rfl := hM.l9 (by first | exact hdep | simp [hdep])
        obtain rfl := hM.l10 (by first | exact hdep | simp [hdep])
        have HM := Lib.hid hM
        clear hM hdep hLi
        go_simp
        refine (same22 (.node (-1) []) (.node (-1) []) _ _ W (HU2W.out.kept HM.out.bel) (TreeP.leaf (fun _ => True) W (-1)).at).mono ?_
        rintro e W' ⟨rfl, hb⟩
        simp only [decide_true]
        refine hK _ _ ?_
        exact ⟨s22, s23, s24, s25, s26, s27, s28, s29, _, _, _, _, s34, s35, s36, s37, s38, s39, s40, s41, s0, rfl, { HM.out.mono hb with l11 := fun _ => rfl }⟩
      · obtain rfl := hM.l8 (by first | exact hdep | simp [hdep])
        obtain rfl := hM.l11 (by first | exact hdep | simp [hdep])
        have HM := Lib.hid hM
        clear hM hdep hLi
        go_simp
        refine hK _ _ ?_
        exact ⟨s22, s23, s24, s25, s26, s27, s28, s29, _, s31, s32, _, _, s35, s36, s37, s38, s39, s40, s41, s0, rfl, { HM.out with l12 := fun _ => rfl }⟩
      · obtain rfl := hM.l12 (by first | exact hdep | simp [hdep])
        have HM := Lib.hid hM
        clear hM hdep hLi
        go_simp
        refine hK _ _ ?_
        exact ⟨s22, s23, s24, s25, s26, s27, s28, s29, s30, s31, s32, s33, _, _, s36, s37, s38, s39, s40, s41, s0, rfl, { HM.out with l13 := fun _ => rfl }⟩
      · obtain rfl := hM.l13 (by first | exact hdep | simp [hdep])
        have HM := Lib.hid hM
        obtain ⟨⟨y0, _⟩, y1, _⟩ := box2 (Below.heapAt HM.out.bel H4.out)
        clear hM hdep hLi
        go_simp
        refine hK _ _ ?_
        exact ⟨s22, s23, s24, s25, s26, s27, s28, s29, s30, s31, s32, s33, s34, _, _, s37, s38, s39, s40, s41, s0, rfl, { HM.out with l14 := fun _ => rfl }⟩
      · obtain rfl := hM.l13 (by first | exact hdep | simp [hdep])
        have HM := Lib.hid hM
        clear hM hdep hLi
        go_simp
        refine (leaf25 2 W).mono ?_
        rintro e W' ⟨rfl, hb⟩
        refine hK _ _ ?_
        exact ⟨s22, s23, s24, s25, s26, s27, s28, s29, s30, s31, s32, s33, s34, _, s36, _, s38, s39, s40, s41, s0, rfl, { HM.out.mono hb with l15 := fun _ => rfl }⟩
      · obtain rfl := hM.l13 (by first | exact hdep | simp [hdep])
        have HM := Lib.hid hM
        clear hM hdep hLi
        go_simp
        refine (leaf25 3 W).mono ?_
        rintro e W' ⟨rfl, hb⟩
        refine hK _ _ ?_
        exact ⟨s22, s23, s24, s25, s26, s27, s28, s29, s30, s31, s32, s33, s34, _, s36, s37, _, s39, s40, s41, s0, rfl, { HM.out.mono hb with l16 := fun _ => rfl }⟩
      · obtain rfl := hM.l13 (by first | exact hdep | simp [hdep])
        obtain rfl := hM.l15 (by first | exact hdep | simp [hdep])
        obtain rfl := hM.l16 (by first | exact hdep | simp [hdep])
        have HM := Lib.hid hM
        clear hM hdep hLi
        go_simp
        refine (two46 1 (.node 2 []) (.node 3 []) _ _ W (TreeP.leaf (fun _ => True) W 2).at (TreeP.leaf (fun _ => True) W 3).at).mono ?_
        rintro e W' ⟨u, rfl, hu, hb⟩
        obtain ⟨uk6, usp6, rfl⟩ := hu.form
        refine hK _ _ ?_
        exact ⟨s22, s23, s24, s25, s26, s27, s28, s29, s30, s31, s32, s33, s34, _, s36, _, _, _, s40, s41, s0, rfl, { HM.out.mono hb with l17 := fun _ => ⟨uk6, usp6, rfl, hu⟩ }⟩
      · obtain rfl := hM.l13 (by first | exact hdep | simp [hdep])
        obtain rfl := hM.l14 (by first | exact hdep | simp [hdep])
        obtain ⟨uk6, usp6, rfl, hp17⟩ := hM.l17 (by first | exact hdep | simp [hdep])
        have HP17 := Lib.hid hp17
        clear hp17
        have HM := Lib.hid hM
        clear hM hdep hLi
        go_simp
        refine (same22 factS factS _ _ W (HUW.out.kept HM.out.bel) HP17.out).mono ?_
        rintro e W' ⟨rfl, hb⟩
        simp only [decide_true]
        refine hK _ _ ?_
        exact ⟨s22, s23, s24, s25, s26, s27, s28, s29, s30, s31, s32, s33, s34, _, _, s37, s38, _, _, s41, s0, rfl, { HM.out.mono hb with l18 := fun _ => rfl }⟩
      · obtain rfl := hM.l13 (by first | exact hdep | simp [hdep])
        obtain rfl := hM.l18 (by first | exact hdep | simp [hdep])
        have HM := Lib.hid hM
        clear hM hdep hLi
        go_simp
        refine hK _ _ ?_
        exact ⟨s22, s23, s24, s25, s26, s27, s28, s29, s30, s31, s32, s33, s34, _, s36, s37, s38, s39, _, _, s0, rfl, { HM.out with l19 := fun _ => rfl }⟩
      · obtain rfl := hM.l19 (by first | exact hdep | simp [hdep])
        have HM := Lib.hid hM
        clear hM hdep hLi
        go_simp
        refine hK _ _ ?_
        exact ⟨s22, s23, s24, s25, s26, s27, s28, s29, s30, s31, s32, s33, s34, s35, s36, s37, s38, s39, s40, _, _, rfl, { HM.out with l20 := fun _ => rfl }⟩
    case fin' =>
      rintro L a W hall ⟨s22, s23, s24, s25, s26, s27, s28, s29, s30, s31, s32, s33, s34, s35, s36, s37, s38, s39, s40, s41, s0, rfl, hM⟩
      obtain rfl := hM.l0 (hall 0 (by decide))
      obtain rfl := hM.l1 (hall 1 (by decide))
      obtain rfl := hM.l2 (hall 2 (by decide))
      obtain rfl := hM.l3 (hall 3 (by decide))
      obtain rfl := hM.l4 (hall 4 (by decide))
      obtain rfl := hM.l5 (hall 5 (by decide))
      obtain rfl := hM.l6 (hall 6 (by decide))
      obtain rfl := hM.l7 (hall 7 (by decide))
      obtain rfl := hM.l8 (hall 8 (by decide))
      obtain rfl := hM.l9 (hall 9 (by decide))
      obtain rfl := hM.l10 (hall 10 (by decide))
      obtain rfl := hM.l11 (hall 11 (by decide))
      obtain rfl := hM.l12 (hall 12 (by decide))
      obtain rfl := hM.l13 (hall 13 (by decide))
      obtain rfl := hM.l14 (hall 14 (by decide))
      obtain rfl := hM.l15 (hall 15 (by decide))
      obtain rfl := hM.l16 (hall 16 (by decide))
      obtain ⟨uk6, usp6, rfl, hp17⟩ := hM.l17 (hall 17 (by decide))
      obtain rfl := hM.l18 (hall 18 (by decide))
      obtain rfl := hM.l19 (hall 19 (by decide))
      obtain rfl := hM.l20 (hall 20 (by decide))
      have hbel := hM.bel
      clear hM hall
      have hfin := Below.step HBW.out hbel
      go_wp2_with fail
      go_ret
      exact ⟨rfl, hfin⟩
  case step =>
    rintro L a W i o ho ⟨s4, s5, s15, s16, s17, s18, s19, s20, s21, rfl, hM, hN⟩ hLi hdep K hK
    have hi : i < 11 := by
      have := (Array.getElem?_eq_some_iff.1 ho).1
      simpa using this
    rcases (show i = 0 ∨ i = 1 ∨ i = 2 ∨ i = 3 ∨ i = 4 ∨ i = 5 ∨ i = 6 ∨ i = 7 ∨ i = 8 ∨ i = 9 ∨ i = 10 by omega) with rfl | rfl | rfl | rfl | rfl | rfl | rfl | rfl | rfl | rfl | rfl
    all_goals
      simp only [List.getElem?_toArray, List.getElem?_cons_succ, List.getElem?_cons_zero, Option.some.injEq] at ho
      subst ho
      simp [Region.binds] at hdep
    · have h9 : L 9 = false := by
        cases h : L 9 with
        | false => rfl
        | true => have := (hN h).2; simp [hLi] at this
      obtain ⟨hm, hu4, hu5, h10⟩ := hM h9
      obtain ⟨⟨x0, _⟩, x1, _⟩ := box2 (Below.heapAt hm.bel H16.out)
      have HM := Lib.hid hm; have HU4 := Lib.hid hu4; have HU5 := Lib.hid hu5; have H9 := Lib.hid h9; have H10 := Lib.hid h10; have HDEP := Lib.hid hdep
      clear hm hu4 hu5 h9 h10 hM hN hdep hLi
      go_simp
      refine hK _ _ ?_
      exact ⟨s4, s5, s15, _, s17, s18, s19, s20, s21, rfl, fun _ => ⟨{ HM.out with l0 := fun _ => rfl }, HU4.out, HU5.out, H10.out⟩, fun h => absurd (H9.out.symm.trans h) (by simp)⟩
    · have h9 : L 9 = false := by
        cases h : L 9 with
        | false => rfl
        | true => have := (hN h).2; simp [hLi] at this
      obtain ⟨hm, hu4, hu5, h10⟩ := hM h9
      have HM := Lib.hid hm; have HU4 := Lib.hid hu4; have HU5 := Lib.hid hu5; have H9 := Lib.hid h9; have H10 := Lib.hid h10; have HDEP := Lib.hid hdep
      clear hm hu4 hu5 h9 h10 hM hN hdep hLi
      go_simp
      refine (leaf25 3 W).mono ?_
      rintro e W' ⟨rfl, hb⟩
      refine hK _ _ ?_
      exact ⟨s4, s5, s15, s16, _, s18, s19, s20, s21, rfl, fun _ => ⟨{ HM.out.mono hb with l1 := fun _ => rfl }, HU4.out, HU5.out, H10.out⟩, fun h => absurd (H9.out.symm.trans h) (by simp)⟩
    · have h9 : L 9 = false := by
        cases h : L 9 with
        | false => rfl
        | true => have := (hN h).2; simp [hLi] at this
      obtain ⟨hm, hu4, hu5, h10⟩ := hM h9
      obtain rfl := hm.l1 hdep
      have HM := Lib.hid hm; have HU4 := Lib.hid hu4; have HU5 := Lib.hid hu5; have H9 := Lib.hid h9; have H10 := Lib.hid h10; have HDEP := Lib.hid hdep
      clear hm hu4 hu5 h9 h10 hM hN hdep hLi
      go_simp
      refine hK _ _ ?_
      have hb : Below W.heap.size W (W.alloc (.cells #[.int .i64 3, .slice none 0 0] 24)) := (Below.refl _ _).alloc (Nat.le_refl _) _
      exact ⟨s4, s5, s15, s16, _, _, s19, s20, s21, rfl, fun _ => ⟨{ HM.out.mono hb with l2 := fun _ => ⟨W.heap.size, rfl, heap_ofAlloc _ _, HM.out.fr _ (Nat.le_refl _)⟩ }, HU4.out, HU5.out, H10.out⟩, fun h => absurd (H9.out.symm.trans h) (by simp)⟩
    · have h9 : L 9 = false := by
        cases h : L 9 with
        | false => rfl
        | true => have := (hN h).2; simp [hLi] at this
      obtain ⟨hm, hu4, hu5, h10⟩ := hM h9
      obtain rfl := hm.l0 hdep.1
      obtain ⟨bl, rfl, hbl, hav⟩ := hm.l2 hdep.2.1
      have HBL := Lib.hid hbl; have HAV := Lib.hid hav
      clear hbl hav
      have HM := Lib.hid hm; have HU4 := Lib.hid hu4; have HU5 := Lib.hid hu5; have H9 := Lib.hid h9; have H10 := Lib.hid h10; have HDEP := Lib.hid hdep
      clear hm hu4 hu5 h9 h10 hM hN hdep hLi
      go_simp
      have hlt := heap_lt HBL.out
      have hp : TreeP (fun b => Av s4 s5 b ∧ b < W.heap.size) W (.agg #[.int .i64 1, .slice uk 2 (2 + usp)]) factT := ((HU6.out.foot.kept HM.out.bel).mono (fun b h h2 => ⟨HM.out.lo b h, h2⟩))
      have hr : RowP (fun b => Av s4 s5 b ∧ b < W.heap.size) W (some ⟨bl, 0, none⟩) [.node 3 []] := fun i hi => by
        have e0 : i = 0 := by simpa using hi
        subst e0
        exact ⟨bl, 0, none, 0, rfl, ⟨HAV.out, hlt⟩, by rw [cellsN HBL.out]; rfl, by rw [cellsN HBL.out]; rfl, TreeP.leaf _ W 3⟩
      refine (do21P (fun b => Av s4 s5 b ∧ b < W.heap.size) factT [.node 3 []] _ _ _ W (fun b h => h.2) hp hr).mono ?_
      rw [fact_do]
      rintro e W' ⟨u, rfl, hu, hb⟩
      obtain ⟨uk3, usp3, rfl⟩ := hu.at.form
      have hu2 : TreeP (Av s4 s5) W' (.agg #[.int .i64 1, .slice uk3 2 (2 + usp3)]) factS := hu.mono (fun b h _ => by rcases h with h | h; exact h.1; exact HM.out.fr b h)
      refine hK _ _ ?_
      exact ⟨s4, s5, s15, _, s17, _, _, s20, s21, rfl, fun _ => ⟨{ HM.out.mono hb with l3 := fun _ => ⟨uk3, usp3, rfl, hu2⟩ }, HU4.out, HU5.out, H10.out⟩, fun h => absurd (H9.out.symm.trans h) (by simp)⟩
    · have h9 : L 9 = false := by
        cases h : L 9 with
        | false => rfl
        | true => have := (hN h).2; simp [hLi] at this
      obtain ⟨hm, hu4, hu5, h10⟩ := hM h9
      obtain ⟨uk3, usp3, rfl, hu⟩ := hm.l3 hdep
      have HU := Lib.hid hu
      clear hu
      have HM := Lib.hid hm; have HU4 := Lib.hid hu4; have HU5 := Lib.hid hu5; have H9 := Lib.hid h9; have H10 := Lib.hid h10; have HDEP := Lib.hid hdep
      clear hm hu4 hu5 h9 h10 hM hN hdep hLi
      go_simp
      refine hK _ _ ?_
      exact ⟨s4, s5, _, s16, s17, s18, _, s20, s21, rfl, fun _ => ⟨{ HM.out with l4 := fun _ => ⟨uk3, usp3, rfl, HU.out⟩ }, HU4.out, HU5.out, H10.out⟩, fun h => absurd (H9.out.symm.trans h) (by simp)⟩
    · have h9 : L 9 = false := by
        cases h : L 9 with
        | false => rfl
        | true => have := (hN h).2; simp [hLi] at this
      obtain ⟨hm, hu4, hu5, h10⟩ := hM h9
      obtain ⟨uk3, usp3, rfl, hu⟩ := hm.l4 hdep
      have HU := Lib.hid hu
      clear hu
      have HM := Lib.hid hm; have HU4 := Lib.hid hu4; have HU5 := Lib.hid hu5; have H9 := Lib.hid h9; have H10 := Lib.hid h10; have HDEP := Lib.hid hdep
      clear hm hu4 hu5 h9 h10 hM hN hdep hLi
      simp only [TupF]
      go_simp
      refine hK _ _ ?_
      exact ⟨s4, s5, _, s16, s17, s18, s19, _, s21, rfl, fun _ => ⟨{ HM.out with l5 := fun _ => ⟨uk3, usp3, rfl, HU.out⟩ }, HU4.out, HU5.out, H10.out⟩, fun h => absurd (H9.out.symm.trans h) (by simp)⟩
    · cases h9 : L 9 with
      | false =>
        obtain ⟨hm, hu4, hu5, h10⟩ := hM h9
        obtain ⟨uk3, usp3, rfl, hu⟩ := hm.l4 hdep
        clear hu
        have HM := Lib.hid hm; have HU4 := Lib.hid hu4; have HU5 := Lib.hid hu5; have H9 := Lib.hid h9; have H10 := Lib.hid h10; have HDEP := Lib.hid hdep
        clear hm hu4 hu5 h9 h10 hM hN hdep hLi
        simp only [TupF]
        go_simp
        refine hK _ _ ?_
        exact ⟨s4, s5, _, s16, s17, s18, s19, s20, _, rfl, fun _ => ⟨{ HM.out with l6 := fun _ => rfl }, HU4.out, HU5.out, H10.out⟩, fun h => absurd (H9.out.symm.trans h) (by simp)⟩
      | true =>
        obtain ⟨hn, hrest⟩ := hN h9
        obtain ⟨uk3, usp3, rfl⟩ := hn.t15
        have HN := Lib.hid hn; have HR := Lib.hid hrest; have H9 := Lib.hid h9
        clear hn hrest h9 hM hN hdep hLi
        simp only [TupF]
        go_simp
        refine hK _ _ ?_
        exact ⟨s4, s5, _, s16, s17, s18, s19, s20, _, rfl, fun h => absurd (H9.out.symm.trans h) (by simp), fun _ => ⟨{ HN.out with l6 := fun _ => rfl, t15 := ⟨uk3, usp3, rfl⟩ }, HR.out⟩⟩
    · have h9 : L 9 = false := by
        cases h : L 9 with
        | false => rfl
        | true => have := (hN h).2; simp [hLi] at this
      obtain ⟨hm, hu4, hu5, h10⟩ := hM h9
      obtain rfl := hu4 hLi
      have HM := Lib.hid hm; have HU5 := Lib.hid hu5; have H9 := Lib.hid h9; have H10 := Lib.hid h10; have HDEP := Lib.hid hdep
      clear hm hu5 h9 h10 hM hN hdep hLi
      go_simp
      refine hK _ _ ?_
      have hb : Below W.heap.size W (W.alloc (.cells #[.int .i64 0, .slice none 0 0] 24)) := (Below.refl _ _).alloc (Nat.le_refl _) _
      have h0 := HM.out.mono hb
      have hs : (W.alloc (.cells #[.int .i64 0, .slice none 0 0] 24)).heap.size = W.heap.size + 1 := by simp
      have hav : ∀ b, b < W.heap.size → s5 ≠ .pointer (some ⟨b, 0, none⟩) → Av (.pointer (some ⟨W.heap.size, 0, none⟩)) s5 b := fun b h1 h2 => ⟨by simp <;> omega, h2⟩
      exact ⟨_, s5, s15, s16, s17, s18, s19, s20, s21, rfl, fun _ => ⟨{ h0 with
        fr := fun b h1 => ⟨by simp <;> omega, (h0.fr b h1).2⟩
        lo := fun b h1 => ⟨by have := HM.out.bel.size; simp <;> omega, (h0.lo b h1).2⟩
        l2 := fun hc => by obtain ⟨bl, e1, e2, e3⟩ := HM.out.l2 hc; exact ⟨bl, e1, Below.heapAt hb e2, hav bl (heap_lt e2) e3.2⟩
        l3 := fun hc => by obtain ⟨u, q, e1, e2⟩ := HM.out.l3 hc; exact ⟨u, q, e1, (e2.mono (q := fun b => Av undef s5 b ∧ b < W.heap.size) (fun b h h2 => ⟨h, h2⟩)).kept hb |>.mono (fun b h _ => hav b h.2 h.1.2)⟩
        l4 := fun hc => by obtain ⟨u, q, e1, e2⟩ := HM.out.l4 hc; exact ⟨u, q, e1, (e2.mono (q := fun b => Av undef s5 b ∧ b < W.heap.size) (fun b h h2 => ⟨h, h2⟩)).kept hb |>.mono (fun b h _ => hav b h.2 h.1.2)⟩
        l5 := fun hc => by obtain ⟨u, q, e1, e2⟩ := HM.out.l5 hc; exact ⟨u, q, e1, (e2.mono (q := fun b => Av undef s5 b ∧ b < W.heap.size) (fun b h h2 => ⟨h, h2⟩)).kept hb |>.mono (fun b h _ => hav b h.2 h.1.2)⟩
        l7 := fun _ => ⟨W.heap.size, rfl, heap_ofAlloc _ _, HM.out.bel.size, (HM.out.fr _ (Nat.le_refl _)).2⟩ }, fun h => by simp [updL] at h, HU5.out, H10.out⟩, fun h => absurd (H9.out.symm.trans h) (by simp)⟩
    · have h9 : L 9 = false := by
        cases h : L 9 with
        | false => rfl
        | true => have := (hN h).2; simp [hLi] at this
      obtain ⟨hm, hu4, hu5, h10⟩ := hM h9
      obtain rfl := hu5 hLi
      have HM := Lib.hid hm; have HU4 := Lib.hid hu4; have H9 := Lib.hid h9; have H10 := Lib.hid h10; have HDEP := Lib.hid hdep
      clear hm hu4 h9 h10 hM hN hdep hLi
      go_simp
      refine hK _ _ ?_
      have hb : Below W.heap.size W (W.alloc (.cells #[.int .i64 0, .int .i64 0] 28)) := (Below.refl _ _).alloc (Nat.le_refl _) _
      have h0 := HM.out.mono hb
      have hs : (W.alloc (.cells #[.int .i64 0, .int .i64 0] 28)).heap.size = W.heap.size + 1 := by simp
      have hav : ∀ b, b < W.heap.size → s4 ≠ .pointer (some ⟨b, 0, none⟩) → Av s4 (.pointer (some ⟨W.heap.size, 0, none⟩)) b := fun b h1 h2 => ⟨h2, by simp <;> omega⟩
      exact ⟨s4, _, s15, s16, s17, s18, s19, s20, s21, rfl, fun _ => ⟨{ h0 with
        fr := fun b h1 => ⟨(h0.fr b h1).1, by simp <;> omega⟩
        lo := fun b h1 => ⟨(h0.lo b h1).1, by have := HM.out.bel.size; simp <;> omega⟩
        l2 := fun hc => by obtain ⟨bl, e1, e2, e3⟩ := HM.out.l2 hc; exact ⟨bl, e1, Below.heapAt hb e2, hav bl (heap_lt e2) e3.1⟩
        l3 := fun hc => by obtain ⟨u, q, e1, e2⟩ := HM.out.l3 hc; exact ⟨u, q, e1, (e2.mono (q := fun b => Av s4 undef b ∧ b < W.heap.size) (fun b h h2 => ⟨h, h2⟩)).kept hb |>.mono (fun b h _ => hav b h.2 h.1.1)⟩
        l4 := fun hc => by obtain ⟨u, q, e1, e2⟩ := HM.out.l4 hc; exact ⟨u, q, e1, (e2.mono (q := fun b => Av s4 undef b ∧ b < W.heap.size) (fun b h h2 => ⟨h, h2⟩)).kept hb |>.mono (fun b h _ => hav b h.2 h.1.1)⟩
        l5 := fun hc => by obtain ⟨u, q, e1, e2⟩ := HM.out.l5 hc; exact ⟨u, q, e1, (e2.mono (q := fun b => Av s4 undef b ∧ b < W.heap.size) (fun b h h2 => ⟨h, h2⟩)).kept hb |>.mono (fun b h _ => hav b h.2 h.1.1)⟩
        l7 := fun hc => by obtain ⟨b4, e1, e2, e3, _⟩ := HM.out.l7 hc; exact ⟨b4, e1, Below.heapAt hb e2, e3, by have := heap_lt e2; simp <;> omega⟩
        l8 := fun _ => ⟨W.heap.size, rfl, heap_ofAlloc _ _, HM.out.bel.size⟩ }, HU4.out, fun h => by simp [updL] at h, H10.out⟩, fun h => absurd (H9.out.symm.trans h) (by simp)⟩
    · obtain ⟨hm, hu4, hu5, h10⟩ := hM hLi
      obtain ⟨d7, d5, d3, d0, d1, d2, _, d4, _, _, d8⟩ := hdep
      obtain ⟨uk3, usp3, rfl, hu⟩ := hm.l5 d5
      obtain ⟨b4, rfl, hb4, hg4, hne⟩ := hm.l7 d7
      obtain ⟨b5, rfl, hb5, hg5⟩ := hm.l8 d8
      obtain ⟨uk4, usp4, rfl, _⟩ := hm.l4 d4
      have hl6 := hm.l6
      have hbel := hm.bel
      have HBEL := Lib.hid hbel; have HL6 := Lib.hid hl6; have HB4 := Lib.hid hb4; have HB5 := Lib.hid hb5; have HU := Lib.hid hu; have H10 := Lib.hid h10
      have HD := Lib.hid (show L 0 = true ∧ L 1 = true ∧ L 2 = true ∧ L 3 = true ∧ L 4 = true ∧ L 5 = true ∧ L 7 = true ∧ L 8 = true from ⟨d0, d1, d2, d3, d4, d5, d7, d8⟩)
      have hne' : b4 ≠ b5 := fun e => hne (by rw [e])
      obtain ⟨⟨z0, z1⟩, z2, z3⟩ := box2 hb4
      clear hm hu4 hu5 h10 hM hN hLi d7 d5 d3 d0 d1 d2 d4 d8 hu hl6 hbel hb4 hb5 hne
      go_simp
      refine hK _ _ ?_
      refine ⟨_, _, _, s16, s17, s18, s19, _, s21, rfl, fun h => by simp [updL] at h, fun _ => ⟨⟨(HBEL.out.setCell (p := ⟨b4, 0, none⟩) hg4 _).setCell (p := ⟨b4, 1, none⟩) hg4 _, ⟨uk4, usp4, rfl⟩, HL6.out, b4, b5, 0, 0, uk3, usp3, rfl, rfl, hg5, hne', box2_set HB4.out _ _, heap_set_other (heap_set_other HB5.out (by simp <;> omega)) (by simp <;> omega), ?_, fun h => ⟨rfl, rfl⟩⟩, HD.out⟩⟩
      have e4 : ¬ Av (.pointer (some ⟨b4, 0, none⟩)) (.pointer (some ⟨b5, 0, none⟩)) b4 := fun h => h.1 rfl
      exact ((HU.out.setCell (a := ⟨b4, 0, none⟩) e4 _).setCell (a := ⟨b4, 1, none⟩) e4 _).mono (fun b h _ => fun e => h.2 (by rw [e]))
    · obtain ⟨_, d6, d9, d0, d1, d2, d3, d4, d5, _, d7, d8, _⟩ := hdep
      obtain ⟨hn, hrest⟩ := hN d9
      have HD := Lib.hid hrest
      have HN := Lib.hid hn
      obtain ⟨b4, b5, x, y, uk3, usp3, rfl, rfl, hg5, hne, hb4, hb5, hu, _⟩ := hn.l
      obtain rfl := hn.l6 d6
      have ht15 := hn.t15
      have HB4 := Lib.hid hb4; have HB5 := Lib.hid hb5; have HU := Lib.hid hu; have HT15 := Lib.hid ht15; have H9 := Lib.hid d9
      obtain ⟨⟨z0, z1⟩, z2, z3⟩ := box2 hb5
      clear hn hrest hM hN hLi d6 d9 d0 d1 d2 d3 d4 d5 d7 d8 hb4 hb5 hu ht15
      go_simp
      refine hK _ _ ?_
      exact ⟨_, _, s15, s16, s17, s18, s19, s20, _, rfl, fun h => absurd (H9.out.symm.trans h) (by simp), fun _ => ⟨⟨(HN.out.bel.setCell (p := ⟨b5, 0, none⟩) hg5 _).setCell (p := ⟨b5, 1, none⟩) hg5 _, HT15.out, fun _ => rfl, b4, b5, 0, 0, uk3, usp3, rfl, rfl, hg5, hne, heap_set_other (heap_set_other HB4.out (by simp <;> omega)) (by simp <;> omega), box2_set HB5.out _ _,
        (HU.out.setCell (a := ⟨b5, 0, none⟩) (by simp) _).setCell (a := ⟨b5, 1, none⟩) (by simp) _, fun _ => ⟨rfl, rfl⟩⟩, HD.out⟩⟩
end Go.Proofs.Ytcckgfgobakphaa
