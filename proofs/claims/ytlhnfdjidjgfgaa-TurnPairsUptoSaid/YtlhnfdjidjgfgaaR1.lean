/-
  Walks: turn.checkRule. A set of variables as a map to true.
-/
import Derived.Test.YtlhnfdjidjgfgaaProg
import Derived.Test.YtlhnfdjidjgfgaaM2
import Derived.Test.YtlhnfdjidjgfgaaSt3
import Derived.Test.YtlhnfdjidjgfgaaPa4
import Derived.Maps.OwnIn
namespace Go.Proofs.Ytlhnfdjidjgfgaa
open Go.RowKit Go.Shelf Go.Maps
set_option linter.unusedVariables false
set_option maxHeartbeats 400000
attribute [local go_sem] Oper.semAt_some

theorem zero4 (w : World) : (zeroValue 4).run Try.prog w = .ok (.bool false) w := by kernel_rfl
set_option maxRecDepth 100000 in
theorem plainElem_bool_inv {v : Value} {d : DataW Unit} {ps : List MemPlace} (h : plainElem Try.prog 4 v = some (d, ps)) : ∃ b, v = .bool b ∧ d = .lit (.bool b) := by
  unfold plainElem at h
  rw [Try.underlying4] at h
  cases v <;> simp at h
  exact ⟨_, rfl, h.1.symm⟩
/-- block b is a map that holds true at the numbers of the list -/
def MapB (b : Nat) (X : List Int) (w : World) : Prop :=
  ∃ D : DataW Unit, w.ownsMap Try.prog 3 (plainElem Try.prog 4) b X.length D ∧ Maps.IsMap D ∧ ∀ z : Int, D.atKey (.int .i64 z) (.lit (.bool false)) = .lit (.bool (decide (z ∈ X)))
theorem MapB.made (w : World) : MapB w.heap.size [] (w.alloc (.map #[] 0)) := ⟨.map [], World.ownsMap_made _ _ _ _, isMap_empty, fun z => by simp [DataW.atKey]⟩
theorem MapB.lt {b : Nat} {X : List Int} {w : World} (h : MapB b X w) : b < w.heap.size := by
  obtain ⟨D, h1, _⟩ := h
  exact h1.lt
theorem MapB.carry {b : Nat} {X : List Int} {w w' : World} (h : MapB b X w) (hb : w'.heap[b]? = w.heap[b]?) : MapB b X w' := by
  obtain ⟨D, ⟨es, clock, hm, r⟩, r2⟩ := h
  exact ⟨D, ⟨es, clock, hb.trans hm, r⟩, r2⟩
set_option maxRecDepth 100000 in
theorem MapB.look {b : Nat} {X : List Int} {w : World} (h : MapB b X w) {z : Int} (hz : (Lit.int .i64 z).wf = true) : (Instr.lookup 178 (.map (some b)) (.int .i64 z) false).run Try.prog w = .ok (.bool (decide (z ∈ X))) w := by
  obtain ⟨D, h1, h2, h3⟩ := h
  obtain ⟨v, ps, hrun, hv⟩ := h1.lookup law3 Try.underlying178 (zero4 w) (plainElem_bool Try.underlying4 false) (keyOf_int_mk Try.underlying3 hz)
  obtain ⟨x, rfl, hx⟩ := plainElem_bool_inv hv
  rw [h3] at hx
  injection hx with hx; injection hx with hx
  rw [← hx] at hrun
  exact hrun
theorem MapB.put {b : Nat} {X : List Int} {w1 : World} {D : DataW Unit} {z : Int} (h2 : Maps.IsMap D) (h3 : ∀ z : Int, D.atKey (.int .i64 z) (.lit (.bool false)) = .lit (.bool (decide (z ∈ X))))
    (ho : w1.ownsMap Try.prog 3 (plainElem Try.prog 4) b (X.length + 1) (D.put (.int .i64 z) (.lit (.bool true)))) : MapB b (X ++ [z]) w1 := by
  have hk : WideAt.IsKeyLit (.int .i64 z) := by simp [WideAt.IsKeyLit]
  refine ⟨_, by simpa using ho, h2.put _ _, fun y => ?_⟩
  by_cases e : y = z
  · subst e; rw [atKey_put_same h2 hk]; simp
  · rw [atKey_put_other (fun h => e (by injection h)), h3]; simp [e]

def badV (hs : List Int) (ns : List T) : Bool := ns.any fun x => decide (x.head < 0) && !decide (x.head ∈ hs)
def heads (ns : List T) : List Int := ns.map T.head
def ruleF (l r : T) : Int := if (treeF l).1 ≠ 0 then (treeF l).1 else if (treeF r).1 ≠ 0 then (treeF r).1 else if l.head < 0 then 5 else if badV (heads l.pre) r.pre then 5 else 0
theorem retM_cell1 {n B : Nat} {P : Program} {fn : Func} {tmps : Array Value} {R : Ending → World → Prop} (ds : List Nat) {w : World} (x : Value) (b : Nat) (T : TypeId) (hb : w.heap[b]? = some (.cells #[x] T (0, 0))) (hm : Marks B w ds) (hB : B ≤ w.heap.size)
    (hres : ∀ w' : World, w'.cell? ⟨b, 0, none⟩ = some x → (results fn tmps).run P w' = .ok x w') (hR : ∀ w', Below B w w' → R (.returned x) w') :
    bodyPostM Fence.wide n P fn R .ret { tmps := tmps, defers := ds.map mark } w :=
  bodyM_marks hm hB (fun w' h1 h2 => ⟨x, hres w' (box1 ((h2 _ _ _ _ hb).trans hb)).1, hR w' h1⟩)
theorem KpN.grown {n₀ m₀ : Nat} {W W' : World} {b : Nat} (hg : W.grownBy W' (some b)) (h : n₀ ≤ b) (h2 : b < m₀) (h0 : n₀ ≤ W.heap.size) : KpN n₀ m₀ W W' :=
  ⟨(Below.refl n₀ W).grown hg h0 (fun c hc => by cases hc; exact h), fun c cur ty fz hc _ hx => hg.block c (Array.getElem?_eq_some_iff.1 hx).1 (fun e => by cases e; omega)⟩

theorem marks2 {B : Nat} {W : World} {D D2 : Nat} (h1 : B ≤ D) (h2 : W.heap[D]? = some (.deferred (some []))) (h3 : B ≤ D2) (h4 : W.heap[D2]? = some (.deferred (some []))) (h5 : D < D2) : Marks B W [D2, D] := by
  refine ⟨by simp; omega, fun b hb => ?_⟩
  simp at hb
  rcases hb with rfl | rfl
  · exact ⟨h3, h4⟩
  · exact ⟨h1, h2⟩
theorem ownFrom_mapB {β : Type} {f : β → List Int} (bm B : Nat) (hB : bm < B) : OwnFrom B (fun (s : β) V => MapB bm (f s) V) :=
  fun s X Y row hs hg hr => hs.carry (hg.block bm hs.lt (fun e => by have := (hr bm e.symm).1; omega))
theorem frame_size' {V W2 : World} {bn : Nat} (h : ∀ b, b < W2.heap.size → b ≠ bn → V.heap[b]? = W2.heap[b]?) (hlv : bn < V.heap.size) (hlw : bn < W2.heap.size) : W2.heap.size ≤ V.heap.size := by
  by_cases h0 : W2.heap.size ≤ V.heap.size
  · exact h0
  · have h2 := h V.heap.size (by omega) (by omega)
    rw [Array.getElem?_eq_getElem (show V.heap.size < W2.heap.size by omega)] at h2
    have := (Array.getElem?_eq_some_iff.1 h2).1
    omega

set_option maxRecDepth 100000 in
set_option maxHeartbeats 4000000 in
theorem rule90 (l r : T) (kl kr : Option Addr) (sl sr : Nat) (w : World) (hl : TreeAt w (.agg #[.int .i64 l.head, .slice kl l.kids.length (l.kids.length + sl)]) l) (hr : TreeAt w (.agg #[.int .i64 r.head, .slice kr r.kids.length (r.kids.length + sr)]) r) :
    Calls Try.prog 137 #[.agg #[.int .i64 l.head, .slice kl l.kids.length (l.kids.length + sl), .int .i64 r.head, .slice kr r.kids.length (r.kids.length + sr)]] w fun e w' => e = .returned (.int .i64 (ruleF l r)) ∧ Below w.heap.size w w' := by
  have HL := Lib.hid hl; have HR := Lib.hid hr
  obtain ⟨bx, hbx⟩ : ∃ b, b = w.heap.size := ⟨_, rfl⟩
  have S1 := ((St.start w).box hbx.symm #[.int .i64 l.head, .slice kl l.kids.length (l.kids.length + sl), .int .i64 r.head, .slice kr r.kids.length (r.kids.length + sr)] 134).box (b := bx + 1) (by simp [hbx]) #[.int .i64 0] 3
  have hsz1 : ((w.alloc (.cells #[.int .i64 l.head, .slice kl l.kids.length (l.kids.length + sl), .int .i64 r.head, .slice kr r.kids.length (r.kids.length + sr)] 134)).alloc (.cells #[.int .i64 0] 3)).heap.size = bx + 2 := by simp [hbx]
  clear hl hr
  refine (callsIn_wide (n := 4)).1 ?_
  refine callsIn_of_wp_marks Try.func137 rfl trivial ?_ rfl
  simp only [Try.ntmps137, List.size_toArray, List.length_cons, List.length_nil, Nat.reduceAdd, Nat.reduceSub, Array.replicate_succ, Array.replicate_zero, List.push_toArray, List.append_toArray, List.nil_append, List.cons_append]
  refine wpIn_wide.2 ?_
  go_wp2_with fail
  rw [← hbx]
  refine S1.gen (z := bx + 2) (by omega) ?_
  intro w2 z2 S
  have HBX := Lib.hid hbx
  clear S1 hbx hsz1
  refine (S.faultF (check29 l _ w2 (HL.out.kept S.bel))).mono ?_
  rintro e w3 ⟨c, d, rfl, HC, z3, S3⟩
  clear S
  obtain ⟨b1, hb1⟩ : ∃ b, b = w3.heap.size := ⟨_, rfl⟩
  have S4 := S3.box hb1.symm #[.int .i64 c, .int .i64 d] 29
  have z4 : bx + 2 ≤ (w3.alloc (.cells #[.int .i64 c, .int .i64 d] 29)).heap.size := by simp; omega
  clear S3
  by_cases hc : c = 0
  · have hcb : (c != 0) = false := by simp [hc]
    have HOL := Lib.hid (treeF_ok.1 (show (treeF l).1 = 0 by rw [HC.out, hc]))
    have HF1 := Lib.hid (show ruleF l r = if (treeF r).1 ≠ 0 then (treeF r).1 else if l.head < 0 then 5 else if badV (heads l.pre) r.pre then 5 else 0 by unfold ruleF; rw [if_neg (by rw [HC.out]; simpa using hc)])
    obtain ⟨⟨x2, _⟩, ⟨x3, _⟩⟩ := And.intro (S4.cell 0 2 rfl) (S4.cell 0 3 rfl)
    clear hc
    go_wp2_with fail
    rw [← hb1]
    refine S4.gen (z := bx + 2) z4 ?_
    intro w5 z5 S5
    clear S4 z4 hb1 x2 x3
    refine (S5.faultF (check29 r _ w5 (HR.out.kept S5.bel))).mono ?_
    rintro e w6 ⟨c2, d2, rfl, HC2, z6, S6⟩
    clear S5
    obtain ⟨b2, hb2⟩ : ∃ b, b = w6.heap.size := ⟨_, rfl⟩
    have S7 := S6.box hb2.symm #[.int .i64 c2, .int .i64 d2] 29
    have z7 : bx + 2 ≤ (w6.alloc (.cells #[.int .i64 c2, .int .i64 d2] 29)).heap.size := by simp; omega
    clear S6
    by_cases hc2 : c2 = 0
    · have hcb2 : (c2 != 0) = false := by simp [hc2]
      have HOR := Lib.hid (treeF_ok.1 (show (treeF r).1 = 0 by rw [HC2.out, hc2]))
      have HF2 := Lib.hid (show ruleF l r = if l.head < 0 then 5 else if badV (heads l.pre) r.pre then 5 else 0 by rw [HF1.out, if_neg (by rw [HC2.out]; simpa using hc2)])
      obtain ⟨x0, _⟩ := S7.cell 0 0 rfl
      obtain ⟨y0, y1⟩ := S7.one 1
      have hl1 := S7.lt 1
      clear hc2
      by_cases hneg : l.head < 0
      · have HF := Lib.hid (show ruleF l r = 5 by rw [HF2.out, if_pos hneg])
        have SB := Lib.hid S7
        clear S7
        go_wp2_with fail
        refine retM_cell1 [] (.int .i64 5) (bx + 1) 3 (box1_set' (SB.out.block 1) _ rfl) (Marks.nil w.heap.size _) (by have := HBX.out; simp; omega) (fun w' q0 => by simp [results, Try.results137, go_sem, q0]) ?_
        intro w' hb'
        exact ⟨ret_int HF.out.symm, (SB.out.bel.setCell (p := ⟨bx + 1, 0, none⟩) (by have := HBX.out; show w.heap.size ≤ bx + 1; omega) _).trans hb'⟩
      · have HF := Lib.hid (show ruleF l r = if badV (heads l.pre) r.pre then 5 else 0 by rw [HF2.out, if_neg hneg])
        have hmm := @run_makeMap Try.prog
        obtain ⟨x1, _⟩ := S7.cell 0 1 rfl
        have hl0 := S7.lt 0
        have hM := MapB.made (w6.alloc (.cells #[.int .i64 c2, .int .i64 d2] 29))
        rw [World.size_alloc] at hM
        have S8 := (S7.alloc (.map #[] 0)).box (b := w6.heap.size + 1 + 1) (by simp) #[.map (some (w6.heap.size + 1))] 178
        have hMb := hM.carry (Below.heap_alloc _ (.cells #[.map (some (w6.heap.size + 1))] 178) (w6.heap.size + 1) (by simp))
        obtain ⟨q0, _⟩ := S8.cell 0 0 rfl
        obtain ⟨q1, _⟩ := S8.cell 0 1 rfl
        have hsz8 : w6.heap.size + 3 ≤ (((w6.alloc (.cells #[.int .i64 c2, .int .i64 d2] 29)).alloc (.map #[] 0)).alloc (.cells #[.map (some (w6.heap.size + 1))] 178)).heap.size := by simp
        have HMb := Lib.hid hMb; have HS8 := Lib.hid hsz8; have S8 := Lib.hid S8
        clear S7 hM hMb hsz8 hb2
        go_wp2_with fail
        have HMb := HMb.out; have S8 := S8.out; have hsz8 := HS8.out
        clear q0 q1 x0 x1 y0 y1 hl0 hl1
        obtain ⟨bm, hbm⟩ : ∃ b, b = w6.heap.size + 1 := ⟨_, rfl⟩
        rw [← hbm] at HMb S8 hsz8 ⊢
        generalize ((w6.alloc (.cells #[.int .i64 c2, .int .i64 d2] 29)).alloc (.map #[] 0)).alloc (.cells #[.map (some bm)] 178) = w7 at HMb S8 hsz8 ⊢
        have S9 := S8.pick [0, 1, 4]
        have HBM := Lib.hid (show bx + 2 < bm ∧ bm + 2 ≤ w7.heap.size by omega)
        clear S8 hsz8 hbm
        refine (nodes48 (.agg #[.int .i64 l.head, .slice kl l.kids.length (l.kids.length + sl)]) l w7 (HL.out.kept S9.bel)).mono ?_
        rintro e w8 ⟨rfl, hw8⟩
        obtain ⟨bk, hbk⟩ : ∃ b, b = w7.heap.size := ⟨_, rfl⟩
        have S10 := S9.box hbk.symm #[.int .i64 l.head, .slice kl l.kids.length (l.kids.length + sl)] 38
        have hMk := HMb.carry (Below.heap_alloc w7 (.cells #[.int .i64 l.head, .slice kl l.kids.length (l.kids.length + sl)] 38) bm (by have := HBM.out; omega))
        replace hw8 : w8 = w7.alloc (.cells #[.int .i64 l.head, .slice kl l.kids.length (l.kids.length + sl)] 38) := hw8
        rw [← hw8] at S10 hMk
        have hsw8 : w8.heap.size = bk + 1 := by rw [hw8, hbk]; simp
        rw [← hbk]
        have HBK := Lib.hid hbk; have HSW := Lib.hid hsw8
        have SX := Lib.hid S10; have HMK := Lib.hid hMk
        clear hw8 hbk hsw8 S10 S9 HMb hMk
        go_wp2_with fail
        have hk8 := SX.out.block 3
        have hx1 : w.heap.size ≤ bx ∧ bx ≤ w.heap.size := by have := HBX.out; omega
        have hm1 : bx + 2 < bm ∧ bm + 2 ≤ bk := by have := HBM.out; have := HBK.out; omega
        have hs8 : bk + 1 ≤ w8.heap.size ∧ w8.heap.size ≤ bk + 1 := by have := HSW.out; omega
        have HRES := Lib.hid (SX.out.block 1); have HVAR := Lib.hid (SX.out.block 2); have HRUL := Lib.hid (SX.out.block 0)
        have hb8 := SX.out.bel
        refine (wpIn_wide (n := 4)).1 ?_
        refine wpIn_rangeFunc_ownH rfl (by omega) (gf := 123) (lb := #[.pointer (some ⟨bk, 0, none⟩)]) rfl trivial (enters_of Try.func123 (by kernel_rfl) rfl)
          (nodes_stops w bk bk l kl sl w8 (by have := HOL.out.1; omega) (by have := HOL.out.2.1; omega) (by omega) hb8 (by omega) HL.out hk8) (fun h k => KpN.trans h k) (KpN.putObj hb8.size) (Below.refl _ _) (fun _ => rfl)
          (fun pre V => (MapB bm (heads (pre.map (·.t))) V ∧ (∀ b, b < w8.heap.size → b ≠ bm → V.heap[b]? = w8.heap[b]?)) ∧ Below w.heap.size w V)
          (fun _ _ _ => False)
          (OwnFrom.and (OwnFrom.and (ownFrom_mapB bm _ (by omega)) (ownFrom_frame w8 bm _ (Nat.le_refl _))) (ownFrom_below (Nat.le_refl _) hb8.size))
          (fun _ _ _ _ _ hs _ _ => hs)
          ⟨⟨HMK.out, fun _ _ _ => rfl⟩, hb8⟩
          (fun x a' V => ∃ Bx : Nat, V.heap[Bx]? = some (.cells #[.int .i64 x.t.head, .slice x.ao x.t.kids.length (x.t.kids.length + x.sp)] 38 (0, 0)) ∧ a' = { tmps := #[.agg #[Value.int IntKind.i64 l.head, Value.slice kl l.kids.length (l.kids.length + sl), Value.int IntKind.i64 r.head, Value.slice kr r.kids.length (r.kids.length + sr)], .pointer (some ⟨bx, 0, none⟩), .pointer (some ⟨bx + 1, 0, none⟩), .pointer (some ⟨b1, 0, none⟩), .pointer (some ⟨w6.heap.size, 0, none⟩), .pointer (some ⟨bm + 1, 0, none⟩), undef, .pointer (some ⟨Bx, 0, none⟩), undef, undef, .pointer (some ⟨bx, 0, none⟩), .agg #[Value.int IntKind.i64 l.head, Value.slice kl l.kids.length (l.kids.length + sl)], .agg #[Value.int IntKind.i64 c, Value.int IntKind.i64 d], .pointer (some ⟨b1, 0, none⟩), .int IntKind.i64 c, .bool false, undef, undef, .pointer (some ⟨bx, 2, none⟩), .agg #[Value.int IntKind.i64 r.head, Value.slice kr r.kids.length (r.kids.length + sr)], .agg #[Value.int IntKind.i64 c2, Value.int IntKind.i64 d2], .pointer (some ⟨w6.heap.size, 0, none⟩), .int IntKind.i64 c2, .bool false, undef, undef, .pointer (some ⟨bx, 0, none⟩), .pointer (some ⟨bx, 0, none⟩), .int IntKind.i64 l.head, .bool (decide (l.head < 0)), .map (some bm), .pointer (some ⟨bx, 0, none⟩), .agg #[Value.int IntKind.i64 l.head, Value.slice kl l.kids.length (l.kids.length + sl)], .func (Fn.func 123) #[] #[Value.pointer (some ⟨bk, 0, none⟩)], x.pl, .agg #[.int .i64 x.t.head, .slice x.ao x.t.kids.length (x.t.kids.length + x.sp)], undef, undef, undef, undef, undef, undef, undef, undef, undef, undef, undef, undef, undef, undef, undef, undef, undef, undef], defers := [] })
          (fun x a' _ X Y row hs hg hr => by obtain ⟨Bx, q2, q3⟩ := hs; exact ⟨Bx, own_block Bx (fun _ : Unit => _) (fun _ => rfl) () X Y row q2 hg (fun r e => (hr r e).2), q3⟩)
          ?assign ?body ?done ?stop
        case assign =>
          rintro ll pre x V K ⟨⟨i1, i2⟩, i3⟩ hK
          have HK := Lib.hid hK; have I1 := Lib.hid i1; have I2 := Lib.hid i2; have I3 := Lib.hid i3
          have I4 := Lib.hid (frame_size' i2 i1.lt (by omega))
          simp only [NX.encs]
          clear hK i1 i2 i3
          gi_wp2
          exact HK.out _ _ (KeepsFrom.alloc' _ _ _) (KpN.of ((Below.refl _ V).alloc (Nat.le_refl _) _) I3.out.size) ⟨⟨I1.out.carry (Below.heap_alloc V _ bm I1.out.lt), fun b h1 h2 => (Below.heap_alloc V _ b (by have := I4.out; omega)).trans (I2.out b h1 h2)⟩, I3.out.alloc I3.out.size _⟩ ⟨V.heap.size, heap_ofAlloc V _, rfl⟩
        case body =>
          rintro ll pre x a' V hl ⟨rr, hr⟩ ⟨⟨i1, i2⟩, i3⟩ ⟨Bx, hbx, rfl⟩ hlt
          clear hr rr
          have I1 := Lib.hid i1; have I2 := Lib.hid i2; have I3 := Lib.hid i3
          obtain ⟨ypl, yao, ysp, yt, yat, yht, ym⟩ := x
          have hok := HOL.out.2.2 yt ym
          have h1 : -8 ≤ yt.head := by have := hok.1; simp only [badHead] at this; omega
          have h2 : yt.head ≤ 12 := by have := hok.1; simp only [badHead] at this; omega
          obtain ⟨⟨x0, _⟩, x1, _⟩ := box2 hbx
          obtain ⟨v0, v1⟩ := box1 ((I2.out (bm + 1) (by omega) (by omega)).trans HVAR.out)
          obtain ⟨D, hown, hD2, hD3⟩ := i1
          have hpl : pre.length ≤ 1000 := by have := HOL.out.1; omega
          have hkey : keyOf Try.prog 3 (.int .i64 yt.head) = some (.int .i64 yt.head) := keyOf_int_mk Try.underlying3 (wf64 (by omega) (by omega))
          have HD2 := Lib.hid hD2; have HD3 := Lib.hid hD3
          clear i2 i3 hbx hok hD2 hD3
          dsimp only at x0 x1 ⊢
          gi_wp2_with (gi_at_mapUpdate; refine wpListIn_mapUpdate_own _ rfl _ _ _ 178 rfl 3 4 law3 Try.underlying178 _ bm _ D rfl hown (by unfold maxLen; simp [heads]; omega) _ _ _ rfl rfl hkey _ [] (plainElem_bool Try.underlying4 true) ?_; intro V1 hown1 hgrow1)
          have hput := MapB.put HD2.out HD3.out hown1
          refine ⟨KeepsFrom.of_grownBy hgrow1 (fun j e => by cases e; omega), KpN.grown hgrow1 (by omega) (by omega) I3.out.size, ⟨?_, fun b' q1 q2 => (hgrow1.block b' (by have := frame_size' I2.out I1.out.lt (by omega); omega) (fun e => q2 (by injection e))).trans (I2.out b' q1 q2)⟩, I3.out.grown hgrow1 I3.out.size (fun c hc => by cases hc; omega)⟩
          rw [List.map_append]; unfold heads at hput ⊢; rw [List.map_append]; exact hput
        case done =>
          rintro D xs V hD hxs ⟨⟨i1, i2⟩, i3⟩ hK
          have hpr := map_pt_snd hxs
          rw [hpr] at i1
          have hvs := frame_size' i2 i1.lt (by omega)
          have hrul := (i2 bx (by omega) (by omega)).trans HRUL.out
          have hres := (i2 (bx + 1) (by omega) (by omega)).trans HRES.out
          have hvar := (i2 (bm + 1) (by omega) (by omega)).trans HVAR.out
          have I1 := Lib.hid i1; have I3 := Lib.hid i3; have HK := Lib.hid hK
          have HV1 := Lib.hid hrul; have HV2 := Lib.hid hres; have HV3 := Lib.hid hvar
          have hx2 : V.cell? ⟨bx, 2, none⟩ = some (.int .i64 r.head) := by simp [World.cell?, hrul]
          have hx3 : V.cell? ⟨bx, 3, none⟩ = some (.slice kr r.kids.length (r.kids.length + sr)) := by simp [World.cell?, hrul]
          clear i1 i2 i3 hK hxs hpr hrul hres hvar
          go_wp2_with fail
          refine (nodes48 (.agg #[.int .i64 r.head, .slice kr r.kids.length (r.kids.length + sr)]) r V (HR.out.kept I3.out)).mono ?_
          rintro e V2 ⟨rfl, hV2⟩
          replace hV2 : V2 = V.alloc (.cells #[.int .i64 r.head, .slice kr r.kids.length (r.kids.length + sr)] 38) := hV2
          obtain ⟨b2k, hb2k⟩ : ∃ b, b = V.heap.size := ⟨_, rfl⟩
          have hk2 : V2.heap[b2k]? = some (.cells #[.int .i64 r.head, .slice kr r.kids.length (r.kids.length + sr)] 38 (0, 0)) := by rw [hV2, hb2k]; exact heap_ofAlloc V _
          have hold : ∀ b, b < b2k → V2.heap[b]? = V.heap[b]? := fun b hb => by rw [hV2]; exact Below.heap_alloc V _ b (by omega)
          have hbel2 : Below w.heap.size w V2 := by rw [hV2]; exact I3.out.alloc I3.out.size _
          have hsV2 : b2k + 1 ≤ V2.heap.size ∧ V2.heap.size ≤ b2k + 1 := by rw [hV2, hb2k]; simp
          have HM2 := Lib.hid (I1.out.carry (hold bm (by omega)))
          have HD := Lib.hid ((hold D (by have := (Array.getElem?_eq_some_iff.1 HK.out).1; omega)).trans HK.out)
          have HR2 := Lib.hid ((hold (bx + 1) (by omega)).trans HV2.out)
          have HA2 := Lib.hid ((hold (bm + 1) (by omega)).trans HV3.out)
          have hDb : D < b2k := by have := (Array.getElem?_eq_some_iff.1 HK.out).1; omega
          have hDx : w.heap.size ≤ D := by omega
          have hDx2 : D ≠ bx + 1 := by omega
          have hvb : bk + 1 ≤ b2k := by omega
          rw [← hb2k]
          have HVS := Lib.hid hvs
          clear hV2 hb2k hx2 hx3 hvs hold
          go_wp2_with fail
          refine (wpIn_wide (n := 4)).1 ?_
          refine wpIn_rangeFunc_ownH rfl (by omega) (gf := 123) (lb := #[.pointer (some ⟨b2k, 0, none⟩)]) rfl trivial (enters_of Try.func123 (by kernel_rfl) rfl)
            (nodes_stops w b2k b2k r kr sr V2 (by have := HOR.out.1; omega) (by have := HOR.out.2.1; omega) (by omega) hbel2 (by omega) HR.out hk2) (fun h k => KpN.trans h k) (KpN.putObj hbel2.size) (Below.refl _ _) (fun _ => rfl)
            (fun pre U => ((badV (heads l.pre) (pre.map (·.t)) = false ∧ U.heap[bx + 1]? = some (.cells #[.int .i64 0] 3 (0, 0))) ∧ (∀ b, b < V2.heap.size → b ≠ bx + 1 → U.heap[b]? = V2.heap[b]?)) ∧ Below w.heap.size w U)
            (fun c pre U => (((c = .ret ∧ badV (heads l.pre) (pre.map (·.t)) = true) ∧ U.heap[bx + 1]? = some (.cells #[.int .i64 5] 3 (0, 0))) ∧ (∀ b, b < V2.heap.size → b ≠ bx + 1 → U.heap[b]? = V2.heap[b]?)) ∧ Below w.heap.size w U)
            (OwnFrom.and (OwnFrom.and (OwnFrom.and (ownFrom_pure _ _) (Own.from (own_block (bx + 1) _ (fun _ => rfl)) _)) (ownFrom_frame V2 (bx + 1) _ (Nat.le_refl _))) (ownFrom_below (Nat.le_refl _) hbel2.size))
            (fun c => OwnFrom.and (OwnFrom.and (OwnFrom.and (ownFrom_pure _ (fun pre : List (NX w r) => c = .ret ∧ badV (heads l.pre) (pre.map (·.t)) = true)) (Own.from (own_block (bx + 1) _ (fun _ => rfl)) _)) (ownFrom_frame V2 (bx + 1) _ (Nat.le_refl _))) (ownFrom_below (Nat.le_refl _) hbel2.size))
            ⟨⟨⟨rfl, HR2.out⟩, fun _ _ _ => rfl⟩, hbel2⟩
            (fun x a' U => ∃ Bx : Nat, U.heap[Bx]? = some (.cells #[.int .i64 x.t.head, .slice x.ao x.t.kids.length (x.t.kids.length + x.sp)] 38 (0, 0)) ∧ a' = { tmps := #[.agg #[Value.int IntKind.i64 l.head, Value.slice kl l.kids.length (l.kids.length + sl), Value.int IntKind.i64 r.head, Value.slice kr r.kids.length (r.kids.length + sr)], .pointer (some ⟨bx, 0, none⟩), .pointer (some ⟨bx + 1, 0, none⟩), .pointer (some ⟨b1, 0, none⟩), .pointer (some ⟨w6.heap.size, 0, none⟩), .pointer (some ⟨bm + 1, 0, none⟩), undef, undef, undef, .pointer (some ⟨Bx, 0, none⟩), .pointer (some ⟨bx, 0, none⟩), .agg #[Value.int IntKind.i64 l.head, Value.slice kl l.kids.length (l.kids.length + sl)], .agg #[Value.int IntKind.i64 c, Value.int IntKind.i64 d], .pointer (some ⟨b1, 0, none⟩), .int IntKind.i64 c, .bool false, undef, undef, .pointer (some ⟨bx, 2, none⟩), .agg #[Value.int IntKind.i64 r.head, Value.slice kr r.kids.length (r.kids.length + sr)], .agg #[Value.int IntKind.i64 c2, Value.int IntKind.i64 d2], .pointer (some ⟨w6.heap.size, 0, none⟩), .int IntKind.i64 c2, .bool false, undef, undef, .pointer (some ⟨bx, 0, none⟩), .pointer (some ⟨bx, 0, none⟩), .int IntKind.i64 l.head, .bool (decide (l.head < 0)), .map (some bm), .pointer (some ⟨bx, 0, none⟩), .agg #[Value.int IntKind.i64 l.head, Value.slice kl l.kids.length (l.kids.length + sl)], .func (Fn.func 123) #[] #[Value.pointer (some ⟨bk, 0, none⟩)], undef, undef, undef, undef, undef, .pointer (some ⟨bx, 2, none⟩), .agg #[Value.int IntKind.i64 r.head, Value.slice kr r.kids.length (r.kids.length + sr)], .func (Fn.func 123) #[] #[Value.pointer (some ⟨b2k, 0, none⟩)], x.pl, .agg #[.int .i64 x.t.head, .slice x.ao x.t.kids.length (x.t.kids.length + x.sp)], undef, undef, undef, undef, undef, undef, undef, undef, undef, undef], defers := [] })
            (fun x a' _ X Y row hs hg hr => by obtain ⟨Bx, q2, q3⟩ := hs; exact ⟨Bx, own_block Bx (fun _ : Unit => _) (fun _ => rfl) () X Y row q2 hg (fun r e => (hr r e).2), q3⟩)
            ?assign2 ?body2 ?done2 ?stop2
          case assign2 =>
            rintro ll pre x U K ⟨⟨⟨i0, i1⟩, i2⟩, i3⟩ hK2
            have HK2 := Lib.hid hK2; have I0 := Lib.hid i0; have I1 := Lib.hid i1; have I2 := Lib.hid i2; have I3 := Lib.hid i3
            have I4 := Lib.hid (frame_size i2 HR2.out (heap_lt i1))
            simp only [NX.encs]
            clear hK2 i0 i1 i2 i3
            gi_wp2
            exact HK2.out _ _ (KeepsFrom.alloc' _ _ _) (KpN.of ((Below.refl _ U).alloc (Nat.le_refl _) _) I3.out.size) ⟨⟨⟨I0.out, heap_alloc_old I1.out⟩, fun b h1 h2 => (Below.heap_alloc U _ b (by have := I4.out; omega)).trans (I2.out b h1 h2)⟩, I3.out.alloc I3.out.size _⟩ ⟨U.heap.size, heap_ofAlloc U _, rfl⟩
          case body2 =>
            rintro ll pre x a' U hl ⟨rr, hr⟩ ⟨⟨⟨i0, i1⟩, i2⟩, i3⟩ ⟨Bx, hbx, rfl⟩ hlt
            clear hr rr
            have I0 := Lib.hid i0; have I1 := Lib.hid i1; have I2 := Lib.hid i2; have I3 := Lib.hid i3
            obtain ⟨ypl, yao, ysp, yt, yat, yht, ym⟩ := x
            have hok := HOR.out.2.2 yt ym
            have h1 : -8 ≤ yt.head := by have := hok.1; simp only [badHead] at this; omega
            have h2 : yt.head ≤ 12 := by have := hok.1; simp only [badHead] at this; omega
            obtain ⟨⟨x0, _⟩, x1, _⟩ := box2 hbx
            obtain ⟨v0, v1⟩ := box1 ((I2.out (bm + 1) (by omega) (by omega)).trans HA2.out)
            obtain ⟨q0, q1⟩ := box1 i1
            have hql := heap_lt i1
            have hrun := (HM2.out.carry (I2.out bm (by omega) (by omega))).look (wf64 (z := yt.head) (by omega) (by omega))
            have HBA := Lib.hid (show badV (heads l.pre) ((pre ++ [(⟨ypl, yao, ysp, yt, yat, yht, ym⟩ : NX w r)]).map (·.t)) = (decide (yt.head < 0) && !decide (yt.head ∈ heads l.pre)) by
              have := I0.out
              unfold badV at this ⊢
              rw [List.map_append, List.any_append, this]; simp)
            clear i0 i1 i2 i3 hbx hok
            dsimp only at x0 x1 ⊢
            obtain ⟨mm, hmm2⟩ : ∃ m, m = decide (yt.head ∈ heads l.pre) := ⟨_, rfl⟩
            rw [← hmm2] at hrun HBA
            clear hmm2
            by_cases hneg2 : yt.head < 0
            · have HBA := Lib.hid (show _ = _ from HBA.out.trans (by rw [decide_eq_true hneg2]))
              cases mm with
              | true =>
                gi_wp2
                all_goals first
                  | (exfalso; exact undef_bool (by assumption))
                  | exact ⟨KeepsFrom.refl _ _, KpN.refl _ _ _, ⟨⟨HBA.out.trans rfl, I1.out⟩, I2.out⟩, I3.out⟩
              | false =>
                gi_wp2
                all_goals first
                  | (exfalso; exact undef_bool (by assumption))
                  | exact ⟨(KeepsOthers.setCell _ _ _).from _, ⟨⟨⟨rfl, HBA.out.trans rfl⟩, box1_set' I1.out _ rfl⟩, fun b' q1 q2 => (Below.heap_setCell U _ _ b' q2).trans (I2.out b' q1 q2)⟩, I3.out.setCell (p := ⟨bx + 1, 0, none⟩) (by show w.heap.size ≤ bx + 1; omega) _⟩
            · have HBA := Lib.hid (show _ = _ from HBA.out.trans (by rw [decide_eq_false hneg2]))
              gi_wp2
              all_goals first
                | (exfalso; exact undef_bool (by assumption))
                | exact ⟨KeepsFrom.refl _ _, KpN.refl _ _ _, ⟨⟨HBA.out.trans rfl, I1.out⟩, I2.out⟩, I3.out⟩
          case done2 =>
            rintro D2 xs U hD2 hxs ⟨⟨⟨i0, i1⟩, i2⟩, i3⟩ hK2
            have hpr := map_pt_snd hxs
            rw [hpr] at i0
            have HF3 := Lib.hid (show ruleF l r = 0 by rw [HF.out, i0]; rfl)
            have I1 := Lib.hid i1; have I3 := Lib.hid i3
            have HK2 := Lib.hid hK2
            obtain ⟨q0, q1⟩ := box1 i1
            have hql := heap_lt i1
            have hus := frame_size i2 HR2.out hql
            have HMA := Lib.hid (marks2 hDx ((i2 D (by omega) hDx2).trans HD.out) (show w.heap.size ≤ D2 by omega) hK2 (show D < D2 by omega))
            clear i0 i1 i2 i3 hxs hpr hK2
            go_wp2_with fail
            refine retM_cell1 [D2, D] (.int .i64 0) (bx + 1) 3 (box1_set' I1.out _ rfl) (HMA.out.kept (fun d hd => Below.heap_setCell _ _ _ _ (fun e => by have h9 : d = bx + 1 := e; subst h9; rw [I1.out] at hd; cases hd))) (by have := I3.out.size; simp; omega) (fun w' q0 => by simp [results, Try.results137, go_sem, q0]) ?_
            intro w' hb'
            exact ⟨ret_int HF3.out.symm, (I3.out.setCell (p := ⟨bx + 1, 0, none⟩) (by show w.heap.size ≤ bx + 1; omega) _).trans hb'⟩
          case stop2 =>
            rintro D2 c' pre U hD2 hpre ⟨⟨⟨⟨rfl, i0⟩, i1⟩, i2⟩, i3⟩ hK2
            obtain ⟨rest, hrest⟩ := map_pt_snd_prefix hpre
            have HF3 := Lib.hid (show ruleF l r = 5 by
              have h5 : badV (heads l.pre) r.pre = true := by
                rw [← hrest]; unfold badV at i0 ⊢; rw [List.any_append, i0]; rfl
              rw [HF.out, h5]; rfl)
            have hus := frame_size i2 HR2.out (heap_lt i1)
            have HMA := Lib.hid (marks2 hDx ((i2 D (by omega) hDx2).trans HD.out) (show w.heap.size ≤ D2 by omega) hK2 (show D < D2 by omega))
            have I1 := Lib.hid i1; have I3 := Lib.hid i3
            clear i0 i1 i2 i3 hpre hK2 hrest
            gi_wp2
            refine retM_cell1 [D2, D] (.int .i64 5) (bx + 1) 3 I1.out HMA.out I3.out.size (fun w' q0 => by simp [results, Try.results137, go_sem, q0]) ?_
            intro w' hb'
            exact ⟨ret_int HF3.out.symm, I3.out.trans hb'⟩
        case stop =>
          rintro D c' pre V _ _ h _
          exact h.elim
    · have hcb2 : (c2 != 0) = true := by simp [hc2]
      have HF := Lib.hid (show ruleF l r = c2 by rw [HF1.out, show (treeF r).1 = c2 by rw [HC2.out], if_pos hc2])
      obtain ⟨y0, y1⟩ := S7.one 1
      have hl1 := S7.lt 1
      have SB := Lib.hid S7
      clear S7
      go_wp2_with fail
      refine retM_cell1 [] (.int .i64 c2) (bx + 1) 3 (box1_set' (SB.out.block 1) _ rfl) (Marks.nil w.heap.size _) (by have := HBX.out; simp; omega) (fun w' q0 => by simp [results, Try.results137, go_sem, q0]) ?_
      intro w' hb'
      exact ⟨ret_int HF.out.symm, (SB.out.bel.setCell (p := ⟨bx + 1, 0, none⟩) (by have := HBX.out; show w.heap.size ≤ bx + 1; omega) _).trans hb'⟩
  · have hcb : (c != 0) = true := by simp [hc]
    have HF := Lib.hid (show ruleF l r = c by unfold ruleF; rw [show (treeF l).1 = c by rw [HC.out], if_pos hc])
    obtain ⟨y0, y1⟩ := S4.one 1
    have hl1 := S4.lt 1
    have SB := Lib.hid S4
    clear S4
    go_wp2_with fail
    refine retM_cell1 [] (.int .i64 c) (bx + 1) 3 (box1_set' (SB.out.block 1) _ rfl) (Marks.nil w.heap.size _) (by have := HBX.out; simp; omega) (fun w' q0 => by simp [results, Try.results137, go_sem, q0]) ?_
    intro w' hb'
    exact ⟨ret_int HF.out.symm, (SB.out.bel.setCell (p := ⟨bx + 1, 0, none⟩) (by have := HBX.out; show w.heap.size ≤ bx + 1; omega) _).trans hb'⟩
end Go.Proofs.Ytlhnfdjidjgfgaa
