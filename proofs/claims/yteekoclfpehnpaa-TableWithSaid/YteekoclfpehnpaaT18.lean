/-
  Walks: tree.Check.
-/
import Derived.Test.YteekoclfpehnpaaProg
import Derived.Test.YteekoclfpehnpaaBase
import Derived.Test.YteekoclfpehnpaaT17
import Derived.RangeFuncNested
namespace Go.Proofs.Yteekoclfpehnpaa
open Go.RowKit Go.Shelf
set_option linter.unusedVariables false
set_option maxHeartbeats 400000
attribute [local go_sem] Oper.semAt_some

theorem KeepsFrom.alloc' (B : Nat) (W : World) (o : Obj) : KeepsFrom B W (W.alloc o) := (KeepsOthers.alloc W o).from B
theorem KpN.setCell {n₀ m₀ : Nat} (W : World) {a : Addr} (h : n₀ ≤ a.block) (h2 : a.block < m₀) (u : Value) : KpN n₀ m₀ W (W.setCell a u) :=
  ⟨(Below.refl n₀ W).setCell h u, fun b cur ty fz hb _ _ => Below.heap_setCell W a u b (by omega)⟩
theorem scan_prefix {p l : List T} (h : p <+: l) (a : Int) (hp : (scan p a).1 ≠ 0) : scan l a = scan p a := by
  obtain ⟨r, rfl⟩ := h
  rcases scan_cases p with h1 | ⟨q, x, s, rfl, h1, h2⟩
  · rw [scan_ok h1] at hp; exact absurd rfl hp
  · rw [List.append_assoc, List.cons_append, scan_bad h1 h2, scan_bad h1 h2]
theorem scan_snoc_bad {w : World} {t0 : T} {pre : List (NX w t0)} {x : NX w t0} (h : ∀ y ∈ pre, okN y.t) (hx : ¬ okN x.t) : scan ((pre ++ [x]).map (·.t)) 0 = if badHead x.t.head then (3, (pre.length : Int)) else (9, (pre.length : Int)) := by
  rw [List.map_append, List.map_cons, List.map_nil, scan_bad (by simpa using h) hx]
  simp

theorem okN_snoc {w : World} {t0 : T} {pre : List (NX w t0)} {x : NX w t0} (h : ∀ y ∈ pre, okN y.t) (hx : okN x.t) : ∀ y ∈ pre ++ [x], okN y.t := fun y hy => by
  rcases List.mem_append.1 hy with h1 | h1
  · exact h y h1
  · simp at h1; rw [h1]; exact hx
theorem putObj_other {W : World} {b D : Nat} {cs : Array Value} {ty : TypeId} {fz : Nat × Nat} {o' : Obj} (h : W.heap[b]? = some (.cells cs ty fz)) (hD : W.heap[D]? = some (.deferred (some []))) : (W.putObj D o').heap[b]? = W.heap[b]? :=
  World.putObj_heap_other (fun e => by subst e; rw [h] at hD; cases hD)
theorem retM_box2 {n : Nat} {P : Program} {fn : Func} {R : Ending → World → Prop} {tmps : Array Value} {ds : List Deferred} {D : Nat} {w : World} (x y : Value) (b : Nat) (T : TypeId) (hb : w.heap[b]? = some (.cells #[x, y] T (0, 0)))
    (hk : w.heap[D]? = some (.deferred (some [])))
    (hres : ∀ w' : World, w'.cell? ⟨b, 0, none⟩ = some x → w'.cell? ⟨b, 1, none⟩ = some y → (results fn tmps).run P w' = .ok (.agg #[x, y]) w') (hd : ds = [])
    (hR : R (.returned (.agg #[x, y])) (w.putObj D (.deferred none))) : bodyPostM Fence.wide n P fn R .ret { tmps := tmps, defers := { target := .collected D, args := #[] } :: ds } w := by
  subst hd
  refine ⟨by simp, .inl ⟨_, _, rfl, run_takeDeferred hk, ?_⟩⟩
  obtain ⟨⟨z0, z1⟩, z2, z3⟩ := box2 ((putObj_other (o' := .deferred none) hb hk).trans hb)
  exact ⟨_, hres _ z0 z2, hR⟩
theorem undef_bool {b : Bool} (h : some undef = some (Value.bool b)) : False := by simp [undef] at h
theorem box1_set' {w : World} {b : Nat} {x : Value} {T : TypeId} (h : w.heap[b]? = some (.cells #[x] T (0, 0))) {v : Value} (u : Value) (e : v = u) : (w.setCell ⟨b, 0, none⟩ v).heap[b]? = some (.cells #[u] T (0, 0)) := by
  subst e; simp [World.setCell, Array.getElem?_modify, h]

set_option maxRecDepth 100000 in
set_option maxHeartbeats 4000000 in
theorem check29 (t : T) (v : Value) (w : World) (ht : TreeAt w v t) :
    Calls Try.prog 66 #[v] w fun e w' => e = .returned (FV (treeF t)) ∧ Below w.heap.size w w' := by
  obtain ⟨k, sp, rfl⟩ := ht.form
  have HT := Lib.hid ht; clear ht
  have hbx := heap_alloc_old (o' := .cells #[.int .i64 0, .int .i64 0] 32) (heap_ofAlloc w (.cells #[.int .i64 t.head, .slice k t.kids.length (t.kids.length + sp)] 44))
  have hby := heap_ofAlloc (w.alloc (.cells #[.int .i64 t.head, .slice k t.kids.length (t.kids.length + sp)] 44)) (.cells #[.int .i64 0, .int .i64 0] 32)
  rw [World.size_alloc] at hby
  have hb0 := ((Below.refl w.heap.size w).alloc (Nat.le_refl _) (.cells #[.int .i64 t.head, .slice k t.kids.length (t.kids.length + sp)] 44)).alloc (by simp) (.cells #[.int .i64 0, .int .i64 0] 32)
  have HS := Lib.hid (fun W h => size52 t 40 (.agg #[.int .i64 t.head, .slice k t.kids.length (t.kids.length + sp)]) W (by omega) (by omega) h)
  have HD := Lib.hid (fun W h => deep53 t 12 (.agg #[.int .i64 t.head, .slice k t.kids.length (t.kids.length + sp)]) W (by omega) (by omega) h)
  by_cases h40 : 40 < t.size
  · have HF := Lib.hid (show treeF t = (2, 0) by rw [treeF, if_pos h40])
    have hmin : min (t.size : Int) (40 + 1) = 41 := by omega
    rw [hmin] at HS
    clear hmin h40
    go_enter Try.func66, Try.ntmps66
    go_wp2_with fail
    refine (HS.out _ (HT.out.kept hb0)).mono ?_
    rintro e w1 ⟨rfl, hb1⟩
    have hy1 := Below.heapAt hb1 hby
    have hyl := heap_lt hy1
    obtain ⟨⟨y0, y1⟩, y2, y3⟩ := box2 hy1
    have hb01 := Below.step hb0 hb1
    clear hbx hby hb0 hb1
    go_wp2_with fail
    refine ret_box2 (.int .i64 2) (.int .i64 0) (w.heap.size + 1) 32 (box2_set hy1 _ _) (fun w' q0 q1 => by simp [results, Try.results66, go_sem, q0, q1]) rfl ?_
    exact ⟨by rw [HF.out]; rfl, (hb01.setCell (p := ⟨w.heap.size + 1, 0, none⟩) (by simp) _).setCell (p := ⟨w.heap.size + 1, 1, none⟩) (by simp) _⟩
  · have hsz : t.size ≤ 40 := by omega
    have hmin : min (t.size : Int) (40 + 1) = t.size := by omega
    rw [hmin] at HS
    clear hmin
    have hts : (t.size : Int) ≤ 40 := by omega
    by_cases h12 : 12 < t.deep
    · have HF := Lib.hid (show treeF t = (10, 0) by rw [treeF, if_neg h40, if_pos h12])
      have hdd : decide ((t.deep : Int) ≤ 12) = false := by simp; omega
      rw [hdd] at HD
      clear hdd h12 h40
      go_enter Try.func66, Try.ntmps66
      go_wp2_with fail
      refine (HS.out _ (HT.out.kept hb0)).mono ?_
      rintro e w1 ⟨rfl, hb1⟩
      have hx1 := Below.heapAt hb1 hbx
      have hy1 := Below.heapAt hb1 hby
      have hb01 := Below.step hb0 hb1
      obtain ⟨⟨x0, _⟩, x1, _⟩ := box2 hx1
      clear hbx hby hb0 hb1
      go_wp2_with fail
      refine (HD.out _ (HT.out.kept hb01)).mono ?_
      rintro e w2 ⟨rfl, hb2⟩
      have hy2 := Below.heapAt hb2 hy1
      have hb02 := Below.step hb01 hb2
      have hyl := heap_lt hy2
      obtain ⟨⟨y0, y1⟩, y2, y3⟩ := box2 hy2
      clear hx1 hy1 hb01 hb2 x0 x1
      go_wp2_with fail
      refine ret_box2 (.int .i64 10) (.int .i64 0) (w.heap.size + 1) 32 (box2_set hy2 _ _) (fun w' q0 q1 => by simp [results, Try.results66, go_sem, q0, q1]) rfl ?_
      exact ⟨by rw [HF.out]; rfl, (hb02.setCell (p := ⟨w.heap.size + 1, 0, none⟩) (by simp) _).setCell (p := ⟨w.heap.size + 1, 1, none⟩) (by simp) _⟩
    · have HF := Lib.hid (show treeF t = scan t.pre 0 by rw [treeF_pre, if_neg h40, if_neg h12])
      have hdd : decide ((t.deep : Int) ≤ 12) = true := by simp; omega
      have hd40 : decide ((40 : Int) < t.size) = false := by simp; omega
      rw [hdd] at HD
      have hdp : t.deep ≤ 100000 := by omega
      clear hdd h12 h40
      refine (callsIn_wide (n := 4)).1 ?_
      refine callsIn_of_wp_marks Try.func66 rfl trivial ?_ rfl
      simp only [Try.ntmps66, List.size_toArray, List.length_cons, List.length_nil, Nat.reduceAdd, Nat.reduceSub, Array.replicate_succ, Array.replicate_zero, List.push_toArray, List.append_toArray, List.nil_append, List.cons_append]
      refine wpIn_wide.2 ?_
      go_wp2_with fail
      refine (HS.out _ (HT.out.kept hb0)).mono ?_
      rintro e w1 ⟨rfl, hb1⟩
      have hx1 := Below.heapAt hb1 hbx
      have hy1 := Below.heapAt hb1 hby
      have hb01 := Below.step hb0 hb1
      obtain ⟨⟨x0, _⟩, x1, _⟩ := box2 hx1
      clear hbx hby hb0 hb1
      go_wp2_with fail
      refine (HD.out _ (HT.out.kept hb01)).mono ?_
      rintro e w2 ⟨rfl, hb2⟩
      have hx2 := Below.heapAt hb2 hx1
      have hy2 := Below.heapAt hb2 hy1
      have hb02 := Below.step hb01 hb2
      clear hx1 hy1 hb01 hb2 x0 x1
      obtain ⟨⟨x0, _⟩, x1, _⟩ := box2 hx2
      have hxl := heap_lt hx2
      have hyl2 := heap_lt hy2
      go_wp2_with fail
      have hy3 := heap_alloc_old (o' := .cells #[.int .i64 0] 3) hy2
      have hn3 := heap_ofAlloc w2 (.cells #[.int .i64 0] 3)
      have hs2 := hb02.size
      have hb03 := hb02.alloc hs2 (.cells #[.int .i64 0] 3)
      have hlw : (w2.alloc (.cells #[.int .i64 0] 3)).heap.size = w2.heap.size + 1 := by simp
      generalize w2.alloc (.cells #[.int .i64 0] 3) = w3 at hy3 hn3 hb03 hlw ⊢
      refine (nodes48 (.agg #[.int .i64 t.head, .slice k t.kids.length (t.kids.length + sp)]) t w3 (HT.out.kept hb03)).mono ?_
      rintro e w4 ⟨rfl, hw4⟩
      have hy4 := heap_alloc_old (o' := .cells #[.int .i64 t.head, .slice k t.kids.length (t.kids.length + sp)] 44) hy3
      have hn4 := heap_alloc_old (o' := .cells #[.int .i64 t.head, .slice k t.kids.length (t.kids.length + sp)] 44) hn3
      have hk4 := heap_ofAlloc w3 (.cells #[.int .i64 t.head, .slice k t.kids.length (t.kids.length + sp)] 44)
      have hb04 := hb03.alloc hb03.size (.cells #[.int .i64 t.head, .slice k t.kids.length (t.kids.length + sp)] 44)
      rw [show w4 = w3.alloc (.cells #[.int .i64 t.head, .slice k t.kids.length (t.kids.length + sp)] 44) from hw4]
      have hl4 : (w3.alloc (.cells #[.int .i64 t.head, .slice k t.kids.length (t.kids.length + sp)] 44)).heap.size = w3.heap.size + 1 := by simp
      clear hw4 w4 hy3 hn3 hb03
      generalize w3.alloc (.cells #[.int .i64 t.head, .slice k t.kids.length (t.kids.length + sp)] 44) = w4 at hy4 hn4 hk4 hb04 hl4 ⊢
      obtain ⟨bn, hbn⟩ : ∃ b, b = w2.heap.size := ⟨_, rfl⟩
      obtain ⟨bk, hbk⟩ : ∃ b, b = w3.heap.size := ⟨_, rfl⟩
      obtain ⟨br, hbr⟩ : ∃ b, b = w.heap.size + 1 := ⟨_, rfl⟩
      rw [← hbn] at hn4 ⊢; rw [← hbk] at hk4 ⊢; rw [← hbr] at hy4 ⊢
      have h1 : w.heap.size ≤ br := by omega
      have h2 : w.heap.size ≤ bn := by omega
      have h3 : br < bn := by omega
      have h4 : w3.heap.size ≤ w4.heap.size := by omega
      have h5 : w.heap.size ≤ w3.heap.size := by omega
      have h6 : bn < w3.heap.size := by omega
      clear hlw hl4 hbn hbk hbr hx2 hy2 hb02 x0 x1 hxl hs2 hyl2
      go_wp2_with fail
      refine (wpIn_wide (n := 4)).1 ?_
      refine wpIn_rangeFunc_ownH rfl (by omega) (gf := 123) (lb := #[.pointer (some ⟨bk, 0, none⟩)]) rfl trivial (enters_of Try.func123 (by kernel_rfl) rfl)
        (nodes_stops w w3.heap.size bk t k sp w4 (by omega) hdp h5 hb04 h4 HT.out hk4) (fun h k => KpN.trans h k) (KpN.putObj hb04.size) (Below.refl _ _) (fun _ => rfl)
        (fun pre W => ((W.heap[bn]? = some (.cells #[.int .i64 (pre.length : Int)] 3 (0, 0)) ∧ W.heap[br]? = some (.cells #[.int .i64 0, .int .i64 0] 32 (0, 0))) ∧ (∀ x ∈ pre, okN x.t)) ∧ Below w.heap.size w W)
        (fun c pre W => ((c = .ret ∧ (scan (pre.map (·.t)) 0).1 ≠ 0) ∧ W.heap[br]? = some (.cells #[.int .i64 (scan (pre.map (·.t)) 0).1, .int .i64 (scan (pre.map (·.t)) 0).2] 32 (0, 0))) ∧ Below w.heap.size w W)
        (OwnFrom.and (OwnFrom.and (OwnFrom.and (Own.from (own_block _ _ (fun _ => rfl)) _) (Own.from (own_block br (fun _ => _) (fun _ => rfl)) _)) (ownFrom_pure _ _)) (ownFrom_below (Nat.le_refl _) hb04.size))
        (fun c => OwnFrom.and (OwnFrom.and (ownFrom_pure _ (fun pre : List (NX w t) => c = .ret ∧ (scan (pre.map (·.t)) 0).1 ≠ 0)) (Own.from (own_block _ _ (fun _ => rfl)) _)) (ownFrom_below (Nat.le_refl _) hb04.size))
        ⟨⟨⟨hn4, hy4⟩, fun x hx => by cases hx⟩, hb04⟩
        (fun x a' W => ∃ Bx : Nat, W.heap[Bx]? = some (.cells #[.int .i64 x.t.head, .slice x.ao x.t.kids.length (x.t.kids.length + x.sp)] 44 (0, 0)) ∧ a' = { tmps := #[.agg #[Value.int IntKind.i64 t.head, Value.slice k t.kids.length (t.kids.length + sp)], .pointer (some ⟨w.heap.size, 0, none⟩), .pointer (some ⟨br, 0, none⟩), .pointer (some ⟨bn, 0, none⟩), undef, .pointer (some ⟨Bx, 0, none⟩), .bool false, .agg #[Value.int IntKind.i64 t.head, Value.slice k t.kids.length (t.kids.length + sp)], .int IntKind.i64 (t.size : Int), .bool false, undef, .bool false, .agg #[Value.int IntKind.i64 t.head, Value.slice k t.kids.length (t.kids.length + sp)], .bool true, .bool false, undef, .agg #[Value.int IntKind.i64 t.head, Value.slice k t.kids.length (t.kids.length + sp)], .func (Fn.func 123) #[] #[Value.pointer (some ⟨bk, 0, none⟩)], x.pl, .agg #[.int .i64 x.t.head, .slice x.ao x.t.kids.length (x.t.kids.length + x.sp)], undef, undef, undef, undef, undef, undef, undef, undef, undef, undef, undef, undef, undef, undef, undef, undef, undef, undef, undef, undef, undef, undef, undef, undef, undef, undef, undef, undef, undef, undef, undef, undef, undef, undef, undef, undef, undef], defers := [] })
        (fun x a' _ X Y row hs hg hr => by obtain ⟨Bx, q2, q3⟩ := hs; exact ⟨Bx, own_block Bx (fun _ : Unit => _) (fun _ => rfl) () X Y row q2 hg (fun r e => (hr r e).2), q3⟩)
        ?assign ?body ?done ?stop
      case assign =>
        rintro l pre x W K ⟨⟨⟨i1, i2⟩, i3⟩, i4⟩ hK
        have HK := Lib.hid hK; have I1 := Lib.hid i1; have I2 := Lib.hid i2; have I3 := Lib.hid i3
        simp only [NX.encs]
        clear hK i1 i2 i3
        gi_wp2
        exact HK.out _ _ (KeepsFrom.alloc' _ _ _) (KpN.of ((Below.refl _ W).alloc (Nat.le_refl _) _) i4.size) ⟨⟨⟨heap_alloc_old I1.out, heap_alloc_old I2.out⟩, I3.out⟩, i4.alloc i4.size _⟩ ⟨W.heap.size, heap_ofAlloc W _, rfl⟩
      case body =>
        rintro l pre x a' W hl ⟨r, hr⟩ ⟨⟨⟨i1, i2⟩, i3⟩, i4⟩ ⟨Bx, hbx, rfl⟩ hlt
        clear hr r
        have I3 := Lib.hid i3; have I4 := Lib.hid i4; have I1 := Lib.hid i1; have I2 := Lib.hid i2
        obtain ⟨xpl, xao, xsp, xt, xat, xht, xm⟩ := x
        have hpl : (pre.length : Int) < 40 := by omega
        have hkl : ((xt.kids.length : Nat) : Int) ≤ 9223372036854775807 := by have := xht.open; obtain ⟨_, _, e, _, hm⟩ := this; unfold maxLen at hm; omega
        obtain ⟨⟨x0, _⟩, x1, _⟩ := box2 hbx
        obtain ⟨⟨y0, y1⟩, y2, y3⟩ := box2 i2
        obtain ⟨n0, n1⟩ := box1 i1
        have hly := heap_lt i2
        have hln := heap_lt i1
        clear i1 i2 i3 i4 hbx
        dsimp only at x0 x1 ⊢
        by_cases hA : xt.head = 0
        · have hz : (xt.head == 0) = true := by simpa using hA
          have HSC := Lib.hid (show scan ((pre ++ [(⟨xpl, xao, xsp, xt, xat, xht, xm⟩ : NX w t)]).map (·.t)) 0 = (3, (pre.length : Int)) by rw [scan_snoc_bad I3.out (fun h => h.1 (by unfold badHead; dsimp only; omega))]; rw [if_pos (by unfold badHead; dsimp only; omega)])
          clear hA
          gi_wp2
          exact ⟨((KeepsOthers.setCell _ _ _).trans (KeepsOthers.setCell _ _ _)).from _, ⟨⟨rfl, by rw [HSC.out]; simp⟩, by rw [HSC.out]; exact box2_set I2.out _ _⟩, (I4.out.setCell (p := ⟨br, 0, none⟩) h1 _).setCell (p := ⟨br, 1, none⟩) h1 _⟩
        · have hz : (xt.head == 0) = false := by simpa using hA
          by_cases hB : xt.head < -8
          · have HSC := Lib.hid (show scan ((pre ++ [(⟨xpl, xao, xsp, xt, xat, xht, xm⟩ : NX w t)]).map (·.t)) 0 = (3, (pre.length : Int)) by rw [scan_snoc_bad I3.out (fun h => h.1 (by unfold badHead; dsimp only; omega))]; rw [if_pos (by unfold badHead; dsimp only; omega)])
            clear hA
            gi_wp2
            exact ⟨((KeepsOthers.setCell _ _ _).trans (KeepsOthers.setCell _ _ _)).from _, ⟨⟨rfl, by rw [HSC.out]; simp⟩, by rw [HSC.out]; exact box2_set I2.out _ _⟩, (I4.out.setCell (p := ⟨br, 0, none⟩) h1 _).setCell (p := ⟨br, 1, none⟩) h1 _⟩
          · by_cases hC : 12 < xt.head
            · have HSC := Lib.hid (show scan ((pre ++ [(⟨xpl, xao, xsp, xt, xat, xht, xm⟩ : NX w t)]).map (·.t)) 0 = (3, (pre.length : Int)) by rw [scan_snoc_bad I3.out (fun h => h.1 (by unfold badHead; dsimp only; omega))]; rw [if_pos (by unfold badHead; dsimp only; omega)])
              clear hA
              gi_wp2
              exact ⟨((KeepsOthers.setCell _ _ _).trans (KeepsOthers.setCell _ _ _)).from _, ⟨⟨rfl, by rw [HSC.out]; simp⟩, by rw [HSC.out]; exact box2_set I2.out _ _⟩, (I4.out.setCell (p := ⟨br, 0, none⟩) h1 _).setCell (p := ⟨br, 1, none⟩) h1 _⟩
            · by_cases hD : (3 : Int) < xt.kids.length
              · have HSC := Lib.hid (show scan ((pre ++ [(⟨xpl, xao, xsp, xt, xat, xht, xm⟩ : NX w t)]).map (·.t)) 0 = (9, (pre.length : Int)) by rw [scan_snoc_bad I3.out (fun h => h.2 (by unfold badKids; dsimp only; omega))]; rw [if_neg (by unfold badHead; dsimp only; omega)])
                clear hA
                gi_wp2
                all_goals first | (exfalso; exact undef_bool (by assumption)) | exact ⟨((KeepsOthers.setCell _ _ _).trans (KeepsOthers.setCell _ _ _)).from _, ⟨⟨rfl, by rw [HSC.out]; simp⟩, by rw [HSC.out]; exact box2_set I2.out _ _⟩, (I4.out.setCell (p := ⟨br, 0, none⟩) h1 _).setCell (p := ⟨br, 1, none⟩) h1 _⟩
              · by_cases hE : xt.head < 0
                · by_cases hG : (0 : Int) < xt.kids.length
                  · have HSC := Lib.hid (show scan ((pre ++ [(⟨xpl, xao, xsp, xt, xat, xht, xm⟩ : NX w t)]).map (·.t)) 0 = (9, (pre.length : Int)) by rw [scan_snoc_bad I3.out (fun h => h.2 (by unfold badKids; dsimp only; omega))]; rw [if_neg (by unfold badHead; dsimp only; omega)])
                    clear hA
                    gi_wp2
                    exact ⟨((KeepsOthers.setCell _ _ _).trans (KeepsOthers.setCell _ _ _)).from _, ⟨⟨rfl, by rw [HSC.out]; simp⟩, by rw [HSC.out]; exact box2_set I2.out _ _⟩, (I4.out.setCell (p := ⟨br, 0, none⟩) h1 _).setCell (p := ⟨br, 1, none⟩) h1 _⟩
                  · have HOK := Lib.hid (show ∀ y ∈ pre ++ [(⟨xpl, xao, xsp, xt, xat, xht, xm⟩ : NX w t)], okN y.t from okN_snoc I3.out ⟨by unfold badHead; dsimp only; omega, by unfold badKids; dsimp only; omega⟩)
                    clear hA
                    gi_wp2
                    exact ⟨(KeepsOthers.setCell _ _ _).from _, KpN.setCell _ h2 h6 _, ⟨⟨box1_set' I1.out _ (by simp), (heap_set_other I2.out (by simp; omega))⟩, HOK.out⟩, I4.out.setCell (p := ⟨bn, 0, none⟩) h2 _⟩
                · have HOK := Lib.hid (show ∀ y ∈ pre ++ [(⟨xpl, xao, xsp, xt, xat, xht, xm⟩ : NX w t)], okN y.t from okN_snoc I3.out ⟨by unfold badHead; dsimp only; omega, by unfold badKids; dsimp only; omega⟩)
                  clear hA
                  gi_wp2
                  exact ⟨(KeepsOthers.setCell _ _ _).from _, KpN.setCell _ h2 h6 _, ⟨⟨box1_set' I1.out _ (by simp), (heap_set_other I2.out (by simp; omega))⟩, HOK.out⟩, I4.out.setCell (p := ⟨bn, 0, none⟩) h2 _⟩
      case done =>
        rintro D xs W hD hxs ⟨⟨⟨i1, i2⟩, i3⟩, i4⟩ hK
        have HF2 := Lib.hid (show treeF t = (0, 0) by rw [HF.out, scan_ok]; rw [← map_pt_snd hxs]; simpa using i3)
        have I2 := Lib.hid i2; have I4 := Lib.hid i4
        have HK := Lib.hid hK
        obtain ⟨⟨y0, y1⟩, y2, y3⟩ := box2 i2
        have hly := heap_lt i2
        clear i1 i2 i3 i4 hxs hK
        go_wp2_with fail
        have hk2 := ((KeepsOthers.setCell W ⟨br, 0, none⟩ (.int .i64 0)).trans (KeepsOthers.setCell _ ⟨br, 1, none⟩ (.int .i64 0))).same D _ HK.out rfl
        refine retM_box2 (.int .i64 0) (.int .i64 0) br 32 (box2_set I2.out _ _) hk2 (fun w' q0 q1 => by simp [results, Try.results66, go_sem, q0, q1]) rfl ?_
        exact ⟨by rw [HF2.out]; rfl, ((I4.out.setCell (p := ⟨br, 0, none⟩) h1 _).setCell (p := ⟨br, 1, none⟩) h1 _).trans (belowK_b (w := w) (Nat.le_refl _) _ D _ _ (by have := hb04.size; omega) hk2 rfl rfl)⟩
      case stop =>
        rintro D c pre W hD hpre ⟨⟨⟨rfl, i1⟩, i2⟩, i4⟩ hK
        have HF2 := Lib.hid (show treeF t = scan (pre.map (·.t)) 0 by rw [HF.out, scan_prefix (map_pt_snd_prefix hpre) 0 i1])
        have I2 := Lib.hid i2; have I4 := Lib.hid i4
        have HK := Lib.hid hK
        clear i1 i2 i4 hpre hK
        gi_wp2
        generalize scan (pre.map (·.t)) 0 = R at HF2 I2
        obtain ⟨rc, ra⟩ := R
        refine retM_box2 (.int .i64 rc) (.int .i64 ra) br 32 I2.out HK.out (fun w' q0 q1 => by simp [results, Try.results66, go_sem, q0, q1]) rfl ?_
        exact ⟨by rw [HF2.out]; rfl, I4.out.trans (belowK_b (w := w) (Nat.le_refl _) W D _ _ (by have := hb04.size; omega) HK.out rfl rfl)⟩
end Go.Proofs.Yteekoclfpehnpaa
