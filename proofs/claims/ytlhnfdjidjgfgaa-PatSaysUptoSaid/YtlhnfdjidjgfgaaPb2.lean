/-
  Walk: pat.vars, the variables of terms as a map to true, of which the length is asked.
-/
import Derived.Test.YtlhnfdjidjgfgaaProg
import Derived.Test.YtlhnfdjidjgfgaaT25
import Derived.Test.YtlhnfdjidjgfgaaR1
namespace Go.Proofs.Ytlhnfdjidjgfgaa
open Go.RowKit Go.Shelf Go.Maps Go.WideElems
set_option linter.unusedVariables false
set_option maxHeartbeats 400000
attribute [local go_sem] Oper.semAt_some

/-- block b is a map that holds true at the numbers of the list, each of which stands there once -/
def MapC (b : Nat) (X : List Int) (w : World) : Prop :=
  ∃ D : DataW Unit, w.ownsMap Try.prog 3 (plainElem Try.prog 4) b X.length D ∧ Maps.IsMap D ∧ (∀ z : Int, Maps.has D (.int .i64 z) = decide (z ∈ X)) ∧ Maps.size D = X.length
theorem World.ownsMap.tight {H : Type} {P : Program} {k : TypeId} {R : Value → Option (DataW H × List MemPlace)} {w : World} {b n : Nat} {D : DataW H} (h : w.ownsMap P k R b n D) : w.ownsMap P k R b (Maps.size D) D := by
  obtain ⟨es, clock, hb, F, hs, rfl⟩ := h
  have e1 : Maps.size (DataW.map ((es.toList.map (rg P k R)).foldr DataW.insert [])) = es.size := by simp [Maps.size, length_sorted]
  exact ⟨es, clock, hb, F, by omega, rfl⟩
theorem MapC.made (w : World) : MapC w.heap.size [] (w.alloc (.map #[] 0)) := ⟨.map [], World.ownsMap_made _ _ _ _, isMap_empty, fun z => by simp [Maps.has], rfl⟩
theorem MapC.lt {b : Nat} {X : List Int} {w : World} (h : MapC b X w) : b < w.heap.size := by
  obtain ⟨D, h1, _⟩ := h
  exact h1.lt
theorem MapC.carry {b : Nat} {X : List Int} {w w' : World} (h : MapC b X w) (hb : w'.heap[b]? = w.heap[b]?) : MapC b X w' := by
  obtain ⟨D, ⟨es, clock, hm, r⟩, r2⟩ := h
  exact ⟨D, ⟨es, clock, hb.trans hm, r⟩, r2⟩
theorem MapC.put {b : Nat} {X : List Int} {w1 w : World} {D : DataW Unit} {z : Int} (h0 : w.ownsMap Try.prog 3 (plainElem Try.prog 4) b X.length D) (h2 : Maps.IsMap D) (h3 : ∀ z : Int, Maps.has D (.int .i64 z) = decide (z ∈ X)) (h4 : Maps.size D = X.length)
    (ho : w1.ownsMap Try.prog 3 (plainElem Try.prog 4) b (X.length + 1) (D.put (.int .i64 z) (.lit (.bool true)))) : MapC b (if z ∈ X then X else X ++ [z]) w1 := by
  have hk : WideAt.IsKeyLit (.int .i64 z) := by simp [WideAt.IsKeyLit]
  have hsz := Maps.size_put (k := .int .i64 z) (h0.tidy law3) (.lit (.bool true))
  rw [h3, h4] at hsz
  by_cases e : z ∈ X
  · rw [if_pos e]
    rw [decide_eq_true e] at hsz
    have hsz' : Maps.size (D.put (.int .i64 z) (.lit (.bool true))) = X.length := by simpa using hsz
    refine ⟨_, ?_, h2.put _ _, fun y => ?_, hsz'⟩
    · have := World.ownsMap.tight ho; rw [hsz'] at this; exact this
    · by_cases e2 : y = z
      · subst e2; rw [Maps.has_put_same h2 hk]; simp [e]
      · rw [Maps.has_put_other (fun h => e2 (by injection h)), h3]
  · rw [if_neg e]
    rw [decide_eq_false e] at hsz
    have hsz' : Maps.size (D.put (.int .i64 z) (.lit (.bool true))) = (X ++ [z]).length := by simpa using hsz
    refine ⟨_, by simpa using ho, h2.put _ _, fun y => ?_, hsz'⟩
    by_cases e2 : y = z
    · subst e2; rw [Maps.has_put_same h2 hk]; simp
    · rw [Maps.has_put_other (fun h => e2 (by injection h)), h3]; simp [e2]
theorem ownFrom_mapC {β : Type} {f : β → List Int} (bm B : Nat) (hB : bm < B) : OwnFrom B (fun (s : β) V => MapC bm (f s) V) :=
  fun s X Y row hs hg hr => hs.carry (hg.block bm hs.lt (fun e => by have := (hr bm e.symm).1; omega))
theorem MapC.len {b : Nat} {X : List Int} {w : World} (h : MapC b X w) (ty : TypeId) : (Builtin.len_ #[178] ty #[.map (some b)]).run Try.prog w = .ok (.int .i64 X.length) w := by
  obtain ⟨D, h1, h2, h3, h4⟩ := h
  rw [h1.len Try.underlying178 ty, h4]

/-- the marks are taken up: what is no mark lies as it lay -/
theorem leaves_marks2 {n B : Nat} {P : Program} {fn : Func} {tmps : Array Value} {R : Ending → World → Prop} : ∀ (ds : List Nat) (w : World), Marks B w ds →
    (∀ w', Below B w w' → (∀ (b : Nat) (o : Obj), w.heap[b]? = some o → (∀ d, o ≠ .deferred d) → w'.heap[b]? = w.heap[b]?) → ∃ v, (results fn tmps).run P w' = .ok v w' ∧ R (.returned v) w') → B ≤ w.heap.size →
    LeavesInM Fence.wide n P fn tmps R (ds.map mark) .returning w
  | [], w, _, H, _ => H w (Below.refl _ _) (fun _ _ _ _ => rfl)
  | D :: ds, w, hm, H, hB => by
    have hD := hm.2 D (by simp)
    have hn := List.nodup_cons.1 hm.1
    refine ⟨by simp, .inl ⟨D, w.putObj D (.deferred none), rfl, run_takeDeferred hD.2, ?_⟩⟩
    have hbD : Below B w (w.putObj D (.deferred none)) := (Below.refl B w).grown (grownBy_putObj' w D _) hB (fun k e => by cases e; exact hD.1)
    refine leaves_marks2 ds _ ⟨hn.2, fun b hb => ⟨(hm.2 b (by simp [hb])).1, (World.putObj_heap_other (fun e => hn.1 (by rw [← e]; exact hb))).trans (hm.2 b (by simp [hb])).2⟩⟩ ?_ (by simpa using hB)
    intro w' hb' hk'
    refine H w' (hbD.trans hb') fun b o hb ho => ?_
    have hne : b ≠ D := fun e => by subst e; rw [hD.2] at hb; cases hb; exact ho _ rfl
    have e1 : (w.putObj D (.deferred none)).heap[b]? = w.heap[b]? := World.putObj_heap_other hne
    exact (hk' b o (e1.trans hb) ho).trans e1
theorem bodyM_marks2 {n B : Nat} {P : Program} {fn : Func} {tmps : Array Value} {R : Ending → World → Prop} {ds : List Nat} {w : World} (hm : Marks B w ds) (hB : B ≤ w.heap.size)
    (H : ∀ w', Below B w w' → (∀ (b : Nat) (o : Obj), w.heap[b]? = some o → (∀ d, o ≠ .deferred d) → w'.heap[b]? = w.heap[b]?) → ∃ v, (results fn tmps).run P w' = .ok v w' ∧ R (.returned v) w') :
    bodyPostM Fence.wide n P fn R .ret { tmps := tmps, defers := ds.map mark } w := leaves_marks2 ds w hm H hB

set_option maxRecDepth 100000 in
set_option maxHeartbeats 4000000 in
theorem vars149 (ks : List T) (ao : Option Addr) (c : Nat) (w : World) (hr : RowAt w ao ks) (hn : ks.length ≤ 1000000) (hz : sizeL ks ≤ 1000000) (hsz : ∀ i, i < ks.length → (gK ks i).size ≤ 1000000 ∧ (gK ks i).deep ≤ 100000 ∧ ∀ x ∈ (gK ks i).pre, okN x) :
    Calls Try.prog 149 #[.slice ao ks.length c] w fun e w' => ∃ b, e = .returned (.map (some b)) ∧ MapC b (orderL ks []) w' ∧ Below w.heap.size w w' := by
  have HR := Lib.hid hr; have HSZ := Lib.hid hsz; clear hr hsz
  have hM0 := MapC.made w
  have hM1 := hM0.carry (Below.heap_alloc (w.alloc (.map #[] 0)) (.cells #[.map (some w.heap.size)] 178) w.heap.size (by simp))
  have hbn := heap_ofAlloc (w.alloc (.map #[] 0)) (.cells #[.map (some w.heap.size)] 178)
  rw [World.size_alloc] at hbn
  have hb0 := ((Below.refl w.heap.size w).alloc (Nat.le_refl _) (.map #[] 0)).alloc (by simp) (.cells #[.map (some w.heap.size)] 178)
  have hsw : w.heap.size + 2 ≤ ((w.alloc (.map #[] 0)).alloc (.cells #[.map (some w.heap.size)] 178)).heap.size := by simp
  have hmm := @run_makeMap Try.prog
  have HM1 := Lib.hid hM1
  clear hM0 hM1
  refine (callsIn_wide (n := 4)).1 ?_
  refine callsIn_of_wp_marks Try.func149 rfl trivial ?_ rfl
  simp only [Try.ntmps149, List.size_toArray, List.length_cons, List.length_nil, Nat.reduceAdd, Nat.reduceSub, Array.replicate_succ, Array.replicate_zero, List.push_toArray, List.append_toArray, List.nil_append, List.cons_append]
  gi_wp2_with fail
  have hM1 := HM1.out
  generalize (w.alloc (.map #[] 0)).alloc (.cells #[.map (some w.heap.size)] 178) = w0 at hM1 hbn hb0 hsw ⊢
  clear HM1 hmm
  refine wpIn_loop (fun a W => ∃ (k : Nat) (ds : List Nat) (z5 z12 z13 z14 z15 z16 z25 : Value), k ≤ ks.length ∧
      a = { tmps := #[.slice ao ks.length c, undef, .map none, .pointer (some ⟨w.heap.size + 1, 0, none⟩), undef, z5, undef, undef, .map (some w.heap.size), .slice ao ks.length c, .int .i64 (ks.length : Int), .int .i64 (k : Int), z12, z13, z14, z15, z16, undef, undef, undef, undef, undef, undef, undef, undef, z25, undef], defers := ds.map mark } ∧
      MapC w.heap.size (orderL (ks.take k) []) W ∧ W.heap[w.heap.size + 1]? = some (.cells #[.map (some w.heap.size)] 178 (0, 0)) ∧ Marks w.heap.size W ds ∧ Below w.heap.size w W ∧ w0.heap.size ≤ W.heap.size) (fun a _ => ks.length - (intOf (a.tmps.getD 11 undef)).toNat) ?start ?round
  case start => exact ⟨0, [], _, _, _, _, _, _, _, by omega, rfl, hM1, hbn, Marks.nil _ _, hb0, Nat.le_refl _⟩
  case round =>
    rintro a W ⟨k, ds, z5, z12, z13, z14, z15, z16, z25, hk, rfl, hmp, hbox, hmk, hbw, hws⟩
    obtain ⟨X, hX⟩ : ∃ X, X = orderL (ks.take k) [] := ⟨_, rfl⟩
    rw [← hX] at hmp
    have HMK := Lib.hid hmk; have HX := Lib.hid hX
    have HXL := Lib.hid (show X.length ≤ 1000000 by
      rw [hX]
      have h1 := orderL_length (ks.take k) []
      have h2 := sizeL_take_le ks k
      simp at h1; omega)
    have HMP := Lib.hid hmp
    clear hmk hX hmp
    by_cases hlt : k < ks.length
    · obtain ⟨b, off, ko, ksp, rfl, c1, c2, c3⟩ := HR.out k hlt
      have d1 := Below.cellOf hbw c1; have d2 := Below.cellOf hbw c2
      have HC0 := Lib.hid c3
      have HSK := Lib.hid (HSZ.out k hlt)
      have HTK := Lib.hid (orderL_take hlt [])
      clear c3 c1 c2
      generalize gK ks k = x at d1 d2 HC0 HSK HTK ⊢
      gi_wp2_with fail
      have hb1 := (Below.refl W.heap.size W).alloc (Nat.le_refl _) (.cells #[.int .i64 x.head, .slice ko x.kids.length (x.kids.length + ksp)] 38)
      have hbox1 := heap_alloc_old (o' := .cells #[.int .i64 x.head, .slice ko x.kids.length (x.kids.length + ksp)] 38) hbox
      refine ⟨trivial, ?_⟩
      refine (callsIn_wide.2 (nodes48 (.agg #[.int .i64 x.head, .slice ko x.kids.length (x.kids.length + ksp)]) x _ (HC0.out.kept (Below.step hbw hb1)))).mono ?_
      rintro e w2 ⟨rfl, hw2⟩
      have hb2 := hb1.alloc hb1.size (.cells #[.int .i64 x.head, .slice ko x.kids.length (x.kids.length + ksp)] 38)
      have hbox2 := heap_alloc_old (o' := .cells #[.int .i64 x.head, .slice ko x.kids.length (x.kids.length + ksp)] 38) hbox1
      have hk2 := heap_ofAlloc (W.alloc (.cells #[.int .i64 x.head, .slice ko x.kids.length (x.kids.length + ksp)] 38)) (.cells #[.int .i64 x.head, .slice ko x.kids.length (x.kids.length + ksp)] 38)
      rw [show w2 = (W.alloc (.cells #[.int .i64 x.head, .slice ko x.kids.length (x.kids.length + ksp)] 38)).alloc (.cells #[.int .i64 x.head, .slice ko x.kids.length (x.kids.length + ksp)] 38) from hw2]
      rw [World.size_alloc] at hk2
      have hs2 : ((W.alloc (.cells #[.int .i64 x.head, .slice ko x.kids.length (x.kids.length + ksp)] 38)).alloc (.cells #[.int .i64 x.head, .slice ko x.kids.length (x.kids.length + ksp)] 38)).heap.size = W.heap.size + 2 := by simp
      have hkeepW : ∀ b, b < W.heap.size → ((W.alloc (.cells #[.int .i64 x.head, .slice ko x.kids.length (x.kids.length + ksp)] 38)).alloc (.cells #[.int .i64 x.head, .slice ko x.kids.length (x.kids.length + ksp)] 38)).heap[b]? = W.heap[b]? := fun b hb => hb2.block b hb
      clear hw2 w2 hbox1 hb1
      generalize (W.alloc (.cells #[.int .i64 x.head, .slice ko x.kids.length (x.kids.length + ksp)] 38)).alloc (.cells #[.int .i64 x.head, .slice ko x.kids.length (x.kids.length + ksp)] 38) = W2 at hb2 hbox2 hk2 hs2 hkeepW ⊢
      gi_wp2_with fail
      obtain ⟨bm, hbm'⟩ : ∃ b, b = w.heap.size := ⟨_, rfl⟩
      obtain ⟨bk, hbk'⟩ : ∃ b, b = W.heap.size + 1 := ⟨_, rfl⟩
      rw [← hbk'] at hk2 ⊢
      have hMP2 := HMP.out.carry (hkeepW _ HMP.out.lt)
      rw [← hbm'] at hbox2 hbox hMP2 ⊢
      have hbw2 := Below.step hbw hb2
      have g1 : w.heap.size ≤ bm := by omega
      have g2 : bm + 1 < W.heap.size := by have := heap_lt hbox; omega
      have g3 : W.heap.size ≤ W2.heap.size := by omega
      have HSK2 := Lib.hid (fun y (hy : y ∈ x.pre) => HSK.out.2.2 y hy)
      have HBM := Lib.hid hbm'
      have HMP2 := Lib.hid hMP2
      have HBX := Lib.hid hbox2
      have HSZ2 := Lib.hid HSK.out.1
      clear hbk' hbm' d1 d2 hs2 hMP2 hbox
      refine wpIn_rangeFunc_ownH rfl (by omega) (gf := 123) (lb := #[.pointer (some ⟨bk, 0, none⟩)]) rfl trivial (enters_of Try.func123 (by kernel_rfl) rfl)
        (nodes_stops w W.heap.size bk x ko ksp W2 (by have := HSK.out.1; omega) (HSK.out.2.1) hbw.size hbw2 g3 HC0.out hk2) (fun h k => KpN.trans h k) (KpN.putObj hbw2.size) (Below.refl _ _) (fun _ => rfl)
        (fun pre V => (MapC bm ((pre.map (·.t)).foldl insV X) V ∧ (∀ b, b < W2.heap.size → b ≠ bm → V.heap[b]? = W2.heap[b]?)) ∧ Below w.heap.size w V)
        (fun _ _ _ => False)
        (OwnFrom.and (OwnFrom.and (ownFrom_mapC bm _ (by omega)) (ownFrom_frame W2 bm _ (Nat.le_refl _))) (ownFrom_below (Nat.le_refl _) hbw2.size))
        (fun _ _ _ _ _ hs _ _ => hs)
        ⟨⟨HMP2.out, fun _ _ _ => rfl⟩, hbw2⟩
        (fun y a' V => ∃ Bx : Nat, V.heap[Bx]? = some (.cells #[.int .i64 y.t.head, .slice y.ao y.t.kids.length (y.t.kids.length + y.sp)] 38 (0, 0)) ∧ a' = { tmps := #[.slice (some ⟨b, off, none⟩) ks.length c, undef, .map none, .pointer (some ⟨bm + 1, 0, none⟩), undef, .pointer (some ⟨W.heap.size, 0, none⟩), undef, .pointer (some ⟨Bx, 0, none⟩), .map (some bm), .slice (some ⟨b, off, none⟩) ks.length c, .int IntKind.i64 (ks.length : Int), .int IntKind.i64 (k : Int), .bool true, .pointer (some ⟨b, off + k * 2, none⟩), .agg #[Value.int IntKind.i64 x.head, Value.slice ko x.kids.length (x.kids.length + ksp)], .agg #[Value.int IntKind.i64 x.head, Value.slice ko x.kids.length (x.kids.length + ksp)], .func (.func 123) #[] #[.pointer (some ⟨bk, 0, none⟩)], y.pl, .agg #[.int .i64 y.t.head, .slice y.ao y.t.kids.length (y.t.kids.length + y.sp)], undef, undef, undef, undef, undef, undef, z25, undef], defers := [] })
        (fun y a' _ X Y row hs hg hr => by obtain ⟨Bx, q2, q3⟩ := hs; exact ⟨Bx, own_block Bx (fun _ : Unit => _) (fun _ => rfl) () X Y row q2 hg (fun r e => (hr r e).2), q3⟩)
        ?assign ?body ?done ?stop
      case assign =>
        rintro l pre y V K ⟨⟨i1, i2⟩, i3⟩ hK
        have HK := Lib.hid hK; have I1 := Lib.hid i1; have I2 := Lib.hid i2; have I3 := Lib.hid i3
        have I4 := Lib.hid (frame_size' i2 i1.lt (by omega))
        simp only [NX.encs]
        clear hK i1 i2 i3
        gi_wp2
        exact HK.out _ _ (KeepsFrom.alloc' _ _ _) (KpN.of ((Below.refl _ V).alloc (Nat.le_refl _) _) I3.out.size) ⟨⟨I1.out.carry (Below.heap_alloc V _ bm I1.out.lt), fun b h1 h2 => (Below.heap_alloc V _ b (by have := I4.out; omega)).trans (I2.out b h1 h2)⟩, I3.out.alloc I3.out.size _⟩ ⟨V.heap.size, heap_ofAlloc V _, rfl⟩
      case body =>
        rintro l pre y a' V hl ⟨r, hr⟩ ⟨⟨i1, i2⟩, i3⟩ ⟨Bx, hbx, rfl⟩ hlt
        clear hr r
        have I1 := Lib.hid i1; have I2 := Lib.hid i2; have I3 := Lib.hid i3
        obtain ⟨ypl, yao, ysp, yt, yat, yht, ym⟩ := y
        have hok := HSK2.out yt ym
        have h1 : -8 ≤ yt.head := by have := hok.1; simp only [badHead] at this; omega
        have h2 : yt.head ≤ 12 := by have := hok.1; simp only [badHead] at this; omega
        obtain ⟨⟨x0, _⟩, x1, _⟩ := box2 hbx
        obtain ⟨v0, v1⟩ := box1 ((I2.out (bm + 1) (by omega) (by omega)).trans HBX.out)
        obtain ⟨D, hown, hD2, hD3, hD4⟩ := i1
        have HPL := Lib.hid (show ((pre.map (·.t)).foldl insV X).length ≤ 3000000 by
          have q1 := foldV_len (pre.map (·.t)) X
          have q2 := HXL.out
          have q3 := HSZ2.out
          simp at q1; omega)
        have HSN := Lib.hid (show ((pre ++ [(⟨ypl, yao, ysp, yt, yat, yht, ym⟩ : NX w x)]).map (·.t)).foldl insV X = insV ((pre.map (·.t)).foldl insV X) yt by rw [List.map_append, List.foldl_append]; rfl)
        have hkey : keyOf Try.prog 3 (.int .i64 yt.head) = some (.int .i64 yt.head) := keyOf_int_mk Try.underlying3 (wf64 (by omega) (by omega))
        have HOWN := Lib.hid hown
        have HD2 := Lib.hid hD2; have HD3 := Lib.hid hD3; have HD4 := Lib.hid hD4
        clear i2 i3 hbx hok hD2 hD3 hD4
        dsimp only at x0 x1 ⊢
        by_cases hneg : yt.head < 0
        · have HSV := Lib.hid (show insV ((pre.map (·.t)).foldl insV X) yt = if yt.head ∈ (pre.map (·.t)).foldl insV X then (pre.map (·.t)).foldl insV X else (pre.map (·.t)).foldl insV X ++ [yt.head] by unfold insV; rw [if_pos hneg])
          gi_wp2_with (gi_at_mapUpdate; refine wpListIn_mapUpdate_own _ rfl _ _ _ 178 rfl 3 4 law3 Try.underlying178 _ bm _ D rfl hown (by have := HPL.out; unfold maxLen; omega) _ _ _ rfl rfl hkey _ [] (plainElem_bool Try.underlying4 true) ?_; intro V1 hown1 hgrow1)
          have hput := MapC.put HOWN.out HD2.out HD3.out HD4.out hown1
          refine ⟨KeepsFrom.of_grownBy hgrow1 (fun j e => by cases e; omega), KpN.grown hgrow1 (by omega) (by omega) I3.out.size, ⟨?_, fun b' q1 q2 => (hgrow1.block b' (by have := frame_size' I2.out I1.out.lt (by omega); omega) (fun e => q2 (by injection e))).trans (I2.out b' q1 q2)⟩, I3.out.grown hgrow1 I3.out.size (fun c hc => by cases hc; omega)⟩
          rw [HSN.out, HSV.out]; exact hput
        · have HSV := Lib.hid (show insV ((pre.map (·.t)).foldl insV X) yt = (pre.map (·.t)).foldl insV X by unfold insV; rw [if_neg hneg])
          gi_wp2
          all_goals first
            | (exfalso; omega)
            | exact ⟨KeepsFrom.refl _ _, KpN.refl _ _ _, ⟨by rw [HSN.out, HSV.out]; exact I1.out, I2.out⟩, I3.out⟩
      case done =>
        rintro D xs V hD hxs ⟨⟨i1, i2⟩, i3⟩ hK
        have hpr := map_pt_snd hxs
        have HMX := Lib.hid (show (xs.map (·.t)).foldl insV X = orderL (ks.take (k + 1)) [] by rw [hpr, foldl_pre x HSK2.out, HTK.out, ← HX.out])
        have I1 := Lib.hid i1; have I2 := Lib.hid i2; have I3 := Lib.hid i3
        have HK := Lib.hid hK
        have I4 := Lib.hid (frame_size' i2 i1.lt (by omega))
        clear i1 i2 i3 hK hxs hpr
        have HMK2 := Lib.hid (HMK.out.cons (D := D) (W' := V) (fun b h1 h2 => (I2.out b (by omega) (fun e => by
          obtain ⟨Dm, ⟨es, cl, hm, _⟩, _⟩ := HMP.out
          rw [e, HBM.out, hm] at h2; cases h2)).trans (hkeepW b h1)) HK.out (by omega) (by omega))
        have hlen : (k : Int) + 1 = ((k + 1 : Nat) : Int) := by omega
        have HLEN := Lib.hid hlen
        clear hlen
        gi_wp2
        refine ⟨⟨k + 1, D :: ds, .pointer (some ⟨W.heap.size, 0, none⟩), .bool true, .pointer (some ⟨b, off + k * 2, none⟩), .agg #[.int .i64 x.head, .slice ko x.kids.length (x.kids.length + ksp)], .agg #[.int .i64 x.head, .slice ko x.kids.length (x.kids.length + ksp)], .func (.func 123) #[] #[.pointer (some ⟨bk, 0, none⟩)], .int .i64 ((k : Int) + 1), by omega, ?_, ?_, ?_, HMK2.out, I3.out, by have := I4.out; omega⟩, ?_⟩
        · rw [HBM.out, HLEN.out]; rfl
        · have := I1.out; rw [HMX.out, HBM.out] at this; exact this
        · have := (I2.out (bm + 1) (by omega) (by omega)).trans HBX.out; rw [HBM.out] at this; exact this
        · simp [intOf] <;> omega
      case stop =>
        rintro D c' pre V _ _ h _
        exact h.elim
    · obtain rfl : k = ks.length := by omega
      obtain ⟨n0, n1⟩ := box1 hbox
      have hlb := heap_lt hbox
      have HBX := Lib.hid hbox
      clear hbox
      gi_wp2_with fail
      refine bodyM_marks2 HMK.out hbw.size (fun w' hb' hk' => ⟨_, results_tmp rfl _ _ _, ?_⟩)
      have h9 := HMP.out
      rw [HX.out, List.take_length] at h9
      refine ⟨w.heap.size, rfl, h9.carry ?_, hbw.trans hb'⟩
      obtain ⟨Dm, ⟨es, cl, hm, _⟩, _⟩ := h9
      exact hk' _ _ hm (fun d e => by cases e)
end Go.Proofs.Ytlhnfdjidjgfgaa
