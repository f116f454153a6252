/-
  Walks: tree.Max.
-/
import Derived.Test.YtlhnfdjidjgfgaaProg
import Derived.Test.YtlhnfdjidjgfgaaBase
import Derived.Test.YtlhnfdjidjgfgaaXd
namespace Go.Proofs.Ytlhnfdjidjgfgaa
open Go.RowKit Go.Shelf
set_option linter.unusedVariables false
set_option maxHeartbeats 400000
attribute [local go_sem] Oper.semAt_some

def mark (D : Nat) : Deferred := { target := .collected D, args := #[] }
def Marks (B : Nat) (W : World) (ds : List Nat) : Prop := ds.Nodup ∧ ∀ D ∈ ds, B ≤ D ∧ W.heap[D]? = some (.deferred (some []))
theorem Marks.nil (B : Nat) (W : World) : Marks B W [] := ⟨List.nodup_nil, fun D h => by cases h⟩
theorem Marks.kept {B : Nat} {W W' : World} {ds : List Nat} (h : Marks B W ds) (hk : ∀ (D : Nat), W.heap[D]? = some (Obj.deferred (some [])) → W'.heap[D]? = W.heap[D]?) : Marks B W' ds :=
  ⟨h.1, fun D hD => ⟨(h.2 D hD).1, (hk D (h.2 D hD).2).trans (h.2 D hD).2⟩⟩
theorem Marks.below {B : Nat} {W W' : World} {ds : List Nat} (h : Marks B W ds) (hb : Below W.heap.size W W') : Marks B W' ds := h.kept fun D hD => hb.block D (Array.getElem?_eq_some_iff.1 hD).1
theorem Marks.cons {B : Nat} {W W' : World} {ds : List Nat} {D : Nat} (h : Marks B W ds) (hk : ∀ (b : Nat), b < W.heap.size → W.heap[b]? = some (Obj.deferred (some [])) → W'.heap[b]? = W.heap[b]?) (hD : W'.heap[D]? = some (.deferred (some []))) (hB : B ≤ D) (hn : W.heap.size ≤ D) : Marks B W' (D :: ds) := by
  have h' : Marks B W' ds := h.kept fun b hb => hk b (Array.getElem?_eq_some_iff.1 hb).1 hb
  refine ⟨List.nodup_cons.2 ⟨fun hm => ?_, h'.1⟩, fun b hb => ?_⟩
  · have := (Array.getElem?_eq_some_iff.1 (h.2 D hm).2).1; omega
  · rcases List.mem_cons.1 hb with rfl | hb
    · exact ⟨hB, hD⟩
    · exact h'.2 b hb
/-- the marks are taken up: what is no mark lies as it lay -/
theorem leaves_marks {n B : Nat} {P : Program} {fn : Func} {tmps : Array Value} {R : Ending → World → Prop} : ∀ (ds : List Nat) (w : World), Marks B w ds →
    (∀ w', Below B w w' → (∀ (b : Nat) (cs : Array Value) (ty : TypeId) (fz : Nat × Nat), w.heap[b]? = some (Obj.cells cs ty fz) → w'.heap[b]? = w.heap[b]?) → ∃ v, (results fn tmps).run P w' = .ok v w' ∧ R (.returned v) w') → B ≤ w.heap.size →
    LeavesInM Fence.wide n P fn tmps R (ds.map mark) .returning w
  | [], w, _, H, _ => H w (Below.refl _ _) (fun _ _ _ _ _ => rfl)
  | D :: ds, w, hm, H, hB => by
    have hD := hm.2 D (by simp)
    have hn := List.nodup_cons.1 hm.1
    refine ⟨by simp, .inl ⟨D, w.putObj D (.deferred none), rfl, run_takeDeferred hD.2, ?_⟩⟩
    have hbD : Below B w (w.putObj D (.deferred none)) := (Below.refl B w).grown (grownBy_putObj' w D _) hB (fun k e => by cases e; exact hD.1)
    refine leaves_marks ds _ ⟨hn.2, fun b hb => ⟨(hm.2 b (by simp [hb])).1, (World.putObj_heap_other (fun e => hn.1 (by rw [← e]; exact hb))).trans (hm.2 b (by simp [hb])).2⟩⟩ ?_ (by simpa using hB)
    intro w' hb' hk'
    refine H w' (hbD.trans hb') fun b cs ty fz hb => ?_
    have hne : b ≠ D := fun e => by subst e; rw [hD.2] at hb; cases hb
    have e1 : (w.putObj D (.deferred none)).heap[b]? = w.heap[b]? := World.putObj_heap_other hne
    exact (hk' b cs ty fz (e1.trans hb)).trans e1
theorem bodyM_marks {n B : Nat} {P : Program} {fn : Func} {tmps : Array Value} {R : Ending → World → Prop} {ds : List Nat} {w : World} (hm : Marks B w ds) (hB : B ≤ w.heap.size)
    (H : ∀ w', Below B w w' → (∀ (b : Nat) (cs : Array Value) (ty : TypeId) (fz : Nat × Nat), w.heap[b]? = some (Obj.cells cs ty fz) → w'.heap[b]? = w.heap[b]?) → ∃ v, (results fn tmps).run P w' = .ok v w' ∧ R (.returned v) w') :
    bodyPostM Fence.wide n P fn R .ret { tmps := tmps, defers := ds.map mark } w := leaves_marks ds w hm H hB

theorem ownFrom_frame {β : Type} (W2 : World) (bn B : Nat) (hB : W2.heap.size ≤ B) : OwnFrom B (fun (_ : β) V => ∀ b, b < W2.heap.size → b ≠ bn → V.heap[b]? = W2.heap[b]?) :=
  fun _ X Y row hs hg hr b h1 h2 => by
    have hX := hs b h1 h2
    have hlt : b < X.heap.size := by
      rw [Array.getElem?_eq_getElem h1] at hX
      exact (Array.getElem?_eq_some_iff.1 hX).1
    exact (hg.block b hlt (fun e => by have := (hr b e.symm).1; omega)).trans hX
theorem frame_size {V W2 : World} {bn : Nat} {o : Obj} (h : ∀ b, b < W2.heap.size → b ≠ bn → V.heap[b]? = W2.heap[b]?) (hb : W2.heap[bn]? = some o) (hlv : bn < V.heap.size) : W2.heap.size ≤ V.heap.size := by
  by_cases h0 : W2.heap.size ≤ V.heap.size
  · exact h0
  · have h1 : V.heap.size < W2.heap.size := by omega
    have h2 := h V.heap.size h1 (by omega)
    rw [Array.getElem?_eq_getElem h1] at h2
    have := (Array.getElem?_eq_some_iff.1 h2).1
    omega

set_option maxRecDepth 100000 in
set_option maxHeartbeats 4000000 in
theorem max47 (ks : List T) (ao : Option Addr) (c : Nat) (w : World) (hr : RowAt w ao ks) (hn : ks.length ≤ 100000000) (hsz : ∀ i, i < ks.length → (gK ks i).size ≤ 1000000 ∧ (gK ks i).deep ≤ 100000 ∧ ∀ x ∈ (gK ks i).pre, okN x) :
    Calls Try.prog 100 #[.slice ao ks.length c] w fun e w' => e = .returned (.int .i64 (mostL ks)) ∧ Below w.heap.size w w' := by
  have HR := Lib.hid hr; have HSZ := Lib.hid hsz; clear hr hsz
  have hbn := heap_ofAlloc w (.cells #[.int .i64 0] 3)
  have hb0 := (Below.refl w.heap.size w).alloc (Nat.le_refl _) (.cells #[.int .i64 0] 3)
  have hsw : w.heap.size < (w.alloc (.cells #[.int .i64 0] 3)).heap.size := by simp
  refine (callsIn_wide (n := 4)).1 ?_
  refine callsIn_of_wp_marks Try.func100 rfl trivial ?_ rfl
  simp only [Try.ntmps100, List.size_toArray, List.length_cons, List.length_nil, Nat.reduceAdd, Nat.reduceSub, Array.replicate_succ, Array.replicate_zero, List.push_toArray, List.append_toArray, List.nil_append, List.cons_append]
  gi_wp2_with fail
  generalize w.alloc (.cells #[.int .i64 0] 3) = w0 at hbn hb0 hsw ⊢
  refine wpIn_loop (fun a W => ∃ (k : Nat) (ds : List Nat) (z5 z11 z12 z13 z14 z15 z23 : Value), k ≤ ks.length ∧
      a = { tmps := #[.slice ao ks.length c, undef, .int .i64 0, .pointer (some ⟨w.heap.size, 0, none⟩), undef, z5, undef, undef, .slice ao ks.length c, .int .i64 (ks.length : Int), .int .i64 (k : Int), z11, z12, z13, z14, z15, undef, undef, undef, undef, undef, undef, undef, z23, undef], defers := ds.map mark } ∧
      W.heap[w.heap.size]? = some (.cells #[.int .i64 (mostL (ks.take k))] 3 (0, 0)) ∧ Marks w.heap.size W ds ∧ Below w.heap.size w W ∧ w0.heap.size ≤ W.heap.size) (fun a _ => ks.length - (intOf (a.tmps.getD 10 undef)).toNat) ?start ?round
  case start => exact ⟨0, [], _, _, _, _, _, _, _, by omega, rfl, by simpa [mostL] using hbn, Marks.nil _ _, hb0, Nat.le_refl _⟩
  case round =>
    rintro a W ⟨k, ds, z5, z11, z12, z13, z14, z15, z23, hk, rfl, hbox, hmk, hbw, hws⟩
    obtain ⟨M, hM⟩ : ∃ M, M = mostL (ks.take k) := ⟨_, rfl⟩
    rw [← hM] at hbox
    have hM0 : 0 ≤ M := by rw [hM]; exact mostL_nonneg _
    have HMK := Lib.hid hmk; have HM := Lib.hid hM
    clear hmk hM
    by_cases hlt : k < ks.length
    · obtain ⟨b, off, ko, ksp, rfl, c1, c2, c3⟩ := HR.out k hlt
      have d1 := Below.cellOf hbw c1; have d2 := Below.cellOf hbw c2
      have HC0 := Lib.hid c3
      have HSK := Lib.hid (HSZ.out k hlt)
      have HTK := Lib.hid (mostL_take hlt)
      clear c3 c1 c2
      generalize gK ks k = x at d1 d2 HC0 HSK HTK ⊢
      gi_wp2_with fail
      have hb1 := (Below.refl W.heap.size W).alloc (Nat.le_refl _) (.cells #[.int .i64 x.head, .slice ko x.kids.length (x.kids.length + ksp)] 38)
      have hbox1 := heap_alloc_old (o' := .cells #[.int .i64 x.head, .slice ko x.kids.length (x.kids.length + ksp)] 38) hbox
      refine ⟨trivial, ?_⟩
      refine (callsIn_wide.2 (nodes48 (.agg #[.int .i64 x.head, .slice ko x.kids.length (x.kids.length + ksp)]) x _ (HC0.out.kept (Below.step hbw hb1)))).mono ?_
      rintro e w2 ⟨rfl, hw2⟩
      have hb2 := hb1.alloc hb1.size (.cells #[.int .i64 x.head, .slice ko x.kids.length (x.kids.length + ksp)] 38)
      have hbox2 := heap_alloc_old (o' := .cells #[.int .i64 x.head, .slice ko x.kids.length (x.kids.length + ksp)] 38) hbox1
      have hk2 := heap_ofAlloc (W.alloc (.cells #[.int .i64 x.head, .slice ko x.kids.length (x.kids.length + ksp)] 38)) (.cells #[.int .i64 x.head, .slice ko x.kids.length (x.kids.length + ksp)] 38)
      rw [show w2 = (W.alloc (.cells #[.int .i64 x.head, .slice ko x.kids.length (x.kids.length + ksp)] 38)).alloc (.cells #[.int .i64 x.head, .slice ko x.kids.length (x.kids.length + ksp)] 38) from hw2]
      rw [World.size_alloc] at hk2
      have hs2 : ((W.alloc (.cells #[.int .i64 x.head, .slice ko x.kids.length (x.kids.length + ksp)] 38)).alloc (.cells #[.int .i64 x.head, .slice ko x.kids.length (x.kids.length + ksp)] 38)).heap.size = W.heap.size + 2 := by simp
      have hkeepW : ∀ b, b < W.heap.size → ((W.alloc (.cells #[.int .i64 x.head, .slice ko x.kids.length (x.kids.length + ksp)] 38)).alloc (.cells #[.int .i64 x.head, .slice ko x.kids.length (x.kids.length + ksp)] 38)).heap[b]? = W.heap[b]? := fun b hb => hb2.block b hb
      clear hw2 w2 hbox1 hb1
      generalize (W.alloc (.cells #[.int .i64 x.head, .slice ko x.kids.length (x.kids.length + ksp)] 38)).alloc (.cells #[.int .i64 x.head, .slice ko x.kids.length (x.kids.length + ksp)] 38) = W2 at hb2 hbox2 hk2 hs2 hkeepW ⊢
      gi_wp2_with fail
      obtain ⟨bn, hbn'⟩ : ∃ b, b = w.heap.size := ⟨_, rfl⟩
      obtain ⟨bk, hbk'⟩ : ∃ b, b = W.heap.size + 1 := ⟨_, rfl⟩
      rw [← hbk'] at hk2 ⊢
      rw [← hbn'] at hbox2 hbox ⊢
      have hbw2 := Below.step hbw hb2
      have g1 : w.heap.size ≤ bn := by omega
      have g2 : bn < W.heap.size := by have := heap_lt hbox; omega
      have g3 : W.heap.size ≤ W2.heap.size := by omega
      have HSK2 := Lib.hid (fun y (hy : y ∈ x.pre) => HSK.out.2.2 y hy)
      have HBN := Lib.hid hbn'
      clear hbk' hbn' d1 d2 hs2
      refine wpIn_rangeFunc_ownH rfl (by omega) (gf := 123) (lb := #[.pointer (some ⟨bk, 0, none⟩)]) rfl trivial (enters_of Try.func123 (by kernel_rfl) rfl)
        (nodes_stops w W.heap.size bk x ko ksp W2 (by have := HSK.out.1; omega) (HSK.out.2.1) hbw.size hbw2 g3 HC0.out hk2) (fun h k => KpN.trans h k) (KpN.putObj hbw2.size) (Below.refl _ _) (fun _ => rfl)
        (fun pre V => (V.heap[bn]? = some (.cells #[.int .i64 (maxV (pre.map (·.t)) M)] 3 (0, 0)) ∧ (∀ b, b < W2.heap.size → b ≠ bn → V.heap[b]? = W2.heap[b]?)) ∧ Below w.heap.size w V)
        (fun _ _ _ => False)
        (OwnFrom.and (OwnFrom.and (Own.from (own_block bn _ (fun _ => rfl)) _) (ownFrom_frame W2 bn _ (Nat.le_refl _))) (ownFrom_below (Nat.le_refl _) hbw2.size))
        (fun _ _ _ _ _ hs _ _ => hs)
        ⟨⟨by simpa [maxV] using hbox2, fun _ _ _ => rfl⟩, hbw2⟩
        (fun y a' V => ∃ Bx : Nat, V.heap[Bx]? = some (.cells #[.int .i64 y.t.head, .slice y.ao y.t.kids.length (y.t.kids.length + y.sp)] 38 (0, 0)) ∧ a' = { tmps := #[.slice (some ⟨b, off, none⟩) ks.length c, undef, .int IntKind.i64 0, .pointer (some ⟨bn, 0, none⟩), undef, .pointer (some ⟨W.heap.size, 0, none⟩), undef, .pointer (some ⟨Bx, 0, none⟩), .slice (some ⟨b, off, none⟩) ks.length c, .int IntKind.i64 (ks.length : Int), .int IntKind.i64 (k : Int), .bool true, .pointer (some ⟨b, off + k * 2, none⟩), .agg #[Value.int IntKind.i64 x.head, Value.slice ko x.kids.length (x.kids.length + ksp)], .agg #[Value.int IntKind.i64 x.head, Value.slice ko x.kids.length (x.kids.length + ksp)], .func (.func 123) #[] #[.pointer (some ⟨bk, 0, none⟩)], y.pl, .agg #[.int .i64 y.t.head, .slice y.ao y.t.kids.length (y.t.kids.length + y.sp)], undef, undef, undef, undef, undef, z23, undef], defers := [] })
        (fun y a' _ X Y row hs hg hr => by obtain ⟨Bx, q2, q3⟩ := hs; exact ⟨Bx, own_block Bx (fun _ : Unit => _) (fun _ => rfl) () X Y row q2 hg (fun r e => (hr r e).2), q3⟩)
        ?assign ?body ?done ?stop
      case assign =>
        rintro l pre y V K ⟨⟨i1, i2⟩, i3⟩ hK
        have HK := Lib.hid hK; have I1 := Lib.hid i1; have I2 := Lib.hid i2; have I3 := Lib.hid i3
        have hlv := heap_lt i1
        have I4 := Lib.hid (frame_size i2 hbox2 hlv)
        simp only [NX.encs]
        clear hK i1 i2 i3
        gi_wp2
        exact HK.out _ _ (KeepsFrom.alloc' _ _ _) (KpN.of ((Below.refl _ V).alloc (Nat.le_refl _) _) I3.out.size) ⟨⟨heap_alloc_old I1.out, fun b h1 h2 => (Below.heap_alloc V _ b (by have := I4.out; omega)).trans (I2.out b h1 h2)⟩, I3.out.alloc I3.out.size _⟩ ⟨V.heap.size, heap_ofAlloc V _, rfl⟩
      case body =>
        rintro l pre y a' V hl ⟨r, hr⟩ ⟨⟨i1, i2⟩, i3⟩ ⟨Bx, hbx, rfl⟩ hlt
        clear hr r
        have I1 := Lib.hid i1; have I2 := Lib.hid i2; have I3 := Lib.hid i3
        obtain ⟨ypl, yao, ysp, yt, yat, yht, ym⟩ := y
        have hok := HSK2.out yt ym
        have h1 : -8 ≤ yt.head := by have := hok.1; simp only [badHead] at this; omega
        have h2 : yt.head ≤ 12 := by have := hok.1; simp only [badHead] at this; omega
        obtain ⟨⟨x0, _⟩, x1, _⟩ := box2 hbx
        obtain ⟨n0, n1⟩ := box1 i1
        have hln := heap_lt i1
        clear i1 i2 i3 hbx hok
        dsimp only at x0 x1 ⊢
        have hms : maxV ((pre ++ [(⟨ypl, yao, ysp, yt, yat, yht, ym⟩ : NX w x)]).map (·.t)) M = max (maxV (pre.map (·.t)) M) (-yt.head) := by
          rw [List.map_append, maxV_append]; rfl
        have HMS := Lib.hid hms
        have hml := maxV_le (pre.map (·.t)) M
        clear hms
        generalize maxV (pre.map (·.t)) M = MV at n0 I1 HMS hml ⊢
        have HI1 := I1
        by_cases hc : MV < -yt.head
        · gi_wp2
          all_goals first
            | (exfalso; omega)
            | exact ⟨(KeepsOthers.setCell _ _ _).from _, KpN.setCell _ g1 g2 _, ⟨by rw [HMS.out]; exact box1_set' HI1.out _ (by congr 1; omega), fun b' q1 q2 => (Below.heap_setCell V _ _ b' q2).trans (I2.out b' q1 q2)⟩, I3.out.setCell (p := ⟨bn, 0, none⟩) g1 _⟩
        · gi_wp2
          all_goals first
            | (exfalso; omega)
            | exact ⟨(KeepsOthers.setCell _ _ _).from _, KpN.setCell _ g1 g2 _, ⟨by rw [HMS.out]; exact box1_set' HI1.out _ (by congr 1; omega), fun b' q1 q2 => (Below.heap_setCell V _ _ b' q2).trans (I2.out b' q1 q2)⟩, I3.out.setCell (p := ⟨bn, 0, none⟩) g1 _⟩
      case done =>
        rintro D xs V hD hxs ⟨⟨i1, i2⟩, i3⟩ hK
        have hpr := map_pt_snd hxs
        have HMX := Lib.hid (show maxV (xs.map (·.t)) M = mostL (ks.take (k + 1)) by rw [hpr, maxV_pre x M hM0, HTK.out, ← HM.out])
        have I1 := Lib.hid i1; have I2 := Lib.hid i2; have I3 := Lib.hid i3
        have HK := Lib.hid hK
        have hlv := heap_lt i1
        have I4 := Lib.hid (frame_size i2 hbox2 hlv)
        clear i1 i2 i3 hK hxs hpr
        have HMK2 := Lib.hid (HMK.out.cons (D := D) (W' := V) (fun b h1 h2 => (I2.out b (by omega) (fun e => by rw [e, hbox] at h2; cases h2)).trans (hkeepW b h1)) HK.out (by omega) (by omega))
        have hlen : (k : Int) + 1 = ((k + 1 : Nat) : Int) := by omega
        have HLEN := Lib.hid hlen
        clear hlen
        gi_wp2
        refine ⟨⟨k + 1, D :: ds, .pointer (some ⟨W.heap.size, 0, none⟩), .bool true, .pointer (some ⟨b, off + k * 2, none⟩), .agg #[.int .i64 x.head, .slice ko x.kids.length (x.kids.length + ksp)], .agg #[.int .i64 x.head, .slice ko x.kids.length (x.kids.length + ksp)], .func (.func 123) #[] #[.pointer (some ⟨bk, 0, none⟩)], .int .i64 ((k : Int) + 1), by omega, ?_, ?_, HMK2.out, I3.out, by have := I4.out; omega⟩, ?_⟩
        · rw [HBN.out, HLEN.out]; rfl
        · have := I1.out; rw [HMX.out, HBN.out] at this; exact this
        · simp [intOf] <;> omega
      case stop =>
        rintro D c' pre V _ _ h _
        exact h.elim
    · obtain rfl : k = ks.length := by omega
      have hlb := heap_lt hbox
      obtain ⟨n0, n1⟩ := box1 hbox
      have HBX := Lib.hid hbox
      clear hbox
      gi_wp2_with fail
      refine bodyM_marks HMK.out hbw.size (fun w' hb' hk' => ⟨_, results_tmp rfl _ _ _, ?_, hbw.trans hb'⟩)
      show Ending.returned (.int .i64 M) = _
      exact ret_int (by rw [HM.out, List.take_length])
end Go.Proofs.Ytlhnfdjidjgfgaa
