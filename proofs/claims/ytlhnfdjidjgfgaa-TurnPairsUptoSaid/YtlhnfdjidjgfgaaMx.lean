/-
  Walks: unify.Solve.
  Walks: unify.Do.
  Walk: tree.Max, for terms with any variables.
-/
import Derived.Test.YtlhnfdjidjgfgaaProg
import Derived.Test.YtlhnfdjidjgfgaaUx6
import Derived.Test.YtlhnfdjidjgfgaaPa4
import Derived.Test.YtlhnfdjidjgfgaaSt3
import Derived.Test.YtlhnfdjidjgfgaaXd
namespace Go.Proofs.Ytlhnfdjidjgfgaa
open Go.RowKit Go.Shelf Go.Maps
set_option linter.unusedVariables false
set_option maxHeartbeats 400000

/-- what stands in the row of bindings -/
noncomputable def bnd (σ : Nat → T) (x : Nat) : T := if σ x = vT x then zeroT else σ x
/-- what Solve answers -/
def SolveA (N : Nat) (A B : T) (w : World) (e : Ending) (w' : World) : Prop :=
  (e = .returned (.tuple #[.slice none 0 0, .bool false, .bool true]) ∧ ∀ θ, A.inst θ ≠ B.inst θ) ∨
  ∃ σ, Canon (fun θ => A.inst θ = B.inst θ) σ ∧ (∀ x, N ≤ x → σ x = vT x) ∧
    ((e = .returned (.tuple #[.slice none 0 0, .bool true, .bool false]) ∧ ∃ x, x < N ∧ σ x ≠ vT x ∧ ¬ fitN 0 1 (σ x)) ∨
     ((∀ x, σ x ≠ vT x → fitN 0 1 (σ x)) ∧ ∃ g, e = .returned (.tuple #[.slice (some ⟨g, 0, none⟩) N N, .bool true, .bool true]) ∧ RowP (fun c => w.heap.size ≤ c) w' (some ⟨g, 0, none⟩) (listT N (bnd σ))))
def SolveP (N : Nat) (A B : T) (w : World) (e : Ending) (w' : World) : Prop := Below w.heap.size w w' ∧ SolveA N A B w e w'
theorem St.fulled2 {n' : Nat} {a : Array Value} {w0 w : World} {l : List Fct} (S : St w0 w l) (i : Nat) {N : Nat} {p : Nat → Prop} {b bs bn : Nat} {M : PM} {R0 : T} {d n : Nat} (hi : Fct.at l i = .box bn #[.int .i64 (n : Nat)] 3) (hoff : offs bn i l) (h : Calls Try.prog n' a w (FullP N p b bs bn M R0 d n w0 w)) :
    Calls Try.prog n' a w fun e w' => ∃ (ok : Bool) (k : Option Addr) (sp : Nat) (R : T) (m : Nat), e = .returned (.tuple #[.agg #[.int .i64 R.head, .slice k R.kids.length (R.kids.length + sp)], .bool ok]) ∧ Hid ((ok = true → R = R0 ∧ m = n + R.size ∧ fitN n d R) ∧ (ok = false → R = zeroT ∧ ¬ fitN n d R0) ∧ ∀ c, c < w.heap.size → c ≠ bn → w'.heap[c]? = w.heap[c]?) ∧ w.heap.size ≤ w'.heap.size ∧
      St w0 w' (fsnoc (fset l i (.box bn #[.int .i64 (m : Nat)] 3)) (.treeP (fun c => w.heap.size ≤ c ∧ c < w'.heap.size) (.agg #[.int .i64 R.head, .slice k R.kids.length (R.kids.length + sp)]) R)) :=
  h.mono fun e w' ⟨ok, k, sp, R, m, h1, h2⟩ => by
    have S2 : St w0 w' (fset l i (.box bn #[.int .i64 (m : Nat)] 3)) := by
      refine ⟨h2.bel, fun j => ?_⟩
      by_cases hj : j = i
      · subst hj
        rcases at_fset_same (.box bn #[.int .i64 (m : Nat)] 3) l j with h | h
        · rw [h]; exact h2.cell
        · rw [h]; trivial
      · rw [at_fset_other _ _ _ _ hj]
        exact (Fct.at l j).stable w w' (fun c hc hl => h2.same c hl (fun e => offs_at hoff j hj (e ▸ hc))) (S.2 j)
    exact ⟨ok, k, sp, R, m, h1, ⟨h2.yes, h2.no, h2.same⟩, h2.size, S2.add (.treeP _ _ R) (h2.tree.mono fun b hb hl => ⟨hb, hl⟩)⟩
theorem VA.var {N i : Nat} (h : i < N) : VA N (vT i) := ⟨fun x hx hn => by
  have : x = vT i := by simpa [vT, T.pre, preL] using hx
  subst this
  exact ⟨rfl, by rw [vI_vT]; exact h⟩, by simp [vT, T.size_eq, T.kids, sizeL]⟩
/-- what the rounds have written -/
structure WroteM (M : PM) (σ : Nat → T) (left : Lit → Bool) (bs : Nat → T) : Prop where
  has : ∀ x t, M x = some t → left (kV x) = true ∨ bs x = σ x ∧ fitN 0 1 (σ x)
  low : ∀ x, (M x = none → bs x = zeroT)

end Go.Proofs.Ytlhnfdjidjgfgaa
namespace Go.Proofs.Ytlhnfdjidjgfgaa
open Go.RowKit Go.Shelf
set_option linter.unusedVariables false
set_option maxHeartbeats 400000

/-- how many variables two terms name -/
noncomputable def uN (A B : T) : Nat := (mostL [A, B]).toNat
theorem uN_eq (A B : T) : (uN A B : Int) = mostL [A, B] := by
  have := mostL_nonneg [A, B]
  unfold uN; omega
end Go.Proofs.Ytlhnfdjidjgfgaa
namespace Go.Proofs.Ytlhnfdjidjgfgaa
open Go.RowKit Go.Shelf
set_option linter.unusedVariables false
set_option maxHeartbeats 400000
attribute [local go_sem] Oper.semAt_some

set_option maxRecDepth 100000 in
set_option maxHeartbeats 4000000 in
theorem max47g (ks : List T) (ao : Option Addr) (c : Nat) (w : World) (hr : RowAt w ao ks) (hn : ks.length ≤ 100000000) (hsz : ∀ i, i < ks.length → (gK ks i).size ≤ 1000000 ∧ (gK ks i).deep ≤ 100000 ∧ ∀ x ∈ (gK ks i).pre, -1000000 ≤ x.head ∧ x.head ≤ 1000000) :
    Calls Try.prog 100 #[.slice ao ks.length c] w fun e w' => e = .returned (.int .i64 (mostL ks)) ∧ Below w.heap.size w w' := by
  have HR := Lib.hid hr; have HSZ := Lib.hid hsz; clear hr hsz
  have hbn := heap_ofAlloc w (.cells #[.int .i64 0] 3)
  have hb0 := (Below.refl w.heap.size w).alloc (Nat.le_refl _) (.cells #[.int .i64 0] 3)
  have hsw : w.heap.size < (w.alloc (.cells #[.int .i64 0] 3)).heap.size := by simp
  refine (callsIn_wide (n := 4)).1 ?_
  refine callsIn_of_wp_marks Try.func100 rfl trivial ?_ rfl
  simp only [Try.ntmps100, List.size_toArray, List.length_cons, List.length_nil, Nat.reduceAdd, Nat.reduceSub, Array.replicate_succ, Array.replicate_zero, List.push_toArray, List.append_toArray, List.nil_append, List.cons_append]
  gi_wp2_with fail
  generalize w.alloc (.cells #[.int .i64 0] 3) = w0 at hbn hb0 hsw ⊢
  refine wpIn_loop (fun a W => ∃ (k : Nat) (ds : List Nat) (z5 z11 z12 z13 z14 z15 z23 : Value), k ≤ ks.length ∧
      a = { tmps := #[.slice ao ks.length c, undef, .int .i64 0, .pointer (some ⟨w.heap.size, 0, none⟩), undef, z5, undef, undef, .slice ao ks.length c, .int .i64 (ks.length : Int), .int .i64 (k : Int), z11, z12, z13, z14, z15, undef, undef, undef, undef, undef, undef, undef, z23, undef], defers := ds.map mark } ∧
      W.heap[w.heap.size]? = some (.cells #[.int .i64 (mostL (ks.take k))] 3 (0, 0)) ∧ Marks w.heap.size W ds ∧ Below w.heap.size w W ∧ w0.heap.size ≤ W.heap.size) (fun a _ => ks.length - (intOf (a.tmps.getD 10 undef)).toNat) ?start ?round
  case start => exact ⟨0, [], _, _, _, _, _, _, _, by omega, rfl, by simpa [mostL] using hbn, Marks.nil _ _, hb0, Nat.le_refl _⟩
  case round =>
    rintro a W ⟨k, ds, z5, z11, z12, z13, z14, z15, z23, hk, rfl, hbox, hmk, hbw, hws⟩
    obtain ⟨M, hM⟩ : ∃ M, M = mostL (ks.take k) := ⟨_, rfl⟩
    rw [← hM] at hbox
    have hM0 : 0 ≤ M := by rw [hM]; exact mostL_nonneg _
    have HMK := Lib.hid hmk; have HM := Lib.hid hM
    clear hmk hM
    by_cases hlt : k < ks.length
    · obtain ⟨b, off, ko, ksp, rfl, c1, c2, c3⟩ := HR.out k hlt
      have d1 := Below.cellOf hbw c1; have d2 := Below.cellOf hbw c2
      have HC0 := Lib.hid c3
      have HSK := Lib.hid (HSZ.out k hlt)
      have HTK := Lib.hid (mostL_take hlt)
      clear c3 c1 c2
      generalize gK ks k = x at d1 d2 HC0 HSK HTK ⊢
      gi_wp2_with fail
      have hb1 := (Below.refl W.heap.size W).alloc (Nat.le_refl _) (.cells #[.int .i64 x.head, .slice ko x.kids.length (x.kids.length + ksp)] 38)
      have hbox1 := heap_alloc_old (o' := .cells #[.int .i64 x.head, .slice ko x.kids.length (x.kids.length + ksp)] 38) hbox
      refine ⟨trivial, ?_⟩
      refine (callsIn_wide.2 (nodes48 (.agg #[.int .i64 x.head, .slice ko x.kids.length (x.kids.length + ksp)]) x _ (HC0.out.kept (Below.step hbw hb1)))).mono ?_
      rintro e w2 ⟨rfl, hw2⟩
      have hb2 := hb1.alloc hb1.size (.cells #[.int .i64 x.head, .slice ko x.kids.length (x.kids.length + ksp)] 38)
      have hbox2 := heap_alloc_old (o' := .cells #[.int .i64 x.head, .slice ko x.kids.length (x.kids.length + ksp)] 38) hbox1
      have hk2 := heap_ofAlloc (W.alloc (.cells #[.int .i64 x.head, .slice ko x.kids.length (x.kids.length + ksp)] 38)) (.cells #[.int .i64 x.head, .slice ko x.kids.length (x.kids.length + ksp)] 38)
      rw [show w2 = (W.alloc (.cells #[.int .i64 x.head, .slice ko x.kids.length (x.kids.length + ksp)] 38)).alloc (.cells #[.int .i64 x.head, .slice ko x.kids.length (x.kids.length + ksp)] 38) from hw2]
      rw [World.size_alloc] at hk2
      have hs2 : ((W.alloc (.cells #[.int .i64 x.head, .slice ko x.kids.length (x.kids.length + ksp)] 38)).alloc (.cells #[.int .i64 x.head, .slice ko x.kids.length (x.kids.length + ksp)] 38)).heap.size = W.heap.size + 2 := by simp
      have hkeepW : ∀ b, b < W.heap.size → ((W.alloc (.cells #[.int .i64 x.head, .slice ko x.kids.length (x.kids.length + ksp)] 38)).alloc (.cells #[.int .i64 x.head, .slice ko x.kids.length (x.kids.length + ksp)] 38)).heap[b]? = W.heap[b]? := fun b hb => hb2.block b hb
      clear hw2 w2 hbox1 hb1
      generalize (W.alloc (.cells #[.int .i64 x.head, .slice ko x.kids.length (x.kids.length + ksp)] 38)).alloc (.cells #[.int .i64 x.head, .slice ko x.kids.length (x.kids.length + ksp)] 38) = W2 at hb2 hbox2 hk2 hs2 hkeepW ⊢
      gi_wp2_with fail
      obtain ⟨bn, hbn'⟩ : ∃ b, b = w.heap.size := ⟨_, rfl⟩
      obtain ⟨bk, hbk'⟩ : ∃ b, b = W.heap.size + 1 := ⟨_, rfl⟩
      rw [← hbk'] at hk2 ⊢
      rw [← hbn'] at hbox2 hbox ⊢
      have hbw2 := Below.step hbw hb2
      have g1 : w.heap.size ≤ bn := by omega
      have g2 : bn < W.heap.size := by have := heap_lt hbox; omega
      have g3 : W.heap.size ≤ W2.heap.size := by omega
      have HSK2 := Lib.hid (fun y (hy : y ∈ x.pre) => HSK.out.2.2 y hy)
      have HBN := Lib.hid hbn'
      clear hbk' hbn' d1 d2 hs2
      refine wpIn_rangeFunc_ownH rfl (by omega) (gf := 123) (lb := #[.pointer (some ⟨bk, 0, none⟩)]) rfl trivial (enters_of Try.func123 (by kernel_rfl) rfl)
        (nodes_stops w W.heap.size bk x ko ksp W2 (by have := HSK.out.1; omega) (HSK.out.2.1) hbw.size hbw2 g3 HC0.out hk2) (fun h k => KpN.trans h k) (KpN.putObj hbw2.size) (Below.refl _ _) (fun _ => rfl)
        (fun pre V => (V.heap[bn]? = some (.cells #[.int .i64 (maxV (pre.map (·.t)) M)] 3 (0, 0)) ∧ (∀ b, b < W2.heap.size → b ≠ bn → V.heap[b]? = W2.heap[b]?)) ∧ Below w.heap.size w V)
        (fun _ _ _ => False)
        (OwnFrom.and (OwnFrom.and (Own.from (own_block bn _ (fun _ => rfl)) _) (ownFrom_frame W2 bn _ (Nat.le_refl _))) (ownFrom_below (Nat.le_refl _) hbw2.size))
        (fun _ _ _ _ _ hs _ _ => hs)
        ⟨⟨by simpa [maxV] using hbox2, fun _ _ _ => rfl⟩, hbw2⟩
        (fun y a' V => ∃ Bx : Nat, V.heap[Bx]? = some (.cells #[.int .i64 y.t.head, .slice y.ao y.t.kids.length (y.t.kids.length + y.sp)] 38 (0, 0)) ∧ a' = { tmps := #[.slice (some ⟨b, off, none⟩) ks.length c, undef, .int IntKind.i64 0, .pointer (some ⟨bn, 0, none⟩), undef, .pointer (some ⟨W.heap.size, 0, none⟩), undef, .pointer (some ⟨Bx, 0, none⟩), .slice (some ⟨b, off, none⟩) ks.length c, .int IntKind.i64 (ks.length : Int), .int IntKind.i64 (k : Int), .bool true, .pointer (some ⟨b, off + k * 2, none⟩), .agg #[Value.int IntKind.i64 x.head, Value.slice ko x.kids.length (x.kids.length + ksp)], .agg #[Value.int IntKind.i64 x.head, Value.slice ko x.kids.length (x.kids.length + ksp)], .func (.func 123) #[] #[.pointer (some ⟨bk, 0, none⟩)], y.pl, .agg #[.int .i64 y.t.head, .slice y.ao y.t.kids.length (y.t.kids.length + y.sp)], undef, undef, undef, undef, undef, z23, undef], defers := [] })
        (fun y a' _ X Y row hs hg hr => by obtain ⟨Bx, q2, q3⟩ := hs; exact ⟨Bx, own_block Bx (fun _ : Unit => _) (fun _ => rfl) () X Y row q2 hg (fun r e => (hr r e).2), q3⟩)
        ?assign ?body ?done ?stop
      case assign =>
        rintro l pre y V K ⟨⟨i1, i2⟩, i3⟩ hK
        have HK := Lib.hid hK; have I1 := Lib.hid i1; have I2 := Lib.hid i2; have I3 := Lib.hid i3
        have hlv := heap_lt i1
        have I4 := Lib.hid (frame_size i2 hbox2 hlv)
        simp only [NX.encs]
        clear hK i1 i2 i3
        gi_wp2
        exact HK.out _ _ (KeepsFrom.alloc' _ _ _) (KpN.of ((Below.refl _ V).alloc (Nat.le_refl _) _) I3.out.size) ⟨⟨heap_alloc_old I1.out, fun b h1 h2 => (Below.heap_alloc V _ b (by have := I4.out; omega)).trans (I2.out b h1 h2)⟩, I3.out.alloc I3.out.size _⟩ ⟨V.heap.size, heap_ofAlloc V _, rfl⟩
      case body =>
        rintro l pre y a' V hl ⟨r, hr⟩ ⟨⟨i1, i2⟩, i3⟩ ⟨Bx, hbx, rfl⟩ hlt
        clear hr r
        have I1 := Lib.hid i1; have I2 := Lib.hid i2; have I3 := Lib.hid i3
        obtain ⟨ypl, yao, ysp, yt, yat, yht, ym⟩ := y
        have hok := HSK2.out yt ym
        have h1 : -1000000 ≤ yt.head := hok.1
        have h2 : yt.head ≤ 1000000 := hok.2
        obtain ⟨⟨x0, _⟩, x1, _⟩ := box2 hbx
        obtain ⟨n0, n1⟩ := box1 i1
        have hln := heap_lt i1
        clear i1 i2 i3 hbx hok
        dsimp only at x0 x1 ⊢
        have hms : maxV ((pre ++ [(⟨ypl, yao, ysp, yt, yat, yht, ym⟩ : NX w x)]).map (·.t)) M = max (maxV (pre.map (·.t)) M) (-yt.head) := by
          rw [List.map_append, maxV_append]; rfl
        have HMS := Lib.hid hms
        have hml := maxV_le (pre.map (·.t)) M
        clear hms
        generalize maxV (pre.map (·.t)) M = MV at n0 I1 HMS hml ⊢
        have HI1 := I1
        by_cases hc : MV < -yt.head
        · gi_wp2
          all_goals first
            | (exfalso; omega)
            | exact ⟨(KeepsOthers.setCell _ _ _).from _, KpN.setCell _ g1 g2 _, ⟨by rw [HMS.out]; exact box1_set' HI1.out _ (by congr 1; omega), fun b' q1 q2 => (Below.heap_setCell V _ _ b' q2).trans (I2.out b' q1 q2)⟩, I3.out.setCell (p := ⟨bn, 0, none⟩) g1 _⟩
        · gi_wp2
          all_goals first
            | (exfalso; omega)
            | exact ⟨(KeepsOthers.setCell _ _ _).from _, KpN.setCell _ g1 g2 _, ⟨by rw [HMS.out]; exact box1_set' HI1.out _ (by congr 1; omega), fun b' q1 q2 => (Below.heap_setCell V _ _ b' q2).trans (I2.out b' q1 q2)⟩, I3.out.setCell (p := ⟨bn, 0, none⟩) g1 _⟩
      case done =>
        rintro D xs V hD hxs ⟨⟨i1, i2⟩, i3⟩ hK
        have hpr := map_pt_snd hxs
        have HMX := Lib.hid (show maxV (xs.map (·.t)) M = mostL (ks.take (k + 1)) by rw [hpr, maxV_pre x M hM0, HTK.out, ← HM.out])
        have I1 := Lib.hid i1; have I2 := Lib.hid i2; have I3 := Lib.hid i3
        have HK := Lib.hid hK
        have hlv := heap_lt i1
        have I4 := Lib.hid (frame_size i2 hbox2 hlv)
        clear i1 i2 i3 hK hxs hpr
        have HMK2 := Lib.hid (HMK.out.cons (D := D) (W' := V) (fun b h1 h2 => (I2.out b (by omega) (fun e => by rw [e, hbox] at h2; cases h2)).trans (hkeepW b h1)) HK.out (by omega) (by omega))
        have hlen : (k : Int) + 1 = ((k + 1 : Nat) : Int) := by omega
        have HLEN := Lib.hid hlen
        clear hlen
        gi_wp2
        refine ⟨⟨k + 1, D :: ds, .pointer (some ⟨W.heap.size, 0, none⟩), .bool true, .pointer (some ⟨b, off + k * 2, none⟩), .agg #[.int .i64 x.head, .slice ko x.kids.length (x.kids.length + ksp)], .agg #[.int .i64 x.head, .slice ko x.kids.length (x.kids.length + ksp)], .func (.func 123) #[] #[.pointer (some ⟨bk, 0, none⟩)], .int .i64 ((k : Int) + 1), by omega, ?_, ?_, HMK2.out, I3.out, by have := I4.out; omega⟩, ?_⟩
        · rw [HBN.out, HLEN.out]; rfl
        · have := I1.out; rw [HMX.out, HBN.out] at this; exact this
        · simp [intOf] <;> omega
      case stop =>
        rintro D c' pre V _ _ h _
        exact h.elim
    · obtain rfl : k = ks.length := by omega
      have hlb := heap_lt hbox
      obtain ⟨n0, n1⟩ := box1 hbox
      have HBX := Lib.hid hbox
      clear hbox
      gi_wp2_with fail
      refine bodyM_marks HMK.out hbw.size (fun w' hb' hk' => ⟨_, results_tmp rfl _ _ _, ?_, hbw.trans hb'⟩)
      show Ending.returned (.int .i64 M) = _
      exact ret_int (by rw [HM.out, List.take_length])
end Go.Proofs.Ytlhnfdjidjgfgaa
