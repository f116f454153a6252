/-
  tree.Nodes once more, for bodies that gather a row of trees: a round leaves rows of integers and single trees as they lie, longer rows of trees are its own.
  append onto an own row, and that what is no longer than one element stays as it lies. No program is named here.
  Rows of elements: the cells of a row; a row copied by append; a pair of trees as an element; a place of an own row of pairs written.
  An element of an own row written in place, of whatever kind; a body that appends leaves what an iterator goes on by. No program is named here.
-/
import Derived.Test.YtlhnfdjidjgfgaaProg
import Derived.Test.YtlhnfdjidjgfgaaXd
import Derived.Test.YtlhnfdjidjgfgaaXb
import Derived.Test.YtlhnfdjidjgfgaaPb3
namespace Go.Proofs.Ytlhnfdjidjgfgaa
open Go.RowKit Go.Shelf
set_option linter.unusedVariables false
set_option maxHeartbeats 400000
attribute [local go_sem] Oper.semAt_some

/-- what a round may do: what lay ahead of n₀ stays; rows of integers and of trees from m₀ on stay -/
def KpM (n₀ m₀ : Nat) (A B : World) : Prop := Below n₀ A B ∧ ∀ b cur ty fz, m₀ ≤ b → ty = 3 ∨ (ty = 38 ∧ cur.size ≤ 2) → A.heap[b]? = some (.cells cur ty fz) → B.heap[b]? = A.heap[b]?
theorem KpM.trans {n₀ m₀ : Nat} {A B C : World} (h : KpM n₀ m₀ A B) (k : KpM n₀ m₀ B C) : KpM n₀ m₀ A C :=
  ⟨h.1.trans k.1, fun b cur ty fz hb ht ha => by have e := h.2 b cur ty fz hb ht ha; exact (k.2 b cur ty fz hb ht (e.trans ha)).trans e⟩
theorem KpM.of {n₀ m₀ : Nat} {A B : World} (h : Below A.heap.size A B) (hn : n₀ ≤ A.heap.size) : KpM n₀ m₀ A B := ⟨h.mono hn, fun b cur ty fz hb ht ha => h.block b (Array.getElem?_eq_some_iff.1 ha).1⟩
theorem KpM.putObj {n₀ m₀ : Nat} {w : World} (hn : n₀ ≤ w.heap.size) (W : World) (l : Nat) (o o' : Obj) (hl : w.heap.size ≤ l) (h : W.heap[l]? = some o) (hc : o.isCells = false) (hw : o.isWalk = false) : KpM n₀ m₀ W (W.putObj l o') :=
  ⟨belowK_b hn W l o o' hl h hc hw, fun b cur ty fz hb ht ha => by
    have : b ≠ l := fun e => by subst e; rw [h] at ha; cases ha; cases hc
    exact World.putObj_heap_other this⟩
theorem PlaceAt.keptM {n₀ m₀ : Nat} {w w' : World} {v : Value} {l : List Int} (h : PlaceAt m₀ w v l) (hb : KpM n₀ m₀ w w') : PlaceAt m₀ w' v l := by
  refine ⟨?_, h.2⟩
  obtain ⟨h1, h2⟩ := h.1
  refine ⟨h1, h2.imp id ?_⟩
  rintro ⟨g, cap, cur, e1, e2, e3, e4⟩
  exact ⟨g, cap, cur, e1, e2, (hb.2 g cur 3 (0, 0) e2 (.inl rfl) e3).trans e3, e4⟩

/-- what is yielded: a position and a tree that lies in the blocks of p, a node of t0 -/
structure NY (p : Nat → Prop) (w0 : World) (t0 : T) where
  pl : Value
  ao : Option Addr
  sp : Nat
  t : T
  at_ : List Int
  ht : TreeP p w0 (.agg #[.int .i64 t.head, .slice ao t.kids.length (t.kids.length + sp)]) t
  mem : t ∈ t0.pre
def NY.encs {p : Nat → Prop} {w0 : World} {t0 : T} (x : NY p w0 t0) : Array Value := #[x.pl, .agg #[.int .i64 x.t.head, .slice x.ao x.t.kids.length (x.t.kids.length + x.sp)]]
def NY.pt {p : Nat → Prop} {w0 : World} {t0 : T} (x : NY p w0 t0) : List Int × T := (x.at_, x.t)
def WalkPostM {p : Nat → Prop} {w0 : World} {t0 : T} (n₀ m₀ : Nat) (J Jx : List (NY p w0 t0) → World → Prop) (pre : List (NY p w0 t0)) (L : List (List Int × T)) (W : World) (e : Ending) (W' : World) : Prop :=
  (e = .returned (.bool true) ∧ (∃ ys : List (NY p w0 t0), ys.map NY.pt = L ∧ J (pre ++ ys) W') ∧ KpM n₀ m₀ W W') ∨ (e = .returned (.bool false) ∧ ∃ q : List (NY p w0 t0), q.map NY.pt <+: L ∧ Jx (pre ++ q) W')
def YieldPostM {p : Nat → Prop} {w0 : World} {t0 : T} (n₀ m₀ : Nat) (J Jx : List (NY p w0 t0) → World → Prop) (pre : List (NY p w0 t0)) (x : NY p w0 t0) (W : World) (e : Ending) (W' : World) : Prop :=
  (e = .returned (.bool true) ∧ J (pre ++ [x]) W' ∧ KpM n₀ m₀ W W') ∨ (e = .returned (.bool false) ∧ Jx (pre ++ [x]) W')

def YieldWayM {p : Nat → Prop} {w0 : World} {t0 : T} (n₀ m₀ : Nat) (J Jx : List (NY p w0 t0) → World → Prop) (pre : List (NY p w0 t0)) (x : NY p w0 t0) (W : World) (b : Bool) (W' : World) : Prop :=
  (b = true ∧ J (pre ++ [x]) W' ∧ KpM n₀ m₀ W W') ∨ (b = false ∧ Jx (pre ++ [x]) W')
def WalkWayM {p : Nat → Prop} {w0 : World} {t0 : T} (n₀ m₀ : Nat) (J Jx : List (NY p w0 t0) → World → Prop) (pre : List (NY p w0 t0)) (L : List (List Int × T)) (W : World) (b : Bool) (W' : World) : Prop :=
  (b = true ∧ (∃ ys : List (NY p w0 t0), ys.map NY.pt = L ∧ J (pre ++ ys) W') ∧ KpM n₀ m₀ W W') ∨ (b = false ∧ ∃ q : List (NY p w0 t0), q.map NY.pt <+: L ∧ Jx (pre ++ q) W')
theorem WalkPostM.asBool {p : Nat → Prop} {w0 : World} {t0 : T} {n₀ m₀ : Nat} {J Jx : List (NY p w0 t0) → World → Prop} {pre : List (NY p w0 t0)} {L : List (List Int × T)} {W : World} {e : Ending} {W' : World} (h : WalkPostM n₀ m₀ J Jx pre L W e W') :
    ∃ b, e = .returned (.bool b) ∧ WalkWayM n₀ m₀ J Jx pre L W b W' := by
  rcases h with ⟨rfl, h1, h2⟩ | ⟨rfl, h⟩
  · exact ⟨true, rfl, .inl ⟨rfl, h1, h2⟩⟩
  · exact ⟨false, rfl, .inr ⟨rfl, h⟩⟩
theorem YieldPostM.asBool {p : Nat → Prop} {w0 : World} {t0 : T} {n₀ m₀ : Nat} {J Jx : List (NY p w0 t0) → World → Prop} {pre : List (NY p w0 t0)} {x : NY p w0 t0} {W : World} {e : Ending} {W' : World} (h : YieldPostM n₀ m₀ J Jx pre x W e W') :
    ∃ b, e = .returned (.bool b) ∧ YieldWayM n₀ m₀ J Jx pre x W b W' := by
  rcases h with ⟨rfl, h1, h2⟩ | ⟨rfl, h⟩
  · exact ⟨true, rfl, .inl ⟨rfl, h1, h2⟩⟩
  · exact ⟨false, rfl, .inr ⟨rfl, h⟩⟩

set_option maxRecDepth 100000 in
set_option maxHeartbeats 4000000 in
theorem walkM59 (p : Nat → Prop) (w0 : World) (t0 : T) (m₀ l N B : Nat) (hNN : N ≤ 90000000) (J Jx : List (NY p w0 t0) → World → Prop) (hJ : AbidesFrom B J) (hm : w0.heap.size ≤ m₀)
    (hY : ∀ m pre x W, J pre W → pre.length < N → PlaceAt m₀ W x.pl x.at_ → YieldAt Fence.wide m Try.prog l x.encs W (YieldPostM w0.heap.size m₀ J Jx pre x W)) (t : T) :
    (∀ x ∈ t.pre, x ∈ t0.pre) → ∀ (ao : Option Addr) (sp : Nat) (at_ : List Int) (vp : Value) (pre : List (NY p w0 t0)) (W : World), TreeP p w0 (.agg #[.int .i64 t.head, .slice ao t.kids.length (t.kids.length + sp)]) t →
      Below w0.heap.size w0 W → m₀ ≤ W.heap.size → PlaceAt m₀ W vp at_ → at_.length + t.deep ≤ 100000 → J pre W → pre.length + t.size ≤ N →
      Calls Try.prog 124 #[.agg #[.int .i64 t.head, .slice ao t.kids.length (t.kids.length + sp)], vp, .func (.yield l) #[] #[]] W (WalkPostM w0.heap.size m₀ J Jx pre (t.preP at_) W) := by
  induction t using T.ind with
  | h t ih =>
  intro hmem ao sp at_ vp pre W ht hw0 hmW hp hal hj hN
  have hmt : t ∈ t0.pre := hmem t (by rw [T.pre_eq]; simp)
  have HKM0 := Lib.hid (fun k (hk : k < t.kids.length) x (hx : x ∈ (gK t.kids k).pre) => hmem x (by rw [T.pre_eq]; exact List.mem_cons_of_mem _ (kid_pre_mem hk hx)))
  have HMT := Lib.hid hmt
  clear hmem hmt
  obtain ⟨aoP, cpP, rfl⟩ := hp.form
  have hrow : RowP p w0 ao t.kids ∧ t.kids.length ≤ maxLen := by
    obtain ⟨ao', sp', e, h1, h2⟩ := ht.open
    simp at e
    rw [e.1]; exact ⟨h1, h2⟩
  have hml : t.kids.length ≤ 9223372036854775807 := hrow.2
  have HR := Lib.hid hrow.1
  have HTS := Lib.hid (T.size_eq t)
  have HTD := Lib.hid (T.deep_eq t)
  have HKM := Lib.hid (show t.kids.length ≤ 90000000 by have := length_le_sizeL t.kids; have := HTS.out; omega)
  obtain ⟨i3, gi, gz0, gz1, gz2⟩ := info_parts info3
  clear hrow
  have HW0 := Lib.hid hw0
  have HT := Lib.hid ht
  have HP := Lib.hid hp
  have HJ0 := Lib.hid hj
  have IH := Lib.hid ih; have HY := Lib.hid hY; have HJ := Lib.hid hJ
  clear ht hp hj ih hY hJ hw0
  have hmx : Try.prog.follows .mixedOrders = true := by kernel_rfl
  go_enter Try.func124, Try.ntmps124
  go_wp2_with fail
  refine (wpIn_wide (n := 3)).1 ?_
  have hbW := (Below.refl W.heap.size W).alloc (Nat.le_refl _) (.cells #[.int .i64 t.head, .slice ao t.kids.length (t.kids.length + sp)] 38)
  have hbox := heap_ofAlloc W (.cells #[.int .i64 t.head, .slice ao t.kids.length (t.kids.length + sp)] 38)
  generalize W.alloc (.cells #[.int .i64 t.head, .slice ao t.kids.length (t.kids.length + sp)] 38) = W1 at hbW hbox ⊢
  obtain ⟨⟨x0, _⟩, x1, _⟩ := box2 (w := W1.drew) hbox
  have hp1 := Lib.hid (HP.out.kept hbW.drew)
  have hsz1 := hbW.size
  gi_region_with_o (first
    | (refine ⟨trivial, ?_⟩; gi_at_call 145; refine (callsIn_wide.2 (clone65 m₀ at_ (.slice aoP at_.length cpP) _ hp1.out (by omega))).mono ?_; rintro e w1 ⟨⟨u, rfl, hu⟩, hb1⟩
       have hbj := hbW.drew.trans (hb1.mono (show W.heap.size ≤ W1.drew.heap.size from hsz1))
       have hyl := HY.out 2 pre ⟨u, ao, sp, t, at_, HT.out, HMT.out⟩ w1 (abides_below HJ.out HJ0.out hbj) (by have := t.size_pos; omega) (PlaceAt.mono hu (show m₀ ≤ W1.drew.heap.size from Nat.le_trans hmW hsz1))
       obtain ⟨⟨z0, _⟩, z1, _⟩ := box2 (Below.heapAt (w := W1.drew) hb1 hbox)
       obtain ⟨fn, tmps, assign, body, hy, hR⟩ := hyl
       dsimp only [NY.encs] at hy)
    | (refine hR.mono ?_; clear hR; intro e W2 hyp; obtain ⟨bb, rfl, hyp'⟩ := hyp.asBool; clear hyp))
  all_goals
    have HBJ := Lib.hid hbj
    clear hy
    rcases hyp' with ⟨rfl, hJ2, hk2⟩ | ⟨rfl, hx2⟩
    · have HJ2 := Lib.hid hJ2
      have HK2 := Lib.hid hk2
      have hbx2 := (hk2.2 _ _ 38 _ hmW (.inr ⟨rfl, Nat.le_refl _⟩) (Below.heapAt (w := W1.drew) hb1 hbox)).trans (Below.heapAt (w := W1.drew) hb1 hbox)
      obtain ⟨⟨y0, y1⟩, y2, y3⟩ := box2 hbx2
      clear hJ2 hk2 hbx2
      have hkk := (KpM.of (m₀ := m₀) hbj (Nat.le_trans hm hmW)).trans HK2.out
      have HKK := Lib.hid hkk
      have HM2 := Lib.hid (show m₀ ≤ W2.heap.size from Nat.le_trans hmW hkk.1.size)
      clear hkk
      clear hbj hb1 hu x0 x1 z0 z1 hbW hbox
      go_wp2_with fail
      go_loopw [7, 8, 18] (fun _ _ i wr => ∃ (k : Nat) (ys : List (NY p w0 t0)), k ≤ t.kids.length ∧ i = .int .i64 k ∧ ys.map NY.pt = (at_, t) :: prePL at_ 1 (t.kids.take k) ∧ J (pre ++ ys) wr ∧ KpM w0.heap.size m₀ W wr) (fun _ _ i _ => t.kids.length - (intOf i).toNat)
      case atStart => exact ⟨0, [⟨u, ao, sp, t, at_, HT.out, HMT.out⟩], by omega, rfl, by simp [NY.pt, prePL], HJ2.out, HKK.out⟩
      case round =>
        obtain ⟨k, ys, hk, rfl, hys, hJk, hKk⟩ := hrel
        have HYS := Lib.hid hys; have HJK := Lib.hid hJk; have HKK := Lib.hid hKk
        clear hys hJk hKk
        have hlen : (pre ++ ys).length = pre.length + 1 + sizeL (t.kids.take k) := by
          have := congrArg List.length HYS.out
          simp only [List.length_map, List.length_cons, prePL_length] at this
          simp only [List.length_append]; omega
        have HLEN := Lib.hid hlen
        clear hlen
        by_cases hlt : k < t.kids.length
        · obtain ⟨b, off, ko, ksp, rfl, _, c1, c2, c3⟩ := HR.out k hlt
          have HC3 := Lib.hid c3
          have hbw := HW0.out.trans HKK.out.1
          have d1 := Below.cellOf hbw c1
          have d2 := Below.cellOf hbw c2
          clear c1 c2 c3 hbw
          have hkm : k + 1 ≤ 100000000 := by have h1 := HKM.out; omega
          have HKD := Lib.hid (kid_deep hlt)
          have HKS := Lib.hid (sizeL_take hlt)
          have HKL := Lib.hid (sizeL_take_le t.kids (k + 1))
          go_wp2_with fail
          have hbk := (Below.refl wr.heap.size wr).alloc (Nat.le_refl _) (.cells #[.int .i64 (gK t.kids k).head, .slice ko (gK t.kids k).kids.length ((gK t.kids k).kids.length + ksp)] 38)
          have hbx := heap_ofAlloc wr (.cells #[.int .i64 (gK t.kids k).head, .slice ko (gK t.kids k).kids.length ((gK t.kids k).kids.length + ksp)] 38)
          generalize wr.alloc (.cells #[.int .i64 (gK t.kids k).head, .slice ko (gK t.kids k).kids.length ((gK t.kids k).kids.length + ksp)] 38) = V at hbk hbx ⊢
          obtain ⟨⟨x0, _⟩, x1, _⟩ := box2 (w := V.drew) hbx
          have hpV := Lib.hid ((HP.out.keptM HKK.out).kept hbk.drew)
          have hlo := heap_lt hbx
          obtain ⟨⟨xa0, _⟩, xa1, _⟩ := box2 (w := (V.alloc (.cells #[.int .i64 ((k : Int) + 1)] 3)).drew) (heap_alloc_old (w := V) hbx)
          have HPN := Lib.hid (PlaceAt.at hpV.out).1
          have HPC := Lib.hid (PlaceAt.at hpV.out).2
          have HBX := Lib.hid hbx; have HBK := Lib.hid hbk
          have hsum : IntKind.i64.wrap ((k : Int) + 1) = (k : Int) + 1 := IntWalk.i64_in _ (by omega)
          clear hbx hbk
          go_region_law (first
            | (refine step_append_grows (by rfl) (.tmp 25) (.tmp 28) 22 (by rfl) 3 i3 (.int .i64 0) 1 8 Try.underlying22 gi gz0 gz1 gz2 rfl (by decide) aoP at_.length at_.length (at_.map (Value.int .i64)) (by rfl) HPN.out (by simp) (fun bb hb j u hj => Below.cellOf ((Below.refl V.drew.heap.size V.drew).alloc (Nat.le_refl _) _) (HPC.out bb hb j u hj))
                ⟨V.heap.size, 0, none⟩ 1 1 [.int .i64 ((k : Int) + 1)] (by rfl) (by rfl) (World.news_of_block (cs := #[.int .i64 ((k : Int) + 1)]) (t := 3) (fr := (0, 0)) (heap_ofAlloc V.drew _)) (by simp [Value.oneCell']) (by omega) (by unfold maxLen; omega) (by omega) ?_
               intro v3 w3 hown3 hgrow3
               have hb3 : Below wr.heap.size wr w3 := ((HBK.out.drew.alloc HBK.out.size _).grown hgrow3 (by have := HBK.out.size; simp; omega) (fun q hq => by cases hq))
               obtain ⟨⟨z0, _⟩, z1, _⟩ := box2 ((hgrow3.block _ (by have := heap_lt HBX.out; simp; omega) (by simp)).trans (heap_alloc_old (w := V.drew) HBX.out))
               have HP3 := Lib.hid (PlaceAt.of (l := at_ ++ [(k : Int) + 1]) (ownsRow_low hown3 (show m₀ ≤ _ by have := HBK.out.size; have := HKK.out.1.size; simp; omega)) (by simp) (by simp) (by simp))
               have HB3 := Lib.hid hb3
               clear hown3 hgrow3 hb3)
            | ((try go_simp); go_at_call 146; refine (clip66s m₀ at_ aoP cpP _ (by first | exact hpV.out | exact hpV.out.kept ((Below.refl V.drew.heap.size V.drew).alloc (Nat.le_refl _) _))).mono ?_; rintro e wq ⟨rfl, rfl⟩)
            | (go_simp; go_at_call 124
               refine (IH.out k hlt (HKM0.out k hlt) ko ksp (at_ ++ [(k : Int) + 1]) _ (pre ++ ys) _ HC3.out (HW0.out.trans (HKK.out.1.trans (HB3.out.mono (by have := HKK.out.1.size; have := HW0.out.size; omega)))) (by have := HB3.out.size; have := HKK.out.1.size; omega) HP3.out (by have := HKD.out; have := HTD.out; simp; omega) (abides_below HJ.out HJK.out HB3.out) (by have h := HLEN.out; have := HKS.out; have := HKL.out; have := HTS.out; rw [h]; omega)).mono ?_
               intro e wq hq
               obtain ⟨bb, rfl, hq'⟩ := hq.asBool
               clear hq))
          all_goals
            have HPT := Lib.hid (prePL_take at_ hlt)
            rcases hq' with ⟨rfl, ⟨zs, hzs, hjz⟩, hkq⟩ | ⟨rfl, q, hqp, hxq⟩
            · have HZ := Lib.hid hzs; have HJZ := Lib.hid hjz; have HKQ := Lib.hid hkq
              clear hzs hjz hkq
              go_wp2_with fail
              go_roundw
              case rel => exact ⟨k + 1, ys ++ zs, by omega, by go_num, by rw [List.map_append, HYS.out, HZ.out, HPT.out]; rfl, by rw [← List.append_assoc]; exact HJZ.out, (HKK.out.trans (KpM.of HB3.out (by have := HKK.out.1.size; have := HW0.out.size; omega))).trans HKQ.out⟩
              case measure => simp [intOf] <;> omega
            · have HXQ := Lib.hid hxq; have HQP := Lib.hid hqp
              clear hxq hqp
              have HFIN := Lib.hid (show WalkPostM w0.heap.size m₀ J Jx pre (t.preP at_) W (.returned (.bool false)) wq from .inr ⟨rfl, ys ++ q, by
                rw [List.map_append, HYS.out, T.preP_eq, List.cons_append]
                refine List.prefix_cons_inj _ |>.2 (List.IsPrefix.trans ?_ (prePL_take_prefix at_ t.kids (k + 1)))
                rw [HPT.out]
                exact List.prefix_append_right_inj _ |>.2 HQP.out, by rw [← List.append_assoc]; exact HXQ.out⟩)
              go_wp2_with fail
              go_ret
              exact HFIN.out
        · obtain rfl : k = t.kids.length := by omega
          have HFIN := Lib.hid (show WalkPostM w0.heap.size m₀ J Jx pre (t.preP at_) W (.returned (.bool true)) wr from .inl ⟨rfl, ⟨ys, by rw [HYS.out, List.take_length, ← T.preP_eq], HJK.out⟩, HKK.out⟩)
          go_wp2_with fail
          go_ret
          exact HFIN.out
    · have HX2 := Lib.hid hx2
      clear hx2
      go_wp2_with fail
      go_ret
      refine .inr ⟨rfl, [⟨u, ao, sp, t, at_, HT.out, HMT.out⟩], ⟨prePL at_ 1 t.kids, by rw [T.preP_eq]; rfl⟩, HX2.out⟩
def SeqStopsMP (p : Nat → Prop) (w0 : World) (t0 : T) (m₀ : Nat) (lb : Array Value) (t : T) (w : World) : Prop :=
  ∀ (l : Nat) (J Jx : List (NY p w0 t0) → World → Prop) (W : World), Below w.heap.size w W → AbidesFrom W.heap.size J → AbidesFrom W.heap.size Jx →
    (∀ pre x W1, J pre W1 → pre.length < t.size → PlaceAt m₀ W1 x.pl x.at_ → YieldAt Fence.wide 2 Try.prog l x.encs W1 fun e W' =>
      (e = .returned (.bool true) ∧ J (pre ++ [x]) W' ∧ KpM w0.heap.size m₀ W1 W') ∨ (e = .returned (.bool false) ∧ Jx (pre ++ [x]) W')) →
    J [] W →
    CallsIn Fence.wide 3 Try.prog 123 (#[.func (.yield l) #[] #[]] ++ lb) W fun e W' => (∃ v, e = .returned v) ∧ ((∃ xs, xs.map NY.pt = t.preP [] ∧ J xs W') ∨ (∃ pre, pre.map NY.pt <+: t.preP [] ∧ Jx pre W'))

theorem nodes_stopsMP (p : Nat → Prop) (w0 : World) (m₀ Bt : Nat) (t : T) (ao : Option Addr) (sp : Nat) (w : World) (hs : t.size ≤ 90000000) (hd : t.deep ≤ 100000) (hm : w0.heap.size ≤ m₀) (hw0 : Below w0.heap.size w0 w) (hmw : m₀ ≤ w.heap.size)
    (ht : TreeP p w0 (.agg #[.int .i64 t.head, .slice ao t.kids.length (t.kids.length + sp)]) t) (hb : w.heap[Bt]? = some (.cells #[.int .i64 t.head, .slice ao t.kids.length (t.kids.length + sp)] 38 (0, 0))) :
    SeqStopsMP p w0 t m₀ #[.pointer (some ⟨Bt, 0, none⟩)] t w := by
  intro l J Jx W hW hJ hJx hY h0
  have hwalk := walkM59 p w0 t m₀ l t.size W.heap.size hs J Jx hJ hm (fun m pre x W1 hj hl hp => YieldAt.anyDepth' m (hY pre x W1 hj hl hp)) t (fun _ h => h) ao sp [] (.slice none 0 0) [] W ht (hw0.trans (hW.mono hw0.size)) (Nat.le_trans hmw hW.size) (PlaceAt.nil _ _) (by simpa using hd) h0 (by simp)
  have HWK := Lib.hid hwalk
  obtain ⟨⟨x0, _⟩, x1, _⟩ := box2 (Below.heapAt hW hb)
  clear hwalk hY h0
  refine callsIn_wide.2 ?_
  go_enter Try.func123, Try.ntmps123
  go_wp2_with fail
  refine HWK.out.mono ?_
  intro e W2 h
  obtain ⟨bb, rfl, h2⟩ := h.asBool
  have H2 := Lib.hid h2
  clear h h2
  go_wp2_with fail
  go_end0
  refine ⟨⟨_, rfl⟩, ?_⟩
  rcases H2.out with ⟨rfl, ⟨ys, h1, h2⟩, h3⟩ | ⟨rfl, q, h1, h2⟩
  · exact .inl ⟨ys, h1, by simpa using h2⟩
  · exact .inr ⟨q, h1, by simpa using h2⟩
end Go.Proofs.Ytlhnfdjidjgfgaa
namespace Go.Proofs.Ytlhnfdjidjgfgaa
open Go.RowKit Go.Shelf
set_option linter.unusedVariables false

/-- blocks of at most so many cells stay -/
def SmallKept (size : Nat) (w w' : World) : Prop := ∀ (b : Nat) (c : Array Value) (ty : TypeId) (fz : Nat × Nat), c.size ≤ size → w.heap[b]? = some (Obj.cells c ty fz) → w'.heap[b]? = w.heap[b]?
theorem run_append_small {P : Program} (w : World) (t ty : TypeId) (base : Nat) (e : TypeId) (i : TypeInfo) (z : Value) (size bytes : Nat) (ht : P.underlying t = some (.slice e)) (hi : P.info? e = some i) (hz : i.zero = some z)
    (hsize : i.size = size) (hby : i.bytes = bytes) (hzs : z.cells.size = size) (hsz : 0 < size)
    (v : Value) (n : Nat) (xs : List Value) (hown : w.ownsRow base e size v n xs) (hnil : n = 0 → v = .slice none 0 0)
    (ad : Addr) (m c : Nat) (news : List Value) (hl : news.length = m * size) (hnews : ∀ j u, news[j]? = some u → w.cell? (ad.add j) = some u) (h1 : ∀ u ∈ news, u.oneCell' = true)
    (hm : 0 < m) (h63 : n + m ≤ maxLen) (hbytes : (n + m) * bytes ≤ 140737488355328) (hbase : base ≤ w.heap.size) (H : Nat) (hH : w.heap.size = H) :
    ∃ g cap w', (Builtin.append_ #[t, t] ty #[v, .slice (some ad) m c]).run P w = .ok (.slice (some ⟨g, 0, none⟩) (n + m) cap) w' ∧
      w'.ownsRow base e size (.slice (some ⟨g, 0, none⟩) (n + m) cap) (n + m) (xs ++ news) ∧ w.grownBy w' v.ownBlock ∧ (v.ownBlock = some g ∨ g = H) ∧ g < w'.heap.size ∧ SmallKept size w w' := by
  obtain ⟨g, cap, w', hr, h2, h3, h4, h5⟩ := run_append_lies (P := P) w t ty base e i z size bytes ht hi hz hsize hby hzs hsz v n xs hown ad m c news hl hnews h1 hm h63 hbytes hbase H hH
  refine ⟨g, cap, w', hr, h2, h3, h4, h5, fun b cc ty' fz hcc hb => ?_⟩
  have hlt := (Array.getElem?_eq_some_iff.1 hb).1
  by_cases hne : some b = v.ownBlock
  · rcases hown.2 with ⟨rfl, _⟩ | ⟨g0, cap0, cur, rfl, hbg, hg, hnc, hcm, hcs, htake⟩
    · simp [Value.ownBlock] at hne
    · have hbg0 : b = g0 := by simpa [Value.ownBlock] using hne
      subst hbg0
      rw [hg] at hb
      simp only [Option.some.injEq, Obj.cells.injEq] at hb
      obtain ⟨rfl, _⟩ := hb
      have hn : 0 < n := by
        rcases Nat.eq_zero_or_pos n with h0 | h0
        · have := hnil h0; simp at this
        · exact h0
      have hc1 : cap0 ≤ 1 := by
        rcases Nat.lt_or_ge 1 cap0 with h6 | h6
        · have h7 : 2 * size ≤ cap0 * size := Nat.mul_le_mul_right _ h6
          omega
        · exact h6
      have holds : ∀ j u, xs[j]? = some u → w.cell? ((⟨b, 0, none⟩ : Addr).add j) = some u := hown.cells (g := b) rfl
      subst hsize hby
      have hr2 := run_append_grow (P := P) w t ty e i z ht hi hz ⟨b, 0, none⟩ n cap0 xs hown.1 holds ad m c news hl hnews (by omega) (by simp only [maxLen] at h63; omega) (growslice_fits (by omega) hbytes)
      rw [hr] at hr2
      simp only [Result.ok.injEq] at hr2
      rw [hr2.2]
      exact Below.heap_alloc w.drew _ b hlt
  · exact h3.block b hlt (fun e => hne e)
section
variable {α : Type}
/-- 'append(o, x)' as one operation, over a state -/
theorem wp_app1 {P : Program} {w0 w : World} {l : List Fct} {ope : Oper} {a : Act} {K : Act → World → Prop} {Q : Exit → Act → World → Prop} {B : Nat} {p p' q : Nat → Prop} {o : Value} {xs : List α} {x : α} {cs : Array Value}
    (s y : Operand) (t : TypeId) (hop : ope.op = Op.call { callee := Callee.builtin Builtin.append, args := #[s, y], argTypes := #[t, t] }) (E : Elt α) (S : St w0 w l) (i : Nat)
    (hi : Fct.at l i = Fct.owns E B p o xs) (hnil : xs = [] → o = .slice none 0 0) (hx : E.is q w cs.toList x) {inf : TypeInfo} {z : Value} {size bytes : Nat} (hu : P.underlying t = some (.slice E.ty)) (h1 : P.info? E.ty = some inf) (h2 : inf.zero = some z) (h3 : inf.size = size) (h4 : inf.bytes = bytes) (h5 : z.cells.size = size) (h6 : size = E.n)
    (hv : a.eval s = o) (hy : a.eval y = .slice (some ⟨w.heap.size, 0, none⟩) 1 1) (hlen : xs.length + 1 ≤ maxLen) (hby : (xs.length + 1) * bytes ≤ 140737488355328) (hB0 : B ≤ w.heap.size) (hB : w0.heap.size ≤ B)
    (hoff : ∀ b, o.ownBlock = some b → B ≤ b → b < w.heap.size → offs b i l) (hq : ∀ b, q b → o.ownBlock ≠ some b) (hpq : ∀ b, p b ∨ q b → p' b)
    (h : ∀ gg cap w3, St w0 w3 (fset l i (.owns E B p' (.slice (some ⟨gg, 0, none⟩) (xs.length + 1) cap) (xs ++ [x]))) → w.heap.size ≤ w3.heap.size → gg < w3.heap.size → (o.ownBlock = some gg ∨ gg = w.heap.size + 1) →
      SmallKept E.n (w.alloc (.cells cs E.ty)) w3 → (w.alloc (.cells cs E.ty)).grownBy w3 o.ownBlock → K (a.put ope.dst (.slice (some ⟨gg, 0, none⟩) (xs.length + 1) cap)) w3) :
    Oper.wp P ope a (w.alloc (.cells cs E.ty)) K Q := by
  obtain ⟨css, hcl, ho, hk⟩ := S.owns E i hi
  have hlt := S.ownlt E i hi
  have hel := E.len hx
  obtain ⟨gg, cap, w3, hr, hown3, hgrow3, hat3, hlt3, hsm⟩ := run_append_small (P := P) (w.alloc (.cells cs E.ty)) t ope.type B E.ty inf z size bytes hu h1 h2 h3 h4 h5 (by rw [h6]; exact E.pos) o xs.length css.flatten (by rw [h6]; exact ho.alloc _)
    (fun e => hnil (List.eq_nil_of_length_eq_zero e)) ⟨w.heap.size, 0, none⟩ 1 1 cs.toList (by rw [hel, h6]; omega) (World.news_of_block (cs := cs) (t := E.ty) (fr := (0, 0)) (heap_ofAlloc w _)) (E.one hx) (by omega) hlen hby (by simp; omega) (w.heap.size + 1) (by simp)
  unfold Oper.wp execOp
  simp only [hop, resolve, invoke, builtin, Sem.run_bind, Sem.run_pure, Result.andThen_ok, List.map_toArray, List.map_cons, List.map_nil, hv, hy, hr]
  exact h gg cap w3 (S.app E i hi hx hcl hk (by rw [h6] at hown3; exact hown3) hgrow3 hat3 hB (fun b hb => hoff b hb (hlt b hb).1 (hlt b hb).2) hq hpq) (by have := hgrow3.size; simp at this; omega) hlt3 hat3 (by rw [← h6]; exact hsm) hgrow3
end
end Go.Proofs.Ytlhnfdjidjgfgaa
namespace Go.Proofs.Ytlhnfdjidjgfgaa
open Go.RowKit Go.Shelf
set_option linter.unusedVariables false
set_option maxHeartbeats 400000

section
variable {α : Type}
theorem flat_get {β : Type} {n : Nat} : ∀ {css : List (List β)}, (∀ cs ∈ css, cs.length = n) → ∀ {j : Nat} {u : β}, css.flatten[j]? = some u → ∃ i k cs, j = i * n + k ∧ k < n ∧ css[i]? = some cs ∧ cs[k]? = some u
  | [], _, j, u, h => by simp at h
  | c :: r, hl, j, u, h => by
    have h0 := hl c (by simp)
    rw [List.flatten_cons] at h
    by_cases hj : j < c.length
    · rw [List.getElem?_append_left hj] at h
      exact ⟨0, j, c, by omega, by omega, rfl, h⟩
    · rw [List.getElem?_append_right (by omega)] at h
      obtain ⟨i, k, cs, h1, h2, h3, h4⟩ := flat_get (css := r) (fun cs hcs => hl cs (by simp [hcs])) h
      exact ⟨i + 1, k, cs, by rw [Nat.succ_mul]; omega, h2, h3, h4⟩
theorem flat_length {β : Type} {n : Nat} : ∀ {css : List (List β)}, (∀ cs ∈ css, cs.length = n) → css.flatten.length = css.length * n
  | [], _ => by simp
  | c :: r, hl => by
    rw [List.flatten_cons, List.length_append, hl c (by simp), flat_length (css := r) (fun cs hcs => hl cs (by simp [hcs])), List.length_cons, Nat.succ_mul]; omega
/-- the cells of a row -/
theorem Elt.Row.cells {E : Elt α} {p : Nat → Prop} {w : World} {ao : Option Addr} {xs : List α} (h : E.Row p w ao xs) :
    ∃ css : List (List Value), css.length = xs.length ∧ css.flatten.length = xs.length * E.n ∧ (∀ (i : Nat) cs x, css[i]? = some cs → xs[i]? = some x → E.is p w cs x) ∧
      (∀ ad, ao = some ad → ∀ j u, css.flatten[j]? = some u → w.cell? (ad.add j) = some u) ∧ ∀ u ∈ css.flatten, u.oneCell' = true := by
  have hc : ∀ i, ∃ cs : List Value, ∀ x, xs[i]? = some x → (∃ b off, ao = some ⟨b, off, none⟩ ∧ ∀ (j : Nat) u, cs[j]? = some u → w.cell? ⟨b, off + i * E.n + j, none⟩ = some u) ∧ E.is p w cs x := fun i => by
    cases hx : xs[i]? with
    | none => exact ⟨[], fun x h => by cases h⟩
    | some x =>
      obtain ⟨b, off, cs, e, _, h1, h2⟩ := h i x hx
      exact ⟨cs, fun y hy => by obtain rfl := Option.some.inj hy; exact ⟨⟨b, off, e, h1⟩, h2⟩⟩
  obtain ⟨C, hC⟩ := Classical.axiomOfChoice hc
  have hget : ∀ (i : Nat) cs, ((List.range xs.length).map C)[i]? = some cs → cs = C i ∧ i < xs.length := fun i cs h => by
    have hi : i < xs.length := by have := (List.getElem?_eq_some_iff.1 h).1; simpa using this
    rw [List.getElem?_map, List.getElem?_range hi] at h
    exact ⟨(Option.some.inj h).symm, hi⟩
  have hel : ∀ (i : Nat) cs x, ((List.range xs.length).map C)[i]? = some cs → xs[i]? = some x → E.is p w cs x := fun i cs x h1 h2 => by
    obtain ⟨rfl, _⟩ := hget i cs h1
    exact (hC i x h2).2
  have hlen : ∀ cs ∈ (List.range xs.length).map C, cs.length = E.n := Elt.lens (by simp) hel
  refine ⟨(List.range xs.length).map C, by simp, by rw [flat_length hlen]; simp, hel, fun ad hd j u hu => ?_, fun u hu => ?_⟩
  · obtain ⟨i, k, cs, rfl, hk, h1, h2⟩ := flat_get hlen hu
    obtain ⟨rfl, hi⟩ := hget i cs h1
    obtain ⟨⟨b, off, e, h3⟩, _⟩ := hC i _ (List.getElem?_eq_getElem hi)
    rw [hd] at e
    obtain rfl := Option.some.inj e
    rw [Addr.add_lit, ← h3 k u h2]
    congr 2; omega
  · obtain ⟨cs, hcs, hu⟩ := List.mem_flatten.1 hu
    obtain ⟨i, hi, rfl⟩ := List.getElem_of_mem hcs
    have hi' : i < xs.length := by simpa using hi
    exact E.one (hel i _ _ (List.getElem?_eq_getElem hi) (List.getElem?_eq_getElem hi')) u hu
/-- a row copied to new memory -/
theorem Elt.Own.copied {E : Elt α} {p : Nat → Prop} {B : Nat} {w w' : World} {css : List (List Value)} {xs : List α} {v : Value} (hcl : css.length = xs.length) (hel : ∀ (i : Nat) cs x, css[i]? = some cs → xs[i]? = some x → E.is p w cs x)
    (ho : w'.ownsRow B E.ty E.n v xs.length css.flatten) (hk : ∀ b, p b → b < w.heap.size → w'.heap[b]? = w.heap[b]?) (hB : w.heap.size ≤ B) : E.Own p B w' v xs :=
  ⟨css, hcl, ho, fun i cs x h1 h2 => E.keep (fun b hb hlt => ⟨hk b hb hlt, hb, fun e => by have := (ho.lt b e).1; omega⟩) (hel i cs x h1 h2)⟩
end
/-- a pair of trees -/
def pairE (ty : TypeId) : Elt (T × T) where
  ty := ty
  n := 4
  is p w cs f := ∃ k sp k2 sp2, cs = [.int .i64 f.1.head, .slice k f.1.kids.length (f.1.kids.length + sp), .int .i64 f.2.head, .slice k2 f.2.kids.length (f.2.kids.length + sp2)] ∧
    TreeP p w (.agg #[.int .i64 f.1.head, .slice k f.1.kids.length (f.1.kids.length + sp)]) f.1 ∧ TreeP p w (.agg #[.int .i64 f.2.head, .slice k2 f.2.kids.length (f.2.kids.length + sp2)]) f.2
  pos := by omega
  len := fun ⟨k, sp, k2, sp2, e, _⟩ => by rw [e]; rfl
  one := fun ⟨k, sp, k2, sp2, e, _⟩ u hu => by rw [e] at hu; simp at hu; rcases hu with rfl | rfl | rfl | rfl <;> rfl
  keep := fun hk ⟨k, sp, k2, sp2, e, h, h2⟩ => ⟨k, sp, k2, sp2, e, h.keep hk, h2.keep hk⟩
theorem Elt.Row.pair {ty : TypeId} {p : Nat → Prop} {w : World} {ao : Option Addr} {rs : List (T × T)} (h : (pairE ty).Row p w ao rs) {i : Nat} {f : T × T} (hi : rs[i]? = some f) : ∃ b off k sp k2 sp2, ao = some ⟨b, off, none⟩ ∧ p b ∧
    w.cell? ⟨b, off + i * 4, none⟩ = some (.int .i64 f.1.head) ∧ w.cell? ⟨b, off + i * 4 + 1, none⟩ = some (.slice k f.1.kids.length (f.1.kids.length + sp)) ∧
    w.cell? ⟨b, off + i * 4 + 2, none⟩ = some (.int .i64 f.2.head) ∧ w.cell? ⟨b, off + i * 4 + 3, none⟩ = some (.slice k2 f.2.kids.length (f.2.kids.length + sp2)) ∧
    TreeP p w (.agg #[.int .i64 f.1.head, .slice k f.1.kids.length (f.1.kids.length + sp)]) f.1 ∧ TreeP p w (.agg #[.int .i64 f.2.head, .slice k2 f.2.kids.length (f.2.kids.length + sp2)]) f.2 := by
  obtain ⟨b, off, cs, e, hp, hc, k, sp, k2, sp2, rfl, h1, h2⟩ := h i f hi
  exact ⟨b, off, k, sp, k2, sp2, e, hp, hc 0 _ rfl, hc 1 _ rfl, hc 2 _ rfl, hc 3 _ rfl, h1, h2⟩
theorem flat_set4 {β : Type} {a b c d : β} : ∀ {css : List (List β)} {j : Nat}, (∀ cs ∈ css, cs.length = 4) → j < css.length →
    ((((css.flatten.set (j * 4) a).set (j * 4 + 1) b).set (j * 4 + 2) c).set (j * 4 + 3) d) = (css.set j [a, b, c, d]).flatten
  | [], j, _, h => by simp at h
  | x :: r, 0, hl, _ => by
    have h0 := hl x (by simp)
    match x, h0 with
    | [x0, x1, x2, x3], _ => rfl
  | x :: r, j + 1, hl, h => by
    have h0 := hl x (by simp)
    have ih := flat_set4 (css := r) (j := j) (a := a) (b := b) (c := c) (d := d) (fun cs hcs => hl cs (by simp [hcs])) (by simpa using h)
    match x, h0 with
    | [x0, x1, x2, x3], _ =>
      simp only [List.flatten_cons, List.set_cons_succ]
      rw [← ih]
      rw [show (j + 1) * 4 = j * 4 + 4 by omega]
      rfl
theorem pair_set {ty : TypeId} {p : Nat → Prop} {B : Nat} {w : World} {g cap : Nat} {xs : List (T × T)} (h : (pairE ty).Own p B w (.slice (some ⟨g, 0, none⟩) xs.length cap) xs) {j : Nat} (hj : j < xs.length) {f : T × T} {k k2 : Option Addr} {sp sp2 : Nat}
    (h1 : TreeP (fun b => p b ∧ b ≠ g) w (.agg #[.int .i64 f.1.head, .slice k f.1.kids.length (f.1.kids.length + sp)]) f.1) (h2 : TreeP (fun b => p b ∧ b ≠ g) w (.agg #[.int .i64 f.2.head, .slice k2 f.2.kids.length (f.2.kids.length + sp2)]) f.2) :
    (pairE ty).Own p B ((((w.setCell ⟨g, j * 4, none⟩ (.int .i64 f.1.head)).setCell ⟨g, j * 4 + 1, none⟩ (.slice k f.1.kids.length (f.1.kids.length + sp))).setCell ⟨g, j * 4 + 2, none⟩ (.int .i64 f.2.head)).setCell ⟨g, j * 4 + 3, none⟩ (.slice k2 f.2.kids.length (f.2.kids.length + sp2)))
      (.slice (some ⟨g, 0, none⟩) xs.length cap) (xs.set j f) := by
  obtain ⟨css, hcl, ho, hk⟩ := h
  have hln := Elt.lens hcl hk
  have h3 := ((((ho.stored (j * 4) (.int .i64 f.1.head)).1.stored (j * 4 + 1) (.slice k f.1.kids.length (f.1.kids.length + sp))).1.stored (j * 4 + 2) (.int .i64 f.2.head)).1.stored (j * 4 + 3) (.slice k2 f.2.kids.length (f.2.kids.length + sp2))).1
  have hln4 : ∀ cs ∈ css, cs.length = 4 := hln
  rw [flat_set4 hln4 (by omega)] at h3
  have hne : ∀ b, b ≠ g ↔ (Value.slice (some ⟨g, 0, none⟩) xs.length cap).ownBlock ≠ some b := fun b => by simp [Value.ownBlock, eq_comm]
  have hsame : ∀ b, b ≠ g → ((((w.setCell ⟨g, j * 4, none⟩ (.int .i64 f.1.head)).setCell ⟨g, j * 4 + 1, none⟩ (.slice k f.1.kids.length (f.1.kids.length + sp))).setCell ⟨g, j * 4 + 2, none⟩ (.int .i64 f.2.head)).setCell ⟨g, j * 4 + 3, none⟩ (.slice k2 f.2.kids.length (f.2.kids.length + sp2))).heap[b]? = w.heap[b]? := fun b hb =>
    (Below.heap_setCell _ _ _ b hb).trans ((Below.heap_setCell _ _ _ b hb).trans ((Below.heap_setCell _ _ _ b hb).trans (Below.heap_setCell _ _ _ b hb)))
  refine ⟨css.set j _, by simp [hcl], by rw [List.length_set]; exact h3, fun i cs x hc hx => ?_⟩
  by_cases e : i = j
  · subst e
    rw [List.getElem?_set_self (by omega)] at hc
    rw [List.getElem?_set_self hj] at hx
    obtain rfl := Option.some.inj hc; obtain rfl := Option.some.inj hx
    exact ⟨k, sp, k2, sp2, rfl, h1.keep (fun b hb _ => ⟨hsame b hb.2, hb.1, (hne b).1 hb.2⟩), h2.keep (fun b hb _ => ⟨hsame b hb.2, hb.1, (hne b).1 hb.2⟩)⟩
  · rw [List.getElem?_set_ne (fun h => e h.symm)] at hc hx
    exact (pairE ty).keep (fun b hb _ => ⟨hsame b ((hne b).2 hb.2), hb⟩) (hk i cs x hc hx)
/-- a place of the row is written -/
theorem St.pset {w0 w : World} {l : List Fct} (S : St w0 w l) (i : Nat) {ty : TypeId} {B : Nat} {p : Nat → Prop} {g cap : Nat} {xs : List (T × T)} (hi : Fct.at l i = Fct.owns (pairE ty) B p (.slice (some ⟨g, 0, none⟩) xs.length cap) xs) {j : Nat} (hj : j < xs.length) {f : T × T} {k k2 : Option Addr} {sp sp2 : Nat}
    (h1 : TreeP (fun b => p b ∧ b ≠ g) w (.agg #[.int .i64 f.1.head, .slice k f.1.kids.length (f.1.kids.length + sp)]) f.1) (h2 : TreeP (fun b => p b ∧ b ≠ g) w (.agg #[.int .i64 f.2.head, .slice k2 f.2.kids.length (f.2.kids.length + sp2)]) f.2)
    (h0 : w0.heap.size ≤ g) (hoff : offs g i l) :
    St w0 ((((w.setCell ⟨g, j * 4, Option.none⟩ (.int .i64 f.1.head)).setCell ⟨g, j * 4 + 1, Option.none⟩ (.slice k f.1.kids.length (f.1.kids.length + sp))).setCell ⟨g, j * 4 + 2, Option.none⟩ (.int .i64 f.2.head)).setCell ⟨g, j * 4 + 3, Option.none⟩ (.slice k2 f.2.kids.length (f.2.kids.length + sp2)))
      (fset l i (.owns (pairE ty) B p (.slice (some ⟨g, 0, Option.none⟩) xs.length cap) (xs.set j f))) := by
  refine ⟨(((S.bel.setCell (p := ⟨g, j * 4, Option.none⟩) h0 _).setCell (p := ⟨g, j * 4 + 1, Option.none⟩) h0 _).setCell (p := ⟨g, j * 4 + 2, Option.none⟩) h0 _).setCell (p := ⟨g, j * 4 + 3, Option.none⟩) h0 _, fun m => ?_⟩
  by_cases hm : m = i
  · subst hm
    rcases at_fset_same (.owns (pairE ty) B p (.slice (some ⟨g, 0, Option.none⟩) xs.length cap) (xs.set j f)) l m with h | h
    · rw [h]; exact pair_set (S.owns (pairE ty) m hi) hj h1 h2
    · rw [h]; trivial
  · rw [at_fset_other _ _ _ _ hm]
    refine (Fct.at l m).stable w _ (fun c hc hlt => ?_) (S.2 m)
    have hne : c ≠ g := fun e => offs_at hoff m hm (e ▸ hc)
    exact (Below.heap_setCell _ _ _ c hne).trans ((Below.heap_setCell _ _ _ c hne).trans ((Below.heap_setCell _ _ _ c hne).trans (Below.heap_setCell _ _ _ c hne)))
end Go.Proofs.Ytlhnfdjidjgfgaa
namespace Go.Proofs.Ytlhnfdjidjgfgaa
open Go.RowKit Go.Shelf
set_option linter.unusedVariables false

section
variable {α : Type}
end
end Go.Proofs.Ytlhnfdjidjgfgaa
