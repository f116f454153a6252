/-
  Walks: tree.walk and tree.Nodes: what they yield.
-/
import Derived.Test.YteekoclfpehnpaaProg
import Derived.Test.YteekoclfpehnpaaBase
import Derived.Test.YteekoclfpehnpaaXc
import Derived.Test.YteekoclfpehnpaaT15
import Derived.RangeFuncBound
import Derived.RangeFuncCalls
import Derived.RangeFuncLeaves
import Derived.OwnWalkIn
import Derived.TacticsInMore
import Derived.LoopNIn
import Derived.LoopIn
import Derived.Deep.RegionLaw
import Derived.IntWalk
namespace Go.Proofs.Yteekoclfpehnpaa
open Go.RowKit Go.Shelf
set_option linter.unusedVariables false
set_option maxHeartbeats 400000
attribute [local go_sem] Oper.semAt_some

mutual
/-- the nodes with their positions, in preorder -/
def T.preP (p : List Int) : T → List (List Int × T)
  | .node h ks => (p, .node h ks) :: prePL p 1 ks
def prePL (p : List Int) (i : Int) : List T → List (List Int × T)
  | [] => []
  | t :: r => t.preP (p ++ [i]) ++ prePL p (i + 1) r
end
theorem T.preP_eq (p : List Int) (t : T) : t.preP p = (p, t) :: prePL p 1 t.kids := by cases t; rw [T.preP]; rfl
theorem prePL_append (p : List Int) : ∀ (a b : List T) (i : Int), prePL p i (a ++ b) = prePL p i a ++ prePL p (i + a.length) b
  | [], b, i => by simp [prePL]
  | t :: r, b, i => by simp only [List.cons_append, prePL, prePL_append p r b, List.append_assoc, List.length_cons]; congr 3; omega
theorem prePL_take (p : List Int) {l : List T} {i : Nat} (h : i < l.length) : prePL p 1 (l.take (i + 1)) = prePL p 1 (l.take i) ++ (gK l i).preP (p ++ [(i : Int) + 1]) := by
  rw [take_gK h, prePL_append]; simp only [prePL, List.append_nil, List.length_take]; congr 4; omega
theorem prePL_take_prefix (p : List Int) (l : List T) (i : Nat) : prePL p 1 (l.take i) <+: prePL p 1 l := by
  refine ⟨prePL p (1 + (l.take i).length) (l.drop i), ?_⟩
  rw [← prePL_append, List.take_append_drop]
theorem preP_snd (t : T) : ∀ p, (t.preP p).map (·.2) = t.pre := by
  induction t using T.ind with
  | h t ih =>
    intro p
    have key : ∀ l : List T, (∀ i, i < l.length → ∀ p, ((gK l i).preP p).map (·.2) = (gK l i).pre) → ∀ i, (prePL p i l).map (·.2) = preL l := by
      intro l
      induction l with
      | nil => intro _ i; simp [prePL, preL]
      | cons x r ihr =>
        intro h i
        have h0 := h 0 (by simp) (p ++ [i])
        simp only [gK, List.getD_cons_zero] at h0
        rw [prePL, preL, List.map_append, h0, ihr (fun i hi => by have := h (i + 1) (by simpa using hi); simpa only [gK, List.getD_cons_succ] using this)]
    rw [T.preP_eq, T.pre_eq, List.map_cons, key t.kids ih]

theorem preP_length (t : T) (p : List Int) : (t.preP p).length = t.size := by rw [← pre_length, ← preP_snd t p, List.length_map]
theorem prePL_length (p : List Int) : ∀ (l : List T) (i : Int), (prePL p i l).length = sizeL l
  | [], i => by simp [prePL, sizeL]
  | t :: r, i => by simp only [prePL, sizeL, List.length_append, preP_length, prePL_length p r]
theorem kid_deep {l : List T} {i : Nat} (h : i < l.length) : (gK l i).deep ≤ deepL l := by
  have h1 := deepL_take h; have h2 := deepL_take_le l (i + 1); omega

/-- what a round may do: what lay ahead of n₀ stays; rows of integers and of trees from m₀ on stay -/
def KpN (n₀ m₀ : Nat) (A B : World) : Prop := Below n₀ A B ∧ ∀ b cur ty fz, m₀ ≤ b → ty = 3 ∨ ty = 44 → A.heap[b]? = some (.cells cur ty fz) → B.heap[b]? = A.heap[b]?
theorem KpN.trans {n₀ m₀ : Nat} {A B C : World} (h : KpN n₀ m₀ A B) (k : KpN n₀ m₀ B C) : KpN n₀ m₀ A C :=
  ⟨h.1.trans k.1, fun b cur ty fz hb ht ha => by have e := h.2 b cur ty fz hb ht ha; exact (k.2 b cur ty fz hb ht (e.trans ha)).trans e⟩
theorem KpN.refl (n₀ m₀ : Nat) (A : World) : KpN n₀ m₀ A A := ⟨Below.refl _ _, fun _ _ _ _ _ _ _ => rfl⟩
theorem KpN.of {n₀ m₀ : Nat} {A B : World} (h : Below A.heap.size A B) (hn : n₀ ≤ A.heap.size) : KpN n₀ m₀ A B := ⟨h.mono hn, fun b cur ty fz hb ht ha => h.block b (Array.getElem?_eq_some_iff.1 ha).1⟩
theorem KpN.putObj {n₀ m₀ : Nat} {w : World} (hn : n₀ ≤ w.heap.size) (W : World) (l : Nat) (o o' : Obj) (hl : w.heap.size ≤ l) (h : W.heap[l]? = some o) (hc : o.isCells = false) (hw : o.isWalk = false) : KpN n₀ m₀ W (W.putObj l o') :=
  ⟨belowK_b hn W l o o' hl h hc hw, fun b cur ty fz hb ht ha => by
    have : b ≠ l := fun e => by subst e; rw [h] at ha; cases ha; cases hc
    exact World.putObj_heap_other this⟩
theorem PlaceAt.keptN {n₀ m₀ : Nat} {w w' : World} {v : Value} {l : List Int} (h : PlaceAt m₀ w v l) (hb : KpN n₀ m₀ w w') : PlaceAt m₀ w' v l := by
  refine ⟨?_, h.2⟩
  obtain ⟨h1, h2⟩ := h.1
  refine ⟨h1, h2.imp id ?_⟩
  rintro ⟨g, cap, cur, e1, e2, e3, e4⟩
  exact ⟨g, cap, cur, e1, e2, (hb.2 g cur 3 (0, 0) e2 (.inl rfl) e3).trans e3, e4⟩

theorem kid_pre_mem {l : List T} {i : Nat} (h : i < l.length) {x : T} (hx : x ∈ (gK l i).pre) : x ∈ preL l := by
  have h1 := preL_take h
  have h2 : x ∈ preL (l.take (i + 1)) := by rw [h1]; exact List.mem_append.2 (.inr hx)
  exact (preL_take_prefix l (i + 1)).subset h2

/-- what is yielded: a position and a tree that lies in w0, a node of t0 -/
structure NX (w0 : World) (t0 : T) where
  pl : Value
  ao : Option Addr
  sp : Nat
  t : T
  at_ : List Int
  ht : TreeAt w0 (.agg #[.int .i64 t.head, .slice ao t.kids.length (t.kids.length + sp)]) t
  mem : t ∈ t0.pre
def NX.val {w0 : World} {t0 : T} (x : NX w0 t0) : Value := .agg #[.int .i64 x.t.head, .slice x.ao x.t.kids.length (x.t.kids.length + x.sp)]
def NX.encs {w0 : World} {t0 : T} (x : NX w0 t0) : Array Value := #[x.pl, .agg #[.int .i64 x.t.head, .slice x.ao x.t.kids.length (x.t.kids.length + x.sp)]]
def NX.pt {w0 : World} {t0 : T} (x : NX w0 t0) : List Int × T := (x.at_, x.t)

theorem abides_below {β : Type} {B : Nat} {J : β → World → Prop} (h : AbidesFrom B J) {s : β} {W W' : World} (hs : J s W) (hb : Below W.heap.size W W') : J s W' :=
  h s W W' none hs ⟨hb.os, hb.tape, hb.output, hb.size, fun k hk _ => hb.block k hk⟩ (fun r e => by cases e)

theorem PlaceAt.mono {B B' : Nat} {w : World} {v : Value} {l : List Int} (h : PlaceAt B w v l) (hb : B' ≤ B) : PlaceAt B' w v l := ⟨ownsRow_low h.1 hb, h.2⟩
def WalkPost {w0 : World} {t0 : T} (n₀ m₀ : Nat) (J Jx : List (NX w0 t0) → World → Prop) (pre : List (NX w0 t0)) (L : List (List Int × T)) (W : World) (e : Ending) (W' : World) : Prop :=
  (e = .returned (.bool true) ∧ (∃ ys : List (NX w0 t0), ys.map NX.pt = L ∧ J (pre ++ ys) W') ∧ KpN n₀ m₀ W W') ∨ (e = .returned (.bool false) ∧ ∃ q : List (NX w0 t0), q.map NX.pt <+: L ∧ Jx (pre ++ q) W')
def YieldPost {w0 : World} {t0 : T} (n₀ m₀ : Nat) (J Jx : List (NX w0 t0) → World → Prop) (pre : List (NX w0 t0)) (x : NX w0 t0) (W : World) (e : Ending) (W' : World) : Prop :=
  (e = .returned (.bool true) ∧ J (pre ++ [x]) W' ∧ KpN n₀ m₀ W W') ∨ (e = .returned (.bool false) ∧ Jx (pre ++ [x]) W')

def YieldWay {w0 : World} {t0 : T} (n₀ m₀ : Nat) (J Jx : List (NX w0 t0) → World → Prop) (pre : List (NX w0 t0)) (x : NX w0 t0) (W : World) (b : Bool) (W' : World) : Prop :=
  (b = true ∧ J (pre ++ [x]) W' ∧ KpN n₀ m₀ W W') ∨ (b = false ∧ Jx (pre ++ [x]) W')
def WalkWay {w0 : World} {t0 : T} (n₀ m₀ : Nat) (J Jx : List (NX w0 t0) → World → Prop) (pre : List (NX w0 t0)) (L : List (List Int × T)) (W : World) (b : Bool) (W' : World) : Prop :=
  (b = true ∧ (∃ ys : List (NX w0 t0), ys.map NX.pt = L ∧ J (pre ++ ys) W') ∧ KpN n₀ m₀ W W') ∨ (b = false ∧ ∃ q : List (NX w0 t0), q.map NX.pt <+: L ∧ Jx (pre ++ q) W')
theorem WalkPost.asBool {w0 : World} {t0 : T} {n₀ m₀ : Nat} {J Jx : List (NX w0 t0) → World → Prop} {pre : List (NX w0 t0)} {L : List (List Int × T)} {W : World} {e : Ending} {W' : World} (h : WalkPost n₀ m₀ J Jx pre L W e W') :
    ∃ b, e = .returned (.bool b) ∧ WalkWay n₀ m₀ J Jx pre L W b W' := by
  rcases h with ⟨rfl, h1, h2⟩ | ⟨rfl, h⟩
  · exact ⟨true, rfl, .inl ⟨rfl, h1, h2⟩⟩
  · exact ⟨false, rfl, .inr ⟨rfl, h⟩⟩
theorem YieldPost.asBool {w0 : World} {t0 : T} {n₀ m₀ : Nat} {J Jx : List (NX w0 t0) → World → Prop} {pre : List (NX w0 t0)} {x : NX w0 t0} {W : World} {e : Ending} {W' : World} (h : YieldPost n₀ m₀ J Jx pre x W e W') :
    ∃ b, e = .returned (.bool b) ∧ YieldWay n₀ m₀ J Jx pre x W b W' := by
  rcases h with ⟨rfl, h1, h2⟩ | ⟨rfl, h⟩
  · exact ⟨true, rfl, .inl ⟨rfl, h1, h2⟩⟩
  · exact ⟨false, rfl, .inr ⟨rfl, h⟩⟩

set_option maxRecDepth 100000 in
set_option maxHeartbeats 4000000 in
theorem walk59 (w0 : World) (t0 : T) (m₀ l N B : Nat) (hNN : N ≤ 90000000) (J Jx : List (NX w0 t0) → World → Prop) (hJ : AbidesFrom B J) (hm : w0.heap.size ≤ m₀)
    (hY : ∀ m pre x W, J pre W → pre.length < N → PlaceAt m₀ W x.pl x.at_ → YieldAt Fence.wide m Try.prog l x.encs W (YieldPost w0.heap.size m₀ J Jx pre x W)) (t : T) :
    (∀ x ∈ t.pre, x ∈ t0.pre) → ∀ (ao : Option Addr) (sp : Nat) (at_ : List Int) (vp : Value) (pre : List (NX w0 t0)) (W : World), TreeAt w0 (.agg #[.int .i64 t.head, .slice ao t.kids.length (t.kids.length + sp)]) t →
      Below w0.heap.size w0 W → m₀ ≤ W.heap.size → PlaceAt m₀ W vp at_ → at_.length + t.deep ≤ 100000 → J pre W → pre.length + t.size ≤ N →
      Calls Try.prog 124 #[.agg #[.int .i64 t.head, .slice ao t.kids.length (t.kids.length + sp)], vp, .func (.yield l) #[] #[]] W (WalkPost w0.heap.size m₀ J Jx pre (t.preP at_) W) := by
  induction t using T.ind with
  | h t ih =>
  intro hmem ao sp at_ vp pre W ht hw0 hmW hp hal hj hN
  have hmt : t ∈ t0.pre := hmem t (by rw [T.pre_eq]; simp)
  have HKM0 := Lib.hid (fun k (hk : k < t.kids.length) x (hx : x ∈ (gK t.kids k).pre) => hmem x (by rw [T.pre_eq]; exact List.mem_cons_of_mem _ (kid_pre_mem hk hx)))
  have HMT := Lib.hid hmt
  clear hmem hmt
  obtain ⟨aoP, cpP, rfl⟩ := hp.form
  have hrow : RowAt w0 ao t.kids ∧ t.kids.length ≤ maxLen := by
    obtain ⟨ao', sp', e, h1, h2⟩ := ht.open
    simp at e
    rw [e.1]; exact ⟨h1, h2⟩
  have hml : t.kids.length ≤ 9223372036854775807 := hrow.2
  have HR := Lib.hid hrow.1
  have HTS := Lib.hid (T.size_eq t)
  have HTD := Lib.hid (T.deep_eq t)
  have HKM := Lib.hid (show t.kids.length ≤ 90000000 by have := length_le_sizeL t.kids; have := HTS.out; omega)
  obtain ⟨i3, gi, gz0, gz1, gz2⟩ := info_parts info3
  clear hrow
  have HW0 := Lib.hid hw0
  have HT := Lib.hid ht
  have HP := Lib.hid hp
  have HJ0 := Lib.hid hj
  have IH := Lib.hid ih; have HY := Lib.hid hY; have HJ := Lib.hid hJ
  clear ht hp hj ih hY hJ hw0
  have hmx : Try.prog.follows .mixedOrders = true := by kernel_rfl
  go_enter Try.func124, Try.ntmps124
  go_wp2_with fail
  refine (wpIn_wide (n := 3)).1 ?_
  have hbW := (Below.refl W.heap.size W).alloc (Nat.le_refl _) (.cells #[.int .i64 t.head, .slice ao t.kids.length (t.kids.length + sp)] 44)
  have hbox := heap_ofAlloc W (.cells #[.int .i64 t.head, .slice ao t.kids.length (t.kids.length + sp)] 44)
  generalize W.alloc (.cells #[.int .i64 t.head, .slice ao t.kids.length (t.kids.length + sp)] 44) = W1 at hbW hbox ⊢
  obtain ⟨⟨x0, _⟩, x1, _⟩ := box2 (w := W1.drew) hbox
  have hp1 := Lib.hid (HP.out.kept hbW.drew)
  have hsz1 := hbW.size
  gi_region_with_o (first
    | (refine ⟨trivial, ?_⟩; gi_at_call 131; refine (callsIn_wide.2 (clone65 m₀ at_ (.slice aoP at_.length cpP) _ hp1.out (by omega))).mono ?_; rintro e w1 ⟨⟨u, rfl, hu⟩, hb1⟩
       have hbj := hbW.drew.trans (hb1.mono (show W.heap.size ≤ W1.drew.heap.size from hsz1))
       have hyl := HY.out 2 pre ⟨u, ao, sp, t, at_, HT.out, HMT.out⟩ w1 (abides_below HJ.out HJ0.out hbj) (by have := t.size_pos; omega) (PlaceAt.mono hu (show m₀ ≤ W1.drew.heap.size from Nat.le_trans hmW hsz1))
       obtain ⟨⟨z0, _⟩, z1, _⟩ := box2 (Below.heapAt (w := W1.drew) hb1 hbox)
       obtain ⟨fn, tmps, assign, body, hy, hR⟩ := hyl
       dsimp only [NX.encs] at hy)
    | (refine hR.mono ?_; clear hR; intro e W2 hyp; obtain ⟨bb, rfl, hyp'⟩ := hyp.asBool; clear hyp))
  all_goals
    have HBJ := Lib.hid hbj
    clear hy
    rcases hyp' with ⟨rfl, hJ2, hk2⟩ | ⟨rfl, hx2⟩
    · have HJ2 := Lib.hid hJ2
      have HK2 := Lib.hid hk2
      have hbx2 := (hk2.2 _ _ 44 _ hmW (.inr rfl) (Below.heapAt (w := W1.drew) hb1 hbox)).trans (Below.heapAt (w := W1.drew) hb1 hbox)
      obtain ⟨⟨y0, y1⟩, y2, y3⟩ := box2 hbx2
      clear hJ2 hk2 hbx2
      have hkk := (KpN.of (m₀ := m₀) hbj (Nat.le_trans hm hmW)).trans HK2.out
      have HKK := Lib.hid hkk
      have HM2 := Lib.hid (show m₀ ≤ W2.heap.size from Nat.le_trans hmW hkk.1.size)
      clear hkk
      clear hbj hb1 hu x0 x1 z0 z1 hbW hbox
      go_wp2_with fail
      go_loopw [7, 8, 18] (fun _ _ i wr => ∃ (k : Nat) (ys : List (NX w0 t0)), k ≤ t.kids.length ∧ i = .int .i64 k ∧ ys.map NX.pt = (at_, t) :: prePL at_ 1 (t.kids.take k) ∧ J (pre ++ ys) wr ∧ KpN w0.heap.size m₀ W wr) (fun _ _ i _ => t.kids.length - (intOf i).toNat)
      case atStart => exact ⟨0, [⟨u, ao, sp, t, at_, HT.out, HMT.out⟩], by omega, rfl, by simp [NX.pt, prePL], HJ2.out, HKK.out⟩
      case round =>
        obtain ⟨k, ys, hk, rfl, hys, hJk, hKk⟩ := hrel
        have HYS := Lib.hid hys; have HJK := Lib.hid hJk; have HKK := Lib.hid hKk
        clear hys hJk hKk
        have hlen : (pre ++ ys).length = pre.length + 1 + sizeL (t.kids.take k) := by
          have := congrArg List.length HYS.out
          simp only [List.length_map, List.length_cons, prePL_length] at this
          simp only [List.length_append]; omega
        have HLEN := Lib.hid hlen
        clear hlen
        by_cases hlt : k < t.kids.length
        · obtain ⟨b, off, ko, ksp, rfl, c1, c2, c3⟩ := HR.out k hlt
          have HC3 := Lib.hid c3
          have hbw := HW0.out.trans HKK.out.1
          have d1 := Below.cellOf hbw c1
          have d2 := Below.cellOf hbw c2
          clear c1 c2 c3 hbw
          have hkm : k + 1 ≤ 100000000 := by have h1 := HKM.out; omega
          have HKD := Lib.hid (kid_deep hlt)
          have HKS := Lib.hid (sizeL_take hlt)
          have HKL := Lib.hid (sizeL_take_le t.kids (k + 1))
          go_wp2_with fail
          have hbk := (Below.refl wr.heap.size wr).alloc (Nat.le_refl _) (.cells #[.int .i64 (gK t.kids k).head, .slice ko (gK t.kids k).kids.length ((gK t.kids k).kids.length + ksp)] 44)
          have hbx := heap_ofAlloc wr (.cells #[.int .i64 (gK t.kids k).head, .slice ko (gK t.kids k).kids.length ((gK t.kids k).kids.length + ksp)] 44)
          generalize wr.alloc (.cells #[.int .i64 (gK t.kids k).head, .slice ko (gK t.kids k).kids.length ((gK t.kids k).kids.length + ksp)] 44) = V at hbk hbx ⊢
          obtain ⟨⟨x0, _⟩, x1, _⟩ := box2 (w := V.drew) hbx
          have hpV := Lib.hid ((HP.out.keptN HKK.out).kept hbk.drew)
          have hlo := heap_lt hbx
          obtain ⟨⟨xa0, _⟩, xa1, _⟩ := box2 (w := (V.alloc (.cells #[.int .i64 ((k : Int) + 1)] 3)).drew) (heap_alloc_old (w := V) hbx)
          have HPN := Lib.hid (PlaceAt.at hpV.out).1
          have HPC := Lib.hid (PlaceAt.at hpV.out).2
          have HBX := Lib.hid hbx; have HBK := Lib.hid hbk
          have hsum : IntKind.i64.wrap ((k : Int) + 1) = (k : Int) + 1 := IntWalk.i64_in _ (by omega)
          clear hbx hbk
          go_region_law (first
            | (refine step_append_grows (by rfl) (.tmp 25) (.tmp 28) 27 (by rfl) 3 i3 (.int .i64 0) 1 8 Try.underlying27 gi gz0 gz1 gz2 rfl (by decide) aoP at_.length at_.length (at_.map (Value.int .i64)) (by rfl) HPN.out (by simp) (fun bb hb j u hj => Below.cellOf ((Below.refl V.drew.heap.size V.drew).alloc (Nat.le_refl _) _) (HPC.out bb hb j u hj))
                ⟨V.heap.size, 0, none⟩ 1 1 [.int .i64 ((k : Int) + 1)] (by rfl) (by rfl) (World.news_of_block (cs := #[.int .i64 ((k : Int) + 1)]) (t := 3) (fr := (0, 0)) (heap_ofAlloc V.drew _)) (by simp [Value.oneCell']) (by omega) (by unfold maxLen; omega) (by omega) ?_
               intro v3 w3 hown3 hgrow3
               have hb3 : Below wr.heap.size wr w3 := ((HBK.out.drew.alloc HBK.out.size _).grown hgrow3 (by have := HBK.out.size; simp; omega) (fun q hq => by cases hq))
               obtain ⟨⟨z0, _⟩, z1, _⟩ := box2 ((hgrow3.block _ (by have := heap_lt HBX.out; simp; omega) (by simp)).trans (heap_alloc_old (w := V.drew) HBX.out))
               have HP3 := Lib.hid (PlaceAt.of (l := at_ ++ [(k : Int) + 1]) (ownsRow_low hown3 (show m₀ ≤ _ by have := HBK.out.size; have := HKK.out.1.size; simp; omega)) (by simp) (by simp) (by simp))
               have HB3 := Lib.hid hb3
               clear hown3 hgrow3 hb3)
            | ((try go_simp); go_at_call 132; refine (clip66s m₀ at_ aoP cpP _ (by first | exact hpV.out | exact hpV.out.kept ((Below.refl V.drew.heap.size V.drew).alloc (Nat.le_refl _) _))).mono ?_; rintro e wq ⟨rfl, rfl⟩)
            | (go_simp; go_at_call 124
               refine (IH.out k hlt (HKM0.out k hlt) ko ksp (at_ ++ [(k : Int) + 1]) _ (pre ++ ys) _ HC3.out (HW0.out.trans (HKK.out.1.trans (HB3.out.mono (by have := HKK.out.1.size; have := HW0.out.size; omega)))) (by have := HB3.out.size; have := HKK.out.1.size; omega) HP3.out (by have := HKD.out; have := HTD.out; simp; omega) (abides_below HJ.out HJK.out HB3.out) (by have h := HLEN.out; have := HKS.out; have := HKL.out; have := HTS.out; rw [h]; omega)).mono ?_
               intro e wq hq
               obtain ⟨bb, rfl, hq'⟩ := hq.asBool
               clear hq))
          all_goals
            have HPT := Lib.hid (prePL_take at_ hlt)
            rcases hq' with ⟨rfl, ⟨zs, hzs, hjz⟩, hkq⟩ | ⟨rfl, q, hqp, hxq⟩
            · have HZ := Lib.hid hzs; have HJZ := Lib.hid hjz; have HKQ := Lib.hid hkq
              clear hzs hjz hkq
              go_wp2_with fail
              go_roundw
              case rel => exact ⟨k + 1, ys ++ zs, by omega, by go_num, by rw [List.map_append, HYS.out, HZ.out, HPT.out]; rfl, by rw [← List.append_assoc]; exact HJZ.out, (HKK.out.trans (KpN.of HB3.out (by have := HKK.out.1.size; have := HW0.out.size; omega))).trans HKQ.out⟩
              case measure => simp [intOf] <;> omega
            · have HXQ := Lib.hid hxq; have HQP := Lib.hid hqp
              clear hxq hqp
              have HFIN := Lib.hid (show WalkPost w0.heap.size m₀ J Jx pre (t.preP at_) W (.returned (.bool false)) wq from .inr ⟨rfl, ys ++ q, by
                rw [List.map_append, HYS.out, T.preP_eq, List.cons_append]
                refine List.prefix_cons_inj _ |>.2 (List.IsPrefix.trans ?_ (prePL_take_prefix at_ t.kids (k + 1)))
                rw [HPT.out]
                exact List.prefix_append_right_inj _ |>.2 HQP.out, by rw [← List.append_assoc]; exact HXQ.out⟩)
              go_wp2_with fail
              go_ret
              exact HFIN.out
        · obtain rfl : k = t.kids.length := by omega
          have HFIN := Lib.hid (show WalkPost w0.heap.size m₀ J Jx pre (t.preP at_) W (.returned (.bool true)) wr from .inl ⟨rfl, ⟨ys, by rw [HYS.out, List.take_length, ← T.preP_eq], HJK.out⟩, HKK.out⟩)
          go_wp2_with fail
          go_ret
          exact HFIN.out
    · have HX2 := Lib.hid hx2
      clear hx2
      go_wp2_with fail
      go_ret
      refine .inr ⟨rfl, [⟨u, ao, sp, t, at_, HT.out, HMT.out⟩], ⟨prePL at_ 1 t.kids, by rw [T.preP_eq]; rfl⟩, HX2.out⟩
end Go.Proofs.Yteekoclfpehnpaa
