/-
  Walks: positions as rows of the call's own; slices.Clone, slices.Clip over them.
  Walks: tree.walk and tree.Nodes: what they yield.
  tree.Nodes hands back an iterator over the nodes of a tree with their positions.
  Walks: tree.Check.
  Walks: the document's Form of a claim.
  Walks: tree.Apply.
  Walks: the law's leaf.
-/
import Derived.Test.YtidgnbdlfngeaaaGreatDoorProg
import Derived.Test.YtidgnbdlfngeaaaGreatDoorBase
import Derived.Test.YtidgnbdlfngeaaaGreatDoorXa
import Derived.Test.YtidgnbdlfngeaaaGreatDoorXc
import Derived.Test.YtidgnbdlfngeaaaGreatDoorXb
import Derived.Deep.RegionLawGrows
import Derived.ArgAppend
import Derived.Outline
import Derived.RangeFuncBound
import Derived.RangeFuncCalls
import Derived.RangeFuncLeaves
import Derived.OwnWalkIn
import Derived.TacticsInMore
import Derived.LoopNIn
import Derived.LoopIn
import Derived.Deep.RegionLaw
import Derived.IntWalk
import Derived.RangeFuncNested
namespace Go.Proofs.YtidgnbdlfngeaaaGreatDoor
open Go.RowKit Go.Shelf
set_option linter.unusedVariables false
set_option maxHeartbeats 400000

theorem info3 : (Tryz.prog.info? 3).map (fun i => (i.zero, i.size, i.bytes)) = some (some (.int .i64 0), 1, 8) := by kernel_rfl

/-- a position: a row of integers at the head of a block -/
def PlaceAt (B : Nat) (w : World) (v : Value) (l : List Int) : Prop := w.ownsRow B 3 1 v l.length (l.map (Value.int .i64)) ∧ (l = [] → v = .slice none 0 0)
theorem PlaceAt.nil (B : Nat) (w : World) : PlaceAt B w (.slice none 0 0) [] := ⟨World.ownsRow_nil _ _ _ _, fun _ => rfl⟩
theorem PlaceAt.kept {B : Nat} {w w' : World} {v : Value} {l : List Int} (h : PlaceAt B w v l) (hb : Below w.heap.size w w') : PlaceAt B w' v l := ⟨own_below h.1 hb, h.2⟩
theorem PlaceAt.cells {B : Nat} {w : World} {v : Value} {l : List Int} (h : PlaceAt B w v l) : (v = .slice none 0 0 ∧ l = []) ∨ ∃ g cap, v = .slice (some ⟨g, 0, none⟩) l.length cap ∧ B ≤ g ∧ 0 < l.length ∧ l.length ≤ cap ∧ cap ≤ maxLen ∧ ∀ j u, (l.map (Value.int .i64))[j]? = some u → w.cell? ⟨g, 0 + j, none⟩ = some u := by
  obtain ⟨⟨_, h2⟩, h3⟩ := h
  rcases h2 with ⟨rfl, hn⟩ | ⟨g, cap, cur, rfl, hB, hh, hnc, hm, hsz, htk⟩
  · exact .inl ⟨rfl, List.eq_nil_of_length_eq_zero hn⟩
  · refine .inr ⟨g, cap, rfl, hB, ?_, hnc, hm, fun j u hj => ?_⟩
    · cases l with
      | nil => have := h3 rfl; simp at this
      | cons x r => simp
    · rw [← htk, List.getElem?_take] at hj
      split at hj
      · simp only [World.cell?, hh, Nat.zero_add, Option.isSome_none]
        rw [← Array.getElem?_toList]; simpa using hj
      · cases hj
theorem PlaceAt.of {B : Nat} {w : World} {v : Value} {l : List Int} {n : Nat} {xs : List Value} (h : w.ownsRow B 3 1 v n xs) (hn : n = l.length) (hx : xs = l.map (Value.int .i64)) (hl : 0 < l.length) : PlaceAt B w v l := by
  subst hn hx
  exact ⟨h, fun e => by rw [e] at hl; simp at hl⟩

theorem ownsRow_low {w : World} {B B' : Nat} {e : TypeId} {size : Nat} {v : Value} {n : Nat} {xs : List Value} (h : w.ownsRow B e size v n xs) (hb : B' ≤ B) : w.ownsRow B' e size v n xs := by
  obtain ⟨h1, h2⟩ := h
  refine ⟨h1, h2.imp id ?_⟩
  rintro ⟨g, cap, cur, e1, e2, e3⟩
  exact ⟨g, cap, cur, e1, by omega, e3⟩
def ClonePost (l : List Int) (w : World) (e : Ending) (w' : World) : Prop := (∃ u, e = .returned u ∧ PlaceAt w.heap.size w' u l) ∧ Below w.heap.size w w'

theorem PlaceAt.form {B : Nat} {w : World} {v : Value} {l : List Int} (h : PlaceAt B w v l) : ∃ ao cap, v = .slice ao l.length cap := by
  rcases h.cells with ⟨rfl, rfl⟩ | ⟨g, cap, rfl, _⟩
  · exact ⟨none, 0, rfl⟩
  · exact ⟨_, _, rfl⟩
theorem PlaceAt.at {B : Nat} {w : World} {ao : Option Addr} {cap : Nat} {l : List Int} (h : PlaceAt B w (.slice ao l.length cap) l) : (ao = none → l.length = 0 ∧ l.length = 0) ∧ ∀ b, ao = some b → ∀ j u, (l.map (Value.int .i64))[j]? = some u → w.cell? (b.add j) = some u := by
  rcases h.cells with ⟨h1, rfl⟩ | ⟨g, cap', h1, _, _, _, _, hc⟩
  · exact ⟨fun _ => ⟨rfl, rfl⟩, fun b _ j u hj => by simp at hj⟩
  · simp at h1
    obtain ⟨rfl, rfl⟩ := h1
    exact ⟨(fun h => by cases h), (fun b hb j u hj => by cases hb; rw [Addr.add_lit]; exact hc j u hj)⟩
theorem clip66s (B : Nat) (l : List Int) (ao : Option Addr) (cap : Nat) (w : World) (h : PlaceAt B w (.slice ao l.length cap) l) : Calls Tryz.prog 68 #[.slice ao l.length cap] w fun e w' => e = .returned (.slice ao l.length l.length) ∧ w' = w := by
  rcases h.cells with ⟨h1, rfl⟩ | ⟨g, cap', h1, _, hl0, hlc, hml, hc⟩
  · simp at h1
    obtain ⟨rfl, rfl⟩ := h1
    clear h
    go_enter Tryz.func68, Tryz.ntmps68
    go_wp2_with fail
    go_ret
    exact ⟨rfl, rfl⟩
  · simp at h1
    obtain ⟨rfl, rfl⟩ := h1
    have hml : cap ≤ 9223372036854775807 := hml
    clear h hc
    have h1 : (l.length : Int) ≤ cap := by omega
    go_enter Tryz.func68, Tryz.ntmps68
    go_wp2_with fail
    go_ret
    exact ⟨rfl, rfl⟩
theorem clone65 (B : Nat) (l : List Int) (v : Value) (w : World) (h : PlaceAt B w v l) (hl : l.length ≤ 100000000) : Calls Tryz.prog 67 #[v] w (ClonePost l w) := by
  have hnil := fun (w : World) a n c => Lib.run_eql_slice_nil (P := Tryz.prog) w 22 3 a n c 0 0 Tryz.underlying22
  rcases h.cells with ⟨rfl, rfl⟩ | ⟨g, cap, rfl, hg, hl0, hlc, hml, hc⟩
  · clear h
    go_enter Tryz.func67, Tryz.ntmps67
    go_wp2_with fail
    go_ret
    exact ⟨⟨_, rfl, PlaceAt.nil _ _⟩, Below.refl _ _⟩
  · have hml : cap ≤ 9223372036854775807 := hml
    have HC := Lib.hid hc
    have HH := Lib.hid h
    clear h hc
    obtain ⟨i3, gi, gz0, gz1, gz2⟩ := info_parts info3
    go_enter Tryz.func67, Tryz.ntmps67
    go_wp2_with (at_builtin; refine wpList_append_grows _ rfl (.tmp 5) (.tmp 6) 22 rfl 3 i3 (.int .i64 0) 1 8 Tryz.underlying22 gi gz0 gz1 gz2 rfl (by decide) (some ⟨w.heap.size, 0, none⟩) 0 0 [] rfl (fun h => by cases h) rfl (fun b hb j u hj => by simp at hj) ⟨g, 0, none⟩ l.length cap (l.map (Value.int .i64)) rfl (by simp) ?c1 ?c2 ?c3 ?c4 ?c5 ?_)
    case c1 => exact fun j u hj => by rw [Addr.add_lit]; exact Below.cellOf ((Below.refl w.heap.size w).alloc (Nat.le_refl _) _) (HC.out j u hj)
    case c2 => intro u hu; simp at hu; obtain ⟨x, _, rfl⟩ := hu; rfl
    case c3 => omega
    case c4 => unfold maxLen; omega
    case c5 => omega
    intro v' w1 hown hgrow
    have HO := Lib.hid hown; have HG := Lib.hid hgrow
    clear hown hgrow
    go_wp2_with fail
    go_ret
    have hz := World.size_alloc w (.cells #[] 3)
    refine ⟨⟨_, rfl, PlaceAt.of (ownsRow_low HO.out (show w.heap.size ≤ _ by simp)) (by omega) (by simp) hl0⟩, ?_⟩
    exact ((Below.refl w.heap.size w).alloc (Nat.le_refl _) _).grown HG.out (by simp) (fun q hq => by cases hq)
end Go.Proofs.YtidgnbdlfngeaaaGreatDoor
namespace Go.Proofs.YtidgnbdlfngeaaaGreatDoor
open Go.RowKit Go.Shelf
set_option linter.unusedVariables false
set_option maxHeartbeats 400000
attribute [local go_sem] Oper.semAt_some

mutual
/-- the nodes with their positions, in preorder -/
def T.preP (p : List Int) : T → List (List Int × T)
  | .node h ks => (p, .node h ks) :: prePL p 1 ks
def prePL (p : List Int) (i : Int) : List T → List (List Int × T)
  | [] => []
  | t :: r => t.preP (p ++ [i]) ++ prePL p (i + 1) r
end
theorem T.preP_eq (p : List Int) (t : T) : t.preP p = (p, t) :: prePL p 1 t.kids := by cases t; rw [T.preP]; rfl
theorem prePL_append (p : List Int) : ∀ (a b : List T) (i : Int), prePL p i (a ++ b) = prePL p i a ++ prePL p (i + a.length) b
  | [], b, i => by simp [prePL]
  | t :: r, b, i => by simp only [List.cons_append, prePL, prePL_append p r b, List.append_assoc, List.length_cons]; congr 3; omega
theorem prePL_take (p : List Int) {l : List T} {i : Nat} (h : i < l.length) : prePL p 1 (l.take (i + 1)) = prePL p 1 (l.take i) ++ (gK l i).preP (p ++ [(i : Int) + 1]) := by
  rw [take_gK h, prePL_append]; simp only [prePL, List.append_nil, List.length_take]; congr 4; omega
theorem prePL_take_prefix (p : List Int) (l : List T) (i : Nat) : prePL p 1 (l.take i) <+: prePL p 1 l := by
  refine ⟨prePL p (1 + (l.take i).length) (l.drop i), ?_⟩
  rw [← prePL_append, List.take_append_drop]
theorem preP_snd (t : T) : ∀ p, (t.preP p).map (·.2) = t.pre := by
  induction t using T.ind with
  | h t ih =>
    intro p
    have key : ∀ l : List T, (∀ i, i < l.length → ∀ p, ((gK l i).preP p).map (·.2) = (gK l i).pre) → ∀ i, (prePL p i l).map (·.2) = preL l := by
      intro l
      induction l with
      | nil => intro _ i; simp [prePL, preL]
      | cons x r ihr =>
        intro h i
        have h0 := h 0 (by simp) (p ++ [i])
        simp only [gK, List.getD_cons_zero] at h0
        rw [prePL, preL, List.map_append, h0, ihr (fun i hi => by have := h (i + 1) (by simpa using hi); simpa only [gK, List.getD_cons_succ] using this)]
    rw [T.preP_eq, T.pre_eq, List.map_cons, key t.kids ih]

theorem preP_length (t : T) (p : List Int) : (t.preP p).length = t.size := by rw [← pre_length, ← preP_snd t p, List.length_map]
theorem prePL_length (p : List Int) : ∀ (l : List T) (i : Int), (prePL p i l).length = sizeL l
  | [], i => by simp [prePL, sizeL]
  | t :: r, i => by simp only [prePL, sizeL, List.length_append, preP_length, prePL_length p r]
theorem kid_deep {l : List T} {i : Nat} (h : i < l.length) : (gK l i).deep ≤ deepL l := by
  have h1 := deepL_take h; have h2 := deepL_take_le l (i + 1); omega

/-- what a round may do: what lay ahead of n₀ stays; rows of integers and of trees from m₀ on stay -/
def KpN (n₀ m₀ : Nat) (A B : World) : Prop := Below n₀ A B ∧ ∀ b cur ty fz, m₀ ≤ b → ty = 3 ∨ ty = 45 → A.heap[b]? = some (.cells cur ty fz) → B.heap[b]? = A.heap[b]?
theorem KpN.trans {n₀ m₀ : Nat} {A B C : World} (h : KpN n₀ m₀ A B) (k : KpN n₀ m₀ B C) : KpN n₀ m₀ A C :=
  ⟨h.1.trans k.1, fun b cur ty fz hb ht ha => by have e := h.2 b cur ty fz hb ht ha; exact (k.2 b cur ty fz hb ht (e.trans ha)).trans e⟩
theorem KpN.of {n₀ m₀ : Nat} {A B : World} (h : Below A.heap.size A B) (hn : n₀ ≤ A.heap.size) : KpN n₀ m₀ A B := ⟨h.mono hn, fun b cur ty fz hb ht ha => h.block b (Array.getElem?_eq_some_iff.1 ha).1⟩
theorem KpN.putObj {n₀ m₀ : Nat} {w : World} (hn : n₀ ≤ w.heap.size) (W : World) (l : Nat) (o o' : Obj) (hl : w.heap.size ≤ l) (h : W.heap[l]? = some o) (hc : o.isCells = false) (hw : o.isWalk = false) : KpN n₀ m₀ W (W.putObj l o') :=
  ⟨belowK_b hn W l o o' hl h hc hw, fun b cur ty fz hb ht ha => by
    have : b ≠ l := fun e => by subst e; rw [h] at ha; cases ha; cases hc
    exact World.putObj_heap_other this⟩
theorem PlaceAt.keptN {n₀ m₀ : Nat} {w w' : World} {v : Value} {l : List Int} (h : PlaceAt m₀ w v l) (hb : KpN n₀ m₀ w w') : PlaceAt m₀ w' v l := by
  refine ⟨?_, h.2⟩
  obtain ⟨h1, h2⟩ := h.1
  refine ⟨h1, h2.imp id ?_⟩
  rintro ⟨g, cap, cur, e1, e2, e3, e4⟩
  exact ⟨g, cap, cur, e1, e2, (hb.2 g cur 3 (0, 0) e2 (.inl rfl) e3).trans e3, e4⟩

theorem kid_pre_mem {l : List T} {i : Nat} (h : i < l.length) {x : T} (hx : x ∈ (gK l i).pre) : x ∈ preL l := by
  have h1 := preL_take h
  have h2 : x ∈ preL (l.take (i + 1)) := by rw [h1]; exact List.mem_append.2 (.inr hx)
  exact (preL_take_prefix l (i + 1)).subset h2

/-- what is yielded: a position and a tree that lies in w0, a node of t0 -/
structure NX (w0 : World) (t0 : T) where
  pl : Value
  ao : Option Addr
  sp : Nat
  t : T
  at_ : List Int
  ht : TreeAt w0 (.agg #[.int .i64 t.head, .slice ao t.kids.length (t.kids.length + sp)]) t
  mem : t ∈ t0.pre
def NX.encs {w0 : World} {t0 : T} (x : NX w0 t0) : Array Value := #[x.pl, .agg #[.int .i64 x.t.head, .slice x.ao x.t.kids.length (x.t.kids.length + x.sp)]]
def NX.pt {w0 : World} {t0 : T} (x : NX w0 t0) : List Int × T := (x.at_, x.t)

theorem abides_below {β : Type} {B : Nat} {J : β → World → Prop} (h : AbidesFrom B J) {s : β} {W W' : World} (hs : J s W) (hb : Below W.heap.size W W') : J s W' :=
  h s W W' none hs ⟨hb.os, hb.tape, hb.output, hb.size, fun k hk _ => hb.block k hk⟩ (fun r e => by cases e)

theorem PlaceAt.mono {B B' : Nat} {w : World} {v : Value} {l : List Int} (h : PlaceAt B w v l) (hb : B' ≤ B) : PlaceAt B' w v l := ⟨ownsRow_low h.1 hb, h.2⟩
def WalkPost {w0 : World} {t0 : T} (n₀ m₀ : Nat) (J Jx : List (NX w0 t0) → World → Prop) (pre : List (NX w0 t0)) (L : List (List Int × T)) (W : World) (e : Ending) (W' : World) : Prop :=
  (e = .returned (.bool true) ∧ (∃ ys : List (NX w0 t0), ys.map NX.pt = L ∧ J (pre ++ ys) W') ∧ KpN n₀ m₀ W W') ∨ (e = .returned (.bool false) ∧ ∃ q : List (NX w0 t0), q.map NX.pt <+: L ∧ Jx (pre ++ q) W')
def YieldPost {w0 : World} {t0 : T} (n₀ m₀ : Nat) (J Jx : List (NX w0 t0) → World → Prop) (pre : List (NX w0 t0)) (x : NX w0 t0) (W : World) (e : Ending) (W' : World) : Prop :=
  (e = .returned (.bool true) ∧ J (pre ++ [x]) W' ∧ KpN n₀ m₀ W W') ∨ (e = .returned (.bool false) ∧ Jx (pre ++ [x]) W')

def YieldWay {w0 : World} {t0 : T} (n₀ m₀ : Nat) (J Jx : List (NX w0 t0) → World → Prop) (pre : List (NX w0 t0)) (x : NX w0 t0) (W : World) (b : Bool) (W' : World) : Prop :=
  (b = true ∧ J (pre ++ [x]) W' ∧ KpN n₀ m₀ W W') ∨ (b = false ∧ Jx (pre ++ [x]) W')
def WalkWay {w0 : World} {t0 : T} (n₀ m₀ : Nat) (J Jx : List (NX w0 t0) → World → Prop) (pre : List (NX w0 t0)) (L : List (List Int × T)) (W : World) (b : Bool) (W' : World) : Prop :=
  (b = true ∧ (∃ ys : List (NX w0 t0), ys.map NX.pt = L ∧ J (pre ++ ys) W') ∧ KpN n₀ m₀ W W') ∨ (b = false ∧ ∃ q : List (NX w0 t0), q.map NX.pt <+: L ∧ Jx (pre ++ q) W')
theorem WalkPost.asBool {w0 : World} {t0 : T} {n₀ m₀ : Nat} {J Jx : List (NX w0 t0) → World → Prop} {pre : List (NX w0 t0)} {L : List (List Int × T)} {W : World} {e : Ending} {W' : World} (h : WalkPost n₀ m₀ J Jx pre L W e W') :
    ∃ b, e = .returned (.bool b) ∧ WalkWay n₀ m₀ J Jx pre L W b W' := by
  rcases h with ⟨rfl, h1, h2⟩ | ⟨rfl, h⟩
  · exact ⟨true, rfl, .inl ⟨rfl, h1, h2⟩⟩
  · exact ⟨false, rfl, .inr ⟨rfl, h⟩⟩
theorem YieldPost.asBool {w0 : World} {t0 : T} {n₀ m₀ : Nat} {J Jx : List (NX w0 t0) → World → Prop} {pre : List (NX w0 t0)} {x : NX w0 t0} {W : World} {e : Ending} {W' : World} (h : YieldPost n₀ m₀ J Jx pre x W e W') :
    ∃ b, e = .returned (.bool b) ∧ YieldWay n₀ m₀ J Jx pre x W b W' := by
  rcases h with ⟨rfl, h1, h2⟩ | ⟨rfl, h⟩
  · exact ⟨true, rfl, .inl ⟨rfl, h1, h2⟩⟩
  · exact ⟨false, rfl, .inr ⟨rfl, h⟩⟩

set_option maxRecDepth 100000 in
set_option maxHeartbeats 4000000 in
theorem walk59 (w0 : World) (t0 : T) (m₀ l N B : Nat) (hNN : N ≤ 90000000) (J Jx : List (NX w0 t0) → World → Prop) (hJ : AbidesFrom B J) (hm : w0.heap.size ≤ m₀)
    (hY : ∀ m pre x W, J pre W → pre.length < N → PlaceAt m₀ W x.pl x.at_ → YieldAt Fence.wide m Tryz.prog l x.encs W (YieldPost w0.heap.size m₀ J Jx pre x W)) (t : T) :
    (∀ x ∈ t.pre, x ∈ t0.pre) → ∀ (ao : Option Addr) (sp : Nat) (at_ : List Int) (vp : Value) (pre : List (NX w0 t0)) (W : World), TreeAt w0 (.agg #[.int .i64 t.head, .slice ao t.kids.length (t.kids.length + sp)]) t →
      Below w0.heap.size w0 W → m₀ ≤ W.heap.size → PlaceAt m₀ W vp at_ → at_.length + t.deep ≤ 100000 → J pre W → pre.length + t.size ≤ N →
      Calls Tryz.prog 55 #[.agg #[.int .i64 t.head, .slice ao t.kids.length (t.kids.length + sp)], vp, .func (.yield l) #[] #[]] W (WalkPost w0.heap.size m₀ J Jx pre (t.preP at_) W) := by
  induction t using T.ind with
  | h t ih =>
  intro hmem ao sp at_ vp pre W ht hw0 hmW hp hal hj hN
  have hmt : t ∈ t0.pre := hmem t (by rw [T.pre_eq]; simp)
  have HKM0 := Lib.hid (fun k (hk : k < t.kids.length) x (hx : x ∈ (gK t.kids k).pre) => hmem x (by rw [T.pre_eq]; exact List.mem_cons_of_mem _ (kid_pre_mem hk hx)))
  have HMT := Lib.hid hmt
  clear hmem hmt
  obtain ⟨aoP, cpP, rfl⟩ := hp.form
  have hrow : RowAt w0 ao t.kids ∧ t.kids.length ≤ maxLen := by
    obtain ⟨ao', sp', e, h1, h2⟩ := ht.open
    simp at e
    rw [e.1]; exact ⟨h1, h2⟩
  have hml : t.kids.length ≤ 9223372036854775807 := hrow.2
  have HR := Lib.hid hrow.1
  have HTS := Lib.hid (T.size_eq t)
  have HTD := Lib.hid (T.deep_eq t)
  have HKM := Lib.hid (show t.kids.length ≤ 90000000 by have := length_le_sizeL t.kids; have := HTS.out; omega)
  obtain ⟨i3, gi, gz0, gz1, gz2⟩ := info_parts info3
  clear hrow
  have HW0 := Lib.hid hw0
  have HT := Lib.hid ht
  have HP := Lib.hid hp
  have HJ0 := Lib.hid hj
  have IH := Lib.hid ih; have HY := Lib.hid hY; have HJ := Lib.hid hJ
  clear ht hp hj ih hY hJ hw0
  have hmx : Tryz.prog.follows .mixedOrders = true := by kernel_rfl
  go_enter Tryz.func55, Tryz.ntmps55
  go_wp2_with fail
  refine (wpIn_wide (n := 3)).1 ?_
  have hbW := (Below.refl W.heap.size W).alloc (Nat.le_refl _) (.cells #[.int .i64 t.head, .slice ao t.kids.length (t.kids.length + sp)] 45)
  have hbox := heap_ofAlloc W (.cells #[.int .i64 t.head, .slice ao t.kids.length (t.kids.length + sp)] 45)
  generalize W.alloc (.cells #[.int .i64 t.head, .slice ao t.kids.length (t.kids.length + sp)] 45) = W1 at hbW hbox ⊢
  obtain ⟨⟨x0, _⟩, x1, _⟩ := box2 (w := W1.drew) hbox
  have hp1 := Lib.hid (HP.out.kept hbW.drew)
  have hsz1 := hbW.size
  gi_region_with_o (first
    | (refine ⟨trivial, ?_⟩; gi_at_call 67; refine (callsIn_wide.2 (clone65 m₀ at_ (.slice aoP at_.length cpP) _ hp1.out (by omega))).mono ?_; rintro e w1 ⟨⟨u, rfl, hu⟩, hb1⟩
       have hbj := hbW.drew.trans (hb1.mono (show W.heap.size ≤ W1.drew.heap.size from hsz1))
       have hyl := HY.out 2 pre ⟨u, ao, sp, t, at_, HT.out, HMT.out⟩ w1 (abides_below HJ.out HJ0.out hbj) (by have := t.size_pos; omega) (PlaceAt.mono hu (show m₀ ≤ W1.drew.heap.size from Nat.le_trans hmW hsz1))
       obtain ⟨⟨z0, _⟩, z1, _⟩ := box2 (Below.heapAt (w := W1.drew) hb1 hbox)
       obtain ⟨fn, tmps, assign, body, hy, hR⟩ := hyl
       dsimp only [NX.encs] at hy)
    | (refine hR.mono ?_; clear hR; intro e W2 hyp; obtain ⟨bb, rfl, hyp'⟩ := hyp.asBool; clear hyp))
  all_goals
    have HBJ := Lib.hid hbj
    clear hy
    rcases hyp' with ⟨rfl, hJ2, hk2⟩ | ⟨rfl, hx2⟩
    · have HJ2 := Lib.hid hJ2
      have HK2 := Lib.hid hk2
      have hbx2 := (hk2.2 _ _ 45 _ hmW (.inr rfl) (Below.heapAt (w := W1.drew) hb1 hbox)).trans (Below.heapAt (w := W1.drew) hb1 hbox)
      obtain ⟨⟨y0, y1⟩, y2, y3⟩ := box2 hbx2
      clear hJ2 hk2 hbx2
      have hkk := (KpN.of (m₀ := m₀) hbj (Nat.le_trans hm hmW)).trans HK2.out
      have HKK := Lib.hid hkk
      have HM2 := Lib.hid (show m₀ ≤ W2.heap.size from Nat.le_trans hmW hkk.1.size)
      clear hkk
      clear hbj hb1 hu x0 x1 z0 z1 hbW hbox
      go_wp2_with fail
      go_loopw [7, 8, 18] (fun _ _ i wr => ∃ (k : Nat) (ys : List (NX w0 t0)), k ≤ t.kids.length ∧ i = .int .i64 k ∧ ys.map NX.pt = (at_, t) :: prePL at_ 1 (t.kids.take k) ∧ J (pre ++ ys) wr ∧ KpN w0.heap.size m₀ W wr) (fun _ _ i _ => t.kids.length - (intOf i).toNat)
      case atStart => exact ⟨0, [⟨u, ao, sp, t, at_, HT.out, HMT.out⟩], by omega, rfl, by simp [NX.pt, prePL], HJ2.out, HKK.out⟩
      case round =>
        obtain ⟨k, ys, hk, rfl, hys, hJk, hKk⟩ := hrel
        have HYS := Lib.hid hys; have HJK := Lib.hid hJk; have HKK := Lib.hid hKk
        clear hys hJk hKk
        have hlen : (pre ++ ys).length = pre.length + 1 + sizeL (t.kids.take k) := by
          have := congrArg List.length HYS.out
          simp only [List.length_map, List.length_cons, prePL_length] at this
          simp only [List.length_append]; omega
        have HLEN := Lib.hid hlen
        clear hlen
        by_cases hlt : k < t.kids.length
        · obtain ⟨b, off, ko, ksp, rfl, c1, c2, c3⟩ := HR.out k hlt
          have HC3 := Lib.hid c3
          have hbw := HW0.out.trans HKK.out.1
          have d1 := Below.cellOf hbw c1
          have d2 := Below.cellOf hbw c2
          clear c1 c2 c3 hbw
          have hkm : k + 1 ≤ 100000000 := by have h1 := HKM.out; omega
          have HKD := Lib.hid (kid_deep hlt)
          have HKS := Lib.hid (sizeL_take hlt)
          have HKL := Lib.hid (sizeL_take_le t.kids (k + 1))
          go_wp2_with fail
          have hbk := (Below.refl wr.heap.size wr).alloc (Nat.le_refl _) (.cells #[.int .i64 (gK t.kids k).head, .slice ko (gK t.kids k).kids.length ((gK t.kids k).kids.length + ksp)] 45)
          have hbx := heap_ofAlloc wr (.cells #[.int .i64 (gK t.kids k).head, .slice ko (gK t.kids k).kids.length ((gK t.kids k).kids.length + ksp)] 45)
          generalize wr.alloc (.cells #[.int .i64 (gK t.kids k).head, .slice ko (gK t.kids k).kids.length ((gK t.kids k).kids.length + ksp)] 45) = V at hbk hbx ⊢
          obtain ⟨⟨x0, _⟩, x1, _⟩ := box2 (w := V.drew) hbx
          have hpV := Lib.hid ((HP.out.keptN HKK.out).kept hbk.drew)
          have hlo := heap_lt hbx
          obtain ⟨⟨xa0, _⟩, xa1, _⟩ := box2 (w := (V.alloc (.cells #[.int .i64 ((k : Int) + 1)] 3)).drew) (heap_alloc_old (w := V) hbx)
          have HPN := Lib.hid (PlaceAt.at hpV.out).1
          have HPC := Lib.hid (PlaceAt.at hpV.out).2
          have HBX := Lib.hid hbx; have HBK := Lib.hid hbk
          have hsum : IntKind.i64.wrap ((k : Int) + 1) = (k : Int) + 1 := IntWalk.i64_in _ (by omega)
          clear hbx hbk
          go_region_law (first
            | (refine step_append_grows (by rfl) (.tmp 25) (.tmp 28) 22 (by rfl) 3 i3 (.int .i64 0) 1 8 Tryz.underlying22 gi gz0 gz1 gz2 rfl (by decide) aoP at_.length at_.length (at_.map (Value.int .i64)) (by rfl) HPN.out (by simp) (fun bb hb j u hj => Below.cellOf ((Below.refl V.drew.heap.size V.drew).alloc (Nat.le_refl _) _) (HPC.out bb hb j u hj))
                ⟨V.heap.size, 0, none⟩ 1 1 [.int .i64 ((k : Int) + 1)] (by rfl) (by rfl) (World.news_of_block (cs := #[.int .i64 ((k : Int) + 1)]) (t := 3) (fr := (0, 0)) (heap_ofAlloc V.drew _)) (by simp [Value.oneCell']) (by omega) (by unfold maxLen; omega) (by omega) ?_
               intro v3 w3 hown3 hgrow3
               have hb3 : Below wr.heap.size wr w3 := ((HBK.out.drew.alloc HBK.out.size _).grown hgrow3 (by have := HBK.out.size; simp; omega) (fun q hq => by cases hq))
               obtain ⟨⟨z0, _⟩, z1, _⟩ := box2 ((hgrow3.block _ (by have := heap_lt HBX.out; simp; omega) (by simp)).trans (heap_alloc_old (w := V.drew) HBX.out))
               have HP3 := Lib.hid (PlaceAt.of (l := at_ ++ [(k : Int) + 1]) (ownsRow_low hown3 (show m₀ ≤ _ by have := HBK.out.size; have := HKK.out.1.size; simp; omega)) (by simp) (by simp) (by simp))
               have HB3 := Lib.hid hb3
               clear hown3 hgrow3 hb3)
            | ((try go_simp); go_at_call 68; refine (clip66s m₀ at_ aoP cpP _ (by first | exact hpV.out | exact hpV.out.kept ((Below.refl V.drew.heap.size V.drew).alloc (Nat.le_refl _) _))).mono ?_; rintro e wq ⟨rfl, rfl⟩)
            | (go_simp; go_at_call 55
               refine (IH.out k hlt (HKM0.out k hlt) ko ksp (at_ ++ [(k : Int) + 1]) _ (pre ++ ys) _ HC3.out (HW0.out.trans (HKK.out.1.trans (HB3.out.mono (by have := HKK.out.1.size; have := HW0.out.size; omega)))) (by have := HB3.out.size; have := HKK.out.1.size; omega) HP3.out (by have := HKD.out; have := HTD.out; simp; omega) (abides_below HJ.out HJK.out HB3.out) (by have h := HLEN.out; have := HKS.out; have := HKL.out; have := HTS.out; rw [h]; omega)).mono ?_
               intro e wq hq
               obtain ⟨bb, rfl, hq'⟩ := hq.asBool
               clear hq))
          all_goals
            have HPT := Lib.hid (prePL_take at_ hlt)
            rcases hq' with ⟨rfl, ⟨zs, hzs, hjz⟩, hkq⟩ | ⟨rfl, q, hqp, hxq⟩
            · have HZ := Lib.hid hzs; have HJZ := Lib.hid hjz; have HKQ := Lib.hid hkq
              clear hzs hjz hkq
              go_wp2_with fail
              go_roundw
              case rel => exact ⟨k + 1, ys ++ zs, by omega, by go_num, by rw [List.map_append, HYS.out, HZ.out, HPT.out]; rfl, by rw [← List.append_assoc]; exact HJZ.out, (HKK.out.trans (KpN.of HB3.out (by have := HKK.out.1.size; have := HW0.out.size; omega))).trans HKQ.out⟩
              case measure => simp [intOf] <;> omega
            · have HXQ := Lib.hid hxq; have HQP := Lib.hid hqp
              clear hxq hqp
              have HFIN := Lib.hid (show WalkPost w0.heap.size m₀ J Jx pre (t.preP at_) W (.returned (.bool false)) wq from .inr ⟨rfl, ys ++ q, by
                rw [List.map_append, HYS.out, T.preP_eq, List.cons_append]
                refine List.prefix_cons_inj _ |>.2 (List.IsPrefix.trans ?_ (prePL_take_prefix at_ t.kids (k + 1)))
                rw [HPT.out]
                exact List.prefix_append_right_inj _ |>.2 HQP.out, by rw [← List.append_assoc]; exact HXQ.out⟩)
              go_wp2_with fail
              go_ret
              exact HFIN.out
        · obtain rfl : k = t.kids.length := by omega
          have HFIN := Lib.hid (show WalkPost w0.heap.size m₀ J Jx pre (t.preP at_) W (.returned (.bool true)) wr from .inl ⟨rfl, ⟨ys, by rw [HYS.out, List.take_length, ← T.preP_eq], HJK.out⟩, HKK.out⟩)
          go_wp2_with fail
          go_ret
          exact HFIN.out
    · have HX2 := Lib.hid hx2
      clear hx2
      go_wp2_with fail
      go_ret
      refine .inr ⟨rfl, [⟨u, ao, sp, t, at_, HT.out, HMT.out⟩], ⟨prePL at_ 1 t.kids, by rw [T.preP_eq]; rfl⟩, HX2.out⟩
end Go.Proofs.YtidgnbdlfngeaaaGreatDoor
namespace Go.Proofs.YtidgnbdlfngeaaaGreatDoor
open Go.RowKit Go.Shelf
set_option linter.unusedVariables false
set_option maxHeartbeats 400000
attribute [local go_sem] Oper.semAt_some

theorem room_of_wide (k : Nat) : Fence.wide.room k := room_wide k
theorem RoundIn.anyDepth' {m m' : Nat} {P : Program} {l : Nat} {f : FuncId} {tmps : Array Value} {assign body : Code} {w : World} {R : Ending → World → Prop}
    (h : RoundIn Fence.wide m P l f tmps assign body w R) : RoundIn Fence.wide m' P l f tmps assign body w R := ⟨h.1, fun c cs _ => h.2 c cs (room_of_wide _)⟩
theorem YieldAt.anyDepth' {m : Nat} (m' : Nat) {P : Program} {l : Nat} {args : Array Value} {W : World} {R : Ending → World → Prop} (h : YieldAt Fence.wide m P l args W R) : YieldAt Fence.wide m' P l args W R := by
  obtain ⟨fn, tmps, assign, body, hy, hR⟩ := h
  exact ⟨fn, tmps, assign, body, hy, RoundIn.anyDepth' hR⟩

theorem nodes48 (v : Value) (t : T) (w : World) (h : TreeAt w v t) :
    Calls Tryz.prog 40 #[v] w fun e w' => e = .returned (.func (.func 54) #[] #[.pointer (some ⟨w.heap.size, 0, none⟩)]) ∧ w' = w.alloc (.cells v.cells 45) := by
  obtain ⟨k, sp, rfl⟩ := h.form
  clear h
  go_enter Tryz.func40, Tryz.ntmps40
  go_wp2_with fail
  go_ret
  exact ⟨rfl, rfl⟩

/-- the premise on the rounds that uses the position -/
def SeqStopsP (w0 : World) (t0 : T) (m₀ : Nat) (lb : Array Value) (t : T) (w : World) : Prop :=
  ∀ (l : Nat) (J Jx : List (NX w0 t0) → World → Prop) (W : World), Below w.heap.size w W → AbidesFrom W.heap.size J → AbidesFrom W.heap.size Jx →
    (∀ pre x W1, J pre W1 → pre.length < t.size → PlaceAt m₀ W1 x.pl x.at_ → YieldAt Fence.wide 2 Tryz.prog l x.encs W1 fun e W' =>
      (e = .returned (.bool true) ∧ J (pre ++ [x]) W' ∧ KpN w0.heap.size m₀ W1 W') ∨ (e = .returned (.bool false) ∧ Jx (pre ++ [x]) W')) →
    J [] W →
    CallsIn Fence.wide 3 Tryz.prog 54 (#[.func (.yield l) #[] #[]] ++ lb) W fun e W' => (∃ v, e = .returned v) ∧ ((∃ xs, xs.map NX.pt = t.preP [] ∧ J xs W') ∨ (∃ pre, pre.map NX.pt <+: t.preP [] ∧ Jx pre W'))

theorem nodes_stopsP (w0 : World) (m₀ Bt : Nat) (t : T) (ao : Option Addr) (sp : Nat) (w : World) (hs : t.size ≤ 90000000) (hd : t.deep ≤ 100000) (hm : w0.heap.size ≤ m₀) (hw0 : Below w0.heap.size w0 w) (hmw : m₀ ≤ w.heap.size)
    (ht : TreeAt w0 (.agg #[.int .i64 t.head, .slice ao t.kids.length (t.kids.length + sp)]) t) (hb : w.heap[Bt]? = some (.cells #[.int .i64 t.head, .slice ao t.kids.length (t.kids.length + sp)] 45 (0, 0))) :
    SeqStopsP w0 t m₀ #[.pointer (some ⟨Bt, 0, none⟩)] t w := by
  intro l J Jx W hW hJ hJx hY h0
  have hwalk := walk59 w0 t m₀ l t.size W.heap.size hs J Jx hJ hm (fun m pre x W1 hj hl hp => YieldAt.anyDepth' m (hY pre x W1 hj hl hp)) t (fun _ h => h) ao sp [] (.slice none 0 0) [] W ht (hw0.trans (hW.mono hw0.size)) (Nat.le_trans hmw hW.size) (PlaceAt.nil _ _) (by simpa using hd) h0 (by simp)
  have HWK := Lib.hid hwalk
  obtain ⟨⟨x0, _⟩, x1, _⟩ := box2 (Below.heapAt hW hb)
  clear hwalk hY h0
  refine callsIn_wide.2 ?_
  go_enter Tryz.func54, Tryz.ntmps54
  go_wp2_with fail
  refine HWK.out.mono ?_
  intro e W2 h
  obtain ⟨bb, rfl, h2⟩ := h.asBool
  have H2 := Lib.hid h2
  clear h h2
  go_wp2_with fail
  go_end0
  refine ⟨⟨_, rfl⟩, ?_⟩
  rcases H2.out with ⟨rfl, ⟨ys, h1, h2⟩, h3⟩ | ⟨rfl, q, h1, h2⟩
  · exact .inl ⟨ys, h1, by simpa using h2⟩
  · exact .inr ⟨q, h1, by simpa using h2⟩
theorem nodes_stops (w0 : World) (m₀ Bt : Nat) (t : T) (ao : Option Addr) (sp : Nat) (w : World) (hs : t.size ≤ 90000000) (hd : t.deep ≤ 100000) (hm : w0.heap.size ≤ m₀) (hw0 : Below w0.heap.size w0 w) (hmw : m₀ ≤ w.heap.size)
    (ht : TreeAt w0 (.agg #[.int .i64 t.head, .slice ao t.kids.length (t.kids.length + sp)]) t) (hb : w.heap[Bt]? = some (.cells #[.int .i64 t.head, .slice ao t.kids.length (t.kids.length + sp)] 45 (0, 0))) :
    SeqStopsK Fence.wide 3 Tryz.prog 54 #[.pointer (some ⟨Bt, 0, none⟩)] NX.encs (KpN w0.heap.size m₀) (fun xs : List (NX w0 t) => xs.map NX.pt = t.preP []) (fun xs => xs.map NX.pt <+: t.preP []) t.size w :=
  fun l J Jx W hW hJ hJx hY h0 => nodes_stopsP w0 m₀ Bt t ao sp w hs hd hm hw0 hmw ht hb l J Jx W hW hJ hJx (fun pre x W1 hj hl _ => hY pre x W1 hj hl) h0

theorem own_block {β : Type} (b : Nat) (o : β → Obj) (hc : ∀ s, (o s).isCells = true) : Own (fun s W => W.heap[b]? = some (o s)) := fun s A B row hs hg hr =>
  (hg.block b (Array.getElem?_eq_some_iff.1 hs).1 (fun e => by obtain ⟨o', ho', hc'⟩ := hr b e.symm; rw [show A.heap[b]? = _ from hs] at ho'; cases ho'; rw [hc] at hc'; cases hc')).trans hs
theorem map_pt_snd {w0 : World} {t0 : T} {xs : List (NX w0 t0)} {t : T} (h : xs.map NX.pt = t.preP []) : xs.map (·.t) = t.pre := by
  rw [← preP_snd t [], ← h, List.map_map]; rfl
theorem map_pt_snd_prefix {w0 : World} {t0 : T} {xs : List (NX w0 t0)} {t : T} (h : xs.map NX.pt <+: t.preP []) : xs.map (·.t) <+: t.pre := by
  rw [← preP_snd t []]
  have : xs.map (·.t) = (xs.map NX.pt).map (·.2) := by rw [List.map_map]; rfl
  rw [this]; exact List.IsPrefix.map _ h
end Go.Proofs.YtidgnbdlfngeaaaGreatDoor
namespace Go.Proofs.YtidgnbdlfngeaaaGreatDoor
open Go.RowKit Go.Shelf
set_option linter.unusedVariables false
set_option maxHeartbeats 400000
attribute [local go_sem] Oper.semAt_some

theorem KeepsFrom.alloc' (B : Nat) (W : World) (o : Obj) : KeepsFrom B W (W.alloc o) := (KeepsOthers.alloc W o).from B
theorem KpN.setCell {n₀ m₀ : Nat} (W : World) {a : Addr} (h : n₀ ≤ a.block) (h2 : a.block < m₀) (u : Value) : KpN n₀ m₀ W (W.setCell a u) :=
  ⟨(Below.refl n₀ W).setCell h u, fun b cur ty fz hb _ _ => Below.heap_setCell W a u b (by omega)⟩
theorem scan_prefix {p l : List T} (h : p <+: l) (a : Int) (hp : (scan p a).1 ≠ 0) : scan l a = scan p a := by
  obtain ⟨r, rfl⟩ := h
  rcases scan_cases p with h1 | ⟨q, x, s, rfl, h1, h2⟩
  · rw [scan_ok h1] at hp; exact absurd rfl hp
  · rw [List.append_assoc, List.cons_append, scan_bad h1 h2, scan_bad h1 h2]
theorem scan_snoc_bad {w : World} {t0 : T} {pre : List (NX w t0)} {x : NX w t0} (h : ∀ y ∈ pre, okN y.t) (hx : ¬ okN x.t) : scan ((pre ++ [x]).map (·.t)) 0 = if badHead x.t.head then (3, (pre.length : Int)) else (9, (pre.length : Int)) := by
  rw [List.map_append, List.map_cons, List.map_nil, scan_bad (by simpa using h) hx]
  simp

theorem okN_snoc {w : World} {t0 : T} {pre : List (NX w t0)} {x : NX w t0} (h : ∀ y ∈ pre, okN y.t) (hx : okN x.t) : ∀ y ∈ pre ++ [x], okN y.t := fun y hy => by
  rcases List.mem_append.1 hy with h1 | h1
  · exact h y h1
  · simp at h1; rw [h1]; exact hx
theorem putObj_other {W : World} {b D : Nat} {cs : Array Value} {ty : TypeId} {fz : Nat × Nat} {o' : Obj} (h : W.heap[b]? = some (.cells cs ty fz)) (hD : W.heap[D]? = some (.deferred (some []))) : (W.putObj D o').heap[b]? = W.heap[b]? :=
  World.putObj_heap_other (fun e => by subst e; rw [h] at hD; cases hD)
theorem retM_box2 {n : Nat} {P : Program} {fn : Func} {R : Ending → World → Prop} {tmps : Array Value} {ds : List Deferred} {D : Nat} {w : World} (x y : Value) (b : Nat) (T : TypeId) (hb : w.heap[b]? = some (.cells #[x, y] T (0, 0)))
    (hk : w.heap[D]? = some (.deferred (some [])))
    (hres : ∀ w' : World, w'.cell? ⟨b, 0, none⟩ = some x → w'.cell? ⟨b, 1, none⟩ = some y → (results fn tmps).run P w' = .ok (.agg #[x, y]) w') (hd : ds = [])
    (hR : R (.returned (.agg #[x, y])) (w.putObj D (.deferred none))) : bodyPostM Fence.wide n P fn R .ret { tmps := tmps, defers := { target := .collected D, args := #[] } :: ds } w := by
  subst hd
  refine ⟨by simp, .inl ⟨_, _, rfl, run_takeDeferred hk, ?_⟩⟩
  obtain ⟨⟨z0, z1⟩, z2, z3⟩ := box2 ((putObj_other (o' := .deferred none) hb hk).trans hb)
  exact ⟨_, hres _ z0 z2, hR⟩
theorem undef_bool {b : Bool} (h : some undef = some (Value.bool b)) : False := by simp [undef] at h
theorem box1_set' {w : World} {b : Nat} {x : Value} {T : TypeId} (h : w.heap[b]? = some (.cells #[x] T (0, 0))) {v : Value} (u : Value) (e : v = u) : (w.setCell ⟨b, 0, none⟩ v).heap[b]? = some (.cells #[u] T (0, 0)) := by
  subst e; simp [World.setCell, Array.getElem?_modify, h]

set_option maxRecDepth 100000 in
set_option maxHeartbeats 4000000 in
theorem check29 (t : T) (v : Value) (w : World) (ht : TreeAt w v t) :
    Calls Tryz.prog 39 #[v] w fun e w' => e = .returned (FV (treeF t)) ∧ Below w.heap.size w w' := by
  obtain ⟨k, sp, rfl⟩ := ht.form
  have HT := Lib.hid ht; clear ht
  have hbx := heap_alloc_old (o' := .cells #[.int .i64 0, .int .i64 0] 28) (heap_ofAlloc w (.cells #[.int .i64 t.head, .slice k t.kids.length (t.kids.length + sp)] 45))
  have hby := heap_ofAlloc (w.alloc (.cells #[.int .i64 t.head, .slice k t.kids.length (t.kids.length + sp)] 45)) (.cells #[.int .i64 0, .int .i64 0] 28)
  rw [World.size_alloc] at hby
  have hb0 := ((Below.refl w.heap.size w).alloc (Nat.le_refl _) (.cells #[.int .i64 t.head, .slice k t.kids.length (t.kids.length + sp)] 45)).alloc (by simp) (.cells #[.int .i64 0, .int .i64 0] 28)
  have HS := Lib.hid (fun W h => size52 t 40 (.agg #[.int .i64 t.head, .slice k t.kids.length (t.kids.length + sp)]) W (by omega) (by omega) h)
  have HD := Lib.hid (fun W h => deep53 t 12 (.agg #[.int .i64 t.head, .slice k t.kids.length (t.kids.length + sp)]) W (by omega) (by omega) h)
  by_cases h40 : 40 < t.size
  · have HF := Lib.hid (show treeF t = (2, 0) by rw [treeF, if_pos h40])
    have hmin : min (t.size : Int) (40 + 1) = 41 := by omega
    rw [hmin] at HS
    clear hmin h40
    go_enter Tryz.func39, Tryz.ntmps39
    go_wp2_with fail
    refine (HS.out _ (HT.out.kept hb0)).mono ?_
    rintro e w1 ⟨rfl, hb1⟩
    have hy1 := Below.heapAt hb1 hby
    have hyl := heap_lt hy1
    obtain ⟨⟨y0, y1⟩, y2, y3⟩ := box2 hy1
    have hb01 := Below.step hb0 hb1
    clear hbx hby hb0 hb1
    go_wp2_with fail
    refine ret_box2 (.int .i64 2) (.int .i64 0) (w.heap.size + 1) 28 (box2_set hy1 _ _) (fun w' q0 q1 => by simp [results, Tryz.results39, go_sem, q0, q1]) rfl ?_
    exact ⟨by rw [HF.out]; rfl, (hb01.setCell (p := ⟨w.heap.size + 1, 0, none⟩) (by simp) _).setCell (p := ⟨w.heap.size + 1, 1, none⟩) (by simp) _⟩
  · have hsz : t.size ≤ 40 := by omega
    have hmin : min (t.size : Int) (40 + 1) = t.size := by omega
    rw [hmin] at HS
    clear hmin
    have hts : (t.size : Int) ≤ 40 := by omega
    by_cases h12 : 12 < t.deep
    · have HF := Lib.hid (show treeF t = (10, 0) by rw [treeF, if_neg h40, if_pos h12])
      have hdd : decide ((t.deep : Int) ≤ 12) = false := by simp; omega
      rw [hdd] at HD
      clear hdd h12 h40
      go_enter Tryz.func39, Tryz.ntmps39
      go_wp2_with fail
      refine (HS.out _ (HT.out.kept hb0)).mono ?_
      rintro e w1 ⟨rfl, hb1⟩
      have hx1 := Below.heapAt hb1 hbx
      have hy1 := Below.heapAt hb1 hby
      have hb01 := Below.step hb0 hb1
      obtain ⟨⟨x0, _⟩, x1, _⟩ := box2 hx1
      clear hbx hby hb0 hb1
      go_wp2_with fail
      refine (HD.out _ (HT.out.kept hb01)).mono ?_
      rintro e w2 ⟨rfl, hb2⟩
      have hy2 := Below.heapAt hb2 hy1
      have hb02 := Below.step hb01 hb2
      have hyl := heap_lt hy2
      obtain ⟨⟨y0, y1⟩, y2, y3⟩ := box2 hy2
      clear hx1 hy1 hb01 hb2 x0 x1
      go_wp2_with fail
      refine ret_box2 (.int .i64 10) (.int .i64 0) (w.heap.size + 1) 28 (box2_set hy2 _ _) (fun w' q0 q1 => by simp [results, Tryz.results39, go_sem, q0, q1]) rfl ?_
      exact ⟨by rw [HF.out]; rfl, (hb02.setCell (p := ⟨w.heap.size + 1, 0, none⟩) (by simp) _).setCell (p := ⟨w.heap.size + 1, 1, none⟩) (by simp) _⟩
    · have HF := Lib.hid (show treeF t = scan t.pre 0 by rw [treeF_pre, if_neg h40, if_neg h12])
      have hdd : decide ((t.deep : Int) ≤ 12) = true := by simp; omega
      have hd40 : decide ((40 : Int) < t.size) = false := by simp; omega
      rw [hdd] at HD
      have hdp : t.deep ≤ 100000 := by omega
      clear hdd h12 h40
      refine (callsIn_wide (n := 4)).1 ?_
      refine callsIn_of_wp_marks Tryz.func39 rfl trivial ?_ rfl
      simp only [Tryz.ntmps39, List.size_toArray, List.length_cons, List.length_nil, Nat.reduceAdd, Nat.reduceSub, Array.replicate_succ, Array.replicate_zero, List.push_toArray, List.append_toArray, List.nil_append, List.cons_append]
      refine wpIn_wide.2 ?_
      go_wp2_with fail
      refine (HS.out _ (HT.out.kept hb0)).mono ?_
      rintro e w1 ⟨rfl, hb1⟩
      have hx1 := Below.heapAt hb1 hbx
      have hy1 := Below.heapAt hb1 hby
      have hb01 := Below.step hb0 hb1
      obtain ⟨⟨x0, _⟩, x1, _⟩ := box2 hx1
      clear hbx hby hb0 hb1
      go_wp2_with fail
      refine (HD.out _ (HT.out.kept hb01)).mono ?_
      rintro e w2 ⟨rfl, hb2⟩
      have hx2 := Below.heapAt hb2 hx1
      have hy2 := Below.heapAt hb2 hy1
      have hb02 := Below.step hb01 hb2
      clear hx1 hy1 hb01 hb2 x0 x1
      obtain ⟨⟨x0, _⟩, x1, _⟩ := box2 hx2
      have hxl := heap_lt hx2
      have hyl2 := heap_lt hy2
      go_wp2_with fail
      have hy3 := heap_alloc_old (o' := .cells #[.int .i64 0] 3) hy2
      have hn3 := heap_ofAlloc w2 (.cells #[.int .i64 0] 3)
      have hs2 := hb02.size
      have hb03 := hb02.alloc hs2 (.cells #[.int .i64 0] 3)
      have hlw : (w2.alloc (.cells #[.int .i64 0] 3)).heap.size = w2.heap.size + 1 := by simp
      generalize w2.alloc (.cells #[.int .i64 0] 3) = w3 at hy3 hn3 hb03 hlw ⊢
      refine (nodes48 (.agg #[.int .i64 t.head, .slice k t.kids.length (t.kids.length + sp)]) t w3 (HT.out.kept hb03)).mono ?_
      rintro e w4 ⟨rfl, hw4⟩
      have hy4 := heap_alloc_old (o' := .cells #[.int .i64 t.head, .slice k t.kids.length (t.kids.length + sp)] 45) hy3
      have hn4 := heap_alloc_old (o' := .cells #[.int .i64 t.head, .slice k t.kids.length (t.kids.length + sp)] 45) hn3
      have hk4 := heap_ofAlloc w3 (.cells #[.int .i64 t.head, .slice k t.kids.length (t.kids.length + sp)] 45)
      have hb04 := hb03.alloc hb03.size (.cells #[.int .i64 t.head, .slice k t.kids.length (t.kids.length + sp)] 45)
      rw [show w4 = w3.alloc (.cells #[.int .i64 t.head, .slice k t.kids.length (t.kids.length + sp)] 45) from hw4]
      have hl4 : (w3.alloc (.cells #[.int .i64 t.head, .slice k t.kids.length (t.kids.length + sp)] 45)).heap.size = w3.heap.size + 1 := by simp
      clear hw4 w4 hy3 hn3 hb03
      generalize w3.alloc (.cells #[.int .i64 t.head, .slice k t.kids.length (t.kids.length + sp)] 45) = w4 at hy4 hn4 hk4 hb04 hl4 ⊢
      obtain ⟨bn, hbn⟩ : ∃ b, b = w2.heap.size := ⟨_, rfl⟩
      obtain ⟨bk, hbk⟩ : ∃ b, b = w3.heap.size := ⟨_, rfl⟩
      obtain ⟨br, hbr⟩ : ∃ b, b = w.heap.size + 1 := ⟨_, rfl⟩
      rw [← hbn] at hn4 ⊢; rw [← hbk] at hk4 ⊢; rw [← hbr] at hy4 ⊢
      have h1 : w.heap.size ≤ br := by omega
      have h2 : w.heap.size ≤ bn := by omega
      have h3 : br < bn := by omega
      have h4 : w3.heap.size ≤ w4.heap.size := by omega
      have h5 : w.heap.size ≤ w3.heap.size := by omega
      have h6 : bn < w3.heap.size := by omega
      clear hlw hl4 hbn hbk hbr hx2 hy2 hb02 x0 x1 hxl hs2 hyl2
      go_wp2_with fail
      refine (wpIn_wide (n := 4)).1 ?_
      refine wpIn_rangeFunc_ownH rfl (by omega) (gf := 54) (lb := #[.pointer (some ⟨bk, 0, none⟩)]) rfl trivial (enters_of Tryz.func54 (by kernel_rfl) rfl)
        (nodes_stops w w3.heap.size bk t k sp w4 (by omega) hdp h5 hb04 h4 HT.out hk4) (fun h k => KpN.trans h k) (KpN.putObj hb04.size) (Below.refl _ _) (fun _ => rfl)
        (fun pre W => ((W.heap[bn]? = some (.cells #[.int .i64 (pre.length : Int)] 3 (0, 0)) ∧ W.heap[br]? = some (.cells #[.int .i64 0, .int .i64 0] 28 (0, 0))) ∧ (∀ x ∈ pre, okN x.t)) ∧ Below w.heap.size w W)
        (fun c pre W => ((c = .ret ∧ (scan (pre.map (·.t)) 0).1 ≠ 0) ∧ W.heap[br]? = some (.cells #[.int .i64 (scan (pre.map (·.t)) 0).1, .int .i64 (scan (pre.map (·.t)) 0).2] 28 (0, 0))) ∧ Below w.heap.size w W)
        (OwnFrom.and (OwnFrom.and (OwnFrom.and (Own.from (own_block _ _ (fun _ => rfl)) _) (Own.from (own_block br (fun _ => _) (fun _ => rfl)) _)) (ownFrom_pure _ _)) (ownFrom_below (Nat.le_refl _) hb04.size))
        (fun c => OwnFrom.and (OwnFrom.and (ownFrom_pure _ (fun pre : List (NX w t) => c = .ret ∧ (scan (pre.map (·.t)) 0).1 ≠ 0)) (Own.from (own_block _ _ (fun _ => rfl)) _)) (ownFrom_below (Nat.le_refl _) hb04.size))
        ⟨⟨⟨hn4, hy4⟩, fun x hx => by cases hx⟩, hb04⟩
        (fun x a' W => ∃ Bx : Nat, W.heap[Bx]? = some (.cells #[.int .i64 x.t.head, .slice x.ao x.t.kids.length (x.t.kids.length + x.sp)] 45 (0, 0)) ∧ a' = { tmps := #[.agg #[Value.int IntKind.i64 t.head, Value.slice k t.kids.length (t.kids.length + sp)], .pointer (some ⟨w.heap.size, 0, none⟩), .pointer (some ⟨br, 0, none⟩), .pointer (some ⟨bn, 0, none⟩), undef, .pointer (some ⟨Bx, 0, none⟩), .bool false, .agg #[Value.int IntKind.i64 t.head, Value.slice k t.kids.length (t.kids.length + sp)], .int IntKind.i64 (t.size : Int), .bool false, undef, .bool false, .agg #[Value.int IntKind.i64 t.head, Value.slice k t.kids.length (t.kids.length + sp)], .bool true, .bool false, undef, .agg #[Value.int IntKind.i64 t.head, Value.slice k t.kids.length (t.kids.length + sp)], .func (Fn.func 54) #[] #[Value.pointer (some ⟨bk, 0, none⟩)], x.pl, .agg #[.int .i64 x.t.head, .slice x.ao x.t.kids.length (x.t.kids.length + x.sp)], undef, undef, undef, undef, undef, undef, undef, undef, undef, undef, undef, undef, undef, undef, undef, undef, undef, undef, undef, undef, undef, undef, undef, undef, undef, undef, undef, undef, undef, undef, undef, undef, undef, undef, undef, undef, undef], defers := [] })
        (fun x a' _ X Y row hs hg hr => by obtain ⟨Bx, q2, q3⟩ := hs; exact ⟨Bx, own_block Bx (fun _ : Unit => _) (fun _ => rfl) () X Y row q2 hg (fun r e => (hr r e).2), q3⟩)
        ?assign ?body ?done ?stop
      case assign =>
        rintro l pre x W K ⟨⟨⟨i1, i2⟩, i3⟩, i4⟩ hK
        have HK := Lib.hid hK; have I1 := Lib.hid i1; have I2 := Lib.hid i2; have I3 := Lib.hid i3
        simp only [NX.encs]
        clear hK i1 i2 i3
        gi_wp2
        exact HK.out _ _ (KeepsFrom.alloc' _ _ _) (KpN.of ((Below.refl _ W).alloc (Nat.le_refl _) _) i4.size) ⟨⟨⟨heap_alloc_old I1.out, heap_alloc_old I2.out⟩, I3.out⟩, i4.alloc i4.size _⟩ ⟨W.heap.size, heap_ofAlloc W _, rfl⟩
      case body =>
        rintro l pre x a' W hl ⟨r, hr⟩ ⟨⟨⟨i1, i2⟩, i3⟩, i4⟩ ⟨Bx, hbx, rfl⟩ hlt
        clear hr r
        have I3 := Lib.hid i3; have I4 := Lib.hid i4; have I1 := Lib.hid i1; have I2 := Lib.hid i2
        obtain ⟨xpl, xao, xsp, xt, xat, xht, xm⟩ := x
        have hpl : (pre.length : Int) < 40 := by omega
        have hkl : ((xt.kids.length : Nat) : Int) ≤ 9223372036854775807 := by have := xht.open; obtain ⟨_, _, e, _, hm⟩ := this; unfold maxLen at hm; omega
        obtain ⟨⟨x0, _⟩, x1, _⟩ := box2 hbx
        obtain ⟨⟨y0, y1⟩, y2, y3⟩ := box2 i2
        obtain ⟨n0, n1⟩ := box1 i1
        have hly := heap_lt i2
        have hln := heap_lt i1
        clear i1 i2 i3 i4 hbx
        dsimp only at x0 x1 ⊢
        by_cases hA : xt.head = 0
        · have hz : (xt.head == 0) = true := by simpa using hA
          have HSC := Lib.hid (show scan ((pre ++ [(⟨xpl, xao, xsp, xt, xat, xht, xm⟩ : NX w t)]).map (·.t)) 0 = (3, (pre.length : Int)) by rw [scan_snoc_bad I3.out (fun h => h.1 (by unfold badHead; dsimp only; omega))]; rw [if_pos (by unfold badHead; dsimp only; omega)])
          clear hA
          gi_wp2
          exact ⟨((KeepsOthers.setCell _ _ _).trans (KeepsOthers.setCell _ _ _)).from _, ⟨⟨rfl, by rw [HSC.out]; simp⟩, by rw [HSC.out]; exact box2_set I2.out _ _⟩, (I4.out.setCell (p := ⟨br, 0, none⟩) h1 _).setCell (p := ⟨br, 1, none⟩) h1 _⟩
        · have hz : (xt.head == 0) = false := by simpa using hA
          by_cases hB : xt.head < -8
          · have HSC := Lib.hid (show scan ((pre ++ [(⟨xpl, xao, xsp, xt, xat, xht, xm⟩ : NX w t)]).map (·.t)) 0 = (3, (pre.length : Int)) by rw [scan_snoc_bad I3.out (fun h => h.1 (by unfold badHead; dsimp only; omega))]; rw [if_pos (by unfold badHead; dsimp only; omega)])
            clear hA
            gi_wp2
            exact ⟨((KeepsOthers.setCell _ _ _).trans (KeepsOthers.setCell _ _ _)).from _, ⟨⟨rfl, by rw [HSC.out]; simp⟩, by rw [HSC.out]; exact box2_set I2.out _ _⟩, (I4.out.setCell (p := ⟨br, 0, none⟩) h1 _).setCell (p := ⟨br, 1, none⟩) h1 _⟩
          · by_cases hC : 12 < xt.head
            · have HSC := Lib.hid (show scan ((pre ++ [(⟨xpl, xao, xsp, xt, xat, xht, xm⟩ : NX w t)]).map (·.t)) 0 = (3, (pre.length : Int)) by rw [scan_snoc_bad I3.out (fun h => h.1 (by unfold badHead; dsimp only; omega))]; rw [if_pos (by unfold badHead; dsimp only; omega)])
              clear hA
              gi_wp2
              exact ⟨((KeepsOthers.setCell _ _ _).trans (KeepsOthers.setCell _ _ _)).from _, ⟨⟨rfl, by rw [HSC.out]; simp⟩, by rw [HSC.out]; exact box2_set I2.out _ _⟩, (I4.out.setCell (p := ⟨br, 0, none⟩) h1 _).setCell (p := ⟨br, 1, none⟩) h1 _⟩
            · by_cases hD : (3 : Int) < xt.kids.length
              · have HSC := Lib.hid (show scan ((pre ++ [(⟨xpl, xao, xsp, xt, xat, xht, xm⟩ : NX w t)]).map (·.t)) 0 = (9, (pre.length : Int)) by rw [scan_snoc_bad I3.out (fun h => h.2 (by unfold badKids; dsimp only; omega))]; rw [if_neg (by unfold badHead; dsimp only; omega)])
                clear hA
                gi_wp2
                all_goals first | (exfalso; exact undef_bool (by assumption)) | exact ⟨((KeepsOthers.setCell _ _ _).trans (KeepsOthers.setCell _ _ _)).from _, ⟨⟨rfl, by rw [HSC.out]; simp⟩, by rw [HSC.out]; exact box2_set I2.out _ _⟩, (I4.out.setCell (p := ⟨br, 0, none⟩) h1 _).setCell (p := ⟨br, 1, none⟩) h1 _⟩
              · by_cases hE : xt.head < 0
                · by_cases hG : (0 : Int) < xt.kids.length
                  · have HSC := Lib.hid (show scan ((pre ++ [(⟨xpl, xao, xsp, xt, xat, xht, xm⟩ : NX w t)]).map (·.t)) 0 = (9, (pre.length : Int)) by rw [scan_snoc_bad I3.out (fun h => h.2 (by unfold badKids; dsimp only; omega))]; rw [if_neg (by unfold badHead; dsimp only; omega)])
                    clear hA
                    gi_wp2
                    exact ⟨((KeepsOthers.setCell _ _ _).trans (KeepsOthers.setCell _ _ _)).from _, ⟨⟨rfl, by rw [HSC.out]; simp⟩, by rw [HSC.out]; exact box2_set I2.out _ _⟩, (I4.out.setCell (p := ⟨br, 0, none⟩) h1 _).setCell (p := ⟨br, 1, none⟩) h1 _⟩
                  · have HOK := Lib.hid (show ∀ y ∈ pre ++ [(⟨xpl, xao, xsp, xt, xat, xht, xm⟩ : NX w t)], okN y.t from okN_snoc I3.out ⟨by unfold badHead; dsimp only; omega, by unfold badKids; dsimp only; omega⟩)
                    clear hA
                    gi_wp2
                    exact ⟨(KeepsOthers.setCell _ _ _).from _, KpN.setCell _ h2 h6 _, ⟨⟨box1_set' I1.out _ (by simp), (heap_set_other I2.out (by simp; omega))⟩, HOK.out⟩, I4.out.setCell (p := ⟨bn, 0, none⟩) h2 _⟩
                · have HOK := Lib.hid (show ∀ y ∈ pre ++ [(⟨xpl, xao, xsp, xt, xat, xht, xm⟩ : NX w t)], okN y.t from okN_snoc I3.out ⟨by unfold badHead; dsimp only; omega, by unfold badKids; dsimp only; omega⟩)
                  clear hA
                  gi_wp2
                  exact ⟨(KeepsOthers.setCell _ _ _).from _, KpN.setCell _ h2 h6 _, ⟨⟨box1_set' I1.out _ (by simp), (heap_set_other I2.out (by simp; omega))⟩, HOK.out⟩, I4.out.setCell (p := ⟨bn, 0, none⟩) h2 _⟩
      case done =>
        rintro D xs W hD hxs ⟨⟨⟨i1, i2⟩, i3⟩, i4⟩ hK
        have HF2 := Lib.hid (show treeF t = (0, 0) by rw [HF.out, scan_ok]; rw [← map_pt_snd hxs]; simpa using i3)
        have I2 := Lib.hid i2; have I4 := Lib.hid i4
        have HK := Lib.hid hK
        obtain ⟨⟨y0, y1⟩, y2, y3⟩ := box2 i2
        have hly := heap_lt i2
        clear i1 i2 i3 i4 hxs hK
        go_wp2_with fail
        have hk2 := ((KeepsOthers.setCell W ⟨br, 0, none⟩ (.int .i64 0)).trans (KeepsOthers.setCell _ ⟨br, 1, none⟩ (.int .i64 0))).same D _ HK.out rfl
        refine retM_box2 (.int .i64 0) (.int .i64 0) br 28 (box2_set I2.out _ _) hk2 (fun w' q0 q1 => by simp [results, Tryz.results39, go_sem, q0, q1]) rfl ?_
        exact ⟨by rw [HF2.out]; rfl, ((I4.out.setCell (p := ⟨br, 0, none⟩) h1 _).setCell (p := ⟨br, 1, none⟩) h1 _).trans (belowK_b (w := w) (Nat.le_refl _) _ D _ _ (by have := hb04.size; omega) hk2 rfl rfl)⟩
      case stop =>
        rintro D c pre W hD hpre ⟨⟨⟨rfl, i1⟩, i2⟩, i4⟩ hK
        have HF2 := Lib.hid (show treeF t = scan (pre.map (·.t)) 0 by rw [HF.out, scan_prefix (map_pt_snd_prefix hpre) 0 i1])
        have I2 := Lib.hid i2; have I4 := Lib.hid i4
        have HK := Lib.hid hK
        clear i1 i2 i4 hpre hK
        gi_wp2
        generalize scan (pre.map (·.t)) 0 = R at HF2 I2
        obtain ⟨rc, ra⟩ := R
        refine retM_box2 (.int .i64 rc) (.int .i64 ra) br 28 I2.out HK.out (fun w' q0 q1 => by simp [results, Tryz.results39, go_sem, q0, q1]) rfl ?_
        exact ⟨by rw [HF2.out]; rfl, I4.out.trans (belowK_b (w := w) (Nat.le_refl _) W D _ _ (by have := hb04.size; omega) HK.out rfl rfl)⟩
end Go.Proofs.YtidgnbdlfngeaaaGreatDoor
namespace Go.Proofs.YtidgnbdlfngeaaaGreatDoor
open Go.RowKit Go.Shelf
set_option linter.unusedVariables false
set_option maxHeartbeats 400000

theorem Elt.Row.tree {p : Nat → Prop} {w : World} {ao : Option Addr} {ts : List T} (h : treeE.Row p w ao ts) {i : Nat} (hi : i < ts.length) : ∃ b off k sp, ao = some ⟨b, off, none⟩ ∧ p b ∧
    w.cell? ⟨b, off + i * 2, none⟩ = some (.int .i64 ts[i].head) ∧ w.cell? ⟨b, off + i * 2 + 1, none⟩ = some (.slice k ts[i].kids.length (ts[i].kids.length + sp)) ∧
    TreeP p w (.agg #[.int .i64 ts[i].head, .slice k ts[i].kids.length (ts[i].kids.length + sp)]) ts[i] := by
  obtain ⟨b, off, cs, e, hp, hc, k, sp, rfl, h1⟩ := h i ts[i] (List.getElem?_eq_getElem hi)
  exact ⟨b, off, k, sp, e, hp, hc 0 _ rfl, hc 1 _ rfl, h1⟩
theorem St.trees {P : Program} {n : Nat} {a : Array Value} {w0 w : World} {l : List Fct} (S : St w0 w l) {p : Nat → Prop} {ts : List T} (h : Calls P n a w fun e w' => ∃ ro sp, e = .returned (.slice ro ts.length (ts.length + sp)) ∧ treeE.Row (fun b => p b ∨ w.heap.size ≤ b) w' ro ts ∧ Below w.heap.size w w') :
    Calls P n a w fun e w' => ∃ ro sp, e = .returned (.slice ro ts.length (ts.length + sp)) ∧ w.heap.size ≤ w'.heap.size ∧ St w0 w' (fsnoc l (.rowE treeE (fun b => p b ∨ w.heap.size ≤ b) ro ts)) :=
  h.mono fun e w' ⟨ro, sp, h1, h2, h3⟩ => ⟨ro, sp, h1, h3.size, (S.step h3).add (.rowE treeE _ ro ts) h2⟩
theorem St.faultF {P : Program} {n : Nat} {a : Array Value} {w0 w : World} {l : List Fct} (S : St w0 w l) {f : Int × Int} (h : Calls P n a w fun e w' => e = .returned (FV f) ∧ Below w.heap.size w w') :
    Calls P n a w fun e w' => ∃ c d, e = .returned (.agg #[.int .i64 c, .int .i64 d]) ∧ Hid (f = (c, d)) ∧ w.heap.size ≤ w'.heap.size ∧ St w0 w' l := S.fault h

end Go.Proofs.YtidgnbdlfngeaaaGreatDoor
namespace Go.Proofs.YtidgnbdlfngeaaaGreatDoor
open Go.RowKit Go.Shelf
set_option linter.unusedVariables false
set_option maxHeartbeats 400000

end Go.Proofs.YtidgnbdlfngeaaaGreatDoor
namespace Go.Proofs.YtidgnbdlfngeaaaGreatDoor
open Go.RowKit Go.Shelf
set_option linter.unusedVariables false

theorem TreeP.leaf (p : Nat → Prop) (w : World) (h : Int) : TreeP p w (.agg #[.int .i64 h, .slice none 0 0]) (.node h []) :=
  TreeP.close (sp := 0) (ks := []) (fun i hi => by simp at hi) (by simp)
end Go.Proofs.YtidgnbdlfngeaaaGreatDoor
