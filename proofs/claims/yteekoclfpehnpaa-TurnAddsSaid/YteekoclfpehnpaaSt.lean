/-
  The state of a walk as one fact: what lies in which blocks ('Fct': a footprint, what it says, that it hangs on the footprint's blocks alone), a list of such, and that nothing older has turned.
-/
import Derived.Test.YteekoclfpehnpaaBase
import Derived.Test.YteekoclfpehnpaaT8
import Derived.Test.YteekoclfpehnpaaT9
import Derived.Lib.QuietBelow
namespace Go.Proofs.Yteekoclfpehnpaa
open Go.RowKit Go.Shelf
set_option linter.unusedVariables false

structure Fct where
  foot : Nat → Prop
  holds : World → Prop
  stable : ∀ w w' : World, (∀ b, foot b → b < w.heap.size → w'.heap[b]? = w.heap[b]?) → holds w → holds w'

def Fct.none : Fct := ⟨fun _ => False, fun _ => True, fun _ _ _ _ => trivial⟩
/-- block b is these cells -/
def Fct.box (b : Nat) (cs : Array Value) (T : TypeId) : Fct :=
  ⟨fun c => c = b, fun w => w.heap[b]? = some (.cells cs T (0, 0)), fun w w' h hb => (h b rfl (Array.getElem?_eq_some_iff.1 hb).1).trans hb⟩
/-- a tree that lies in the blocks from lo on, below hi -/
def Fct.tree (lo hi : Nat) (v : Value) (t : T) : Fct :=
  ⟨fun b => lo ≤ b ∧ b < hi, fun w => TreeP (fun b => lo ≤ b ∧ b < hi) w v t, fun w w' h ht => ht.carry h⟩
/-- a tree with any footprint -/
def Fct.treeP (p : Nat → Prop) (v : Value) (t : T) : Fct :=
  ⟨p, fun w => TreeP p w v t, fun w w' h ht => ht.carry h⟩
def Fct.row (lo hi : Nat) (ao : Option Addr) (ks : List T) : Fct :=
  ⟨fun b => lo ≤ b ∧ b < hi, fun w => RowP (fun b => lo ≤ b ∧ b < hi) w ao ks, fun w w' h ht i hi => by
    obtain ⟨b, off, k, sp, e, hp, h1, h2, h3⟩ := ht i hi
    have hb := h b hp (block_lt_of_cell h1)
    exact ⟨b, off, k, sp, e, hp, by rw [World.cell?_of_block (w := w) hb]; exact h1, by rw [World.cell?_of_block (w := w) hb]; exact h2, h3.carry h⟩⟩
/-- integers that lie in the blocks from lo on, below hi -/
def IntsP (p : Nat → Prop) (w : World) (v : Value) (l : List Int) : Prop :=
  ∃ ao cap, v = .slice ao l.length cap ∧ ∀ j, j < l.length → ∃ b off, ao = some ⟨b, off, Option.none⟩ ∧ p b ∧ w.cell? ⟨b, off + j, Option.none⟩ = some (.int .i64 (gI l j))
theorem IntsP.at {p : Nat → Prop} {w : World} {v : Value} {l : List Int} (h : IntsP p w v l) : IntsAt w v l := by
  obtain ⟨ao, cap, e, hc⟩ := h
  exact ⟨ao, cap, e, fun j hj => by obtain ⟨b, off, e, _, h⟩ := hc j hj; exact ⟨b, off, e, h⟩⟩
theorem IntsAt.foot {w : World} {v : Value} {l : List Int} (h : IntsAt w v l) : IntsP (fun b => b < w.heap.size) w v l := by
  obtain ⟨ao, cap, e, hc⟩ := h
  exact ⟨ao, cap, e, fun j hj => by obtain ⟨b, off, e, h⟩ := hc j hj; exact ⟨b, off, e, block_lt_of_cell h, h⟩⟩
theorem IntsP.carry {p : Nat → Prop} {w w' : World} {v : Value} {l : List Int} (hk : ∀ b, p b → b < w.heap.size → w'.heap[b]? = w.heap[b]?) (h : IntsP p w v l) : IntsP p w' v l := by
  obtain ⟨ao, cap, e, hc⟩ := h
  exact ⟨ao, cap, e, fun j hj => by
    obtain ⟨b, off, e, hp, h⟩ := hc j hj
    exact ⟨b, off, e, hp, by rw [World.cell?_of_block (w := w) (hk b hp (block_lt_of_cell h))]; exact h⟩⟩
def Fct.ints (lo hi : Nat) (v : Value) (l : List Int) : Fct :=
  ⟨fun b => lo ≤ b ∧ b < hi, fun w => IntsP (fun b => lo ≤ b ∧ b < hi) w v l, fun w w' h ht => ht.carry h⟩

def Fct.at : List Fct → Nat → Fct
  | [], _ => Fct.none
  | f :: _, 0 => f
  | _ :: r, i + 1 => Fct.at r i
def fsnoc : List Fct → Fct → List Fct
  | [], f => [f]
  | g :: r, f => g :: fsnoc r f
def fset : List Fct → Nat → Fct → List Fct
  | [], _, _ => []
  | _ :: r, 0, f => f :: r
  | g :: r, i + 1, f => g :: fset r i f
/-- all facts but number i are off block b -/
def offAll (b : Nat) : List Fct → Prop
  | [] => True
  | f :: r => ¬ f.foot b ∧ offAll b r
def offs (b : Nat) : Nat → List Fct → Prop
  | _, [] => True
  | 0, _ :: r => offAll b r
  | i + 1, f :: r => ¬ f.foot b ∧ offs b i r
theorem offAll_at {b : Nat} : ∀ {l : List Fct}, offAll b l → ∀ i, ¬ (Fct.at l i).foot b
  | [], _, i => fun h => h
  | f :: r, h, 0 => h.1
  | f :: r, h, i + 1 => offAll_at (l := r) h.2 i
theorem offs_at {b : Nat} : ∀ {l : List Fct} {i : Nat}, offs b i l → ∀ j, j ≠ i → ¬ (Fct.at l j).foot b
  | [], _, _, j, _ => fun h => h
  | f :: r, 0, h, 0, hj => absurd rfl hj
  | f :: r, 0, h, j + 1, _ => offAll_at (l := r) h j
  | f :: r, i + 1, h, 0, _ => h.1
  | f :: r, i + 1, h, j + 1, hj => offs_at (l := r) h.2 j (fun e => hj (by rw [e]))
theorem at_fsnoc (f : Fct) (w : World) (hf : f.holds w) : ∀ (l : List Fct), (∀ i, (Fct.at l i).holds w) → ∀ i, (Fct.at (fsnoc l f) i).holds w
  | [], _, 0 => hf
  | [], _, i + 1 => trivial
  | g :: r, h, 0 => h 0
  | g :: r, h, i + 1 => at_fsnoc f w hf r (fun i => h (i + 1)) i
theorem at_fset_same (f : Fct) : ∀ (l : List Fct) (i : Nat), (Fct.at (fset l i f) i = f ∨ Fct.at (fset l i f) i = Fct.none)
  | [], i => .inr rfl
  | g :: r, 0 => .inl rfl
  | g :: r, i + 1 => at_fset_same f r i
theorem at_fset_other (f : Fct) : ∀ (l : List Fct) (i j : Nat), j ≠ i → Fct.at (fset l i f) j = Fct.at l j
  | [], i, j, _ => rfl
  | g :: r, 0, 0, h => absurd rfl h
  | g :: r, 0, j + 1, _ => rfl
  | g :: r, i + 1, 0, _ => rfl
  | g :: r, i + 1, j + 1, h => at_fset_other f r i j (fun e => h (by rw [e]))

def St (w0 w : World) (l : List Fct) : Prop := Below w0.heap.size w0 w ∧ ∀ i, (Fct.at l i).holds w
theorem St.start (w : World) : St w w [] := ⟨Below.refl _ _, fun _ => trivial⟩
theorem St.bel {w0 w : World} {l : List Fct} (S : St w0 w l) : Below w0.heap.size w0 w := S.1
theorem St.size {w0 w : World} {l : List Fct} (S : St w0 w l) : w0.heap.size ≤ w.heap.size := S.1.size
theorem St.get {w0 w : World} {l : List Fct} (S : St w0 w l) (i : Nat) : (Fct.at l i).holds w := S.2 i
theorem St.block {w0 w : World} {l : List Fct} (S : St w0 w l) (i : Nat) {b : Nat} {cs : Array Value} {T : TypeId} (hi : Fct.at l i = Fct.box b cs T := by rfl) : w.heap[b]? = some (.cells cs T (0, 0)) := by
  have := S.2 i
  rw [hi] at this; exact this
theorem St.step {w0 w w' : World} {l : List Fct} (S : St w0 w l) (hb : Below w.heap.size w w') : St w0 w' l :=
  ⟨Below.step S.1 hb, fun i => (Fct.at l i).stable w w' (fun b _ hlt => hb.block b hlt) (S.2 i)⟩
theorem St.add {w0 w : World} {l : List Fct} (S : St w0 w l) (f : Fct) (hf : f.holds w) : St w0 w (fsnoc l f) := ⟨S.1, at_fsnoc f w hf l S.2⟩
theorem St.drew {w0 w : World} {l : List Fct} (S : St w0 w l) : St w0 w.drew l := ⟨S.1.drew, fun i => (Fct.at l i).stable w w.drew (fun b _ _ => rfl) (S.2 i)⟩
theorem St.drewN {w0 w : World} {l : List Fct} (S : St w0 w l) (n : Nat) : St w0 (w.drewN n) l := ⟨⟨S.1.os, S.1.tape, S.1.output, S.1.size, S.1.block⟩, fun i => (Fct.at l i).stable w (w.drewN n) (fun b _ _ => rfl) (S.2 i)⟩
theorem St.regrown {w0 w : World} {l : List Fct} (S : St w0 w l) (d : Nat) (os : Array Obj) : St w0 (Go.Sort.grow (redrawn w d) os) l := S.step (below_regrown w d os)
theorem St.alloc {w0 w : World} {l : List Fct} (S : St w0 w l) (o : Obj) : St w0 (w.alloc o) l := S.step ((Below.refl _ w).alloc (Nat.le_refl _) o)
theorem St.box {w0 w : World} {l : List Fct} (S : St w0 w l) {b : Nat} (hb : w.heap.size = b) (cs : Array Value) (T : TypeId) : St w0 (w.alloc (.cells cs T)) (fsnoc l (.box b cs T)) := by
  subst hb
  exact (S.alloc _).add (.box _ cs T) (heap_ofAlloc w (.cells cs T))
theorem St.carry {w0 w w' : World} {l : List Fct} (S : St w0 w l) (hb : Below w0.heap.size w0 w') (hk : ∀ i b, (Fct.at l i).foot b → b < w.heap.size → w'.heap[b]? = w.heap[b]?) : St w0 w' l :=
  ⟨hb, fun i => (Fct.at l i).stable w w' (hk i) (S.2 i)⟩
/-- a box is written anew -/
theorem St.put {w0 w w' : World} {l : List Fct} (S : St w0 w l) (i : Nat) {b : Nat} {cs cs' : Array Value} {T : TypeId} (hi : Fct.at l i = Fct.box b cs T) (h0 : w0.heap.size ≤ b)
    (hoff : offs b i l) (hw : Below w0.heap.size w0 w → Below w0.heap.size w0 w') (hk : ∀ c, c ≠ b → w'.heap[c]? = w.heap[c]?) (hnew : w.heap[b]? = some (.cells cs T (0, 0)) → w'.heap[b]? = some (.cells cs' T (0, 0))) : St w0 w' (fset l i (.box b cs' T)) := by
  refine ⟨hw S.1, fun j => ?_⟩
  by_cases hj : j = i
  · subst hj
    rcases at_fset_same (.box b cs' T) l j with h | h
    · rw [h]; exact hnew (S.block j hi)
    · rw [h]; trivial
  · rw [at_fset_other _ _ _ _ hj]
    exact (Fct.at l j).stable w w' (fun c hc _ => hk c (fun e => offs_at hoff j hj (e ▸ hc))) (S.2 j)
theorem St.set2 {w0 w : World} {l : List Fct} (S : St w0 w l) (i : Nat) {b : Nat} {x y : Value} {T : TypeId} (hi : Fct.at l i = Fct.box b #[x, y] T) (u v : Value) (h0 : w0.heap.size ≤ b) (hoff : offs b i l) :
    St w0 ((w.setCell ⟨b, 0, Option.none⟩ u).setCell ⟨b, 1, Option.none⟩ v) (fset l i (.box b #[u, v] T)) :=
  S.put i hi h0 hoff (fun h => (h.setCell (p := ⟨b, 0, Option.none⟩) h0 _).setCell (p := ⟨b, 1, Option.none⟩) h0 _)
    (fun c hc => (Below.heap_setCell _ _ _ _ hc).trans (Below.heap_setCell _ _ _ _ hc)) (fun h => box2_set h u v)
theorem St.set1 {w0 w : World} {l : List Fct} (S : St w0 w l) (i : Nat) {b : Nat} {x : Value} {T : TypeId} (hi : Fct.at l i = Fct.box b #[x] T) (u : Value) (h0 : w0.heap.size ≤ b) (hoff : offs b i l) :
    St w0 (w.setCell ⟨b, 0, Option.none⟩ u) (fset l i (.box b #[u] T)) :=
  S.put i hi h0 hoff (fun h => h.setCell (p := ⟨b, 0, Option.none⟩) h0 _)
    (fun c hc => Below.heap_setCell _ _ _ _ hc) (fun h => by simp [World.setCell, Array.getElem?_modify, h])
theorem St.set20 {w0 w : World} {l : List Fct} (S : St w0 w l) (i : Nat) {b : Nat} {x y : Value} {T : TypeId} (hi : Fct.at l i = Fct.box b #[x, y] T) (u : Value) (h0 : w0.heap.size ≤ b) (hoff : offs b i l) :
    St w0 (w.setCell ⟨b, 0, Option.none⟩ u) (fset l i (.box b #[u, y] T)) :=
  S.put i hi h0 hoff (fun h => h.setCell (p := ⟨b, 0, Option.none⟩) h0 _)
    (fun c hc => Below.heap_setCell _ _ _ _ hc) (fun h => by simp [World.setCell, Array.getElem?_modify, h])
theorem St.set21 {w0 w : World} {l : List Fct} (S : St w0 w l) (i : Nat) {b : Nat} {x y : Value} {T : TypeId} (hi : Fct.at l i = Fct.box b #[x, y] T) (v : Value) (h0 : w0.heap.size ≤ b) (hoff : offs b i l) :
    St w0 (w.setCell ⟨b, 1, Option.none⟩ v) (fset l i (.box b #[x, v] T)) :=
  S.put i hi h0 hoff (fun h => h.setCell (p := ⟨b, 1, Option.none⟩) h0 _)
    (fun c hc => Below.heap_setCell _ _ _ _ hc) (fun h => box2_set1 h v)
/-- a fact is dropped, or made weaker -/
theorem St.weak {w0 w : World} {l l' : List Fct} (S : St w0 w l) (h : ∀ i, (Fct.at l i).holds w → (Fct.at l' i).holds w) : St w0 w l' := ⟨S.1, fun i => h i (S.2 i)⟩
theorem St.drop {w0 w : World} {f : Fct} {l : List Fct} (S : St w0 w (f :: l)) : St w0 w l := ⟨S.1, fun i => S.2 (i + 1)⟩
theorem at_map (l : List Fct) (w : World) (h : ∀ i, (Fct.at l i).holds w) : ∀ (is : List Nat) (i : Nat), (Fct.at (is.map (Fct.at l)) i).holds w
  | [], _ => trivial
  | j :: _, 0 => h j
  | _ :: r, i + 1 => at_map l w h r i
theorem St.pick {w0 w : World} {l : List Fct} (S : St w0 w l) (is : List Nat) : St w0 w (is.map (Fct.at l)) := ⟨S.1, at_map l w S.2 is⟩
def unders (b : Nat) : List Fct → Prop
  | [] => True
  | f :: r => (∀ c, f.foot c → c < b) ∧ unders b r
theorem unders_at {b : Nat} : ∀ {l : List Fct}, unders b l → ∀ i c, (Fct.at l i).foot c → c < b
  | [], _, _, _, h => h.elim
  | _ :: _, h, 0, c, hc => h.1 c hc
  | _ :: r, h, i + 1, c, hc => unders_at (l := r) h.2 i c hc
/-- what lies below b is as it was -/
theorem St.under {w0 w w' : World} {l : List Fct} (S : St w0 w l) {b : Nat} (hb : Below b w w') (h0 : w0.heap.size ≤ b) (hu : unders b l) : St w0 w' l :=
  S.carry (S.bel.trans (hb.mono h0)) fun i c hc _ => hb.block c (unders_at hu i c hc)

/-- at a call: the world under a new name -/
theorem St.gen {P : Program} {n : Nat} {a : Array Value} {Q : Ending → World → Prop} {w0 w : World} {l : List Fct} (S : St w0 w l) {z : Nat} (hz : z ≤ w.heap.size)
    (h : ∀ w', z ≤ w'.heap.size → St w0 w' l → Calls P n a w' Q) : Calls P n a w Q := h w hz S
theorem St.genC {P : Program} {c : Code} {Q : Exit → Act → World → Prop} {a : Act} {w0 w : World} {l : List Fct} (S : St w0 w l) {z : Nat} (hz : z ≤ w.heap.size)
    (h : ∀ w', z ≤ w'.heap.size → St w0 w' l → c.wp P Q a w') : c.wp P Q a w := h w hz S
theorem St.genX {Q : Exit → Act → World → Prop} {e : Exit} {a : Act} {w0 w : World} {l : List Fct} (S : St w0 w l) {z : Nat} (hz : z ≤ w.heap.size)
    (h : ∀ w', z ≤ w'.heap.size → St w0 w' l → Q e a w') : Q e a w := h w hz S
/-- the cells of a box of two -/
theorem St.two {w0 w : World} {l : List Fct} (S : St w0 w l) (i : Nat) {b : Nat} {x y : Value} {T : TypeId} (hi : Fct.at l i = Fct.box b #[x, y] T := by rfl) :
    (w.cell? ⟨b, 0, Option.none⟩ = some x ∧ w.frozen? ⟨b, 0, Option.none⟩ = false) ∧ (w.cell? ⟨b, 1, Option.none⟩ = some y ∧ w.frozen? ⟨b, 1, Option.none⟩ = false) := box2 (S.block i hi)
theorem St.one {w0 w : World} {l : List Fct} (S : St w0 w l) (i : Nat) {b : Nat} {x : Value} {T : TypeId} (hi : Fct.at l i = Fct.box b #[x] T := by rfl) :
    w.cell? ⟨b, 0, Option.none⟩ = some x ∧ w.frozen? ⟨b, 0, Option.none⟩ = false := box1 (S.block i hi)
theorem St.lt {w0 w : World} {l : List Fct} (S : St w0 w l) (i : Nat) {b : Nat} {cs : Array Value} {T : TypeId} (hi : Fct.at l i = Fct.box b cs T := by rfl) : b < w.heap.size := heap_lt (S.block i hi)
theorem St.tree {w0 w : World} {l : List Fct} (S : St w0 w l) (i : Nat) {lo hi : Nat} {v : Value} {t : T} (h : Fct.at l i = Fct.tree lo hi v t := by rfl) : TreeP (fun b => lo ≤ b ∧ b < hi) w v t := by
  have := S.2 i
  rw [h] at this; exact this
theorem St.ints {w0 w : World} {l : List Fct} (S : St w0 w l) (i : Nat) {lo hi : Nat} {v : Value} {t : List Int} (h : Fct.at l i = Fct.ints lo hi v t := by rfl) : IntsP (fun b => lo ≤ b ∧ b < hi) w v t := by
  have := S.2 i
  rw [h] at this; exact this
theorem St.treeP {w0 w : World} {l : List Fct} (S : St w0 w l) (i : Nat) {p : Nat → Prop} {v : Value} {t : T} (h : Fct.at l i = Fct.treeP p v t := by rfl) : TreeP p w v t := by
  have := S.2 i
  rw [h] at this; exact this

/-! contracts over a state -/
theorem St.quiet {P : Program} {n : Nat} {a : Array Value} {w0 w : World} {l : List Fct} (S : St w0 w l) {r : Ending} (h : Calls P n a w fun e w' => e = r ∧ Below w.heap.size w w') :
    Calls P n a w fun e w' => e = r ∧ w.heap.size ≤ w'.heap.size ∧ St w0 w' l :=
  h.mono fun e w' ⟨h1, h2⟩ => ⟨h1, h2.size, S.step h2⟩
theorem St.fault {P : Program} {n : Nat} {a : Array Value} {w0 w : World} {l : List Fct} (S : St w0 w l) {f : Int × Int} (h : Calls P n a w fun e w' => e = .returned (.agg #[.int .i64 f.1, .int .i64 f.2]) ∧ Below w.heap.size w w') :
    Calls P n a w fun e w' => ∃ c d, e = .returned (.agg #[.int .i64 c, .int .i64 d]) ∧ Hid (f = (c, d)) ∧ w.heap.size ≤ w'.heap.size ∧ St w0 w' l :=
  h.mono fun e w' ⟨h1, h2⟩ => ⟨f.1, f.2, h1, rfl, h2.size, S.step h2⟩
theorem TreeP.upto {w0 w : World} {v : Value} {t : T} {lo : Nat} (h : TreeP (fun b => lo ≤ b) w v t) : TreeP (fun b => lo ≤ b ∧ b < w.heap.size) w v t := h.mono fun b h1 h2 => ⟨h1, h2⟩
theorem St.made {P : Program} {n : Nat} {a : Array Value} {w0 w : World} {l : List Fct} (S : St w0 w l) {t : T} (h : Calls P n a w fun e w' => ∃ u, e = .returned u ∧ TreeP (fun b => w.heap.size ≤ b) w' u t ∧ Below w.heap.size w w') :
    Calls P n a w fun e w' => ∃ k sp, e = .returned (.agg #[.int .i64 t.head, .slice k t.kids.length (t.kids.length + sp)]) ∧ w.heap.size ≤ w'.heap.size ∧
      St w0 w' (fsnoc l (.tree w.heap.size w'.heap.size (.agg #[.int .i64 t.head, .slice k t.kids.length (t.kids.length + sp)]) t)) :=
  h.mono fun e w' ⟨u, h1, h2, h3⟩ => by
    obtain ⟨k, sp, rfl⟩ := h2.at.form
    exact ⟨k, sp, h1, h3.size, (S.step h3).add (.tree _ _ _ _) (h2.upto (w0 := w0))⟩
theorem St.madeF {P : Program} {n : Nat} {a : Array Value} {w0 w : World} {l : List Fct} (S : St w0 w l) {r : T × (Int × Int)}
    (h : Calls P n a w fun e w' => ∃ u, e = .returned (.tuple #[u, .agg #[.int .i64 r.2.1, .int .i64 r.2.2]]) ∧ TreeP (fun b => w.heap.size ≤ b) w' u r.1 ∧ Below w.heap.size w w') :
    Calls P n a w fun e w' => ∃ A c d k sp, e = .returned (.tuple #[.agg #[.int .i64 A.head, .slice k A.kids.length (A.kids.length + sp)], .agg #[.int .i64 c, .int .i64 d]]) ∧ Hid (r = (A, c, d)) ∧ w.heap.size ≤ w'.heap.size ∧
      St w0 w' (fsnoc l (.tree w.heap.size w'.heap.size (.agg #[.int .i64 A.head, .slice k A.kids.length (A.kids.length + sp)]) A)) :=
  h.mono fun e w' ⟨u, h1, h2, h3⟩ => by
    obtain ⟨k, sp, rfl⟩ := h2.at.form
    exact ⟨r.1, r.2.1, r.2.2, k, sp, h1, rfl, h3.size, (S.step h3).add (.tree _ _ _ _) (h2.upto (w0 := w0))⟩
end Go.Proofs.Yteekoclfpehnpaa
