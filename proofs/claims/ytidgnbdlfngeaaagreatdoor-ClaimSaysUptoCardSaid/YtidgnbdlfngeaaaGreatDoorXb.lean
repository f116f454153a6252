/-
  The state of a walk as one fact: what lies in which blocks ('Fct': a footprint, what it says, that it hangs on the footprint's blocks alone), a list of such, and that nothing older has turned.
  Walks: the document's With.
  A row of trees that is gathered by 'out.Kids = append(out.Kids, x)', as a fact of a walk's state.
  Rows of elements of any kind: how an element lies in cells; a row behind an address; a row that the call itself gathers by append, as a fact of a walk's state.
  Walks: the trees of a claim.
-/
import Derived.Test.YtidgnbdlfngeaaaGreatDoorBase
import Derived.Test.YtidgnbdlfngeaaaGreatDoorXa
import Derived.Test.YtidgnbdlfngeaaaGreatDoorProg
import Derived.Lib.QuietBelow
import Derived.Deep.AppendLies
namespace Go.Proofs.YtidgnbdlfngeaaaGreatDoor
open Go.RowKit Go.Shelf
set_option linter.unusedVariables false

structure Fct where
  foot : Nat → Prop
  holds : World → Prop
  stable : ∀ w w' : World, (∀ b, foot b → b < w.heap.size → w'.heap[b]? = w.heap[b]?) → holds w → holds w'

def Fct.none : Fct := ⟨fun _ => False, fun _ => True, fun _ _ _ _ => trivial⟩
/-- block b is these cells -/
def Fct.box (b : Nat) (cs : Array Value) (T : TypeId) : Fct :=
  ⟨fun c => c = b, fun w => w.heap[b]? = some (.cells cs T (0, 0)), fun w w' h hb => (h b rfl (Array.getElem?_eq_some_iff.1 hb).1).trans hb⟩
/-- a tree with any footprint -/
def Fct.treeP (p : Nat → Prop) (v : Value) (t : T) : Fct :=
  ⟨p, fun w => TreeP p w v t, fun w w' h ht => ht.carry h⟩
def Fct.at : List Fct → Nat → Fct
  | [], _ => Fct.none
  | f :: _, 0 => f
  | _ :: r, i + 1 => Fct.at r i
def fsnoc : List Fct → Fct → List Fct
  | [], f => [f]
  | g :: r, f => g :: fsnoc r f
def fset : List Fct → Nat → Fct → List Fct
  | [], _, _ => []
  | _ :: r, 0, f => f :: r
  | g :: r, i + 1, f => g :: fset r i f
/-- all facts but number i are off block b -/
def offAll (b : Nat) : List Fct → Prop
  | [] => True
  | f :: r => ¬ f.foot b ∧ offAll b r
def offs (b : Nat) : Nat → List Fct → Prop
  | _, [] => True
  | 0, _ :: r => offAll b r
  | i + 1, f :: r => ¬ f.foot b ∧ offs b i r
theorem offAll_at {b : Nat} : ∀ {l : List Fct}, offAll b l → ∀ i, ¬ (Fct.at l i).foot b
  | [], _, i => fun h => h
  | f :: r, h, 0 => h.1
  | f :: r, h, i + 1 => offAll_at (l := r) h.2 i
theorem offs_at {b : Nat} : ∀ {l : List Fct} {i : Nat}, offs b i l → ∀ j, j ≠ i → ¬ (Fct.at l j).foot b
  | [], _, _, j, _ => fun h => h
  | f :: r, 0, h, 0, hj => absurd rfl hj
  | f :: r, 0, h, j + 1, _ => offAll_at (l := r) h j
  | f :: r, i + 1, h, 0, _ => h.1
  | f :: r, i + 1, h, j + 1, hj => offs_at (l := r) h.2 j (fun e => hj (by rw [e]))
theorem at_fsnoc (f : Fct) (w : World) (hf : f.holds w) : ∀ (l : List Fct), (∀ i, (Fct.at l i).holds w) → ∀ i, (Fct.at (fsnoc l f) i).holds w
  | [], _, 0 => hf
  | [], _, i + 1 => trivial
  | g :: r, h, 0 => h 0
  | g :: r, h, i + 1 => at_fsnoc f w hf r (fun i => h (i + 1)) i
theorem at_fset_same (f : Fct) : ∀ (l : List Fct) (i : Nat), (Fct.at (fset l i f) i = f ∨ Fct.at (fset l i f) i = Fct.none)
  | [], i => .inr rfl
  | g :: r, 0 => .inl rfl
  | g :: r, i + 1 => at_fset_same f r i
theorem at_fset_other (f : Fct) : ∀ (l : List Fct) (i j : Nat), j ≠ i → Fct.at (fset l i f) j = Fct.at l j
  | [], i, j, _ => rfl
  | g :: r, 0, 0, h => absurd rfl h
  | g :: r, 0, j + 1, _ => rfl
  | g :: r, i + 1, 0, _ => rfl
  | g :: r, i + 1, j + 1, h => at_fset_other f r i j (fun e => h (by rw [e]))

def St (w0 w : World) (l : List Fct) : Prop := Below w0.heap.size w0 w ∧ ∀ i, (Fct.at l i).holds w
theorem St.start (w : World) : St w w [] := ⟨Below.refl _ _, fun _ => trivial⟩
theorem St.bel {w0 w : World} {l : List Fct} (S : St w0 w l) : Below w0.heap.size w0 w := S.1
theorem St.size {w0 w : World} {l : List Fct} (S : St w0 w l) : w0.heap.size ≤ w.heap.size := S.1.size
theorem St.get {w0 w : World} {l : List Fct} (S : St w0 w l) (i : Nat) : (Fct.at l i).holds w := S.2 i
theorem St.block {w0 w : World} {l : List Fct} (S : St w0 w l) (i : Nat) {b : Nat} {cs : Array Value} {T : TypeId} (hi : Fct.at l i = Fct.box b cs T := by rfl) : w.heap[b]? = some (.cells cs T (0, 0)) := by
  have := S.2 i
  rw [hi] at this; exact this
theorem St.step {w0 w w' : World} {l : List Fct} (S : St w0 w l) (hb : Below w.heap.size w w') : St w0 w' l :=
  ⟨Below.step S.1 hb, fun i => (Fct.at l i).stable w w' (fun b _ hlt => hb.block b hlt) (S.2 i)⟩
theorem St.add {w0 w : World} {l : List Fct} (S : St w0 w l) (f : Fct) (hf : f.holds w) : St w0 w (fsnoc l f) := ⟨S.1, at_fsnoc f w hf l S.2⟩
theorem St.drew {w0 w : World} {l : List Fct} (S : St w0 w l) : St w0 w.drew l := ⟨S.1.drew, fun i => (Fct.at l i).stable w w.drew (fun b _ _ => rfl) (S.2 i)⟩
theorem St.regrown {w0 w : World} {l : List Fct} (S : St w0 w l) (d : Nat) (os : Array Obj) : St w0 (Go.Sort.grow (redrawn w d) os) l := S.step (below_regrown w d os)
theorem St.alloc {w0 w : World} {l : List Fct} (S : St w0 w l) (o : Obj) : St w0 (w.alloc o) l := S.step ((Below.refl _ w).alloc (Nat.le_refl _) o)
theorem St.box {w0 w : World} {l : List Fct} (S : St w0 w l) {b : Nat} (hb : w.heap.size = b) (cs : Array Value) (T : TypeId) : St w0 (w.alloc (.cells cs T)) (fsnoc l (.box b cs T)) := by
  subst hb
  exact (S.alloc _).add (.box _ cs T) (heap_ofAlloc w (.cells cs T))
theorem St.carry {w0 w w' : World} {l : List Fct} (S : St w0 w l) (hb : Below w0.heap.size w0 w') (hk : ∀ i b, (Fct.at l i).foot b → b < w.heap.size → w'.heap[b]? = w.heap[b]?) : St w0 w' l :=
  ⟨hb, fun i => (Fct.at l i).stable w w' (hk i) (S.2 i)⟩
/-- a box is written anew -/
theorem St.put {w0 w w' : World} {l : List Fct} (S : St w0 w l) (i : Nat) {b : Nat} {cs cs' : Array Value} {T : TypeId} (hi : Fct.at l i = Fct.box b cs T) (h0 : w0.heap.size ≤ b)
    (hoff : offs b i l) (hw : Below w0.heap.size w0 w → Below w0.heap.size w0 w') (hk : ∀ c, c ≠ b → w'.heap[c]? = w.heap[c]?) (hnew : w.heap[b]? = some (.cells cs T (0, 0)) → w'.heap[b]? = some (.cells cs' T (0, 0))) : St w0 w' (fset l i (.box b cs' T)) := by
  refine ⟨hw S.1, fun j => ?_⟩
  by_cases hj : j = i
  · subst hj
    rcases at_fset_same (.box b cs' T) l j with h | h
    · rw [h]; exact hnew (S.block j hi)
    · rw [h]; trivial
  · rw [at_fset_other _ _ _ _ hj]
    exact (Fct.at l j).stable w w' (fun c hc _ => hk c (fun e => offs_at hoff j hj (e ▸ hc))) (S.2 j)
theorem St.set2 {w0 w : World} {l : List Fct} (S : St w0 w l) (i : Nat) {b : Nat} {x y : Value} {T : TypeId} (hi : Fct.at l i = Fct.box b #[x, y] T) (u v : Value) (h0 : w0.heap.size ≤ b) (hoff : offs b i l) :
    St w0 ((w.setCell ⟨b, 0, Option.none⟩ u).setCell ⟨b, 1, Option.none⟩ v) (fset l i (.box b #[u, v] T)) :=
  S.put i hi h0 hoff (fun h => (h.setCell (p := ⟨b, 0, Option.none⟩) h0 _).setCell (p := ⟨b, 1, Option.none⟩) h0 _)
    (fun c hc => (Below.heap_setCell _ _ _ _ hc).trans (Below.heap_setCell _ _ _ _ hc)) (fun h => box2_set h u v)
theorem St.set1 {w0 w : World} {l : List Fct} (S : St w0 w l) (i : Nat) {b : Nat} {x : Value} {T : TypeId} (hi : Fct.at l i = Fct.box b #[x] T) (u : Value) (h0 : w0.heap.size ≤ b) (hoff : offs b i l) :
    St w0 (w.setCell ⟨b, 0, Option.none⟩ u) (fset l i (.box b #[u] T)) :=
  S.put i hi h0 hoff (fun h => h.setCell (p := ⟨b, 0, Option.none⟩) h0 _)
    (fun c hc => Below.heap_setCell _ _ _ _ hc) (fun h => by simp [World.setCell, Array.getElem?_modify, h])
theorem St.set20 {w0 w : World} {l : List Fct} (S : St w0 w l) (i : Nat) {b : Nat} {x y : Value} {T : TypeId} (hi : Fct.at l i = Fct.box b #[x, y] T) (u : Value) (h0 : w0.heap.size ≤ b) (hoff : offs b i l) :
    St w0 (w.setCell ⟨b, 0, Option.none⟩ u) (fset l i (.box b #[u, y] T)) :=
  S.put i hi h0 hoff (fun h => h.setCell (p := ⟨b, 0, Option.none⟩) h0 _)
    (fun c hc => Below.heap_setCell _ _ _ _ hc) (fun h => by simp [World.setCell, Array.getElem?_modify, h])
theorem St.set21 {w0 w : World} {l : List Fct} (S : St w0 w l) (i : Nat) {b : Nat} {x y : Value} {T : TypeId} (hi : Fct.at l i = Fct.box b #[x, y] T) (v : Value) (h0 : w0.heap.size ≤ b) (hoff : offs b i l) :
    St w0 (w.setCell ⟨b, 1, Option.none⟩ v) (fset l i (.box b #[x, v] T)) :=
  S.put i hi h0 hoff (fun h => h.setCell (p := ⟨b, 1, Option.none⟩) h0 _)
    (fun c hc => Below.heap_setCell _ _ _ _ hc) (fun h => box2_set1 h v)
theorem St.drop {w0 w : World} {f : Fct} {l : List Fct} (S : St w0 w (f :: l)) : St w0 w l := ⟨S.1, fun i => S.2 (i + 1)⟩
theorem at_map (l : List Fct) (w : World) (h : ∀ i, (Fct.at l i).holds w) : ∀ (is : List Nat) (i : Nat), (Fct.at (is.map (Fct.at l)) i).holds w
  | [], _ => trivial
  | j :: _, 0 => h j
  | _ :: r, i + 1 => at_map l w h r i
theorem St.pick {w0 w : World} {l : List Fct} (S : St w0 w l) (is : List Nat) : St w0 w (is.map (Fct.at l)) := ⟨S.1, at_map l w S.2 is⟩
/-- at a call: the world under a new name -/
theorem St.gen {P : Program} {n : Nat} {a : Array Value} {Q : Ending → World → Prop} {w0 w : World} {l : List Fct} (S : St w0 w l) {z : Nat} (hz : z ≤ w.heap.size)
    (h : ∀ w', z ≤ w'.heap.size → St w0 w' l → Calls P n a w' Q) : Calls P n a w Q := h w hz S
theorem St.genC {P : Program} {c : Code} {Q : Exit → Act → World → Prop} {a : Act} {w0 w : World} {l : List Fct} (S : St w0 w l) {z : Nat} (hz : z ≤ w.heap.size)
    (h : ∀ w', z ≤ w'.heap.size → St w0 w' l → c.wp P Q a w') : c.wp P Q a w := h w hz S
theorem St.genX {Q : Exit → Act → World → Prop} {e : Exit} {a : Act} {w0 w : World} {l : List Fct} (S : St w0 w l) {z : Nat} (hz : z ≤ w.heap.size)
    (h : ∀ w', z ≤ w'.heap.size → St w0 w' l → Q e a w') : Q e a w := h w hz S
/-- the cells of a box of two -/
theorem St.two {w0 w : World} {l : List Fct} (S : St w0 w l) (i : Nat) {b : Nat} {x y : Value} {T : TypeId} (hi : Fct.at l i = Fct.box b #[x, y] T := by rfl) :
    (w.cell? ⟨b, 0, Option.none⟩ = some x ∧ w.frozen? ⟨b, 0, Option.none⟩ = false) ∧ (w.cell? ⟨b, 1, Option.none⟩ = some y ∧ w.frozen? ⟨b, 1, Option.none⟩ = false) := box2 (S.block i hi)
theorem St.one {w0 w : World} {l : List Fct} (S : St w0 w l) (i : Nat) {b : Nat} {x : Value} {T : TypeId} (hi : Fct.at l i = Fct.box b #[x] T := by rfl) :
    w.cell? ⟨b, 0, Option.none⟩ = some x ∧ w.frozen? ⟨b, 0, Option.none⟩ = false := box1 (S.block i hi)
theorem St.lt {w0 w : World} {l : List Fct} (S : St w0 w l) (i : Nat) {b : Nat} {cs : Array Value} {T : TypeId} (hi : Fct.at l i = Fct.box b cs T := by rfl) : b < w.heap.size := heap_lt (S.block i hi)
theorem St.treeP {w0 w : World} {l : List Fct} (S : St w0 w l) (i : Nat) {p : Nat → Prop} {v : Value} {t : T} (h : Fct.at l i = Fct.treeP p v t := by rfl) : TreeP p w v t := by
  have := S.2 i
  rw [h] at this; exact this

/-! contracts over a state -/
theorem St.quiet {P : Program} {n : Nat} {a : Array Value} {w0 w : World} {l : List Fct} (S : St w0 w l) {r : Ending} (h : Calls P n a w fun e w' => e = r ∧ Below w.heap.size w w') :
    Calls P n a w fun e w' => e = r ∧ w.heap.size ≤ w'.heap.size ∧ St w0 w' l :=
  h.mono fun e w' ⟨h1, h2⟩ => ⟨h1, h2.size, S.step h2⟩
theorem St.fault {P : Program} {n : Nat} {a : Array Value} {w0 w : World} {l : List Fct} (S : St w0 w l) {f : Int × Int} (h : Calls P n a w fun e w' => e = .returned (.agg #[.int .i64 f.1, .int .i64 f.2]) ∧ Below w.heap.size w w') :
    Calls P n a w fun e w' => ∃ c d, e = .returned (.agg #[.int .i64 c, .int .i64 d]) ∧ Hid (f = (c, d)) ∧ w.heap.size ≤ w'.heap.size ∧ St w0 w' l :=
  h.mono fun e w' ⟨h1, h2⟩ => ⟨f.1, f.2, h1, rfl, h2.size, S.step h2⟩
end Go.Proofs.YtidgnbdlfngeaaaGreatDoor
namespace Go.Proofs.YtidgnbdlfngeaaaGreatDoor
open Go.RowKit Go.Shelf
set_option linter.unusedVariables false
set_option maxHeartbeats 400000

end Go.Proofs.YtidgnbdlfngeaaaGreatDoor
namespace Go.Proofs.YtidgnbdlfngeaaaGreatDoor
open Go.RowKit Go.Shelf
set_option linter.unusedVariables false

theorem ownsRow_carry {base : Nat} {e : TypeId} {k : Nat} {v : Value} {n : Nat} {xs : List Value} {w w' : World} (h : w.ownsRow base e k v n xs) (hb : ∀ b, v.ownBlock = some b → b < w.heap.size → w'.heap[b]? = w.heap[b]?) : w'.ownsRow base e k v n xs := by
  refine ⟨h.1, ?_⟩
  rcases h.2 with h1 | ⟨g, cap, cur, rfl, hB, hh, hr⟩
  · exact .inl h1
  · exact .inr ⟨g, cap, cur, rfl, hB, (hb g rfl (heap_lt hh)).trans hh, hr⟩
end Go.Proofs.YtidgnbdlfngeaaaGreatDoor
namespace Go.Proofs.YtidgnbdlfngeaaaGreatDoor
open Go.RowKit Go.Shelf
set_option linter.unusedVariables false

/-- how an element lies in cells -/
structure Elt (α : Type) where
  ty : TypeId
  n : Nat
  is : (Nat → Prop) → World → List Value → α → Prop
  pos : 0 < n
  len : ∀ {p : Nat → Prop} {w : World} {cs : List Value} {a : α}, is p w cs a → cs.length = n
  one : ∀ {p : Nat → Prop} {w : World} {cs : List Value} {a : α}, is p w cs a → ∀ u ∈ cs, u.oneCell' = true
  keep : ∀ {p q : Nat → Prop} {w w' : World} {cs : List Value} {a : α}, (∀ b, p b → b < w.heap.size → w'.heap[b]? = w.heap[b]? ∧ q b) → is p w cs a → is q w' cs a

theorem TreeP.keep {p q : Nat → Prop} {w w' : World} {v : Value} {t : T} (hk : ∀ b, p b → b < w.heap.size → w'.heap[b]? = w.heap[b]? ∧ q b) (h : TreeP p w v t) : TreeP q w' v t :=
  ((h.mono (q := fun b => p b ∧ b < w.heap.size) (fun b h1 h2 => ⟨h1, h2⟩)).carry (fun b hb _ => (hk b hb.1 hb.2).1)).mono (fun b hb _ => (hk b hb.1 hb.2).2)

section
variable {α : Type}
/-- a row of elements behind an address -/
def Elt.Row (E : Elt α) (p : Nat → Prop) (w : World) (ao : Option Addr) (xs : List α) : Prop :=
  ∀ (i : Nat) x, xs[i]? = some x → ∃ b off cs, ao = some ⟨b, off, none⟩ ∧ p b ∧ (∀ (j : Nat) u, cs[j]? = some u → w.cell? ⟨b, off + i * E.n + j, none⟩ = some u) ∧ E.is p w cs x
theorem Elt.Row.keep {E : Elt α} {p q : Nat → Prop} {w w' : World} {ao : Option Addr} {xs : List α} (hk : ∀ b, p b → b < w.heap.size → w'.heap[b]? = w.heap[b]? ∧ q b) (h : E.Row p w ao xs) : E.Row q w' ao xs := fun i x hi => by
  obtain ⟨b, off, cs, e, hp, hc, he⟩ := h i x hi
  have hl := E.len he
  have hlt : b < w.heap.size := by
    have hp0 : 0 < cs.length := by have := E.pos; omega
    exact block_lt_of_cell (hc 0 (cs[0]'hp0) (List.getElem?_eq_getElem hp0))
  obtain ⟨h1, h2⟩ := hk b hp hlt
  exact ⟨b, off, cs, e, h2, fun j u hu => by rw [World.cell?_of_block (w := w) h1]; exact hc j u hu, E.keep hk he⟩
theorem Elt.Row.kept {E : Elt α} {p : Nat → Prop} {w w' : World} {ao : Option Addr} {xs : List α} (h : E.Row p w ao xs) (hb : Below w.heap.size w w') : E.Row p w' ao xs := h.keep fun b h1 h2 => ⟨hb.block b h2, h1⟩
theorem Elt.Row.mono {E : Elt α} {p q : Nat → Prop} {w : World} {ao : Option Addr} {xs : List α} (h : E.Row p w ao xs) (hpq : ∀ b, p b → b < w.heap.size → q b) : E.Row q w ao xs := h.keep fun b h1 h2 => ⟨rfl, hpq b h1 h2⟩
theorem Elt.Row.nil {E : Elt α} {p : Nat → Prop} {w : World} {ao : Option Addr} : E.Row p w ao [] := fun i x h => by simp at h

theorem flat_at {β : Type} {n : Nat} : ∀ {css : List (List β)}, (∀ cs ∈ css, cs.length = n) → ∀ {i j : Nat} {cs : List β} {u : β}, css[i]? = some cs → cs[j]? = some u → css.flatten[i * n + j]? = some u
  | [], _, i, j, cs, u, hc, hu => by simp at hc
  | c :: r, h, 0, j, cs, u, hc, hu => by
    simp at hc; subst hc
    have hj := (List.getElem?_eq_some_iff.1 hu).1
    rw [List.flatten_cons, Nat.zero_mul, Nat.zero_add, List.getElem?_append_left hj]; exact hu
  | c :: r, h, i + 1, j, cs, u, hc, hu => by
    have hl := h c (by simp)
    have := flat_at (css := r) (fun cs hcs => h cs (by simp [hcs])) (i := i) (j := j) (by simpa using hc) hu
    rw [List.flatten_cons, List.getElem?_append_right (by rw [hl, Nat.succ_mul]; omega), hl, show (i + 1) * n + j - n = i * n + j by rw [Nat.succ_mul]; omega]
    exact this

/-- a row of elements that the call itself has gathered -/
def Elt.Own (E : Elt α) (p : Nat → Prop) (B : Nat) (w : World) (o : Value) (xs : List α) : Prop :=
  ∃ css : List (List Value), css.length = xs.length ∧ w.ownsRow B E.ty E.n o xs.length css.flatten ∧ ∀ (i : Nat) cs x, css[i]? = some cs → xs[i]? = some x → E.is (fun b => p b ∧ o.ownBlock ≠ some b) w cs x
theorem Elt.Own.nil (E : Elt α) (p : Nat → Prop) (B : Nat) (w : World) : E.Own p B w (.slice none 0 0) [] := ⟨[], rfl, World.ownsRow_nil _ _ _ _, fun i cs x h => by simp at h⟩
theorem Elt.lens {E : Elt α} {p : Nat → Prop} {w : World} {css : List (List Value)} {xs : List α} (hl : css.length = xs.length) (h : ∀ (i : Nat) cs x, css[i]? = some cs → xs[i]? = some x → E.is p w cs x) : ∀ cs ∈ css, cs.length = E.n := fun cs hcs => by
  obtain ⟨i, hi, rfl⟩ := List.getElem_of_mem hcs
  exact E.len (h i _ _ (List.getElem?_eq_getElem hi) (List.getElem?_eq_getElem (by omega)))
theorem Elt.Own.row {E : Elt α} {p : Nat → Prop} {B : Nat} {w : World} {o : Value} {xs : List α} (h : E.Own p B w o xs) (hp : ∀ b, B ≤ b → p b) : ∃ ao sp, o = .slice ao xs.length (xs.length + sp) ∧ E.Row p w ao xs ∧ xs.length ≤ maxLen := by
  obtain ⟨css, hcl, ho, hk⟩ := h
  obtain ⟨_, h2⟩ := ho
  rcases h2 with ⟨rfl, hn⟩ | ⟨g, cap, cur, rfl, hB, hh, hnc, hm, hsz, htk⟩
  · have : xs = [] := List.eq_nil_of_length_eq_zero hn
    subst this
    exact ⟨none, 0, rfl, Elt.Row.nil, by simp⟩
  · refine ⟨some ⟨g, 0, none⟩, cap - xs.length, by congr 1; omega, fun i x hx => ?_, by omega⟩
    have hi := (List.getElem?_eq_some_iff.1 hx).1
    have hcs : css[i]? = some css[i] := List.getElem?_eq_getElem (by omega)
    have hel := hk i _ _ hcs hx
    refine ⟨g, 0, css[i], rfl, hp g hB, fun j u hu => ?_, E.keep (fun b h _ => ⟨rfl, h.1⟩) hel⟩
    have h3 := flat_at (Elt.lens hcl hk) hcs hu
    have hj := (List.getElem?_eq_some_iff.1 hu).1
    have hjl := E.len hel
    rw [← htk, List.getElem?_take, if_pos (by
      have h4 : (i + 1) * E.n ≤ xs.length * E.n := Nat.mul_le_mul_right _ (by omega)
      rw [Nat.succ_mul] at h4; omega)] at h3
    simp only [World.cell?, hh, Nat.zero_add, Option.isSome_none]
    rw [← Array.getElem?_toList, h3]; simp

def Fct.owns (E : Elt α) (B : Nat) (p : Nat → Prop) (o : Value) (xs : List α) : Fct :=
  ⟨fun c => o.ownBlock = some c ∨ p c, fun w => E.Own p B w o xs, fun w w' h ht => by
    obtain ⟨css, hcl, ho, hk⟩ := ht
    exact ⟨css, hcl, ownsRow_carry ho (fun b hb hlt => h b (.inl hb) hlt), fun i cs x h1 h2 => E.keep (fun b hb hlt => ⟨h b (.inr hb.1) hlt, hb⟩) (hk i cs x h1 h2)⟩⟩
/-- a row of elements that lies in the blocks of p -/
def Fct.rowE (E : Elt α) (p : Nat → Prop) (ao : Option Addr) (xs : List α) : Fct :=
  ⟨p, fun w => E.Row p w ao xs, fun w w' h ht => ht.keep (fun b h1 h2 => ⟨h b h1 h2, h1⟩)⟩
theorem St.owns {w0 w : World} {l : List Fct} (S : St w0 w l) (E : Elt α) (i : Nat) {B : Nat} {p : Nat → Prop} {o : Value} {xs : List α} (h : Fct.at l i = Fct.owns E B p o xs := by rfl) : E.Own p B w o xs := by
  have := S.2 i
  rw [h] at this; exact this
theorem St.rowE {w0 w : World} {l : List Fct} (S : St w0 w l) (E : Elt α) (i : Nat) {p : Nat → Prop} {ao : Option Addr} {xs : List α} (h : Fct.at l i = Fct.rowE E p ao xs := by rfl) : E.Row p w ao xs := by
  have := S.2 i
  rw [h] at this; exact this
theorem St.ownlt {w0 w : World} {l : List Fct} (S : St w0 w l) (E : Elt α) (i : Nat) {B : Nat} {p : Nat → Prop} {o : Value} {xs : List α} (h : Fct.at l i = Fct.owns E B p o xs := by rfl) : ∀ b, o.ownBlock = some b → B ≤ b ∧ b < w.heap.size := fun b hb => by
  obtain ⟨css, _, ho, _⟩ := S.owns E i h
  exact ho.lt b hb

/-- x has been appended -/
theorem St.app {w0 w w3 : World} {l : List Fct} (S : St w0 w l) (E : Elt α) (i : Nat) {B : Nat} {p p' q : Nat → Prop} {o : Value} {xs : List α} {x : α} {css : List (List Value)} {cs : List Value} {gg cap : Nat} {ob : Obj}
    (hi : Fct.at l i = Fct.owns E B p o xs) (hx : E.is q w cs x) (hcl : css.length = xs.length) (hel : ∀ (i : Nat) cs x, css[i]? = some cs → xs[i]? = some x → E.is (fun b => p b ∧ o.ownBlock ≠ some b) w cs x)
    (hown : w3.ownsRow B E.ty E.n (.slice (some ⟨gg, 0, none⟩) (xs.length + 1) cap) (xs.length + 1) (css.flatten ++ cs))
    (hg : (w.alloc ob).grownBy w3 o.ownBlock) (hat : o.ownBlock = some gg ∨ gg = w.heap.size + 1) (hB : w0.heap.size ≤ B)
    (hoff : ∀ b, o.ownBlock = some b → offs b i l) (hq : ∀ b, q b → o.ownBlock ≠ some b) (hpq : ∀ b, p b ∨ q b → p' b) :
    St w0 w3 (fset l i (.owns E B p' (.slice (some ⟨gg, 0, none⟩) (xs.length + 1) cap) (xs ++ [x]))) := by
  have hlt := S.ownlt E i hi
  have hsame : ∀ b, b < w.heap.size → o.ownBlock ≠ some b → w3.heap[b]? = w.heap[b]? := fun b h1 h2 =>
    (hg.block b (by simp; omega) (fun e => h2 e.symm)).trans (Below.heap_alloc w _ b h1)
  have hggn : ∀ b, b < w.heap.size → o.ownBlock ≠ some b → (Value.slice (some ⟨gg, 0, none⟩) (xs.length + 1) cap).ownBlock ≠ some b := fun b hlt hne e => by
    have e' : gg = b := by simpa [Value.ownBlock] using e
    rcases hat with h4 | h4
    · exact hne (by rw [h4, e'])
    · omega
  refine ⟨(S.bel.alloc S.size _).grown hg (by simp; have := S.size; omega) (fun c hc => by have := (hlt c hc).1; omega), fun j => ?_⟩
  by_cases hj : j = i
  · subst hj
    rcases at_fset_same (.owns E B p' (.slice (some ⟨gg, 0, none⟩) (xs.length + 1) cap) (xs ++ [x])) l j with h | h
    · rw [h]
      refine ⟨css ++ [cs], by simp [hcl], by simpa using hown, fun k c y hc hy => ?_⟩
      by_cases hk : k < xs.length
      · rw [List.getElem?_append_left (by omega)] at hc
        rw [List.getElem?_append_left hk] at hy
        exact E.keep (fun b hb hl => ⟨hsame b hl hb.2, hpq b (.inl hb.1), hggn b hl hb.2⟩) (hel k c y hc hy)
      · have hk1 : k < (xs ++ [x]).length := (List.getElem?_eq_some_iff.1 hy).1
        have hk2 : k = xs.length := by simp at hk1; omega
        subst hk2
        rw [List.getElem?_append_right (by omega)] at hc hy
        simp [hcl] at hc hy
        subst hc hy
        exact E.keep (fun b hb hl => ⟨hsame b hl (hq b hb), hpq b (.inr hb), hggn b hl (hq b hb)⟩) hx
    · rw [h]; trivial
  · rw [at_fset_other _ _ _ _ hj]
    exact (Fct.at l j).stable w w3 (fun c hc hl => hsame c hl (fun e => offs_at (hoff c e) j hj hc)) (S.2 j)

/-- the walk's step over 'append(o, x)' -/
theorem wpList_app {P : Program} {w0 w : World} {l : List Fct} {ops : Array Oper} {rest : List Oper} {ope : Oper} {a : Act} {Q : Exit → Act → World → Prop} {B : Nat} {p p' q : Nat → Prop} {o : Value} {xs : List α} {x : α} {cs : Array Value}
    (hgd : ope.guard = none) (s y : Operand) (t : TypeId) (hop : ope.op = Op.call { callee := Callee.builtin Builtin.append, args := #[s, y], argTypes := #[t, t] }) (E : Elt α) (S : St w0 w l) (i : Nat)
    (hi : Fct.at l i = Fct.owns E B p o xs) (hx : E.is q w cs.toList x) {inf : TypeInfo} {z : Value} {size bytes : Nat} (hu : P.underlying t = some (.slice E.ty)) (h1 : P.info? E.ty = some inf) (h2 : inf.zero = some z) (h3 : inf.size = size) (h4 : inf.bytes = bytes) (h5 : z.cells.size = size) (h6 : size = E.n)
    (hv : a.eval s = o) (hy : a.eval y = .slice (some ⟨w.heap.size, 0, none⟩) 1 1) (hlen : xs.length + 1 ≤ maxLen) (hby : (xs.length + 1) * bytes ≤ 140737488355328) (hB0 : B ≤ w.heap.size) (hB : w0.heap.size ≤ B)
    (hoff : ∀ b, o.ownBlock = some b → B ≤ b → b < w.heap.size → offs b i l) (hq : ∀ b, q b → o.ownBlock ≠ some b) (hpq : ∀ b, p b ∨ q b → p' b)
    (h : ∀ gg cap w3, St w0 w3 (fset l i (.owns E B p' (.slice (some ⟨gg, 0, none⟩) (xs.length + 1) cap) (xs ++ [x]))) → w.heap.size ≤ w3.heap.size → gg < w3.heap.size → (o.ownBlock = some gg ∨ gg = w.heap.size + 1) → wpList P ops Q rest (a.put ope.dst (.slice (some ⟨gg, 0, none⟩) (xs.length + 1) cap)) w3) :
    wpList P ops Q (ope :: rest) a (w.alloc (.cells cs E.ty)) := by
  obtain ⟨css, hcl, ho, hk⟩ := S.owns E i hi
  have hlt := S.ownlt E i hi
  have hel := E.len hx
  refine wpList_append_lies _ hgd s y t hop B E.ty inf z size bytes hu h1 h2 h3 h4 h5 (by rw [h6]; exact E.pos) o xs.length css.flatten hv (by rw [h6]; exact ho.alloc _) ⟨w.heap.size, 0, none⟩ 1 1 cs.toList hy (by rw [hel, h6]; omega)
    (World.news_of_block (cs := cs) (t := E.ty) (fr := (0, 0)) (heap_ofAlloc w _)) (E.one hx) (by omega) hlen hby (by simp; omega) (w.heap.size + 1) (by simp) ?_
  intro gg cap w3 hown3 hgrow3 hat3 hlt3
  exact h gg cap w3 (S.app E i hi hx hcl hk (by rw [h6] at hown3; exact hown3) hgrow3 hat3 hB (fun b hb => hoff b hb (hlt b hb).1 (hlt b hb).2) hq hpq) (by have := hgrow3.size; simp at this; omega) hlt3 hat3
/-- the same inside a drawn region -/
theorem step_app {P : Program} {w0 w : World} {l : List Fct} {ops : Array Oper} {ope : Oper} {a : Act} {K : Act → World → Prop} {Q : Exit → Act → World → Prop} {E0 : Prop} {B : Nat} {p p' q : Nat → Prop} {o : Value} {xs : List α} {x : α} {cs : Array Value}
    (hgd : ope.guard = none) (s y : Operand) (t : TypeId) (hop : ope.op = Op.call { callee := Callee.builtin Builtin.append, args := #[s, y], argTypes := #[t, t] }) (E : Elt α) (S : St w0 w l) (i : Nat)
    (hi : Fct.at l i = Fct.owns E B p o xs) (hx : E.is q w cs.toList x) {inf : TypeInfo} {z : Value} {size bytes : Nat} (hu : P.underlying t = some (.slice E.ty)) (h1 : P.info? E.ty = some inf) (h2 : inf.zero = some z) (h3 : inf.size = size) (h4 : inf.bytes = bytes) (h5 : z.cells.size = size) (h6 : size = E.n)
    (hv : a.eval s = o) (hy : a.eval y = .slice (some ⟨w.heap.size, 0, none⟩) 1 1) (hlen : xs.length + 1 ≤ maxLen) (hby : (xs.length + 1) * bytes ≤ 140737488355328) (hB0 : B ≤ w.heap.size) (hB : w0.heap.size ≤ B)
    (hoff : ∀ b, o.ownBlock = some b → B ≤ b → b < w.heap.size → offs b i l) (hq : ∀ b, q b → o.ownBlock ≠ some b) (hpq : ∀ b, p b ∨ q b → p' b)
    (h : ∀ gg cap w3, St w0 w3 (fset l i (.owns E B p' (.slice (some ⟨gg, 0, none⟩) (xs.length + 1) cap) (xs ++ [x]))) → w.heap.size ≤ w3.heap.size → gg < w3.heap.size → (o.ownBlock = some gg ∨ gg = w.heap.size + 1) → K (a.put ope.dst (.slice (some ⟨gg, 0, none⟩) (xs.length + 1) cap)) w3) :
    if Region.wanted ope (yielded ops a.tmps) = true then Oper.wp P ope a (w.alloc (.cells cs E.ty)) K Q else E0 := by
  obtain ⟨css, hcl, ho, hk⟩ := S.owns E i hi
  have hlt := S.ownlt E i hi
  have hel := E.len hx
  refine step_append_lies _ hgd s y t hop B E.ty inf z size bytes hu h1 h2 h3 h4 h5 (by rw [h6]; exact E.pos) o xs.length css.flatten hv (by rw [h6]; exact ho.alloc _) ⟨w.heap.size, 0, none⟩ 1 1 cs.toList hy (by rw [hel, h6]; omega)
    (World.news_of_block (cs := cs) (t := E.ty) (fr := (0, 0)) (heap_ofAlloc w _)) (E.one hx) (by omega) hlen hby (by simp; omega) (w.heap.size + 1) (by simp) ?_
  intro gg cap w3 hown3 hgrow3 hat3 hlt3
  exact h gg cap w3 (S.app E i hi hx hcl hk (by rw [h6] at hown3; exact hown3) hgrow3 hat3 hB (fun b hb => hoff b hb (hlt b hb).1 (hlt b hb).2) hq hpq) (by have := hgrow3.size; simp at this; omega) hlt3 hat3
end

/-- a tree -/
def treeE : Elt T where
  ty := 45
  n := 2
  is p w cs t := ∃ k sp, cs = [.int .i64 t.head, .slice k t.kids.length (t.kids.length + sp)] ∧ TreeP p w (.agg #[.int .i64 t.head, .slice k t.kids.length (t.kids.length + sp)]) t
  pos := by omega
  len := fun ⟨k, sp, e, _⟩ => by rw [e]; rfl
  one := fun ⟨k, sp, e, _⟩ u hu => by rw [e] at hu; simp at hu; rcases hu with rfl | rfl <;> rfl
  keep := fun hk ⟨k, sp, e, h⟩ => ⟨k, sp, e, h.keep hk⟩
/-- a fact of a claim -/
structure Fc where
  neg : Bool
  l : T
  r : T
def factE : Elt Fc where
  ty := 53
  n := 5
  is p w cs f := ∃ k sp k2 sp2, cs = [.bool f.neg, .int .i64 f.l.head, .slice k f.l.kids.length (f.l.kids.length + sp), .int .i64 f.r.head, .slice k2 f.r.kids.length (f.r.kids.length + sp2)] ∧
    TreeP p w (.agg #[.int .i64 f.l.head, .slice k f.l.kids.length (f.l.kids.length + sp)]) f.l ∧ TreeP p w (.agg #[.int .i64 f.r.head, .slice k2 f.r.kids.length (f.r.kids.length + sp2)]) f.r
  pos := by omega
  len := fun ⟨k, sp, k2, sp2, e, _⟩ => by rw [e]; rfl
  one := fun ⟨k, sp, k2, sp2, e, _⟩ u hu => by rw [e] at hu; simp at hu; rcases hu with rfl | rfl | rfl | rfl | rfl <;> rfl
  keep := fun hk ⟨k, sp, k2, sp2, e, h, h2⟩ => ⟨k, sp, k2, sp2, e, h.keep hk, h2.keep hk⟩
/-- a claim -/
def claimE : Elt (List Fc) where
  ty := 42
  n := 1
  is p w cs fs := ∃ ao sp, cs = [.slice ao fs.length (fs.length + sp)] ∧ factE.Row p w ao fs ∧ fs.length ≤ maxLen
  pos := by omega
  len := fun ⟨k, sp, e, _⟩ => by rw [e]; rfl
  one := fun ⟨k, sp, e, _⟩ u hu => by rw [e] at hu; simp at hu; subst hu; rfl
  keep := fun hk ⟨k, sp, e, h, h2⟩ => ⟨k, sp, e, h.keep hk, h2⟩
end Go.Proofs.YtidgnbdlfngeaaaGreatDoor
namespace Go.Proofs.YtidgnbdlfngeaaaGreatDoor
open Go.RowKit Go.Shelf
set_option linter.unusedVariables false
set_option maxHeartbeats 400000

def treesF : List Fc → List T
  | [] => []
  | f :: r => f.l :: f.r :: treesF r
theorem treesF_append : ∀ (a b : List Fc), treesF (a ++ b) = treesF a ++ treesF b
  | [], b => rfl
  | f :: r, b => by simp [treesF, treesF_append r b]
theorem treesF_take {fs : List Fc} {k : Nat} (h : k < fs.length) : treesF (fs.take (k + 1)) = treesF (fs.take k) ++ [fs[k].l, fs[k].r] := by
  rw [List.take_succ_eq_append_getElem h, treesF_append]; simp [treesF]
theorem treesF_length : ∀ (fs : List Fc), (treesF fs).length = 2 * fs.length
  | [] => rfl
  | f :: r => by simp [treesF, treesF_length r]; omega
theorem info44 : (Tryz.prog.info? 45).map (fun i => (i.zero, i.size, i.bytes)) = some (some (.agg #[.int .i64 0, .slice none 0 0]), 2, 32) := by kernel_rfl

theorem Elt.Row.fact {p : Nat → Prop} {w : World} {ao : Option Addr} {fs : List Fc} (h : factE.Row p w ao fs) {i : Nat} (hi : i < fs.length) : ∃ b off k sp k2 sp2, ao = some ⟨b, off, none⟩ ∧ p b ∧
    w.cell? ⟨b, off + i * 5, none⟩ = some (.bool fs[i].neg) ∧ w.cell? ⟨b, off + i * 5 + 1, none⟩ = some (.int .i64 fs[i].l.head) ∧ w.cell? ⟨b, off + i * 5 + 2, none⟩ = some (.slice k fs[i].l.kids.length (fs[i].l.kids.length + sp)) ∧
    w.cell? ⟨b, off + i * 5 + 3, none⟩ = some (.int .i64 fs[i].r.head) ∧ w.cell? ⟨b, off + i * 5 + 4, none⟩ = some (.slice k2 fs[i].r.kids.length (fs[i].r.kids.length + sp2)) ∧
    TreeP p w (.agg #[.int .i64 fs[i].l.head, .slice k fs[i].l.kids.length (fs[i].l.kids.length + sp)]) fs[i].l ∧ TreeP p w (.agg #[.int .i64 fs[i].r.head, .slice k2 fs[i].r.kids.length (fs[i].r.kids.length + sp2)]) fs[i].r := by
  obtain ⟨b, off, cs, e, hp, hc, k, sp, k2, sp2, rfl, h1, h2⟩ := h i fs[i] (List.getElem?_eq_getElem hi)
  exact ⟨b, off, k, sp, k2, sp2, e, hp, hc 0 _ rfl, hc 1 _ rfl, hc 2 _ rfl, hc 3 _ rfl, hc 4 _ rfl, h1, h2⟩

set_option maxRecDepth 100000 in
set_option maxHeartbeats 4000000 in
theorem trees64 (fs : List Fc) (p : Nat → Prop) (ao : Option Addr) (sp : Nat) (w : World) (h : factE.Row p w ao fs) (hn : fs.length ≤ 1000000) (hp : ∀ b, p b → b < w.heap.size) :
    Calls Tryz.prog 13 #[.agg #[.slice ao fs.length (fs.length + sp)]] w fun e w' => ∃ ro sp, e = .returned (.slice ro (treesF fs).length ((treesF fs).length + sp)) ∧ treeE.Row (fun b => p b ∨ w.heap.size ≤ b) w' ro (treesF fs) ∧ Below w.heap.size w w' := by
  have HR := Lib.hid h; have HP := Lib.hid hp
  obtain ⟨i44, gi, gz0, gz1, gz2⟩ := info_parts info44
  obtain ⟨bx, hbx⟩ : ∃ b, b = w.heap.size := ⟨_, rfl⟩
  have S := ((St.start w).box hbx.symm #[.slice ao fs.length (fs.length + sp)] 42).add (.owns treeE (bx + 1) (fun b => p b ∨ bx ≤ b) (.slice none 0 0) []) (Elt.Own.nil _ _ _ _)
  have hsz : (w.alloc (.cells #[.slice ao fs.length (fs.length + sp)] 42)).heap.size = bx + 1 := by simp [hbx]
  have HBX := Lib.hid hbx
  clear h hp
  go_enter Tryz.func13, Tryz.ntmps13
  go_wp2_with fail
  rw [← hbx]
  clear hbx
  generalize w.alloc (.cells #[.slice ao fs.length (fs.length + sp)] 42) = w0 at S hsz ⊢
  go_loopw [3, 4] (fun o i wr => ∃ k : Nat, k ≤ fs.length ∧ i = .int .i64 k ∧ bx + 1 ≤ wr.heap.size ∧ St w wr [.box bx #[.slice ao fs.length (fs.length + sp)] 42, .owns treeE (bx + 1) (fun b => p b ∨ bx ≤ b) o (treesF (fs.take k))]) (fun _ i _ => fs.length - (intOf i).toNat)
  case atStart => exact ⟨0, by omega, rfl, by omega, S⟩
  case round =>
    obtain ⟨k, hk, rfl, hws, S⟩ := hrel
    obtain ⟨x0, _⟩ := S.one 0
    by_cases hlt : k < fs.length
    · have HT := Lib.hid (treesF_take hlt)
      have hlk : (treesF (fs.take k)).length = 2 * k := by rw [treesF_length]; simp; omega
      obtain ⟨b, off, ka, sa, kb, sb, rfl, hpb, c0, c1, c2, c3, c4, ht1, ht2⟩ := (HR.out.kept S.bel).fact hlt
      have HT1 := Lib.hid ht1
      clear c0 c3 c4 ht1 ht2
      have hlti : (k : Int) < (fs.length : Int) := by omega
      go_wp2_with (at_builtin; refine wpList_app rfl (.tmp 12) (.tmp 19) 38 rfl treeE S 1 rfl (x := fs[k].l) (q := p) (p' := fun b => p b ∨ bx ≤ b) ⟨ka, sa, rfl, HT1.out⟩ Tryz.underlying38 gi gz0 gz1 gz2 rfl rfl rfl rfl ?c1 ?c2 ?c3 ?c4 ?c5 ?c6 ?c7 ?_)
      case c1 => unfold maxLen; omega
      case c2 => omega
      case c3 => omega
      case c4 => have := HBX.out; omega
      case c5 => intro b h1 h2; simp only [offs, offAll, Fct.box, and_true]; omega
      case c6 => intro b h1 h2; have h3 := HP.out b h1; have h4 := (S.ownlt treeE 1 rfl b h2).1; have := HBX.out; omega
      case c7 => intro b h1; rcases h1 with h1 | h1; exact h1; exact .inl h1
      intro gg cap w3 S2 hs3 hgg _
      change St w w3 [.box bx _ 42, .owns treeE (bx + 1) (fun b => p b ∨ bx ≤ b) _ _] at S2
      obtain ⟨y0, _⟩ := S2.one 0
      have HRR := HR.out.kept S2.bel
      obtain ⟨b', off', ka', sa', kb', sb', e', _, _, _, _, d3, d4, _, ht2⟩ := HRR.fact hlt
      obtain ⟨rfl, rfl⟩ : b = b' ∧ off = off' := by simpa using e'
      have HT2 := Lib.hid ht2
      have hl2 : (treesF (fs.take k) ++ [fs[k].l]).length = 2 * k + 1 := by simp [hlk]
      clear ht2 e' HRR
      go_wp2_with (at_builtin; refine wpList_app rfl (.tmp 21) (.tmp 28) 38 rfl treeE S2 1 rfl (x := fs[k].r) (q := p) (p' := fun b => p b ∨ bx ≤ b) ⟨kb', sb', rfl, HT2.out⟩ Tryz.underlying38 gi gz0 gz1 gz2 rfl rfl ?v1 rfl ?c1 ?c2 ?c3 ?c4 ?c5 ?c6 ?c7 ?_)
      case v1 => rfl
      case c1 => unfold maxLen; omega
      case c2 => omega
      case c3 => omega
      case c4 => have := HBX.out; omega
      case c5 => intro b h1 h2; simp only [offs, offAll, Fct.box, and_true]; omega
      case c6 => intro b h1 h2; have h3 := HP.out b h1; have h4 := (S2.ownlt treeE 1 rfl b h2).1; have := HBX.out; omega
      case c7 => intro b h1; rcases h1 with h1 | h1; exact h1; exact .inl h1
      intro gg2 cap2 w4 S3 hs4 hgg2 _
      rw [← HT.out] at S3
      go_wp2_with fail
      go_roundw
      case rel => exact ⟨k + 1, by omega, by go_num, by omega, S3⟩
      case measure => simp [intOf] <;> omega
    · obtain rfl : k = fs.length := by omega
      have HO := Lib.hid (S.owns treeE 1)
      have HB := Lib.hid S.bel
      rw [List.take_length] at HO
      obtain ⟨ro, spo, rfl, hrow, hml⟩ := HO.out.row (fun b h => .inr (by omega))
      have HROW := Lib.hid hrow
      clear hrow HO S
      go_wp2_with fail
      go_ret
      exact ⟨ro, spo, rfl, by rw [← HBX.out]; exact HROW.out, HB.out⟩
end Go.Proofs.YtidgnbdlfngeaaaGreatDoor
