/-
  Rows of elements of any kind: how an element lies in cells; a row behind an address; a row that the call itself gathers by append, as a fact of a walk's state.
-/
import Derived.Test.YteekoclfpehnpaaSt2
import Derived.Deep.AppendLies
namespace Go.Proofs.Yteekoclfpehnpaa
open Go.RowKit Go.Shelf
set_option linter.unusedVariables false

/-- how an element lies in cells -/
structure Elt (α : Type) where
  ty : TypeId
  n : Nat
  is : (Nat → Prop) → World → List Value → α → Prop
  pos : 0 < n
  len : ∀ {p : Nat → Prop} {w : World} {cs : List Value} {a : α}, is p w cs a → cs.length = n
  one : ∀ {p : Nat → Prop} {w : World} {cs : List Value} {a : α}, is p w cs a → ∀ u ∈ cs, u.oneCell' = true
  keep : ∀ {p q : Nat → Prop} {w w' : World} {cs : List Value} {a : α}, (∀ b, p b → b < w.heap.size → w'.heap[b]? = w.heap[b]? ∧ q b) → is p w cs a → is q w' cs a

theorem TreeP.keep {p q : Nat → Prop} {w w' : World} {v : Value} {t : T} (hk : ∀ b, p b → b < w.heap.size → w'.heap[b]? = w.heap[b]? ∧ q b) (h : TreeP p w v t) : TreeP q w' v t :=
  ((h.mono (q := fun b => p b ∧ b < w.heap.size) (fun b h1 h2 => ⟨h1, h2⟩)).carry (fun b hb _ => (hk b hb.1 hb.2).1)).mono (fun b hb _ => (hk b hb.1 hb.2).2)

section
variable {α : Type}
/-- a row of elements behind an address -/
def Elt.Row (E : Elt α) (p : Nat → Prop) (w : World) (ao : Option Addr) (xs : List α) : Prop :=
  ∀ (i : Nat) x, xs[i]? = some x → ∃ b off cs, ao = some ⟨b, off, none⟩ ∧ p b ∧ (∀ (j : Nat) u, cs[j]? = some u → w.cell? ⟨b, off + i * E.n + j, none⟩ = some u) ∧ E.is p w cs x
theorem Elt.Row.keep {E : Elt α} {p q : Nat → Prop} {w w' : World} {ao : Option Addr} {xs : List α} (hk : ∀ b, p b → b < w.heap.size → w'.heap[b]? = w.heap[b]? ∧ q b) (h : E.Row p w ao xs) : E.Row q w' ao xs := fun i x hi => by
  obtain ⟨b, off, cs, e, hp, hc, he⟩ := h i x hi
  have hl := E.len he
  have hlt : b < w.heap.size := by
    have hp0 : 0 < cs.length := by have := E.pos; omega
    exact block_lt_of_cell (hc 0 (cs[0]'hp0) (List.getElem?_eq_getElem hp0))
  obtain ⟨h1, h2⟩ := hk b hp hlt
  exact ⟨b, off, cs, e, h2, fun j u hu => by rw [World.cell?_of_block (w := w) h1]; exact hc j u hu, E.keep hk he⟩
theorem Elt.Row.kept {E : Elt α} {p : Nat → Prop} {w w' : World} {ao : Option Addr} {xs : List α} (h : E.Row p w ao xs) (hb : Below w.heap.size w w') : E.Row p w' ao xs := h.keep fun b h1 h2 => ⟨hb.block b h2, h1⟩
theorem Elt.Row.mono {E : Elt α} {p q : Nat → Prop} {w : World} {ao : Option Addr} {xs : List α} (h : E.Row p w ao xs) (hpq : ∀ b, p b → b < w.heap.size → q b) : E.Row q w ao xs := h.keep fun b h1 h2 => ⟨rfl, hpq b h1 h2⟩
theorem Elt.Row.nil {E : Elt α} {p : Nat → Prop} {w : World} {ao : Option Addr} : E.Row p w ao [] := fun i x h => by simp at h

theorem flat_at {β : Type} {n : Nat} : ∀ {css : List (List β)}, (∀ cs ∈ css, cs.length = n) → ∀ {i j : Nat} {cs : List β} {u : β}, css[i]? = some cs → cs[j]? = some u → css.flatten[i * n + j]? = some u
  | [], _, i, j, cs, u, hc, hu => by simp at hc
  | c :: r, h, 0, j, cs, u, hc, hu => by
    simp at hc; subst hc
    have hj := (List.getElem?_eq_some_iff.1 hu).1
    rw [List.flatten_cons, Nat.zero_mul, Nat.zero_add, List.getElem?_append_left hj]; exact hu
  | c :: r, h, i + 1, j, cs, u, hc, hu => by
    have hl := h c (by simp)
    have := flat_at (css := r) (fun cs hcs => h cs (by simp [hcs])) (i := i) (j := j) (by simpa using hc) hu
    rw [List.flatten_cons, List.getElem?_append_right (by rw [hl, Nat.succ_mul]; omega), hl, show (i + 1) * n + j - n = i * n + j by rw [Nat.succ_mul]; omega]
    exact this

/-- a row of elements that the call itself has gathered -/
def Elt.Own (E : Elt α) (p : Nat → Prop) (B : Nat) (w : World) (o : Value) (xs : List α) : Prop :=
  ∃ css : List (List Value), css.length = xs.length ∧ w.ownsRow B E.ty E.n o xs.length css.flatten ∧ ∀ (i : Nat) cs x, css[i]? = some cs → xs[i]? = some x → E.is (fun b => p b ∧ o.ownBlock ≠ some b) w cs x
theorem Elt.Own.nil (E : Elt α) (p : Nat → Prop) (B : Nat) (w : World) : E.Own p B w (.slice none 0 0) [] := ⟨[], rfl, World.ownsRow_nil _ _ _ _, fun i cs x h => by simp at h⟩
theorem Elt.lens {E : Elt α} {p : Nat → Prop} {w : World} {css : List (List Value)} {xs : List α} (hl : css.length = xs.length) (h : ∀ (i : Nat) cs x, css[i]? = some cs → xs[i]? = some x → E.is p w cs x) : ∀ cs ∈ css, cs.length = E.n := fun cs hcs => by
  obtain ⟨i, hi, rfl⟩ := List.getElem_of_mem hcs
  exact E.len (h i _ _ (List.getElem?_eq_getElem hi) (List.getElem?_eq_getElem (by omega)))
theorem Elt.Own.row {E : Elt α} {p : Nat → Prop} {B : Nat} {w : World} {o : Value} {xs : List α} (h : E.Own p B w o xs) (hp : ∀ b, B ≤ b → p b) : ∃ ao sp, o = .slice ao xs.length (xs.length + sp) ∧ E.Row p w ao xs ∧ xs.length ≤ maxLen := by
  obtain ⟨css, hcl, ho, hk⟩ := h
  obtain ⟨_, h2⟩ := ho
  rcases h2 with ⟨rfl, hn⟩ | ⟨g, cap, cur, rfl, hB, hh, hnc, hm, hsz, htk⟩
  · have : xs = [] := List.eq_nil_of_length_eq_zero hn
    subst this
    exact ⟨none, 0, rfl, Elt.Row.nil, by simp⟩
  · refine ⟨some ⟨g, 0, none⟩, cap - xs.length, by congr 1; omega, fun i x hx => ?_, by omega⟩
    have hi := (List.getElem?_eq_some_iff.1 hx).1
    have hcs : css[i]? = some css[i] := List.getElem?_eq_getElem (by omega)
    have hel := hk i _ _ hcs hx
    refine ⟨g, 0, css[i], rfl, hp g hB, fun j u hu => ?_, E.keep (fun b h _ => ⟨rfl, h.1⟩) hel⟩
    have h3 := flat_at (Elt.lens hcl hk) hcs hu
    have hj := (List.getElem?_eq_some_iff.1 hu).1
    have hjl := E.len hel
    rw [← htk, List.getElem?_take, if_pos (by
      have h4 : (i + 1) * E.n ≤ xs.length * E.n := Nat.mul_le_mul_right _ (by omega)
      rw [Nat.succ_mul] at h4; omega)] at h3
    simp only [World.cell?, hh, Nat.zero_add, Option.isSome_none]
    rw [← Array.getElem?_toList, h3]; simp

def Fct.owns (E : Elt α) (B : Nat) (p : Nat → Prop) (o : Value) (xs : List α) : Fct :=
  ⟨fun c => o.ownBlock = some c ∨ p c, fun w => E.Own p B w o xs, fun w w' h ht => by
    obtain ⟨css, hcl, ho, hk⟩ := ht
    exact ⟨css, hcl, ownsRow_carry ho (fun b hb hlt => h b (.inl hb) hlt), fun i cs x h1 h2 => E.keep (fun b hb hlt => ⟨h b (.inr hb.1) hlt, hb⟩) (hk i cs x h1 h2)⟩⟩
/-- a row of elements that lies in the blocks of p -/
def Fct.rowE (E : Elt α) (p : Nat → Prop) (ao : Option Addr) (xs : List α) : Fct :=
  ⟨p, fun w => E.Row p w ao xs, fun w w' h ht => ht.keep (fun b h1 h2 => ⟨h b h1 h2, h1⟩)⟩
/-- an element's cells -/
def Fct.elt (E : Elt α) (p : Nat → Prop) (cs : List Value) (x : α) : Fct :=
  ⟨p, fun w => E.is p w cs x, fun w w' h ht => E.keep (fun b h1 h2 => ⟨h b h1 h2, h1⟩) ht⟩
theorem St.owns {w0 w : World} {l : List Fct} (S : St w0 w l) (E : Elt α) (i : Nat) {B : Nat} {p : Nat → Prop} {o : Value} {xs : List α} (h : Fct.at l i = Fct.owns E B p o xs := by rfl) : E.Own p B w o xs := by
  have := S.2 i
  rw [h] at this; exact this
theorem St.rowE {w0 w : World} {l : List Fct} (S : St w0 w l) (E : Elt α) (i : Nat) {p : Nat → Prop} {ao : Option Addr} {xs : List α} (h : Fct.at l i = Fct.rowE E p ao xs := by rfl) : E.Row p w ao xs := by
  have := S.2 i
  rw [h] at this; exact this
theorem St.ownlt {w0 w : World} {l : List Fct} (S : St w0 w l) (E : Elt α) (i : Nat) {B : Nat} {p : Nat → Prop} {o : Value} {xs : List α} (h : Fct.at l i = Fct.owns E B p o xs := by rfl) : ∀ b, o.ownBlock = some b → B ≤ b ∧ b < w.heap.size := fun b hb => by
  obtain ⟨css, _, ho, _⟩ := S.owns E i h
  exact ho.lt b hb

/-- x has been appended -/
theorem St.app {w0 w w3 : World} {l : List Fct} (S : St w0 w l) (E : Elt α) (i : Nat) {B : Nat} {p p' q : Nat → Prop} {o : Value} {xs : List α} {x : α} {css : List (List Value)} {cs : List Value} {gg cap : Nat} {ob : Obj}
    (hi : Fct.at l i = Fct.owns E B p o xs) (hx : E.is q w cs x) (hcl : css.length = xs.length) (hel : ∀ (i : Nat) cs x, css[i]? = some cs → xs[i]? = some x → E.is (fun b => p b ∧ o.ownBlock ≠ some b) w cs x)
    (hown : w3.ownsRow B E.ty E.n (.slice (some ⟨gg, 0, none⟩) (xs.length + 1) cap) (xs.length + 1) (css.flatten ++ cs))
    (hg : (w.alloc ob).grownBy w3 o.ownBlock) (hat : o.ownBlock = some gg ∨ gg = w.heap.size + 1) (hB : w0.heap.size ≤ B)
    (hoff : ∀ b, o.ownBlock = some b → offs b i l) (hq : ∀ b, q b → o.ownBlock ≠ some b) (hpq : ∀ b, p b ∨ q b → p' b) :
    St w0 w3 (fset l i (.owns E B p' (.slice (some ⟨gg, 0, none⟩) (xs.length + 1) cap) (xs ++ [x]))) := by
  have hlt := S.ownlt E i hi
  have hsame : ∀ b, b < w.heap.size → o.ownBlock ≠ some b → w3.heap[b]? = w.heap[b]? := fun b h1 h2 =>
    (hg.block b (by simp; omega) (fun e => h2 e.symm)).trans (Below.heap_alloc w _ b h1)
  have hggn : ∀ b, b < w.heap.size → o.ownBlock ≠ some b → (Value.slice (some ⟨gg, 0, none⟩) (xs.length + 1) cap).ownBlock ≠ some b := fun b hlt hne e => by
    have e' : gg = b := by simpa [Value.ownBlock] using e
    rcases hat with h4 | h4
    · exact hne (by rw [h4, e'])
    · omega
  refine ⟨(S.bel.alloc S.size _).grown hg (by simp; have := S.size; omega) (fun c hc => by have := (hlt c hc).1; omega), fun j => ?_⟩
  by_cases hj : j = i
  · subst hj
    rcases at_fset_same (.owns E B p' (.slice (some ⟨gg, 0, none⟩) (xs.length + 1) cap) (xs ++ [x])) l j with h | h
    · rw [h]
      refine ⟨css ++ [cs], by simp [hcl], by simpa using hown, fun k c y hc hy => ?_⟩
      by_cases hk : k < xs.length
      · rw [List.getElem?_append_left (by omega)] at hc
        rw [List.getElem?_append_left hk] at hy
        exact E.keep (fun b hb hl => ⟨hsame b hl hb.2, hpq b (.inl hb.1), hggn b hl hb.2⟩) (hel k c y hc hy)
      · have hk1 : k < (xs ++ [x]).length := (List.getElem?_eq_some_iff.1 hy).1
        have hk2 : k = xs.length := by simp at hk1; omega
        subst hk2
        rw [List.getElem?_append_right (by omega)] at hc hy
        simp [hcl] at hc hy
        subst hc hy
        exact E.keep (fun b hb hl => ⟨hsame b hl (hq b hb), hpq b (.inr hb), hggn b hl (hq b hb)⟩) hx
    · rw [h]; trivial
  · rw [at_fset_other _ _ _ _ hj]
    exact (Fct.at l j).stable w w3 (fun c hc hl => hsame c hl (fun e => offs_at (hoff c e) j hj hc)) (S.2 j)

/-- the walk's step over 'append(o, x)' -/
theorem wpList_app {P : Program} {w0 w : World} {l : List Fct} {ops : Array Oper} {rest : List Oper} {ope : Oper} {a : Act} {Q : Exit → Act → World → Prop} {B : Nat} {p p' q : Nat → Prop} {o : Value} {xs : List α} {x : α} {cs : Array Value}
    (hgd : ope.guard = none) (s y : Operand) (t : TypeId) (hop : ope.op = Op.call { callee := Callee.builtin Builtin.append, args := #[s, y], argTypes := #[t, t] }) (E : Elt α) (S : St w0 w l) (i : Nat)
    (hi : Fct.at l i = Fct.owns E B p o xs) (hx : E.is q w cs.toList x) {inf : TypeInfo} {z : Value} {size bytes : Nat} (hu : P.underlying t = some (.slice E.ty)) (h1 : P.info? E.ty = some inf) (h2 : inf.zero = some z) (h3 : inf.size = size) (h4 : inf.bytes = bytes) (h5 : z.cells.size = size) (h6 : size = E.n)
    (hv : a.eval s = o) (hy : a.eval y = .slice (some ⟨w.heap.size, 0, none⟩) 1 1) (hlen : xs.length + 1 ≤ maxLen) (hby : (xs.length + 1) * bytes ≤ 140737488355328) (hB0 : B ≤ w.heap.size) (hB : w0.heap.size ≤ B)
    (hoff : ∀ b, o.ownBlock = some b → B ≤ b → b < w.heap.size → offs b i l) (hq : ∀ b, q b → o.ownBlock ≠ some b) (hpq : ∀ b, p b ∨ q b → p' b)
    (h : ∀ gg cap w3, St w0 w3 (fset l i (.owns E B p' (.slice (some ⟨gg, 0, none⟩) (xs.length + 1) cap) (xs ++ [x]))) → w.heap.size ≤ w3.heap.size → gg < w3.heap.size → (o.ownBlock = some gg ∨ gg = w.heap.size + 1) → wpList P ops Q rest (a.put ope.dst (.slice (some ⟨gg, 0, none⟩) (xs.length + 1) cap)) w3) :
    wpList P ops Q (ope :: rest) a (w.alloc (.cells cs E.ty)) := by
  obtain ⟨css, hcl, ho, hk⟩ := S.owns E i hi
  have hlt := S.ownlt E i hi
  have hel := E.len hx
  refine wpList_append_lies _ hgd s y t hop B E.ty inf z size bytes hu h1 h2 h3 h4 h5 (by rw [h6]; exact E.pos) o xs.length css.flatten hv (by rw [h6]; exact ho.alloc _) ⟨w.heap.size, 0, none⟩ 1 1 cs.toList hy (by rw [hel, h6]; omega)
    (World.news_of_block (cs := cs) (t := E.ty) (fr := (0, 0)) (heap_ofAlloc w _)) (E.one hx) (by omega) hlen hby (by simp; omega) (w.heap.size + 1) (by simp) ?_
  intro gg cap w3 hown3 hgrow3 hat3 hlt3
  exact h gg cap w3 (S.app E i hi hx hcl hk (by rw [h6] at hown3; exact hown3) hgrow3 hat3 hB (fun b hb => hoff b hb (hlt b hb).1 (hlt b hb).2) hq hpq) (by have := hgrow3.size; simp at this; omega) hlt3 hat3
/-- the same inside a drawn region -/
theorem step_app {P : Program} {w0 w : World} {l : List Fct} {ops : Array Oper} {ope : Oper} {a : Act} {K : Act → World → Prop} {Q : Exit → Act → World → Prop} {E0 : Prop} {B : Nat} {p p' q : Nat → Prop} {o : Value} {xs : List α} {x : α} {cs : Array Value}
    (hgd : ope.guard = none) (s y : Operand) (t : TypeId) (hop : ope.op = Op.call { callee := Callee.builtin Builtin.append, args := #[s, y], argTypes := #[t, t] }) (E : Elt α) (S : St w0 w l) (i : Nat)
    (hi : Fct.at l i = Fct.owns E B p o xs) (hx : E.is q w cs.toList x) {inf : TypeInfo} {z : Value} {size bytes : Nat} (hu : P.underlying t = some (.slice E.ty)) (h1 : P.info? E.ty = some inf) (h2 : inf.zero = some z) (h3 : inf.size = size) (h4 : inf.bytes = bytes) (h5 : z.cells.size = size) (h6 : size = E.n)
    (hv : a.eval s = o) (hy : a.eval y = .slice (some ⟨w.heap.size, 0, none⟩) 1 1) (hlen : xs.length + 1 ≤ maxLen) (hby : (xs.length + 1) * bytes ≤ 140737488355328) (hB0 : B ≤ w.heap.size) (hB : w0.heap.size ≤ B)
    (hoff : ∀ b, o.ownBlock = some b → B ≤ b → b < w.heap.size → offs b i l) (hq : ∀ b, q b → o.ownBlock ≠ some b) (hpq : ∀ b, p b ∨ q b → p' b)
    (h : ∀ gg cap w3, St w0 w3 (fset l i (.owns E B p' (.slice (some ⟨gg, 0, none⟩) (xs.length + 1) cap) (xs ++ [x]))) → w.heap.size ≤ w3.heap.size → gg < w3.heap.size → (o.ownBlock = some gg ∨ gg = w.heap.size + 1) → K (a.put ope.dst (.slice (some ⟨gg, 0, none⟩) (xs.length + 1) cap)) w3) :
    if Region.wanted ope (yielded ops a.tmps) = true then Oper.wp P ope a (w.alloc (.cells cs E.ty)) K Q else E0 := by
  obtain ⟨css, hcl, ho, hk⟩ := S.owns E i hi
  have hlt := S.ownlt E i hi
  have hel := E.len hx
  refine step_append_lies _ hgd s y t hop B E.ty inf z size bytes hu h1 h2 h3 h4 h5 (by rw [h6]; exact E.pos) o xs.length css.flatten hv (by rw [h6]; exact ho.alloc _) ⟨w.heap.size, 0, none⟩ 1 1 cs.toList hy (by rw [hel, h6]; omega)
    (World.news_of_block (cs := cs) (t := E.ty) (fr := (0, 0)) (heap_ofAlloc w _)) (E.one hx) (by omega) hlen hby (by simp; omega) (w.heap.size + 1) (by simp) ?_
  intro gg cap w3 hown3 hgrow3 hat3 hlt3
  exact h gg cap w3 (S.app E i hi hx hcl hk (by rw [h6] at hown3; exact hown3) hgrow3 hat3 hB (fun b hb => hoff b hb (hlt b hb).1 (hlt b hb).2) hq hpq) (by have := hgrow3.size; simp at this; omega) hlt3 hat3
end

/-- a tree -/
def treeE : Elt T where
  ty := 44
  n := 2
  is p w cs t := ∃ k sp, cs = [.int .i64 t.head, .slice k t.kids.length (t.kids.length + sp)] ∧ TreeP p w (.agg #[.int .i64 t.head, .slice k t.kids.length (t.kids.length + sp)]) t
  pos := by omega
  len := fun ⟨k, sp, e, _⟩ => by rw [e]; rfl
  one := fun ⟨k, sp, e, _⟩ u hu => by rw [e] at hu; simp at hu; rcases hu with rfl | rfl <;> rfl
  keep := fun hk ⟨k, sp, e, h⟩ => ⟨k, sp, e, h.keep hk⟩
/-- a fact of a claim -/
structure Fc where
  neg : Bool
  l : T
  r : T
def factE : Elt Fc where
  ty := 54
  n := 5
  is p w cs f := ∃ k sp k2 sp2, cs = [.bool f.neg, .int .i64 f.l.head, .slice k f.l.kids.length (f.l.kids.length + sp), .int .i64 f.r.head, .slice k2 f.r.kids.length (f.r.kids.length + sp2)] ∧
    TreeP p w (.agg #[.int .i64 f.l.head, .slice k f.l.kids.length (f.l.kids.length + sp)]) f.l ∧ TreeP p w (.agg #[.int .i64 f.r.head, .slice k2 f.r.kids.length (f.r.kids.length + sp2)]) f.r
  pos := by omega
  len := fun ⟨k, sp, k2, sp2, e, _⟩ => by rw [e]; rfl
  one := fun ⟨k, sp, k2, sp2, e, _⟩ u hu => by rw [e] at hu; simp at hu; rcases hu with rfl | rfl | rfl | rfl | rfl <;> rfl
  keep := fun hk ⟨k, sp, k2, sp2, e, h, h2⟩ => ⟨k, sp, k2, sp2, e, h.keep hk, h2.keep hk⟩
/-- a claim -/
def claimE : Elt (List Fc) where
  ty := 24
  n := 1
  is p w cs fs := ∃ ao sp, cs = [.slice ao fs.length (fs.length + sp)] ∧ factE.Row p w ao fs ∧ fs.length ≤ maxLen
  pos := by omega
  len := fun ⟨k, sp, e, _⟩ => by rw [e]; rfl
  one := fun ⟨k, sp, e, _⟩ u hu => by rw [e] at hu; simp at hu; subst hu; rfl
  keep := fun hk ⟨k, sp, e, h, h2⟩ => ⟨k, sp, e, h.keep hk, h2⟩
end Go.Proofs.Yteekoclfpehnpaa
