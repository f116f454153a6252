/-
  Rows of elements: the cells of a row; a row copied by append; a pair of trees as an element; a place of an own row of pairs written.
-/
import Derived.Test.YtlhnfdjidjgfgaaProg
import Derived.Test.YtlhnfdjidjgfgaaXb
namespace Go.Proofs.Ytlhnfdjidjgfgaa
open Go.RowKit Go.Shelf
set_option linter.unusedVariables false
set_option maxHeartbeats 400000

section
variable {α : Type}
theorem flat_get {β : Type} {n : Nat} : ∀ {css : List (List β)}, (∀ cs ∈ css, cs.length = n) → ∀ {j : Nat} {u : β}, css.flatten[j]? = some u → ∃ i k cs, j = i * n + k ∧ k < n ∧ css[i]? = some cs ∧ cs[k]? = some u
  | [], _, j, u, h => by simp at h
  | c :: r, hl, j, u, h => by
    have h0 := hl c (by simp)
    rw [List.flatten_cons] at h
    by_cases hj : j < c.length
    · rw [List.getElem?_append_left hj] at h
      exact ⟨0, j, c, by omega, by omega, rfl, h⟩
    · rw [List.getElem?_append_right (by omega)] at h
      obtain ⟨i, k, cs, h1, h2, h3, h4⟩ := flat_get (css := r) (fun cs hcs => hl cs (by simp [hcs])) h
      exact ⟨i + 1, k, cs, by rw [Nat.succ_mul]; omega, h2, h3, h4⟩
theorem flat_length {β : Type} {n : Nat} : ∀ {css : List (List β)}, (∀ cs ∈ css, cs.length = n) → css.flatten.length = css.length * n
  | [], _ => by simp
  | c :: r, hl => by
    rw [List.flatten_cons, List.length_append, hl c (by simp), flat_length (css := r) (fun cs hcs => hl cs (by simp [hcs])), List.length_cons, Nat.succ_mul]; omega
/-- the cells of a row -/
theorem Elt.Row.cells {E : Elt α} {p : Nat → Prop} {w : World} {ao : Option Addr} {xs : List α} (h : E.Row p w ao xs) :
    ∃ css : List (List Value), css.length = xs.length ∧ css.flatten.length = xs.length * E.n ∧ (∀ (i : Nat) cs x, css[i]? = some cs → xs[i]? = some x → E.is p w cs x) ∧
      (∀ ad, ao = some ad → ∀ j u, css.flatten[j]? = some u → w.cell? (ad.add j) = some u) ∧ ∀ u ∈ css.flatten, u.oneCell' = true := by
  have hc : ∀ i, ∃ cs : List Value, ∀ x, xs[i]? = some x → (∃ b off, ao = some ⟨b, off, none⟩ ∧ ∀ (j : Nat) u, cs[j]? = some u → w.cell? ⟨b, off + i * E.n + j, none⟩ = some u) ∧ E.is p w cs x := fun i => by
    cases hx : xs[i]? with
    | none => exact ⟨[], fun x h => by cases h⟩
    | some x =>
      obtain ⟨b, off, cs, e, _, h1, h2⟩ := h i x hx
      exact ⟨cs, fun y hy => by obtain rfl := Option.some.inj hy; exact ⟨⟨b, off, e, h1⟩, h2⟩⟩
  obtain ⟨C, hC⟩ := Classical.axiomOfChoice hc
  have hget : ∀ (i : Nat) cs, ((List.range xs.length).map C)[i]? = some cs → cs = C i ∧ i < xs.length := fun i cs h => by
    have hi : i < xs.length := by have := (List.getElem?_eq_some_iff.1 h).1; simpa using this
    rw [List.getElem?_map, List.getElem?_range hi] at h
    exact ⟨(Option.some.inj h).symm, hi⟩
  have hel : ∀ (i : Nat) cs x, ((List.range xs.length).map C)[i]? = some cs → xs[i]? = some x → E.is p w cs x := fun i cs x h1 h2 => by
    obtain ⟨rfl, _⟩ := hget i cs h1
    exact (hC i x h2).2
  have hlen : ∀ cs ∈ (List.range xs.length).map C, cs.length = E.n := Elt.lens (by simp) hel
  refine ⟨(List.range xs.length).map C, by simp, by rw [flat_length hlen]; simp, hel, fun ad hd j u hu => ?_, fun u hu => ?_⟩
  · obtain ⟨i, k, cs, rfl, hk, h1, h2⟩ := flat_get hlen hu
    obtain ⟨rfl, hi⟩ := hget i cs h1
    obtain ⟨⟨b, off, e, h3⟩, _⟩ := hC i _ (List.getElem?_eq_getElem hi)
    rw [hd] at e
    obtain rfl := Option.some.inj e
    rw [Addr.add_lit, ← h3 k u h2]
    congr 2; omega
  · obtain ⟨cs, hcs, hu⟩ := List.mem_flatten.1 hu
    obtain ⟨i, hi, rfl⟩ := List.getElem_of_mem hcs
    have hi' : i < xs.length := by simpa using hi
    exact E.one (hel i _ _ (List.getElem?_eq_getElem hi) (List.getElem?_eq_getElem hi')) u hu
/-- a row copied to new memory -/
theorem Elt.Own.copied {E : Elt α} {p : Nat → Prop} {B : Nat} {w w' : World} {css : List (List Value)} {xs : List α} {v : Value} (hcl : css.length = xs.length) (hel : ∀ (i : Nat) cs x, css[i]? = some cs → xs[i]? = some x → E.is p w cs x)
    (ho : w'.ownsRow B E.ty E.n v xs.length css.flatten) (hk : ∀ b, p b → b < w.heap.size → w'.heap[b]? = w.heap[b]?) (hB : w.heap.size ≤ B) : E.Own p B w' v xs :=
  ⟨css, hcl, ho, fun i cs x h1 h2 => E.keep (fun b hb hlt => ⟨hk b hb hlt, hb, fun e => by have := (ho.lt b e).1; omega⟩) (hel i cs x h1 h2)⟩
end
/-- a pair of trees -/
def pairE (ty : TypeId) : Elt (T × T) where
  ty := ty
  n := 4
  is p w cs f := ∃ k sp k2 sp2, cs = [.int .i64 f.1.head, .slice k f.1.kids.length (f.1.kids.length + sp), .int .i64 f.2.head, .slice k2 f.2.kids.length (f.2.kids.length + sp2)] ∧
    TreeP p w (.agg #[.int .i64 f.1.head, .slice k f.1.kids.length (f.1.kids.length + sp)]) f.1 ∧ TreeP p w (.agg #[.int .i64 f.2.head, .slice k2 f.2.kids.length (f.2.kids.length + sp2)]) f.2
  pos := by omega
  len := fun ⟨k, sp, k2, sp2, e, _⟩ => by rw [e]; rfl
  one := fun ⟨k, sp, k2, sp2, e, _⟩ u hu => by rw [e] at hu; simp at hu; rcases hu with rfl | rfl | rfl | rfl <;> rfl
  keep := fun hk ⟨k, sp, k2, sp2, e, h, h2⟩ => ⟨k, sp, k2, sp2, e, h.keep hk, h2.keep hk⟩
theorem Elt.Row.pair {ty : TypeId} {p : Nat → Prop} {w : World} {ao : Option Addr} {rs : List (T × T)} (h : (pairE ty).Row p w ao rs) {i : Nat} {f : T × T} (hi : rs[i]? = some f) : ∃ b off k sp k2 sp2, ao = some ⟨b, off, none⟩ ∧ p b ∧
    w.cell? ⟨b, off + i * 4, none⟩ = some (.int .i64 f.1.head) ∧ w.cell? ⟨b, off + i * 4 + 1, none⟩ = some (.slice k f.1.kids.length (f.1.kids.length + sp)) ∧
    w.cell? ⟨b, off + i * 4 + 2, none⟩ = some (.int .i64 f.2.head) ∧ w.cell? ⟨b, off + i * 4 + 3, none⟩ = some (.slice k2 f.2.kids.length (f.2.kids.length + sp2)) ∧
    TreeP p w (.agg #[.int .i64 f.1.head, .slice k f.1.kids.length (f.1.kids.length + sp)]) f.1 ∧ TreeP p w (.agg #[.int .i64 f.2.head, .slice k2 f.2.kids.length (f.2.kids.length + sp2)]) f.2 := by
  obtain ⟨b, off, cs, e, hp, hc, k, sp, k2, sp2, rfl, h1, h2⟩ := h i f hi
  exact ⟨b, off, k, sp, k2, sp2, e, hp, hc 0 _ rfl, hc 1 _ rfl, hc 2 _ rfl, hc 3 _ rfl, h1, h2⟩
theorem flat_set4 {β : Type} {a b c d : β} : ∀ {css : List (List β)} {j : Nat}, (∀ cs ∈ css, cs.length = 4) → j < css.length →
    ((((css.flatten.set (j * 4) a).set (j * 4 + 1) b).set (j * 4 + 2) c).set (j * 4 + 3) d) = (css.set j [a, b, c, d]).flatten
  | [], j, _, h => by simp at h
  | x :: r, 0, hl, _ => by
    have h0 := hl x (by simp)
    match x, h0 with
    | [x0, x1, x2, x3], _ => rfl
  | x :: r, j + 1, hl, h => by
    have h0 := hl x (by simp)
    have ih := flat_set4 (css := r) (j := j) (a := a) (b := b) (c := c) (d := d) (fun cs hcs => hl cs (by simp [hcs])) (by simpa using h)
    match x, h0 with
    | [x0, x1, x2, x3], _ =>
      simp only [List.flatten_cons, List.set_cons_succ]
      rw [← ih]
      rw [show (j + 1) * 4 = j * 4 + 4 by omega]
      rfl
theorem pair_set {ty : TypeId} {p : Nat → Prop} {B : Nat} {w : World} {g cap : Nat} {xs : List (T × T)} (h : (pairE ty).Own p B w (.slice (some ⟨g, 0, none⟩) xs.length cap) xs) {j : Nat} (hj : j < xs.length) {f : T × T} {k k2 : Option Addr} {sp sp2 : Nat}
    (h1 : TreeP (fun b => p b ∧ b ≠ g) w (.agg #[.int .i64 f.1.head, .slice k f.1.kids.length (f.1.kids.length + sp)]) f.1) (h2 : TreeP (fun b => p b ∧ b ≠ g) w (.agg #[.int .i64 f.2.head, .slice k2 f.2.kids.length (f.2.kids.length + sp2)]) f.2) :
    (pairE ty).Own p B ((((w.setCell ⟨g, j * 4, none⟩ (.int .i64 f.1.head)).setCell ⟨g, j * 4 + 1, none⟩ (.slice k f.1.kids.length (f.1.kids.length + sp))).setCell ⟨g, j * 4 + 2, none⟩ (.int .i64 f.2.head)).setCell ⟨g, j * 4 + 3, none⟩ (.slice k2 f.2.kids.length (f.2.kids.length + sp2)))
      (.slice (some ⟨g, 0, none⟩) xs.length cap) (xs.set j f) := by
  obtain ⟨css, hcl, ho, hk⟩ := h
  have hln := Elt.lens hcl hk
  have h3 := ((((ho.stored (j * 4) (.int .i64 f.1.head)).1.stored (j * 4 + 1) (.slice k f.1.kids.length (f.1.kids.length + sp))).1.stored (j * 4 + 2) (.int .i64 f.2.head)).1.stored (j * 4 + 3) (.slice k2 f.2.kids.length (f.2.kids.length + sp2))).1
  have hln4 : ∀ cs ∈ css, cs.length = 4 := hln
  rw [flat_set4 hln4 (by omega)] at h3
  have hne : ∀ b, b ≠ g ↔ (Value.slice (some ⟨g, 0, none⟩) xs.length cap).ownBlock ≠ some b := fun b => by simp [Value.ownBlock, eq_comm]
  have hsame : ∀ b, b ≠ g → ((((w.setCell ⟨g, j * 4, none⟩ (.int .i64 f.1.head)).setCell ⟨g, j * 4 + 1, none⟩ (.slice k f.1.kids.length (f.1.kids.length + sp))).setCell ⟨g, j * 4 + 2, none⟩ (.int .i64 f.2.head)).setCell ⟨g, j * 4 + 3, none⟩ (.slice k2 f.2.kids.length (f.2.kids.length + sp2))).heap[b]? = w.heap[b]? := fun b hb =>
    (Below.heap_setCell _ _ _ b hb).trans ((Below.heap_setCell _ _ _ b hb).trans ((Below.heap_setCell _ _ _ b hb).trans (Below.heap_setCell _ _ _ b hb)))
  refine ⟨css.set j _, by simp [hcl], by rw [List.length_set]; exact h3, fun i cs x hc hx => ?_⟩
  by_cases e : i = j
  · subst e
    rw [List.getElem?_set_self (by omega)] at hc
    rw [List.getElem?_set_self hj] at hx
    obtain rfl := Option.some.inj hc; obtain rfl := Option.some.inj hx
    exact ⟨k, sp, k2, sp2, rfl, h1.keep (fun b hb _ => ⟨hsame b hb.2, hb.1, (hne b).1 hb.2⟩), h2.keep (fun b hb _ => ⟨hsame b hb.2, hb.1, (hne b).1 hb.2⟩)⟩
  · rw [List.getElem?_set_ne (fun h => e h.symm)] at hc hx
    exact (pairE ty).keep (fun b hb _ => ⟨hsame b ((hne b).2 hb.2), hb⟩) (hk i cs x hc hx)
/-- a place of the row is written -/
theorem St.pset {w0 w : World} {l : List Fct} (S : St w0 w l) (i : Nat) {ty : TypeId} {B : Nat} {p : Nat → Prop} {g cap : Nat} {xs : List (T × T)} (hi : Fct.at l i = Fct.owns (pairE ty) B p (.slice (some ⟨g, 0, none⟩) xs.length cap) xs) {j : Nat} (hj : j < xs.length) {f : T × T} {k k2 : Option Addr} {sp sp2 : Nat}
    (h1 : TreeP (fun b => p b ∧ b ≠ g) w (.agg #[.int .i64 f.1.head, .slice k f.1.kids.length (f.1.kids.length + sp)]) f.1) (h2 : TreeP (fun b => p b ∧ b ≠ g) w (.agg #[.int .i64 f.2.head, .slice k2 f.2.kids.length (f.2.kids.length + sp2)]) f.2)
    (h0 : w0.heap.size ≤ g) (hoff : offs g i l) :
    St w0 ((((w.setCell ⟨g, j * 4, Option.none⟩ (.int .i64 f.1.head)).setCell ⟨g, j * 4 + 1, Option.none⟩ (.slice k f.1.kids.length (f.1.kids.length + sp))).setCell ⟨g, j * 4 + 2, Option.none⟩ (.int .i64 f.2.head)).setCell ⟨g, j * 4 + 3, Option.none⟩ (.slice k2 f.2.kids.length (f.2.kids.length + sp2)))
      (fset l i (.owns (pairE ty) B p (.slice (some ⟨g, 0, Option.none⟩) xs.length cap) (xs.set j f))) := by
  refine ⟨(((S.bel.setCell (p := ⟨g, j * 4, Option.none⟩) h0 _).setCell (p := ⟨g, j * 4 + 1, Option.none⟩) h0 _).setCell (p := ⟨g, j * 4 + 2, Option.none⟩) h0 _).setCell (p := ⟨g, j * 4 + 3, Option.none⟩) h0 _, fun m => ?_⟩
  by_cases hm : m = i
  · subst hm
    rcases at_fset_same (.owns (pairE ty) B p (.slice (some ⟨g, 0, Option.none⟩) xs.length cap) (xs.set j f)) l m with h | h
    · rw [h]; exact pair_set (S.owns (pairE ty) m hi) hj h1 h2
    · rw [h]; trivial
  · rw [at_fset_other _ _ _ _ hm]
    refine (Fct.at l m).stable w _ (fun c hc hlt => ?_) (S.2 m)
    have hne : c ≠ g := fun e => offs_at hoff m hm (e ▸ hc)
    exact (Below.heap_setCell _ _ _ c hne).trans ((Below.heap_setCell _ _ _ c hne).trans ((Below.heap_setCell _ _ _ c hne).trans (Below.heap_setCell _ _ _ c hne)))
end Go.Proofs.Ytlhnfdjidjgfgaa
