/-
  Facts that stay while an iterator goes on: rows that a body gathers.
-/
import Derived.Test.YtlhnfdjidjgfgaaProg
import Derived.Test.YtlhnfdjidjgfgaaXd
import Derived.Test.YtlhnfdjidjgfgaaSt3
import Derived.Test.YtlhnfdjidjgfgaaV4
namespace Go.Proofs.Ytlhnfdjidjgfgaa
open Go.RowKit Go.Shelf
set_option linter.unusedVariables false

/-- a fact that stays when nothing turns but what is made anew and one block from B on that holds no cells -/
def GoodF (B : Nat) (f : Fct) : Prop := ∀ W W' row, f.holds W → W.grownBy W' row → (∀ r, row = some r → B ≤ r ∧ ∃ o : Obj, W.heap[r]? = some o ∧ o.isCells = false) → f.holds W'
theorem GoodF.box (B b : Nat) (cs : Array Value) (T : TypeId) : GoodF B (.box b cs T) := fun W W' row hs hg hr => by
  have hs' : W.heap[b]? = some (.cells cs T (0, 0)) := hs
  refine (Fct.box b cs T).stable W W' (fun c hc hlt => ?_) hs
  have hc' : c = b := hc
  subst hc'
  refine hg.block c hlt (fun e => ?_)
  obtain ⟨_, o, ho, hn⟩ := hr c e.symm
  rw [hs'] at ho
  obtain rfl := Option.some.inj ho
  cases hn
theorem GoodF.below {B : Nat} {f : Fct} (h : ∀ b, f.foot b → b < B) : GoodF B f := fun W W' row hs hg hr =>
  f.stable W W' (fun c hc hlt => hg.block c hlt (fun e => by have := (hr c e.symm).1; have := h c hc; omega)) hs
theorem GoodF.owns {α : Type} (E : Elt α) {B B0 : Nat} {p : Nat → Prop} {o : Value} {xs : List α} (h : ∀ b, p b → b < B) : GoodF B (.owns E B0 p o xs) := fun W W' row hs hg hr => by
  obtain ⟨css, hcl, ho, hk⟩ := (show E.Own p B0 W o xs from hs)
  refine (show E.Own p B0 W' o xs from ⟨css, hcl, ownsRow_carry ho (fun b hb hlt => hg.block b hlt (fun e => ?_)), fun i cs x h1 h2 => E.keep (fun b hb hlt => ⟨hg.block b hlt (fun e => by have := (hr b e.symm).1; have := h b hb.1; omega), hb⟩) (hk i cs x h1 h2)⟩)
  obtain ⟨_, o', ho', hn⟩ := hr b e.symm
  rcases ho.2 with ⟨rfl, _⟩ | ⟨g, cap, cur, rfl, _, hgg, _⟩
  · simp [Value.ownBlock] at hb
  · have hbg : g = b := by simpa [Value.ownBlock] using hb
    subst hbg
    rw [hgg] at ho'
    obtain rfl := Option.some.inj ho'
    cases hn
theorem ownFrom_St {β : Type} {w : World} {B : Nat} (hB : w.heap.size ≤ B) (hsz : ∀ W : World, True) (R : β → Value → Prop) (l : β → Value → List Fct) (h : ∀ s ov, R s ov → ∀ f ∈ l s ov, GoodF B f) (H : Nat) :
    OwnFrom B (fun s V => ∃ ov, St w V (l s ov) ∧ R s ov ∧ H ≤ V.heap.size) := fun s X Y row hs hg hr => by
  obtain ⟨ov, S, hR, hH⟩ := hs
  refine ⟨ov, ⟨S.bel.grown hg (S.size) (fun c hc => by have := (hr c hc).1; omega), at_mem fun f hf => h s ov hR f hf X Y row (mem_at S.2 f hf) hg hr⟩, hR, Nat.le_trans hH hg.size⟩
theorem keepsFrom_own {B : Nat} {w w' : World} {o : Value} {base : Nat} {e : TypeId} {k n : Nat} {xs : List Value} (ho : w.ownsRow base e k o n xs) (hg : w.grownBy w' o.ownBlock) : KeepsFrom B w w' :=
  ⟨hg.size, fun b ob hB hb hn => by
    refine (hg.block b (Array.getElem?_eq_some_iff.1 hb).1 (fun e => ?_)).trans hb
    rcases ho.2 with ⟨rfl, _⟩ | ⟨g, cap, cur, rfl, _, hgg, _⟩
    · simp [Value.ownBlock] at e
    · have hbg : b = g := by simpa [Value.ownBlock] using e
      subst hbg
      rw [hgg] at hb
      obtain rfl := Option.some.inj hb
      cases hn⟩
end Go.Proofs.Ytlhnfdjidjgfgaa
namespace Go.Proofs.Ytlhnfdjidjgfgaa
open Go.RowKit Go.Shelf
set_option linter.unusedVariables false
section
variable {α : Type}
/-- a row of elements: its own blocks satisfy r, those of its elements p -/
def Elt.RowQ (E : Elt α) (r p : Nat → Prop) (w : World) (ao : Option Addr) (xs : List α) : Prop :=
  ∀ (i : Nat) x, xs[i]? = some x → ∃ b off cs, ao = some ⟨b, off, none⟩ ∧ r b ∧ (∀ (j : Nat) u, cs[j]? = some u → w.cell? ⟨b, off + i * E.n + j, none⟩ = some u) ∧ E.is p w cs x
theorem Elt.RowQ.keep {E : Elt α} {r p r' q : Nat → Prop} {w w' : World} {ao : Option Addr} {xs : List α} (hr : ∀ b, r b → b < w.heap.size → w'.heap[b]? = w.heap[b]? ∧ r' b) (hk : ∀ b, p b → b < w.heap.size → w'.heap[b]? = w.heap[b]? ∧ q b) (h : E.RowQ r p w ao xs) : E.RowQ r' q w' ao xs := fun i x hi => by
  obtain ⟨b, off, cs, e, hp, hc, he⟩ := h i x hi
  have hl := E.len he
  have hlt : b < w.heap.size := by
    have hp0 : 0 < cs.length := by have := E.pos; omega
    exact block_lt_of_cell (hc 0 (cs[0]'hp0) (List.getElem?_eq_getElem hp0))
  obtain ⟨h1, h2⟩ := hr b hp hlt
  exact ⟨b, off, cs, e, h2, fun j u hu => by rw [World.cell?_of_block (w := w) h1]; exact hc j u hu, E.keep hk he⟩
theorem Elt.RowQ.row {E : Elt α} {r p : Nat → Prop} {w : World} {ao : Option Addr} {xs : List α} (h : E.RowQ r p w ao xs) : E.Row (fun b => r b ∨ p b) w ao xs := fun i x hi => by
  obtain ⟨b, off, cs, e, hp, hc, he⟩ := h i x hi
  exact ⟨b, off, cs, e, .inl hp, hc, E.keep (fun b hb _ => ⟨rfl, .inr hb⟩) he⟩
theorem Elt.Own.rowQ {E : Elt α} {p : Nat → Prop} {B : Nat} {w : World} {o : Value} {xs : List α} (h : E.Own p B w o xs) : ∃ ao sp, o = .slice ao xs.length (xs.length + sp) ∧ E.RowQ (fun b => B ≤ b ∧ b < w.heap.size) p w ao xs ∧ xs.length ≤ maxLen := by
  obtain ⟨css, hcl, ho, hk⟩ := h
  obtain ⟨_, h2⟩ := ho
  rcases h2 with ⟨rfl, hn⟩ | ⟨g, cap, cur, rfl, hB, hh, hnc, hm, hsz, htk⟩
  · have : xs = [] := List.eq_nil_of_length_eq_zero hn
    subst this
    exact ⟨none, 0, rfl, fun i x h => by simp at h, by simp⟩
  · refine ⟨some ⟨g, 0, none⟩, cap - xs.length, by congr 1; omega, fun i x hx => ?_, by omega⟩
    have hi := (List.getElem?_eq_some_iff.1 hx).1
    have hcs : css[i]? = some css[i] := List.getElem?_eq_getElem (by omega)
    have hel := hk i _ _ hcs hx
    refine ⟨g, 0, css[i], rfl, ⟨hB, (Array.getElem?_eq_some_iff.1 hh).1⟩, fun j u hu => ?_, E.keep (fun b h _ => ⟨rfl, h.1⟩) hel⟩
    have h3 := flat_at (Elt.lens hcl hk) hcs hu
    have hj := (List.getElem?_eq_some_iff.1 hu).1
    have hjl := E.len hel
    rw [← htk, List.getElem?_take, if_pos (by
      have h4 : (i + 1) * E.n ≤ xs.length * E.n := Nat.mul_le_mul_right _ (by omega)
      rw [Nat.succ_mul] at h4; omega)] at h3
    simp only [World.cell?, hh, Nat.zero_add, Option.isSome_none]
    rw [← Array.getElem?_toList, h3]; simp
def Fct.rowQ (E : Elt α) (r p : Nat → Prop) (ao : Option Addr) (xs : List α) : Fct :=
  ⟨fun b => r b ∨ p b, fun w => E.RowQ r p w ao xs, fun w w' h ht => ht.keep (fun b h1 h2 => ⟨h b (.inl h1) h2, h1⟩) (fun b h1 h2 => ⟨h b (.inr h1) h2, h1⟩)⟩
theorem St.rowQ {w0 w : World} {l : List Fct} (S : St w0 w l) (E : Elt α) (i : Nat) {r p : Nat → Prop} {ao : Option Addr} {xs : List α} (h : Fct.at l i = Fct.rowQ E r p ao xs := by rfl) : E.RowQ r p w ao xs := by
  have := S.2 i
  rw [h] at this; exact this
end
theorem Elt.RowQ.tree {r p : Nat → Prop} {w : World} {ao : Option Addr} {ts : List T} (h : treeE.RowQ r p w ao ts) {i : Nat} (hi : i < ts.length) : ∃ b off k sp, ao = some ⟨b, off, none⟩ ∧ r b ∧ w.cell? ⟨b, off + i * 2, none⟩ = some (.int .i64 (gK ts i).head) ∧
    w.cell? ⟨b, off + i * 2 + 1, none⟩ = some (.slice k (gK ts i).kids.length ((gK ts i).kids.length + sp)) ∧ TreeP p w (.agg #[.int .i64 (gK ts i).head, .slice k (gK ts i).kids.length ((gK ts i).kids.length + sp)]) (gK ts i) := by
  obtain ⟨b, off, cs, e, hr, hc, k, sp, rfl, ht⟩ := h i (gK ts i) (by rw [gK_get hi]; exact List.getElem?_eq_getElem hi)
  exact ⟨b, off, k, sp, e, hr, hc 0 _ rfl, hc 1 _ rfl, ht⟩
/-- a tree that lay there when the call began -/
theorem TreeP.before {p : Nat → Prop} {w w' : World} {v : Value} {t : T} (h : TreeP p w' v t) (hp : ∀ b, p b → b < w.heap.size) (hb : Below w.heap.size w w') : TreeP p w v t := by
  have h2 : TreeP (fun b => p b ∧ b < w.heap.size) w' v t := h.mono (fun b h1 _ => ⟨h1, hp b h1⟩)
  exact (h2.carry (w' := w) (fun b h1 _ => (hb.block b h1.2).symm)).mono (fun b h1 _ => h1.1)
end Go.Proofs.Ytlhnfdjidjgfgaa
