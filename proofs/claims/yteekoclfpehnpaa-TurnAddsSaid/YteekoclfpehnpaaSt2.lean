/-
  A row of trees that is gathered by 'out.Kids = append(out.Kids, x)', as a fact of a walk's state.
-/
import Derived.Test.YteekoclfpehnpaaSt
import Derived.Test.YteekoclfpehnpaaT9
import Derived.Test.YteekoclfpehnpaaT10
namespace Go.Proofs.Yteekoclfpehnpaa
open Go.RowKit Go.Shelf
set_option linter.unusedVariables false

theorem ownsRow_carry {base : Nat} {e : TypeId} {k : Nat} {v : Value} {n : Nat} {xs : List Value} {w w' : World} (h : w.ownsRow base e k v n xs) (hb : ∀ b, v.ownBlock = some b → b < w.heap.size → w'.heap[b]? = w.heap[b]?) : w'.ownsRow base e k v n xs := by
  refine ⟨h.1, ?_⟩
  rcases h.2 with h1 | ⟨g, cap, cur, rfl, hB, hh, hr⟩
  · exact .inl h1
  · exact .inr ⟨g, cap, cur, rfl, hB, (hb g rfl (heap_lt hh)).trans hh, hr⟩
def Fct.own (B : Nat) (p : Nat → Prop) (o : Value) (ks : List T) : Fct :=
  ⟨fun c => o.ownBlock = some c ∨ p c, fun w => RowOwn p B w o ks, fun w w' h ht => by
    obtain ⟨cs, ho, hk⟩ := ht
    exact ⟨cs, ownsRow_carry ho (fun b hb hlt => h b (.inl hb) hlt), fun i hi => by
      obtain ⟨k, sp, c1, c2, c3⟩ := hk i hi
      exact ⟨k, sp, c1, c2, c3.carry (fun b hb hlt => h b (.inr hb.1) hlt)⟩⟩⟩
/-- an own row of any cells -/
def Fct.cells (B : Nat) (e : TypeId) (k : Nat) (o : Value) (n : Nat) (xs : List Value) : Fct :=
  ⟨fun c => o.ownBlock = some c, fun w => w.ownsRow B e k o n xs, fun w w' h ht => ownsRow_carry ht (fun b hb hlt => h b hb hlt)⟩
theorem RowOwn.mono {p q : Nat → Prop} {B : Nat} {w : World} {o : Value} {ks : List T} (h : RowOwn p B w o ks) (hpq : ∀ b, p b → b < w.heap.size → q b) : RowOwn q B w o ks := by
  obtain ⟨cs, ho, hk⟩ := h
  exact ⟨cs, ho, fun i hi => by
    obtain ⟨k, sp, c1, c2, c3⟩ := hk i hi
    exact ⟨k, sp, c1, c2, c3.mono (fun b h h2 => ⟨hpq b h.1 h2, h.2⟩)⟩⟩
theorem St.own {w0 w : World} {l : List Fct} (S : St w0 w l) (i : Nat) {B : Nat} {p : Nat → Prop} {o : Value} {ks : List T} (h : Fct.at l i = Fct.own B p o ks := by rfl) : RowOwn p B w o ks := by
  have := S.2 i
  rw [h] at this; exact this
/-- after the append the box still holds the elder row -/
theorem St.grownBox {w0 w w3 : World} {r : List Fct} {bo B : Nat} {h o : Value} {T' : TypeId} {p : Nat → Prop} {ks : List T} {ob : Obj} (S : St w0 w (.box bo #[h, o] T' :: .own B p o ks :: r)) (hb : bo < B)
    (hg : (w.alloc ob).grownBy w3 o.ownBlock) : w3.heap[bo]? = some (.cells #[h, o] T' (0, 0)) := by
  have h1 := S.block 0
  have h2 := heap_lt h1
  have hne : some bo ≠ o.ownBlock := fun e => by
    obtain ⟨cs, ho, _⟩ := S.own 1
    have := (ho.lt bo e.symm).1; omega
  exact ((hg.block bo (by simp; omega) hne).trans (Below.heap_alloc w ob bo h2)).trans h1
/-- 'out.Kids = append(out.Kids, x)' has been carried out: x's cells, the append, the store -/
theorem St.push {w0 w w3 : World} {r : List Fct} {bo B : Nat} {h o : Value} {p q p' : Nat → Prop} {ks : List T} {x : T} {cs : List Value} {k : Option Addr} {sp gg cap : Nat}
    (S : St w0 w (.box bo #[h, o] 44 :: .own B p o ks :: r)) (hx : TreeP q w (.agg #[.int .i64 x.head, .slice k x.kids.length (x.kids.length + sp)]) x)
    (hl : cs.length = ks.length * 2) (hk : ∀ i, i < ks.length → ∃ k sp, cs[i * 2]? = some (.int .i64 (gK ks i).head) ∧ cs[i * 2 + 1]? = some (.slice k (gK ks i).kids.length ((gK ks i).kids.length + sp)) ∧
      TreeP (fun b => p b ∧ o.ownBlock ≠ some b) w (.agg #[.int .i64 (gK ks i).head, .slice k (gK ks i).kids.length ((gK ks i).kids.length + sp)]) (gK ks i))
    (hown : w3.ownsRow B 44 2 (.slice (some ⟨gg, 0, none⟩) (ks.length + 1) cap) (ks.length + 1) (cs ++ [.int .i64 x.head, .slice k x.kids.length (x.kids.length + sp)]))
    (hg : (w.alloc (.cells #[.int .i64 x.head, .slice k x.kids.length (x.kids.length + sp)] 44)).grownBy w3 o.ownBlock) (hat : o.ownBlock = some gg ∨ gg = w.heap.size + 1)
    (h0 : w0.heap.size ≤ bo) (hb : bo < B) (hB : B ≤ w.heap.size) (hpb : ∀ b, p b → b ≠ bo) (hqb : ∀ b, q b → b ≠ bo) (hqo : ∀ b, q b → o.ownBlock ≠ some b) (hr : unders B r) (hr2 : offAll bo r) (hpq : ∀ b, p b ∨ q b → p' b) :
    St w0 (w3.setCell ⟨bo, 1, none⟩ (.slice (some ⟨gg, 0, none⟩) (ks.length + 1) cap)) (.box bo #[h, .slice (some ⟨gg, 0, none⟩) (ks.length + 1) cap] 44 :: .own B p' (.slice (some ⟨gg, 0, none⟩) (ks.length + 1) cap) (ks ++ [x]) :: r) := by
  have hoB : ∀ b, o.ownBlock = some b → B ≤ b ∧ b < w.heap.size := fun b e => by
    obtain ⟨cs', ho, _⟩ := S.own 1
    exact ho.lt b e
  have h1 := S.grownBox hb hg
  have hbel : Below w0.heap.size w0 w3 := (S.bel.alloc S.size _).grown hg (by simp; have := S.size; omega) (fun c hc => by have := (hoB c hc).1; have := S.size; omega)
  have hsame : ∀ b, b < w.heap.size → b ≠ bo → o.ownBlock ≠ some b → (w3.setCell ⟨bo, 1, none⟩ (.slice (some ⟨gg, 0, none⟩) (ks.length + 1) cap)).heap[b]? = w.heap[b]? := fun b hlt h2 h3 =>
    ((Below.heap_setCell w3 _ _ b h2).trans (hg.block b (by simp; omega) (fun e => h3 e.symm))).trans (Below.heap_alloc w _ b hlt)
  have hggn : ∀ b, b < w.heap.size → o.ownBlock ≠ some b → (Value.slice (some ⟨gg, 0, none⟩) (ks.length + 1) cap).ownBlock ≠ some b := fun b hlt hne e => by
    have e' : gg = b := by simpa [Value.ownBlock] using e
    rcases hat with h4 | h4
    · exact hne (by rw [h4, e'])
    · omega
  refine ⟨hbel.setCell (p := ⟨bo, 1, none⟩) h0 _, fun i => ?_⟩
  match i with
  | 0 => exact box2_set1 h1 _
  | 1 =>
    refine RowOwn.push (ownsRow_setCell_below hown hb _) hl (fun i hi => ?_) ?_
    · obtain ⟨k', sp', e1, e2, e3⟩ := hk i hi
      refine ⟨k', sp', e1, e2, ?_⟩
      have q1 := e3.mono (q := fun b => (p b ∧ o.ownBlock ≠ some b) ∧ b < w.heap.size) (fun b h h2 => ⟨h, h2⟩)
      have q2 := q1.carry (w' := w3.setCell ⟨bo, 1, none⟩ (.slice (some ⟨gg, 0, none⟩) (ks.length + 1) cap)) (fun b h _ => hsame b h.2 (hpb b h.1.1) h.1.2)
      exact q2.mono (fun b h _ => ⟨hpq b (.inl h.1.1), hggn b h.2 h.1.2⟩)
    · have q1 := hx.mono (q := fun b => q b ∧ b < w.heap.size) (fun b h h2 => ⟨h, h2⟩)
      have q2 := q1.carry (w' := w3.setCell ⟨bo, 1, none⟩ (.slice (some ⟨gg, 0, none⟩) (ks.length + 1) cap)) (fun b h _ => hsame b h.2 (hqb b h.1) (hqo b h.1))
      exact q2.mono (fun b h _ => ⟨hpq b (.inr h.1), hggn b h.2 (hqo b h.1)⟩)
  | i + 2 =>
    refine (Fct.at r i).stable w _ (fun c hc hlt => hsame c hlt (fun e => offAll_at hr2 i (e ▸ hc)) (fun e => ?_)) (S.2 (i + 2))
    have := unders_at hr i c hc
    have := (hoB c e).1; omega
end Go.Proofs.Yteekoclfpehnpaa
