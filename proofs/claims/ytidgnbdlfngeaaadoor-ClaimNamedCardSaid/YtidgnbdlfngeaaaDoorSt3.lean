/-
  A row of trees that is written place by place, as a fact of a walk's state; facts ahead of an unknown list.
-/
import Derived.Test.YtidgnbdlfngeaaaDoorXb
import Derived.Test.YtidgnbdlfngeaaaDoorT29
namespace Go.Proofs.YtidgnbdlfngeaaaDoor
open Go.RowKit Go.Shelf
set_option linter.unusedVariables false

theorem RowP.mono {p q : Nat → Prop} {w : World} {ao : Option Addr} {ks : List T} (h : RowP p w ao ks) (hpq : ∀ b, p b → b < w.heap.size → q b) : RowP q w ao ks := fun i hi => by
  obtain ⟨b, off, k, sp, e, hp, h1, h2, h3⟩ := h i hi
  exact ⟨b, off, k, sp, e, hpq b hp (block_lt_of_cell h1), h1, h2, h3.mono hpq⟩
theorem at_mem {l : List Fct} {w : World} (h : ∀ f ∈ l, f.holds w) : ∀ i, (Fct.at l i).holds w := by
  induction l with
  | nil => intro i; trivial
  | cons f r ih =>
    intro i
    cases i with
    | zero => exact h f (by simp)
    | succ i => exact ih (fun g hg => h g (by simp [hg])) i
theorem mem_at {l : List Fct} {w : World} (h : ∀ i, (Fct.at l i).holds w) : ∀ f ∈ l, f.holds w := by
  induction l with
  | nil => intro f hf; cases hf
  | cons f r ih =>
    intro g hg
    rcases List.mem_cons.1 hg with rfl | hg
    · exact h 0
    · exact ih (fun i => h (i + 1)) g hg
theorem St.sub {w0 w : World} {l l' : List Fct} (S : St w0 w l) (h : ∀ f ∈ l', f ∈ l) : St w0 w l' := ⟨S.1, at_mem fun f hf => mem_at S.2 f (h f hf)⟩
theorem St.cons {w0 w : World} {l : List Fct} (S : St w0 w l) (f : Fct) (hf : f.holds w) : St w0 w (f :: l) := ⟨S.1, fun i => match i with | 0 => hf | i + 1 => S.2 i⟩
theorem St.boxH {w0 w : World} {l : List Fct} (S : St w0 w l) {b : Nat} (hb : w.heap.size = b) (cs : Array Value) (T : TypeId) : St w0 (w.alloc (.cells cs T)) (.box b cs T :: l) := by
  subst hb
  exact (S.alloc _).cons (.box _ cs T) (heap_ofAlloc w (.cells cs T))
theorem St.tail {w0 w : World} {f : Fct} {l : List Fct} (S : St w0 w (f :: l)) : St w0 w l := S.drop

def fdel : List Fct → Nat → List Fct
  | [], _ => []
  | _ :: r, 0 => r
  | f :: r, i + 1 => f :: fdel r i
def fins (f : Fct) : Nat → List Fct → List Fct
  | 0, l => f :: l
  | _ + 1, [] => [f]
  | i + 1, g :: r => g :: fins f i r
theorem mem_fdel {f : Fct} : ∀ {l : List Fct} {i : Nat}, f ∈ fdel l i → f ∈ l
  | [], _, h => by cases h
  | _ :: _, 0, h => by simp [fdel] at h; simp [h]
  | g :: r, i + 1, h => by
    simp only [fdel, List.mem_cons] at h ⊢
    rcases h with h | h
    · exact .inl h
    · exact .inr (mem_fdel h)
theorem mem_fins {f g : Fct} : ∀ {i : Nat} {l : List Fct}, f ∈ fins g i l → f = g ∨ f ∈ l
  | 0, _, h => by simpa [fins] using h
  | _ + 1, [], h => by simp [fins] at h; exact .inl h
  | i + 1, k :: r, h => by
    simp only [fins, List.mem_cons] at h ⊢
    rcases h with h | h
    · exact .inr (.inl h)
    · rcases mem_fins h with h | h
      · exact .inl h
      · exact .inr (.inr h)
/-- fact number i to the front -/
theorem St.pull {w0 w : World} {l : List Fct} (S : St w0 w l) (i : Nat) : St w0 w (Fct.at l i :: fdel l i) := ⟨S.1, fun j => match j with
  | 0 => S.2 i
  | j + 1 => at_mem (fun f hf => mem_at S.2 f (mem_fdel hf)) j⟩
/-- the front fact back to place i -/
theorem St.back {w0 w : World} {f : Fct} {l : List Fct} (S : St w0 w (f :: l)) (i : Nat) : St w0 w (fins f i l) :=
  ⟨S.1, at_mem fun g hg => mem_at S.2 g (by rcases mem_fins hg with h | h <;> simp [h])⟩

def Fct.rset (p : Nat → Prop) (B g n : Nat) (bs : Nat → T) : Fct :=
  ⟨fun c => c = g ∨ p c, fun w => RowSet p B w g n bs, fun w w' h ht => by
    obtain ⟨cs, ho, hk⟩ := ht
    exact ⟨cs, ownsRow_carry ho (fun b hb hlt => h b (.inl (by simpa [Value.ownBlock] using hb.symm)) hlt), fun i hi => by
      obtain ⟨k, sp, c1, c2, c3⟩ := hk i hi
      exact ⟨k, sp, c1, c2, c3.carry (fun b hb hlt => h b (.inr hb.1) hlt)⟩⟩⟩
theorem St.rset {w0 w : World} {l : List Fct} (S : St w0 w l) (i : Nat) {p : Nat → Prop} {B g n : Nat} {bs : Nat → T} (h : Fct.at l i = Fct.rset p B g n bs := by rfl) : RowSet p B w g n bs := by
  have := S.2 i
  rw [h] at this; exact this
/-- a place of the row is written -/
theorem St.rput {w0 w : World} {l : List Fct} {p p' : Nat → Prop} {B g n : Nat} {bs : Nat → T} (S : St w0 w (.rset p B g n bs :: l)) {j : Nat} (hj : j < n) {t : T} {k : Option Addr} {sp : Nat}
    (ht : TreeP p' w (.agg #[.int .i64 t.head, .slice k t.kids.length (t.kids.length + sp)]) t) (hp : ∀ b, p b → p' b) (hg : ¬ p' g) (h0 : w0.heap.size ≤ g) (hoff : offAll g l) :
    St w0 ((w.setCell ⟨g, j * 2, Option.none⟩ (.int .i64 t.head)).setCell ⟨g, j * 2 + 1, Option.none⟩ (.slice k t.kids.length (t.kids.length + sp))) (.rset p' B g n (setT bs j t) :: l) := by
  refine ⟨(S.bel.setCell (p := ⟨g, j * 2, Option.none⟩) h0 _).setCell (p := ⟨g, j * 2 + 1, Option.none⟩) h0 _, fun i => ?_⟩
  match i with
  | 0 => exact ((S.rset 0).mono (fun b h _ => hp b h)).set hj (ht.mono fun b h _ => ⟨h, fun e => hg (e ▸ h)⟩)
  | i + 1 =>
    refine (Fct.at l i).stable w _ (fun c hc hlt => ?_) (S.2 (i + 1))
    have hne : c ≠ g := fun e => offAll_at hoff i (e ▸ hc)
    exact (Below.heap_setCell _ _ _ _ hne).trans (Below.heap_setCell _ _ _ _ hne)
theorem St.rmono {w0 w : World} {l : List Fct} {p p' : Nat → Prop} {B g n : Nat} {bs : Nat → T} (S : St w0 w (.rset p B g n bs :: l)) (hp : ∀ b, p b → b < w.heap.size → p' b) : St w0 w (.rset p' B g n bs :: l) :=
  S.tail.cons (.rset p' B g n bs) ((S.rset 0).mono hp)
end Go.Proofs.YtidgnbdlfngeaaaDoor
