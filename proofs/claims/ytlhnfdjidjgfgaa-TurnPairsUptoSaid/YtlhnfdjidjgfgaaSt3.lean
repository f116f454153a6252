/-
  Walks: tree.Bind, tree.Do.
  Walks: tree.Do.
  Walks: tree.Max.
  Walks: tree.Vars.
  A row of trees that the call itself has made (make(api.Bind, n)), written place by place.
  A row of trees that is written place by place, as a fact of a walk's state; facts ahead of an unknown list.
-/
import Derived.Test.YtlhnfdjidjgfgaaProg
import Derived.Test.YtlhnfdjidjgfgaaBase
import Derived.Test.YtlhnfdjidjgfgaaXa
import Derived.Test.YtlhnfdjidjgfgaaXd
import Derived.Test.YtlhnfdjidjgfgaaXb
import Derived.Laws.OwnMore
namespace Go.Proofs.Ytlhnfdjidjgfgaa
open Go.RowKit Go.Shelf
set_option linter.unusedVariables false
set_option maxHeartbeats 400000

end Go.Proofs.Ytlhnfdjidjgfgaa
namespace Go.Proofs.Ytlhnfdjidjgfgaa
open Go.RowKit Go.Shelf
set_option linter.unusedVariables false
set_option maxHeartbeats 400000


/-- tree.Do, plain -/
def zeroT : T := .node 0 []
theorem low_of_pre (t : T) (h : ∀ x ∈ t.pre, okN x) : t.low := low_of_nodes t 0 (by rw [(nodes_scan t 0).1, scan_ok h])
theorem field28_0 (c a : Int) (w : World) : (Instr.field 29 (.agg #[.int .i64 c, .int .i64 a]) 0).run Try.prog w = .ok (.int .i64 c) w := by kernel_rfl
theorem TreeP.zero (p : Nat → Prop) (w : World) : TreeP p w (.agg #[.int .i64 0, .slice none 0 0]) zeroT := TreeP.leaf p w 0
end Go.Proofs.Ytlhnfdjidjgfgaa
namespace Go.Proofs.Ytlhnfdjidjgfgaa
open Go.RowKit Go.Shelf
set_option linter.unusedVariables false
set_option maxHeartbeats 400000
attribute [local go_sem] Oper.semAt_some

def mark (D : Nat) : Deferred := { target := .collected D, args := #[] }
def Marks (B : Nat) (W : World) (ds : List Nat) : Prop := ds.Nodup ∧ ∀ D ∈ ds, B ≤ D ∧ W.heap[D]? = some (.deferred (some []))
theorem Marks.nil (B : Nat) (W : World) : Marks B W [] := ⟨List.nodup_nil, fun D h => by cases h⟩
theorem Marks.kept {B : Nat} {W W' : World} {ds : List Nat} (h : Marks B W ds) (hk : ∀ (D : Nat), W.heap[D]? = some (Obj.deferred (some [])) → W'.heap[D]? = W.heap[D]?) : Marks B W' ds :=
  ⟨h.1, fun D hD => ⟨(h.2 D hD).1, (hk D (h.2 D hD).2).trans (h.2 D hD).2⟩⟩
theorem Marks.cons {B : Nat} {W W' : World} {ds : List Nat} {D : Nat} (h : Marks B W ds) (hk : ∀ (b : Nat), b < W.heap.size → W.heap[b]? = some (Obj.deferred (some [])) → W'.heap[b]? = W.heap[b]?) (hD : W'.heap[D]? = some (.deferred (some []))) (hB : B ≤ D) (hn : W.heap.size ≤ D) : Marks B W' (D :: ds) := by
  have h' : Marks B W' ds := h.kept fun b hb => hk b (Array.getElem?_eq_some_iff.1 hb).1 hb
  refine ⟨List.nodup_cons.2 ⟨fun hm => ?_, h'.1⟩, fun b hb => ?_⟩
  · have := (Array.getElem?_eq_some_iff.1 (h.2 D hm).2).1; omega
  · rcases List.mem_cons.1 hb with rfl | hb
    · exact ⟨hB, hD⟩
    · exact h'.2 b hb
/-- the marks are taken up: what is no mark lies as it lay -/
theorem leaves_marks {n B : Nat} {P : Program} {fn : Func} {tmps : Array Value} {R : Ending → World → Prop} : ∀ (ds : List Nat) (w : World), Marks B w ds →
    (∀ w', Below B w w' → (∀ (b : Nat) (cs : Array Value) (ty : TypeId) (fz : Nat × Nat), w.heap[b]? = some (Obj.cells cs ty fz) → w'.heap[b]? = w.heap[b]?) → ∃ v, (results fn tmps).run P w' = .ok v w' ∧ R (.returned v) w') → B ≤ w.heap.size →
    LeavesInM Fence.wide n P fn tmps R (ds.map mark) .returning w
  | [], w, _, H, _ => H w (Below.refl _ _) (fun _ _ _ _ _ => rfl)
  | D :: ds, w, hm, H, hB => by
    have hD := hm.2 D (by simp)
    have hn := List.nodup_cons.1 hm.1
    refine ⟨by simp, .inl ⟨D, w.putObj D (.deferred none), rfl, run_takeDeferred hD.2, ?_⟩⟩
    have hbD : Below B w (w.putObj D (.deferred none)) := (Below.refl B w).grown (grownBy_putObj' w D _) hB (fun k e => by cases e; exact hD.1)
    refine leaves_marks ds _ ⟨hn.2, fun b hb => ⟨(hm.2 b (by simp [hb])).1, (World.putObj_heap_other (fun e => hn.1 (by rw [← e]; exact hb))).trans (hm.2 b (by simp [hb])).2⟩⟩ ?_ (by simpa using hB)
    intro w' hb' hk'
    refine H w' (hbD.trans hb') fun b cs ty fz hb => ?_
    have hne : b ≠ D := fun e => by subst e; rw [hD.2] at hb; cases hb
    have e1 : (w.putObj D (.deferred none)).heap[b]? = w.heap[b]? := World.putObj_heap_other hne
    exact (hk' b cs ty fz (e1.trans hb)).trans e1
theorem bodyM_marks {n B : Nat} {P : Program} {fn : Func} {tmps : Array Value} {R : Ending → World → Prop} {ds : List Nat} {w : World} (hm : Marks B w ds) (hB : B ≤ w.heap.size)
    (H : ∀ w', Below B w w' → (∀ (b : Nat) (cs : Array Value) (ty : TypeId) (fz : Nat × Nat), w.heap[b]? = some (Obj.cells cs ty fz) → w'.heap[b]? = w.heap[b]?) → ∃ v, (results fn tmps).run P w' = .ok v w' ∧ R (.returned v) w') :
    bodyPostM Fence.wide n P fn R .ret { tmps := tmps, defers := ds.map mark } w := leaves_marks ds w hm H hB

theorem ownFrom_frame {β : Type} (W2 : World) (bn B : Nat) (hB : W2.heap.size ≤ B) : OwnFrom B (fun (_ : β) V => ∀ b, b < W2.heap.size → b ≠ bn → V.heap[b]? = W2.heap[b]?) :=
  fun _ X Y row hs hg hr b h1 h2 => by
    have hX := hs b h1 h2
    have hlt : b < X.heap.size := by
      rw [Array.getElem?_eq_getElem h1] at hX
      exact (Array.getElem?_eq_some_iff.1 hX).1
    exact (hg.block b hlt (fun e => by have := (hr b e.symm).1; omega)).trans hX
theorem frame_size {V W2 : World} {bn : Nat} {o : Obj} (h : ∀ b, b < W2.heap.size → b ≠ bn → V.heap[b]? = W2.heap[b]?) (hb : W2.heap[bn]? = some o) (hlv : bn < V.heap.size) : W2.heap.size ≤ V.heap.size := by
  by_cases h0 : W2.heap.size ≤ V.heap.size
  · exact h0
  · have h1 : V.heap.size < W2.heap.size := by omega
    have h2 := h V.heap.size h1 (by omega)
    rw [Array.getElem?_eq_getElem h1] at h2
    have := (Array.getElem?_eq_some_iff.1 h2).1
    omega

end Go.Proofs.Ytlhnfdjidjgfgaa
namespace Go.Proofs.Ytlhnfdjidjgfgaa
open Go.RowKit Go.Shelf
set_option linter.unusedVariables false
set_option maxHeartbeats 400000
attribute [local go_sem] Oper.semAt_some

theorem head_le_most (t : T) : ∀ x ∈ t.pre, -x.head ≤ t.most := by
  intro x hx
  have h1 := maxV_pre t 0 (by omega)
  have key : ∀ (l : List T) (m : Int), ∀ x ∈ l, -x.head ≤ maxV l m := by
    intro l
    induction l with
    | nil => intro m x hx; cases hx
    | cons y r ih =>
      intro m x hx
      rw [maxV]
      rcases List.mem_cons.1 hx with rfl | hx
      · have := maxV_le r (max m (-x.head)); omega
      · exact ih _ x hx
  have h2 := key t.pre 0 x hx
  have := t.most_nonneg
  omega
theorem most_le (t : T) (h : ∀ x ∈ t.pre, okN x) : t.most ≤ 8 := by
  have h1 := maxV_pre t 0 (by omega)
  have key : ∀ (l : List T) (m : Int), m ≤ 8 → (∀ x ∈ l, okN x) → maxV l m ≤ 8 := by
    intro l
    induction l with
    | nil => intro m hm _; exact hm
    | cons y r ih =>
      intro m hm hx
      rw [maxV]
      have := (hx y (by simp)).1
      exact ih _ (by simp only [badHead] at this; omega) (fun x h => hx x (by simp [h]))
  have h2 := key t.pre 0 (by omega) h
  have := t.most_nonneg
  omega

end Go.Proofs.Ytlhnfdjidjgfgaa
namespace Go.Proofs.Ytlhnfdjidjgfgaa
open Go.RowKit Go.Shelf
set_option linter.unusedVariables false
set_option maxHeartbeats 400000

def RowSet (p : Nat → Prop) (B : Nat) (w : World) (g n : Nat) (ks : Nat → T) : Prop :=
  ∃ cs : List Value, w.ownsRow B 38 2 (.slice (some ⟨g, 0, none⟩) n n) n cs ∧ ∀ i, i < n → ∃ k sp, cs[i * 2]? = some (.int .i64 (ks i).head) ∧ cs[i * 2 + 1]? = some (.slice k (ks i).kids.length ((ks i).kids.length + sp)) ∧
    TreeP (fun b => p b ∧ b ≠ g) w (.agg #[.int .i64 (ks i).head, .slice k (ks i).kids.length ((ks i).kids.length + sp)]) (ks i)
theorem RowSet.lt {p : Nat → Prop} {B : Nat} {w : World} {g n : Nat} {ks : Nat → T} (h : RowSet p B w g n ks) : B ≤ g ∧ g < w.heap.size := by
  obtain ⟨cs, h1, _⟩ := h; exact World.ownsRow.lt h1 g rfl
theorem RowSet.get {p : Nat → Prop} {B : Nat} {w : World} {g n : Nat} {ks : Nat → T} (h : RowSet p B w g n ks) {i : Nat} (hi : i < n) :
    ∃ k sp, w.cell? ⟨g, i * 2, none⟩ = some (.int .i64 (ks i).head) ∧ w.cell? ⟨g, i * 2 + 1, none⟩ = some (.slice k (ks i).kids.length ((ks i).kids.length + sp)) ∧
      w.frozen? ⟨g, i * 2, none⟩ = false ∧ w.frozen? ⟨g, i * 2 + 1, none⟩ = false ∧
      TreeP (fun b => p b ∧ b ≠ g) w (.agg #[.int .i64 (ks i).head, .slice k (ks i).kids.length ((ks i).kids.length + sp)]) (ks i) := by
  obtain ⟨cs, h1, h2⟩ := h
  obtain ⟨k, sp, e1, e2, e3⟩ := h2 i hi
  refine ⟨k, sp, ?_, ?_, h1.frozenAt _, h1.frozenAt _, e3⟩
  · rw [h1.cellAt _ (by omega)]; exact e1
  · rw [h1.cellAt _ (by omega)]; exact e2
def setT (ks : Nat → T) (j : Nat) (t : T) : Nat → T := fun i => if i = j then t else ks i
theorem RowSet.set {p : Nat → Prop} {B : Nat} {w : World} {g n : Nat} {ks : Nat → T} (h : RowSet p B w g n ks) {j : Nat} (hj : j < n) {t : T} {k : Option Addr} {sp : Nat}
    (ht : TreeP (fun b => p b ∧ b ≠ g) w (.agg #[.int .i64 t.head, .slice k t.kids.length (t.kids.length + sp)]) t) :
    RowSet p B ((w.setCell ⟨g, j * 2, none⟩ (.int .i64 t.head)).setCell ⟨g, j * 2 + 1, none⟩ (.slice k t.kids.length (t.kids.length + sp))) g n (setT ks j t) := by
  obtain ⟨cs, h1, h2⟩ := h
  have hcl : cs.length = n * 2 := h1.1
  refine ⟨(cs.set (j * 2) (.int .i64 t.head)).set (j * 2 + 1) (.slice k t.kids.length (t.kids.length + sp)), ((h1.stored (j * 2) _).1.stored (j * 2 + 1) _).1, fun i hi => ?_⟩
  by_cases e : i = j
  · subst e
    refine ⟨k, sp, ?_, ?_, ?_⟩
    · simp only [setT, if_pos]
      rw [List.getElem?_set_ne (by omega), List.getElem?_set_self (by omega)]
    · simp only [setT, if_pos]
      rw [List.getElem?_set_self (by simp; omega)]
    · simp only [setT, if_pos]
      exact (ht.setCell (a := ⟨g, i * 2, none⟩) (fun h => h.2 rfl) _).setCell (a := ⟨g, i * 2 + 1, none⟩) (fun h => h.2 rfl) _
  · obtain ⟨k', sp', e1, e2, e3⟩ := h2 i hi
    simp only [setT, if_neg e]
    refine ⟨k', sp', ?_, ?_, (e3.setCell (a := ⟨g, j * 2, none⟩) (fun h => h.2 rfl) _).setCell (a := ⟨g, j * 2 + 1, none⟩) (fun h => h.2 rfl) _⟩
    · rw [List.getElem?_set_ne (by omega), List.getElem?_set_ne (by omega)]; exact e1
    · rw [List.getElem?_set_ne (by omega), List.getElem?_set_ne (by omega)]; exact e2
theorem RowSet.congr {p : Nat → Prop} {B : Nat} {w : World} {g n : Nat} {ks ls : Nat → T} (h : RowSet p B w g n ks) (he : ∀ i, i < n → ks i = ls i) : RowSet p B w g n ls := by
  obtain ⟨cs, h1, h2⟩ := h
  refine ⟨cs, h1, fun i hi => ?_⟩
  rw [← he i hi]; exact h2 i hi
theorem RowSet.mono {p q : Nat → Prop} {B : Nat} {w : World} {g n : Nat} {ks : Nat → T} (h : RowSet p B w g n ks) (hpq : ∀ b, p b → b < w.heap.size → q b) : RowSet q B w g n ks := by
  obtain ⟨cs, h1, h2⟩ := h
  refine ⟨cs, h1, fun i hi => ?_⟩
  obtain ⟨k, sp, e1, e2, e3⟩ := h2 i hi
  exact ⟨k, sp, e1, e2, e3.mono (fun b h h2 => ⟨hpq b h.1 h2, h.2⟩)⟩
def listT (n : Nat) (ks : Nat → T) : List T := (List.range n).map ks
theorem listT_length (n : Nat) (ks : Nat → T) : (listT n ks).length = n := by simp [listT]
theorem listT_gK {n : Nat} {ks : Nat → T} {i : Nat} (hi : i < n) : gK (listT n ks) i = ks i := by simp [listT, gK, hi]
theorem RowSet.row {p : Nat → Prop} {B : Nat} {w : World} {g n : Nat} {ks : Nat → T} (h : RowSet p B w g n ks) : RowP (fun b => (p b ∧ b ≠ g) ∨ b = g) w (some ⟨g, 0, none⟩) (listT n ks) := fun i hi => by
  rw [listT_length] at hi
  obtain ⟨k, sp, e1, e2, _, _, e3⟩ := h.get hi
  rw [listT_gK hi]
  exact ⟨g, 0, k, sp, rfl, .inr rfl, by simpa using e1, by simpa using e2, e3.mono (fun b h _ => .inl h)⟩
theorem RowSet.made {w w' : World} {g n : Nat} {B : Nat} (h : w'.ownsRow B 38 2 (.slice (some ⟨g, 0, none⟩) n n) n (madeCells (Value.agg #[.int .i64 0, .slice none 0 0]).cells (n * 2)).toList) (p : Nat → Prop) : RowSet p B w' g n (fun _ => zeroT) := by
  have e0 : (i0 : Nat) → i0 < n * 2 → (madeCells (Value.agg #[.int .i64 0, .slice none 0 0]).cells (n * 2)).toList[i0]? = some (#[Value.int .i64 0, .slice none 0 0][i0 % 2]!) := by
    intro i0 hi0
    have hz : (Value.agg #[.int .i64 0, .slice none 0 0]).cells = #[Value.int .i64 0, .slice none 0 0] := by rfl
    rw [hz]
    simp [madeCells, hi0]
  refine ⟨_, h, fun i hi => ⟨none, 0, ?_, ?_, TreeP.zero _ _⟩⟩
  · rw [e0 _ (by omega), Nat.mul_mod_left]; rfl
  · rw [e0 _ (by omega), show (i * 2 + 1) % 2 = 1 by omega]; rfl
end Go.Proofs.Ytlhnfdjidjgfgaa
namespace Go.Proofs.Ytlhnfdjidjgfgaa
open Go.RowKit Go.Shelf
set_option linter.unusedVariables false

theorem RowP.mono {p q : Nat → Prop} {w : World} {ao : Option Addr} {ks : List T} (h : RowP p w ao ks) (hpq : ∀ b, p b → b < w.heap.size → q b) : RowP q w ao ks := fun i hi => by
  obtain ⟨b, off, k, sp, e, hp, h1, h2, h3⟩ := h i hi
  exact ⟨b, off, k, sp, e, hpq b hp (block_lt_of_cell h1), h1, h2, h3.mono hpq⟩
theorem at_mem {l : List Fct} {w : World} (h : ∀ f ∈ l, f.holds w) : ∀ i, (Fct.at l i).holds w := by
  induction l with
  | nil => intro i; trivial
  | cons f r ih =>
    intro i
    cases i with
    | zero => exact h f (by simp)
    | succ i => exact ih (fun g hg => h g (by simp [hg])) i
theorem mem_at {l : List Fct} {w : World} (h : ∀ i, (Fct.at l i).holds w) : ∀ f ∈ l, f.holds w := by
  induction l with
  | nil => intro f hf; cases hf
  | cons f r ih =>
    intro g hg
    rcases List.mem_cons.1 hg with rfl | hg
    · exact h 0
    · exact ih (fun i => h (i + 1)) g hg
theorem St.sub {w0 w : World} {l l' : List Fct} (S : St w0 w l) (h : ∀ f ∈ l', f ∈ l) : St w0 w l' := ⟨S.1, at_mem fun f hf => mem_at S.2 f (h f hf)⟩
theorem St.cons {w0 w : World} {l : List Fct} (S : St w0 w l) (f : Fct) (hf : f.holds w) : St w0 w (f :: l) := ⟨S.1, fun i => match i with | 0 => hf | i + 1 => S.2 i⟩
theorem St.boxH {w0 w : World} {l : List Fct} (S : St w0 w l) {b : Nat} (hb : w.heap.size = b) (cs : Array Value) (T : TypeId) : St w0 (w.alloc (.cells cs T)) (.box b cs T :: l) := by
  subst hb
  exact (S.alloc _).cons (.box _ cs T) (heap_ofAlloc w (.cells cs T))
theorem St.tail {w0 w : World} {f : Fct} {l : List Fct} (S : St w0 w (f :: l)) : St w0 w l := S.drop

def Fct.rset (p : Nat → Prop) (B g n : Nat) (bs : Nat → T) : Fct :=
  ⟨fun c => c = g ∨ p c, fun w => RowSet p B w g n bs, fun w w' h ht => by
    obtain ⟨cs, ho, hk⟩ := ht
    exact ⟨cs, ownsRow_carry ho (fun b hb hlt => h b (.inl (by simpa [Value.ownBlock] using hb.symm)) hlt), fun i hi => by
      obtain ⟨k, sp, c1, c2, c3⟩ := hk i hi
      exact ⟨k, sp, c1, c2, c3.carry (fun b hb hlt => h b (.inr hb.1) hlt)⟩⟩⟩
theorem St.rset {w0 w : World} {l : List Fct} (S : St w0 w l) (i : Nat) {p : Nat → Prop} {B g n : Nat} {bs : Nat → T} (h : Fct.at l i = Fct.rset p B g n bs := by rfl) : RowSet p B w g n bs := by
  have := S.2 i
  rw [h] at this; exact this
/-- a place of the row is written -/
theorem St.rput {w0 w : World} {l : List Fct} {p p' : Nat → Prop} {B g n : Nat} {bs : Nat → T} (S : St w0 w (.rset p B g n bs :: l)) {j : Nat} (hj : j < n) {t : T} {k : Option Addr} {sp : Nat}
    (ht : TreeP p' w (.agg #[.int .i64 t.head, .slice k t.kids.length (t.kids.length + sp)]) t) (hp : ∀ b, p b → p' b) (hg : ¬ p' g) (h0 : w0.heap.size ≤ g) (hoff : offAll g l) :
    St w0 ((w.setCell ⟨g, j * 2, Option.none⟩ (.int .i64 t.head)).setCell ⟨g, j * 2 + 1, Option.none⟩ (.slice k t.kids.length (t.kids.length + sp))) (.rset p' B g n (setT bs j t) :: l) := by
  refine ⟨(S.bel.setCell (p := ⟨g, j * 2, Option.none⟩) h0 _).setCell (p := ⟨g, j * 2 + 1, Option.none⟩) h0 _, fun i => ?_⟩
  match i with
  | 0 => exact ((S.rset 0).mono (fun b h _ => hp b h)).set hj (ht.mono fun b h _ => ⟨h, fun e => hg (e ▸ h)⟩)
  | i + 1 =>
    refine (Fct.at l i).stable w _ (fun c hc hlt => ?_) (S.2 (i + 1))
    have hne : c ≠ g := fun e => offAll_at hoff i (e ▸ hc)
    exact (Below.heap_setCell _ _ _ _ hne).trans (Below.heap_setCell _ _ _ _ hne)
theorem St.rmono {w0 w : World} {l : List Fct} {p p' : Nat → Prop} {B g n : Nat} {bs : Nat → T} (S : St w0 w (.rset p B g n bs :: l)) (hp : ∀ b, p b → b < w.heap.size → p' b) : St w0 w (.rset p' B g n bs :: l) :=
  S.tail.cons (.rset p' B g n bs) ((S.rset 0).mono hp)
end Go.Proofs.Ytlhnfdjidjgfgaa
