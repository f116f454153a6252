/-
  Facts that stay while an iterator goes on; the marks of the deferred calls.
-/
import Derived.Test.YtlpoedjipncbhaaProg
import Derived.Test.YtlpoedjipncbhaaS0
import Derived.Test.YtlpoedjipncbhaaRs
import Derived.RangeFuncWrites
import Derived.RangeFuncFrom
namespace Go.Proofs.Ytlpoedjipncbhaa
open Go.RowKit Go.Shelf
set_option linter.unusedVariables false
attribute [local go_sem] Oper.semAt_some

/-- a fact that stays when nothing turns but what is made anew and one block from B on that holds no cells -/
def GoodF (B : Nat) (f : Fct) : Prop := ∀ W W' row, f.holds W → W.grownBy W' row → (∀ r, row = some r → B ≤ r ∧ ∃ o : Obj, W.heap[r]? = some o ∧ o.isCells = false) → f.holds W'
theorem GoodF.box (B b : Nat) (cs : Array Value) (T : TypeId) : GoodF B (.box b cs T) := fun W W' row hs hg hr => by
  have hs' : W.heap[b]? = some (.cells cs T (0, 0)) := hs
  refine (Fct.box b cs T).stable W W' (fun c hc hlt => ?_) hs
  have hc' : c = b := hc
  subst hc'
  refine hg.block c hlt (fun e => ?_)
  obtain ⟨_, o, ho, hn⟩ := hr c e.symm
  rw [hs'] at ho
  obtain rfl := Option.some.inj ho
  cases hn
theorem GoodF.below {B : Nat} {f : Fct} (h : ∀ b, f.foot b → b < B) : GoodF B f := fun W W' row hs hg hr =>
  f.stable W W' (fun c hc hlt => hg.block c hlt (fun e => by have := (hr c e.symm).1; have := h c hc; omega)) hs
theorem GoodF.owns {α : Type} (E : Elt α) {B B0 : Nat} {p : Nat → Prop} {o : Value} {xs : List α} (h : ∀ b, p b → b < B) : GoodF B (.owns E B0 p o xs) := fun W W' row hs hg hr => by
  obtain ⟨css, hcl, ho, hk⟩ := (show E.Own p B0 W o xs from hs)
  refine (show E.Own p B0 W' o xs from ⟨css, hcl, ownsRow_carry ho (fun b hb hlt => hg.block b hlt (fun e => ?_)), fun i cs x h1 h2 => E.keep (fun b hb hlt => ⟨hg.block b hlt (fun e => by have := (hr b e.symm).1; have := h b hb.1; omega), hb⟩) (hk i cs x h1 h2)⟩)
  obtain ⟨_, o', ho', hn⟩ := hr b e.symm
  rcases ho.2 with ⟨rfl, _⟩ | ⟨g, cap, cur, rfl, _, hgg, _⟩
  · simp [Value.ownBlock] at hb
  · have hbg : g = b := by simpa [Value.ownBlock] using hb
    subst hbg
    rw [hgg] at ho'
    obtain rfl := Option.some.inj ho'
    cases hn
theorem ownFrom_St {β : Type} {w : World} {B : Nat} (hB : w.heap.size ≤ B) (hsz : ∀ W : World, True) (R : β → Value → Prop) (l : β → Value → List Fct) (h : ∀ s ov, R s ov → ∀ f ∈ l s ov, GoodF B f) (H : Nat) :
    OwnFrom B (fun s V => ∃ ov, St w V (l s ov) ∧ R s ov ∧ H ≤ V.heap.size) := fun s X Y row hs hg hr => by
  obtain ⟨ov, S, hR, hH⟩ := hs
  refine ⟨ov, ⟨S.bel.grown hg (S.size) (fun c hc => by have := (hr c hc).1; omega), at_mem fun f hf => h s ov hR f hf X Y row (mem_at S.2 f hf) hg hr⟩, hR, Nat.le_trans hH hg.size⟩
theorem keepsFrom_own {B : Nat} {w w' : World} {o : Value} {base : Nat} {e : TypeId} {k n : Nat} {xs : List Value} (ho : w.ownsRow base e k o n xs) (hg : w.grownBy w' o.ownBlock) : KeepsFrom B w w' :=
  ⟨hg.size, fun b ob hB hb hn => by
    refine (hg.block b (Array.getElem?_eq_some_iff.1 hb).1 (fun e => ?_)).trans hb
    rcases ho.2 with ⟨rfl, _⟩ | ⟨g, cap, cur, rfl, _, hgg, _⟩
    · simp [Value.ownBlock] at e
    · have hbg : b = g := by simpa [Value.ownBlock] using e
      subst hbg
      rw [hgg] at hb
      obtain rfl := Option.some.inj hb
      cases hn⟩
def mark (D : Nat) : Deferred := { target := .collected D, args := #[] }
def Marks (B : Nat) (W : World) (ds : List Nat) : Prop := ds.Nodup ∧ ∀ D ∈ ds, B ≤ D ∧ W.heap[D]? = some (.deferred (some []))
theorem Marks.nil (B : Nat) (W : World) : Marks B W [] := ⟨List.nodup_nil, fun D h => by cases h⟩
theorem Marks.kept {B : Nat} {W W' : World} {ds : List Nat} (h : Marks B W ds) (hk : ∀ (D : Nat), W.heap[D]? = some (Obj.deferred (some [])) → W'.heap[D]? = W.heap[D]?) : Marks B W' ds :=
  ⟨h.1, fun D hD => ⟨(h.2 D hD).1, (hk D (h.2 D hD).2).trans (h.2 D hD).2⟩⟩
theorem Marks.below {B : Nat} {W W' : World} {ds : List Nat} (h : Marks B W ds) (hb : Below W.heap.size W W') : Marks B W' ds := h.kept fun D hD => hb.block D (Array.getElem?_eq_some_iff.1 hD).1
theorem Marks.cons {B : Nat} {W W' : World} {ds : List Nat} {D : Nat} (h : Marks B W ds) (hk : ∀ (b : Nat), b < W.heap.size → W.heap[b]? = some (Obj.deferred (some [])) → W'.heap[b]? = W.heap[b]?) (hD : W'.heap[D]? = some (.deferred (some []))) (hB : B ≤ D) (hn : W.heap.size ≤ D) : Marks B W' (D :: ds) := by
  have h' : Marks B W' ds := h.kept fun b hb => hk b (Array.getElem?_eq_some_iff.1 hb).1 hb
  refine ⟨List.nodup_cons.2 ⟨fun hm => ?_, h'.1⟩, fun b hb => ?_⟩
  · have := (Array.getElem?_eq_some_iff.1 (h.2 D hm).2).1; omega
  · rcases List.mem_cons.1 hb with rfl | hb
    · exact ⟨hB, hD⟩
    · exact h'.2 b hb
/-- the marks are taken up: what is no mark lies as it lay -/
theorem leaves_marks {n B : Nat} {P : Program} {fn : Func} {tmps : Array Value} {R : Ending → World → Prop} : ∀ (ds : List Nat) (w : World), Marks B w ds →
    (∀ w', Below B w w' → (∀ (b : Nat) (cs : Array Value) (ty : TypeId) (fz : Nat × Nat), w.heap[b]? = some (Obj.cells cs ty fz) → w'.heap[b]? = w.heap[b]?) → ∃ v, (results fn tmps).run P w' = .ok v w' ∧ R (.returned v) w') → B ≤ w.heap.size →
    LeavesInM Fence.wide n P fn tmps R (ds.map mark) .returning w
  | [], w, _, H, _ => H w (Below.refl _ _) (fun _ _ _ _ _ => rfl)
  | D :: ds, w, hm, H, hB => by
    have hD := hm.2 D (by simp)
    have hn := List.nodup_cons.1 hm.1
    refine ⟨by simp, .inl ⟨D, w.putObj D (.deferred none), rfl, run_takeDeferred hD.2, ?_⟩⟩
    have hbD : Below B w (w.putObj D (.deferred none)) := (Below.refl B w).grown (grownBy_putObj' w D _) hB (fun k e => by cases e; exact hD.1)
    refine leaves_marks ds _ ⟨hn.2, fun b hb => ⟨(hm.2 b (by simp [hb])).1, (World.putObj_heap_other (fun e => hn.1 (by rw [← e]; exact hb))).trans (hm.2 b (by simp [hb])).2⟩⟩ ?_ (by simpa using hB)
    intro w' hb' hk'
    refine H w' (hbD.trans hb') fun b cs ty fz hb => ?_
    have hne : b ≠ D := fun e => by subst e; rw [hD.2] at hb; cases hb
    have e1 : (w.putObj D (.deferred none)).heap[b]? = w.heap[b]? := World.putObj_heap_other hne
    exact (hk' b cs ty fz (e1.trans hb)).trans e1
theorem bodyM_marks {n B : Nat} {P : Program} {fn : Func} {tmps : Array Value} {R : Ending → World → Prop} {ds : List Nat} {w : World} (hm : Marks B w ds) (hB : B ≤ w.heap.size)
    (H : ∀ w', Below B w w' → (∀ (b : Nat) (cs : Array Value) (ty : TypeId) (fz : Nat × Nat), w.heap[b]? = some (Obj.cells cs ty fz) → w'.heap[b]? = w.heap[b]?) → ∃ v, (results fn tmps).run P w' = .ok v w' ∧ R (.returned v) w') :
    bodyPostM Fence.wide n P fn R .ret { tmps := tmps, defers := ds.map mark } w := leaves_marks ds w hm H hB

theorem own_block {β : Type} (b : Nat) (o : β → Obj) (hc : ∀ s, (o s).isCells = true) : Own (fun s W => W.heap[b]? = some (o s)) := fun s A B row hs hg hr =>
  (hg.block b (Array.getElem?_eq_some_iff.1 hs).1 (fun e => by obtain ⟨o', ho', hc'⟩ := hr b e.symm; rw [show A.heap[b]? = _ from hs] at ho'; cases ho'; rw [hc] at hc'; cases hc')).trans hs
end Go.Proofs.Ytlpoedjipncbhaa
