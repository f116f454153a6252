/-
  A range over a function whose body reads what it is given: what is known of the yielded value is handed to the body.
-/
import Derived.Test.YtlpoedjipncbhaaProg
import Derived.Test.YtlpoedjipncbhaaBase
import Derived.RangeFuncNested
import Derived.RangeFuncBound
import Derived.RangeFuncCalls
import Derived.RangeFuncLeaves
import Derived.OwnWalkIn
import Derived.TacticsInMore
import Derived.LoopNIn
import Derived.LoopIn
namespace Go.Proofs.Ytlpoedjipncbhaa
open Go Go.RowKit Go.Shelf
set_option linter.unusedVariables false

/-- an iterator: what it yields, and what it hands back -/
def SeqSays {X : Type} (gf : Nat) (lb : Array Value) (encs : X → Array Value) (Pl : World → X → Prop) (Kp : World → World → Prop) (S Sp : List X → Prop) (N : Nat) (v0 : World) : Prop :=
  ∀ (l : Nat) (J Jx : List X → World → Prop) (W : World), Below v0.heap.size v0 W → AbidesFrom W.heap.size J → AbidesFrom W.heap.size Jx →
    (∀ pre x W1, J pre W1 → pre.length < N → Pl W1 x → YieldAt Fence.wide 2 Try.prog l (encs x) W1 fun e W' =>
      (e = .returned (.bool true) ∧ J (pre ++ [x]) W' ∧ Kp W1 W') ∨ (e = .returned (.bool false) ∧ Jx (pre ++ [x]) W')) →
    J [] W →
    CallsIn Fence.wide 3 Try.prog gf (#[.func (.yield l) #[] #[]] ++ lb) W fun e W' => (∃ v, e = .returned v) ∧ ((∃ xs, S xs ∧ J xs W') ∨ (∃ pre, Sp pre ∧ Jx pre W'))
section
variable {X : Type} {gf : Nat} {encs : X → Array Value} {Pl : World → X → Prop} {Kp : World → World → Prop} {S Sp : List X → Prop} {N : Nat} {lb : Array Value} {g : Operand} {ps : Array Tmp} {assign body : Code} {Q : Exit → Act → World → Prop} {a : Act} {w v0 : World}
/-- the two blocks of the loop's own book-keeping -/
structure Books (B : Nat) (r : Loop) (W : World) : Prop where
  loop : W.heap[B + 1]? = some (.loop r)
  mark : W.heap[B]? = some (.deferred (some []))
theorem Books.abides {B : Nat} {r : Loop} {A C : World} {row : Option Nat} (h : Books B r A) (hg : A.grownBy C row) (hr : ∀ k, row = some k → ∃ o : Obj, A.heap[k]? = some o ∧ o.isWalk = true) : Books B r C :=
  ⟨(grownBy_keeps hg (fun k e => hr k e) h.loop rfl).trans h.loop, (grownBy_keeps hg (fun k e => hr k e) h.mark rfl).trans h.mark⟩
theorem range_says (hg : a.eval g = .func (.func gf) #[] lb) (eg : ∀ args W, (callFunc gf args).run Try.prog W = .ok (.enter gf args) W) (hseq : SeqSays gf lb encs Pl Kp S Sp N v0) (hv : Below v0.heap.size v0 w) (hps : ∀ x, (encs x).size = ps.size) (hkt : ∀ A B C, Kp A B → Kp B C → Kp A C) (hkp : ∀ (W : World) (l : Nat) (o o' : Obj), w.heap.size ≤ l → W.heap[l]? = some o → o.isCells = false → o.isWalk = false → Kp W (W.putObj l o'))
    (I : List X → World → Prop) (Ix : Code → List X → World → Prop) (hI : OwnFrom w.heap.size I) (hIx : ∀ c, OwnFrom w.heap.size (Ix c)) (h0 : I [] w) (Ax : X → Act → World → Prop) (hAx : ∀ x a', OwnFrom w.heap.size (fun (_ : Unit) W => Ax x a' W))
    (hassign : ∀ (l : Nat) (pre : List X) (x : X) (W : World) (K : Act → World → Prop), I pre W → Pl W x → (∀ a' W', KeepsFrom w.heap.size W W' → Kp W W' → I pre W' → Ax x a' W' → K a' W') →
      assign.wpIn (Fence.wide.inRound l) 2 Try.prog (Exit.then K (fun _ _ _ => False)) { tmps := (ps.zip (encs x)).foldl (fun t (p, v) => t.setIfInBounds p v) a.tmps, defers := [] } W)
    (hbody : ∀ (l : Nat) (pre : List X) (x : X) (a' : Act) (W : World), w.heap.size ≤ l → (∃ r, W.heap[l]? = some (.loop r)) → I pre W → Ax x a' W → pre.length < N → body.wpIn (Fence.wide.inRound l) 2 Try.prog (ownPostG w.heap.size Kp I Ix (pre ++ [x]) W) a' W)
    (hdone : ∀ (D : Nat) (xs : List X) (W : World), w.heap.size ≤ D → S xs → I xs W → W.heap[D]? = some (.deferred (some [])) → Q .normal { a with defers := { target := .collected D, args := #[] } :: a.defers } W)
    (hstop : ∀ (D : Nat) (c : Code) (pre : List X) (W : World), w.heap.size ≤ D → Sp pre → Ix c pre W → W.heap[D]? = some (.deferred (some [])) → c.wpIn Fence.wide 4 Try.prog Q { a with defers := { target := .collected D, args := #[] } :: a.defers } W) :
    (Code.rangeFunc g ps assign body).wpIn Fence.wide 4 Try.prog Q a w := by
  refine wpIn_rangeFunc ?_
  intro fn hfn
  obtain ⟨B, hB⟩ : ∃ B, B = w.heap.size := ⟨_, rfl⟩
  obtain ⟨rec, hrec⟩ : ∃ rec : LoopState → Option Code → Loop, rec = fun st pe => { state := st, pending := pe, fn, tmps := a.tmps, params := ps, assign, body, defers := w.heap.size } := ⟨_, rfl⟩
  have hown : ∀ (W : World) (l : Nat) (o o' : Obj), B ≤ l → W.heap[l]? = some o → o.isCells = false → o.isWalk = false → Kp W (W.putObj l o') := fun W l o o' hl => hkp W l o o' (by omega)
  obtain ⟨V, hV⟩ : ∃ V, (w.alloc (.deferred (some []))).alloc (.loop (rec .ready none)) = V := ⟨_, rfl⟩
  have hbk : Books B (rec .ready none) V := by
    constructor
    · rw [← hV, hB]; have := World.alloc_heap_new (w.alloc (.deferred (some []))) (.loop (rec .ready none)); rwa [World.size_alloc] at this
    · rw [← hV, hB]; exact (Below.heap_alloc _ _ _ (by simp)).trans (World.alloc_heap_new w _)
  have hVs : V.heap.size = B + 2 := by rw [← hV, hB]; simp
  have hI1 : I [] V := by rw [← hV]; exact hI.alloc _ (hI.alloc _ h0)
  have hb1 : Below v0.heap.size v0 V := by
    rw [← hV]; exact hv.trans ((((Below.refl _ w).alloc (Nat.le_refl _) _).alloc (by simp) _).mono hv.size)
  refine ⟨B + 1, [{ target := .collected B, args := #[] }], V, { target := .fn (.func gf) lb, args := #[.func (.yield (B + 1)) #[] #[]] }, V, gf, #[.func (.yield (B + 1)) #[] #[]] ++ lb, V, ?_, ?_, ?_, ?_, fun _ => by omega, ?_⟩
  · rw [← hV, hrec, hB]; exact run_enterLoop_outer _ _ _ _ _
  · simp only [resolve, hg]
    simp [go_sem]
  · intro f' hf'; simp [Target.leads] at hf'; subst hf'; exact trivial
  · simp [invoke, go_sem, eg]
  have hrow : ∀ {A : World} {row : Option Nat}, (∀ r, row = some r → V.heap.size ≤ r ∧ ∃ o : Obj, A.heap[r]? = some o ∧ o.isWalk = true) → ∀ r, row = some r → w.heap.size ≤ r ∧ ∃ o : Obj, A.heap[r]? = some o ∧ o.isCells = false :=
    fun h r e => by obtain ⟨h1, o, ho, hk⟩ := h r e; exact ⟨by omega, o, ho, Obj.not_cells_of_walk hk⟩
  refine (hseq (B + 1) (fun pre W => I pre W ∧ Books B (rec .ready none) W) (fun pre W => ∃ c, Ix c pre W ∧ Books B (rec .done (some c)) W) V hb1
    (fun s A C row hs hgr hr => ⟨hI s A C row hs.1 hgr (hrow hr), hs.2.abides hgr (fun r e => (hr r e).2)⟩)
    (fun s A C row hs hgr hr => by
      obtain ⟨c, h1, h2⟩ := hs
      exact ⟨c, hIx c s A C row h1 hgr (hrow hr), h2.abides hgr (fun r e => (hr r e).2)⟩) ?_ ⟨hI1, hbk⟩).mono ?_
  · rintro pre x W ⟨hi, hbks⟩ hlen hpl
    have hy := run_yield (P := Try.prog) (args := encs x) hbks.loop (by rw [hrec]; exact hps x)
    rw [hrec] at hy
    refine ⟨fn, _, assign, body, hy, roundIn_of_wpIn hfn (hassign _ pre x W _ hi hpl ?_)⟩
    clear hy
    intro a' Wa hka hpa hia hax
    have hbA : Books B (rec .ready none) Wa := ⟨hka.same _ _ (by omega) hbks.loop rfl, hka.same _ _ (by omega) hbks.mark rfl⟩
    have hlt : B + 1 < Wa.heap.size := (Array.getElem?_eq_some_iff.1 hbA.loop).1
    refine ⟨_, run_beginRound hbA.loop (by rw [hrec]), ?_⟩
    obtain ⟨Wb, hWb⟩ : ∃ Wb, Wa.putObj (B + 1) (.loop { rec .ready none with state := .busy }) = Wb := ⟨_, rfl⟩
    have hbB : Books B { rec .ready none with state := .busy } Wb := by
      rw [← hWb]
      exact ⟨World.putObj_heap_same hlt, (World.putObj_heap_other (by omega)).trans hbA.mark⟩
    have hpb : Kp Wa Wb := by rw [← hWb]; exact hown _ _ _ _ (by omega) hbA.loop rfl rfl
    have hib : I pre Wb := by rw [← hWb]; exact hI.putObj _ hia (by omega) hbA.loop rfl
    have hxb : Ax x a' Wb := by rw [← hWb]; exact (hAx x a').putObj (s := ()) _ hax (by omega) hbA.loop rfl
    rw [hWb]
    have fin : ∀ (jump : Option Code) (Wc : World), KeepsFrom w.heap.size Wb Wc →
        (Instr.endRound (B + 1) jump).run Try.prog Wc = .ok (.bool jump.isNone) (Wc.putObj (B + 1) (.loop (rec (if jump.isNone then .ready else .done) jump))) ∧ Wc.heap[B + 1]? = some (.loop { rec .ready none with state := .busy }) ∧
        Books B (rec (if jump.isNone then .ready else .done) jump) (Wc.putObj (B + 1) (.loop (rec (if jump.isNone then .ready else .done) jump))) := fun jump Wc hk => by
      have hl := hk.same _ _ (by omega) hbB.loop rfl
      have := run_endRound (P := Try.prog) jump hl
      rw [hrec] at this ⊢
      exact ⟨this, by rw [hrec] at hl; exact hl, World.putObj_heap_same (Array.getElem?_eq_some_iff.1 hl).1, (World.putObj_heap_other (by omega)).trans (hk.same _ _ (by omega) hbB.mark rfl)⟩
    refine wpIn_mono (hbody _ pre x a' Wb (by omega) ⟨_, hbB.loop⟩ hib hxb hlen) ?_
    rintro e a3 Wc hp
    have out : ∀ (c : Code), KeepsFrom w.heap.size Wb Wc → Ix c (pre ++ [x]) Wc → ∃ W', (Instr.endRound (B + 1) (some c)).run Try.prog Wc = .ok (.bool false) W' ∧ ∃ c, Ix c (pre ++ [x]) W' ∧ Books B (rec .done (some c)) W' := fun c hk hi => by
      obtain ⟨h1, h2, h3⟩ := fin (some c) Wc hk
      exact ⟨_, h1, c, (hIx _).putObj _ hi (by omega) h2 rfl, h3⟩
    cases e with
    | normal =>
      obtain ⟨hk, hk2, hi⟩ := hp
      obtain ⟨h1, h2, h3⟩ := fin none Wc hk
      exact ⟨_, _, h1, .inl ⟨rfl, ⟨hI.putObj _ hi (by omega) h2 rfl, h3⟩, hkt _ _ _ hpa (hkt _ _ _ hpb (hkt _ _ _ hk2 (hown _ _ _ _ (by omega) h2 rfl rfl)))⟩⟩
    | ret => obtain ⟨W', h1, h2⟩ := out .ret hp.1 hp.2; exact ⟨_, _, h1, .inr ⟨rfl, h2⟩⟩
    | exit id => obtain ⟨W', h1, h2⟩ := out (.exit id) hp.1 hp.2; exact ⟨_, _, h1, .inr ⟨rfl, h2⟩⟩
    | goto t => obtain ⟨W', h1, h2⟩ := out (.goto t) hp.1 hp.2; exact ⟨_, _, h1, .inr ⟨rfl, h2⟩⟩
    | panic ch => exact hp.elim
    | outgrown => exact hp.elim
  · rintro e W2 ⟨⟨v, rfl⟩, (⟨xs, hS, hi, hbks⟩ | ⟨pre, hSp, c, hi, hbks⟩)⟩
    · exact ⟨none, _, by have := run_endLoop (P := Try.prog) hbks.loop (by rw [hrec]; simp); rw [hrec] at this; exact this, by rw [hB] at *; exact hdone _ xs _ (Nat.le_refl _) hS (hI.putObj _ hi (by omega) hbks.loop rfl) ((World.putObj_heap_other (by omega)).trans hbks.mark)⟩
    · exact ⟨some c, _, by have := run_endLoop (P := Try.prog) hbks.loop (by rw [hrec]; simp); rw [hrec] at this; exact this, by rw [hB] at *; exact hstop _ c pre _ (Nat.le_refl _) hSp ((hIx c).putObj _ hi (by omega) hbks.loop rfl) ((World.putObj_heap_other (by omega)).trans hbks.mark)⟩
end
end Go.Proofs.Ytlpoedjipncbhaa
