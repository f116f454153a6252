/-
  Walks: binds; what fit.Do says over a state; a made row.
-/
import Derived.Test.YteekoclfpehnpaaProg
import Derived.Test.YteekoclfpehnpaaBase
import Derived.Test.YteekoclfpehnpaaT41
import Derived.Test.YteekoclfpehnpaaXa
namespace Go.Proofs.Yteekoclfpehnpaa
open Go.RowKit Go.Shelf
set_option linter.unusedVariables false
set_option maxHeartbeats 400000

theorem St.fitted {P : Program} {n : Nat} {a : Array Value} {w0 w : World} {l : List Fct} (S : St w0 w l) {p t : T} (h : Calls P n a w (Do34Post p t w)) :
    Calls P n a w fun e w' => ∃ L ok c d ro rc, e = .returned (.tuple #[.slice ro L.length rc, .bool ok, .agg #[.int .i64 c, .int .i64 d]]) ∧ Hid (fitD p t = (L, ok, c, d)) ∧ w.heap.size ≤ w'.heap.size ∧
      St w0 w' (fsnoc l (.row w.heap.size w'.heap.size ro L)) :=
  h.mono fun e w' ⟨ro, rc, h1, h2, h3⟩ => ⟨(fitD p t).1, (fitD p t).2.1, (fitD p t).2.2.1, (fitD p t).2.2.2, ro, rc, h1, rfl, h3.size, (S.step h3).add (.row _ _ ro _) h2⟩
theorem St.row {w0 w : World} {l : List Fct} (S : St w0 w l) (i : Nat) {lo hi : Nat} {ao : Option Addr} {ks : List T} (h : Fct.at l i = Fct.row lo hi ao ks := by rfl) : RowP (fun b => lo ≤ b ∧ b < hi) w ao ks := by
  have := S.2 i
  rw [h] at this; exact this
theorem RowP.made {w : World} {g N : Nat} (h : w.heap[g]? = some (.cells (madeCells (Value.agg #[.int .i64 0, .slice none 0 0]).cells (N * 2)) 44 (0, 0))) (p : Nat → Prop) (hp : p g) : RowP p w (some ⟨g, 0, none⟩) (listT N (fun _ => zeroT)) := fun i hi => by
  rw [listT_length] at hi
  have e0 : (i0 : Nat) → i0 < N * 2 → (madeCells (Value.agg #[.int .i64 0, .slice none 0 0]).cells (N * 2))[i0]? = some (#[Value.int .i64 0, .slice none 0 0][i0 % 2]!) := by
    intro i0 hi0
    have hz : (Value.agg #[.int .i64 0, .slice none 0 0]).cells = #[Value.int .i64 0, .slice none 0 0] := by rfl
    rw [hz]
    simp [madeCells, hi0]
  rw [listT_gK hi]
  refine ⟨g, 0, none, 0, rfl, hp, ?_, ?_, TreeP.zero _ _⟩
  · simp only [World.cell?, h, Option.isSome_none]
    have := e0 (i * 2) (by omega)
    rw [Nat.mul_mod_left] at this
    simp only [Nat.zero_add]
    rw [this]; rfl
  · simp only [World.cell?, h, Option.isSome_none]
    have := e0 (i * 2 + 1) (by omega)
    rw [show (i * 2 + 1) % 2 = 1 by omega] at this
    simp only [Nat.zero_add]
    rw [this]; rfl
theorem make25 (N : Nat) (hN : N ≤ 1000) (w : World) : (Instr.makeSlice 62 (.int .i64 (N : Int)) (.int .i64 (N : Int))).run Try.prog w = .ok (.slice (some ⟨w.heap.size, 0, none⟩) N N) (w.alloc (.cells (madeCells (Value.agg #[.int .i64 0, .slice none 0 0]).cells (N * 2)) 44)) := by
  obtain ⟨i24, gi, gz0, gz1, gz2⟩ := info_parts info24
  have h := run_makeSlice (P := Try.prog) w 62 44 i24 (.agg #[.int .i64 0, .slice none 0 0]) Try.underlying62 gi gz0 .i64 .i64 (N : Int) (N : Int) (by omega) (Int.le_refl _) (by rw [gz1]; simp; omega) (by rw [gz2]; omega) (by omega)
  rw [gz1] at h
  simpa using h

theorem fitD_code (p t : T) : (fitD p t).2.2 = if (treeF p).1 ≠ 0 then treeF p else if (treeF t).1 ≠ 0 then ((treeF t).1, -1) else (0, 0) := by
  unfold fitD
  split
  · rfl
  · split <;> rfl
theorem fitD_bad {p t : T} {L : List T} {ok : Bool} {c d : Int} (h : fitD p t = (L, ok, c, d)) (hc : c ≠ 0) : L = [] ∧ ok = false := by
  unfold fitD at h
  split at h
  · simp at h; simp [h]
  · split at h
    · simp at h; simp [h]
    · simp at h; omega
theorem fitD_ok {p t : T} {L : List T} {ok : Bool} {d : Int} (h : fitD p t = (L, ok, 0, d)) : (treeF p).1 = 0 ∧ (treeF t).1 = 0 ∧ d = 0 ∧ L = fitLst p t ∧ ok = (fitF p t).isSome := by
  unfold fitD at h
  split at h
  · rename_i hp
    have := congrArg (fun x => x.2.2.1) h; simp at this; exact absurd this hp
  · rename_i hp
    split at h
    · rename_i ht
      have := congrArg (fun x => x.2.2.1) h; simp at this; exact absurd this ht
    · rename_i ht
      simp at h
      exact ⟨by simpa using hp, by simpa using ht, h.2.2.symm, h.1.symm, h.2.1.symm⟩


end Go.Proofs.Yteekoclfpehnpaa
