/-
  What the laws about classes read: close.Do without pairs to part, in two forms; the terms, cell by cell.
-/
import Derived.Test.YtcckgfgobakphabCf
namespace Go.Proofs.Ytcckgfgobakphab
open Go.RowKit Go.Shelf
set_option linter.unusedVariables false

theorem do_ok (ts : List Tm) (ps : List (Int × Int)) (tv pv : Value) (w : World) (hck : (checkF ts [ps, []]).1 = 0) (ht : TermsAt w tv ts) (hp : PairsAt w pv ps) :
    Calls Try.prog 9 #[tv, pv, .slice none 0 0] w fun e w' => ∃ uo uc vo vc, e = .returned (.tuple #[.agg #[.int .i64 1, .slice uo ts.length uc, .slice vo 0 vc, .int .i64 0], .agg #[.int .i64 0, .int .i64 0]]) ∧
      CellsAt w' uo ts.length (fun j => .int .i64 (gN (classes ts ps) j : Nat)) ∧ Below w.heap.size w w' := by
  obtain ⟨h60, hk, hl⟩ := checkF_zero hck
  have hpin := (hl ps (by simp)).2
  have h := do_any ts ps [] tv pv (.slice none 0 0) w (by omega) ht hp ⟨none, 0, rfl, fun j hj => by simp at hj⟩
  have e1 : doR ts ps [] = ⟨1, classes ts ps, [], 0⟩ := by rw [doR, if_neg (by rw [hck]; simp)]; rfl
  have e2 : checkF ts [ps, []] = (0, 0) := Prod.ext hck (checkF_zero' hck)
  rw [e1, e2] at h
  refine h.mono fun e w' ⟨u, v, he, hu, hv, hb⟩ => ?_
  obtain ⟨uo, uc, rfl, hc⟩ := hu.1
  obtain ⟨vo, vc, rfl, _⟩ := hv.1
  have hlen := (classes_good (ts := ts) hpin).len
  simp only [hlen] at he hc
  exact ⟨uo, uc, vo, vc, he, hc, hb⟩
theorem do_bad (ts : List Tm) (ps : List (Int × Int)) (tv pv : Value) (w : World) (hn : ts.length ≤ 80) (hck : (checkF ts [ps, []]).1 ≠ 0) (ht : TermsAt w tv ts) (hp : PairsAt w pv ps) :
    Calls Try.prog 9 #[tv, pv, .slice none 0 0] w fun e w' => ∃ uo uc vo vc, e = .returned (.tuple #[.agg #[.int .i64 0, .slice uo 0 uc, .slice vo 0 vc, .int .i64 0], .agg #[.int .i64 (checkF ts [ps, []]).1, .int .i64 (checkF ts [ps, []]).2]]) ∧
      Below w.heap.size w w' := by
  have h := do_any ts ps [] tv pv (.slice none 0 0) w hn ht hp ⟨none, 0, rfl, fun j hj => by simp at hj⟩
  have e1 : doR ts ps [] = ⟨0, [], [], 0⟩ := by rw [doR, if_pos hck]
  rw [e1] at h
  refine h.mono fun e w' ⟨u, v, he, hu, hv, hb⟩ => ?_
  obtain ⟨uo, uc, rfl, hc⟩ := hu.1
  obtain ⟨vo, vc, rfl, _⟩ := hv.1
  exact ⟨uo, uc, vo, vc, he, hb⟩
theorem TermsAt.open {w : World} {ao : Option Addr} {n c : Nat} {ts : List Tm} (h : TermsAt w (.slice ao n c) ts) (hn : 0 < ts.length) :
    ∃ b off, ao = some ⟨b, off, none⟩ ∧ ∀ j, j < ts.length → ∃ ko kc, w.cell? ⟨b, off + j * 2, none⟩ = some (.int .i64 (gT ts j).head) ∧ w.cell? ⟨b, off + j * 2 + 1, none⟩ = some (.slice ko (gT ts j).kids.length kc) ∧
      CellsAt w ko (gT ts j).kids.length (fun i => .int .i64 (gI (gT ts j).kids i)) := by
  obtain ⟨ao', sp, e, h⟩ := h
  simp only [Value.slice.injEq] at e
  obtain ⟨rfl, _, _⟩ := e
  obtain ⟨b, off, _, _, rfl, _⟩ := h 0 hn
  refine ⟨b, off, rfl, fun j hj => ?_⟩
  obtain ⟨b', off', ko, kc, e, h1, h2, h3⟩ := h j hj
  simp only [Option.some.injEq, Addr.mk.injEq] at e
  obtain ⟨rfl, rfl, _⟩ := e
  exact ⟨ko, kc, h1, h2, h3⟩
theorem TermsAt.open' {w : World} {b off n c : Nat} {ts : List Tm} (h : TermsAt w (.slice (some ⟨b, off, none⟩) n c) ts) (hn : 0 < ts.length) :
    ∀ j, j < ts.length → ∃ ko kc, w.cell? ⟨b, off + j * 2, none⟩ = some (.int .i64 (gT ts j).head) ∧ w.cell? ⟨b, off + j * 2 + 1, none⟩ = some (.slice ko (gT ts j).kids.length kc) ∧
      CellsAt w ko (gT ts j).kids.length (fun i => .int .i64 (gI (gT ts j).kids i)) := by
  obtain ⟨b', off', e, h⟩ := h.open hn
  simp only [Option.some.injEq, Addr.mk.injEq] at e
  obtain ⟨rfl, rfl, _⟩ := e
  exact h
theorem CellsAt.open {w : World} {ao : Option Addr} {n : Nat} {f : Nat → Value} (h : CellsAt w ao n f) (hn : 0 < n) : ∃ b off, ao = some ⟨b, off, none⟩ ∧ ∀ j, j < n → w.cell? ⟨b, off + j, none⟩ = some (f j) := by
  obtain ⟨b, off, rfl, _⟩ := h.get hn
  refine ⟨b, off, rfl, fun j hj => ?_⟩
  obtain ⟨b', off', e, h1⟩ := h.get hj
  simp only [Option.some.injEq, Addr.mk.injEq] at e
  obtain ⟨rfl, rfl, _⟩ := e
  exact h1
theorem PairsAt.open {w : World} {ao : Option Addr} {n c : Nat} {ps : List (Int × Int)} (h : PairsAt w (.slice ao n c) ps) (hn : 0 < ps.length) :
    ∃ b off, ao = some ⟨b, off, none⟩ ∧ ∀ j, j < ps.length → w.cell? ⟨b, off + j * 2, none⟩ = some (.int .i64 (gP ps j).1) ∧ w.cell? ⟨b, off + j * 2 + 1, none⟩ = some (.int .i64 (gP ps j).2) := by
  obtain ⟨ao', sp, e, h⟩ := h
  simp only [Value.slice.injEq] at e
  obtain ⟨rfl, _, _⟩ := e
  obtain ⟨b, off, rfl, _⟩ := h 0 hn
  refine ⟨b, off, rfl, fun j hj => ?_⟩
  obtain ⟨b', off', e, h1, h2⟩ := h j hj
  simp only [Option.some.injEq, Addr.mk.injEq] at e
  obtain ⟨rfl, rfl, _⟩ := e
  exact ⟨h1, h2⟩
theorem in16_yes {n lo hi : Int} (w : World) (h : lo ≤ n ∧ n ≤ hi) : Calls Try.prog 16 #[.int .i64 n, .int .i64 lo, .int .i64 hi] w fun e w' => e = .returned (.bool true) ∧ w' = w :=
  (in16 n lo hi w).mono fun e w' ⟨he, hw⟩ => ⟨by rw [he, decide_eq_true h], hw.symm⟩
end Go.Proofs.Ytcckgfgobakphab
