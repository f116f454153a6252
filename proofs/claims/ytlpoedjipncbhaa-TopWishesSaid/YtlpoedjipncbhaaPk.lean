/-
  Walks: a raw number that is picked; an element or 0; rows of integers written in place.
-/
import Derived.Test.YtlpoedjipncbhaaProg
import Derived.Test.YtlpoedjipncbhaaS0
import Derived.RegionTactic
namespace Go.Proofs.Ytlpoedjipncbhaa
open Go.RowKit Go.Shelf
set_option linter.unusedVariables false
set_option maxHeartbeats 400000

theorem picked5 (a n : Int) (w : World) (hn : 0 < n) (hn2 : n ≤ 1000) : Calls Try.prog 6 #[.int .i64 a, .int .i64 n] w fun e w' => ∃ r, e = .returned (.int .i64 r) ∧ 0 ≤ r ∧ r < n ∧ w' = w := by
  go_enter Try.func6, Try.ntmps6
  have h1 : -n < a.tmod n := by
    have := Int.lt_tmod_of_pos a hn
    omega
  have h2 : a.tmod n < n := Int.tmod_lt_of_pos a hn
  go_wp2
  · rename_i hlt
    refine bodyPost_ret (v := .int .i64 (a.tmod n + n)) (by simp [results, Try.results6, go_sem]) rfl ⟨_, rfl, by omega, by omega, rfl⟩
  · rename_i hlt
    refine bodyPost_ret (v := .int .i64 (a.tmod n)) (by simp [results, Try.results6, go_sem]) rfl ⟨_, rfl, by omega, by omega, rfl⟩
theorem at7 (l : List Int) (i : Int) (ao : Option Addr) (c : Nat) (w : World) (h : CellsAt w ao l.length (fun j => .int .i64 (gI l j))) (hl : l.length ≤ maxLen) : Calls Try.prog 7 #[.slice ao l.length c, .int .i64 i] w fun e w' => ∃ r, e = .returned (.int .i64 r) ∧ w' = w := by
  unfold maxLen at hl
  by_cases h1 : 0 ≤ i
  · by_cases h2 : i < (l.length : Int)
    · obtain ⟨k, rfl⟩ : ∃ k : Nat, i = (k : Int) := ⟨i.toNat, by omega⟩
      obtain ⟨b, off, rfl, hc⟩ := h k (by omega)
      go_enter Try.func7, Try.ntmps7
      go_wp2
      refine bodyPost_ret (v := .int .i64 (gI l k)) (by simp [results, Try.results7, go_sem]) rfl ⟨⟨_, rfl⟩, rfl⟩
    · go_enter Try.func7, Try.ntmps7
      go_wp2
      refine bodyPost_ret (v := .int .i64 0) (by simp [results, Try.results7, go_sem]) rfl ⟨⟨_, rfl⟩, rfl⟩
  · go_enter Try.func7, Try.ntmps7
    go_wp2
    refine bodyPost_ret (v := .int .i64 0) (by simp [results, Try.results7, go_sem]) rfl ⟨⟨_, rfl⟩, rfl⟩
theorem int_css {B : Nat} {p : Nat → Prop} {w : World} {o : Value} {xs : List Int} (h : intE.Own p B w o xs) : w.ownsRow B 3 1 o xs.length (xs.map (Value.int .i64)) := by
  obtain ⟨css, hcl, ho, hk⟩ := h
  have e : css = xs.map (fun x => [Value.int .i64 x]) := by
    refine List.ext_getElem (by simp [hcl]) fun i h1 h2 => ?_
    have h3 : i < xs.length := by omega
    have := hk i css[i] xs[i] (List.getElem?_eq_getElem h1) (List.getElem?_eq_getElem h3)
    rw [List.getElem_map]
    exact this
  have e2 : css.flatten = xs.map (Value.int .i64) := by
    rw [e]
    clear e hk ho hcl
    induction xs with
    | nil => rfl
    | cons x r ih => simp only [List.map_cons, List.flatten_cons, ih]; rfl
  rw [← e2]
  exact ho
theorem int_own {B : Nat} {p : Nat → Prop} {w : World} {o : Value} {xs : List Int} (h : w.ownsRow B 3 1 o xs.length (xs.map (Value.int .i64))) : intE.Own p B w o xs := by
  refine ⟨xs.map (fun x => [Value.int .i64 x]), by simp, ?_, fun i cs x h1 h2 => ?_⟩
  · have e2 : (xs.map (fun x => [Value.int .i64 x])).flatten = xs.map (Value.int .i64) := by
      clear h
      induction xs with
      | nil => rfl
      | cons x r ih => simp only [List.map_cons, List.flatten_cons, ih]; rfl
    rw [e2]; exact h
  · rw [List.getElem?_map, h2] at h1
    simp at h1
    exact h1.symm
theorem own_getI {B : Nat} {p : Nat → Prop} {w : World} {lo : Option Addr} {n c : Nat} {xs : List Int} (h : intE.Own p B w (.slice lo n c) xs) {j : Nat} (hj : j < xs.length) :
    ∃ g, lo = some ⟨g, 0, none⟩ ∧ B ≤ g ∧ g < w.heap.size ∧ n = xs.length ∧ w.cell? ⟨g, j, none⟩ = some (.int .i64 xs[j]) ∧ w.frozen? ⟨g, j, none⟩ = false := by
  obtain ⟨_, h2⟩ := int_css h
  rcases h2 with ⟨_, hn⟩ | ⟨g, cap, cur, e, hB, hh, hnc, hm, hsz, htk⟩
  · omega
  · simp only [Value.slice.injEq] at e
    have h4 : cur[j]? = some (.int .i64 xs[j]) := by
      have : (cur.toList.take (xs.length * 1))[j]? = some (.int .i64 xs[j]) := by rw [htk]; simp [hj]
      rw [List.getElem?_take, if_pos (by omega), Array.getElem?_toList] at this
      exact this
    exact ⟨g, e.1, hB, heap_lt hh, e.2.1, by simp [World.cell?, hh, h4], by simp [World.frozen?, hh]⟩
theorem own_frz {B : Nat} {p : Nat → Prop} {w : World} {g n c : Nat} {xs : List Int} (h : intE.Own p B w (.slice (some ⟨g, 0, none⟩) n c) xs) {j : Nat} (hj : j < xs.length) : w.frozen? ⟨g, j, none⟩ = false := by
  obtain ⟨g', e, _, _, _, _, h⟩ := own_getI h hj
  simp only [Option.some.injEq, Addr.mk.injEq, and_true] at e
  rw [e]; exact h
theorem own_setI {B g n c j : Nat} {p : Nat → Prop} {w : World} {xs : List Int} (h : intE.Own p B w (.slice (some ⟨g, 0, none⟩) n c) xs) (hj : j < xs.length) (v : Int) : intE.Own p B (w.setCell ⟨g, j, none⟩ (.int .i64 v)) (.slice (some ⟨g, 0, none⟩) n c) (xs.set j v) := by
  refine int_own ?_
  obtain ⟨h1, h2⟩ := int_css h
  refine ⟨by simp, ?_⟩
  rcases h2 with ⟨_, hn⟩ | ⟨g', cap, cur, e, hB, hh, hnc, hm, hsz, htk⟩
  · omega
  · have e' := e
    simp only [Value.slice.injEq, Option.some.injEq, Addr.mk.injEq, and_true] at e'
    obtain ⟨rfl, rfl, rfl⟩ := e'
    refine .inr ⟨g, c, cur.setIfInBounds j (.int .i64 v), by simp, hB, by simp [World.setCell, Array.getElem?_modify, hh], by simpa using hnc, hm, by simp [hsz], ?_⟩
    rw [Array.toList_setIfInBounds, List.length_set, List.map_set, ← htk]
    exact List.take_set ..
theorem St.setI {w0 w : World} {l : List Fct} (S : St w0 w l) (i : Nat) {B g n c j : Nat} {p : Nat → Prop} {xs : List Int} (hi : Fct.at l i = Fct.owns intE B p (.slice (some ⟨g, 0, none⟩) n c) xs) (hj : j < xs.length) (v : Int) (h0 : w0.heap.size ≤ g) (hoff : offs g i l) :
    St w0 (w.setCell ⟨g, j, none⟩ (.int .i64 v)) (fset l i (.owns intE B p (.slice (some ⟨g, 0, none⟩) n c) (xs.set j v))) := by
  refine ⟨S.bel.setCell (p := ⟨g, j, none⟩) h0 _, fun k => ?_⟩
  by_cases hk : k = i
  · subst hk
    rcases at_fset_same (.owns intE B p (.slice (some ⟨g, 0, none⟩) n c) (xs.set j v)) l k with h | h
    · rw [h]; exact own_setI (S.owns intE k hi) hj v
    · rw [h]; trivial
  · rw [at_fset_other _ _ _ _ hk]
    exact (Fct.at l k).stable w _ (fun b hb hl => Below.heap_setCell _ _ _ _ (fun e => offs_at hoff k hk (by rw [← show b = g from e]; exact hb))) (S.2 k)
end Go.Proofs.Ytlpoedjipncbhaa
