/-
  Plain: a search for rounds in a map from variables to trees; the map of its states.
-/
import Derived.Test.YtlhnfdjidjgfgaaUm
namespace Go.Proofs.Ytlhnfdjidjgfgaa
open Go.RowKit Go.Shelf Go.Maps
set_option linter.unusedVariables false
set_option maxHeartbeats 400000

theorem has_pre {t : T} {y : Nat} : t.has y → ∃ z ∈ t.pre, z.head = -(y : Int) - 1 := by
  induction t using T.ind with
  | h t ih =>
    intro h
    rcases has_cases h with h | h
    · exact ⟨t, self_pre t, h⟩
    · obtain ⟨j, hj, h3⟩ := hasL_kid h
      obtain ⟨z, hz, e⟩ := ih j hj h3
      exact ⟨z, by rw [T.pre_eq]; exact List.mem_cons_of_mem _ (kid_pre_mem hj hz), e⟩
theorem pre_has {t : T} : ∀ {z : T}, z ∈ t.pre → z.head < 0 → t.has (vI z) := by
  induction t using T.ind with
  | h t ih =>
    intro z hz hn
    rw [T.pre_eq] at hz
    rcases List.mem_cons.1 hz with rfl | hz
    · exact has_var hn
    · obtain ⟨i, hi, hx⟩ := mem_preL hz
      exact has_kid hi (ih i hi hx hn)
/-- each stands behind all that it leads to -/
def OrdD (M : PM) (D : List Nat) : Prop := ∀ D1 x D2, D = D1 ++ x :: D2 → ∀ t y, M x = some t → t.has y → y ∈ D1
theorem OrdD.nil (M : PM) : OrdD M [] := fun D1 x D2 h => by simp at h
theorem OrdD.snoc {M : PM} {D : List Nat} {x : Nat} (h : OrdD M D) (hx : ∀ t y, M x = some t → t.has y → y ∈ D) : OrdD M (D ++ [x]) := fun D1 z D2 e t y hm hy => by
  by_cases h2 : D2 = []
  · subst h2
    obtain ⟨e1, e2⟩ := List.append_inj' e rfl
    simp at e2
    subst e1 e2
    exact hx t y hm hy
  · obtain ⟨D3, z3, rfl⟩ : ∃ D3 z3, D2 = D3 ++ [z3] := ⟨D2.dropLast, D2.getLast h2, (List.dropLast_concat_getLast h2).symm⟩
    have e' : D ++ [x] = (D1 ++ z :: D3) ++ [z3] := by rw [e]; simp
    obtain ⟨e1, e2⟩ := List.append_inj' e' rfl
    exact h D1 z D3 e1 t y hm hy
theorem OrdD.acyc {M : PM} {D : List Nat} (h : OrdD M D) (hd : ∀ x, M x ≠ none → x ∈ D) : Acyc M := by
  refine ⟨fun x => D.idxOf x, fun x t y hm hy => ?_⟩
  obtain ⟨D1, D2, e, hx⟩ := List.eq_append_cons_of_mem (hd x (by rw [hm]; simp))
  have hy1 := h D1 x D2 e t y hm hy
  show D.idxOf y < D.idxOf x
  rw [e, List.idxOf_append, if_pos hy1, List.idxOf_append, if_neg hx]
  have := List.idxOf_lt_length_of_mem hy1
  omega
open Classical in
/-- how many are neither begun nor done -/
noncomputable def newN (N : Nat) (D P : List Nat) : Nat := (List.range N).countP fun x => decide (x ∉ D ∧ x ∉ P)
theorem newN_begin {N : Nat} {D P : List Nat} {x : Nat} (hx : x < N) (h1 : x ∉ D) (h2 : x ∉ P) : newN N D (x :: P) + 1 ≤ newN N D P := by
  unfold newN
  refine countP_lt (fun z _ hz => ?_) ⟨x, List.mem_range.2 hx, decide_eq_true ⟨h1, h2⟩, decide_eq_false (fun h => h.2 (List.mem_cons_self ..))⟩
  simp only [decide_eq_true_eq] at hz ⊢
  exact ⟨hz.1, fun h => hz.2 (List.mem_cons_of_mem _ h)⟩
theorem newN_end {N : Nat} {D P : List Nat} {x : Nat} : newN N (D ++ [x]) P ≤ newN N D (x :: P) := by
  unfold newN
  refine List.countP_mono_left fun z _ hz => ?_
  simp only [decide_eq_true_eq, List.mem_append, List.mem_cons, List.not_mem_nil, or_false] at hz ⊢
  exact ⟨fun h => hz.1 (.inl h), fun h => by rcases h with h | h; exact hz.1 (.inr h); exact hz.2 h⟩
theorem newN_le (N : Nat) (D P : List Nat) : newN N D P ≤ N := by
  unfold newN
  have := List.countP_le_length (p := fun x => decide (x ∉ D ∧ x ∉ P)) (l := List.range N)
  rw [List.length_range] at this
  exact this
open Classical in
/-- the state of a variable's key -/
noncomputable def stV (D P : List Nat) (z : Int) : Int := if z < 0 ∧ (-z - 1).toNat ∈ P then 1 else if z < 0 ∧ (-z - 1).toNat ∈ D then 2 else 0
/-- block b is the map of states -/
def MapS (N K : Nat) (b : Nat) (D P : List Nat) (w : World) : Prop :=
  ∃ (Q : DataW Unit) (n : Nat), w.ownsMap Try.prog 3 (plainElem Try.prog 3) b n Q ∧ n + 2 * newN N D P ≤ K ∧ Maps.IsMap Q ∧ ∀ z : Int, Q.atKey (.int .i64 z) (.lit (.int .i64 0)) = .lit (.int .i64 (stV D P z))
theorem MapS.made {N K : Nat} (h : 2 * N ≤ K) (w : World) : MapS N K w.heap.size [] [] (w.alloc (.map #[] 0)) :=
  ⟨.map [], 0, World.ownsMap_made _ _ _ _, by have := newN_le N [] []; omega, isMap_empty, fun z => by simp [DataW.atKey, stV]⟩
theorem MapS.lt {N K b : Nat} {D P : List Nat} {w : World} (h : MapS N K b D P w) : b < w.heap.size := by
  obtain ⟨Q, n, h1, _⟩ := h
  exact h1.lt
theorem MapS.carry {N K b : Nat} {D P : List Nat} {w w' : World} (h : MapS N K b D P w) (hb : w'.heap[b]? = w.heap[b]?) : MapS N K b D P w' := by
  obtain ⟨Q, n, ⟨es, clock, hm, r⟩, r2⟩ := h
  exact ⟨Q, n, ⟨es, clock, hb.trans hm, r⟩, r2⟩
set_option maxRecDepth 100000 in
theorem MapS.look {N K b : Nat} {D P : List Nat} {w : World} (h : MapS N K b D P w) {z : Int} (hz : (Lit.int .i64 z).wf = true) : ∀ W : World, W.heap[b]? = w.heap[b]? → (Instr.lookup 170 (.map (some b)) (.int .i64 z) false).run Try.prog W = .ok (.int .i64 (stV D P z)) W := fun W hW => by
  obtain ⟨Q, n, h1, h2, h3, h4⟩ := h.carry hW
  obtain ⟨c, hrun, hv, _⟩ := h1.lookup_int law3 Try.underlying170 Try.underlying3 (zero3 W) (keyOf_int_mk Try.underlying3 hz)
  rw [h4] at hv
  injection hv with hv; injection hv with _ hv
  rw [hrun, ← hv]
set_option maxRecDepth 100000 in
theorem MapS.store {N K b : Nat} {D P D' P' : List Nat} {w : World} (h : MapS N K b D P w) {z c : Int} (hz : (Lit.int .i64 z).wf = true) (hc : (Lit.int .i64 c).wf = true) (hK : K ≤ 100000) {K' : Nat} (hn : 2 * newN N D' P' + K + 1 ≤ 2 * newN N D P + K') (hst : ∀ y, stV D' P' y = if y = z then c else stV D P y) :
    ∃ w', (Instr.mapUpdate 170 (.map (some b)) (.int .i64 z) (.int .i64 c)).run Try.prog w = .ok () w' ∧ MapS N K' b D' P' w' ∧ w.grownBy w' (some b) := by
  obtain ⟨Q, n, h1, h2, h3, h4⟩ := h
  obtain ⟨w', hrun, ho, hg⟩ := h1.update law3 Try.underlying170 (by unfold maxLen; omega) (keyOf_int_mk Try.underlying3 hz) (plainElem_int Try.underlying3 hc)
  have hk : WideAt.IsKeyLit (.int .i64 z) := by simp [WideAt.IsKeyLit]
  refine ⟨w', hrun, ⟨_, n + 1, ho, by omega, h3.put _ _, fun y => ?_⟩, hg⟩
  rw [hst]
  by_cases e : y = z
  · subst e; rw [if_pos rfl, atKey_put_same h3 hk]
  · rw [if_neg e, atKey_put_other (fun h => e (by injection h)), h4]
/-- x is begun -/
theorem MapS.start {N K b : Nat} {D P : List Nat} {w : World} (h : MapS N (K + 1) b D P w) {z : Int} (hz : (Lit.int .i64 z).wf = true) (hneg : z < 0) (hx : (-z - 1).toNat < N) (h1 : (-z - 1).toNat ∉ D) (h2 : (-z - 1).toNat ∉ P) (hK : K + 1 ≤ 100000) :
    ∃ w', (Instr.mapUpdate 170 (.map (some b)) (.int .i64 z) (.int .i64 1)).run Try.prog w = .ok () w' ∧ MapS N K b D ((-z - 1).toNat :: P) w' ∧ w.grownBy w' (some b) := by
  refine h.store hz (by decide) hK (by have := newN_begin hx h1 h2; omega) (fun y => ?_)
  unfold stV
  by_cases e : y = z
  · subst e; rw [if_pos rfl, if_pos ⟨hneg, List.mem_cons_self ..⟩]
  · rw [if_neg e]
    have : (y < 0 ∧ (-y - 1).toNat ∈ (-z - 1).toNat :: P) ↔ (y < 0 ∧ (-y - 1).toNat ∈ P) := by
      constructor
      · rintro ⟨a1, a2⟩
        rcases List.mem_cons.1 a2 with a2 | a2
        · omega
        · exact ⟨a1, a2⟩
      · rintro ⟨a1, a2⟩; exact ⟨a1, List.mem_cons_of_mem _ a2⟩
    by_cases h3 : y < 0 ∧ (-y - 1).toNat ∈ P
    · rw [if_pos (this.2 h3), if_pos h3]
    · rw [if_neg (fun h => h3 (this.1 h)), if_neg h3]
/-- x is done -/
theorem MapS.finish {N K b : Nat} {D P : List Nat} {w : World} {z : Int} (h : MapS N K b D ((-z - 1).toNat :: P) w) (hz : (Lit.int .i64 z).wf = true) (hneg : z < 0) (h2 : (-z - 1).toNat ∉ P) (hK : K ≤ 100000) :
    ∃ w', (Instr.mapUpdate 170 (.map (some b)) (.int .i64 z) (.int .i64 2)).run Try.prog w = .ok () w' ∧ MapS N (K + 1) b (D ++ [(-z - 1).toNat]) P w' ∧ w.grownBy w' (some b) := by
  refine h.store hz (by decide) hK (by have := newN_end (N := N) (D := D) (P := P) (x := (-z - 1).toNat); omega) (fun y => ?_)
  unfold stV
  by_cases e : y = z
  · subst e; rw [if_pos rfl, if_neg (fun h => h2 h.2), if_pos ⟨hneg, by simp⟩]
  · rw [if_neg e]
    have e1 : (y < 0 ∧ (-y - 1).toNat ∈ (-z - 1).toNat :: P) ↔ (y < 0 ∧ (-y - 1).toNat ∈ P) := by
      constructor
      · rintro ⟨a1, a2⟩
        rcases List.mem_cons.1 a2 with a2 | a2
        · omega
        · exact ⟨a1, a2⟩
      · rintro ⟨a1, a2⟩; exact ⟨a1, List.mem_cons_of_mem _ a2⟩
    have e2 : (y < 0 ∧ (-y - 1).toNat ∈ D ++ [(-z - 1).toNat]) ↔ (y < 0 ∧ (-y - 1).toNat ∈ D) := by
      constructor
      · rintro ⟨a1, a2⟩
        rcases List.mem_append.1 a2 with a2 | a2
        · exact ⟨a1, a2⟩
        · rw [List.mem_singleton] at a2; omega
      · rintro ⟨a1, a2⟩; exact ⟨a1, List.mem_append_left _ a2⟩
    by_cases h3 : y < 0 ∧ (-y - 1).toNat ∈ P
    · rw [if_pos h3, if_pos (e1.2 h3)]
    · rw [if_neg h3, if_neg (fun h => h3 (e1.1 h))]
      by_cases h4 : y < 0 ∧ (-y - 1).toNat ∈ D
      · rw [if_pos (e2.2 h4), if_pos h4]
      · rw [if_neg (fun h => h4 (e2.1 h)), if_neg h4]
end Go.Proofs.Ytlhnfdjidjgfgaa
