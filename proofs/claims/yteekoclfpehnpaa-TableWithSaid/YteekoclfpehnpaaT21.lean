/-
  How the arguments of these laws read: trees, rows of trees; their size is at most the reading's bulk.
-/
import Derived.Test.YteekoclfpehnpaaRows
import Derived.Test.YteekoclfpehnpaaXa
import Derived.WalkKit
import Derived.ProofKit
import Derived.OpenShut
import Derived.ChangeOld
import Derived.Below
import Derived.Deep.Slices
namespace Go.Proofs.Yteekoclfpehnpaa
open Go.ChangeShapes Go.WideShapes Go.ChangeAt Go.RowKit
set_option linter.unusedVariables false

section
variable {H : Type} {enc : TypeId × Value → H} {W : World} {held : Bool}

theorem cells2 {a : Addr} {i : Nat} {cs : List Value} (h : W.cells? 0 (a.add (i * 2)) 2 = some cs) :
    ∃ c0 c1, cs = [c0, c1] ∧ a = ⟨a.block, a.off, if i = 0 then none else a.spot⟩ ∧ W.cell? ⟨a.block, a.off + i * 2, none⟩ = some c0 ∧ W.cell? ⟨a.block, a.off + i * 2 + 1, none⟩ = some c1 := by
  unfold World.cells? at h
  rw [if_pos (Nat.zero_le _)] at h
  simp only [List.range_succ, List.range_zero, List.nil_append, List.cons_append, List.mapM_cons, List.mapM_nil, Option.pure_def, Option.bind_eq_bind] at h
  obtain ⟨c0, h0, h⟩ := Option.bind_eq_some_iff.1 h
  obtain ⟨x, hx1, h⟩ := Option.bind_eq_some_iff.1 h
  obtain ⟨c1, h1, h2⟩ := Option.bind_eq_some_iff.1 hx1
  clear hx1
  have h2 : [c1] = x := by simpa using h2
  subst h2
  have h : [c0, c1] = cs := by simpa using h
  refine ⟨c0, c1, h.symm, ?_, ?_, ?_⟩
  · obtain ⟨b, o, s⟩ := a
    by_cases hi : i = 0
    · subst hi
      simp only [if_true, Addr.mk.injEq, true_and]
      have := World.cell?_spot h0
      simpa [Addr.add] using this
    · simp [hi]
  · obtain ⟨b, o, s⟩ := a
    by_cases hi : i = 0
    · subst hi
      have hs := World.cell?_spot h0
      simp [Addr.add] at hs h0 ⊢
      subst hs
      exact h0
    · have hi2 : ¬ i * 2 = 0 := by omega
      simpa [Addr.add, hi2] using h0
  · obtain ⟨b, o, s⟩ := a
    by_cases hi : i = 0
    · subst hi
      simpa [Addr.add] using h1
    · have hi2 : ¬ i * 2 = 0 := by omega
      simpa [Addr.add, hi2, Nat.add_assoc] using h1

theorem sum_le : ∀ (ks : List T) (es : List (DataW H × List MemPlace)), ks.length = es.length → (∀ (i : Nat) (t : T) (e : DataW H × List MemPlace), ks[i]? = some t → es[i]? = some e → t.size ≤ Rows.uptoBulk e.1) → sizeL ks ≤ Rows.uptoBulkAll (es.map (·.1))
  | [], [], _, _ => by simp [sizeL]
  | t :: r, e :: s, hl, h => by
    have h0 := h 0 t e rfl rfl
    have h1 := sum_le r s (by simpa using hl) (fun i t e h1 h2 => h (i + 1) t e (by simpa using h1) (by simpa using h2))
    simp only [sizeL, List.map_cons, Rows.uptoBulkAll]; omega
theorem bulkAll_append : ∀ (l r : List (DataW H)), Rows.uptoBulkAll (l ++ r) = Rows.uptoBulkAll l + Rows.uptoBulkAll r
  | [], r => by simp [Rows.uptoBulkAll]
  | x :: l, r => by simp only [List.cons_append, Rows.uptoBulkAll, bulkAll_append l r]; omega

def TreeOf (W : World) (cs : List Value) (d : DataW H) : Prop := ∃ t, TreeAt W (.agg cs.toArray) t ∧ t.size ≤ Rows.uptoBulk d
def RowOf (W : World) (cs : List Value) (d : DataW H) : Prop := ∃ ao cap ks, cs = [.slice ao ks.length cap] ∧ ks.length ≤ cap ∧ ks.length ≤ maxLen ∧ RowAt W ao ks ∧ sizeL ks + 1 ≤ Rows.uptoBulk d

theorem row_of {fuel tid : Nat} {cs : List Value} {x : DataW H × List MemPlace} (ht : Try.prog.underlying tid = some (.slice 44)) (h : DataW.trod enc Try.prog W 0 (fun _ => true) held fuel tid cs = some x)
    (ih : ∀ n, n < fuel → ∀ cs x, DataW.trod enc Try.prog W 0 (fun _ => true) held n 44 cs = some x → TreeOf W cs x.1) : RowOf W cs x.1 := by
  have hc24 : Try.prog.cellsOf 44 = 2 := by kernel_rfl
  rcases DataW.trod_slice ht h with ⟨rfl, rfl⟩ | ⟨a, len, cap, elems, rest, n, hn, rfl, rfl, hb, hl, hm, hlen, hel, hsp, _⟩
  · exact ⟨none, 0, [], rfl, by simp, by simp, fun i hi => by simp at hi, by simp [sizeL, Rows.uptoBulk]⟩
  · rw [hc24] at hel
    have hall : ∀ i, i < len → ∃ t : T, a = ⟨a.block, a.off, if i = 0 then none else a.spot⟩ ∧ (∀ e, elems[i]? = some e → t.size ≤ Rows.uptoBulk e.1) ∧ ∃ k sp, W.cell? ⟨a.block, a.off + i * 2, none⟩ = some (.int .i64 t.head) ∧
        W.cell? ⟨a.block, a.off + i * 2 + 1, none⟩ = some (.slice k t.kids.length (t.kids.length + sp)) ∧ TreeAt W (.agg #[.int .i64 t.head, .slice k t.kids.length (t.kids.length + sp)]) t := by
      intro i hi
      have h1 := hel i hi
      obtain ⟨e, he⟩ : ∃ e, elems[i]? = some e := ⟨elems[i], by simp [hlen, hi]⟩
      rw [he] at h1
      obtain ⟨cs', h2, h3⟩ := Option.bind_eq_some_iff.1 h1
      obtain ⟨c0, c1, rfl, ha, x0, x1⟩ := cells2 h2
      obtain ⟨t, h4, h5⟩ := ih n (by omega) _ _ h3
      obtain ⟨k, sp, e'⟩ := h4.form
      have e0 : c0 = .int .i64 t.head ∧ c1 = .slice k t.kids.length (t.kids.length + sp) := by simpa using e'
      rw [e0.1] at x0; rw [e0.2] at x1
      rw [e0.1, e0.2] at h4
      exact ⟨t, ha, fun e2 h6 => by rw [he] at h6; cases h6; exact h5, k, sp, x0, x1, h4⟩
    obtain ⟨f, hf⟩ := Deep.choose_lt hall
    refine ⟨some a, cap, (List.range len).map f, by simp, by simpa using hl, by simp; omega, fun j hj => ?_, ?_⟩
    · have hj' : j < len := by simpa using hj
      have ha := (hf 0 (by omega)).1
      rw [if_pos rfl] at ha
      have hg : gK ((List.range len).map f) j = f j := by simp [gK, hj']
      rw [hg]
      obtain ⟨k, sp, x0, x1, x2⟩ := (hf j hj').2.2
      exact ⟨a.block, a.off, k, sp, by rw [← ha], x0, x1, x2⟩
    · have := sum_le ((List.range len).map f) elems (by simp [hlen]) (fun i t e h1 h2 => by
        have hi : i < len := by
          have := List.getElem?_eq_some_iff.1 h1
          simpa using this.1
        have e1 : t = f i := by simp [hi] at h1; exact h1.symm
        rw [e1]; exact (hf i hi).2.1 e h2)
      simp only [Rows.uptoBulk]; omega

set_option maxRecDepth 100000 in
theorem tree_of : ∀ (n : Nat) (cs : List Value) (x : DataW H × List MemPlace), DataW.trod enc Try.prog W 0 (fun _ => true) held n 44 cs = some x → TreeOf W cs x.1 := by
  intro n
  induction n using Nat.strongRecOn with
  | ind n ih =>
    intro cs x h
    have hc22 : Try.prog.cellsOf 42 = 1 := by kernel_rfl
    have hc3 : Try.prog.cellsOf 3 = 1 := by kernel_rfl
    have hc24 : Try.prog.cellsOf 44 = 2 := by kernel_rfl
    obtain ⟨xs, m, hm, rfl, hl, hxl, hf⟩ := DataW.trod_struct Try.underlying44 h
    rw [hc24] at hl
    match cs, hl, xs, hxl with
    | [c0, c1], _, [y0, y1], _ =>
      have z0 : DataW.trod enc Try.prog W 0 (fun _ => true) held m 3 ([c0, c1].take (Try.prog.cellsOf 3)) = some y0 := hf 0 _ rfl
      have z1 : DataW.trod enc Try.prog W 0 (fun _ => true) held m 42 ([c1].take (Try.prog.cellsOf 42)) = some y1 := hf 1 _ rfl
      rw [hc3] at z0; rw [hc22] at z1
      obtain ⟨hd, e0, _⟩ := DataW.trod_int Try.underlying3 z0
      simp at e0
      obtain ⟨ao, cap, ks, e1, hlc, hml, hr, hs⟩ := row_of Try.underlying42 z1 (fun n' hn' cs x h => ih n' (by omega) cs x h)
      simp at e1
      subst e0 e1
      obtain ⟨sp, rfl⟩ : ∃ sp, cap = ks.length + sp := ⟨cap - ks.length, by omega⟩
      exact ⟨.node hd ks, TreeAt.close hr hml, by simp only [T.size, List.map_cons, List.map_nil, Rows.uptoBulk, Rows.uptoBulkAll]; omega⟩

theorem tree_arg {v : Value} {d : DataW H} {pl : List MemPlace} (hv : ∃ cs, v = .agg cs ∧ cs.size = Try.prog.cellsOf 44) (h : DataW.Trod enc Try.prog W 0 (fun _ => true) held 44 v d pl) : ∃ t, TreeAt W v t ∧ t.size ≤ Rows.uptoBulk d := by
  obtain ⟨fuel, hf⟩ := h
  obtain ⟨cs, rfl, _⟩ := hv
  have := tree_of fuel _ _ hf
  simpa [TreeOf, Value.cells] using this
theorem bind_arg {d : DataW H} {pl : List MemPlace} {ao : Option Addr} {len cap : Nat} (h : DataW.Trod enc Try.prog W 0 (fun _ => true) held 62 (.slice ao len cap) d pl) : ∃ ks, len = ks.length ∧ RowAt W ao ks ∧ sizeL ks + 1 ≤ Rows.uptoBulk d := by
  obtain ⟨fuel, hf⟩ := h
  obtain ⟨ao', cap', ks, e, _, _, hr, hs⟩ := row_of Try.underlying62 hf (fun n _ cs x h => tree_of n cs x h)
  simp [Value.cells] at e
  obtain ⟨rfl, rfl, rfl⟩ := e
  exact ⟨ks, rfl, hr, hs⟩
end
end Go.Proofs.Yteekoclfpehnpaa
