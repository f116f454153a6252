/-
  How the arguments of these laws read: lists of terms, lists of pairs.
-/
import Derived.Test.YtcckgfgobakphabRows
import Derived.Test.YtcckgfgobakphabW2
import Derived.Test.YtcckgfgobakphabW3
import Derived.WalkKit
import Derived.ProofKit
import Derived.OpenShut
import Derived.ChangeOld
import Derived.Below
import Derived.Deep.Slices
namespace Go.Proofs.Ytcckgfgobakphab
open Go.ChangeShapes Go.WideShapes Go.ChangeAt Go.RowKit
set_option linter.unusedVariables false

section
variable {H : Type} {enc : TypeId × Value → H} {W : World} {held : Bool}

theorem cells2 {a : Addr} {i : Nat} {cs : List Value} (h : W.cells? 0 (a.add (i * 2)) 2 = some cs) :
    ∃ c0 c1, cs = [c0, c1] ∧ a = ⟨a.block, a.off, if i = 0 then none else a.spot⟩ ∧ W.cell? ⟨a.block, a.off + i * 2, none⟩ = some c0 ∧ W.cell? ⟨a.block, a.off + i * 2 + 1, none⟩ = some c1 := by
  unfold World.cells? at h
  rw [if_pos (Nat.zero_le _)] at h
  simp only [List.range_succ, List.range_zero, List.nil_append, List.cons_append, List.mapM_cons, List.mapM_nil, Option.pure_def, Option.bind_eq_bind] at h
  obtain ⟨c0, h0, h⟩ := Option.bind_eq_some_iff.1 h
  obtain ⟨x, hx1, h⟩ := Option.bind_eq_some_iff.1 h
  obtain ⟨c1, h1, h2⟩ := Option.bind_eq_some_iff.1 hx1
  clear hx1
  have h2 : [c1] = x := by simpa using h2
  subst h2
  have h : [c0, c1] = cs := by simpa using h
  refine ⟨c0, c1, h.symm, ?_, ?_, ?_⟩
  · obtain ⟨b, o, s⟩ := a
    by_cases hi : i = 0
    · subst hi
      simp only [if_true, Addr.mk.injEq, true_and]
      have := World.cell?_spot h0
      simpa [Addr.add] using this
    · simp [hi]
  · obtain ⟨b, o, s⟩ := a
    by_cases hi : i = 0
    · subst hi
      have hs := World.cell?_spot h0
      simp [Addr.add] at hs h0 ⊢
      subst hs
      exact h0
    · have hi2 : ¬ i * 2 = 0 := by omega
      simpa [Addr.add, hi2] using h0
  · obtain ⟨b, o, s⟩ := a
    by_cases hi : i = 0
    · subst hi
      simpa [Addr.add] using h1
    · have hi2 : ¬ i * 2 = 0 := by omega
      simpa [Addr.add, hi2, Nat.add_assoc] using h1

theorem pair_of {n : Nat} {cs : List Value} {x : DataW H × List MemPlace} (h : DataW.trod enc Try.prog W 0 (fun _ => true) held n 34 cs = some x) :
    ∃ p q : Int, cs = [.int .i64 p, .int .i64 q] := by
  obtain ⟨xs, m, _, _, hl, hn, hf⟩ := DataW.trod_array Try.underlying34 h
  have hc34 : Try.prog.cellsOf 34 = 2 := by kernel_rfl
  have hc3 : Try.prog.cellsOf 3 = 1 := by kernel_rfl
  rw [hc34] at hl
  rw [hc3] at hf
  match cs, hl with
  | [c0, c1], _ =>
    have h0 := hf 0 (by omega)
    have h1 := hf 1 (by omega)
    rw [List.getElem?_eq_getElem (by omega)] at h0 h1
    obtain ⟨p, e0, _⟩ := DataW.trod_int Try.underlying3 h0
    obtain ⟨q, e1, _⟩ := DataW.trod_int Try.underlying3 h1
    simp at e0 e1
    exact ⟨p, q, by rw [e0, e1]⟩

theorem pairs_of {d : DataW H} {pl : List MemPlace} {ao : Option Addr} {len cap : Nat} (h : DataW.Trod enc Try.prog W 0 (fun _ => true) held 23 (.slice ao len cap) d pl) :
    ∃ ps, PairsAt W (.slice ao len cap) ps := by
  obtain ⟨fuel, hf⟩ := h
  have hc34 : Try.prog.cellsOf 34 = 2 := by kernel_rfl
  rcases Deep.open_slice Try.underlying23 hf with ⟨hcs, _⟩ | ⟨a, len', cap', m, n, D, Pl, hcs, _, hlc, _, hm, _, hx⟩
  · simp [Value.cells] at hcs
    obtain ⟨rfl, rfl, rfl⟩ := hcs
    exact ⟨[], none, 0, rfl, fun j hj => by simp at hj⟩
  · simp [Value.cells] at hcs
    obtain ⟨rfl, rfl, rfl⟩ := hcs
    simp only [if_true] at hm
    have hall : ∀ i, i < len → ∃ pq : Int × Int, a = ⟨a.block, a.off, if i = 0 then none else a.spot⟩ ∧ W.cell? ⟨a.block, a.off + i * 2, none⟩ = some (.int .i64 pq.1) ∧ W.cell? ⟨a.block, a.off + i * 2 + 1, none⟩ = some (.int .i64 pq.2) := by
      intro i hi
      obtain ⟨cs', h1, h2⟩ := hx i (by omega)
      rw [hc34] at h1
      obtain ⟨c0, c1, rfl, ha, x0, x1⟩ := cells2 h1
      obtain ⟨p, q, e⟩ := pair_of h2
      simp only [List.cons.injEq, and_true] at e
      obtain ⟨rfl, rfl⟩ := e
      exact ⟨(p, q), ha, x0, x1⟩
    obtain ⟨f, hf⟩ := Deep.choose_lt hall
    refine ⟨(List.range len).map f, some a, cap, by simp, fun j hj => ?_⟩
    have hj' : j < len := by simpa using hj
    have ha := (hf 0 (by omega)).1
    rw [if_pos rfl] at ha
    have hg : gP ((List.range len).map f) j = f j := by simp [gP, hj']
    rw [hg]
    exact ⟨a.block, a.off, by rw [← ha], (hf j hj').2.1, (hf j hj').2.2⟩

theorem ints_of {d : DataW H × List MemPlace} {n : Nat} {cs : List Value} (h : DataW.trod enc Try.prog W 0 (fun _ => true) held n 24 cs = some d) :
    ∃ ao len cap zs, cs = [.slice ao len cap] ∧ zs.length = len ∧ CellsAt W ao len (fun i => .int .i64 (gI zs i)) := by
  rcases open_ints Try.underlying24 Try.underlying3 (by kernel_rfl) h with ⟨hcs, _⟩ | ⟨x, l, c, zs, hcs, _, hl, hm, hz, _, hcell, hwz⟩
  · subst hcs
    exact ⟨none, 0, 0, [], rfl, rfl, fun j hj => by omega⟩
  · subst hcs
    have hz' : l ≤ zs.length := by simp at hz; omega
    refine ⟨some x, l, c, zs.take l, rfl, by simp; omega, fun j hj => ?_⟩
    have h0 := hcell 0 (by omega)
    have hs : x.spot = none := by simpa [Addr.add] using World.cell?_spot h0
    obtain ⟨b, o, s⟩ := x
    simp only at hs
    subst hs
    refine ⟨b, o, rfl, ?_⟩
    have hj := hcell j (by omega)
    have hg : gI (zs.take l) j = zs.getD j 0 := by
      have : j < l := by assumption
      simp [gI, List.getD, this]
    show W.cell? ⟨b, o + j, none⟩ = some (.int .i64 (gI (zs.take l) j))
    rw [hg, ← hj]
    unfold Addr.add
    split
    · rename_i h; subst h; rfl
    · rfl

theorem terms_of {d : DataW H} {pl : List MemPlace} {ao : Option Addr} {len cap : Nat} (h : DataW.Trod enc Try.prog W 0 (fun _ => true) held 22 (.slice ao len cap) d pl) :
    ∃ ts, TermsAt W (.slice ao len cap) ts := by
  obtain ⟨fuel, hf⟩ := h
  have hc45 : Try.prog.cellsOf 45 = 2 := by kernel_rfl
  have hc3 : Try.prog.cellsOf 3 = 1 := by kernel_rfl
  have hc24 : Try.prog.cellsOf 24 = 1 := by kernel_rfl
  rcases Deep.open_slice Try.underlying22 hf with ⟨hcs, _⟩ | ⟨a, len', cap', m, n, D, Pl, hcs, _, hlc, _, hm, _, hx⟩
  · simp [Value.cells] at hcs
    obtain ⟨rfl, rfl, rfl⟩ := hcs
    exact ⟨[], none, 0, rfl, fun j hj => by simp at hj⟩
  · simp [Value.cells] at hcs
    obtain ⟨rfl, rfl, rfl⟩ := hcs
    simp only [if_true] at hm
    have hall : ∀ i, i < len → ∃ t : Tm, a = ⟨a.block, a.off, if i = 0 then none else a.spot⟩ ∧ ∃ ko kc, W.cell? ⟨a.block, a.off + i * 2, none⟩ = some (.int .i64 t.head) ∧
        W.cell? ⟨a.block, a.off + i * 2 + 1, none⟩ = some (.slice ko t.kids.length kc) ∧ CellsAt W ko t.kids.length (fun j => .int .i64 (gI t.kids j)) := by
      intro i hi
      obtain ⟨cs', h1, h2⟩ := hx i (by omega)
      rw [hc45] at h1
      obtain ⟨c0, c1, rfl, ha, x0, x1⟩ := cells2 h1
      obtain ⟨y0, y1, n2, _, _, z0, z1⟩ := trod_struct2 Try.underlying45 h2
      simp only [hc3, hc24, List.drop_zero, List.take_succ_cons, List.take_zero] at z0 z1
      obtain ⟨hd, e0, _⟩ := DataW.trod_int Try.underlying3 z0
      simp at e0
      obtain ⟨ko, kl, kc, zs, e1, hz, hcz⟩ := ints_of z1
      simp at e1
      subst e0 e1 hz
      exact ⟨⟨hd, zs⟩, ha, ko, kc, x0, x1, hcz⟩
    obtain ⟨f, hf⟩ := Deep.choose_lt hall
    refine ⟨(List.range len).map f, some a, cap - len, by simp; omega, fun j hj => ?_⟩
    have hj' : j < len := by simpa using hj
    have ha := (hf 0 (by omega)).1
    rw [if_pos rfl] at ha
    have hg : gT ((List.range len).map f) j = f j := by simp [gT, hj']
    rw [hg]
    obtain ⟨ko, kc, x0, x1, x2⟩ := (hf j hj').2
    exact ⟨a.block, a.off, ko, kc, by rw [← ha], x0, x1, x2⟩
end
end Go.Proofs.Ytcckgfgobakphab
