/-
  How the arguments of these laws read: trees, rows of trees; their size is at most the reading's bulk.
  How claims and theories as arguments read: rows of elements; their size is at most the reading's bulk.
  How lores and tables as arguments read.
  A row of integers as an argument is not longer than the reading's bulk.
  How rows of rules as arguments read: their trees are not larger than the reading's bulk.
-/
import Derived.Test.YtidgnbdlfngeaaaGreatDoorRows
import Derived.Test.YtidgnbdlfngeaaaGreatDoorXa
import Derived.Test.YtidgnbdlfngeaaaGreatDoorXb
import Derived.Test.YtidgnbdlfngeaaaGreatDoorV1
import Derived.WalkKit
import Derived.ProofKit
import Derived.OpenShut
import Derived.ChangeOld
import Derived.Below
import Derived.Deep.Slices
namespace Go.Proofs.YtidgnbdlfngeaaaGreatDoor
open Go.ChangeShapes Go.WideShapes Go.ChangeAt Go.RowKit
set_option linter.unusedVariables false

section
variable {H : Type} {enc : TypeId × Value → H} {W : World} {held : Bool}

theorem cells2 {a : Addr} {i : Nat} {cs : List Value} (h : W.cells? 0 (a.add (i * 2)) 2 = some cs) :
    ∃ c0 c1, cs = [c0, c1] ∧ a = ⟨a.block, a.off, if i = 0 then none else a.spot⟩ ∧ W.cell? ⟨a.block, a.off + i * 2, none⟩ = some c0 ∧ W.cell? ⟨a.block, a.off + i * 2 + 1, none⟩ = some c1 := by
  unfold World.cells? at h
  rw [if_pos (Nat.zero_le _)] at h
  simp only [List.range_succ, List.range_zero, List.nil_append, List.cons_append, List.mapM_cons, List.mapM_nil, Option.pure_def, Option.bind_eq_bind] at h
  obtain ⟨c0, h0, h⟩ := Option.bind_eq_some_iff.1 h
  obtain ⟨x, hx1, h⟩ := Option.bind_eq_some_iff.1 h
  obtain ⟨c1, h1, h2⟩ := Option.bind_eq_some_iff.1 hx1
  clear hx1
  have h2 : [c1] = x := by simpa using h2
  subst h2
  have h : [c0, c1] = cs := by simpa using h
  refine ⟨c0, c1, h.symm, ?_, ?_, ?_⟩
  · obtain ⟨b, o, s⟩ := a
    by_cases hi : i = 0
    · subst hi
      simp only [if_true, Addr.mk.injEq, true_and]
      have := World.cell?_spot h0
      simpa [Addr.add] using this
    · simp [hi]
  · obtain ⟨b, o, s⟩ := a
    by_cases hi : i = 0
    · subst hi
      have hs := World.cell?_spot h0
      simp [Addr.add] at hs h0 ⊢
      subst hs
      exact h0
    · have hi2 : ¬ i * 2 = 0 := by omega
      simpa [Addr.add, hi2] using h0
  · obtain ⟨b, o, s⟩ := a
    by_cases hi : i = 0
    · subst hi
      simpa [Addr.add] using h1
    · have hi2 : ¬ i * 2 = 0 := by omega
      simpa [Addr.add, hi2, Nat.add_assoc] using h1

theorem sum_le : ∀ (ks : List T) (es : List (DataW H × List MemPlace)), ks.length = es.length → (∀ (i : Nat) (t : T) (e : DataW H × List MemPlace), ks[i]? = some t → es[i]? = some e → t.size ≤ Rows.uptoBulk e.1) → sizeL ks ≤ Rows.uptoBulkAll (es.map (·.1))
  | [], [], _, _ => by simp [sizeL]
  | t :: r, e :: s, hl, h => by
    have h0 := h 0 t e rfl rfl
    have h1 := sum_le r s (by simpa using hl) (fun i t e h1 h2 => h (i + 1) t e (by simpa using h1) (by simpa using h2))
    simp only [sizeL, List.map_cons, Rows.uptoBulkAll]; omega
def TreeOf (W : World) (cs : List Value) (d : DataW H) : Prop := ∃ t, TreeAt W (.agg cs.toArray) t ∧ t.size ≤ Rows.uptoBulk d
def RowOf (W : World) (cs : List Value) (d : DataW H) : Prop := ∃ ao cap ks, cs = [.slice ao ks.length cap] ∧ ks.length ≤ cap ∧ ks.length ≤ maxLen ∧ RowAt W ao ks ∧ sizeL ks + 1 ≤ Rows.uptoBulk d

theorem row_of {fuel tid : Nat} {cs : List Value} {x : DataW H × List MemPlace} (ht : Tryz.prog.underlying tid = some (.slice 45)) (h : DataW.trod enc Tryz.prog W 0 (fun _ => true) held fuel tid cs = some x)
    (ih : ∀ n, n < fuel → ∀ cs x, DataW.trod enc Tryz.prog W 0 (fun _ => true) held n 45 cs = some x → TreeOf W cs x.1) : RowOf W cs x.1 := by
  have hc24 : Tryz.prog.cellsOf 45 = 2 := by kernel_rfl
  rcases DataW.trod_slice ht h with ⟨rfl, rfl⟩ | ⟨a, len, cap, elems, rest, n, hn, rfl, rfl, hb, hl, hm, hlen, hel, hsp, _⟩
  · exact ⟨none, 0, [], rfl, by simp, by simp, fun i hi => by simp at hi, by simp [sizeL, Rows.uptoBulk]⟩
  · rw [hc24] at hel
    have hall : ∀ i, i < len → ∃ t : T, a = ⟨a.block, a.off, if i = 0 then none else a.spot⟩ ∧ (∀ e, elems[i]? = some e → t.size ≤ Rows.uptoBulk e.1) ∧ ∃ k sp, W.cell? ⟨a.block, a.off + i * 2, none⟩ = some (.int .i64 t.head) ∧
        W.cell? ⟨a.block, a.off + i * 2 + 1, none⟩ = some (.slice k t.kids.length (t.kids.length + sp)) ∧ TreeAt W (.agg #[.int .i64 t.head, .slice k t.kids.length (t.kids.length + sp)]) t := by
      intro i hi
      have h1 := hel i hi
      obtain ⟨e, he⟩ : ∃ e, elems[i]? = some e := ⟨elems[i], by simp [hlen, hi]⟩
      rw [he] at h1
      obtain ⟨cs', h2, h3⟩ := Option.bind_eq_some_iff.1 h1
      obtain ⟨c0, c1, rfl, ha, x0, x1⟩ := cells2 h2
      obtain ⟨t, h4, h5⟩ := ih n (by omega) _ _ h3
      obtain ⟨k, sp, e'⟩ := h4.form
      have e0 : c0 = .int .i64 t.head ∧ c1 = .slice k t.kids.length (t.kids.length + sp) := by simpa using e'
      rw [e0.1] at x0; rw [e0.2] at x1
      rw [e0.1, e0.2] at h4
      exact ⟨t, ha, fun e2 h6 => by rw [he] at h6; cases h6; exact h5, k, sp, x0, x1, h4⟩
    obtain ⟨f, hf⟩ := Deep.choose_lt hall
    refine ⟨some a, cap, (List.range len).map f, by simp, by simpa using hl, by simp; omega, fun j hj => ?_, ?_⟩
    · have hj' : j < len := by simpa using hj
      have ha := (hf 0 (by omega)).1
      rw [if_pos rfl] at ha
      have hg : gK ((List.range len).map f) j = f j := by simp [gK, hj']
      rw [hg]
      obtain ⟨k, sp, x0, x1, x2⟩ := (hf j hj').2.2
      exact ⟨a.block, a.off, k, sp, by rw [← ha], x0, x1, x2⟩
    · have := sum_le ((List.range len).map f) elems (by simp [hlen]) (fun i t e h1 h2 => by
        have hi : i < len := by
          have := List.getElem?_eq_some_iff.1 h1
          simpa using this.1
        have e1 : t = f i := by simp [hi] at h1; exact h1.symm
        rw [e1]; exact (hf i hi).2.1 e h2)
      simp only [Rows.uptoBulk]; omega

set_option maxRecDepth 100000 in
theorem tree_of : ∀ (n : Nat) (cs : List Value) (x : DataW H × List MemPlace), DataW.trod enc Tryz.prog W 0 (fun _ => true) held n 45 cs = some x → TreeOf W cs x.1 := by
  intro n
  induction n using Nat.strongRecOn with
  | ind n ih =>
    intro cs x h
    have hc22 : Tryz.prog.cellsOf 38 = 1 := by kernel_rfl
    have hc3 : Tryz.prog.cellsOf 3 = 1 := by kernel_rfl
    have hc24 : Tryz.prog.cellsOf 45 = 2 := by kernel_rfl
    obtain ⟨xs, m, hm, rfl, hl, hxl, hf⟩ := DataW.trod_struct Tryz.underlying45 h
    rw [hc24] at hl
    match cs, hl, xs, hxl with
    | [c0, c1], _, [y0, y1], _ =>
      have z0 : DataW.trod enc Tryz.prog W 0 (fun _ => true) held m 3 ([c0, c1].take (Tryz.prog.cellsOf 3)) = some y0 := hf 0 _ rfl
      have z1 : DataW.trod enc Tryz.prog W 0 (fun _ => true) held m 38 ([c1].take (Tryz.prog.cellsOf 38)) = some y1 := hf 1 _ rfl
      rw [hc3] at z0; rw [hc22] at z1
      obtain ⟨hd, e0, _⟩ := DataW.trod_int Tryz.underlying3 z0
      simp at e0
      obtain ⟨ao, cap, ks, e1, hlc, hml, hr, hs⟩ := row_of Tryz.underlying38 z1 (fun n' hn' cs x h => ih n' (by omega) cs x h)
      simp at e1
      subst e0 e1
      obtain ⟨sp, rfl⟩ : ∃ sp, cap = ks.length + sp := ⟨cap - ks.length, by omega⟩
      exact ⟨.node hd ks, TreeAt.close hr hml, by simp only [T.size, List.map_cons, List.map_nil, Rows.uptoBulk, Rows.uptoBulkAll]; omega⟩

end
end Go.Proofs.YtidgnbdlfngeaaaGreatDoor
namespace Go.Proofs.YtidgnbdlfngeaaaGreatDoor
open Go.ChangeShapes Go.WideShapes Go.ChangeAt Go.RowKit
set_option linter.unusedVariables false

theorem mapM_at {α β : Type} {f : α → Option β} : ∀ {l : List α} {r : List β}, l.mapM f = some r → ∀ {i : Nat} {y : β}, r[i]? = some y → ∃ x, l[i]? = some x ∧ f x = some y
  | [], r, h, i, y, hy => by simp at h; subst h; simp at hy
  | a :: l, r, h, i, y, hy => by
    rw [List.mapM_cons] at h
    obtain ⟨b, hb, h⟩ := Option.bind_eq_some_iff.1 h
    obtain ⟨s, hs, h⟩ := Option.bind_eq_some_iff.1 h
    have h : b :: s = r := by simpa using h
    subst h
    cases i with
    | zero => simp at hy; subst hy; exact ⟨a, rfl, hb⟩
    | succ i => simpa using mapM_at hs (i := i) (by simpa using hy)

section
variable {H : Type} {enc : TypeId × Value → H} {W : World} {held : Bool}

theorem cellsN {a : Addr} {k n : Nat} {cs : List Value} (h : W.cells? 0 (a.add k) n = some cs) {j : Nat} {u : Value} (hu : cs[j]? = some u) :
    (k = 0 → j = 0 → a.spot = none) ∧ W.cell? ⟨a.block, a.off + k + j, none⟩ = some u := by
  unfold World.cells? at h
  rw [if_pos (Nat.zero_le _)] at h
  obtain ⟨j', hj', hc⟩ := mapM_at h hu
  have hj : j' = j := by
    obtain ⟨h1, h2⟩ := List.getElem?_eq_some_iff.1 hj'
    simpa using h2.symm
  subst hj
  have hs := World.cell?_spot hc
  obtain ⟨b, o, s⟩ := a
  by_cases hk : k = 0
  · by_cases hj0 : j' = 0
    · subst hk hj0
      simp only [Addr.add, if_true, Nat.add_zero] at hs hc ⊢
      subst hs
      exact ⟨fun _ _ => rfl, hc⟩
    · subst hk
      refine ⟨fun _ e => absurd e hj0, ?_⟩
      simpa [Addr.add, hj0] using hc
  · refine ⟨fun e => absurd e hk, ?_⟩
    by_cases hj0 : j' = 0
    · subst hj0
      simpa [Addr.add, hk] using hc
    · simpa [Addr.add, hk, hj0, Nat.add_assoc] using hc

def EltOf {α : Type} (E : Elt α) (mu : α → Nat) (W : World) (cs : List Value) (d : DataW H) : Prop := ∃ a, E.is (fun b => b < W.heap.size) W cs a ∧ mu a ≤ Rows.uptoBulk d
def sumE {α : Type} (mu : α → Nat) : List α → Nat
  | [] => 0
  | a :: r => mu a + sumE mu r
theorem sumE_le {α : Type} {mu : α → Nat} : ∀ {l : List α} {i : Nat} {a : α}, l[i]? = some a → mu a ≤ sumE mu l
  | [], i, a, h => by simp at h
  | x :: r, 0, a, h => by simp at h; subst h; simp only [sumE]; omega
  | x :: r, i + 1, a, h => by have := sumE_le (mu := mu) (l := r) (i := i) (by simpa using h); simp only [sumE]; omega
theorem sumE_length {α : Type} {mu : α → Nat} (hm : ∀ a, 1 ≤ mu a) : ∀ l : List α, l.length ≤ sumE mu l
  | [] => by simp [sumE]
  | x :: r => by have h1 := hm x; have h2 := sumE_length hm r; simp only [sumE, List.length_cons]; omega
theorem sumE_bulk {α : Type} {mu : α → Nat} : ∀ (ks : List α) (es : List (DataW H × List MemPlace)), ks.length = es.length → (∀ (i : Nat) (t : α) (e : DataW H × List MemPlace), ks[i]? = some t → es[i]? = some e → mu t ≤ Rows.uptoBulk e.1) → sumE mu ks ≤ Rows.uptoBulkAll (es.map (·.1))
  | [], [], _, _ => by simp [sumE]
  | t :: r, e :: s, hl, h => by
    have h0 := h 0 t e rfl rfl
    have h1 := sumE_bulk r s (by simpa using hl) (fun i t e h1 h2 => h (i + 1) t e (by simpa using h1) (by simpa using h2))
    simp only [sumE, List.map_cons, Rows.uptoBulkAll]; omega

theorem rowE_of {α : Type} [Inhabited α] (E : Elt α) (mu : α → Nat) {fuel tid : Nat} {cs : List Value} {x : DataW H × List MemPlace} (ht : Tryz.prog.underlying tid = some (.slice E.ty)) (hc : Tryz.prog.cellsOf E.ty = E.n) (h : DataW.trod enc Tryz.prog W 0 (fun _ => true) held fuel tid cs = some x)
    (ih : ∀ n, n < fuel → ∀ cs x, DataW.trod enc Tryz.prog W 0 (fun _ => true) held n E.ty cs = some x → EltOf E mu W cs x.1) :
    ∃ ao cap xs, cs = [.slice ao xs.length cap] ∧ xs.length ≤ cap ∧ xs.length ≤ maxLen ∧ E.Row (fun b => b < W.heap.size) W ao xs ∧ sumE mu xs + 1 ≤ Rows.uptoBulk x.1 := by
  rcases DataW.trod_slice ht h with ⟨rfl, rfl⟩ | ⟨a, len, cap, elems, rest, n, hn, rfl, rfl, hb, hl, hm, hlen, hel, hsp, _⟩
  · exact ⟨none, 0, [], rfl, by simp, by simp, Elt.Row.nil, by simp [sumE, Rows.uptoBulk]⟩
  · rw [hc] at hel
    have hall : ∀ i, i < len → ∃ t : α, (∀ e, elems[i]? = some e → mu t ≤ Rows.uptoBulk e.1) ∧ ∃ cs', W.cells? 0 (a.add (i * E.n)) E.n = some cs' ∧ E.is (fun b => b < W.heap.size) W cs' t := by
      intro i hi
      have h1 := hel i hi
      obtain ⟨e, he⟩ : ∃ e, elems[i]? = some e := ⟨elems[i], by simp [hlen, hi]⟩
      rw [he] at h1
      obtain ⟨cs', h2, h3⟩ := Option.bind_eq_some_iff.1 h1
      obtain ⟨t, h4, h5⟩ := ih n (by omega) _ _ h3
      exact ⟨t, fun e2 h6 => by rw [he] at h6; cases h6; exact h5, cs', h2, h4⟩
    obtain ⟨f, hf⟩ := Deep.choose_lt hall
    have hspot : 0 < len → a.spot = none := fun h0 => by
      obtain ⟨cs', h2, h3⟩ := (hf 0 h0).2
      have hlc := E.len h3
      have hp := E.pos
      exact (cellsN h2 (j := 0) (List.getElem?_eq_getElem (by omega))).1 (by simp) rfl
    refine ⟨some a, cap, (List.range len).map f, by simp, by simpa using hl, by simp; omega, fun j y hy => ?_, ?_⟩
    · have hj' : j < len := by have := (List.getElem?_eq_some_iff.1 hy).1; simpa using this
      have hyf : y = f j := by simp [hj'] at hy; exact hy.symm
      subst hyf
      obtain ⟨cs', h2, h3⟩ := (hf j hj').2
      have hlc := E.len h3
      have hp := E.pos
      have hsp0 := hspot (by omega)
      refine ⟨a.block, a.off, cs', by obtain ⟨b, o, s⟩ := a; simp at hsp0; rw [hsp0], ?_, fun i u hu => (cellsN h2 hu).2, h3⟩
      have hq := (cellsN h2 (j := 0) (List.getElem?_eq_getElem (by omega))).2
      have hq2 := block_lt_of_cell hq
      exact hq2
    · have := sumE_bulk (mu := mu) ((List.range len).map f) elems (by simp [hlen]) (fun i t e h1 h2 => by
        have hi : i < len := by
          have := List.getElem?_eq_some_iff.1 h1
          simpa using this.1
        have e1 : t = f i := by simp [hi] at h1; exact h1.symm
        rw [e1]; exact (hf i hi).1 e h2)
      simp only [Rows.uptoBulk]; omega

def muF (f : Fc) : Nat := f.l.size + f.r.size + 2
set_option maxRecDepth 100000 in
theorem fact_of (n : Nat) (cs : List Value) (x : DataW H × List MemPlace) (h : DataW.trod enc Tryz.prog W 0 (fun _ => true) held n 53 cs = some x) : EltOf factE muF W cs x.1 := by
  have hc54 : Tryz.prog.cellsOf 53 = 5 := by kernel_rfl
  have hc4 : Tryz.prog.cellsOf 4 = 1 := by kernel_rfl
  have hc44 : Tryz.prog.cellsOf 45 = 2 := by kernel_rfl
  obtain ⟨xs, m, hm, rfl, hl, hxl, hf⟩ := DataW.trod_struct Tryz.underlying53 h
  rw [hc54] at hl
  match cs, hl, xs, hxl with
  | [c0, c1, c2, c3, c4], _, [y0, y1, y2], _ =>
    have z0 : DataW.trod enc Tryz.prog W 0 (fun _ => true) held m 4 ([c0, c1, c2, c3, c4].take (Tryz.prog.cellsOf 4)) = some y0 := hf 0 _ rfl
    have z1 : DataW.trod enc Tryz.prog W 0 (fun _ => true) held m 45 ([c1, c2, c3, c4].take (Tryz.prog.cellsOf 45)) = some y1 := hf 1 _ rfl
    have z2 : DataW.trod enc Tryz.prog W 0 (fun _ => true) held m 45 ([c3, c4].take (Tryz.prog.cellsOf 45)) = some y2 := hf 2 _ rfl
    rw [hc4] at z0; rw [hc44] at z1 z2
    obtain ⟨b, e0, e0'⟩ := DataW.trod_bool Tryz.underlying4 z0
    obtain ⟨t1, g1, s1⟩ := tree_of m _ _ z1
    obtain ⟨t2, g2, s2⟩ := tree_of m _ _ z2
    obtain ⟨k1, p1, e1⟩ := g1.form
    obtain ⟨k2, p2, e2⟩ := g2.form
    have e0 : c0 = .bool b := by simpa using e0
    have e1' : c1 = .int .i64 t1.head ∧ c2 = .slice k1 t1.kids.length (t1.kids.length + p1) := by simpa using e1
    have e2' : c3 = .int .i64 t2.head ∧ c4 = .slice k2 t2.kids.length (t2.kids.length + p2) := by simpa using e2
    rw [e1] at g1; rw [e2] at g2
    refine ⟨⟨b, t1, t2⟩, ⟨k1, p1, k2, p2, by rw [e0, e1'.1, e1'.2, e2'.1, e2'.2], g1.foot, g2.foot⟩, ?_⟩
    simp only [muF, List.map_cons, List.map_nil, Rows.uptoBulk, Rows.uptoBulkAll, e0']; omega
instance : Inhabited Fc := ⟨⟨false, .node 0 [], .node 0 []⟩⟩
def muC (c : List Fc) : Nat := sumE muF c + 2
set_option maxRecDepth 100000 in
theorem claim_of (n : Nat) (cs : List Value) (x : DataW H × List MemPlace) (h : DataW.trod enc Tryz.prog W 0 (fun _ => true) held n 42 cs = some x) : EltOf claimE muC W cs x.1 := by
  have hc24 : Tryz.prog.cellsOf 42 = 1 := by kernel_rfl
  have hc22 : Tryz.prog.cellsOf 40 = 1 := by kernel_rfl
  obtain ⟨xs, m, hm, rfl, hl, hxl, hf⟩ := DataW.trod_struct Tryz.underlying42 h
  rw [hc24] at hl
  match cs, hl, xs, hxl with
  | [c0], _, [y0], _ =>
    have z0 : DataW.trod enc Tryz.prog W 0 (fun _ => true) held m 40 ([c0].take (Tryz.prog.cellsOf 40)) = some y0 := hf 0 _ rfl
    rw [hc22] at z0
    obtain ⟨ao, cap, ks, e1, hlc, hml, hr, hs⟩ := rowE_of factE muF Tryz.underlying40 (by kernel_rfl) z0 (fun n _ cs x h => fact_of n cs x h)
    simp at e1
    subst e1
    obtain ⟨sp, rfl⟩ : ∃ sp, cap = ks.length + sp := ⟨cap - ks.length, by omega⟩
    exact ⟨ks, ⟨ao, sp, rfl, hr, hml⟩, by simp only [muC, List.map_cons, List.map_nil, Rows.uptoBulk, Rows.uptoBulkAll]; omega⟩
theorem sumF_length : ∀ fs : List Fc, 4 * fs.length ≤ sumE muF fs
  | [] => by simp [sumE]
  | f :: r => by have h1 := f.l.size_pos; have h2 := f.r.size_pos; have h3 := sumF_length r; simp only [sumE, muF, List.length_cons]; omega
/-- the trees of a claim are not larger than it -/
theorem treesF_size : ∀ {fs : List Fc} {i : Nat} {t : T}, (treesF fs)[i]? = some t → t.size ≤ sumE muF fs
  | [], i, t, h => by simp [treesF] at h
  | f :: r, 0, t, h => by simp [treesF] at h; subst h; simp only [sumE, muF]; omega
  | f :: r, 1, t, h => by simp [treesF] at h; subst h; simp only [sumE, muF]; omega
  | f :: r, i + 2, t, h => by have := treesF_size (fs := r) (i := i) (by simpa [treesF] using h); simp only [sumE]; omega
end
end Go.Proofs.YtidgnbdlfngeaaaGreatDoor
namespace Go.Proofs.YtidgnbdlfngeaaaGreatDoor
open Go.ChangeShapes Go.WideShapes Go.ChangeAt Go.RowKit
set_option linter.unusedVariables false

section
variable {H : Type} {enc : TypeId × Value → H} {W : World} {held : Bool}
end
end Go.Proofs.YtidgnbdlfngeaaaGreatDoor
namespace Go.Proofs.YtidgnbdlfngeaaaGreatDoor
open Go.ChangeShapes Go.WideShapes Go.ChangeAt Go.RowKit
set_option linter.unusedVariables false

section
variable {H : Type} {enc : TypeId × Value → H} {W : World} {held : Bool}
theorem int1_of (n : Nat) (cs : List Value) (x : DataW H × List MemPlace) (h : DataW.trod enc Tryz.prog W 0 (fun _ => true) held n 3 cs = some x) : EltOf intE (fun _ => 1) W cs x.1 := by
  obtain ⟨a, e, _⟩ := DataW.trod_int Tryz.underlying3 h
  refine ⟨a, e, ?_⟩
  rcases x.1 with l | _ | _ | _ | _ | _ | _ | _
  · cases l <;> simp [Rows.uptoBulk]
  all_goals simp [Rows.uptoBulk]
end
end Go.Proofs.YtidgnbdlfngeaaaGreatDoor
