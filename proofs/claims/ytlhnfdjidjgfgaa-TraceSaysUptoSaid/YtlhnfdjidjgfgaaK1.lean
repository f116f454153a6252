/-
  Rows of elements: a row appended to an own row; an element taken out of an own row; zeros laid.
-/
import Derived.Test.YtlhnfdjidjgfgaaProg
import Derived.Test.YtlhnfdjidjgfgaaXb
import Derived.Test.YtlhnfdjidjgfgaaEl
import Derived.Lib.SliceRun
import Derived.Lib.AppendZeros
import Derived.Deep.Upon
namespace Go.Proofs.Ytlhnfdjidjgfgaa
open Go.RowKit Go.Shelf
set_option linter.unusedVariables false
set_option maxHeartbeats 400000

section
variable {α : Type}
/-- a row has been appended -/
theorem St.appRow {w0 w w3 : World} {l : List Fct} (S : St w0 w l) (E : Elt α) (i : Nat) {B : Nat} {p p' q : Nat → Prop} {o : Value} {xs ys : List α} {css yss : List (List Value)} {gg cap : Nat}
    (hi : Fct.at l i = Fct.owns E B p o xs) (hyl : yss.length = ys.length) (hye : ∀ (j : Nat) cs y, yss[j]? = some cs → ys[j]? = some y → E.is q w cs y) (hcl : css.length = xs.length) (hel : ∀ (i : Nat) cs x, css[i]? = some cs → xs[i]? = some x → E.is (fun b => p b ∧ o.ownBlock ≠ some b) w cs x)
    (hown : w3.ownsRow B E.ty E.n (.slice (some ⟨gg, 0, none⟩) (xs.length + ys.length) cap) (xs.length + ys.length) (css.flatten ++ yss.flatten))
    (hg : w.grownBy w3 o.ownBlock) (hat : o.ownBlock = some gg ∨ gg = w.heap.size) (hB : w0.heap.size ≤ B)
    (hoff : ∀ b, o.ownBlock = some b → offs b i l) (hq : ∀ b, q b → o.ownBlock ≠ some b) (hpq : ∀ b, p b ∨ q b → p' b) :
    St w0 w3 (fset l i (.owns E B p' (.slice (some ⟨gg, 0, none⟩) (xs.length + ys.length) cap) (xs ++ ys))) := by
  have hlt := S.ownlt E i hi
  have hsame : ∀ b, b < w.heap.size → o.ownBlock ≠ some b → w3.heap[b]? = w.heap[b]? := fun b h1 h2 => hg.block b h1 (fun e => h2 e.symm)
  have hggn : ∀ b, b < w.heap.size → o.ownBlock ≠ some b → (Value.slice (some ⟨gg, 0, none⟩) (xs.length + ys.length) cap).ownBlock ≠ some b := fun b hlt hne e => by
    have e' : gg = b := by simpa [Value.ownBlock] using e
    rcases hat with h4 | h4
    · exact hne (by rw [h4, e'])
    · omega
  refine ⟨S.bel.grown hg S.size (fun c hc => by have := (hlt c hc).1; omega), fun j => ?_⟩
  by_cases hj : j = i
  · subst hj
    rcases at_fset_same (.owns E B p' (.slice (some ⟨gg, 0, none⟩) (xs.length + ys.length) cap) (xs ++ ys)) l j with h | h
    · rw [h]
      refine ⟨css ++ yss, by simp [hcl, hyl], by simpa using hown, fun k c y hc hy => ?_⟩
      by_cases hk : k < xs.length
      · rw [List.getElem?_append_left (by omega)] at hc
        rw [List.getElem?_append_left hk] at hy
        exact E.keep (fun b hb hl => ⟨hsame b hl hb.2, hpq b (.inl hb.1), hggn b hl hb.2⟩) (hel k c y hc hy)
      · rw [List.getElem?_append_right (by omega)] at hc hy
        rw [hcl] at hc
        exact E.keep (fun b hb hl => ⟨hsame b hl (hq b hb), hpq b (.inr hb), hggn b hl (hq b hb)⟩) (hye _ c y hc hy)
    · rw [h]; trivial
  · rw [at_fset_other _ _ _ _ hj]
    exact (Fct.at l j).stable w w3 (fun c hc hl => hsame c hl (fun e => offs_at (hoff c e) j hj hc)) (S.2 j)
/-- the walk's step over 'append(o, ys...)' -/
theorem wpList_appRow {P : Program} {w0 w : World} {l : List Fct} {ops : Array Oper} {rest : List Oper} {ope : Oper} {a : Act} {Q : Exit → Act → World → Prop} {B : Nat} {p p' q : Nat → Prop} {o : Value} {xs ys : List α}
    (hgd : ope.guard = none) (s y : Operand) (t : TypeId) (hop : ope.op = Op.call { callee := Callee.builtin Builtin.append, args := #[s, y], argTypes := #[t, t] }) (E : Elt α) (S : St w0 w l) (i : Nat)
    (hi : Fct.at l i = Fct.owns E B p o xs) {ad : Addr} {c : Nat} (hr : E.Row q w (some ad) ys) (hm : 0 < ys.length) {inf : TypeInfo} {z : Value} {size bytes : Nat} (hu : P.underlying t = some (.slice E.ty)) (h1 : P.info? E.ty = some inf) (h2 : inf.zero = some z) (h3 : inf.size = size) (h4 : inf.bytes = bytes) (h5 : z.cells.size = size) (h6 : size = E.n)
    (hv : a.eval s = o) (hy : a.eval y = .slice (some ad) ys.length c) (hlen : xs.length + ys.length ≤ maxLen) (hby : (xs.length + ys.length) * bytes ≤ 140737488355328) (hB0 : B ≤ w.heap.size) (hB : w0.heap.size ≤ B)
    (hoff : ∀ b, o.ownBlock = some b → B ≤ b → b < w.heap.size → offs b i l) (hq : ∀ b, q b → o.ownBlock ≠ some b) (hpq : ∀ b, p b ∨ q b → p' b)
    (h : ∀ gg cap w3, St w0 w3 (fset l i (.owns E B p' (.slice (some ⟨gg, 0, none⟩) (xs.length + ys.length) cap) (xs ++ ys))) → w.heap.size ≤ w3.heap.size → gg < w3.heap.size → (o.ownBlock = some gg ∨ gg = w.heap.size) → wpList P ops Q rest (a.put ope.dst (.slice (some ⟨gg, 0, none⟩) (xs.length + ys.length) cap)) w3) :
    wpList P ops Q (ope :: rest) a w := by
  obtain ⟨css, hcl, ho, hk⟩ := S.owns E i hi
  have hlt := S.ownlt E i hi
  obtain ⟨yss, hyl, hyf, hye, hyc, hy1⟩ := hr.cells
  refine wpList_append_lies _ hgd s y t hop B E.ty inf z size bytes hu h1 h2 h3 h4 h5 (by rw [h6]; exact E.pos) o xs.length css.flatten hv (by rw [h6]; exact ho) ad ys.length c yss.flatten hy (by rw [hyf, h6]) (hyc ad rfl) hy1 hm hlen hby hB0 w.heap.size rfl ?_
  intro gg cap w3 hown3 hgrow3 hat3 hlt3
  exact h gg cap w3 (S.appRow E i hi hyl hye hcl hk (by rw [h6] at hown3; exact hown3) hgrow3 hat3 hB (fun b hb => hoff b hb (hlt b hb).1 (hlt b hb).2) hq hpq) hgrow3.size hlt3 hat3

theorem size_setCells' (b : Nat) : ∀ (vs : List Value) (o : Nat) (w : World), (w.setCells b o vs).heap.size = w.heap.size
  | [], _, _ => rfl
  | v :: r, o, w => by
    show ((w.setCell ⟨b, o, none⟩ v).setCells b (o + 1) r).heap.size = _
    rw [size_setCells' b r]; simp [World.setCell]
theorem setCells_blk {b : Nat} {T : TypeId} {fr : Nat × Nat} : ∀ (vs : List Value) (o : Nat) (w : World) (cur : Array Value), w.heap[b]? = some (.cells cur T fr) → ∃ cur', (w.setCells b o vs).heap[b]? = some (.cells cur' T fr) ∧ cur'.size = cur.size
  | [], _, _, cur, h => ⟨cur, h, rfl⟩
  | v :: r, o, w, cur, h => by
    have h1 : (w.setCell ⟨b, o, none⟩ v).heap[b]? = some (.cells (cur.setIfInBounds o v) T fr) := by simp [World.setCell, Array.getElem?_modify, h]
    obtain ⟨cur', h2, h3⟩ := setCells_blk r (o + 1) (w.setCell ⟨b, o, none⟩ v) _ h1
    exact ⟨cur', h2, by rw [h3]; simp⟩
theorem ownsRow_of_cells {w : World} {g cap n size B : Nat} {T : TypeId} {cur : Array Value} {xs : List Value} (hh : w.heap[g]? = some (.cells cur T (0, 0))) (hB : B ≤ g) (hn : n ≤ cap) (hm : cap ≤ maxLen) (hsz : cur.size = cap * size) (hx : xs.length = n * size)
    (hc : ∀ (j : Nat) u, xs[j]? = some u → w.cell? ⟨g, j, none⟩ = some u) : w.ownsRow B T size (.slice (some ⟨g, 0, none⟩) n cap) n xs := by
  refine ⟨hx, .inr ⟨g, cap, cur, rfl, hB, hh, hn, hm, hsz, ?_⟩⟩
  have hle : n * size ≤ cap * size := Nat.mul_le_mul_right _ hn
  apply List.ext_getElem?
  intro j
  by_cases hj : j < xs.length
  · have h1 := hc j xs[j] (List.getElem?_eq_getElem hj)
    simp only [World.cell?, hh, Option.isSome_none] at h1
    rw [List.getElem?_take, if_pos (by omega), Array.getElem?_toList, List.getElem?_eq_getElem hj]
    simpa using h1
  · rw [List.getElem?_eq_none (by simp; omega), List.getElem?_eq_none (by omega)]
theorem ownsRow_cell {w : World} {g cap n size B : Nat} {T : TypeId} {xs : List Value} (h : w.ownsRow B T size (.slice (some ⟨g, 0, none⟩) n cap) n xs) :
    ∃ cur, w.heap[g]? = some (.cells cur T (0, 0)) ∧ B ≤ g ∧ n ≤ cap ∧ cap ≤ maxLen ∧ cur.size = cap * size ∧ ∀ (j : Nat) u, xs[j]? = some u → w.cell? ⟨g, j, none⟩ = some u := by
  obtain ⟨hx, h⟩ := h
  rcases h with ⟨h, _⟩ | ⟨g', cap', cur, e, hB, hh, hn, hm, hsz, ht⟩
  · simp at h
  · simp only [Value.slice.injEq, Option.some.injEq, Addr.mk.injEq] at e
    obtain ⟨⟨rfl, _⟩, _, rfl⟩ := e
    refine ⟨cur, hh, hB, hn, hm, hsz, fun j u hu => ?_⟩
    rw [← ht, List.getElem?_take] at hu
    split at hu
    · simp only [World.cell?, hh, Option.isSome_none]
      rw [Array.getElem?_toList] at hu
      simpa using hu
    · simp at hu
theorem run_clear_rows {P : Program} (w : World) (t e : TypeId) (z : Value) (k : Nat) (ht : P.underlying t = some (.slice e)) (hv : ∀ w, (zeroValue e).run P w = .ok z w) (hz : z.cells.size = k) (h1 : ∀ u ∈ z.cells.toList, u.oneCell' = true) (hk : 0 < k) (b o n c : Nat) (hn : 0 < n)
    (hc : ∀ j, j < n * k → (w.cell? ⟨b, o + j, none⟩).isSome = true) (hf : ∀ j, j < n * k → w.frozen? ⟨b, o + j, none⟩ = false) :
    ∃ zs : List Value, zs.length = n * k ∧ ∀ ty, (Builtin.clear_ #[t] ty #[.slice (some ⟨b, o, none⟩) n c]).run P w = .ok (.tuple #[]) (w.setCells b o zs) := by
  have hl : (Builtin.zeroCells z.cells n).toList.length = n * k := by simp [Builtin.zeroCells, hz]
  have hone : ∀ v ∈ (Builtin.zeroCells z.cells n).toList, v.oneCell' = true := by
    intro v hv'
    simp only [Builtin.zeroCells, Array.toList_map, List.mem_map] at hv'
    obtain ⟨i, _, rfl⟩ := hv'
    have hlt : i % z.cells.size < z.cells.size := Nat.mod_lt _ (by omega)
    rw [getElem!_pos z.cells _ hlt]
    exact h1 _ (by simp)
  refine ⟨(Builtin.zeroCells z.cells n).toList, hl, fun ty => ?_⟩
  have hst := run_storeCells_cells (P := P) b o (Builtin.zeroCells z.cells n).toList 0 w (by rw [hl]; simpa using hc) (by rw [hl]; simpa using hf) hone
  simp only [Nat.add_zero] at hst
  obtain ⟨m, rfl⟩ : ∃ m, n = m + 1 := ⟨n - 1, by omega⟩
  simp [Builtin.clear_, run_underlying ht, hv, hst]
theorem eraseIdx_flat {β : Type} {css : List (List β)} {i : Nat} : (css.eraseIdx i).flatten = (css.take i).flatten ++ (css.drop (i + 1)).flatten := by
  rw [List.eraseIdx_eq_take_drop_succ, List.flatten_append]
theorem take_flat_length {β : Type} {n : Nat} {css : List (List β)} (h : ∀ cs ∈ css, cs.length = n) {i : Nat} (hi : i ≤ css.length) : (css.take i).flatten.length = i * n := by
  rw [flat_length (fun cs hcs => h cs (List.mem_of_mem_take hcs)), List.length_take, Nat.min_eq_left hi]
theorem drop_flat_length {β : Type} {n : Nat} {css : List (List β)} (h : ∀ cs ∈ css, cs.length = n) {i : Nat} : (css.drop i).flatten.length = (css.length - i) * n := by
  rw [flat_length (fun cs hcs => h cs (List.mem_of_mem_drop hcs)), List.length_drop]
theorem flat_take_drop {β : Type} (css : List (List β)) (i : Nat) : css.flatten = (css.take i).flatten ++ (css.drop i).flatten := by
  rw [← List.flatten_append, List.take_append_drop]
/-- an element is taken out: what is moved, and what is there then -/
theorem Elt.Own.removed {E : Elt α} {p : Nat → Prop} {B : Nat} {w : World} {g cap : Nat} {xs : List α} (h : E.Own p B w (.slice (some ⟨g, 0, none⟩) xs.length cap) xs) {i : Nat} (hi : i < xs.length) :
    g < w.heap.size ∧ B ≤ g ∧ xs.length ≤ cap ∧ cap ≤ maxLen ∧ (∀ j, j < xs.length * E.n → (w.cell? ⟨g, j, none⟩).isSome = true ∧ w.frozen? ⟨g, j, none⟩ = false) ∧
    ∃ news : List Value, news.length = (xs.length - (i + 1)) * E.n ∧ (∀ u ∈ news, u.oneCell' = true) ∧ (∀ (j : Nat) u, news[j]? = some u → w.cell? ⟨g, (i + 1) * E.n + j, none⟩ = some u) ∧
      ∀ zs : List Value, zs.length = E.n → E.Own p B ((w.setCells g (i * E.n) news).setCells g ((xs.length - 1) * E.n) zs) (.slice (some ⟨g, 0, none⟩) (xs.length - 1) cap) (xs.eraseIdx i) := by
  obtain ⟨css, hcl, ho, hk⟩ := h
  obtain ⟨cur, hh, hB, hn, hm, hsz, hc⟩ := ownsRow_cell ho
  have hlen := Elt.lens hcl hk
  have hfl : css.flatten.length = xs.length * E.n := by rw [flat_length hlen, hcl]
  have hcell : ∀ j, j < xs.length * E.n → (w.cell? ⟨g, j, none⟩).isSome = true := fun j hj => by
    rw [hc j (css.flatten[j]'(by omega)) (List.getElem?_eq_getElem _)]; rfl
  have hfr : ∀ j, w.frozen? ⟨g, j, none⟩ = false := fun j => by simp [World.frozen?, hh]
  have e1 : i * E.n + E.n ≤ xs.length * E.n := by rw [← Nat.succ_mul]; exact Nat.mul_le_mul_right _ hi
  have e2 : (xs.length - (i + 1)) * E.n + (i + 1) * E.n = xs.length * E.n := by rw [← Nat.add_mul]; congr 1; omega
  have e3 : (xs.length - 1) * E.n + E.n = xs.length * E.n := by rw [← Nat.succ_mul]; congr 1; omega
  have e4 : (i + 1) * E.n = i * E.n + E.n := Nat.succ_mul _ _
  have hnl : (css.drop (i + 1)).flatten.length = (xs.length - (i + 1)) * E.n := by rw [drop_flat_length hlen, hcl]
  have htl : (css.take (i + 1)).flatten.length = (i + 1) * E.n := take_flat_length hlen (by omega)
  have htl0 : (css.take i).flatten.length = i * E.n := take_flat_length hlen (by omega)
  refine ⟨heap_lt hh, hB, hn, hm, fun j hj => ⟨hcell j hj, hfr j⟩, (css.drop (i + 1)).flatten, hnl, fun u hu => ?_, fun j u hu => ?_, fun zs hzl => ?_⟩
  · obtain ⟨cs, hcs, hu'⟩ := List.mem_flatten.1 hu
    obtain ⟨k, hk', rfl⟩ := List.getElem_of_mem (List.mem_of_mem_drop hcs)
    exact E.one (hk k _ _ (List.getElem?_eq_getElem hk') (List.getElem?_eq_getElem (by omega))) u hu'
  · refine hc _ u ?_
    rw [flat_take_drop css (i + 1), List.getElem?_append_right (by omega), htl, show (i + 1) * E.n + j - (i + 1) * E.n = j by omega]
    exact hu
  · obtain ⟨cur1, h1, s1⟩ := setCells_blk (css.drop (i + 1)).flatten (i * E.n) w cur hh
    obtain ⟨cur2, h2, s2⟩ := setCells_blk zs ((xs.length - 1) * E.n) _ cur1 h1
    have hel : (xs.eraseIdx i).length = xs.length - 1 := by rw [List.length_eraseIdx_of_lt hi]
    have hecl : (css.eraseIdx i).length = xs.length - 1 := by rw [List.length_eraseIdx_of_lt (by omega), hcl]
    have hefl : (css.eraseIdx i).flatten.length = (xs.length - 1) * E.n := by
      rw [flat_length (fun cs hcs => hlen cs (List.mem_of_mem_eraseIdx hcs)), hecl]
    refine ⟨css.eraseIdx i, by rw [hecl, hel], ?_, fun k cs x hcs hx => ?_⟩
    · rw [hel]
      refine ownsRow_of_cells h2 hB (by omega) hm (by rw [s2, s1, hsz]) hefl (fun j u hu => ?_)
      have hj : j < (xs.length - 1) * E.n := by have := (List.getElem?_eq_some_iff.1 hu).1; omega
      rw [World.cell?_setCells_out g zs _ _ _ (fun _ _ => .inl hj)]
      rw [eraseIdx_flat] at hu
      by_cases hji : j < i * E.n
      · rw [List.getElem?_append_left (by omega)] at hu
        rw [World.cell?_setCells_out g _ _ _ _ (fun _ _ => .inl hji)]
        refine hc j u ?_
        rw [flat_take_drop css i, List.getElem?_append_left (by omega)]; exact hu
      · rw [List.getElem?_append_right (by omega), htl0] at hu
        have hjl : j - i * E.n < (css.drop (i + 1)).flatten.length := (List.getElem?_eq_some_iff.1 hu).1
        have h3 := World.cell?_setCells_in g (css.drop (i + 1)).flatten (i * E.n) w (fun t ht => hcell _ (by omega)) (j - i * E.n) hjl
        rw [show i * E.n + (j - i * E.n) = j by omega] at h3
        rw [h3, ← hu, List.getElem?_eq_getElem hjl]
    · have hk1 : ∃ k' : Nat, css[k']? = some cs ∧ xs[k']? = some x := by
        rw [List.getElem?_eraseIdx] at hcs hx
        by_cases e : k < i
        · rw [if_pos e] at hcs hx; exact ⟨k, hcs, hx⟩
        · rw [if_neg e] at hcs hx; exact ⟨k + 1, hcs, hx⟩
      obtain ⟨k', hc1, hx1⟩ := hk1
      refine E.keep (fun b hb hl => ⟨?_, hb⟩) (hk k' cs x hc1 hx1)
      have hne : b ≠ g := fun e => hb.2 (by rw [e]; rfl)
      rw [World.heap_setCells_other _ g _ _ (by rw [size_setCells']; exact hl) hne, World.heap_setCells_other _ g _ _ hl hne]
end
end Go.Proofs.Ytlhnfdjidjgfgaa
