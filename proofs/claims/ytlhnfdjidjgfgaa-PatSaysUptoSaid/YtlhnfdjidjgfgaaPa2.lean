/-
  A region that draws its order: two operations that may come next, each way walked (behind wpH of g4).
  A region that draws its order, walked in one order, within a round of a range over a function: what goes outside a round goes in one. No program is named here.
  Rows of elements: a row appended to an own row; an element taken out of an own row; zeros laid.
  Walks: is a tree among these? The trees of a claim, gathered by append.
  Walk: pat.terms, the trees of a claim in order.
-/
import Derived.Test.YtlhnfdjidjgfgaaG4
import Derived.Test.YtlhnfdjidjgfgaaG3
import Derived.Test.YtlhnfdjidjgfgaaProg
import Derived.Test.YtlhnfdjidjgfgaaXb
import Derived.Test.YtlhnfdjidjgfgaaNk3
import Derived.Lib.SliceRun
import Derived.Lib.AppendZeros
import Derived.Deep.Upon
import Derived.Test.YtlhnfdjidjgfgaaXe
import Derived.Test.YtlhnfdjidjgfgaaXd
import Derived.RegionTactic
namespace Go.Proofs.Ytlhnfdjidjgfgaa
open Go.RowKit
set_option linter.unusedVariables false

section
variable {P : Program} {ops : Array Oper} {Q : Exit → Act → World → Prop} {md : Region.Mode} {S : World → Prop} {sts : List Nat}
/-- numbers i and j are those that may come -/
theorem wpH.two {i j fuel : Nat} {listed : Array Bool} {a : Act} {w : World} (hr : Region.ready md ops listed = [i, j])
    (h : ∀ o, ops[i]? = some o → ∀ K' : Act → World → Prop, (∀ b W, (i ∉ sts → S W) → wpH P md ops Q S sts fuel (listed.setIfInBounds i true) b W → K' b W) → if Region.wanted o (yielded ops a.tmps) = true then Oper.wp P o a w K' Q else K' (a.put o.dst undef) w)
    (h2 : ∀ o, ops[j]? = some o → ∀ K' : Act → World → Prop, (∀ b W, (j ∉ sts → S W) → wpH P md ops Q S sts fuel (listed.setIfInBounds j true) b W → K' b W) → if Region.wanted o (yielded ops a.tmps) = true then Oper.wp P o a w K' Q else K' (a.put o.dst undef) w) : wpH P md ops Q S sts (fuel + 1) listed a w := by
  refine ⟨fun e => (by rw [hr] at e; cases e), fun k hk => ?_⟩
  have hm : k ∈ Region.ready md ops listed := hk
  obtain ⟨_, o, ho, _⟩ := mem_ready.1 hm
  rw [hr] at hk
  have hk2 : k = i ∨ k = j := by simpa using hk
  rcases hk2 with rfl | rfl
  · exact wpOp_step ho fun K' hK => h o ho K' fun b W h1 h2 => hK _ _ ⟨h1, h2⟩
  · exact wpOp_step ho fun K' hK => h2 o ho K' fun b W h1 h2 => hK _ _ ⟨h1, h2⟩
end
end Go.Proofs.Ytlhnfdjidjgfgaa
namespace Go.Proofs.Ytlhnfdjidjgfgaa
open Go.RowKit Go.Sort
set_option linter.unusedVariables false

section
variable {n : Nat} {P : Program} {ops : Array Oper} {md : Region.Mode}

theorem rowsIn_wide {n : Nat} {row : String} {args : Array Value} {w : World} {R : Value → World → Prop} (h : Rows P row args w R) : RowsIn Fence.wide n P row args w R :=
  fun c cs _ => let ⟨v, w', r, s⟩ := h c cs; ⟨v, w', r, stepsIn_wide.2 s⟩
theorem wp_round {l : Nat} {o : Oper} {a : Act} {w : World} {K : Act → World → Prop} {Q : Exit → Act → World → Prop} (hd : ∀ c, o.op ≠ .defer c) (h : o.wp P a w K Q) : o.wpIn (Fence.wide.inRound l) n P a w K Q := by
  refine ⟨fun _ _ => trivial, ?_⟩
  rw [Oper.semAt_eq _ _ _ hd]
  unfold Oper.wp at h
  generalize (execOp a.eval o).run P w = r at h ⊢
  cases r with
  | ok x w' =>
    cases x <;> simp only [Oper.upon, Oper.uponIn] at h ⊢ <;>
      first
        | exact h
        | exact ⟨(fun e => by cases e), callsIn_wide.2 h⟩
        | exact ⟨(fun e => by cases e), rowsIn_wide h⟩
  | halt x w' => cases x <;> simp only [Oper.upon, Oper.uponIn] at h ⊢ <;> exact h
theorem wpOp_round {l i : Nat} {a : Act} {w : World} {K : Act → World → Prop} {Q : Exit → Act → World → Prop} (hQ : ∀ a w, ¬ Q .outgrown a w) (hd : noDefer ops = true) (h : wpOp P ops Q i K a w) : wpOpIn (Fence.wide.inRound l) n P ops Q i K a w := by
  unfold wpOp at h
  unfold wpOpIn
  cases ho : ops[i]? with
  | none => rw [ho] at h; exact h
  | some o =>
    rw [ho] at h
    dsimp only at h ⊢
    by_cases hw : Region.wanted o (yielded ops a.tmps) = true
    · rw [if_pos hw] at h ⊢
      rcases h with h | ⟨_, a0, w0, h⟩
      · exact wp_round (noDefer.out hd ho) h
      · exact (hQ a0 w0 h).elim
    · rw [if_neg hw] at h ⊢
      exact ⟨fun _ _ => trivial, h⟩
theorem wpAny_round {l : Nat} {Q : Exit → Act → World → Prop} (hQ : ∀ a w, ¬ Q .outgrown a w) (hd : noDefer ops = true) : ∀ (fuel : Nat) (listed : Array Bool) (a : Act) (w : World), wpAny P md ops Q fuel listed a w → wpAnyIn (Fence.wide.inRound l) n P md ops Q fuel listed a w
  | 0, _, _, _, h => h
  | fuel + 1, listed, a, w, h => ⟨h.1, fun i hi => wpOpIn_mono (fun a w => wpAny_round hQ hd fuel _ a w) (wpOp_round hQ hd (h.2 i hi))⟩
theorem wpH_region_round (sts : List Nat) (S : World → Prop) {l id : Nat} {Q : Exit → Act → World → Prop} {a : Act} {w : World} (hm : P.follows .mixedOrders = true) (hd : noDefer ops = true) (hQ : ∀ a w, ¬ Q .outgrown a w)
    (h : wpH P .any ops Q S sts ops.size (Array.replicate ops.size false) a w.drew) : (Code.region id ops true).wpIn (Fence.wide.inRound l) n P Q a w :=
  wpIn_region_any hm (wpAny_round hQ hd _ _ _ _ h.any)
end
end Go.Proofs.Ytlhnfdjidjgfgaa
namespace Go.Proofs.Ytlhnfdjidjgfgaa
open Go.RowKit Go.Shelf
set_option linter.unusedVariables false
set_option maxHeartbeats 400000

section
variable {α : Type}
/-- a row has been appended -/
theorem St.appRow {w0 w w3 : World} {l : List Fct} (S : St w0 w l) (E : Elt α) (i : Nat) {B : Nat} {p p' q : Nat → Prop} {o : Value} {xs ys : List α} {css yss : List (List Value)} {gg cap : Nat}
    (hi : Fct.at l i = Fct.owns E B p o xs) (hyl : yss.length = ys.length) (hye : ∀ (j : Nat) cs y, yss[j]? = some cs → ys[j]? = some y → E.is q w cs y) (hcl : css.length = xs.length) (hel : ∀ (i : Nat) cs x, css[i]? = some cs → xs[i]? = some x → E.is (fun b => p b ∧ o.ownBlock ≠ some b) w cs x)
    (hown : w3.ownsRow B E.ty E.n (.slice (some ⟨gg, 0, none⟩) (xs.length + ys.length) cap) (xs.length + ys.length) (css.flatten ++ yss.flatten))
    (hg : w.grownBy w3 o.ownBlock) (hat : o.ownBlock = some gg ∨ gg = w.heap.size) (hB : w0.heap.size ≤ B)
    (hoff : ∀ b, o.ownBlock = some b → offs b i l) (hq : ∀ b, q b → o.ownBlock ≠ some b) (hpq : ∀ b, p b ∨ q b → p' b) :
    St w0 w3 (fset l i (.owns E B p' (.slice (some ⟨gg, 0, none⟩) (xs.length + ys.length) cap) (xs ++ ys))) := by
  have hlt := S.ownlt E i hi
  have hsame : ∀ b, b < w.heap.size → o.ownBlock ≠ some b → w3.heap[b]? = w.heap[b]? := fun b h1 h2 => hg.block b h1 (fun e => h2 e.symm)
  have hggn : ∀ b, b < w.heap.size → o.ownBlock ≠ some b → (Value.slice (some ⟨gg, 0, none⟩) (xs.length + ys.length) cap).ownBlock ≠ some b := fun b hlt hne e => by
    have e' : gg = b := by simpa [Value.ownBlock] using e
    rcases hat with h4 | h4
    · exact hne (by rw [h4, e'])
    · omega
  refine ⟨S.bel.grown hg S.size (fun c hc => by have := (hlt c hc).1; omega), fun j => ?_⟩
  by_cases hj : j = i
  · subst hj
    rcases at_fset_same (.owns E B p' (.slice (some ⟨gg, 0, none⟩) (xs.length + ys.length) cap) (xs ++ ys)) l j with h | h
    · rw [h]
      refine ⟨css ++ yss, by simp [hcl, hyl], by simpa using hown, fun k c y hc hy => ?_⟩
      by_cases hk : k < xs.length
      · rw [List.getElem?_append_left (by omega)] at hc
        rw [List.getElem?_append_left hk] at hy
        exact E.keep (fun b hb hl => ⟨hsame b hl hb.2, hpq b (.inl hb.1), hggn b hl hb.2⟩) (hel k c y hc hy)
      · rw [List.getElem?_append_right (by omega)] at hc hy
        rw [hcl] at hc
        exact E.keep (fun b hb hl => ⟨hsame b hl (hq b hb), hpq b (.inr hb), hggn b hl (hq b hb)⟩) (hye _ c y hc hy)
    · rw [h]; trivial
  · rw [at_fset_other _ _ _ _ hj]
    exact (Fct.at l j).stable w w3 (fun c hc hl => hsame c hl (fun e => offs_at (hoff c e) j hj hc)) (S.2 j)
/-- the walk's step over 'append(o, ys...)' -/
theorem wpList_appRow {P : Program} {w0 w : World} {l : List Fct} {ops : Array Oper} {rest : List Oper} {ope : Oper} {a : Act} {Q : Exit → Act → World → Prop} {B : Nat} {p p' q : Nat → Prop} {o : Value} {xs ys : List α}
    (hgd : ope.guard = none) (s y : Operand) (t : TypeId) (hop : ope.op = Op.call { callee := Callee.builtin Builtin.append, args := #[s, y], argTypes := #[t, t] }) (E : Elt α) (S : St w0 w l) (i : Nat)
    (hi : Fct.at l i = Fct.owns E B p o xs) {ad : Addr} {c : Nat} (hr : E.Row q w (some ad) ys) (hm : 0 < ys.length) {inf : TypeInfo} {z : Value} {size bytes : Nat} (hu : P.underlying t = some (.slice E.ty)) (h1 : P.info? E.ty = some inf) (h2 : inf.zero = some z) (h3 : inf.size = size) (h4 : inf.bytes = bytes) (h5 : z.cells.size = size) (h6 : size = E.n)
    (hv : a.eval s = o) (hy : a.eval y = .slice (some ad) ys.length c) (hlen : xs.length + ys.length ≤ maxLen) (hby : (xs.length + ys.length) * bytes ≤ 140737488355328) (hB0 : B ≤ w.heap.size) (hB : w0.heap.size ≤ B)
    (hoff : ∀ b, o.ownBlock = some b → B ≤ b → b < w.heap.size → offs b i l) (hq : ∀ b, q b → o.ownBlock ≠ some b) (hpq : ∀ b, p b ∨ q b → p' b)
    (h : ∀ gg cap w3, St w0 w3 (fset l i (.owns E B p' (.slice (some ⟨gg, 0, none⟩) (xs.length + ys.length) cap) (xs ++ ys))) → w.heap.size ≤ w3.heap.size → gg < w3.heap.size → (o.ownBlock = some gg ∨ gg = w.heap.size) → wpList P ops Q rest (a.put ope.dst (.slice (some ⟨gg, 0, none⟩) (xs.length + ys.length) cap)) w3) :
    wpList P ops Q (ope :: rest) a w := by
  obtain ⟨css, hcl, ho, hk⟩ := S.owns E i hi
  have hlt := S.ownlt E i hi
  obtain ⟨yss, hyl, hyf, hye, hyc, hy1⟩ := hr.cells
  refine wpList_append_lies _ hgd s y t hop B E.ty inf z size bytes hu h1 h2 h3 h4 h5 (by rw [h6]; exact E.pos) o xs.length css.flatten hv (by rw [h6]; exact ho) ad ys.length c yss.flatten hy (by rw [hyf, h6]) (hyc ad rfl) hy1 hm hlen hby hB0 w.heap.size rfl ?_
  intro gg cap w3 hown3 hgrow3 hat3 hlt3
  exact h gg cap w3 (S.appRow E i hi hyl hye hcl hk (by rw [h6] at hown3; exact hown3) hgrow3 hat3 hB (fun b hb => hoff b hb (hlt b hb).1 (hlt b hb).2) hq hpq) hgrow3.size hlt3 hat3

theorem size_setCells' (b : Nat) : ∀ (vs : List Value) (o : Nat) (w : World), (w.setCells b o vs).heap.size = w.heap.size
  | [], _, _ => rfl
  | v :: r, o, w => by
    show ((w.setCell ⟨b, o, none⟩ v).setCells b (o + 1) r).heap.size = _
    rw [size_setCells' b r]; simp [World.setCell]
theorem setCells_blk {b : Nat} {T : TypeId} {fr : Nat × Nat} : ∀ (vs : List Value) (o : Nat) (w : World) (cur : Array Value), w.heap[b]? = some (.cells cur T fr) → ∃ cur', (w.setCells b o vs).heap[b]? = some (.cells cur' T fr) ∧ cur'.size = cur.size
  | [], _, _, cur, h => ⟨cur, h, rfl⟩
  | v :: r, o, w, cur, h => by
    have h1 : (w.setCell ⟨b, o, none⟩ v).heap[b]? = some (.cells (cur.setIfInBounds o v) T fr) := by simp [World.setCell, Array.getElem?_modify, h]
    obtain ⟨cur', h2, h3⟩ := setCells_blk r (o + 1) (w.setCell ⟨b, o, none⟩ v) _ h1
    exact ⟨cur', h2, by rw [h3]; simp⟩
theorem ownsRow_of_cells {w : World} {g cap n size B : Nat} {T : TypeId} {cur : Array Value} {xs : List Value} (hh : w.heap[g]? = some (.cells cur T (0, 0))) (hB : B ≤ g) (hn : n ≤ cap) (hm : cap ≤ maxLen) (hsz : cur.size = cap * size) (hx : xs.length = n * size)
    (hc : ∀ (j : Nat) u, xs[j]? = some u → w.cell? ⟨g, j, none⟩ = some u) : w.ownsRow B T size (.slice (some ⟨g, 0, none⟩) n cap) n xs := by
  refine ⟨hx, .inr ⟨g, cap, cur, rfl, hB, hh, hn, hm, hsz, ?_⟩⟩
  have hle : n * size ≤ cap * size := Nat.mul_le_mul_right _ hn
  apply List.ext_getElem?
  intro j
  by_cases hj : j < xs.length
  · have h1 := hc j xs[j] (List.getElem?_eq_getElem hj)
    simp only [World.cell?, hh, Option.isSome_none] at h1
    rw [List.getElem?_take, if_pos (by omega), Array.getElem?_toList, List.getElem?_eq_getElem hj]
    simpa using h1
  · rw [List.getElem?_eq_none (by simp; omega), List.getElem?_eq_none (by omega)]
theorem ownsRow_cell {w : World} {g cap n size B : Nat} {T : TypeId} {xs : List Value} (h : w.ownsRow B T size (.slice (some ⟨g, 0, none⟩) n cap) n xs) :
    ∃ cur, w.heap[g]? = some (.cells cur T (0, 0)) ∧ B ≤ g ∧ n ≤ cap ∧ cap ≤ maxLen ∧ cur.size = cap * size ∧ ∀ (j : Nat) u, xs[j]? = some u → w.cell? ⟨g, j, none⟩ = some u := by
  obtain ⟨hx, h⟩ := h
  rcases h with ⟨h, _⟩ | ⟨g', cap', cur, e, hB, hh, hn, hm, hsz, ht⟩
  · simp at h
  · simp only [Value.slice.injEq, Option.some.injEq, Addr.mk.injEq] at e
    obtain ⟨⟨rfl, _⟩, _, rfl⟩ := e
    refine ⟨cur, hh, hB, hn, hm, hsz, fun j u hu => ?_⟩
    rw [← ht, List.getElem?_take] at hu
    split at hu
    · simp only [World.cell?, hh, Option.isSome_none]
      rw [Array.getElem?_toList] at hu
      simpa using hu
    · simp at hu
theorem run_clear_rows {P : Program} (w : World) (t e : TypeId) (z : Value) (k : Nat) (ht : P.underlying t = some (.slice e)) (hv : ∀ w, (zeroValue e).run P w = .ok z w) (hz : z.cells.size = k) (h1 : ∀ u ∈ z.cells.toList, u.oneCell' = true) (hk : 0 < k) (b o n c : Nat) (hn : 0 < n)
    (hc : ∀ j, j < n * k → (w.cell? ⟨b, o + j, none⟩).isSome = true) (hf : ∀ j, j < n * k → w.frozen? ⟨b, o + j, none⟩ = false) :
    ∃ zs : List Value, zs.length = n * k ∧ ∀ ty, (Builtin.clear_ #[t] ty #[.slice (some ⟨b, o, none⟩) n c]).run P w = .ok (.tuple #[]) (w.setCells b o zs) := by
  have hl : (Builtin.zeroCells z.cells n).toList.length = n * k := by simp [Builtin.zeroCells, hz]
  have hone : ∀ v ∈ (Builtin.zeroCells z.cells n).toList, v.oneCell' = true := by
    intro v hv'
    simp only [Builtin.zeroCells, Array.toList_map, List.mem_map] at hv'
    obtain ⟨i, _, rfl⟩ := hv'
    have hlt : i % z.cells.size < z.cells.size := Nat.mod_lt _ (by omega)
    rw [getElem!_pos z.cells _ hlt]
    exact h1 _ (by simp)
  refine ⟨(Builtin.zeroCells z.cells n).toList, hl, fun ty => ?_⟩
  have hst := run_storeCells_cells (P := P) b o (Builtin.zeroCells z.cells n).toList 0 w (by rw [hl]; simpa using hc) (by rw [hl]; simpa using hf) hone
  simp only [Nat.add_zero] at hst
  obtain ⟨m, rfl⟩ : ∃ m, n = m + 1 := ⟨n - 1, by omega⟩
  simp [Builtin.clear_, run_underlying ht, hv, hst]
theorem eraseIdx_flat {β : Type} {css : List (List β)} {i : Nat} : (css.eraseIdx i).flatten = (css.take i).flatten ++ (css.drop (i + 1)).flatten := by
  rw [List.eraseIdx_eq_take_drop_succ, List.flatten_append]
theorem take_flat_length {β : Type} {n : Nat} {css : List (List β)} (h : ∀ cs ∈ css, cs.length = n) {i : Nat} (hi : i ≤ css.length) : (css.take i).flatten.length = i * n := by
  rw [flat_length (fun cs hcs => h cs (List.mem_of_mem_take hcs)), List.length_take, Nat.min_eq_left hi]
theorem drop_flat_length {β : Type} {n : Nat} {css : List (List β)} (h : ∀ cs ∈ css, cs.length = n) {i : Nat} : (css.drop i).flatten.length = (css.length - i) * n := by
  rw [flat_length (fun cs hcs => h cs (List.mem_of_mem_drop hcs)), List.length_drop]
theorem flat_take_drop {β : Type} (css : List (List β)) (i : Nat) : css.flatten = (css.take i).flatten ++ (css.drop i).flatten := by
  rw [← List.flatten_append, List.take_append_drop]
/-- an element is taken out: what is moved, and what is there then -/
theorem Elt.Own.removed {E : Elt α} {p : Nat → Prop} {B : Nat} {w : World} {g cap : Nat} {xs : List α} (h : E.Own p B w (.slice (some ⟨g, 0, none⟩) xs.length cap) xs) {i : Nat} (hi : i < xs.length) :
    g < w.heap.size ∧ B ≤ g ∧ xs.length ≤ cap ∧ cap ≤ maxLen ∧ (∀ j, j < xs.length * E.n → (w.cell? ⟨g, j, none⟩).isSome = true ∧ w.frozen? ⟨g, j, none⟩ = false) ∧
    ∃ news : List Value, news.length = (xs.length - (i + 1)) * E.n ∧ (∀ u ∈ news, u.oneCell' = true) ∧ (∀ (j : Nat) u, news[j]? = some u → w.cell? ⟨g, (i + 1) * E.n + j, none⟩ = some u) ∧
      ∀ zs : List Value, zs.length = E.n → E.Own p B ((w.setCells g (i * E.n) news).setCells g ((xs.length - 1) * E.n) zs) (.slice (some ⟨g, 0, none⟩) (xs.length - 1) cap) (xs.eraseIdx i) := by
  obtain ⟨css, hcl, ho, hk⟩ := h
  obtain ⟨cur, hh, hB, hn, hm, hsz, hc⟩ := ownsRow_cell ho
  have hlen := Elt.lens hcl hk
  have hfl : css.flatten.length = xs.length * E.n := by rw [flat_length hlen, hcl]
  have hcell : ∀ j, j < xs.length * E.n → (w.cell? ⟨g, j, none⟩).isSome = true := fun j hj => by
    rw [hc j (css.flatten[j]'(by omega)) (List.getElem?_eq_getElem _)]; rfl
  have hfr : ∀ j, w.frozen? ⟨g, j, none⟩ = false := fun j => by simp [World.frozen?, hh]
  have e1 : i * E.n + E.n ≤ xs.length * E.n := by rw [← Nat.succ_mul]; exact Nat.mul_le_mul_right _ hi
  have e2 : (xs.length - (i + 1)) * E.n + (i + 1) * E.n = xs.length * E.n := by rw [← Nat.add_mul]; congr 1; omega
  have e3 : (xs.length - 1) * E.n + E.n = xs.length * E.n := by rw [← Nat.succ_mul]; congr 1; omega
  have e4 : (i + 1) * E.n = i * E.n + E.n := Nat.succ_mul _ _
  have hnl : (css.drop (i + 1)).flatten.length = (xs.length - (i + 1)) * E.n := by rw [drop_flat_length hlen, hcl]
  have htl : (css.take (i + 1)).flatten.length = (i + 1) * E.n := take_flat_length hlen (by omega)
  have htl0 : (css.take i).flatten.length = i * E.n := take_flat_length hlen (by omega)
  refine ⟨heap_lt hh, hB, hn, hm, fun j hj => ⟨hcell j hj, hfr j⟩, (css.drop (i + 1)).flatten, hnl, fun u hu => ?_, fun j u hu => ?_, fun zs hzl => ?_⟩
  · obtain ⟨cs, hcs, hu'⟩ := List.mem_flatten.1 hu
    obtain ⟨k, hk', rfl⟩ := List.getElem_of_mem (List.mem_of_mem_drop hcs)
    exact E.one (hk k _ _ (List.getElem?_eq_getElem hk') (List.getElem?_eq_getElem (by omega))) u hu'
  · refine hc _ u ?_
    rw [flat_take_drop css (i + 1), List.getElem?_append_right (by omega), htl, show (i + 1) * E.n + j - (i + 1) * E.n = j by omega]
    exact hu
  · obtain ⟨cur1, h1, s1⟩ := setCells_blk (css.drop (i + 1)).flatten (i * E.n) w cur hh
    obtain ⟨cur2, h2, s2⟩ := setCells_blk zs ((xs.length - 1) * E.n) _ cur1 h1
    have hel : (xs.eraseIdx i).length = xs.length - 1 := by rw [List.length_eraseIdx_of_lt hi]
    have hecl : (css.eraseIdx i).length = xs.length - 1 := by rw [List.length_eraseIdx_of_lt (by omega), hcl]
    have hefl : (css.eraseIdx i).flatten.length = (xs.length - 1) * E.n := by
      rw [flat_length (fun cs hcs => hlen cs (List.mem_of_mem_eraseIdx hcs)), hecl]
    refine ⟨css.eraseIdx i, by rw [hecl, hel], ?_, fun k cs x hcs hx => ?_⟩
    · rw [hel]
      refine ownsRow_of_cells h2 hB (by omega) hm (by rw [s2, s1, hsz]) hefl (fun j u hu => ?_)
      have hj : j < (xs.length - 1) * E.n := by have := (List.getElem?_eq_some_iff.1 hu).1; omega
      rw [World.cell?_setCells_out g zs _ _ _ (fun _ _ => .inl hj)]
      rw [eraseIdx_flat] at hu
      by_cases hji : j < i * E.n
      · rw [List.getElem?_append_left (by omega)] at hu
        rw [World.cell?_setCells_out g _ _ _ _ (fun _ _ => .inl hji)]
        refine hc j u ?_
        rw [flat_take_drop css i, List.getElem?_append_left (by omega)]; exact hu
      · rw [List.getElem?_append_right (by omega), htl0] at hu
        have hjl : j - i * E.n < (css.drop (i + 1)).flatten.length := (List.getElem?_eq_some_iff.1 hu).1
        have h3 := World.cell?_setCells_in g (css.drop (i + 1)).flatten (i * E.n) w (fun t ht => hcell _ (by omega)) (j - i * E.n) hjl
        rw [show i * E.n + (j - i * E.n) = j by omega] at h3
        rw [h3, ← hu, List.getElem?_eq_getElem hjl]
    · have hk1 : ∃ k' : Nat, css[k']? = some cs ∧ xs[k']? = some x := by
        rw [List.getElem?_eraseIdx] at hcs hx
        by_cases e : k < i
        · rw [if_pos e] at hcs hx; exact ⟨k, hcs, hx⟩
        · rw [if_neg e] at hcs hx; exact ⟨k + 1, hcs, hx⟩
      obtain ⟨k', hc1, hx1⟩ := hk1
      refine E.keep (fun b hb hl => ⟨?_, hb⟩) (hk k' cs x hc1 hx1)
      have hne : b ≠ g := fun e => hb.2 (by rw [e]; rfl)
      rw [World.heap_setCells_other _ g _ _ (by rw [size_setCells']; exact hl) hne, World.heap_setCells_other _ g _ _ hl hne]
end
end Go.Proofs.Ytlhnfdjidjgfgaa
namespace Go.Proofs.Ytlhnfdjidjgfgaa
open Go.RowKit Go.Shelf
set_option linter.unusedVariables false
set_option maxHeartbeats 400000

theorem RowAt.of_rowE {p : Nat → Prop} {w : World} {ao : Option Addr} {ks : List T} (h : treeE.Row p w ao ks) : RowAt w ao ks := fun i hi => by
  obtain ⟨b, off, k, sp, e, _, c0, c1, ht⟩ := h.tree hi
  rw [← gK_get hi] at c0 c1 ht
  exact ⟨b, off, k, sp, e, c0, c1, ht.at⟩
set_option maxRecDepth 100000 in
theorem hasIt126 (x t : T) (bt : Nat) (v u : Value) (w : World) (hv : TreeAt w v x) (ht : TreeAt w u t) (k : Option Addr) (sp : Nat) (hu : u = .agg #[.int .i64 t.head, .slice k t.kids.length (t.kids.length + sp)])
    (h0 : w.cell? ⟨bt, 0, none⟩ = some (.int .i64 t.head)) (h1 : w.cell? ⟨bt, 1, none⟩ = some (.slice k t.kids.length (t.kids.length + sp))) :
    Calls Try.prog 126 #[v, .pointer (some ⟨bt, 0, none⟩)] w fun e w' => e = .returned (.bool (decide (x = t))) ∧ Below w.heap.size w w' := by
  obtain ⟨ko, ksp, rfl⟩ := hv.form
  subst hu
  have HV := Lib.hid hv; have HT := Lib.hid ht
  have hb0 := (Below.refl w.heap.size w).alloc (Nat.le_refl _) (.cells #[.int .i64 x.head, .slice ko x.kids.length (x.kids.length + ksp)] 38)
  have HB0 := Lib.hid hb0
  clear hv ht
  have c0 := Below.cellOf hb0 h0; have c1 := Below.cellOf hb0 h1
  clear hb0
  go_enter Try.func126, Try.ntmps126
  go_wp2_with fail
  refine (same68 x t _ _ _ (HV.out.kept HB0.out) (HT.out.kept HB0.out)).mono ?_
  rintro e w2 ⟨rfl, hb2⟩
  have HB2 := Lib.hid (Below.step HB0.out hb2)
  clear hb2
  go_wp2_with fail
  go_ret
  exact ⟨rfl, HB2.out⟩
/-- pat.has -/
theorem has74 (ks : List T) (t : T) (p : Nat → Prop) (ao : Option Addr) (c : Nat) (u : Value) (w : World) (h : treeE.Row p w ao ks) (ht : TreeAt w u t) (hn : ks.length ≤ 1000000) :
    Calls Try.prog 74 #[.slice ao ks.length c, u] w fun e w' => e = .returned (.bool (decide (t ∈ ks))) ∧ Below w.heap.size w w' := by
  obtain ⟨ko, ksp, rfl⟩ := ht.form
  have HT := Lib.hid ht; have HR := Lib.hid h
  obtain ⟨bt, hbt⟩ : ∃ b, b = w.heap.size := ⟨_, rfl⟩
  have S := (St.start w).box hbt.symm #[.int .i64 t.head, .slice ko t.kids.length (t.kids.length + ksp)] 38
  have HA := Lib.hid (anyB_iff (p := fun i => decide (gK ks i = t)) (n := ks.length))
  have HD := Lib.hid (show anyB (fun i => decide (gK ks i = t)) ks.length = decide (t ∈ ks) by
    rw [Bool.eq_iff_iff, HA.out, decide_eq_true_iff]
    constructor
    · rintro ⟨i, hi, e⟩
      rw [decide_eq_true_iff, gK_get hi] at e
      rw [← e]; exact List.getElem_mem hi
    · intro hm
      obtain ⟨i, hi, e⟩ := List.getElem_of_mem hm
      exact ⟨i, hi, by rw [decide_eq_true_iff, gK_get hi]; exact e⟩)
  have hb0 := (Below.refl w.heap.size w).alloc (Nat.le_refl _) (.cells #[.int .i64 t.head, .slice ko t.kids.length (t.kids.length + ksp)] 38)
  have HC := Lib.hid (containsFunc60 126 #[.pointer (some ⟨bt, 0, none⟩)] (enters_of Try.func126 (by kernel_rfl) rfl) ao ks ks.length c rfl (fun i => decide (gK ks i = t)) _ (by omega) (RowAt.of_rowE (h.kept hb0)) (fun i w1 v hi hb hv => by
    obtain ⟨⟨x0, _⟩, x1, _⟩ := S.two 0
    exact hasIt126 (gK ks i) t bt v _ w1 hv ((ht.kept hb0).kept hb) ko ksp rfl (Below.cellOf hb x0) (Below.cellOf hb x1)))
  have HB0 := Lib.hid hb0
  clear h ht hb0 S
  go_enter Try.func74, Try.ntmps74
  go_wp2_with fail
  rw [← hbt]
  refine HC.out.mono ?_
  rintro e w2 ⟨rfl, hb2⟩
  have HB2 := Lib.hid (Below.step HB0.out hb2)
  clear hb2
  go_wp2_with fail
  go_ret
  exact ⟨ret_bool HD.out, HB2.out⟩
end Go.Proofs.Ytlhnfdjidjgfgaa
namespace Go.Proofs.Ytlhnfdjidjgfgaa
open Go.RowKit Go.Shelf
set_option linter.unusedVariables false
set_option maxHeartbeats 400000

theorem Elt.Own.low' {α : Type} {E : Elt α} {p : Nat → Prop} {B B' : Nat} {w : World} {o : Value} {xs : List α} (h : E.Own p B' w o xs) (hb : B ≤ B') : E.Own p B w o xs := by
  obtain ⟨css, h1, h2, h3⟩ := h
  exact ⟨css, h1, ownsRow_low h2 hb, h3⟩
theorem infoT38 : (Try.prog.info? 38).map (fun i => (i.zero, i.size, i.bytes)) = some (some (.agg #[.int .i64 0, .slice none 0 0]), 2, 32) := by kernel_rfl
theorem treesF_snoc {fs : List Fc} {k : Nat} (h : k < fs.length) : treesF (fs.take (k + 1)) = treesF (fs.take k) ++ [fs[k].l, fs[k].r] := by
  rw [List.take_succ_eq_append_getElem h, treesF_append]; rfl
theorem treesF_len (fs : List Fc) : (treesF fs).length = 2 * fs.length := by
  induction fs with
  | nil => rfl
  | cons f r ih => simp only [treesF, List.length_cons, ih]; omega
section
variable {α : Type}
/-- the walk's step over 'append(o, ys...)', the elements' footprint apart from the row's -/
theorem wpList_appCells {P : Program} {w0 w : World} {l : List Fct} {ops : Array Oper} {rest : List Oper} {ope : Oper} {a : Act} {Q : Exit → Act → World → Prop} {B : Nat} {p p' q : Nat → Prop} {o : Value} {xs ys : List α}
    (hgd : ope.guard = none) (s y : Operand) (t : TypeId) (hop : ope.op = Op.call { callee := Callee.builtin Builtin.append, args := #[s, y], argTypes := #[t, t] }) (E : Elt α) (S : St w0 w l) (i : Nat)
    (hi : Fct.at l i = Fct.owns E B p o xs) (yss : List (List Value)) (hyl : yss.length = ys.length) (hye : ∀ (j : Nat) cs y, yss[j]? = some cs → ys[j]? = some y → E.is q w cs y) {ad : Addr} {c : Nat} (hyc : ∀ (j : Nat) u, yss.flatten[j]? = some u → w.cell? (ad.add j) = some u) (hyf : yss.flatten.length = ys.length * E.n) (hy1 : ∀ u ∈ yss.flatten, u.oneCell' = true)
    (hm : 0 < ys.length) {inf : TypeInfo} {z : Value} {size bytes : Nat} (hu : P.underlying t = some (.slice E.ty)) (h1 : P.info? E.ty = some inf) (h2 : inf.zero = some z) (h3 : inf.size = size) (h4 : inf.bytes = bytes) (h5 : z.cells.size = size) (h6 : size = E.n)
    (hv : a.eval s = o) (hy : a.eval y = .slice (some ad) ys.length c) (hlen : xs.length + ys.length ≤ maxLen) (hby : (xs.length + ys.length) * bytes ≤ 140737488355328) (hB0 : B ≤ w.heap.size) (hB : w0.heap.size ≤ B)
    (hoff : ∀ b, o.ownBlock = some b → B ≤ b → b < w.heap.size → offs b i l) (hq : ∀ b, q b → o.ownBlock ≠ some b) (hpq : ∀ b, p b ∨ q b → p' b)
    (h : ∀ gg cap w3, St w0 w3 (fset l i (.owns E B p' (.slice (some ⟨gg, 0, none⟩) (xs.length + ys.length) cap) (xs ++ ys))) → w.heap.size ≤ w3.heap.size → gg < w3.heap.size → (o.ownBlock = some gg ∨ gg = w.heap.size) → wpList P ops Q rest (a.put ope.dst (.slice (some ⟨gg, 0, none⟩) (xs.length + ys.length) cap)) w3) :
    wpList P ops Q (ope :: rest) a w := by
  obtain ⟨css, hcl, ho, hk⟩ := S.owns E i hi
  have hlt := S.ownlt E i hi
  refine wpList_append_lies _ hgd s y t hop B E.ty inf z size bytes hu h1 h2 h3 h4 h5 (by rw [h6]; exact E.pos) o xs.length css.flatten hv (by rw [h6]; exact ho) ad ys.length c yss.flatten hy (by rw [hyf, h6]) hyc hy1 hm hlen hby hB0 w.heap.size rfl ?_
  intro gg cap w3 hown3 hgrow3 hat3 hlt3
  exact h gg cap w3 (S.appRow E i hi hyl hye hcl hk (by rw [h6] at hown3; exact hown3) hgrow3 hat3 hB (fun b hb => hoff b hb (hlt b hb).1 (hlt b hb).2) hq hpq) hgrow3.size hlt3 hat3
end
set_option maxRecDepth 100000 in
set_option maxHeartbeats 4000000 in
theorem terms150 (fs : List Fc) (p : Nat → Prop) (ao : Option Addr) (cap : Nat) (w : World) (hp : ∀ c, p c → c < w.heap.size) (h : factE.Row p w ao fs) (hn : fs.length ≤ 1000) :
    Calls Try.prog 150 #[.agg #[.slice ao fs.length cap]] w fun e w' => ∃ o, e = .returned o ∧ treeE.Own p w.heap.size w' o (treesF fs) ∧ Below w.heap.size w w' := by
  have HR := Lib.hid h; have HP := Lib.hid hp
  obtain ⟨i38, gi, gz0, gz1, gz2⟩ := info_parts infoT38
  obtain ⟨bx, hbx⟩ : ∃ b, b = w.heap.size := ⟨_, rfl⟩
  have S1 := (St.start w).box hbx.symm #[.slice ao fs.length cap] 41
  have S := S1.add (.owns treeE (bx + 1) p (.slice none 0 0) (treesF (fs.take 0))) (Elt.Own.nil _ _ _ _)
  have HBX := Lib.hid hbx
  have hz0 : bx + 1 ≤ (w.alloc (.cells #[.slice ao fs.length cap] 41)).heap.size := by simp [hbx]
  clear h hp S1
  go_enter Try.func150, Try.ntmps150
  go_wp2_with fail
  rw [← hbx]
  refine S.genC (z := bx + 1) hz0 ?_
  clear S hz0 hbx
  intro w1 hz S
  go_loopw [3, 9] (fun o i wr => ∃ k : Nat, k ≤ fs.length ∧ i = .int .i64 k ∧ bx + 1 ≤ wr.heap.size ∧ St w wr [.box bx #[.slice ao fs.length cap] 41, .owns treeE (bx + 1) p o (treesF (fs.take k))]) (fun _ i _ => fs.length - (intOf i).toNat)
  case atStart => exact ⟨0, by omega, rfl, hz, S⟩
  case round =>
    clear S hz
    obtain ⟨k, hk, rfl, hz, S⟩ := hrel
    by_cases hlt : k < fs.length
    · have hlti : (k : Int) < (fs.length : Int) := by omega
      obtain ⟨b, off, ka, sa, kb, sb, rfl, hpb, c0, c1, c2, c3, c4, t1, t2⟩ := (HR.out.kept S.bel).fact hlt
      have HT := Lib.hid (treesF_snoc hlt)
      have HLT := Lib.hid (show (treesF (fs.take k)).length ≤ 2000 by rw [treesF_len]; simp; omega)
      obtain ⟨F, hF⟩ : ∃ F, F = fs[k] := ⟨_, rfl⟩
      rw [← hF] at c0 c1 c2 c3 c4 t1 t2 HT
      have HT1 := Lib.hid t1; have HT2 := Lib.hid t2
      obtain ⟨L, hL⟩ : ∃ L, L = treesF (fs.take k) := ⟨_, rfl⟩
      rw [← hL] at S HT HLT
      have HOW := Lib.hid (fun bb (e : Value.ownBlock u3 = some bb) => show bx < bb ∧ bb < wr.heap.size from by
        have h1 := S.ownlt treeE 1 rfl bb e
        omega)
      have S2 := (S.alloc (.cells #[.bool F.neg, .int .i64 F.l.head, .slice ka F.l.kids.length (F.l.kids.length + sa), .int .i64 F.r.head, .slice kb F.r.kids.length (F.r.kids.length + sb)] 62))
      obtain ⟨wa, hwa⟩ : ∃ W, W = wr.alloc (.cells #[.bool F.neg, .int .i64 F.l.head, .slice ka F.l.kids.length (F.l.kids.length + sa), .int .i64 F.r.head, .slice kb F.r.kids.length (F.r.kids.length + sb)] 62) := ⟨_, rfl⟩
      have S3 := S2.alloc (.cells #[.int .i64 F.l.head, .slice ka F.l.kids.length (F.l.kids.length + sa), .int .i64 F.r.head, .slice kb F.r.kids.length (F.r.kids.length + sb)] 38)
      rw [← hwa] at S2 S3
      have hbw : Below wr.heap.size wr wa := by rw [hwa]; exact (Below.refl _ wr).alloc (Nat.le_refl _) _
      have hb2 := hbw.alloc hbw.size (.cells #[.int .i64 F.l.head, .slice ka F.l.kids.length (F.l.kids.length + sa), .int .i64 F.r.head, .slice kb F.r.kids.length (F.r.kids.length + sb)] 38)
      have HYC := Lib.hid (show ∀ (j : Nat) u, ([[Value.int .i64 F.l.head, .slice ka F.l.kids.length (F.l.kids.length + sa)], [.int .i64 F.r.head, .slice kb F.r.kids.length (F.r.kids.length + sb)]].flatten)[j]? = some u → (wa.alloc (.cells #[.int .i64 F.l.head, .slice ka F.l.kids.length (F.l.kids.length + sa), .int .i64 F.r.head, .slice kb F.r.kids.length (F.r.kids.length + sb)] 38)).cell? ((⟨wa.heap.size, 0, none⟩ : Addr).add j) = some u from
        World.news_of_block (cs := #[.int .i64 F.l.head, .slice ka F.l.kids.length (F.l.kids.length + sa), .int .i64 F.r.head, .slice kb F.r.kids.length (F.r.kids.length + sb)]) (t := 38) (fr := (0, 0)) (heap_ofAlloc wa _))
      have HYE := Lib.hid (show ∀ (j : Nat) cs y, [[Value.int .i64 F.l.head, .slice ka F.l.kids.length (F.l.kids.length + sa)], [.int .i64 F.r.head, .slice kb F.r.kids.length (F.r.kids.length + sb)]][j]? = some cs → [F.l, F.r][j]? = some y → treeE.is p (wa.alloc (.cells #[.int .i64 F.l.head, .slice ka F.l.kids.length (F.l.kids.length + sa), .int .i64 F.r.head, .slice kb F.r.kids.length (F.r.kids.length + sb)] 38)) cs y from fun j cs y h1 h2 => by
        match j, h1, h2 with
        | 0, h1, h2 => simp at h1 h2; subst h1 h2; exact ⟨ka, sa, rfl, HT1.out.kept hb2⟩
        | 1, h1, h2 => simp at h1 h2; subst h1 h2; exact ⟨kb, sb, rfl, HT2.out.kept hb2⟩)
      have hwsz : wa.heap.size = wr.heap.size + 1 := by rw [hwa]; simp
      clear hwsz
      have hz2 : bx + 1 ≤ (wa.alloc (.cells #[.int .i64 F.l.head, .slice ka F.l.kids.length (F.l.kids.length + sa), .int .i64 F.r.head, .slice kb F.r.kids.length (F.r.kids.length + sb)] 38)).heap.size := by rw [hwa]; simp; omega
      have HWS := Lib.hid (show wr.heap.size ≤ wa.heap.size from hbw.size)
      subst hwa
      clear hbw hb2 S S2 t1 t2 hF hL
      go_wp2_with (at_builtin; refine wpList_appCells rfl (.tmp 13) (.tmp 18) 32 rfl treeE S3 1 rfl (q := p) (p' := p) (ys := [F.l, F.r]) (c := 2) [[Value.int .i64 F.l.head, .slice ka F.l.kids.length (F.l.kids.length + sa)], [.int .i64 F.r.head, .slice kb F.r.kids.length (F.r.kids.length + sb)]] rfl HYE.out HYC.out rfl (by intro u hu; simp at hu; rcases hu with rfl | rfl | rfl | rfl <;> rfl) (by simp) Try.underlying32 gi gz0 gz1 gz2 rfl rfl ?v1 ?v2 ?c1 ?c2 ?c3 ?c4 ?c5 ?c6 ?c7 ?_)
      try (case v1 => rfl)
      try (case v2 => simp; rfl)
      case c1 => have := HLT.out; unfold maxLen; simp; omega
      case c2 => have := HLT.out; simp; omega
      case c3 => omega
      case c4 => have := HBX.out; omega
      case c5 =>
        intro bb h1 h2 h3
        have h4 := HOW.out bb h1
        simp only [offs, offAll, Fct.box, and_true]
        omega
      case c6 =>
        intro bb h1 h2
        have h4 := HOW.out bb h2
        have hx := HBX.out
        have := HP.out bb h1; omega
      case c7 => exact fun bb h1 => h1.elim id id
      intro gg cap2 w3 S4 hs3 hgg hat
      have S5 := Lib.hid (show St w w3 [.box bx #[.slice (some ⟨b, off, none⟩) fs.length cap] 41, .owns treeE (bx + 1) p (.slice (some ⟨gg, 0, none⟩) (L.length + 2) cap2) (treesF (fs.take (k + 1)))] by rw [HT.out]; exact S4)
      have hz3 : bx + 1 ≤ w3.heap.size := by omega
      clear S3 S4 c0 c1 c2 c3 c4 hat
      go_wp2_with fail
      go_roundw
      case rel => exact ⟨k + 1, by omega, by go_num, hz3, S5.out⟩
      case measure => simp [intOf] <;> omega
    · obtain rfl : k = fs.length := by omega
      rw [List.take_length] at S
      have hO := S.owns treeE 1
      have HO := Lib.hid hO
      have SB := Lib.hid S.bel
      clear S hO
      go_wp2_with fail
      go_ret
      exact ⟨_, rfl, by rw [← HBX.out]; exact HO.out.low' (by omega), SB.out⟩
end Go.Proofs.Ytlhnfdjidjgfgaa
