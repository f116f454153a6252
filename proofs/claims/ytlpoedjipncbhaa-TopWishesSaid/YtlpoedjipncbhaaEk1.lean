/-
  Rows of elements: a row appended to an own row.
-/
import Derived.Test.YtlpoedjipncbhaaProg
import Derived.Test.YtlpoedjipncbhaaS0
import Derived.Lib.SliceRun
import Derived.Lib.AppendZeros
import Derived.Deep.Upon
namespace Go.Proofs.Ytlpoedjipncbhaa
open Go.RowKit Go.Shelf
set_option linter.unusedVariables false
set_option maxHeartbeats 400000

section
variable {α : Type}
theorem flat_get {β : Type} {n : Nat} : ∀ {css : List (List β)}, (∀ cs ∈ css, cs.length = n) → ∀ {j : Nat} {u : β}, css.flatten[j]? = some u → ∃ i k cs, j = i * n + k ∧ k < n ∧ css[i]? = some cs ∧ cs[k]? = some u
  | [], _, j, u, h => by simp at h
  | c :: r, hl, j, u, h => by
    have h0 := hl c (by simp)
    rw [List.flatten_cons] at h
    by_cases hj : j < c.length
    · rw [List.getElem?_append_left hj] at h
      exact ⟨0, j, c, by omega, by omega, rfl, h⟩
    · rw [List.getElem?_append_right (by omega)] at h
      obtain ⟨i, k, cs, h1, h2, h3, h4⟩ := flat_get (css := r) (fun cs hcs => hl cs (by simp [hcs])) h
      exact ⟨i + 1, k, cs, by rw [Nat.succ_mul]; omega, h2, h3, h4⟩
theorem flat_length {β : Type} {n : Nat} : ∀ {css : List (List β)}, (∀ cs ∈ css, cs.length = n) → css.flatten.length = css.length * n
  | [], _ => by simp
  | c :: r, hl => by
    rw [List.flatten_cons, List.length_append, hl c (by simp), flat_length (css := r) (fun cs hcs => hl cs (by simp [hcs])), List.length_cons, Nat.succ_mul]; omega
theorem Elt.Row.cells {E : Elt α} {p : Nat → Prop} {w : World} {ao : Option Addr} {xs : List α} (h : E.Row p w ao xs) :
    ∃ css : List (List Value), css.length = xs.length ∧ css.flatten.length = xs.length * E.n ∧ (∀ (i : Nat) cs x, css[i]? = some cs → xs[i]? = some x → E.is p w cs x) ∧
      (∀ ad, ao = some ad → ∀ j u, css.flatten[j]? = some u → w.cell? (ad.add j) = some u) ∧ ∀ u ∈ css.flatten, u.oneCell' = true := by
  have hc : ∀ i, ∃ cs : List Value, ∀ x, xs[i]? = some x → (∃ b off, ao = some ⟨b, off, none⟩ ∧ ∀ (j : Nat) u, cs[j]? = some u → w.cell? ⟨b, off + i * E.n + j, none⟩ = some u) ∧ E.is p w cs x := fun i => by
    cases hx : xs[i]? with
    | none => exact ⟨[], fun x h => by cases h⟩
    | some x =>
      obtain ⟨b, off, cs, e, _, h1, h2⟩ := h i x hx
      exact ⟨cs, fun y hy => by obtain rfl := Option.some.inj hy; exact ⟨⟨b, off, e, h1⟩, h2⟩⟩
  obtain ⟨C, hC⟩ := Classical.axiomOfChoice hc
  have hget : ∀ (i : Nat) cs, ((List.range xs.length).map C)[i]? = some cs → cs = C i ∧ i < xs.length := fun i cs h => by
    have hi : i < xs.length := by have := (List.getElem?_eq_some_iff.1 h).1; simpa using this
    rw [List.getElem?_map, List.getElem?_range hi] at h
    exact ⟨(Option.some.inj h).symm, hi⟩
  have hel : ∀ (i : Nat) cs x, ((List.range xs.length).map C)[i]? = some cs → xs[i]? = some x → E.is p w cs x := fun i cs x h1 h2 => by
    obtain ⟨rfl, _⟩ := hget i cs h1
    exact (hC i x h2).2
  have hlen : ∀ cs ∈ (List.range xs.length).map C, cs.length = E.n := Elt.lens (by simp) hel
  refine ⟨(List.range xs.length).map C, by simp, by rw [flat_length hlen]; simp, hel, fun ad hd j u hu => ?_, fun u hu => ?_⟩
  · obtain ⟨i, k, cs, rfl, hk, h1, h2⟩ := flat_get hlen hu
    obtain ⟨rfl, hi⟩ := hget i cs h1
    obtain ⟨⟨b, off, e, h3⟩, _⟩ := hC i _ (List.getElem?_eq_getElem hi)
    rw [hd] at e
    obtain rfl := Option.some.inj e
    rw [Addr.add_lit, ← h3 k u h2]
    congr 2; omega
  · obtain ⟨cs, hcs, hu⟩ := List.mem_flatten.1 hu
    obtain ⟨i, hi, rfl⟩ := List.getElem_of_mem hcs
    have hi' : i < xs.length := by simpa using hi
    exact E.one (hel i _ _ (List.getElem?_eq_getElem hi) (List.getElem?_eq_getElem hi')) u hu
/-- a row has been appended -/
theorem St.appRow {w0 w w3 : World} {l : List Fct} (S : St w0 w l) (E : Elt α) (i : Nat) {B : Nat} {p p' q : Nat → Prop} {o : Value} {xs ys : List α} {css yss : List (List Value)} {gg cap : Nat}
    (hi : Fct.at l i = Fct.owns E B p o xs) (hyl : yss.length = ys.length) (hye : ∀ (j : Nat) cs y, yss[j]? = some cs → ys[j]? = some y → E.is q w cs y) (hcl : css.length = xs.length) (hel : ∀ (i : Nat) cs x, css[i]? = some cs → xs[i]? = some x → E.is (fun b => p b ∧ o.ownBlock ≠ some b) w cs x)
    (hown : w3.ownsRow B E.ty E.n (.slice (some ⟨gg, 0, none⟩) (xs.length + ys.length) cap) (xs.length + ys.length) (css.flatten ++ yss.flatten))
    (hg : w.grownBy w3 o.ownBlock) (hat : o.ownBlock = some gg ∨ gg = w.heap.size) (hB : w0.heap.size ≤ B)
    (hoff : ∀ b, o.ownBlock = some b → offs b i l) (hq : ∀ b, q b → o.ownBlock ≠ some b) (hpq : ∀ b, p b ∨ q b → p' b) :
    St w0 w3 (fset l i (.owns E B p' (.slice (some ⟨gg, 0, none⟩) (xs.length + ys.length) cap) (xs ++ ys))) := by
  have hlt := S.ownlt E i hi
  have hsame : ∀ b, b < w.heap.size → o.ownBlock ≠ some b → w3.heap[b]? = w.heap[b]? := fun b h1 h2 => hg.block b h1 (fun e => h2 e.symm)
  have hggn : ∀ b, b < w.heap.size → o.ownBlock ≠ some b → (Value.slice (some ⟨gg, 0, none⟩) (xs.length + ys.length) cap).ownBlock ≠ some b := fun b hlt hne e => by
    have e' : gg = b := by simpa [Value.ownBlock] using e
    rcases hat with h4 | h4
    · exact hne (by rw [h4, e'])
    · omega
  refine ⟨S.bel.grown hg S.size (fun c hc => by have := (hlt c hc).1; omega), fun j => ?_⟩
  by_cases hj : j = i
  · subst hj
    rcases at_fset_same (.owns E B p' (.slice (some ⟨gg, 0, none⟩) (xs.length + ys.length) cap) (xs ++ ys)) l j with h | h
    · rw [h]
      refine ⟨css ++ yss, by simp [hcl, hyl], by simpa using hown, fun k c y hc hy => ?_⟩
      by_cases hk : k < xs.length
      · rw [List.getElem?_append_left (by omega)] at hc
        rw [List.getElem?_append_left hk] at hy
        exact E.keep (fun b hb hl => ⟨hsame b hl hb.2, hpq b (.inl hb.1), hggn b hl hb.2⟩) (hel k c y hc hy)
      · rw [List.getElem?_append_right (by omega)] at hc hy
        rw [hcl] at hc
        exact E.keep (fun b hb hl => ⟨hsame b hl (hq b hb), hpq b (.inr hb), hggn b hl (hq b hb)⟩) (hye _ c y hc hy)
    · rw [h]; trivial
  · rw [at_fset_other _ _ _ _ hj]
    exact (Fct.at l j).stable w w3 (fun c hc hl => hsame c hl (fun e => offs_at (hoff c e) j hj hc)) (S.2 j)
/-- the walk's step over 'append(o, ys...)' -/
theorem wpList_appRow {P : Program} {w0 w : World} {l : List Fct} {ops : Array Oper} {rest : List Oper} {ope : Oper} {a : Act} {Q : Exit → Act → World → Prop} {B : Nat} {p p' q : Nat → Prop} {o : Value} {xs ys : List α}
    (hgd : ope.guard = none) (s y : Operand) (t : TypeId) (hop : ope.op = Op.call { callee := Callee.builtin Builtin.append, args := #[s, y], argTypes := #[t, t] }) (E : Elt α) (S : St w0 w l) (i : Nat)
    (hi : Fct.at l i = Fct.owns E B p o xs) {ad : Addr} {c : Nat} (hr : E.Row q w (some ad) ys) (hm : 0 < ys.length) {inf : TypeInfo} {z : Value} {size bytes : Nat} (hu : P.underlying t = some (.slice E.ty)) (h1 : P.info? E.ty = some inf) (h2 : inf.zero = some z) (h3 : inf.size = size) (h4 : inf.bytes = bytes) (h5 : z.cells.size = size) (h6 : size = E.n)
    (hv : a.eval s = o) (hy : a.eval y = .slice (some ad) ys.length c) (hlen : xs.length + ys.length ≤ maxLen) (hby : (xs.length + ys.length) * bytes ≤ 140737488355328) (hB0 : B ≤ w.heap.size) (hB : w0.heap.size ≤ B)
    (hoff : ∀ b, o.ownBlock = some b → B ≤ b → b < w.heap.size → offs b i l) (hq : ∀ b, q b → o.ownBlock ≠ some b) (hpq : ∀ b, p b ∨ q b → p' b)
    (h : ∀ gg cap w3, St w0 w3 (fset l i (.owns E B p' (.slice (some ⟨gg, 0, none⟩) (xs.length + ys.length) cap) (xs ++ ys))) → w.heap.size ≤ w3.heap.size → gg < w3.heap.size → (o.ownBlock = some gg ∨ gg = w.heap.size) → wpList P ops Q rest (a.put ope.dst (.slice (some ⟨gg, 0, none⟩) (xs.length + ys.length) cap)) w3) :
    wpList P ops Q (ope :: rest) a w := by
  obtain ⟨css, hcl, ho, hk⟩ := S.owns E i hi
  have hlt := S.ownlt E i hi
  obtain ⟨yss, hyl, hyf, hye, hyc, hy1⟩ := hr.cells
  refine wpList_append_lies _ hgd s y t hop B E.ty inf z size bytes hu h1 h2 h3 h4 h5 (by rw [h6]; exact E.pos) o xs.length css.flatten hv (by rw [h6]; exact ho) ad ys.length c yss.flatten hy (by rw [hyf, h6]) (hyc ad rfl) hy1 hm hlen hby hB0 w.heap.size rfl ?_
  intro gg cap w3 hown3 hgrow3 hat3 hlt3
  exact h gg cap w3 (S.appRow E i hi hyl hye hcl hk (by rw [h6] at hown3; exact hown3) hgrow3 hat3 hB (fun b hb => hoff b hb (hlt b hb).1 (hlt b hb).2) hq hpq) hgrow3.size hlt3 hat3

end
end Go.Proofs.Ytlpoedjipncbhaa
