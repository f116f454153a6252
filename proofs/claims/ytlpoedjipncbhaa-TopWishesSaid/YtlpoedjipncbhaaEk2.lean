/-
  Rows of elements: a row of one, just built; 'append(o, ys...)' whatever the length of ys. No program is named here.
-/
import Derived.Test.YtlpoedjipncbhaaS0
import Derived.Test.YtlpoedjipncbhaaEk1
import Derived.Deep.AppendLies
namespace Go.Proofs.Ytlpoedjipncbhaa
open Go.RowKit Go.Shelf
set_option linter.unusedVariables false
set_option maxHeartbeats 400000

section
variable {α : Type}
theorem Elt.Own.one {E : Elt α} {p : Nat → Prop} {B : Nat} {w : World} {g : Nat} {cs : Array Value} {x : α} (hh : w.heap[g]? = some (.cells cs E.ty (0, 0))) (hB : B ≤ g) (hx : E.is (fun b => p b ∧ b ≠ g) w cs.toList x) : E.Own p B w (.slice (some ⟨g, 0, none⟩) 1 1) [x] := by
  have hl := E.len hx
  refine ⟨[cs.toList], rfl, ⟨by simp [hl], .inr ⟨g, 1, cs, rfl, hB, hh, Nat.le_refl _, by decide, by have : cs.toList.length = E.n := hl; simpa using this, ?_⟩⟩, fun i c y hc hy => ?_⟩
  · simp only [List.length_singleton, List.flatten_cons, List.flatten_nil, List.append_nil]
    exact List.take_of_length_le (by rw [hl]; omega)
  · match i, hc, hy with
    | 0, hc, hy =>
      simp at hc hy; subst hc hy
      exact E.keep (fun b hb _ => ⟨rfl, hb.1, fun e => hb.2 (by simpa [Value.ownBlock] using e.symm)⟩) hx
theorem Elt.Own.weak {E : Elt α} {p q : Nat → Prop} {B : Nat} {w : World} {o : Value} {xs : List α} (h : E.Own p B w o xs) (hpq : ∀ b, p b → q b) : E.Own q B w o xs := by
  obtain ⟨css, h1, h2, h3⟩ := h
  exact ⟨css, h1, h2, fun i cs x e1 e2 => E.keep (fun b hb _ => ⟨rfl, hpq b hb.1, hb.2⟩) (h3 i cs x e1 e2)⟩
theorem Elt.Own.tightC {E : Elt α} {p q : Nat → Prop} {B : Nat} {w : World} {o : Value} {xs : List α} (h : E.Own p B w o xs) (hpq : ∀ b, p b → b < w.heap.size → q b) : E.Own q B w o xs := by
  obtain ⟨css, h1, h2, h3⟩ := h
  exact ⟨css, h1, h2, fun i cs x e1 e2 => E.keep (fun b hb hl => ⟨rfl, hpq b hb.1 hl, hb.2⟩) (h3 i cs x e1 e2)⟩
theorem Elt.Own.shape {E : Elt α} {p : Nat → Prop} {B : Nat} {w : World} {o : Value} {xs : List α} (h : E.Own p B w o xs) : ∃ ao c, o = .slice ao xs.length c ∧ xs.length ≤ c := by
  obtain ⟨css, hcl, ho, hk⟩ := h
  rcases ho.2 with ⟨rfl, hn⟩ | ⟨g, cap, cur, rfl, _, _, hnc, _⟩
  · exact ⟨none, 0, by rw [hn], by omega⟩
  · exact ⟨_, cap, rfl, hnc⟩
theorem Elt.Own.rowB {E : Elt α} {p : Nat → Prop} {B : Nat} {w : World} {o : Value} {xs : List α} (h : E.Own p B w o xs) : ∃ ao sp, o = .slice ao xs.length (xs.length + sp) ∧ E.Row (fun b => o.ownBlock = some b ∨ p b) w ao xs ∧ xs.length ≤ maxLen := by
  obtain ⟨css, hcl, ho, hk⟩ := h
  obtain ⟨_, h2⟩ := ho
  rcases h2 with ⟨rfl, hn⟩ | ⟨g, cap, cur, rfl, hB, hh, hnc, hm, hsz, htk⟩
  · have : xs = [] := List.eq_nil_of_length_eq_zero hn
    subst this
    exact ⟨none, 0, rfl, Elt.Row.nil, by simp⟩
  · refine ⟨some ⟨g, 0, none⟩, cap - xs.length, by congr 1; omega, fun i x hx => ?_, by omega⟩
    have hi := (List.getElem?_eq_some_iff.1 hx).1
    have hcs : css[i]? = some css[i] := List.getElem?_eq_getElem (by omega)
    have hel := hk i _ _ hcs hx
    refine ⟨g, 0, css[i], rfl, .inl rfl, fun j u hu => ?_, E.keep (fun b h _ => ⟨rfl, .inr h.1⟩) hel⟩
    have h3 := flat_at (Elt.lens hcl hk) hcs hu
    have hj := (List.getElem?_eq_some_iff.1 hu).1
    have hjl := E.len hel
    rw [← htk, List.getElem?_take, if_pos (by
      have h4 : (i + 1) * E.n ≤ xs.length * E.n := Nat.mul_le_mul_right _ (by omega)
      rw [Nat.succ_mul] at h4; omega)] at h3
    simp only [World.cell?, hh, Nat.zero_add, Option.isSome_none]
    rw [← Array.getElem?_toList, h3]; simp
theorem run_append_none {P : Program} (w : World) (t ty e : TypeId) (i : TypeInfo) (ht : P.underlying t = some (.slice e)) (hi : P.info? e = some i) (base yo : Option Addr) (n cap c : Nat) (hle : n ≤ cap) :
    (Builtin.append_ #[t, t] ty #[.slice base n cap, .slice yo 0 c]).run P w = .ok (.slice base n cap) w := by
  cases yo with
  | none => exact run_append_nothing w t t ty e i ht hi base n cap hle _ (Src.ofNil w ht c)
  | some ad => exact run_append_nothing w t t ty e i ht hi base n cap hle _ (Src.ofSlice w ht ad 0 c [] (by simp) (fun j u h => by simp at h) (fun u h => by simp at h))
/-- 'append(o, ys...)' as one operation, whatever the length of ys -/
theorem wp_appRow {P : Program} {w0 w : World} {l : List Fct} {ope : Oper} {a : Act} {K : Act → World → Prop} {Q : Exit → Act → World → Prop} {B : Nat} {p p' q : Nat → Prop} {o : Value} {xs ys : List α}
    (s y : Operand) (t : TypeId) (hop : ope.op = Op.call { callee := Callee.builtin Builtin.append, args := #[s, y], argTypes := #[t, t] }) (E : Elt α) (S : St w0 w l) (i : Nat)
    (hi : Fct.at l i = Fct.owns E B p o xs) {yo : Option Addr} {c : Nat} (hr : E.Row q w yo ys) {inf : TypeInfo} {z : Value} {size bytes : Nat} (hu : P.underlying t = some (.slice E.ty)) (h1 : P.info? E.ty = some inf) (h2 : inf.zero = some z) (h3 : inf.size = size) (h4 : inf.bytes = bytes) (h5 : z.cells.size = size) (h6 : size = E.n)
    (hv : a.eval s = o) (hy : a.eval y = .slice yo ys.length c) (hlen : xs.length + ys.length ≤ maxLen) (hby : (xs.length + ys.length) * bytes ≤ 140737488355328) (hB0 : B ≤ w.heap.size) (hB : w0.heap.size ≤ B)
    (hoff : ∀ b, o.ownBlock = some b → B ≤ b → b < w.heap.size → offs b i l) (hq : ∀ b, q b → o.ownBlock ≠ some b) (hpq : ∀ b, p b ∨ q b → p' b)
    (h : ∀ (ao : Option Addr) cap w3, St w0 w3 (fset l i (.owns E B p' (.slice ao (xs.length + ys.length) cap) (xs ++ ys))) → w.heap.size ≤ w3.heap.size → (∀ b, (Value.slice ao (xs.length + ys.length) cap).ownBlock = some b → o.ownBlock = some b ∨ b = w.heap.size) → w.grownBy w3 o.ownBlock → (ys = [] → Value.slice ao (xs.length + ys.length) cap = o) → K (a.put ope.dst (.slice ao (xs.length + ys.length) cap)) w3) :
    Oper.wp P ope a w K Q := by
  rcases Nat.eq_zero_or_pos ys.length with h0 | hm
  · obtain rfl : ys = [] := List.eq_nil_of_length_eq_zero h0
    have hO := S.owns E i hi
    obtain ⟨ao, cap, rfl, hle⟩ := hO.shape
    have hr := fun ty => run_append_none (P := P) w t ty E.ty inf hu h1 ao yo xs.length cap c hle
    unfold Oper.wp execOp
    simp only [hop, resolve, invoke, builtin, Sem.run_bind, Sem.run_pure, Result.andThen_ok, List.map_toArray, List.map_cons, List.map_nil, hv, hy, hr, List.length_nil]
    refine h ao cap w ?_ (Nat.le_refl _) (fun b hb => .inl hb) (World.grownBy.refl _ _) (fun _ => rfl)
    refine ⟨S.bel, fun j => ?_⟩
    by_cases hj : j = i
    · subst hj
      rcases at_fset_same (.owns E B p' (.slice ao (xs.length + ([] : List α).length) cap) (xs ++ [])) l j with h | h
      · rw [h, List.append_nil]
        exact hO.weak (fun b hb => hpq b (.inl hb))
      · rw [h]; trivial
    · rw [at_fset_other _ _ _ _ hj]
      exact S.2 j
  · obtain ⟨css, hcl, ho, hk⟩ := S.owns E i hi
    have hlt := S.ownlt E i hi
    obtain ⟨b0, off0, cs0, rfl, _⟩ := hr 0 _ (List.getElem?_eq_getElem hm)
    obtain ⟨yss, hyl, hyf, hye, hyc, hy1⟩ := hr.cells
    refine wp_append_lies w s y t hop B E.ty inf z size bytes hu h1 h2 h3 h4 h5 (by rw [h6]; exact E.pos) o xs.length css.flatten hv (by rw [h6]; exact ho) _ ys.length c yss.flatten hy (by rw [hyf, h6]) (hyc _ rfl) hy1 hm hlen hby hB0 w.heap.size rfl ?_
    intro gg cap w3 hown3 hgrow3 hat3 hlt3
    exact h _ cap w3 (S.appRow E i hi hyl hye hcl hk (by rw [h6] at hown3; exact hown3) hgrow3 hat3 hB (fun b hb => hoff b hb (hlt b hb).1 (hlt b hb).2) hq hpq) hgrow3.size (fun b hb => by
      have e : gg = b := by simpa [Value.ownBlock] using hb
      subst e; exact hat3) hgrow3 (fun e => by rw [e] at hm; simp at hm)
theorem wpList_appRow' {P : Program} {w0 w : World} {l : List Fct} {ops : Array Oper} {rest : List Oper} {ope : Oper} {a : Act} {Q : Exit → Act → World → Prop} {B : Nat} {p p' q : Nat → Prop} {o : Value} {xs ys : List α}
    (hgd : ope.guard = none) (s y : Operand) (t : TypeId) (hop : ope.op = Op.call { callee := Callee.builtin Builtin.append, args := #[s, y], argTypes := #[t, t] }) (E : Elt α) (S : St w0 w l) (i : Nat)
    (hi : Fct.at l i = Fct.owns E B p o xs) {yo : Option Addr} {c : Nat} (hr : E.Row q w yo ys) {inf : TypeInfo} {z : Value} {size bytes : Nat} (hu : P.underlying t = some (.slice E.ty)) (h1 : P.info? E.ty = some inf) (h2 : inf.zero = some z) (h3 : inf.size = size) (h4 : inf.bytes = bytes) (h5 : z.cells.size = size) (h6 : size = E.n)
    (hv : a.eval s = o) (hy : a.eval y = .slice yo ys.length c) (hlen : xs.length + ys.length ≤ maxLen) (hby : (xs.length + ys.length) * bytes ≤ 140737488355328) (hB0 : B ≤ w.heap.size) (hB : w0.heap.size ≤ B)
    (hoff : ∀ b, o.ownBlock = some b → B ≤ b → b < w.heap.size → offs b i l) (hq : ∀ b, q b → o.ownBlock ≠ some b) (hpq : ∀ b, p b ∨ q b → p' b)
    (h : ∀ (ao : Option Addr) cap w3, St w0 w3 (fset l i (.owns E B p' (.slice ao (xs.length + ys.length) cap) (xs ++ ys))) → w.heap.size ≤ w3.heap.size → (∀ b, (Value.slice ao (xs.length + ys.length) cap).ownBlock = some b → o.ownBlock = some b ∨ b = w.heap.size) → (ys = [] → Value.slice ao (xs.length + ys.length) cap = o) → wpList P ops Q rest (a.put ope.dst (.slice ao (xs.length + ys.length) cap)) w3) :
    wpList P ops Q (ope :: rest) a w :=
  wpList_plain hgd fun _ hK => wp_appRow s y t hop E S i hi hr hu h1 h2 h3 h4 h5 h6 hv hy hlen hby hB0 hB hoff hq hpq fun ao cap w3 e1 e2 e3 _ e4 => hK _ _ (h ao cap w3 e1 e2 e3 e4)
/-- the same as one step of a drawn region -/
theorem step_appRow {P : Program} {w0 w : World} {l : List Fct} {ops : Array Oper} {ope : Oper} {a : Act} {K : Act → World → Prop} {Q : Exit → Act → World → Prop} {E0 : Prop} {B : Nat} {p p' q : Nat → Prop} {o : Value} {xs ys : List α}
    (hgd : ope.guard = none) (s y : Operand) (t : TypeId) (hop : ope.op = Op.call { callee := Callee.builtin Builtin.append, args := #[s, y], argTypes := #[t, t] }) (E : Elt α) (S : St w0 w l) (i : Nat)
    (hi : Fct.at l i = Fct.owns E B p o xs) {yo : Option Addr} {c : Nat} (hr : E.Row q w yo ys) {inf : TypeInfo} {z : Value} {size bytes : Nat} (hu : P.underlying t = some (.slice E.ty)) (h1 : P.info? E.ty = some inf) (h2 : inf.zero = some z) (h3 : inf.size = size) (h4 : inf.bytes = bytes) (h5 : z.cells.size = size) (h6 : size = E.n)
    (hv : a.eval s = o) (hy : a.eval y = .slice yo ys.length c) (hlen : xs.length + ys.length ≤ maxLen) (hby : (xs.length + ys.length) * bytes ≤ 140737488355328) (hB0 : B ≤ w.heap.size) (hB : w0.heap.size ≤ B)
    (hoff : ∀ b, o.ownBlock = some b → B ≤ b → b < w.heap.size → offs b i l) (hq : ∀ b, q b → o.ownBlock ≠ some b) (hpq : ∀ b, p b ∨ q b → p' b)
    (h : ∀ (ao : Option Addr) cap w3, St w0 w3 (fset l i (.owns E B p' (.slice ao (xs.length + ys.length) cap) (xs ++ ys))) → w.heap.size ≤ w3.heap.size → (∀ b, (Value.slice ao (xs.length + ys.length) cap).ownBlock = some b → o.ownBlock = some b ∨ b = w.heap.size) → (ys = [] → Value.slice ao (xs.length + ys.length) cap = o) → K (a.put ope.dst (.slice ao (xs.length + ys.length) cap)) w3) :
    if Region.wanted ope (yielded ops a.tmps) = true then Oper.wp P ope a w K Q else E0 := by
  have hw : Region.wanted ope (yielded ops a.tmps) = true := by unfold Region.wanted; rw [hgd]
  rw [if_pos hw]
  exact wp_appRow s y t hop E S i hi hr hu h1 h2 h3 h4 h5 h6 hv hy hlen hby hB0 hB hoff hq hpq fun ao cap w3 e1 e2 e3 _ e4 => h ao cap w3 e1 e2 e3 e4
end
/-- a code that ends normally alone may forget what stands behind its panics -/
theorem wp_calm {P : Program} {c : Code} {Q : Exit → Act → World → Prop} {a : Act} {w : World} (h : c.wp P (Exit.then (fun a' w' => Q .normal a' w') (fun _ _ _ => False)) a w) : c.wp P Q a w :=
  wp_mono h (by rintro e a w h; cases e <;> first | exact h | exact h.elim)
/-- a fact takes the place of another -/
theorem St.repl {w0 w : World} {l : List Fct} (S : St w0 w l) (i : Nat) (f : Fct) (hf : f.holds w) : St w0 w (fset l i f) := ⟨S.1, fun j => by
  by_cases hj : j = i
  · subst hj
    rcases at_fset_same f l j with h | h
    · rw [h]; exact hf
    · rw [h]; trivial
  · rw [at_fset_other _ _ _ _ hj]; exact S.2 j⟩
end Go.Proofs.Ytlpoedjipncbhaa
