/-
  A row of trees copied by append, and written at a place.
-/
import Derived.Test.YtlhnfdjidjgfgaaSt3
import Derived.Test.YtlhnfdjidjgfgaaXb
namespace Go.Proofs.Ytlhnfdjidjgfgaa
open Go.RowKit Go.Shelf
set_option linter.unusedVariables false

/-- the cells of a row of trees -/
theorem RowP.cells {p : Nat → Prop} {w : World} {ao : Option Addr} {ks : List T} (h : RowP p w ao ks) :
    ∃ cs : List Value, cs.length = ks.length * 2 ∧ (∀ i, i < ks.length → ∃ k sp, cs[i * 2]? = some (.int .i64 (gK ks i).head) ∧ cs[i * 2 + 1]? = some (.slice k (gK ks i).kids.length ((gK ks i).kids.length + sp)) ∧
        TreeP p w (.agg #[.int .i64 (gK ks i).head, .slice k (gK ks i).kids.length ((gK ks i).kids.length + sp)]) (gK ks i)) ∧
      (∀ ad, ao = some ad → ∀ j u, cs[j]? = some u → w.cell? (ad.add j) = some u) ∧ ∀ u ∈ cs, u.oneCell' = true := by
  have hc : ∀ i, ∃ k : Option Addr, ∃ sp : Nat, i < ks.length → (∃ b off, ao = some ⟨b, off, none⟩ ∧ w.cell? ⟨b, off + i * 2, none⟩ = some (.int .i64 (gK ks i).head) ∧ w.cell? ⟨b, off + i * 2 + 1, none⟩ = some (.slice k (gK ks i).kids.length ((gK ks i).kids.length + sp))) ∧
      TreeP p w (.agg #[.int .i64 (gK ks i).head, .slice k (gK ks i).kids.length ((gK ks i).kids.length + sp)]) (gK ks i) := fun i => by
    by_cases hi : i < ks.length
    · obtain ⟨b, off, k, sp, e, hp, h1, h2, h3⟩ := h i hi
      exact ⟨k, sp, fun _ => ⟨⟨b, off, e, h1, h2⟩, h3⟩⟩
    · exact ⟨none, 0, fun h => absurd h hi⟩
  obtain ⟨K, hK⟩ := Classical.axiomOfChoice hc
  obtain ⟨SP, hSP⟩ := Classical.axiomOfChoice hK
  let c : Nat → Value := fun j => if j % 2 = 0 then .int .i64 (gK ks (j / 2)).head else .slice (K (j / 2)) (gK ks (j / 2)).kids.length ((gK ks (j / 2)).kids.length + SP (j / 2))
  refine ⟨(List.range (ks.length * 2)).map c, by simp, fun i hi => ⟨K i, SP i, ?_, ?_, (hSP i hi).2⟩, fun ad he j u hu => ?_, fun u hu => ?_⟩
  · have e1 : i * 2 % 2 = 0 := by omega
    have e2 : i * 2 / 2 = i := by omega
    rw [List.getElem?_map, List.getElem?_range (by omega)]
    simp only [Option.map_some, c, e1, if_pos, e2]
  · have e1 : ¬ (i * 2 + 1) % 2 = 0 := by omega
    have e2 : (i * 2 + 1) / 2 = i := by omega
    rw [List.getElem?_map, List.getElem?_range (by omega)]
    simp only [Option.map_some, c, if_neg e1, e2]
  · have hj : j < ks.length * 2 := by have := (List.getElem?_eq_some_iff.1 hu).1; simpa using this
    rw [List.getElem?_map, List.getElem?_range hj] at hu
    simp only [Option.map_some, Option.some.injEq] at hu
    obtain ⟨⟨b, off, e, h1, h2⟩, _⟩ := hSP (j / 2) (by omega)
    rw [he] at e
    obtain rfl := Option.some.inj e
    rw [Addr.add_lit, ← hu]
    by_cases hj2 : j % 2 = 0
    · simp only [c, if_pos hj2]
      rw [← h1]; congr 2; omega
    · simp only [c, if_neg hj2]
      rw [← h2]; congr 2; omega
  · simp only [List.mem_map] at hu
    obtain ⟨j, _, rfl⟩ := hu
    simp only [c]
    split <;> rfl
theorem gK_set_same {ks : List T} {j : Nat} {t : T} (hj : j < ks.length) : gK (ks.set j t) j = t := by simp [gK, hj]
theorem gK_set_other {ks : List T} {i j : Nat} {t : T} (h : i ≠ j) : gK (ks.set j t) i = gK ks i := by simp [gK, List.getElem?_set_ne (fun e => h e.symm)]
/-- a place of an own row is written -/
theorem RowOwn.set {p : Nat → Prop} {B : Nat} {w : World} {g cap : Nat} {ks : List T} (h : RowOwn p B w (.slice (some ⟨g, 0, none⟩) ks.length cap) ks) {j : Nat} (hj : j < ks.length) {t : T} {k : Option Addr} {sp : Nat}
    (ht : TreeP (fun b => p b ∧ b ≠ g) w (.agg #[.int .i64 t.head, .slice k t.kids.length (t.kids.length + sp)]) t) :
    RowOwn p B ((w.setCell ⟨g, j * 2, none⟩ (.int .i64 t.head)).setCell ⟨g, j * 2 + 1, none⟩ (.slice k t.kids.length (t.kids.length + sp))) (.slice (some ⟨g, 0, none⟩) ks.length cap) (ks.set j t) := by
  obtain ⟨cs, h1, h2⟩ := h
  have hcl : cs.length = ks.length * 2 := h1.1
  have h3 := ((h1.stored (j * 2) (.int .i64 t.head)).1.stored (j * 2 + 1) (.slice k t.kids.length (t.kids.length + sp))).1
  refine ⟨_, by rw [List.length_set]; exact h3, fun i hi => ?_⟩
  rw [List.length_set] at hi
  have hne : ∀ b, b ≠ g ↔ (Value.slice (some ⟨g, 0, none⟩) ks.length cap).ownBlock ≠ some b := fun b => by simp [Value.ownBlock, eq_comm]
  by_cases e : i = j
  · subst e
    rw [gK_set_same hi]
    refine ⟨k, sp, ?_, ?_, ?_⟩
    · rw [List.getElem?_set_ne (by omega), List.getElem?_set_self (by omega)]
    · rw [List.getElem?_set_self (by simp; omega)]
    · exact ((ht.setCell (a := ⟨g, i * 2, none⟩) (fun h => h.2 rfl) _).setCell (a := ⟨g, i * 2 + 1, none⟩) (fun h => h.2 rfl) _).mono (fun b h _ => ⟨h.1, (hne b).1 h.2⟩)
  · obtain ⟨k', sp', e1, e2, e3⟩ := h2 i hi
    rw [gK_set_other e]
    have e4 := e3.mono (q := fun b => p b ∧ b ≠ g) (fun b h _ => ⟨h.1, (hne b).2 h.2⟩)
    refine ⟨k', sp', ?_, ?_, ((e4.setCell (a := ⟨g, j * 2, none⟩) (fun h => h.2 rfl) _).setCell (a := ⟨g, j * 2 + 1, none⟩) (fun h => h.2 rfl) _).mono (fun b h _ => ⟨h.1, (hne b).1 h.2⟩)⟩
    · rw [List.getElem?_set_ne (by omega), List.getElem?_set_ne (by omega)]; exact e1
    · rw [List.getElem?_set_ne (by omega), List.getElem?_set_ne (by omega)]; exact e2
end Go.Proofs.Ytlhnfdjidjgfgaa
