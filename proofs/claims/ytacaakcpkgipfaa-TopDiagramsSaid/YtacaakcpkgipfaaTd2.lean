/-
  Plain: the diagram of a table stands in the order of a traversal; tables of functions; negation and conjunction of tables.
-/
import Derived.Test.YtacaakcpkgipfaaTd1
namespace Go.Proofs.Ytacaakcpkgipfaa
set_option linter.unusedVariables false
set_option maxHeartbeats 400000

/-- a traversal: the next number behind node i, or none where one stands out of order -/
def visF (cs : List Ch) : Nat → Nat → Nat → Option Nat
  | 0, i, nx => if i < nx then some nx else none
  | f + 1, i, nx => if i < nx then some nx else
    match cs[i - 2]? with
    | none => none
    | some c => match visF cs f c.2.1 nx with
      | none => none
      | some n1 => match visF cs f c.2.2 n1 with
        | none => none
        | some n2 => if i = n2 then some (n2 + 1) else none
theorem visF_done {cs : List Ch} {f i nx : Nat} (h : i < nx) : visF cs f i nx = some nx := by
  cases f with
  | zero => rw [visF, if_pos h]
  | succ f => rw [visF, if_pos h]
theorem nodeB_vis (n : Nat) : ∀ (h : Nat) (t : List Nat) (v : Nat) (s : Bs), SInv n s → t.length = 2 ^ h → (∀ x ∈ t, x < 2) → 1 ≤ v → v + h = n + 1 →
    ∀ cs f, (nodeB h t v s).2.cs <+: cs → (nodeB h t v s).1 ≤ f → visF cs f (nodeB h t v s).1 (s.cs.length + 2) = some ((nodeB h t v s).2.cs.length + 2) := by
  intro h
  induction h with
  | zero =>
    intro t v s hs ht h01 hv0 hv cs f hp hf
    have hx : gV t 0 < 2 := by
      cases t with
      | nil => simp at ht
      | cons x r => exact h01 x (by simp)
    exact visF_done (by show gV t 0 < _; omega)
  | succ h ih =>
    intro t v s hs ht h01 hv0 hv cs f hp hf
    have hpw : 2 ^ (h + 1) = 2 ^ h + 2 ^ h := by rw [Nat.pow_succ]; omega
    cases hl : s.seen.lookup t with
    | some i =>
      obtain ⟨h', e1, _, _, e4, e5, e6⟩ := hs.seen t i hl
      have hr : nodeB (h + 1) t v s = (i, s) := by rw [nodeB, hl]
      rw [hr]
      exact visF_done e4
    | none =>
      have a1 : (t.take (2 ^ h)).length = 2 ^ h := by rw [List.length_take, ht, hpw]; omega
      have a2 : (t.drop (2 ^ h)).length = 2 ^ h := by rw [List.length_drop, ht, hpw]; omega
      have k1 := nodeB_ok n h (t.take (2 ^ h)) (v + 1) s hs a1 (fun x hx => h01 x (List.mem_of_mem_take hx)) (by omega) (by omega)
      have v1 := ih (t.take (2 ^ h)) (v + 1) s hs a1 (fun x hx => h01 x (List.mem_of_mem_take hx)) (by omega) (by omega)
      obtain ⟨r1, hr1⟩ : ∃ r, r = nodeB h (t.take (2 ^ h)) (v + 1) s := ⟨_, rfl⟩
      rw [← hr1] at k1 v1
      have k2 := nodeB_ok n h (t.drop (2 ^ h)) (v + 1) r1.2 k1.inv a2 (fun x hx => h01 x (List.mem_of_mem_drop hx)) (by omega) (by omega)
      have v2 := ih (t.drop (2 ^ h)) (v + 1) r1.2 k1.inv a2 (fun x hx => h01 x (List.mem_of_mem_drop hx)) (by omega) (by omega)
      obtain ⟨r2, hr2⟩ : ∃ r, r = nodeB h (t.drop (2 ^ h)) (v + 1) r1.2 := ⟨_, rfl⟩
      rw [← hr2] at k2 v2
      have l1 := k1.pre.length_le
      have l2 := k2.pre.length_le
      by_cases heq : r1.1 = r2.1
      · have hr : nodeB (h + 1) t v s = (r1.1, ⟨r2.2.cs, (t, r1.1) :: r2.2.seen⟩) := by
          rw [nodeB, hl]
          simp only [← hr1, ← hr2, if_pos heq]
        rw [hr] at hp hf ⊢
        dsimp only at hp hf ⊢
        rw [v1 cs f (k2.pre.trans hp) hf]
        have h2 := v2 cs f hp (by rw [← heq]; exact hf)
        rw [← heq, visF_done k1.lt] at h2
        exact h2
      · cases hx : r2.2.cs.idxOf? (v, r1.1, r2.1) with
        | some j =>
          have hr : nodeB (h + 1) t v s = (j + 2, ⟨r2.2.cs, (t, j + 2) :: r2.2.seen⟩) := by
            rw [nodeB, hl]
            simp only [← hr1, ← hr2, if_neg heq, hx]
          rw [hr] at hp hf ⊢
          dsimp only at hp hf ⊢
          have hcj : r2.2.cs[j]? = some (v, r1.1, r2.1) := idxOf_get hx
          obtain ⟨g1, g2, _⟩ := k2.inv.good.ok j _ hcj
          dsimp only at g1 g2
          by_cases hj : j < s.cs.length
          · have e1 := v1 cs r1.1 (k2.pre.trans hp) (Nat.le_refl _)
            rw [visF_done (by omega)] at e1
            have e1' : s.cs.length = r1.2.cs.length := by have := Option.some.inj e1; omega
            have e2 := v2 cs r2.1 hp (Nat.le_refl _)
            rw [visF_done (by omega)] at e2
            have e2' : r1.2.cs.length = r2.2.cs.length := by have := Option.some.inj e2; omega
            rw [visF_done (by omega), e1', e2']
          · exfalso
            by_cases hj2 : j < r1.2.cs.length
            · obtain ⟨m, e⟩ := k2.pre
              rw [← e, List.getElem?_append_left hj2] at hcj
              have := k1.new j _ (by omega) hcj
              dsimp only at this; omega
            · have := k2.new j _ (by omega) hcj
              dsimp only at this; omega
        | none =>
          have hr : nodeB (h + 1) t v s = (r2.2.cs.length + 2, ⟨r2.2.cs ++ [(v, r1.1, r2.1)], (t, r2.2.cs.length + 2) :: r2.2.seen⟩) := by
            rw [nodeB, hl]
            simp only [← hr1, ← hr2, if_neg heq, hx]
          rw [hr] at hp hf ⊢
          dsimp only at hp hf ⊢
          have hp2 : r2.2.cs <+: cs := (List.prefix_append _ _).trans hp
          have hcl : cs[r2.2.cs.length + 2 - 2]? = some (v, r1.1, r2.1) := by
            obtain ⟨m, e⟩ := hp
            rw [← e, show r2.2.cs.length + 2 - 2 = r2.2.cs.length by omega, List.getElem?_append_left (by simp)]
            simp
          obtain ⟨g, rfl⟩ : ∃ g, f = g + 1 := ⟨f - 1, by omega⟩
          have q1 := k1.lt; have q2 := k2.lt
          rw [visF, if_neg (by omega), hcl]
          dsimp only
          rw [v1 cs g (k2.pre.trans hp2) (by omega)]
          dsimp only
          rw [v2 cs g hp2 (by omega)]
          dsimp only
          rw [if_pos rfl]
          simp
/-- the diagram of a table -/
def builtD (n : Nat) (t : List Nat) : List Ch × Nat := ((nodeB n t 1 ⟨[], []⟩).2.cs, (nodeB n t 1 ⟨[], []⟩).1)
structure DiaOk (n : Nat) (t : List Nat) (d : List Ch × Nat) : Prop where
  good : Good n d.1
  root : d.2 < d.1.length + 2
  vis : visF d.1 d.2 d.2 2 = some (d.1.length + 2)
  reads : Reads n d.1 d.2 n t
  len : d.1.length + 1 ≤ 2 ^ n
theorem builtD_ok (n : Nat) (t : List Nat) (ht : t.length = 2 ^ n) (h01 : ∀ x ∈ t, x < 2) : DiaOk n t (builtD n t) := by
  have hs : SInv n ⟨[], []⟩ := ⟨⟨fun j c h => by simp at h, List.nodup_nil⟩, fun t i h => by simp at h⟩
  have k := nodeB_ok n n t 1 ⟨[], []⟩ hs ht h01 (Nat.le_refl _) (by omega)
  refine ⟨k.inv.good, k.lt, ?_, k.reads, by have := k.len; simpa [builtD] using this⟩
  have := nodeB_vis n n t 1 ⟨[], []⟩ hs ht h01 (Nat.le_refl _) (by omega) _ _ List.prefix_rfl (Nat.le_refl _)
  simpa [builtD] using this
/-- assignment number k of n variables -/
def asg (n k : Nat) (i : Nat) : Bool := k.testBit (n - 1 - i)
theorem idxA_asg {n k : Nat} (hk : k < 2 ^ n) : idxA n (asg n k) n = k := by
  have key : ∀ h, h ≤ n → idxA n (asg n k) h = k % 2 ^ h := by
    intro h
    induction h with
    | zero => intro _; simp [idxA, Nat.mod_one]
    | succ h ih =>
      intro hh
      rw [idxA, ih (by omega), Nat.mod_pow_succ]
      unfold asg
      rw [show n - 1 - (n - h - 1) = h by omega, Nat.testBit_eq_decide_div_mod_eq]
      rcases (by omega : k / 2 ^ h % 2 = 0 ∨ k / 2 ^ h % 2 = 1) with e | e <;> rw [e] <;> simp <;> omega
  rw [key n (Nat.le_refl _), Nat.mod_eq_of_lt hk]
def bitN (b : Bool) : Nat := if b then 1 else 0
/-- the table of a function -/
def tabF (n : Nat) (f : (Nat → Bool) → Bool) : List Nat := (List.range (2 ^ n)).map fun k => bitN (f (asg n k))
theorem tabF_length (n : Nat) (f : (Nat → Bool) → Bool) : (tabF n f).length = 2 ^ n := by simp [tabF]
theorem tabF_bits (n : Nat) (f : (Nat → Bool) → Bool) : ∀ x ∈ tabF n f, x < 2 := fun x hx => by
  obtain ⟨k, _, rfl⟩ := List.mem_map.1 hx
  unfold bitN; split <;> omega
theorem tab_of_reads {n : Nat} {t : List Nat} {cs : List Ch} {r : Nat} (ht : t.length = 2 ^ n) (h01 : ∀ x ∈ t, x < 2) (h : Reads n cs r n t) : tabF n (fun a => valN a cs r == 1) = t := by
  refine List.ext_getElem (by rw [tabF_length, ht]) fun k h1 h2 => ?_
  have hk : k < 2 ^ n := by rw [← ht]; exact h2
  have e := h (asg n k)
  rw [idxA_asg hk] at e
  have hg : gV t k = t[k] := by simp [gV, List.getD_eq_getElem?_getD, h2]
  have hx := h01 _ (List.getElem_mem h2)
  simp only [tabF, List.getElem_map, List.getElem_range, e, hg]
  unfold bitN
  rcases (by omega : t[k] = 0 ∨ t[k] = 1) with e | e <;> rw [e] <;> rfl
def notT (t : List Nat) : List Nat := t.map (1 - ·)
def andT (s t : List Nat) : List Nat := List.zipWith (fun x y => if x = 1 ∧ y = 1 then 1 else 0) s t
theorem notT_notT {t : List Nat} (h : ∀ x ∈ t, x < 2) : notT (notT t) = t := by
  unfold notT
  rw [List.map_map]
  conv => rhs; rw [← List.map_id t]
  refine List.map_congr_left fun x hx => ?_
  have := h x hx
  simp; omega
theorem notT_bits {t : List Nat} (h : ∀ x ∈ t, x < 2) : ∀ x ∈ notT t, x < 2 := fun x hx => by
  obtain ⟨y, _, rfl⟩ := List.mem_map.1 hx
  omega
theorem andT_tab (n : Nat) (f g : (Nat → Bool) → Bool) : andT (tabF n f) (tabF n g) = tabF n (fun a => f a && g a) := by
  unfold andT tabF
  rw [List.zipWith_map, List.zipWith_self]
  refine List.map_congr_left fun k _ => ?_
  unfold bitN
  cases hf : f (asg n k) <;> cases hg : g (asg n k) <;> simp [hf, hg]
/-- a literal, a clause, all clauses under an assignment -/
def litT (a : Nat → Bool) (l : Int) : Bool := a (l.natAbs - 1) == decide (0 < l)
def satT (a : Nat → Bool) (c : List Int) : Bool := c.any (litT a)
def allT (a : Nat → Bool) (cs : List (List Int)) : Bool := cs.all (satT a)
theorem allT_append (a : Nat → Bool) (x y : List (List Int)) : allT a (x ++ y) = (allT a x && allT a y) := by simp [allT]
theorem both_tab (n : Nat) (x y : List (List Int)) : andT (tabF n (fun a => allT a x)) (tabF n (fun a => allT a y)) = tabF n (fun a => allT a (x ++ y)) := by
  rw [andT_tab]
  congr 1
  funext a
  rw [allT_append]
theorem one_len : (builtD 6 (tabF 6 (fun a => allT a [[1]]))).1.length = 1 := by decide +kernel
end Go.Proofs.Ytacaakcpkgipfaa
