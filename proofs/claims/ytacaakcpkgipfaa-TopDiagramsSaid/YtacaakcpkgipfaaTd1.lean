/-
  Plain: decision diagrams: what a node means, how a table is made into a diagram, that it reads as the table and stands in the order of a traversal.
-/
import Derived.Test.YtacaakcpkgipfaaProg
namespace Go.Proofs.Ytacaakcpkgipfaa
set_option linter.unusedVariables false
set_option maxHeartbeats 400000

/-- a choice: variable, low, high -/
abbrev Ch := Nat × Nat × Nat
def gV (l : List Nat) (i : Nat) : Nat := l.getD i 0
theorem gV_append_left {l m : List Nat} {i : Nat} (h : i < l.length) : gV (l ++ m) i = gV l i := by simp [gV, List.getD_eq_getElem?_getD, List.getElem?_append_left h]
theorem gV_append_at {l : List Nat} {x : Nat} : gV (l ++ [x]) l.length = x := by simp [gV, List.getD_eq_getElem?_getD]
/-- the values of all nodes under an assignment (variables from 1) -/
def vals (a : Nat → Bool) (cs : List Ch) : List Nat := cs.foldl (fun l c => l ++ [gV l (if a (c.1 - 1) then c.2.2 else c.2.1)]) [0, 1]
theorem vals_snoc (a : Nat → Bool) (cs : List Ch) (c : Ch) : vals a (cs ++ [c]) = vals a cs ++ [gV (vals a cs) (if a (c.1 - 1) then c.2.2 else c.2.1)] := by
  unfold vals
  rw [List.foldl_append]
  rfl
theorem snocInd {α : Type} {P : List α → Prop} (h0 : P []) (h1 : ∀ l x, P l → P (l ++ [x])) (l : List α) : P l := by
  have key : ∀ (n : Nat) (l : List α), l.length = n → P l := by
    intro n
    induction n with
    | zero => intro l h; rw [List.eq_nil_of_length_eq_zero h]; exact h0
    | succ n ih =>
      intro l h
      rcases List.eq_nil_or_concat l with e | ⟨m, x, e⟩
      · subst e; cases h
      · rw [e, List.concat_eq_append]
        rw [e, List.concat_eq_append, List.length_append] at h
        exact h1 m x (ih m (by simpa using h))
  exact key l.length l rfl
theorem vals_length (a : Nat → Bool) (cs : List Ch) : (vals a cs).length = cs.length + 2 := by
  induction cs using snocInd with
  | h0 => rfl
  | h1 l x ih => rw [vals_snoc]; simp [ih]
theorem vals_prefix (a : Nat → Bool) (cs l : List Ch) : vals a cs <+: vals a (cs ++ l) := by
  induction l using snocInd with
  | h0 => rw [List.append_nil]; exact List.prefix_rfl
  | h1 m x ih => rw [← List.append_assoc, vals_snoc]; exact ih.trans (List.prefix_append _ _)
def valN (a : Nat → Bool) (cs : List Ch) (i : Nat) : Nat := gV (vals a cs) i
theorem valN_zero (a : Nat → Bool) (cs : List Ch) : valN a cs 0 = 0 := by
  obtain ⟨m, e⟩ := vals_prefix a [] cs
  rw [List.nil_append] at e
  unfold valN; rw [← e]; rfl
theorem valN_one (a : Nat → Bool) (cs : List Ch) : valN a cs 1 = 1 := by
  obtain ⟨m, e⟩ := vals_prefix a [] cs
  rw [List.nil_append] at e
  unfold valN; rw [← e]; rfl
theorem valN_ext (a : Nat → Bool) {cs cs' : List Ch} (h : cs <+: cs') {i : Nat} (hi : i < cs.length + 2) : valN a cs' i = valN a cs i := by
  obtain ⟨m, rfl⟩ := h
  obtain ⟨k, e⟩ := vals_prefix a cs m
  unfold valN
  rw [← e, gV_append_left (by rw [vals_length]; exact hi)]
/-- one step down from a node -/
theorem valN_step (a : Nat → Bool) {cs : List Ch} {j : Nat} {c : Ch} (hc : cs[j]? = some c) (h1 : c.2.1 < j + 2) (h2 : c.2.2 < j + 2) : valN a cs (j + 2) = valN a cs (if a (c.1 - 1) then c.2.2 else c.2.1) := by
  have hj : j < cs.length := (List.getElem?_eq_some_iff.1 hc).1
  have e : cs.take (j + 1) = cs.take j ++ [c] := by rw [List.take_add_one, hc]; rfl
  have hlj : (cs.take j).length = j := by simp; omega
  have p1 : cs.take (j + 1) <+: cs := List.take_prefix _ _
  have p2 : cs.take j <+: cs := List.take_prefix _ _
  have hk : (if a (c.1 - 1) then c.2.2 else c.2.1) < (cs.take j).length + 2 := by rw [hlj]; split <;> assumption
  rw [valN_ext a p1 (by simp; omega), valN_ext a p2 hk, e]
  unfold valN
  rw [vals_snoc]
  have := gV_append_at (l := vals a (cs.take j)) (x := gV (vals a (cs.take j)) (if a (c.1 - 1) then c.2.2 else c.2.1))
  rw [vals_length, hlj] at this
  exact this
/-- the number of an assignment's last h variables of n -/
def idxA (n : Nat) (a : Nat → Bool) : Nat → Nat
  | 0 => 0
  | h + 1 => (if a (n - h - 1) then 2 ^ h else 0) + idxA n a h
theorem idxA_lt (n : Nat) (a : Nat → Bool) : ∀ h, idxA n a h < 2 ^ h
  | 0 => by simp [idxA]
  | h + 1 => by have := idxA_lt n a h; rw [idxA, Nat.pow_succ]; split <;> omega
/-- the variable of a node; constants come behind all -/
def lev (n : Nat) (cs : List Ch) (i : Nat) : Nat := if i < 2 then n + 1 else match cs[i - 2]? with | some c => c.1 | none => n + 1
theorem lev_ext {n : Nat} {cs cs' : List Ch} (h : cs <+: cs') {i : Nat} (hi : i < cs.length + 2) : lev n cs' i = lev n cs i := by
  obtain ⟨m, rfl⟩ := h
  unfold lev
  by_cases h2 : i < 2
  · rw [if_pos h2, if_pos h2]
  · rw [if_neg h2, if_neg h2, List.getElem?_append_left (by omega)]
structure Bs where
  cs : List Ch
  seen : List (List Nat × Nat)
/-- the node of a part of a table of 2^h, whose first variable is v -/
def nodeB : Nat → List Nat → Nat → Bs → Nat × Bs
  | 0, t, _, s => (gV t 0, s)
  | h + 1, t, v, s =>
    match s.seen.lookup t with
    | some i => (i, s)
    | none =>
      let r1 := nodeB h (t.take (2 ^ h)) (v + 1) s
      let r2 := nodeB h (t.drop (2 ^ h)) (v + 1) r1.2
      if r1.1 = r2.1 then (r1.1, ⟨r2.2.cs, (t, r1.1) :: r2.2.seen⟩)
      else match r2.2.cs.idxOf? (v, r1.1, r2.1) with
        | some j => (j + 2, ⟨r2.2.cs, (t, j + 2) :: r2.2.seen⟩)
        | none => (r2.2.cs.length + 2, ⟨r2.2.cs ++ [(v, r1.1, r2.1)], (t, r2.2.cs.length + 2) :: r2.2.seen⟩)
def Reads (n : Nat) (cs : List Ch) (i h : Nat) (t : List Nat) : Prop := ∀ a, valN a cs i = gV t (idxA n a h)
theorem Reads.ext {n : Nat} {cs cs' : List Ch} {i h : Nat} {t : List Nat} (r : Reads n cs i h t) (hp : cs <+: cs') (hi : i < cs.length + 2) : Reads n cs' i h t := fun a => by rw [valN_ext a hp hi]; exact r a
/-- the choices are as Check wants them -/
structure Good (n : Nat) (cs : List Ch) : Prop where
  ok : ∀ j c, cs[j]? = some c → c.2.1 < j + 2 ∧ c.2.2 < j + 2 ∧ c.2.1 ≠ c.2.2 ∧ 1 ≤ c.1 ∧ c.1 ≤ n ∧ c.1 < lev n cs c.2.1 ∧ c.1 < lev n cs c.2.2
  nodup : cs.Nodup
structure SInv (n : Nat) (s : Bs) : Prop where
  good : Good n s.cs
  seen : ∀ t i, s.seen.lookup t = some i → ∃ h, t.length = 2 ^ h ∧ 1 ≤ h ∧ h ≤ n ∧ i < s.cs.length + 2 ∧ n + 1 - h ≤ lev n s.cs i ∧ Reads n s.cs i h t
theorem lookup_cons_some {t u : List Nat} {i k : Nat} {l : List (List Nat × Nat)} (h : ((t, i) :: l).lookup u = some k) : (u = t ∧ k = i) ∨ l.lookup u = some k := by
  rw [List.lookup_cons] at h
  by_cases e : u = t
  · left
    subst e
    simp at h
    exact ⟨rfl, h.symm⟩
  · right
    have e2 : (u == t) = false := by simpa using e
    rw [e2] at h
    exact h
theorem SInv.see {n : Nat} {s : Bs} (h : SInv n s) {t : List Nat} {i hh : Nat} (h1 : t.length = 2 ^ hh) (h2 : 1 ≤ hh) (h3 : hh ≤ n) (h4 : i < s.cs.length + 2) (h5 : n + 1 - hh ≤ lev n s.cs i) (h6 : Reads n s.cs i hh t) : SInv n ⟨s.cs, (t, i) :: s.seen⟩ :=
  ⟨h.good, fun u k hu => by
    rcases lookup_cons_some hu with ⟨rfl, rfl⟩ | hu
    · exact ⟨hh, h1, h2, h3, h4, h5, h6⟩
    · exact h.seen u k hu⟩
theorem pow_inj {a b : Nat} (h : 2 ^ a = 2 ^ b) : a = b := (Nat.pow_right_inj (by omega : 1 < 2)).1 h
theorem gV_take {t : List Nat} {k m : Nat} (h : k < m) : gV (t.take m) k = gV t k := by simp [gV, List.getD_eq_getElem?_getD, h]
theorem gV_drop {t : List Nat} {k m : Nat} : gV (t.drop m) k = gV t (m + k) := by simp [gV, List.getD_eq_getElem?_getD, List.getElem?_drop]
theorem idxOf_get {cs : List Ch} {c : Ch} {j : Nat} (h : cs.idxOf? c = some j) : cs[j]? = some c := by
  unfold List.idxOf? at h
  obtain ⟨hj, h1, _⟩ := List.findIdx?_eq_some_iff_getElem.1 h
  rw [List.getElem?_eq_getElem hj]
  have : cs[j] = c := by simpa using h1
  rw [this]
theorem idxOf_none {cs : List Ch} {c : Ch} (h : cs.idxOf? c = none) (hm : c ∈ cs) : False := by
  unfold List.idxOf? at h
  have := List.findIdx?_eq_none_iff.1 h c hm
  simp at this
structure NodeOk (n h v : Nat) (t : List Nat) (s : Bs) (r : Nat × Bs) : Prop where
  inv : SInv n r.2
  pre : s.cs <+: r.2.cs
  lt : r.1 < r.2.cs.length + 2
  lev : v ≤ lev n r.2.cs r.1
  reads : Reads n r.2.cs r.1 h t
  new : ∀ j c, s.cs.length ≤ j → r.2.cs[j]? = some c → v ≤ c.1
  len : r.2.cs.length + 1 ≤ s.cs.length + 2 ^ h
theorem nodeB_ok (n : Nat) : ∀ (h : Nat) (t : List Nat) (v : Nat) (s : Bs), SInv n s → t.length = 2 ^ h → (∀ x ∈ t, x < 2) → 1 ≤ v → v + h = n + 1 → NodeOk n h v t s (nodeB h t v s) := by
  intro h
  induction h with
  | zero =>
    intro t v s hs ht h01 hv0 hv
    have hx : gV t 0 < 2 := by
      cases t with
      | nil => simp at ht
      | cons x r => exact h01 x (by simp)
    refine ⟨hs, List.prefix_rfl, by show gV t 0 < _; omega, ?_, fun a => ?_, fun j c h1 h2 => ?_, by simp [nodeB]⟩
    · show v ≤ _root_.Go.Proofs.Ytacaakcpkgipfaa.lev n s.cs (gV t 0)
      unfold Ytacaakcpkgipfaa.lev
      rw [if_pos hx]; omega
    · show valN a s.cs (gV t 0) = gV t (idxA n a 0)
      rw [idxA]
      rcases (by omega : gV t 0 = 0 ∨ gV t 0 = 1) with e | e
      · rw [e, valN_zero]
      · rw [e, valN_one]
    · have := (List.getElem?_eq_some_iff.1 (show s.cs[j]? = some c from h2)).1
      omega
  | succ h ih =>
    intro t v s hs ht h01 hv0 hv
    have hpw : 2 ^ (h + 1) = 2 ^ h + 2 ^ h := by rw [Nat.pow_succ]; omega
    have hp1 : 1 ≤ 2 ^ h := Nat.one_le_two_pow
    cases hl : s.seen.lookup t with
    | some i =>
      obtain ⟨h', e1, _, _, e4, e5, e6⟩ := hs.seen t i hl
      have eh : h' = h + 1 := pow_inj (e1.symm.trans ht)
      subst eh
      have hr : nodeB (h + 1) t v s = (i, s) := by rw [nodeB, hl]
      rw [hr]
      exact ⟨hs, List.prefix_rfl, e4, by dsimp only; omega, e6, fun j c h1 h2 => by have := (List.getElem?_eq_some_iff.1 h2).1; dsimp only at this; omega, by dsimp only; omega⟩
    | none =>
      have k1 := ih (t.take (2 ^ h)) (v + 1) s hs (by rw [List.length_take, ht, hpw]; omega) (fun x hx => h01 x (List.mem_of_mem_take hx)) (by omega) (by omega)
      obtain ⟨r1, hr1⟩ : ∃ r, r = nodeB h (t.take (2 ^ h)) (v + 1) s := ⟨_, rfl⟩
      rw [← hr1] at k1
      have k2 := ih (t.drop (2 ^ h)) (v + 1) r1.2 k1.inv (by rw [List.length_drop, ht, hpw]; omega) (fun x hx => h01 x (List.mem_of_mem_drop hx)) (by omega) (by omega)
      obtain ⟨r2, hr2⟩ : ∃ r, r = nodeB h (t.drop (2 ^ h)) (v + 1) r1.2 := ⟨_, rfl⟩
      rw [← hr2] at k2
      have hlo : r1.1 < r2.2.cs.length + 2 := by have := k1.lt; have := k2.pre.length_le; omega
      have hlv : _root_.Go.Proofs.Ytacaakcpkgipfaa.lev n r2.2.cs r1.1 = _root_.Go.Proofs.Ytacaakcpkgipfaa.lev n r1.2.cs r1.1 := lev_ext k2.pre k1.lt
      have rd1 : Reads n r2.2.cs r1.1 h (t.take (2 ^ h)) := k1.reads.ext k2.pre k1.lt
      have rd2 := k2.reads
      have hnew : ∀ j c, s.cs.length ≤ j → r2.2.cs[j]? = some c → v + 1 ≤ c.1 := fun j c h1 h2 => by
        by_cases hj : j < r1.2.cs.length
        · obtain ⟨m, e⟩ := k2.pre
          rw [← e, List.getElem?_append_left hj] at h2
          exact k1.new j c h1 h2
        · exact k2.new j c (by omega) h2
      have hlen : r2.2.cs.length + 2 ≤ s.cs.length + 2 ^ (h + 1) := by have := k1.len; have := k2.len; omega
      -- what a node with these children reads
      have rdC : ∀ (cs : List Ch) (i : Nat), (∀ a, valN a cs i = valN a r2.2.cs (if a (v - 1) then r2.1 else r1.1)) → Reads n cs i (h + 1) t := fun cs i hi a => by
        rw [hi a, idxA, show n - h - 1 = v - 1 by omega]
        have hx := idxA_lt n a h
        by_cases e : a (v - 1) = true
        · rw [if_pos e, if_pos e, rd2 a, gV_drop]
        · rw [if_neg e, if_neg e, rd1 a, gV_take hx, Nat.zero_add]
      by_cases heq : r1.1 = r2.1
      · have hr : nodeB (h + 1) t v s = (r1.1, ⟨r2.2.cs, (t, r1.1) :: r2.2.seen⟩) := by
          rw [nodeB, hl]
          simp only [← hr1, ← hr2, if_pos heq]
        rw [hr]
        have rdT : Reads n r2.2.cs r1.1 (h + 1) t := rdC _ _ fun a => by
          rw [← heq]; split <;> rfl
        have hv1 : v + 1 ≤ _root_.Go.Proofs.Ytacaakcpkgipfaa.lev n r2.2.cs r1.1 := by rw [hlv]; exact k1.lev
        exact ⟨k2.inv.see ht (by omega) (by omega) hlo (by omega) rdT, k1.pre.trans k2.pre, hlo, by dsimp only; omega, rdT, fun j c h1 h2 => by have := hnew j c h1 h2; omega, by dsimp only; omega⟩
      · cases hx : r2.2.cs.idxOf? (v, r1.1, r2.1) with
        | some j =>
          have hr : nodeB (h + 1) t v s = (j + 2, ⟨r2.2.cs, (t, j + 2) :: r2.2.seen⟩) := by
            rw [nodeB, hl]
            simp only [← hr1, ← hr2, if_neg heq, hx]
          rw [hr]
          have hcj : r2.2.cs[j]? = some (v, r1.1, r2.1) := idxOf_get hx
          have hjl : j < r2.2.cs.length := (List.getElem?_eq_some_iff.1 hcj).1
          obtain ⟨g1, g2, _⟩ := k2.inv.good.ok j _ hcj
          have rdT : Reads n r2.2.cs (j + 2) (h + 1) t := rdC _ _ fun a => valN_step a hcj g1 g2
          have hv1 : _root_.Go.Proofs.Ytacaakcpkgipfaa.lev n r2.2.cs (j + 2) = v := by unfold Ytacaakcpkgipfaa.lev; rw [if_neg (by omega), show j + 2 - 2 = j by omega, hcj]
          exact ⟨k2.inv.see ht (by omega) (by omega) (by omega) (by omega) rdT, k1.pre.trans k2.pre, by dsimp only; omega, by dsimp only; omega, rdT, fun j c h1 h2 => by have := hnew j c h1 h2; omega, by dsimp only; omega⟩
        | none =>
          have hr : nodeB (h + 1) t v s = (r2.2.cs.length + 2, ⟨r2.2.cs ++ [(v, r1.1, r2.1)], (t, r2.2.cs.length + 2) :: r2.2.seen⟩) := by
            rw [nodeB, hl]
            simp only [← hr1, ← hr2, if_neg heq, hx]
          rw [hr]
          have hp : r2.2.cs <+: r2.2.cs ++ [(v, r1.1, r2.1)] := List.prefix_append _ _
          have hcl : (r2.2.cs ++ [(v, r1.1, r2.1)])[r2.2.cs.length]? = some (v, r1.1, r2.1) := by simp
          have hl1 : _root_.Go.Proofs.Ytacaakcpkgipfaa.lev n (r2.2.cs ++ [(v, r1.1, r2.1)]) r1.1 = _root_.Go.Proofs.Ytacaakcpkgipfaa.lev n r2.2.cs r1.1 := lev_ext hp hlo
          have hl2 : _root_.Go.Proofs.Ytacaakcpkgipfaa.lev n (r2.2.cs ++ [(v, r1.1, r2.1)]) r2.1 = _root_.Go.Proofs.Ytacaakcpkgipfaa.lev n r2.2.cs r2.1 := lev_ext hp k2.lt
          have hg : Good n (r2.2.cs ++ [(v, r1.1, r2.1)]) := by
            refine ⟨fun j c hc => ?_, ?_⟩
            · by_cases hj : j < r2.2.cs.length
              · rw [List.getElem?_append_left hj] at hc
                obtain ⟨g1, g2, g3, g4, g5, g6, g7⟩ := k2.inv.good.ok j c hc
                exact ⟨g1, g2, g3, g4, g5, by rw [lev_ext hp (by omega)]; exact g6, by rw [lev_ext hp (by omega)]; exact g7⟩
              · have hj2 : j = r2.2.cs.length := by
                  have := (List.getElem?_eq_some_iff.1 hc).1
                  simp at this; omega
                subst hj2
                rw [hcl] at hc
                cases hc
                exact ⟨hlo, k2.lt, heq, by dsimp only; omega, by dsimp only; omega, by dsimp only; rw [hl1, hlv]; exact k1.lev, by dsimp only; rw [hl2]; exact k2.lev⟩
            · refine List.nodup_append.2 ⟨k2.inv.good.nodup, by simp, fun x hxm y hy => ?_⟩
              rw [List.mem_singleton.1 hy]
              intro e
              subst e
              exact idxOf_none hx hxm
          have hsi : SInv n ⟨r2.2.cs ++ [(v, r1.1, r2.1)], r2.2.seen⟩ := ⟨hg, fun u k hu => by
            obtain ⟨h', e1, e2, e3, e4, e5, e6⟩ := k2.inv.seen u k hu
            exact ⟨h', e1, e2, e3, by simp; omega, by dsimp only; rw [lev_ext hp e4]; exact e5, e6.ext hp e4⟩⟩
          have rdT : Reads n (r2.2.cs ++ [(v, r1.1, r2.1)]) (r2.2.cs.length + 2) (h + 1) t := rdC _ _ fun a => by
            rw [valN_step a hcl hlo k2.lt]
            exact valN_ext a hp (by dsimp only; split; exact k2.lt; exact hlo)
          have hv1 : _root_.Go.Proofs.Ytacaakcpkgipfaa.lev n (r2.2.cs ++ [(v, r1.1, r2.1)]) (r2.2.cs.length + 2) = v := by unfold Ytacaakcpkgipfaa.lev; rw [if_neg (by omega), show r2.2.cs.length + 2 - 2 = r2.2.cs.length by omega, hcl]
          refine ⟨hsi.see ht (by omega) (by omega) (by simp) (by dsimp only; omega) rdT, (k1.pre.trans k2.pre).trans hp, by simp, by dsimp only; omega, rdT, fun j c h1 h2 => ?_, by simp; omega⟩
          dsimp only at h2
          by_cases hj : j < r2.2.cs.length
          · rw [List.getElem?_append_left hj] at h2
            have := hnew j c h1 h2; omega
          · have hj2 : j = r2.2.cs.length := by
              have := (List.getElem?_eq_some_iff.1 h2).1
              simp at this; omega
            subst hj2
            rw [hcl] at h2
            cases h2
            exact Nat.le_refl _
end Go.Proofs.Ytacaakcpkgipfaa
