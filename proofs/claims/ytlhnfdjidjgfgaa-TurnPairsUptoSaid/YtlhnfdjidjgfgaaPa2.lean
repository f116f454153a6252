/-
  Plain: of good rules.
  Plain: the critical pairs of rules, pair by pair.
  A region that draws its order: two operations that may come next, each way walked (behind wpH of g4).
  A region that draws its order, walked in one order, within a round of a range over a function: what goes outside a round goes in one. No program is named here.
  Rows of elements: a row appended to an own row; an element taken out of an own row; zeros laid.
  Walks: is a tree among these? The trees of a claim, gathered by append.
  Walk: pat.terms, the trees of a claim in order.
-/
import Derived.Test.YtlhnfdjidjgfgaaR2
import Derived.Test.YtlhnfdjidjgfgaaCp
import Derived.Test.YtlhnfdjidjgfgaaG4
import Derived.Test.YtlhnfdjidjgfgaaProg
import Derived.Test.YtlhnfdjidjgfgaaXb
import Derived.Test.YtlhnfdjidjgfgaaNk3
import Derived.Test.YtlhnfdjidjgfgaaPa4
import Derived.Test.YtlhnfdjidjgfgaaXd
import Derived.Lib.SliceRun
import Derived.Lib.AppendZeros
import Derived.Deep.Upon
import Derived.RegionTactic
import Derived.Lib.QuietBelowIn
import Derived.RangeFuncNested
namespace Go.Proofs.Ytlhnfdjidjgfgaa
open Go.RowKit Go.Shelf
set_option linter.unusedVariables false

theorem firstR_zero : ∀ {rs : List Ru} {a : Int}, (firstR rs a).1 = 0 → ∀ (i : Nat) f, rs[i]? = some f → ruleF f.1 f.2 = 0
  | [], _, _, i, f, hf => by simp at hf
  | x :: r, a, h, i, f, hf => by
    rw [firstR] at h
    by_cases hx : ruleF x.1 x.2 ≠ 0
    · rw [if_pos hx] at h; exact absurd h hx
    · rw [if_neg hx] at h
      cases i with
      | zero => simp at hf; subst hf; simpa using hx
      | succ i => exact firstR_zero h i f (by simpa using hf)
theorem ruleF_zero {l r : T} (h : ruleF l r = 0) : (treeF l).1 = 0 ∧ (treeF r).1 = 0 := by
  unfold ruleF at h
  by_cases h1 : (treeF l).1 ≠ 0
  · rw [if_pos h1] at h; exact absurd h h1
  · rw [if_neg h1] at h
    by_cases h2 : (treeF r).1 ≠ 0
    · rw [if_pos h2] at h; exact absurd h h2
    · exact ⟨by simpa using h1, by simpa using h2⟩
end Go.Proofs.Ytlhnfdjidjgfgaa
namespace Go.Proofs.Ytlhnfdjidjgfgaa
open Go.RowKit Go.Shelf
set_option linter.unusedVariables false

/-- one node of the first rule's left side -/
noncomputable def nodeStep (X Y : Ru) (same : Bool) (K : Option (List Ru)) (x : List Int × T) : Option (List Ru) :=
  match K with
  | none => none
  | some K => if x.2.head < 0 ∨ (same = true ∧ x.1 = []) then some K else
    match pairF X Y x.1 x.2 with
    | none => none
    | some none => some K
    | some (some q) => some (K ++ [q])
noncomputable def nodesK (X Y : Ru) (same : Bool) (l : List (List Int × T)) (K : Option (List Ru)) : Option (List Ru) := l.foldl (nodeStep X Y same) K
theorem nodesK_none (X Y : Ru) (same : Bool) : ∀ l, nodesK X Y same l none = none
  | [] => rfl
  | x :: r => nodesK_none X Y same r
theorem nodesK_snoc (X Y : Ru) (same : Bool) (l : List (List Int × T)) (x : List Int × T) (K : Option (List Ru)) : nodesK X Y same (l ++ [x]) K = nodeStep X Y same (nodesK X Y same l K) x := by
  unfold nodesK; rw [List.foldl_append]; rfl
theorem nodesK_prefix {X Y : Ru} {same : Bool} {l m : List (List Int × T)} {K : Option (List Ru)} (h : l <+: m) (hn : nodesK X Y same l K = none) : nodesK X Y same m K = none := by
  obtain ⟨r, rfl⟩ := h
  have : nodesK X Y same (l ++ r) K = nodesK X Y same r (nodesK X Y same l K) := by unfold nodesK; rw [List.foldl_append]
  rw [this, hn, nodesK_none]
theorem nodeStep_len {X Y : Ru} {same : Bool} {K M : List Ru} {x : List Int × T} (h : nodeStep X Y same (some K) x = some M) : M.length ≤ K.length + 1 := by
  unfold nodeStep at h
  dsimp only at h
  split at h
  · obtain rfl := Option.some.inj h; omega
  · split at h
    · cases h
    · obtain rfl := Option.some.inj h; omega
    · obtain rfl := Option.some.inj h; simp
theorem nodesK_len {X Y : Ru} {same : Bool} : ∀ {l : List (List Int × T)} {K M : List Ru}, nodesK X Y same l (some K) = some M → M.length ≤ K.length + l.length
  | [], K, M, h => by
    have : K = M := Option.some.inj h
    subst this; simp
  | x :: r, K, M, h => by
    have h1 : nodesK X Y same r (nodeStep X Y same (some K) x) = some M := h
    cases hx : nodeStep X Y same (some K) x with
    | none => rw [hx, nodesK_none] at h1; cases h1
    | some L =>
      rw [hx] at h1
      have := nodesK_len h1
      have := nodeStep_len hx
      simp only [List.length_cons]; omega
/-- the second rule, its variables set apart from the first one's -/
def moveR (X Y : Ru) : Ru := (shT X.1.most Y.1, shT X.1.most Y.2)
def gR (rs : List Ru) (i : Nat) : Ru := rs.getD i (zeroT, zeroT)
theorem gR_get {rs : List Ru} {i : Nat} (h : i < rs.length) : gR rs i = rs[i] := by simp [gR, h]
noncomputable def innerK (rs : List Ru) (X : Ru) (i : Nat) : Nat → Option (List Ru) → Option (List Ru)
  | 0, K => K
  | k + 1, K => nodesK X (moveR X (gR rs k)) (decide (i = k)) (X.1.preP []) (innerK rs X i k K)
noncomputable def outerK (rs : List Ru) : Nat → Option (List Ru)
  | 0 => some []
  | i + 1 => innerK rs (gR rs i) i rs.length (outerK rs i)
theorem innerK_none {rs : List Ru} {X : Ru} {i : Nat} : ∀ {k : Nat}, innerK rs X i k none = none
  | 0 => rfl
  | k + 1 => by rw [innerK, innerK_none, nodesK_none]
theorem innerK_up {rs : List Ru} {X : Ru} {i k : Nat} {K : Option (List Ru)} (h : innerK rs X i k K = none) : ∀ {m : Nat}, k ≤ m → innerK rs X i m K = none
  | 0, hm => by
    obtain rfl : k = 0 := by omega
    exact h
  | m + 1, hm => by
    rcases Nat.lt_or_ge m k with h1 | h1
    · obtain rfl : k = m + 1 := by omega
      exact h
    · rw [innerK, innerK_up h h1, nodesK_none]
theorem outerK_up {rs : List Ru} {i : Nat} (h : outerK rs i = none) : ∀ {m : Nat}, i ≤ m → outerK rs m = none
  | 0, hm => by
    obtain rfl : i = 0 := by omega
    exact h
  | m + 1, hm => by
    rcases Nat.lt_or_ge m i with h1 | h1
    · obtain rfl : i = m + 1 := by omega
      exact h
    · rw [outerK, outerK_up h h1, innerK_none]
theorem innerK_len {rs : List Ru} {X : Ru} {i : Nat} {K : List Ru} : ∀ {k : Nat} {M : List Ru}, innerK rs X i k (some K) = some M → M.length ≤ K.length + k * X.1.size
  | 0, M, h => by
    have : K = M := Option.some.inj h
    subst this; omega
  | k + 1, M, h => by
    rw [innerK] at h
    cases hx : innerK rs X i k (some K) with
    | none => rw [hx, nodesK_none] at h; cases h
    | some L =>
      rw [hx] at h
      have h1 := innerK_len hx
      have h2 := nodesK_len h
      rw [preP_length] at h2
      rw [Nat.succ_mul]; omega
theorem outerK_len {rs : List Ru} (hs : ∀ f ∈ rs, f.1.size ≤ 40) : ∀ {i : Nat} {M : List Ru}, i ≤ rs.length → outerK rs i = some M → M.length ≤ i * (rs.length * 40)
  | 0, M, _, h => by
    have : [] = M := Option.some.inj h
    subst this; simp
  | i + 1, M, hi, h => by
    rw [outerK] at h
    cases hx : outerK rs i with
    | none => rw [hx, innerK_none] at h; cases h
    | some L =>
      rw [hx] at h
      have h1 := outerK_len hs (by omega) hx
      have h2 := innerK_len h
      have h3 : (gR rs i).1.size ≤ 40 := by rw [gR_get (by omega)]; exact hs _ (List.getElem_mem _)
      have h4 : rs.length * (gR rs i).1.size ≤ rs.length * 40 := Nat.mul_le_mul_left _ h3
      rw [Nat.succ_mul]; omega
noncomputable def pairsF (rs : List Ru) : List Ru × (Int × Int) :=
  if (rulesF rs).1 ≠ 0 then ([], rulesF rs) else
    match outerK rs rs.length with
    | none => ([], (10, 0))
    | some K => (K, (0, 0))
theorem rulesF_zero {rs : List Ru} (h : (rulesF rs).1 = 0) : rs.length ≤ 30 ∧ ∀ f ∈ rs, (treeF f.1).1 = 0 ∧ (treeF f.2).1 = 0 := by
  unfold rulesF at h
  by_cases h3 : 30 < rs.length
  · rw [if_pos h3] at h; cases h
  · rw [if_neg h3] at h
    refine ⟨by omega, fun f hf => ?_⟩
    obtain ⟨i, hi⟩ := List.mem_iff_getElem?.1 hf
    exact ruleF_zero (firstR_zero h i f hi)
end Go.Proofs.Ytlhnfdjidjgfgaa
namespace Go.Proofs.Ytlhnfdjidjgfgaa
open Go.RowKit
set_option linter.unusedVariables false

section
variable {P : Program} {ops : Array Oper} {Q : Exit → Act → World → Prop} {md : Region.Mode} {S : World → Prop} {sts : List Nat}
/-- numbers i and j are those that may come -/
theorem wpH.two {i j fuel : Nat} {listed : Array Bool} {a : Act} {w : World} (hr : Region.ready md ops listed = [i, j])
    (h : ∀ o, ops[i]? = some o → ∀ K' : Act → World → Prop, (∀ b W, (i ∉ sts → S W) → wpH P md ops Q S sts fuel (listed.setIfInBounds i true) b W → K' b W) → if Region.wanted o (yielded ops a.tmps) = true then Oper.wp P o a w K' Q else K' (a.put o.dst undef) w)
    (h2 : ∀ o, ops[j]? = some o → ∀ K' : Act → World → Prop, (∀ b W, (j ∉ sts → S W) → wpH P md ops Q S sts fuel (listed.setIfInBounds j true) b W → K' b W) → if Region.wanted o (yielded ops a.tmps) = true then Oper.wp P o a w K' Q else K' (a.put o.dst undef) w) : wpH P md ops Q S sts (fuel + 1) listed a w := by
  refine ⟨fun e => (by rw [hr] at e; cases e), fun k hk => ?_⟩
  have hm : k ∈ Region.ready md ops listed := hk
  obtain ⟨_, o, ho, _⟩ := mem_ready.1 hm
  rw [hr] at hk
  have hk2 : k = i ∨ k = j := by simpa using hk
  rcases hk2 with rfl | rfl
  · exact wpOp_step ho fun K' hK => h o ho K' fun b W h1 h2 => hK _ _ ⟨h1, h2⟩
  · exact wpOp_step ho fun K' hK => h2 o ho K' fun b W h1 h2 => hK _ _ ⟨h1, h2⟩
end
end Go.Proofs.Ytlhnfdjidjgfgaa
namespace Go.Proofs.Ytlhnfdjidjgfgaa
open Go.RowKit Go.Sort
set_option linter.unusedVariables false

section
variable {n : Nat} {P : Program} {ops : Array Oper} {md : Region.Mode}

theorem rowsIn_wide {n : Nat} {row : String} {args : Array Value} {w : World} {R : Value → World → Prop} (h : Rows P row args w R) : RowsIn Fence.wide n P row args w R :=
  fun c cs _ => let ⟨v, w', r, s⟩ := h c cs; ⟨v, w', r, stepsIn_wide.2 s⟩
theorem wp_round {l : Nat} {o : Oper} {a : Act} {w : World} {K : Act → World → Prop} {Q : Exit → Act → World → Prop} (hd : ∀ c, o.op ≠ .defer c) (h : o.wp P a w K Q) : o.wpIn (Fence.wide.inRound l) n P a w K Q := by
  refine ⟨fun _ _ => trivial, ?_⟩
  rw [Oper.semAt_eq _ _ _ hd]
  unfold Oper.wp at h
  generalize (execOp a.eval o).run P w = r at h ⊢
  cases r with
  | ok x w' =>
    cases x <;> simp only [Oper.upon, Oper.uponIn] at h ⊢ <;>
      first
        | exact h
        | exact ⟨(fun e => by cases e), callsIn_wide.2 h⟩
        | exact ⟨(fun e => by cases e), rowsIn_wide h⟩
  | halt x w' => cases x <;> simp only [Oper.upon, Oper.uponIn] at h ⊢ <;> exact h
end
end Go.Proofs.Ytlhnfdjidjgfgaa
namespace Go.Proofs.Ytlhnfdjidjgfgaa
open Go.RowKit Go.Shelf
set_option linter.unusedVariables false
set_option maxHeartbeats 400000

section
variable {α : Type}
/-- a row has been appended -/
theorem St.appRow {w0 w w3 : World} {l : List Fct} (S : St w0 w l) (E : Elt α) (i : Nat) {B : Nat} {p p' q : Nat → Prop} {o : Value} {xs ys : List α} {css yss : List (List Value)} {gg cap : Nat}
    (hi : Fct.at l i = Fct.owns E B p o xs) (hyl : yss.length = ys.length) (hye : ∀ (j : Nat) cs y, yss[j]? = some cs → ys[j]? = some y → E.is q w cs y) (hcl : css.length = xs.length) (hel : ∀ (i : Nat) cs x, css[i]? = some cs → xs[i]? = some x → E.is (fun b => p b ∧ o.ownBlock ≠ some b) w cs x)
    (hown : w3.ownsRow B E.ty E.n (.slice (some ⟨gg, 0, none⟩) (xs.length + ys.length) cap) (xs.length + ys.length) (css.flatten ++ yss.flatten))
    (hg : w.grownBy w3 o.ownBlock) (hat : o.ownBlock = some gg ∨ gg = w.heap.size) (hB : w0.heap.size ≤ B)
    (hoff : ∀ b, o.ownBlock = some b → offs b i l) (hq : ∀ b, q b → o.ownBlock ≠ some b) (hpq : ∀ b, p b ∨ q b → p' b) :
    St w0 w3 (fset l i (.owns E B p' (.slice (some ⟨gg, 0, none⟩) (xs.length + ys.length) cap) (xs ++ ys))) := by
  have hlt := S.ownlt E i hi
  have hsame : ∀ b, b < w.heap.size → o.ownBlock ≠ some b → w3.heap[b]? = w.heap[b]? := fun b h1 h2 => hg.block b h1 (fun e => h2 e.symm)
  have hggn : ∀ b, b < w.heap.size → o.ownBlock ≠ some b → (Value.slice (some ⟨gg, 0, none⟩) (xs.length + ys.length) cap).ownBlock ≠ some b := fun b hlt hne e => by
    have e' : gg = b := by simpa [Value.ownBlock] using e
    rcases hat with h4 | h4
    · exact hne (by rw [h4, e'])
    · omega
  refine ⟨S.bel.grown hg S.size (fun c hc => by have := (hlt c hc).1; omega), fun j => ?_⟩
  by_cases hj : j = i
  · subst hj
    rcases at_fset_same (.owns E B p' (.slice (some ⟨gg, 0, none⟩) (xs.length + ys.length) cap) (xs ++ ys)) l j with h | h
    · rw [h]
      refine ⟨css ++ yss, by simp [hcl, hyl], by simpa using hown, fun k c y hc hy => ?_⟩
      by_cases hk : k < xs.length
      · rw [List.getElem?_append_left (by omega)] at hc
        rw [List.getElem?_append_left hk] at hy
        exact E.keep (fun b hb hl => ⟨hsame b hl hb.2, hpq b (.inl hb.1), hggn b hl hb.2⟩) (hel k c y hc hy)
      · rw [List.getElem?_append_right (by omega)] at hc hy
        rw [hcl] at hc
        exact E.keep (fun b hb hl => ⟨hsame b hl (hq b hb), hpq b (.inr hb), hggn b hl (hq b hb)⟩) (hye _ c y hc hy)
    · rw [h]; trivial
  · rw [at_fset_other _ _ _ _ hj]
    exact (Fct.at l j).stable w w3 (fun c hc hl => hsame c hl (fun e => offs_at (hoff c e) j hj hc)) (S.2 j)
end
end Go.Proofs.Ytlhnfdjidjgfgaa
namespace Go.Proofs.Ytlhnfdjidjgfgaa
open Go.RowKit Go.Shelf
set_option linter.unusedVariables false
set_option maxHeartbeats 400000

end Go.Proofs.Ytlhnfdjidjgfgaa
namespace Go.Proofs.Ytlhnfdjidjgfgaa
open Go.RowKit Go.Shelf
set_option linter.unusedVariables false
set_option maxHeartbeats 400000

section
variable {α : Type}
end
end Go.Proofs.Ytlhnfdjidjgfgaa
