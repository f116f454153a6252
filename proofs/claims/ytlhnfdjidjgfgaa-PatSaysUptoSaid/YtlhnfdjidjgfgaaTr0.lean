/-
  Plain: derivations of claims, their steps, what a beginning of one gets.
-/
import Derived.Test.YtlhnfdjidjgfgaaV5
import Derived.Test.YtlhnfdjidjgfgaaT25
import Derived.Test.YtlhnfdjidjgfgaaT31
import Derived.Test.YtlhnfdjidjgfgaaXe
namespace Go.Proofs.Ytlhnfdjidjgfgaa
open Go.RowKit Go.Shelf
set_option linter.unusedVariables false
set_option maxHeartbeats 400000

/-- a step of a derivation -/
structure Gt where
  kind : Int
  a : Int
  b : Int
  i : Int
  j : Int
  turn : Bool
  pl : List Int
  bs : List T
def gC (l : List (List Fc)) (i : Int) : List Fc := l.getD i.toNat []
def gF (l : List Fc) (i : Int) : Fc := l.getD i.toNat ⟨false, zeroT, zeroT⟩
def inL (i : Int) (n : Nat) : Prop := 0 ≤ i ∧ i < n
instance (i : Int) (n : Nat) : Decidable (inL i n) := by unfold inL; infer_instance
def subC (bs : List T) (fs : List Fc) : List Fc := fs.map fun f => ⟨f.neg, f.l.sub bs, f.r.sub bs⟩
/-- is a fact left out behind these? -/
def skipP (pre : List Fc) (f : Fc) : Prop := (f.neg = true ∧ f.l = f.r) ∨ f ∈ pre
noncomputable instance (pre : List Fc) (f : Fc) : Decidable (skipP pre f) := Classical.propDecidable _
noncomputable def onceL : List Fc → List Fc → List Fc
  | _, [] => []
  | pre, f :: r => if skipP pre f then onceL (pre ++ [f]) r else f :: onceL (pre ++ [f]) r
noncomputable def onceF (fs : List Fc) : List Fc := onceL [] fs
theorem onceL_snoc (f : Fc) : ∀ (l pre : List Fc), onceL pre (l ++ [f]) = onceL pre l ++ if skipP (pre ++ l) f then [] else [f]
  | [], pre => by simp only [List.nil_append, onceL, List.append_nil]; 
  | x :: r, pre => by
    have ih := onceL_snoc f r (pre ++ [x])
    simp only [List.cons_append, onceL]
    rw [ih, List.append_assoc]
    by_cases h : skipP pre x
    · rw [if_pos h, if_pos h]; rfl
    · rw [if_neg h, if_neg h]; rfl
theorem onceF_take {fs : List Fc} {k : Nat} (h : k < fs.length) : onceF (fs.take (k + 1)) = onceF (fs.take k) ++ if skipP (fs.take k) fs[k] then [] else [fs[k]] := by
  unfold onceF
  rw [List.take_succ_eq_append_getElem h, onceL_snoc]; rfl
/-- the document's: what is kept so far, and the rest -/
noncomputable def onceD : List Fc → List Fc → List Fc
  | kept, [] => kept
  | kept, f :: r => if skipP kept f then onceD kept r else onceD (kept ++ [f]) r
theorem onceD_eq : ∀ (l pre kept : List Fc), (∀ f : Fc, ¬ (f.neg = true ∧ f.l = f.r) → (f ∈ kept ↔ f ∈ pre)) → onceD kept l = kept ++ onceL pre l
  | [], pre, kept, _ => by simp [onceD, onceL]
  | f :: r, pre, kept, h => by
    have hs : skipP kept f ↔ skipP pre f := by
      unfold skipP
      by_cases ht : f.neg = true ∧ f.l = f.r
      · simp [ht]
      · simp only [ht, false_or]; exact h f ht
    simp only [onceD, onceL]
    by_cases hk : skipP pre f
    · rw [if_pos (hs.2 hk), if_pos hk]
      refine onceD_eq r _ _ fun g hg => ?_
      rw [h g hg]
      constructor
      · intro hm; exact List.mem_append_left _ hm
      · intro hm
        rcases List.mem_append.1 hm with hm | hm
        · exact hm
        · rw [List.mem_singleton] at hm; subst hm
          rcases hk with hk | hk
          · exact absurd hk hg
          · exact hk
    · rw [if_neg (fun h => hk (hs.1 h)), if_neg hk, onceD_eq r (pre ++ [f]) (kept ++ [f]) (fun g hg => by simp only [List.mem_append, h g hg]), List.append_assoc]; rfl
theorem onceD_nil (fs : List Fc) : onceD [] fs = onceF fs := by rw [onceD_eq fs [] [] (fun _ _ => Iff.rfl)]; rfl
theorem onceD_snoc (f : Fc) : ∀ (l kept : List Fc), onceD kept (l ++ [f]) = if skipP (onceD kept l) f then onceD kept l else onceD kept l ++ [f]
  | [], kept => by
    show onceD kept [f] = if skipP kept f then kept else kept ++ [f]
    rw [onceD, onceD, onceD]
  | x :: r, kept => by
    by_cases h : skipP kept x
    · have e : onceD kept (x :: r) = onceD kept r := by rw [onceD, if_pos h]
      rw [e, ← onceD_snoc f r kept, List.cons_append, onceD, if_pos h]
    · have e : onceD kept (x :: r) = onceD (kept ++ [x]) r := by rw [onceD, if_neg h]
      rw [e, ← onceD_snoc f r (kept ++ [x]), List.cons_append, onceD, if_neg h]
theorem onceF_len (fs : List Fc) : (onceF fs).length ≤ fs.length := by
  have key : ∀ (l pre : List Fc), (onceL pre l).length ≤ l.length := by
    intro l
    induction l with
    | nil => intro pre; simp [onceL]
    | cons x r ih =>
      intro pre
      simp only [onceL]
      split
      · have := ih (pre ++ [x]); simp only [List.length_cons]; omega
      · have := ih (pre ++ [x]); simp only [List.length_cons]; omega
  exact key fs []
theorem onceF_mem (fs : List Fc) : ∀ f ∈ onceF fs, f ∈ fs := by
  have key : ∀ (l pre : List Fc), ∀ f ∈ onceL pre l, f ∈ l := by
    intro l
    induction l with
    | nil => intro pre f h; simp [onceL] at h
    | cons x r ih =>
      intro pre f h
      simp only [onceL] at h
      split at h
      · exact List.mem_cons_of_mem _ (ih _ f h)
      · rcases List.mem_cons.1 h with h | h
        · rw [h]; exact List.mem_cons_self ..
        · exact List.mem_cons_of_mem _ (ih _ f h)
  exact key fs []

/-- equals for equals -/
def sideF (g : Gt) (f : Fc) : T := if gI g.pl 0 = 2 then f.r else f.l
def lastF (g : Gt) (f : Fc) (t : T) : Fc := if gI g.pl 0 = 2 then ⟨f.neg, f.l, t⟩ else ⟨f.neg, t, f.r⟩
def fromF (g : Gt) (f : Fc) : T := if g.turn = true then f.r else f.l
def toF (g : Gt) (f : Fc) : T := if g.turn = true then f.l else f.r
noncomputable def rightF (a b : List Fc) (g : Gt) : List Fc × Int :=
  if ¬ (inL g.i a.length ∧ inL g.j b.length) then ([], 3)
  else if (gF a g.i).neg = true then ([], 5)
  else if g.pl = [] ∨ (gI g.pl 0 ≠ 1 ∧ gI g.pl 0 ≠ 2) then ([], 6)
  else if 0 ≤ ((sideF g (gF b g.j)).get g.pl.tail 0).2 then ([], 6)
  else if ((sideF g (gF b g.j)).get g.pl.tail 0).1 ≠ fromF g (gF a g.i) then ([], 11)
  else (a.eraseIdx g.i.toNat ++ b.eraseIdx g.j.toNat ++ [lastF g (gF b g.j) (T.withAt g.pl.tail (sideF g (gF b g.j)) (toF g (gF a g.i)))], 0)
noncomputable def outF (cs known : List (List Fc)) (g : Gt) : List Fc :=
  if g.kind = 1 then gC cs g.a else if g.kind = 2 then subC g.bs (gC known g.a) else if g.kind = 3 then (rightF (gC known g.a) (gC known g.b) g).1 else onceF (gC known g.a)
noncomputable def stepF (ar : List Int) (cs known : List (List Fc)) (g : Gt) : List Fc × Int :=
  if g.kind < 1 ∨ 4 < g.kind then ([], 4)
  else if ¬ inL g.a (if g.kind = 1 then cs.length else known.length) ∨ (g.kind = 3 ∧ ¬ inL g.b known.length) then ([], 3)
  else if g.kind = 2 ∧ (bindF g.bs).1 ≠ 0 then ([], (bindF g.bs).1)
  else if g.kind = 3 ∧ (rightF (gC known g.a) (gC known g.b) g).2 ≠ 0 then ([], (rightF (gC known g.a) (gC known g.b) g).2)
  else if codeF ar (outF cs known g) ≠ 0 then ([], 10)
  else (outF cs known g, 0)
noncomputable def takeGo (ar : List Int) (cs : List (List Fc)) : List Gt → List (List Fc) → Int → List (List Fc) × (Int × Int)
  | [], known, _ => (known, (0, 0))
  | g :: r, known, i => if (stepF ar cs known g).2 ≠ 0 then ([], ((stepF ar cs known g).2, i)) else takeGo ar cs r (known ++ [(stepF ar cs known g).1]) (i + 1)
noncomputable def takeF (ar : List Int) (cs : List (List Fc)) (gs : List Gt) : List (List Fc) × (Int × Int) :=
  if (loreF ar cs).1 ≠ 0 then ([], loreF ar cs) else if 400 < gs.length then ([], (2, -1)) else takeGo ar cs gs [] 0

/-! a beginning of a derivation -/
theorem takeGo_err {ar : List Int} {cs : List (List Fc)} : ∀ {gs : List Gt} {known : List (List Fc)} {i : Int}, (takeGo ar cs gs known i).2.1 ≠ 0 → (takeGo ar cs gs known i).1 = []
  | [], known, i, h => by rw [takeGo] at h; exact absurd rfl h
  | g :: r, known, i, h => by
    rw [takeGo] at h ⊢
    by_cases h1 : (stepF ar cs known g).2 ≠ 0
    · rw [if_pos h1]
    · rw [if_neg h1] at h ⊢; exact takeGo_err h
theorem takeGo_ok {ar : List Int} {cs : List (List Fc)} : ∀ {gs : List Gt} {known : List (List Fc)} {i : Int}, (takeGo ar cs gs known i).2.1 = 0 → ∃ more, takeGo ar cs gs known i = (known ++ more, (0, 0)) ∧ more.length = gs.length
  | [], known, i, h => ⟨[], by simp [takeGo], rfl⟩
  | g :: r, known, i, h => by
    rw [takeGo] at h ⊢
    by_cases h1 : (stepF ar cs known g).2 ≠ 0
    · rw [if_pos h1] at h; exact absurd h h1
    · rw [if_neg h1] at h ⊢
      obtain ⟨more, e, hl⟩ := takeGo_ok h
      exact ⟨(stepF ar cs known g).1 :: more, by rw [e]; simp, by simp [hl]⟩
theorem takeGo_part {ar : List Int} {cs : List (List Fc)} : ∀ {gs : List Gt} {known : List (List Fc)} {i : Int} (n : Nat), (takeGo ar cs gs known i).2.1 = 0 → n ≤ gs.length → takeGo ar cs (gs.take n) known i = ((takeGo ar cs gs known i).1.take (known.length + n), (0, 0))
  | gs, known, i, 0, h, _ => by
    obtain ⟨more, e, _⟩ := takeGo_ok h
    rw [e, List.take_zero, takeGo]; simp
  | [], known, i, n + 1, h, hn => by simp at hn
  | g :: r, known, i, n + 1, h, hn => by
    rw [List.take_succ_cons, takeGo]
    rw [takeGo] at h ⊢
    by_cases h1 : (stepF ar cs known g).2 ≠ 0
    · rw [if_pos h1] at h; exact absurd h h1
    · rw [if_neg h1] at h ⊢
      rw [if_neg h1, takeGo_part n h (by simpa using hn)]
      congr 2
      simp; omega
theorem takeGo_bad {ar : List Int} {cs : List (List Fc)} : ∀ {gs : List Gt} {known : List (List Fc)} {i : Int} (n : Nat), (takeGo ar cs gs known i).2.1 ≠ 0 → (takeGo ar cs (gs.take n) known i).2.1 = 0 ∨ (takeGo ar cs (gs.take n) known i).2 = (takeGo ar cs gs known i).2
  | gs, known, i, 0, h => by rw [List.take_zero, takeGo]; exact .inl rfl
  | [], known, i, n + 1, h => by rw [List.take_nil]; exact .inr rfl
  | g :: r, known, i, n + 1, h => by
    rw [List.take_succ_cons, takeGo]
    rw [takeGo] at h ⊢
    by_cases h1 : (stepF ar cs known g).2 ≠ 0
    · rw [if_pos h1, if_pos h1]; exact .inr rfl
    · rw [if_neg h1] at h
      rw [if_neg h1, if_neg h1]; exact takeGo_bad n h
theorem takeGo_snoc {ar : List Int} {cs : List (List Fc)} (g : Gt) : ∀ {gs : List Gt} {known : List (List Fc)} {i : Int}, (takeGo ar cs gs known i).2.1 = 0 → takeGo ar cs (gs ++ [g]) known i =
    if (stepF ar cs (takeGo ar cs gs known i).1 g).2 ≠ 0 then ([], ((stepF ar cs (takeGo ar cs gs known i).1 g).2, i + gs.length)) else ((takeGo ar cs gs known i).1 ++ [(stepF ar cs (takeGo ar cs gs known i).1 g).1], (0, 0))
  | [], known, i, h => by simp [takeGo]
  | x :: r, known, i, h => by
    rw [List.cons_append, takeGo]
    rw [takeGo] at h ⊢
    by_cases h1 : (stepF ar cs known x).2 ≠ 0
    · rw [if_pos h1] at h; exact absurd h h1
    · rw [if_neg h1] at h ⊢
      rw [if_neg h1, takeGo_snoc g h]
      have e : i + 1 + (r.length : Int) = i + ((x :: r).length : Int) := by simp only [List.length_cons]; omega
      rw [e]
/-- an error stays -/
theorem takeGo_stop {ar : List Int} {cs : List (List Fc)} : ∀ {gs more : List Gt} {known : List (List Fc)} {i : Int}, (takeGo ar cs gs known i).2.1 ≠ 0 → takeGo ar cs (gs ++ more) known i = takeGo ar cs gs known i
  | [], more, known, i, h => by rw [takeGo] at h; exact absurd rfl h
  | g :: r, more, known, i, h => by
    rw [List.cons_append, takeGo]
    rw [takeGo] at h ⊢
    by_cases h1 : (stepF ar cs known g).2 ≠ 0
    · rw [if_pos h1, if_pos h1]
    · rw [if_neg h1] at h ⊢
      rw [if_neg h1]; exact takeGo_stop h

theorem stepF_zero {ar : List Int} {cs known : List (List Fc)} {g : Gt} (h : (stepF ar cs known g).2 = 0) : stepF ar cs known g = (outF cs known g, 0) ∧ codeF ar (outF cs known g) = 0 ∧ ¬ (g.kind < 1 ∨ 4 < g.kind) ∧
    inL g.a (if g.kind = 1 then cs.length else known.length) ∧ (g.kind = 3 → inL g.b known.length ∧ (rightF (gC known g.a) (gC known g.b) g).2 = 0) ∧ (g.kind = 2 → (bindF g.bs).1 = 0) := by
  unfold stepF at h ⊢
  by_cases h1 : g.kind < 1 ∨ 4 < g.kind
  · rw [if_pos h1] at h; cases h
  · rw [if_neg h1] at h ⊢
    by_cases h2 : ¬ inL g.a (if g.kind = 1 then cs.length else known.length) ∨ (g.kind = 3 ∧ ¬ inL g.b known.length)
    · rw [if_pos h2] at h; cases h
    · rw [if_neg h2] at h ⊢
      by_cases h3 : g.kind = 2 ∧ (bindF g.bs).1 ≠ 0
      · rw [if_pos h3] at h; exact absurd h h3.2
      · rw [if_neg h3] at h ⊢
        by_cases h4 : g.kind = 3 ∧ (rightF (gC known g.a) (gC known g.b) g).2 ≠ 0
        · rw [if_pos h4] at h; exact absurd h h4.2
        · rw [if_neg h4] at h ⊢
          by_cases h5 : codeF ar (outF cs known g) ≠ 0
          · rw [if_pos h5] at h; cases h
          · rw [if_neg h5]
            refine ⟨rfl, by simpa using h5, h1, ?_, fun hk => ⟨?_, ?_⟩, fun hk => ?_⟩
            · exact Classical.byContradiction fun h => h2 (.inl h)
            · exact Classical.byContradiction fun h => h2 (.inr ⟨hk, h⟩)
            · exact Classical.byContradiction fun h => h4 ⟨hk, h⟩
            · exact Classical.byContradiction fun h => h3 ⟨hk, h⟩
end Go.Proofs.Ytlhnfdjidjgfgaa
