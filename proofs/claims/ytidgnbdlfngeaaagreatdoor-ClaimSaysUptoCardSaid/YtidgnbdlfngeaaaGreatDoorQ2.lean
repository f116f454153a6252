/-
  Plain: the text of a theory and its reading: one is the other's inverse.
-/
import Derived.Test.YtidgnbdlfngeaaaGreatDoorQ1
namespace Go.Proofs.YtidgnbdlfngeaaaGreatDoor
set_option linter.unusedVariables false

def lines : Bs → List Bs
  | [] => [[]]
  | b :: r => if b = 10 then [] :: lines r else match lines r with | l :: ls => (b :: l) :: ls | [] => [[b]]
def joinL : List Bs → Bs
  | [] => []
  | [l] => l
  | l :: m :: r => l ++ 10 :: joinL (m :: r)
theorem lines_ne (s : Bs) : lines s ≠ [] := by
  cases s with
  | nil => simp [lines]
  | cons b r => rw [lines]; split; simp; split <;> simp
theorem join_lines (s : Bs) : joinL (lines s) = s := by
  induction s with
  | nil => rfl
  | cons b r ih =>
    rw [lines]
    split
    · rename_i h; subst h
      cases h2 : lines r with
      | nil => exact absurd h2 (lines_ne r)
      | cons l ls => rw [joinL, ← h2, ih]; rfl
    · cases h2 : lines r with
      | nil => exact absurd h2 (lines_ne r)
      | cons l ls =>
        rw [h2] at ih
        simp only []
        cases ls with
        | nil => simp only [joinL] at ih ⊢; rw [ih]
        | cons m ls => simp only [joinL] at ih ⊢; rw [List.cons_append, ih]
def noNl (s : Bs) : Prop := (10 : UInt8) ∉ s
theorem lines_app {a r : Bs} (h : noNl a) : lines (a ++ 10 :: r) = a :: lines r := by
  induction a with
  | nil => simp [lines]
  | cons b a ih =>
    have hb : b ≠ 10 := fun e => h (by simp [e])
    rw [List.cons_append, lines, if_neg hb, ih (fun e => h (by simp [e]))]
theorem lines_noNl {a : Bs} (h : noNl a) : lines a = [a] := by
  induction a with
  | nil => rfl
  | cons b a ih =>
    have hb : b ≠ 10 := fun e => h (by simp [e])
    rw [lines, if_neg hb, ih (fun e => h (by simp [e]))]

/-! ### texts -/
def sgTxt : List Int → Bs
  | [] => []
  | n :: r => 32 :: (Lib.decDigits n.toNat ++ sgTxt r)
def negT : Bool → Bs
  | true => [33]
  | false => []
def fcTxt (f : Fc) : Bs := 32 :: (f.l.txt ++ (negT f.neg ++ 61 :: f.r.txt))
def fsTxt : Bool → List Fc → Bs
  | _, [] => []
  | first, f :: r => (if first = true then [] else [32, 124]) ++ (fcTxt f ++ fsTxt false r)
def sSigns : Bs := [115, 105, 103, 110, 115]
def sClaim : Bs := [99, 108, 97, 105, 109]
def clTxt (c : List Fc) : Bs := sClaim ++ fsTxt true c
def clsTxt : List (List Fc) → Bs
  | [] => []
  | c :: r => clTxt c ++ 10 :: clsTxt r
def loreTxt (ar : List Int) (cs : List (List Fc)) : Bs := sSigns ++ (sgTxt ar ++ 10 :: clsTxt cs)

/-! ### reading -/
def signsL : Nat → Bs → Option (List Int)
  | 0, _ => none
  | f + 1, s => if s = [] then some [] else
    match takeO [32] s with
    | none => none
    | some s1 => match numO s1 with
      | none => none
      | some (n, r) => (signsL f r).map fun l => (n : Int) :: l
def signsO (s : Bs) : Option (List Int) := match takeO sSigns s with | none => none | some r => signsL (r.length + 1) r
def fT (s : Bs) : Nat := 2 * s.length + 2
def notO (s : Bs) : Bool × Bs := match takeO [33] s with
  | none => (false, s)
  | some r => (true, r)
theorem notO_say (s : Bs) : s = negT (notO s).1 ++ (notO s).2 := by
  unfold notO
  cases h : takeO [33] s with
  | none => rfl
  | some r => exact take_say h
theorem notO_33 (r : Bs) : notO (33 :: r) = (true, r) := by unfold notO; rw [take_hit]
/-- a literal -/
def factO (s : Bs) : Option (Fc × Bs) :=
  match takeO [32] s with
  | none => none
  | some s1 => match termO (fT s1) 1 s1 with
    | none => none
    | some (a, s2) => match takeO [61] (notO s2).2 with
      | none => none
      | some s3 => match termO (fT s3) 1 s3 with
        | none => none
        | some (b, s4) => some (⟨(notO s2).1, a, b⟩, s4)
def gapO (first : Bool) (s : Bs) : Option Bs := if first = true then some s else takeO [32, 124] s
def factsL : Nat → Bool → Bs → Option (List Fc)
  | 0, _, _ => none
  | n + 1, first, s => if s = [] then some [] else
    match gapO first s with
    | none => none
    | some s0 => match factO s0 with
      | none => none
      | some (f, r) => (factsL n false r).map fun l => f :: l
def claimO (s : Bs) : Option (List Fc) := match takeO sClaim s with | none => none | some r => factsL (r.length + 1) true r
/-- the claims of the lines behind the first: none wrong, or the number of the first wrong one -/
def claimsR : Nat → List Bs → Nat ⊕ List (List Fc)
  | i, [] => .inl i
  | i, [l] => if l = [] then .inr [] else .inl i
  | i, l :: m :: r => match claimO l with
    | none => .inl i
    | some c => match claimsR (i + 1) (m :: r) with
      | .inl k => .inl k
      | .inr cs => .inr (c :: cs)
def linesR : List Bs → Nat ⊕ (List Int × List (List Fc))
  | [] => .inl 0
  | [_] => .inl 0
  | l :: m :: r => match signsO l with
    | none => .inl 0
    | some a => match claimsR 1 (m :: r) with
      | .inl k => .inl k
      | .inr cs => .inr (a, cs)
def readR (s : Bs) : (Int × Int) × List Int × List (List Fc) :=
  if 4000 < s.length then ((2, 0), [], []) else
  match linesR (lines s) with
  | .inl k => ((1, k), [], [])
  | .inr (a, cs) => if (loreF a cs).1 = 0 then ((0, 0), a, cs) else (loreF a cs, [], [])
def textR (ar : List Int) (cs : List (List Fc)) : (Int × Int) × Bs :=
  if (loreF ar cs).1 ≠ 0 then (loreF ar cs, []) else if 4000 < (loreTxt ar cs).length then ((10, 0), []) else ((0, 0), loreTxt ar cs)

/-! ### no newline -/
theorem dec_noNl {n : Nat} (h : n ≤ 12) : noNl (Lib.decDigits n) := by
  unfold noNl
  by_cases h1 : n < 10
  · rw [dig_lt h1]; intro e
    have := List.mem_singleton.1 e
    have h2 := congrArg UInt8.toNat this
    rw [toNat_dg (by omega)] at h2
    have : (10 : UInt8).toNat = 10 := rfl
    omega
  · rw [dig_ge (by omega) (by omega)]; intro e
    have h10 : (10 : UInt8).toNat = 10 := rfl
    simp only [List.mem_cons, List.not_mem_nil, or_false] at e
    rcases e with e | e
    · have h2 := congrArg UInt8.toNat e
      rw [toNat_dg (by omega)] at h2; omega
    · have h2 := congrArg UInt8.toNat e
      rw [toNat_dg (by omega)] at h2; omega
theorem noNl_cons {x : UInt8} {b : Bs} : noNl (x :: b) ↔ x ≠ 10 ∧ noNl b := by unfold noNl; simp [not_or, eq_comm]
theorem noNl_nil : noNl [] := by simp [noNl]
/-! ### literals -/
def okTree (t : T) : Prop := t.deep ≤ 12 ∧ ∀ x ∈ t.pre, okN x
def okFc (f : Fc) : Prop := okTree f.l ∧ okTree f.r
theorem okTree_small {t : T} (h : okTree t) : smallT t := fun x hx => okN_small (h.2 x hx)
theorem fact_say {s r : Bs} {f : Fc} (h : factO s = some (f, r)) (hl : smallT f.l) (hr : smallT f.r) : s = fcTxt f ++ r := by
  unfold factO at h
  split at h
  · cases h
  · rename_i s1 h1
    split at h
    · cases h
    · rename_i a s2 h2
      split at h
      · cases h
      · rename_i s3 h3
        split at h
        · cases h
        · rename_i b s4 h4
          obtain ⟨rfl, rfl⟩ := Prod.mk.inj (Option.some.inj h)
          have g1 := take_say h1
          have g2 := (read_say _).1 _ _ _ _ h2 hl
          have g3 := take_say h3
          have g4 := (read_say _).1 _ _ _ _ h4 hr
          have g5 := notO_say s2
          rw [g3, g4] at g5
          unfold fcTxt
          simp only []
          generalize (notO s2).1 = ng at g5 ⊢
          rw [g1, g2, g5]
          simp
theorem facts_say : ∀ (n : Nat) (first : Bool) (s : Bs) (fs : List Fc), factsL n first s = some fs → (∀ f ∈ fs, smallT f.l ∧ smallT f.r) → s = fsTxt first fs
  | 0, first, s, fs, h, _ => by simp [factsL] at h
  | n + 1, first, s, fs, h, hs => by
    rw [factsL] at h
    split at h
    · rename_i h0; rw [← Option.some.inj h, h0]; simp [fsTxt]
    · split at h
      · cases h
      · rename_i s0 h0
        split at h
        · cases h
        · rename_i f r h1
          obtain ⟨l, h2, rfl⟩ := Option.map_eq_some_iff.1 h
          have g1 := fact_say h1 (hs f (by simp)).1 (hs f (by simp)).2
          have g2 := facts_say n false r l h2 (fun g hg => hs g (by simp [hg]))
          unfold gapO at h0
          rw [fsTxt]
          cases first with
          | true => rw [if_pos rfl] at h0 ⊢; rw [Option.some.inj h0, g1, g2]; rfl
          | false => rw [if_neg (by simp)] at h0 ⊢; rw [take_say h0, g1, g2]
theorem claim_say {s : Bs} {c : List Fc} (h : claimO s = some c) (hs : ∀ f ∈ c, smallT f.l ∧ smallT f.r) : s = clTxt c := by
  unfold claimO at h
  split at h
  · cases h
  · rename_i r h1
    rw [take_say h1, clTxt, ← facts_say _ _ _ _ h hs]

/-! ### signs -/
theorem signs_say : ∀ (n : Nat) (s : Bs) (l : List Int), signsL n s = some l → (∀ x ∈ l, x ≤ 12) → s = sgTxt l
  | 0, s, l, h, _ => by simp [signsL] at h
  | n + 1, s, l, h, hs => by
    rw [signsL] at h
    split at h
    · rename_i h0; rw [← Option.some.inj h, h0]; rfl
    · split at h
      · cases h
      · rename_i s1 h1
        split at h
        · cases h
        · rename_i k r h2
          obtain ⟨l', h3, rfl⟩ := Option.map_eq_some_iff.1 h
          have hk := hs (k : Int) (by simp)
          rw [take_say h1, num_say h2 (by omega), signs_say n r l' h3 (fun y hy => hs y (by simp [hy]))]
          simp [sgTxt]
/-! ### theories -/
def okLore (ar : List Int) (cs : List (List Fc)) : Prop := (∀ x ∈ ar, 0 ≤ x ∧ x ≤ 3) ∧ ∀ c ∈ cs, ∀ f ∈ c, okFc f
theorem mem_treesF {f : Fc} : ∀ {c : List Fc}, f ∈ c → f.l ∈ treesF c ∧ f.r ∈ treesF c
  | [], h => by cases h
  | g :: r, h => by
    rcases List.mem_cons.1 h with rfl | h
    · simp [treesF]
    · have := mem_treesF h
      simp only [treesF, List.mem_cons]
      exact ⟨.inr (.inr this.1), .inr (.inr this.2)⟩
theorem okLore_of {ar : List Int} {cs : List (List Fc)} (h : (loreF ar cs).1 = 0) : okLore ar cs := by
  obtain ⟨_, _, _, h1, h2⟩ := loreF_zero h
  refine ⟨h1, fun c hc f hf => ?_⟩
  have h3 := (codeF_zero.1 (h2 c hc)).2
  have h4 := mem_treesF hf
  have a := treeF_ok.1 (h3 _ h4.1).1
  have b := treeF_ok.1 (h3 _ h4.2).1
  exact ⟨⟨a.2.1, a.2.2⟩, ⟨b.2.1, b.2.2⟩⟩
theorem claims_say : ∀ (i : Nat) (ls : List Bs) (cs : List (List Fc)), claimsR i ls = .inr cs → (∀ c ∈ cs, ∀ f ∈ c, smallT f.l ∧ smallT f.r) → joinL ls = clsTxt cs
  | i, [], cs, h, _ => by simp [claimsR] at h
  | i, [l], cs, h, _ => by
    rw [claimsR] at h
    split at h
    · rename_i h0; cases h; rw [h0]; rfl
    · cases h
  | i, l :: m :: r, cs, h, hs => by
    rw [claimsR] at h
    split at h
    · cases h
    · rename_i c h1
      split at h
      · cases h
      · rename_i cs' h2
        cases h
        rw [joinL, claims_say (i + 1) (m :: r) cs' h2 (fun c hc => hs c (by simp [hc])), claim_say h1 (hs c (by simp)), clsTxt]
theorem lines_say {ls : List Bs} {ar : List Int} {cs : List (List Fc)} (h : linesR ls = .inr (ar, cs)) (ha : ∀ x ∈ ar, x ≤ 12) (hs : ∀ c ∈ cs, ∀ f ∈ c, smallT f.l ∧ smallT f.r) : joinL ls = loreTxt ar cs := by
  match ls, h with
  | [], h => simp [linesR] at h
  | [l], h => simp [linesR] at h
  | l :: m :: r, h =>
    rw [linesR] at h
    split at h
    · cases h
    · rename_i a h1
      split at h
      · cases h
      · rename_i cs' h2
        cases h
        unfold signsO at h1
        split at h1
        · cases h1
        · rename_i s1 h3
          rw [joinL, claims_say _ _ _ h2 hs, take_say h3, signs_say _ _ _ h1 ha, loreTxt]
          simp
/-- what is read is written the same -/
theorem read_text {s : Bs} (h : (readR s).1.1 = 0) : textR (readR s).2.1 (readR s).2.2 = ((0, 0), s) := by
  unfold readR at h ⊢
  by_cases h1 : 4000 < s.length
  · rw [if_pos h1] at h; cases h
  · rw [if_neg h1] at h ⊢
    split at h
    · cases h
    · rename_i a cs h2
      by_cases h3 : (loreF a cs).1 = 0
      · rw [if_pos h3]
        have hok := okLore_of h3
        have h4 := lines_say h2 (fun x hx => by have := hok.1 x hx; omega) (fun c hc f hf => ⟨okTree_small (hok.2 c hc f hf).1, okTree_small (hok.2 c hc f hf).2⟩)
        rw [join_lines] at h4
        unfold textR
        simp only []
        rw [if_neg (by simpa using h3), ← h4, if_neg h1]
      · rw [if_neg h3] at h; exact absurd h h3
theorem read_bad {s : Bs} (h : (readR s).1.1 ≠ 0) : (readR s).2 = ([], []) := by
  unfold readR at h ⊢
  by_cases h1 : 4000 < s.length
  · rw [if_pos h1]
  · rw [if_neg h1] at h ⊢
    split
    · rfl
    · rename_i a cs h2
      rw [h2] at h
      by_cases h3 : (loreF a cs).1 = 0
      · simp only [] at h; rw [if_pos h3] at h; exact absurd rfl h
      · rw [if_neg h3]
end Go.Proofs.YtidgnbdlfngeaaaGreatDoor
