/-
  Plain: the text of a theory and its reading: one is the other's inverse.
-/
import Derived.Test.YtidgnbdlfngeaaaDoorQ1
namespace Go.Proofs.YtidgnbdlfngeaaaDoor
set_option linter.unusedVariables false

def lines : Bs → List Bs
  | [] => [[]]
  | b :: r => if b = 10 then [] :: lines r else match lines r with | l :: ls => (b :: l) :: ls | [] => [[b]]
def joinL : List Bs → Bs
  | [] => []
  | [l] => l
  | l :: m :: r => l ++ 10 :: joinL (m :: r)
theorem lines_ne (s : Bs) : lines s ≠ [] := by
  cases s with
  | nil => simp [lines]
  | cons b r => rw [lines]; split; simp; split <;> simp
theorem join_lines (s : Bs) : joinL (lines s) = s := by
  induction s with
  | nil => rfl
  | cons b r ih =>
    rw [lines]
    split
    · rename_i h; subst h
      cases h2 : lines r with
      | nil => exact absurd h2 (lines_ne r)
      | cons l ls => rw [joinL, ← h2, ih]; rfl
    · cases h2 : lines r with
      | nil => exact absurd h2 (lines_ne r)
      | cons l ls =>
        rw [h2] at ih
        simp only []
        cases ls with
        | nil => simp only [joinL] at ih ⊢; rw [ih]
        | cons m ls => simp only [joinL] at ih ⊢; rw [List.cons_append, ih]
def noNl (s : Bs) : Prop := (10 : UInt8) ∉ s
theorem lines_app {a r : Bs} (h : noNl a) : lines (a ++ 10 :: r) = a :: lines r := by
  induction a with
  | nil => simp [lines]
  | cons b a ih =>
    have hb : b ≠ 10 := fun e => h (by simp [e])
    rw [List.cons_append, lines, if_neg hb, ih (fun e => h (by simp [e]))]
theorem lines_noNl {a : Bs} (h : noNl a) : lines a = [a] := by
  induction a with
  | nil => rfl
  | cons b a ih =>
    have hb : b ≠ 10 := fun e => h (by simp [e])
    rw [lines, if_neg hb, ih (fun e => h (by simp [e]))]

/-! ### texts -/
def sgTxt : List Int → Bs
  | [] => []
  | n :: r => 32 :: (Lib.decDigits n.toNat ++ sgTxt r)
def negT : Bool → Bs
  | true => [33]
  | false => []
def fcTxt (f : Fc) : Bs := 32 :: (f.l.txt ++ (negT f.neg ++ 61 :: f.r.txt))
def fsTxt : Bool → List Fc → Bs
  | _, [] => []
  | first, f :: r => (if first = true then [] else [32, 124]) ++ (fcTxt f ++ fsTxt false r)
def sSigns : Bs := [115, 105, 103, 110, 115]
def sClaim : Bs := [99, 108, 97, 105, 109]
def clTxt (c : List Fc) : Bs := sClaim ++ fsTxt true c
def clsTxt : List (List Fc) → Bs
  | [] => []
  | c :: r => clTxt c ++ 10 :: clsTxt r
def loreTxt (ar : List Int) (cs : List (List Fc)) : Bs := sSigns ++ (sgTxt ar ++ 10 :: clsTxt cs)

/-! ### reading -/
def signsL : Nat → Bs → Option (List Int)
  | 0, _ => none
  | f + 1, s => if s = [] then some [] else
    match takeO [32] s with
    | none => none
    | some s1 => match numO s1 with
      | none => none
      | some (n, r) => (signsL f r).map fun l => (n : Int) :: l
def signsO (s : Bs) : Option (List Int) := match takeO sSigns s with | none => none | some r => signsL (r.length + 1) r
def fT (s : Bs) : Nat := 2 * s.length + 2
def notO (s : Bs) : Bool × Bs := match takeO [33] s with
  | none => (false, s)
  | some r => (true, r)
theorem notO_say (s : Bs) : s = negT (notO s).1 ++ (notO s).2 := by
  unfold notO
  cases h : takeO [33] s with
  | none => rfl
  | some r => exact take_say h
theorem notO_33 (r : Bs) : notO (33 :: r) = (true, r) := by unfold notO; rw [take_hit]
theorem notO_61 (r : Bs) : notO (61 :: r) = (false, 61 :: r) := by unfold notO; rw [take_miss (by decide)]
/-- a literal -/
def factO (s : Bs) : Option (Fc × Bs) :=
  match takeO [32] s with
  | none => none
  | some s1 => match termO (fT s1) 1 s1 with
    | none => none
    | some (a, s2) => match takeO [61] (notO s2).2 with
      | none => none
      | some s3 => match termO (fT s3) 1 s3 with
        | none => none
        | some (b, s4) => some (⟨(notO s2).1, a, b⟩, s4)
def gapO (first : Bool) (s : Bs) : Option Bs := if first = true then some s else takeO [32, 124] s
def factsL : Nat → Bool → Bs → Option (List Fc)
  | 0, _, _ => none
  | n + 1, first, s => if s = [] then some [] else
    match gapO first s with
    | none => none
    | some s0 => match factO s0 with
      | none => none
      | some (f, r) => (factsL n false r).map fun l => f :: l
def claimO (s : Bs) : Option (List Fc) := match takeO sClaim s with | none => none | some r => factsL (r.length + 1) true r
/-- the claims of the lines behind the first: none wrong, or the number of the first wrong one -/
def claimsR : Nat → List Bs → Nat ⊕ List (List Fc)
  | i, [] => .inl i
  | i, [l] => if l = [] then .inr [] else .inl i
  | i, l :: m :: r => match claimO l with
    | none => .inl i
    | some c => match claimsR (i + 1) (m :: r) with
      | .inl k => .inl k
      | .inr cs => .inr (c :: cs)
def linesR : List Bs → Nat ⊕ (List Int × List (List Fc))
  | [] => .inl 0
  | [_] => .inl 0
  | l :: m :: r => match signsO l with
    | none => .inl 0
    | some a => match claimsR 1 (m :: r) with
      | .inl k => .inl k
      | .inr cs => .inr (a, cs)
def readR (s : Bs) : (Int × Int) × List Int × List (List Fc) :=
  if 4000 < s.length then ((2, 0), [], []) else
  match linesR (lines s) with
  | .inl k => ((1, k), [], [])
  | .inr (a, cs) => if (loreF a cs).1 = 0 then ((0, 0), a, cs) else (loreF a cs, [], [])
def textR (ar : List Int) (cs : List (List Fc)) : (Int × Int) × Bs :=
  if (loreF ar cs).1 ≠ 0 then (loreF ar cs, []) else if 4000 < (loreTxt ar cs).length then ((10, 0), []) else ((0, 0), loreTxt ar cs)

/-! ### no newline -/
theorem dec_noNl {n : Nat} (h : n ≤ 12) : noNl (Lib.decDigits n) := by
  unfold noNl
  by_cases h1 : n < 10
  · rw [dig_lt h1]; intro e
    have := List.mem_singleton.1 e
    have h2 := congrArg UInt8.toNat this
    rw [toNat_dg (by omega)] at h2
    have : (10 : UInt8).toNat = 10 := rfl
    omega
  · rw [dig_ge (by omega) (by omega)]; intro e
    have h10 : (10 : UInt8).toNat = 10 := rfl
    simp only [List.mem_cons, List.not_mem_nil, or_false] at e
    rcases e with e | e
    · have h2 := congrArg UInt8.toNat e
      rw [toNat_dg (by omega)] at h2; omega
    · have h2 := congrArg UInt8.toNat e
      rw [toNat_dg (by omega)] at h2; omega
theorem noNl_app {a b : Bs} : noNl (a ++ b) ↔ noNl a ∧ noNl b := by unfold noNl; simp [not_or]
theorem noNl_cons {x : UInt8} {b : Bs} : noNl (x :: b) ↔ x ≠ 10 ∧ noNl b := by unfold noNl; simp [not_or, eq_comm]
theorem noNl_nil : noNl [] := by simp [noNl]
mutual
theorem txt_noNl : ∀ t : T, (∀ x ∈ t.pre, okN x) → noNl t.txt
  | .node h ks, h3 => by
    obtain ⟨hn, hks⟩ := okT_node.1 h3
    have hb := hn.1
    unfold badHead at hb
    simp only [T.head] at hb
    rw [T.txt]
    split
    · exact noNl_cons.2 ⟨by decide, dec_noNl (by omega)⟩
    · exact noNl_cons.2 ⟨by decide, noNl_app.2 ⟨dec_noNl (by omega), kids_noNl ks hks⟩⟩
theorem kids_noNl : ∀ ks : List T, okTs ks → noNl (kidsTxt ks)
  | [], _ => noNl_nil
  | k :: r, h => by
    rw [kidsTxt]
    exact noNl_cons.2 ⟨by decide, noNl_app.2 ⟨txt_noNl k (okTs_cons.1 h).1, rest_noNl r (okTs_cons.1 h).2⟩⟩
theorem rest_noNl : ∀ ks : List T, okTs ks → noNl (restTxt ks)
  | [], _ => by rw [restTxt]; exact noNl_cons.2 ⟨by decide, noNl_nil⟩
  | k :: r, h => by
    rw [restTxt]
    exact noNl_cons.2 ⟨by decide, noNl_app.2 ⟨txt_noNl k (okTs_cons.1 h).1, rest_noNl r (okTs_cons.1 h).2⟩⟩
end
theorem size_txt : ∀ n (t : T), t.size ≤ n → (∀ x ∈ t.pre, okN x) → t.size ≤ t.txt.length := by
  intro n
  induction n with
  | zero => intro t h; have := t.size_pos; omega
  | succ n ih =>
    intro t ht h3
    match t, ht, h3 with
    | .node h ks, ht, h3 =>
      obtain ⟨hn, hks⟩ := okT_node.1 h3
      have hb := hn.1; have hkk := hn.2
      unfold badHead at hb; unfold badKids at hkk
      simp only [T.head, T.kids] at hb hkk
      rw [T.size] at ht
      have hrest : ∀ l : List T, sizeL l ≤ n → okTs l → sizeL l + 1 ≤ (restTxt l).length := by
        intro l
        induction l with
        | nil => intro _ _; simp [sizeL, restTxt]
        | cons a l ih2 =>
          intro hl ho
          rw [sizeL] at hl ⊢
          have h1 := ih a (by omega) (okTs_cons.1 ho).1
          have h2 := ih2 (by omega) (okTs_cons.1 ho).2
          rw [restTxt]; simp only [List.length_cons, List.length_append]; omega
      rw [T.size, T.txt]
      split
      · rename_i hneg
        have hkn : ks = [] := by
          cases ks with
          | nil => rfl
          | cons a l => exact absurd (.inr ⟨hneg, by simp⟩) hkk
        subst hkn
        simp [sizeL]
      · have hk : sizeL ks ≤ (kidsTxt ks).length := by
          cases ks with
          | nil => simp [sizeL]
          | cons a l =>
            have h2 := hrest (a :: l) (by omega) hks
            rw [restTxt] at h2
            rw [kidsTxt]; simp only [List.length_cons] at h2 ⊢; omega
        simp only [List.length_cons, List.length_append]; omega

/-! ### literals -/
def okTree (t : T) : Prop := t.deep ≤ 12 ∧ ∀ x ∈ t.pre, okN x
def okFc (f : Fc) : Prop := okTree f.l ∧ okTree f.r
theorem okTree_small {t : T} (h : okTree t) : smallT t := fun x hx => okN_small (h.2 x hx)
theorem term_read {t : T} (h : okTree t) {r : Bs} (hr : follows r) : termO (fT (t.txt ++ r)) 1 (t.txt ++ r) = some (t, r) := by
  refine (write_read _).1 1 t r ?_ (by have := h.1; omega) h.2 hr
  have := size_txt _ t (Nat.le_refl _) h.2
  unfold fT; simp only [List.length_append]; omega
theorem fact_read {f : Fc} (h : okFc f) {r : Bs} (hr : follows r) : factO (fcTxt f ++ r) = some (f, r) := by
  obtain ⟨ng, a, b⟩ := f
  unfold factO fcTxt
  simp only [List.cons_append, List.append_assoc]
  rw [take_hit]
  simp only []
  have hf : follows (negT ng ++ (61 :: (b.txt ++ r))) := by
    intro x hx
    cases ng <;> simp [negT] at hx <;> subst hx <;> decide
  rw [term_read h.1 hf]
  cases ng with
  | true =>
    simp only [negT, List.cons_append, List.nil_append]
    rw [notO_33]
    simp only []
    rw [take_hit]
    simp only []
    rw [term_read h.2 hr]
  | false =>
    simp only [negT, List.nil_append]
    rw [notO_61]
    simp only []
    rw [take_hit]
    simp only []
    rw [term_read h.2 hr]
theorem fact_say {s r : Bs} {f : Fc} (h : factO s = some (f, r)) (hl : smallT f.l) (hr : smallT f.r) : s = fcTxt f ++ r := by
  unfold factO at h
  split at h
  · cases h
  · rename_i s1 h1
    split at h
    · cases h
    · rename_i a s2 h2
      split at h
      · cases h
      · rename_i s3 h3
        split at h
        · cases h
        · rename_i b s4 h4
          obtain ⟨rfl, rfl⟩ := Prod.mk.inj (Option.some.inj h)
          have g1 := take_say h1
          have g2 := (read_say _).1 _ _ _ _ h2 hl
          have g3 := take_say h3
          have g4 := (read_say _).1 _ _ _ _ h4 hr
          have g5 := notO_say s2
          rw [g3, g4] at g5
          unfold fcTxt
          simp only []
          generalize (notO s2).1 = ng at g5 ⊢
          rw [g1, g2, g5]
          simp
theorem fcTxt_ne (f : Fc) : fcTxt f ≠ [] := by unfold fcTxt; simp
theorem follows_nil : follows [] := by intro x hx; simp at hx
theorem follows_facts (fs : List Fc) : follows (fsTxt false fs) := by
  cases fs with
  | nil => exact follows_nil
  | cons f r => intro x hx; simp [fsTxt] at hx; subst hx; decide
theorem facts_read : ∀ (fs : List Fc) (n : Nat) (first : Bool), fs.length + 1 ≤ n → (∀ f ∈ fs, okFc f) → factsL n first (fsTxt first fs) = some fs
  | [], n + 1, first, _, _ => by rw [factsL, if_pos (by simp [fsTxt])]
  | f :: r, n + 1, first, hn, hok => by
    have hne : fsTxt first (f :: r) ≠ [] := by rw [fsTxt]; simp [fcTxt_ne f]
    rw [factsL, if_neg hne]
    have hg : gapO first (fsTxt first (f :: r)) = some (fcTxt f ++ fsTxt false r) := by
      unfold gapO
      cases first with
      | true => simp [fsTxt]
      | false => rw [if_neg (by simp), fsTxt, if_neg (by simp)]; exact take_of [32, 124] _
    rw [hg]
    simp only []
    rw [fact_read (hok f (by simp)) (follows_facts r)]
    simp only []
    rw [facts_read r n false (by simp only [List.length_cons] at hn; omega) (fun g hg => hok g (by simp [hg]))]
    rfl
theorem facts_say : ∀ (n : Nat) (first : Bool) (s : Bs) (fs : List Fc), factsL n first s = some fs → (∀ f ∈ fs, smallT f.l ∧ smallT f.r) → s = fsTxt first fs
  | 0, first, s, fs, h, _ => by simp [factsL] at h
  | n + 1, first, s, fs, h, hs => by
    rw [factsL] at h
    split at h
    · rename_i h0; rw [← Option.some.inj h, h0]; simp [fsTxt]
    · split at h
      · cases h
      · rename_i s0 h0
        split at h
        · cases h
        · rename_i f r h1
          obtain ⟨l, h2, rfl⟩ := Option.map_eq_some_iff.1 h
          have g1 := fact_say h1 (hs f (by simp)).1 (hs f (by simp)).2
          have g2 := facts_say n false r l h2 (fun g hg => hs g (by simp [hg]))
          unfold gapO at h0
          rw [fsTxt]
          cases first with
          | true => rw [if_pos rfl] at h0 ⊢; rw [Option.some.inj h0, g1, g2]; rfl
          | false => rw [if_neg (by simp)] at h0 ⊢; rw [take_say h0, g1, g2]
theorem fsTxt_len : ∀ (fs : List Fc) (first : Bool), fs.length ≤ (fsTxt first fs).length
  | [], _ => by simp [fsTxt]
  | f :: r, first => by
    have := fsTxt_len r false
    rw [fsTxt]; simp only [List.length_append, List.length_cons, fcTxt]; omega
theorem claim_read {c : List Fc} (h : ∀ f ∈ c, okFc f) : claimO (clTxt c) = some c := by
  unfold claimO clTxt
  rw [take_of]
  exact facts_read c _ true (by have := fsTxt_len c true; omega) h
theorem claim_say {s : Bs} {c : List Fc} (h : claimO s = some c) (hs : ∀ f ∈ c, smallT f.l ∧ smallT f.r) : s = clTxt c := by
  unfold claimO at h
  split at h
  · cases h
  · rename_i r h1
    rw [take_say h1, clTxt, ← facts_say _ _ _ _ h hs]

/-! ### signs -/
theorem sgTxt_len : ∀ (l : List Int), l.length ≤ (sgTxt l).length
  | [] => by simp
  | n :: r => by have := sgTxt_len r; rw [sgTxt]; simp only [List.length_append, List.length_cons]; omega
theorem noDig_sg (l : List Int) : noDig (sgTxt l) := by
  cases l with
  | nil => intro x hx; simp [sgTxt] at hx
  | cons n r => intro x hx; simp [sgTxt] at hx; subst hx; decide
theorem signs_read : ∀ (l : List Int) (n : Nat), l.length + 1 ≤ n → (∀ x ∈ l, 0 ≤ x ∧ x ≤ 12) → signsL n (sgTxt l) = some l
  | [], n + 1, _, _ => by rw [signsL, if_pos (by simp [sgTxt])]
  | x :: r, n + 1, hn, h => by
    have hx := h x (by simp)
    rw [signsL, if_neg (by simp [sgTxt])]
    rw [show takeO [32] (sgTxt (x :: r)) = some (Lib.decDigits x.toNat ++ sgTxt r) from take_of [32] _]
    simp only []
    rw [num_dec (by omega) (noDig_sg r)]
    simp only []
    rw [signs_read r n (by simp only [List.length_cons] at hn; omega) (fun y hy => h y (by simp [hy]))]
    simp only [Option.map_some, Option.some.injEq, List.cons.injEq, and_true]
    omega
theorem signs_say : ∀ (n : Nat) (s : Bs) (l : List Int), signsL n s = some l → (∀ x ∈ l, x ≤ 12) → s = sgTxt l
  | 0, s, l, h, _ => by simp [signsL] at h
  | n + 1, s, l, h, hs => by
    rw [signsL] at h
    split at h
    · rename_i h0; rw [← Option.some.inj h, h0]; rfl
    · split at h
      · cases h
      · rename_i s1 h1
        split at h
        · cases h
        · rename_i k r h2
          obtain ⟨l', h3, rfl⟩ := Option.map_eq_some_iff.1 h
          have hk := hs (k : Int) (by simp)
          rw [take_say h1, num_say h2 (by omega), signs_say n r l' h3 (fun y hy => hs y (by simp [hy]))]
          simp [sgTxt]
theorem sg_noNl : ∀ (l : List Int), (∀ x ∈ l, 0 ≤ x ∧ x ≤ 12) → noNl (sgTxt l)
  | [], _ => noNl_nil
  | x :: r, h => by
    have hx := h x (by simp)
    rw [sgTxt]
    exact noNl_cons.2 ⟨by decide, noNl_app.2 ⟨dec_noNl (by omega), sg_noNl r (fun y hy => h y (by simp [hy]))⟩⟩
theorem fc_noNl {f : Fc} (h : okFc f) : noNl (fcTxt f) := by
  unfold fcTxt
  refine noNl_cons.2 ⟨by decide, noNl_app.2 ⟨txt_noNl _ h.1.2, noNl_app.2 ⟨?_, noNl_cons.2 ⟨by decide, txt_noNl _ h.2.2⟩⟩⟩⟩
  cases f.neg
  · exact noNl_nil
  · exact noNl_cons.2 ⟨by decide, noNl_nil⟩
theorem fs_noNl : ∀ (fs : List Fc) (first : Bool), (∀ f ∈ fs, okFc f) → noNl (fsTxt first fs)
  | [], _, _ => noNl_nil
  | f :: r, first, h => by
    rw [fsTxt]
    refine noNl_app.2 ⟨?_, noNl_app.2 ⟨fc_noNl (h f (by simp)), fs_noNl r false (fun g hg => h g (by simp [hg]))⟩⟩
    cases first
    · exact noNl_cons.2 ⟨by decide, noNl_cons.2 ⟨by decide, noNl_nil⟩⟩
    · exact noNl_nil
theorem cl_noNl {c : List Fc} (h : ∀ f ∈ c, okFc f) : noNl (clTxt c) := noNl_app.2 ⟨by unfold noNl sClaim; decide, fs_noNl c true h⟩

/-! ### theories -/
def okLore (ar : List Int) (cs : List (List Fc)) : Prop := (∀ x ∈ ar, 0 ≤ x ∧ x ≤ 3) ∧ ∀ c ∈ cs, ∀ f ∈ c, okFc f
theorem mem_treesF {f : Fc} : ∀ {c : List Fc}, f ∈ c → f.l ∈ treesF c ∧ f.r ∈ treesF c
  | [], h => by cases h
  | g :: r, h => by
    rcases List.mem_cons.1 h with rfl | h
    · simp [treesF]
    · have := mem_treesF h
      simp only [treesF, List.mem_cons]
      exact ⟨.inr (.inr this.1), .inr (.inr this.2)⟩
theorem okLore_of {ar : List Int} {cs : List (List Fc)} (h : (loreF ar cs).1 = 0) : okLore ar cs := by
  obtain ⟨_, _, _, h1, h2⟩ := loreF_zero h
  refine ⟨h1, fun c hc f hf => ?_⟩
  have h3 := (codeF_zero.1 (h2 c hc)).2
  have h4 := mem_treesF hf
  have a := treeF_ok.1 (h3 _ h4.1).1
  have b := treeF_ok.1 (h3 _ h4.2).1
  exact ⟨⟨a.2.1, a.2.2⟩, ⟨b.2.1, b.2.2⟩⟩
theorem lines_cls : ∀ (cs : List (List Fc)), (∀ c ∈ cs, ∀ f ∈ c, okFc f) → ∀ i, lines (clsTxt cs) ≠ [] ∧ (claimsR (i + 1) (lines (clsTxt cs)) = .inr cs)
  | [], _, i => by simp [clsTxt, lines, claimsR]
  | c :: r, h, i => by
    have h1 := lines_cls r (fun c hc => h c (by simp [hc])) (i + 1)
    rw [clsTxt, lines_app (cl_noNl (h c (by simp)))]
    refine ⟨by simp, ?_⟩
    cases hl : lines (clsTxt r) with
    | nil => exact absurd hl h1.1
    | cons m ls =>
      rw [hl] at h1
      rw [claimsR, claim_read (h c (by simp))]
      simp only []
      rw [h1.2]
theorem lore_lines {ar : List Int} {cs : List (List Fc)} (h : okLore ar cs) : linesR (lines (loreTxt ar cs)) = .inr (ar, cs) := by
  have h12 : ∀ x ∈ ar, 0 ≤ x ∧ x ≤ 12 := fun x hx => by have := h.1 x hx; omega
  have e : loreTxt ar cs = (sSigns ++ sgTxt ar) ++ 10 :: clsTxt cs := by unfold loreTxt; simp
  rw [e, lines_app (noNl_app.2 ⟨by unfold noNl sSigns; decide, sg_noNl ar h12⟩)]
  have h1 := lines_cls cs h.2 0
  cases hl : lines (clsTxt cs) with
  | nil => exact absurd hl h1.1
  | cons m ls =>
    rw [hl] at h1
    have hs : signsO (sSigns ++ sgTxt ar) = some ar := by
      unfold signsO
      rw [take_of]
      exact signs_read ar _ (by have := sgTxt_len ar; omega) h12
    rw [linesR, hs]
    simp only []
    rw [h1.2]
theorem claims_say : ∀ (i : Nat) (ls : List Bs) (cs : List (List Fc)), claimsR i ls = .inr cs → (∀ c ∈ cs, ∀ f ∈ c, smallT f.l ∧ smallT f.r) → joinL ls = clsTxt cs
  | i, [], cs, h, _ => by simp [claimsR] at h
  | i, [l], cs, h, _ => by
    rw [claimsR] at h
    split at h
    · rename_i h0; cases h; rw [h0]; rfl
    · cases h
  | i, l :: m :: r, cs, h, hs => by
    rw [claimsR] at h
    split at h
    · cases h
    · rename_i c h1
      split at h
      · cases h
      · rename_i cs' h2
        cases h
        rw [joinL, claims_say (i + 1) (m :: r) cs' h2 (fun c hc => hs c (by simp [hc])), claim_say h1 (hs c (by simp)), clsTxt]
theorem lines_say {ls : List Bs} {ar : List Int} {cs : List (List Fc)} (h : linesR ls = .inr (ar, cs)) (ha : ∀ x ∈ ar, x ≤ 12) (hs : ∀ c ∈ cs, ∀ f ∈ c, smallT f.l ∧ smallT f.r) : joinL ls = loreTxt ar cs := by
  match ls, h with
  | [], h => simp [linesR] at h
  | [l], h => simp [linesR] at h
  | l :: m :: r, h =>
    rw [linesR] at h
    split at h
    · cases h
    · rename_i a h1
      split at h
      · cases h
      · rename_i cs' h2
        cases h
        unfold signsO at h1
        split at h1
        · cases h1
        · rename_i s1 h3
          rw [joinL, claims_say _ _ _ h2 hs, take_say h3, signs_say _ _ _ h1 ha, loreTxt]
          simp
/-- what is written is read -/
theorem text_read {ar : List Int} {cs : List (List Fc)} (h : (textR ar cs).1.1 = 0) : readR (textR ar cs).2 = ((0, 0), ar, cs) := by
  unfold textR at h ⊢
  by_cases h1 : (loreF ar cs).1 ≠ 0
  · rw [if_pos h1] at h; exact absurd h h1
  · rw [if_neg h1] at h ⊢
    by_cases h2 : 4000 < (loreTxt ar cs).length
    · rw [if_pos h2] at h; cases h
    · rw [if_neg h2]
      have h3 : (loreF ar cs).1 = 0 := by simpa using h1
      unfold readR
      simp only []
      rw [if_neg h2, lore_lines (okLore_of h3)]
      simp only []
      rw [if_pos h3]
/-- what is read is written the same -/
theorem read_text {s : Bs} (h : (readR s).1.1 = 0) : textR (readR s).2.1 (readR s).2.2 = ((0, 0), s) := by
  unfold readR at h ⊢
  by_cases h1 : 4000 < s.length
  · rw [if_pos h1] at h; cases h
  · rw [if_neg h1] at h ⊢
    split at h
    · cases h
    · rename_i a cs h2
      by_cases h3 : (loreF a cs).1 = 0
      · rw [if_pos h3]
        have hok := okLore_of h3
        have h4 := lines_say h2 (fun x hx => by have := hok.1 x hx; omega) (fun c hc f hf => ⟨okTree_small (hok.2 c hc f hf).1, okTree_small (hok.2 c hc f hf).2⟩)
        rw [join_lines] at h4
        unfold textR
        simp only []
        rw [if_neg (by simpa using h3), ← h4, if_neg h1]
      · rw [if_neg h3] at h; exact absurd h h3
theorem read_bad {s : Bs} (h : (readR s).1.1 ≠ 0) : (readR s).2 = ([], []) := by
  unfold readR at h ⊢
  by_cases h1 : 4000 < s.length
  · rw [if_pos h1]
  · rw [if_neg h1] at h ⊢
    split
    · rfl
    · rename_i a cs h2
      rw [h2] at h
      by_cases h3 : (loreF a cs).1 = 0
      · simp only [] at h; rw [if_pos h3] at h; exact absurd rfl h
      · rw [if_neg h3]
theorem text_bad {ar : List Int} {cs : List (List Fc)} (h : (textR ar cs).1.1 ≠ 0) : (textR ar cs).2 = [] := by
  unfold textR at h ⊢
  by_cases h1 : (loreF ar cs).1 ≠ 0
  · rw [if_pos h1]
  · rw [if_neg h1] at h ⊢
    by_cases h2 : 4000 < (loreTxt ar cs).length
    · rw [if_pos h2]
    · rw [if_neg h2] at h; exact absurd rfl h
end Go.Proofs.YtidgnbdlfngeaaaDoor
