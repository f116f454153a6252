/-
  Plain: the texts of terms, of clauses and of theories, and how they are read.
-/
import Derived.Test.YtidgnbdlfngeaaaGreatDoorV5
import Derived.Lib.ItoaNum
namespace Go.Proofs.YtidgnbdlfngeaaaGreatDoor
set_option linter.unusedVariables false
abbrev Bs := List UInt8

def isDig (b : UInt8) : Bool := decide (48 ≤ b.toNat) && decide (b.toNat ≤ 57)
def digs (s : Bs) : Bs := s.takeWhile isDig
def valD (ds : Bs) : Nat := ds.foldl (fun n b => n * 10 + (b.toNat - 48)) 0
def numOk (s : Bs) : Bool := decide (1 ≤ (digs s).length) && decide ((digs s).length ≤ 3) && (decide ((digs s).length = 1) || decide (s.head? ≠ some 48))
def numR (s : Bs) : Bs := s.drop (digs s).length
def numO (s : Bs) : Option (Nat × Bs) := if numOk s = true then some (valD (digs s), numR s) else none
def posO (s : Bs) : Option (Nat × Bs) := if numOk s = true ∧ 0 < valD (digs s) then some (valD (digs s), numR s) else none
def takeO (p s : Bs) : Option Bs := if p.isPrefixOf s = true then some (s.drop p.length) else none

mutual
def termO : Nat → Nat → Bs → Option (T × Bs)
  | 0, _, _ => none
  | f + 1, d, s => if 12 < d then none else
    match takeO [120] s with
    | some r => (posO r).map fun x => (.node (-(x.1 : Int)) [], x.2)
    | none => match takeO [115] s with
      | none => none
      | some r => match posO r with
        | none => none
        | some x => match takeO [40] x.2 with
          | some r2 => (kidsO f d r2).map fun y => (.node (x.1 : Int) y.1, y.2)
          | none => some (.node (x.1 : Int) [], x.2)
def kidsO : Nat → Nat → Bs → Option (List T × Bs)
  | 0, _, _ => none
  | f + 1, d, s =>
    match termO f (d + 1) s with
    | none => none
    | some x => match takeO [44] x.2 with
      | some r => (kidsO f d r).map fun y => (x.1 :: y.1, y.2)
      | none => match takeO [41] x.2 with
        | some r => some ([x.1], r)
        | none => none
end

/-! ### texts -/
mutual
def T.txt : T → Bs
  | .node h ks => if h < 0 then 120 :: Lib.decDigits (-h).toNat else 115 :: (Lib.decDigits h.toNat ++ kidsTxt ks)
def kidsTxt : List T → Bs
  | [] => []
  | k :: r => 40 :: (k.txt ++ restTxt r)
def restTxt : List T → Bs
  | [] => [41]
  | k :: r => 44 :: (k.txt ++ restTxt r)
end

/-- the digit of n -/
def dg (n : Nat) : UInt8 := UInt8.ofNat (48 + n)
theorem dig_lt {n : Nat} (h : n < 10) : Lib.decDigits n = [dg n] := by rw [Lib.decDigits, dif_pos h]; rfl
theorem dig_ge {n : Nat} (h : 10 ≤ n) (h2 : n < 100) : Lib.decDigits n = [dg (n / 10), dg (n % 10)] := by
  rw [Lib.decDigits, dif_neg (by omega), dig_lt (by omega)]; rfl
theorem toNat_dg {n : Nat} (h : n < 200) : (dg n).toNat = 48 + n := by
  unfold dg; rw [UInt8.toNat_ofNat']; omega
theorem u8_eq {a b : UInt8} (h : a.toNat = b.toNat) : a = b := UInt8.toNat_inj.1 h
theorem isDig_val {b : UInt8} (h : isDig b = true) : b = dg (b.toNat - 48) ∧ b.toNat - 48 < 10 := by
  unfold isDig at h
  simp only [Bool.and_eq_true, decide_eq_true_eq] at h
  refine ⟨u8_eq ?_, by omega⟩
  rw [toNat_dg (by omega)]; omega

/-- the follow of a number -/
def noDig (r : Bs) : Prop := ∀ x, r.head? = some x → isDig x = false
theorem digs_all (s : Bs) : ∀ x ∈ digs s, isDig x = true := by
  unfold digs
  induction s with
  | nil => intro x hx; cases hx
  | cons a s ih =>
    intro x hx
    rw [List.takeWhile_cons] at hx
    split at hx
    · rename_i h
      rcases List.mem_cons.1 hx with rfl | h2
      · exact h
      · exact ih x h2
    · cases hx
theorem digs_rest (s : Bs) : digs s ++ numR s = s := by
  unfold numR digs
  induction s with
  | nil => rfl
  | cons a s ih =>
    rw [List.takeWhile_cons]
    split
    · simpa using ih
    · rfl
theorem digs_head {s : Bs} {a : UInt8} {r : Bs} (h : digs s = a :: r) : s.head? = some a := by
  have := digs_rest s
  rw [h] at this; rw [← this]; rfl
theorem num_say {s r : Bs} {n : Nat} (h : numO s = some (n, r)) (hn : n ≤ 12) : s = Lib.decDigits n ++ r := by
  unfold numO at h
  split at h
  next h0 =>
    have h1 := Option.some.inj h
    obtain ⟨h2, h3⟩ := Prod.mk.inj h1
    have hs := digs_rest s
    rw [h3] at hs
    rw [← hs]
    congr 1
    have ha := digs_all s
    unfold numOk at h0
    simp only [Bool.and_eq_true, decide_eq_true_eq, Bool.or_eq_true] at h0
    match hd : digs s, h0, ha, h2 with
    | [], h0, _, _ => simp at h0
    | [a], h0, ha, h2 =>
      obtain ⟨e, hl⟩ := isDig_val (ha a (by simp))
      simp [valD] at h2
      rw [← h2, dig_lt hl, ← e]
    | [a, b], h0, ha, h2 =>
      obtain ⟨e, hl⟩ := isDig_val (ha a (by simp))
      obtain ⟨e', hl'⟩ := isDig_val (ha b (by simp))
      have hz : a ≠ 48 := by
        have := h0.2
        rw [digs_head hd] at this
        simpa using this
      have hz2 : a.toNat - 48 ≠ 0 := fun e2 => hz (by rw [e, e2]; rfl)
      simp [valD] at h2
      rw [← h2, dig_ge (by omega) (by omega)]
      have q1 : ((a.toNat - 48) * 10 + (b.toNat - 48)) / 10 = a.toNat - 48 := by omega
      have q2 : ((a.toNat - 48) * 10 + (b.toNat - 48)) % 10 = b.toNat - 48 := by omega
      rw [q1, q2, ← e, ← e']
    | [a, b, c], h0, ha, h2 =>
      obtain ⟨e, hl⟩ := isDig_val (ha a (by simp))
      have hz : a ≠ 48 := by
        have := h0.2
        rw [digs_head hd] at this
        simpa using this
      have hz2 : a.toNat - 48 ≠ 0 := fun e2 => hz (by rw [e, e2]; rfl)
      simp [valD] at h2
      omega
    | a :: b :: c :: d :: l, h0, _, _ => simp at h0
  next => cases h
theorem pos_num {s r : Bs} {n : Nat} (h : posO s = some (n, r)) : numO s = some (n, r) ∧ 0 < n := by
  unfold posO at h
  split at h
  next h0 =>
    have h1 := Option.some.inj h
    refine ⟨?_, ?_⟩
    · unfold numO; rw [if_pos h0.1, h1]
    · have := congrArg Prod.fst h1; simp only [] at this; omega
  next => cases h
theorem take_say {p s r : Bs} (h : takeO p s = some r) : s = p ++ r := by
  unfold takeO at h
  split at h
  next h0 =>
    obtain ⟨t, rfl⟩ := List.isPrefixOf_iff_prefix.1 h0
    rw [← Option.some.inj h]; simp
  next => cases h
theorem take_hit (a : UInt8) (r : Bs) : takeO [a] (a :: r) = some r := by unfold takeO; simp [List.isPrefixOf]
theorem take_miss {a b : UInt8} (h : a ≠ b) (r : Bs) : takeO [a] (b :: r) = none := by unfold takeO; simp [List.isPrefixOf, h]
theorem take_nil (a : UInt8) : takeO [a] [] = none := by unfold takeO; simp [List.isPrefixOf]
theorem take_of (p r : Bs) : takeO p (p ++ r) = some r := by
  unfold takeO
  rw [if_pos (List.isPrefixOf_iff_prefix.2 ⟨r, rfl⟩)]; simp

/-! ### what is read is written so -/
def smallT (t : T) : Prop := ∀ x ∈ t.pre, -12 ≤ x.head ∧ x.head ≤ 12
def smallTs (ks : List T) : Prop := ∀ x ∈ preL ks, -12 ≤ x.head ∧ x.head ≤ 12
theorem smallT_node {h : Int} {ks : List T} : smallT (.node h ks) ↔ (-12 ≤ h ∧ h ≤ 12) ∧ smallTs ks := by
  unfold smallT smallTs
  rw [show (T.node h ks).pre = .node h ks :: preL ks by simp [T.pre]]
  simp [T.head]
theorem smallTs_cons {k : T} {ks : List T} : smallTs (k :: ks) ↔ smallT k ∧ smallTs ks := by
  unfold smallT smallTs
  rw [show preL (k :: ks) = k.pre ++ preL ks by simp [preL]]
  simp only [List.mem_append]
  exact ⟨fun h => ⟨fun x hx => h x (.inl hx), fun x hx => h x (.inr hx)⟩, fun h x hx => hx.elim (h.1 x) (h.2 x)⟩
theorem read_say : ∀ f, (∀ d s t r, termO f d s = some (t, r) → smallT t → s = t.txt ++ r) ∧ (∀ d s ks r, kidsO f d s = some (ks, r) → smallTs ks → 40 :: s = kidsTxt ks ++ r ∧ 44 :: s = restTxt ks ++ r ∧ ks ≠ []) := by
  intro f
  induction f with
  | zero => exact ⟨fun d s t r h => by simp [termO] at h, fun d s ks r h => by simp [kidsO] at h⟩
  | succ f ih =>
    constructor
    · intro d s t r h hs
      rw [termO] at h
      by_cases hd : 12 < d
      · rw [if_pos hd] at h; cases h
      · rw [if_neg hd] at h
        cases hx : takeO [120] s with
        | some r1 =>
          rw [hx] at h
          obtain ⟨⟨n, r2⟩, h1, h2⟩ := Option.map_eq_some_iff.1 h
          obtain ⟨rfl, rfl⟩ := Prod.mk.inj h2
          have hn := (smallT_node.1 hs).1
          obtain ⟨h3, h4⟩ := pos_num h1
          have h5 := num_say h3 (by simp at hn; omega)
          simp only [] at h5 h4 ⊢
          rw [T.txt, if_pos (by omega), take_say hx, h5]
          simp
        | none =>
          rw [hx] at h
          simp only [] at h
          cases hy : takeO [115] s with
          | none => rw [hy] at h; cases h
          | some r1 =>
            rw [hy] at h
            simp only [] at h
            cases h1 : posO r1 with
            | none => rw [h1] at h; cases h
            | some x =>
              obtain ⟨n, r2⟩ := x
              rw [h1] at h
              simp only [] at h
              obtain ⟨h4, h5⟩ := pos_num h1
              cases hz : takeO [40] r2 with
              | some r3 =>
                rw [hz] at h
                obtain ⟨⟨ks, r4⟩, h2, h3⟩ := Option.map_eq_some_iff.1 h
                obtain ⟨rfl, rfl⟩ := Prod.mk.inj h3
                have hn := smallT_node.1 hs
                have h6 := num_say h4 (by omega)
                have h7 := (ih.2 _ _ _ _ h2 hn.2).1
                rw [T.txt, if_neg (by omega), take_say hy, h6, take_say hz]
                simp only [List.cons_append, List.append_assoc, Int.toNat_natCast, List.nil_append]
                rw [← h7]
              | none =>
                rw [hz] at h
                obtain ⟨rfl, rfl⟩ := Prod.mk.inj (Option.some.inj h)
                have hn := smallT_node.1 hs
                have h6 := num_say h4 (by omega)
                rw [T.txt, if_neg (by omega), take_say hy, h6]
                simp [kidsTxt]
    · intro d s ks r h hs
      rw [kidsO] at h
      cases h1 : termO f (d + 1) s with
      | none => rw [h1] at h; cases h
      | some x =>
        obtain ⟨k, r1⟩ := x
        rw [h1] at h
        simp only [] at h
        cases hx : takeO [44] r1 with
        | some r2 =>
          rw [hx] at h
          obtain ⟨⟨ks', r3⟩, h2, h3⟩ := Option.map_eq_some_iff.1 h
          obtain ⟨rfl, rfl⟩ := Prod.mk.inj h3
          obtain ⟨hk, hks⟩ := smallTs_cons.1 hs
          have h4 := ih.1 _ _ _ _ h1 hk
          have h5 := (ih.2 _ _ _ _ h2 hks).2.1
          have h6 := take_say hx
          refine ⟨?_, ?_, by simp⟩
          · rw [kidsTxt, h4, h6]; simp only [List.cons_append, List.append_assoc, List.nil_append]; rw [← h5]
          · rw [restTxt, h4, h6]; simp only [List.cons_append, List.append_assoc, List.nil_append]; rw [← h5]
        | none =>
          rw [hx] at h
          simp only [] at h
          cases hy : takeO [41] r1 with
          | none => rw [hy] at h; cases h
          | some r2 =>
            rw [hy] at h
            obtain ⟨rfl, rfl⟩ := Prod.mk.inj (Option.some.inj h)
            have h4 := ih.1 _ _ _ _ h1 (smallTs_cons.1 hs).1
            have h6 := take_say hy
            refine ⟨?_, ?_, by simp⟩
            · rw [kidsTxt, restTxt, h4, h6]; simp
            · rw [restTxt, restTxt, h4, h6]; simp

/-! ### what is written is read so -/
theorem okN_small {x : T} (h : okN x) : -12 ≤ x.head ∧ x.head ≤ 12 := by
  have := h.1; unfold badHead at this; omega
def okTs (ks : List T) : Prop := ∀ x ∈ preL ks, okN x
theorem okT_node {h : Int} {ks : List T} : (∀ x ∈ (T.node h ks).pre, okN x) ↔ okN (.node h ks) ∧ okTs ks := by
  unfold okTs
  rw [show (T.node h ks).pre = .node h ks :: preL ks by simp [T.pre]]
  simp
theorem okTs_cons {k : T} {ks : List T} : okTs (k :: ks) ↔ (∀ x ∈ k.pre, okN x) ∧ okTs ks := by
  unfold okTs
  rw [show preL (k :: ks) = k.pre ++ preL ks by simp [preL]]
  simp only [List.mem_append]
  exact ⟨fun h => ⟨fun x hx => h x (.inl hx), fun x hx => h x (.inr hx)⟩, fun h x hx => hx.elim (h.1 x) (h.2 x)⟩
end Go.Proofs.YtidgnbdlfngeaaaGreatDoor
