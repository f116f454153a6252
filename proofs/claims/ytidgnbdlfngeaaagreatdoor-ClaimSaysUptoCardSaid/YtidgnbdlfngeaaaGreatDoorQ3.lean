/-
  Plain: the lines of a text, as strings.Split has them; the walk over them.
-/
import Derived.Test.YtidgnbdlfngeaaaGreatDoorQ2
import Derived.Lib.Split
namespace Go.Proofs.YtidgnbdlfngeaaaGreatDoor
set_option linter.unusedVariables false

theorem index10 : ∀ (s : Bs), (Lib.index s [10] = -1 → noNl s) ∧ (∀ i : Nat, Lib.index s [10] = i → s = s.take i ++ 10 :: s.drop (i + 1) ∧ noNl (s.take i))
  | [] => ⟨fun _ => noNl_nil, fun i h => by simp [Lib.index] at h⟩
  | b :: l => by
    have ih := index10 l
    have hge := Lib.index_ge l [10]
    by_cases hb : b = 10
    · subst hb
      have e : Lib.index (10 :: l) [10] = 0 := by simp [Lib.index, List.isPrefixOf]
      rw [e]
      refine ⟨(fun h => by cases h), fun i h => ?_⟩
      have hi : i = 0 := by omega
      subst hi
      exact ⟨by simp, by simp [noNl]⟩
    · have e : Lib.index (b :: l) [10] = if Lib.index l [10] = -1 then -1 else Lib.index l [10] + 1 := by
        have hb2 : (10 : UInt8) ≠ b := fun e => hb e.symm
        simp [Lib.index, List.isPrefixOf, hb2]
      rw [e]
      by_cases h1 : Lib.index l [10] = -1
      · rw [if_pos h1]
        exact ⟨fun _ => noNl_cons.2 ⟨hb, ih.1 h1⟩, fun i h => by omega⟩
      · rw [if_neg h1]
        refine ⟨fun h => by omega, fun i h => ?_⟩
        match i, h with
        | 0, h => omega
        | i + 1, h =>
          have h2 := ih.2 i (by omega)
          refine ⟨?_, ?_⟩
          · rw [List.take_succ_cons, List.drop_succ_cons, List.cons_append, ← h2.1]
          · rw [List.take_succ_cons]; exact noNl_cons.2 ⟨hb, h2.2⟩
theorem lines_split : ∀ (n : Nat) (s : Bs), s.length < n → Lib.splitK [10] 0 (Lib.count s [10]) s = lines s
  | 0, s, h => by omega
  | n + 1, s, h => by
    have h1 := index10 s
    have hge := Lib.index_ge s [10]
    by_cases hm : Lib.index s [10] = -1
    · rw [Lib.count_miss hm, Lib.splitK, lines_noNl (h1.1 hm)]
    · obtain ⟨i, hi⟩ : ∃ i : Nat, Lib.index s [10] = i := ⟨(Lib.index s [10]).toNat, by omega⟩
      obtain ⟨h2, h3⟩ := h1.2 i hi
      have hl : i < s.length := by
        have := congrArg List.length h2
        simp only [List.length_append, List.length_take, List.length_cons, List.length_drop] at this
        omega
      rw [Lib.count_hit (by simp) hi, Nat.add_comm, Lib.splitK, if_neg (by rw [beq_iff_eq]; omega), hi]
      simp only [Int.toNat_natCast, Nat.add_zero, List.length_cons, List.length_nil, Nat.zero_add]
      rw [lines_split n (s.drop (i + 1)) (by rw [List.length_drop]; omega)]
      conv => rhs; rw [h2]
      rw [lines_app h3]
theorem splitB_lines (s : Bs) : (Lib.splitB ⟨#[10]⟩ 0 (Lib.countB ⟨s.toArray⟩ ⟨#[10]⟩) ⟨s.toArray⟩).map Value.string = (lines s).map fun l => Value.string ⟨l.toArray⟩ := by
  have h := Lib.splitB_data ⟨#[10]⟩ 0 (Lib.countB ⟨s.toArray⟩ ⟨#[10]⟩) ⟨s.toArray⟩
  have e : Lib.splitK (⟨#[10]⟩ : ByteArray).data.toList 0 (Lib.countB ⟨s.toArray⟩ ⟨#[10]⟩) (⟨s.toArray⟩ : ByteArray).data.toList = lines s := by
    have := lines_split (s.length + 1) s (by omega)
    simpa using this
  rw [e] at h
  rw [← h, List.map_map]
  apply List.map_congr_left
  intro x _
  simp
theorem lines_len (s : Bs) : 1 ≤ (lines s).length ∧ (lines s).length ≤ s.length + 1 ∧ ∀ l ∈ lines s, l.length ≤ s.length := by
  induction s with
  | nil => simp [lines]
  | cons b r ih =>
    rw [lines]
    split
    · refine ⟨by simp, by simp; omega, fun l hl => ?_⟩
      rcases List.mem_cons.1 hl with rfl | h
      · simp
      · have := ih.2.2 l h; simp; omega
    · cases h : lines r with
      | nil => simp
      | cons m ls =>
        rw [h] at ih
        simp only []
        refine ⟨by simp, by simp at ih ⊢; omega, fun l hl => ?_⟩
        rcases List.mem_cons.1 hl with rfl | h2
        · have := ih.2.2 m (by simp); simp; omega
        · have := ih.2.2 l (by simp [h2]); simp; omega

def glue (ar : List Int) (cs : List (List Fc)) : Nat ⊕ List (List Fc) → Nat ⊕ (List Int × List (List Fc))
  | .inl k => .inl k
  | .inr c2 => .inr (ar, cs ++ c2)
/-- behind i lines that are right -/
def readI (L : List Bs) (i : Nat) (ar : List Int) (cs : List (List Fc)) : Prop :=
  (i = 0 → ar = [] ∧ cs = []) ∧ (0 < i → i < L.length → linesR L = glue ar cs (claimsR i (L.drop i))) ∧ (0 < i → i = L.length → linesR L = .inr (ar, cs))
theorem readI.start (L : List Bs) : readI L 0 [] [] := ⟨fun _ => ⟨rfl, rfl⟩, fun h => by omega, fun h => by omega⟩
theorem drop_one {α : Type} {L : List α} {i : Nat} (h : i < L.length) : L.drop i = L[i] :: L.drop (i + 1) := List.drop_eq_getElem_cons h
theorem readI.last {L : List Bs} {i : Nat} {ar : List Int} {cs : List (List Fc)} (h : readI L i ar cs) (hi : i < L.length) (hl : i + 1 = L.length) :
    (L[i] = [] ∧ 0 < i → readI L (i + 1) ar cs) ∧ (¬ (L[i] = [] ∧ 0 < i) → linesR L = .inl i) := by
  by_cases h0 : 0 < i
  · have h1 := h.2.1 h0 hi
    rw [drop_one hi, show L.drop (i + 1) = [] from List.drop_eq_nil_of_le (by omega), claimsR] at h1
    refine ⟨fun hx => ⟨fun h => by omega, fun _ h => by omega, fun _ _ => ?_⟩, fun hx => ?_⟩
    · rw [if_pos hx.1] at h1; rw [h1, glue]; simp
    · rw [if_neg (fun e => hx ⟨e, h0⟩)] at h1; rw [h1]; rfl
  · have h00 : i = 0 := by omega
    subst h00
    refine ⟨fun hx => absurd hx.2 (by omega), fun _ => ?_⟩
    match L, hl with
    | [x], _ => rfl
theorem readI.first {L : List Bs} {ar : List Int} {cs : List (List Fc)} (h : readI L 0 ar cs) (hl : 1 < L.length) :
    (∀ a, signsO (L[0]) = some a → readI L 1 a []) ∧ (signsO (L[0]) = none → linesR L = .inl 0) := by
  match L, hl with
  | l :: m :: r, _ =>
    refine ⟨fun a ha => ⟨fun h => by omega, fun _ _ => ?_, fun _ h => by simp at h⟩, fun hn => ?_⟩
    · simp only [List.getElem_cons_zero] at ha
      rw [linesR, ha]
      simp only [List.drop_succ_cons, List.drop_zero]
      cases claimsR 1 (m :: r) <;> simp [glue]
    · simp only [List.getElem_cons_zero] at hn
      rw [linesR, hn]
theorem readI.mid {L : List Bs} {i : Nat} {ar : List Int} {cs : List (List Fc)} (h : readI L i ar cs) (hi : i + 1 < L.length) (h0 : 0 < i) :
    (∀ c, claimO (L[i]) = some c → readI L (i + 1) ar (cs ++ [c])) ∧ (claimO (L[i]) = none → linesR L = .inl i) := by
  have h1 := h.2.1 h0 (by omega)
  rw [drop_one (by omega : i < L.length), drop_one hi, claimsR] at h1
  refine ⟨fun c hc => ⟨fun h => by omega, fun _ _ => ?_, fun _ h => by omega⟩, fun hn => ?_⟩
  · rw [hc] at h1
    simp only [] at h1
    rw [h1, ← drop_one hi]
    cases claimsR (i + 1) (L.drop (i + 1)) <;> simp [glue]
  · rw [hn] at h1; rw [h1]; rfl
end Go.Proofs.YtidgnbdlfngeaaaGreatDoor
