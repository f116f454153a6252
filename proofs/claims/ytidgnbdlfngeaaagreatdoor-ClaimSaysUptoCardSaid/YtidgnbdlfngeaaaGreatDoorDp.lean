/-
  Plain: what the document reads, step by step.
-/
import Derived.Test.YtidgnbdlfngeaaaGreatDoorRd7
import Derived.Test.YtidgnbdlfngeaaaGreatDoorQ3
namespace Go.Proofs.YtidgnbdlfngeaaaGreatDoor
open Go.RowKit Go.Shelf
set_option linter.unusedVariables false

theorem foldl_ge : ∀ (l : Bs) (a : Nat), a ≤ l.foldl (fun n b => n * 10 + (b.toNat - 48)) a
  | [], a => Nat.le_refl _
  | b :: l, a => Nat.le_trans (by omega) (foldl_ge l (a * 10 + (b.toNat - 48)))
theorem posB_iff (s : Bs) : posB s = (decide (1 ≤ (digs s).length) && decide ((digs s).length ≤ 3) && decide (s.head? ≠ some 48)) := by
  unfold posB numOk
  match hd : digs s with
  | [] => simp
  | a :: r =>
    rw [digs_head hd]
    have hge := foldl_ge r (a.toNat - 48)
    obtain ⟨e, hl⟩ := isDig_val (digs_all s a (by rw [hd]; simp))
    by_cases h48 : a = 48
    · subst h48
      cases r with
      | nil => simp [valD]
      | cons b r => simp
    · have h1 : a.toNat ≠ 48 := fun e2 => h48 (u8_eq e2)
      have h2 : a.toNat - 48 ≠ 0 := fun e2 => h48 (by rw [e, e2]; rfl)
      have h3 : 0 < valD (a :: r) := by unfold valD; simp only [List.foldl_cons, Nat.zero_mul, Nat.zero_add]; omega
      simp [h3, h48]
/-- how many digits the document reads -/
def dN (s : Bs) : Nat := min 4 (digs s).length
theorem valD_snoc (l : Bs) (a : UInt8) : valD (l ++ [a]) = valD l * 10 + (a.toNat - 48) := by unfold valD; simp
theorem take_snoc {s : Bs} {k : Nat} (h : k < s.length) : s.take (k + 1) = s.take k ++ [s[k]] := by simp
theorem valD_take {s : Bs} : ∀ {k : Nat}, k ≤ (digs s).length → valD (s.take k) + 1 ≤ 10 ^ k
  | 0, _ => by simp [valD]
  | k + 1, h => by
    have h1 := digs_le s
    have h2 := valD_take (s := s) (k := k) (by omega)
    have h3 := digs_in (s := s) (k := k) (by omega)
    have hk : k < s.length := by omega
    rw [show s.getD k 0 = s[k] by simp [List.getD, hk]] at h3
    obtain ⟨_, h4⟩ := isDig_val h3
    rw [take_snoc hk, valD_snoc, Nat.pow_succ]
    omega
theorem dN_pos {s : Bs} (h : posB s = true) : dN s = (digs s).length ∧ valD (s.take (dN s)) = valD (digs s) ∧ s.drop (dN s) = numR s := by
  have h1 := posB_num h
  unfold numOk at h1
  simp only [Bool.and_eq_true, decide_eq_true_eq] at h1
  have h2 : dN s = (digs s).length := by unfold dN; omega
  exact ⟨h2, by rw [h2, digs_take], by rw [h2]; rfl⟩
theorem dN_le (s : Bs) : dN s ≤ s.length := by have := digs_le s; unfold dN; omega

/-! ### trees -/
theorem termQ.bad {d : Nat} {s : Bs} {t : T} {r : Bs} (hd : d ≤ 12) (hx : tkB [120] s = false) (hy : tkB [115] s = true) (hp : posB (tkR [115] s) = false) : termQ d s true t r false :=
  ⟨(fun h => by cases h), (fun _ _ f hf => by
    match f, hf with
    | f + 1, _ =>
      rw [termO]
      split
      · rfl
      · rw [tk_eq, if_neg (by rw [hx]; simp)]
        simp only []
        rw [tk_eq, if_pos hy]
        simp only []
        rw [posO_eq, if_neg (by rw [hp]; simp)])⟩
theorem tkB_cons (a b : UInt8) (r : Bs) : tkB [a] (b :: r) = decide (a = b) := by
  unfold tkB
  by_cases h : a = b
  · subst h; rw [take_hit]; simp
  · rw [take_miss h]; simp [h]
theorem tkB_nil (a : UInt8) : tkB [a] [] = false := by unfold tkB; rw [take_nil]; rfl
theorem tkR_cons (a : UInt8) (r : Bs) : tkR [a] (a :: r) = r := by unfold tkR; rw [take_hit]; rfl

/-! ### claims, signs -/
def facI (s : Bs) (fs : List Fc) (r : Bs) : Prop := ∃ f, r.length + 1 ≤ f ∧ factsL (s.length + 1) true s = (factsL f fs.isEmpty r).map fun l => fs ++ l
theorem facI.start (s : Bs) : facI s [] s := ⟨_, Nat.le_refl _, by cases h : factsL (s.length + 1) true s <;> simp [h]⟩
theorem facI.fin {s : Bs} {fs : List Fc} (h : facI s fs []) : factsL (s.length + 1) true s = some fs := by
  obtain ⟨f, hf, e⟩ := h
  match f, hf with
  | f + 1, _ => rw [e, factsL, if_pos rfl]; simp
theorem facI.noGap {s r : Bs} {fs : List Fc} (h : facI s fs r) (hr : r ≠ []) (hg : gpB fs.isEmpty r = false) : factsL (s.length + 1) true s = none := by
  obtain ⟨f, hf, e⟩ := h
  match f, hf with
  | f + 1, _ => rw [e, factsL, if_neg hr, gapO_eq, if_neg (by rw [hg]; simp)]; rfl
theorem facI.noFact {s r : Bs} {fs : List Fc} (h : facI s fs r) (hr : r ≠ []) (hg : factO (gpR fs.isEmpty r) = none) : factsL (s.length + 1) true s = none := by
  obtain ⟨f, hf, e⟩ := h
  match f, hf with
  | f + 1, _ =>
    rw [e, factsL, if_neg hr, gapO_eq]
    by_cases hb : gpB fs.isEmpty r = true
    · rw [if_pos hb]
      simp only []
      rw [hg]; rfl
    · rw [if_neg hb]; rfl
theorem facI.go {s r r2 : Bs} {fs : List Fc} {x : Fc} (h : facI s fs r) (hr : r ≠ []) (hb : gpB fs.isEmpty r = true) (hg : factO (gpR fs.isEmpty r) = some (x, r2)) (hle : r2.length + 1 ≤ r.length) : facI s (fs ++ [x]) r2 := by
  obtain ⟨f, hf, e⟩ := h
  match f, hf with
  | f + 1, hf =>
    have hem : (fs ++ [x]).isEmpty = false := by simp
    refine ⟨f, by omega, ?_⟩
    rw [e, factsL, if_neg hr, gapO_eq, if_pos hb]
    simp only []
    rw [hg, hem]
    simp only []
    cases factsL f false r2 <;> simp
def sgI (s : Bs) (ns : List Int) (r : Bs) : Prop := ∃ f, r.length + 1 ≤ f ∧ signsL (s.length + 1) s = (signsL f r).map fun l => ns ++ l
theorem sgI.start (s : Bs) : sgI s [] s := ⟨_, Nat.le_refl _, by cases h : signsL (s.length + 1) s <;> simp [h]⟩
theorem sgI.fin {s : Bs} {ns : List Int} (h : sgI s ns []) : signsL (s.length + 1) s = some ns := by
  obtain ⟨f, hf, e⟩ := h
  match f, hf with
  | f + 1, _ => rw [e, signsL, if_pos rfl]; simp
theorem sgI.noGap {s r : Bs} {ns : List Int} {a : UInt8} (h : sgI s ns (a :: r)) (ha : a ≠ 32) : signsL (s.length + 1) s = none := by
  obtain ⟨f, hf, e⟩ := h
  match f, hf with
  | f + 1, _ => rw [e, signsL, if_neg (by simp), take_miss (fun e => ha e.symm)]; rfl
theorem sgI.noNum {s r : Bs} {ns : List Int} (h : sgI s ns (32 :: r)) (hn : numOk r = false) : signsL (s.length + 1) s = none := by
  obtain ⟨f, hf, e⟩ := h
  match f, hf with
  | f + 1, _ =>
    rw [e, signsL, if_neg (by simp), take_hit]
    simp only [numO]
    rw [if_neg (by rw [hn]; simp)]; rfl
theorem sgI.go {s r : Bs} {ns : List Int} (h : sgI s ns (32 :: r)) (hn : numOk r = true) : sgI s (ns ++ [(valD (digs r) : Int)]) (numR r) := by
  obtain ⟨f, hf, e⟩ := h
  match f, hf with
  | f + 1, hf =>
    have := numR_le r
    simp only [List.length_cons] at hf
    refine ⟨f, by omega, ?_⟩
    rw [e, signsL, if_neg (by simp), take_hit]
    simp only [numO]
    rw [if_pos hn]
    simp only []
    cases signsL f (numR r) <;> simp
/-- a nought: alone it is read, ahead of a digit nothing is -/
theorem nought (r : Bs) : (noDig r → numOk (48 :: r) = true ∧ digs (48 :: r) = [48] ∧ numR (48 :: r) = r) ∧ (¬ noDig r → numOk (48 :: r) = false) := by
  have hd : digs (48 :: r) = 48 :: digs r := by unfold digs; rw [List.takeWhile_cons, if_pos (by decide)]
  refine ⟨fun h => ?_, fun h => ?_⟩
  · have h2 : digs r = [] := by
      cases r with
      | nil => rfl
      | cons a r => unfold digs; rw [List.takeWhile_cons, if_neg (by rw [h a rfl]; simp)]
    refine ⟨?_, by rw [hd, h2], ?_⟩
    · unfold numOk; rw [hd, h2]; simp
    · unfold numR; rw [hd, h2]; simp
  · cases r with
    | nil => exact absurd (fun x hx => by simp at hx) h
    | cons a r =>
      have ha : isDig a = true := by
        cases h2 : isDig a with
        | true => rfl
        | false => exact absurd (fun x hx => by simp at hx; subst hx; exact h2) h
      unfold numOk
      rw [hd]
      have : digs (a :: r) = a :: digs r := by unfold digs; rw [List.takeWhile_cons, if_pos ha]
      rw [this]; simp
theorem num_pos {s : Bs} {a : UInt8} {r : Bs} (hs : s = a :: r) (ha : a ≠ 48) : numOk s = posB s := by
  subst hs
  rw [posB_iff]
  unfold numOk
  simp [ha]
theorem num_nil : numOk [] = false := by decide

/-! ### lines -/
theorem take_len {p s : Bs} (h : s.length < p.length) : takeO p s = none := by
  unfold takeO
  rw [if_neg (fun h2 => by
    obtain ⟨t, ht⟩ := List.isPrefixOf_iff_prefix.1 h2
    have := congrArg List.length ht
    rw [List.length_append] at this; omega)]
theorem take_pre {p s : Bs} (h : p.length ≤ s.length) : takeO p s = if s.take p.length = p then some (s.drop p.length) else none := by
  unfold takeO
  by_cases h2 : s.take p.length = p
  · rw [if_pos h2, if_pos]
    exact List.isPrefixOf_iff_prefix.2 (List.prefix_iff_eq_take.2 h2.symm)
  · rw [if_neg h2, if_neg]
    exact fun h3 => h2 (List.prefix_iff_eq_take.1 (List.isPrefixOf_iff_prefix.1 h3)).symm
theorem signsO_of {s : Bs} : (s.length < 5 → signsO s = none) ∧ (5 ≤ s.length → s.take 5 ≠ sSigns → signsO s = none) ∧ (5 ≤ s.length → s.take 5 = sSigns → signsO s = signsL ((s.drop 5).length + 1) (s.drop 5)) := by
  refine ⟨fun h => ?_, fun h h2 => ?_, fun h h2 => ?_⟩
  · unfold signsO; rw [take_len (by simpa [sSigns] using h)]
  · unfold signsO; rw [take_pre (by simpa [sSigns] using h), if_neg (by simpa [sSigns] using h2)]
  · unfold signsO; rw [take_pre (by simpa [sSigns] using h), if_pos (by simpa [sSigns] using h2)]; rfl
theorem claimO_of {s : Bs} : (s.length < 5 → claimO s = none) ∧ (5 ≤ s.length → s.take 5 ≠ sClaim → claimO s = none) ∧ (5 ≤ s.length → s.take 5 = sClaim → claimO s = factsL ((s.drop 5).length + 1) true (s.drop 5)) := by
  refine ⟨fun h => ?_, fun h h2 => ?_, fun h h2 => ?_⟩
  · unfold claimO; rw [take_len (by simpa [sClaim] using h)]
  · unfold claimO; rw [take_pre (by simpa [sClaim] using h), if_neg (by simpa [sClaim] using h2)]
  · unfold claimO; rw [take_pre (by simpa [sClaim] using h), if_pos (by simpa [sClaim] using h2)]; rfl
/-- where the next newline stands, or the end -/
def nlN (s : Bs) : Nat := (s.takeWhile fun b => decide (b ≠ 10)).length
theorem nlN_le (s : Bs) : nlN s ≤ s.length := by
  unfold nlN
  exact (List.takeWhile_prefix _).length_le
theorem nlN_in : ∀ {s : Bs} {k : Nat}, k < nlN s → s.getD k 0 ≠ 10
  | [], k, h => by simp [nlN] at h
  | a :: s, k, h => by
    unfold nlN at h
    rw [List.takeWhile_cons] at h
    split at h
    next ha =>
      cases k with
      | zero => simpa [List.getD] using ha
      | succ k =>
        have := nlN_in (s := s) (k := k) (by unfold nlN; simpa using h)
        simpa [List.getD] using this
    next => simp at h
theorem nlN_out : ∀ {s : Bs}, nlN s < s.length → s.getD (nlN s) 0 = 10
  | [], h => by simp at h
  | a :: s, h => by
    unfold nlN at h ⊢
    rw [List.takeWhile_cons] at h ⊢
    split at h
    next ha =>
      rw [if_pos ha]
      simp only [List.length_cons, Nat.add_lt_add_iff_right] at h
      have h2 := nlN_out (s := s) h
      unfold nlN at h2
      simpa [List.getD] using h2
    next ha =>
      rw [if_neg ha]
      simpa [List.getD] using ha
theorem nlN_noNl (s : Bs) : noNl (s.take (nlN s)) := by
  unfold noNl
  intro h
  obtain ⟨k, hk, e⟩ := List.getElem_of_mem h
  have h1 : k < nlN s := by rw [List.length_take] at hk; omega
  have h2 : k < s.length := by rw [List.length_take] at hk; omega
  refine nlN_in h1 ?_
  rw [← e]; simp [List.getD, h2]
theorem nlN_lines {s : Bs} : (nlN s < s.length → lines s = s.take (nlN s) :: lines (s.drop (nlN s + 1))) ∧ (¬ nlN s < s.length → lines s = [s]) := by
  refine ⟨fun h => ?_, fun h => ?_⟩
  · have h1 := nlN_out h
    have h2 : s = s.take (nlN s) ++ 10 :: s.drop (nlN s + 1) := by
      conv => lhs; rw [← List.take_append_drop (nlN s) s]
      rw [List.drop_eq_getElem_cons h]
      congr 2
      simpa [List.getD, h] using h1
    conv => lhs; rw [h2]
    rw [lines_app (nlN_noNl s)]
  · have h1 := nlN_noNl s
    rw [List.take_of_length_le (by have := nlN_le s; omega)] at h1
    exact lines_noNl h1
/-- behind i lines, at a place of the text -/
structure atI (s : Bs) (i fr : Nat) (ar : List Int) (cs : List (List Fc)) : Prop where
  le : fr ≤ s.length
  ln : (lines s).drop i = lines (s.drop fr)
  rd : readI (lines s) i ar cs
theorem atI.start (s : Bs) : atI s 0 0 [] [] := ⟨Nat.zero_le _, rfl, readI.start _⟩
theorem atI.lt {s : Bs} {i fr : Nat} {ar : List Int} {cs : List (List Fc)} (h : atI s i fr ar cs) : i < (lines s).length := by
  have h1 := congrArg List.length h.ln
  have h2 := (lines_len (s.drop fr)).1
  rw [List.length_drop] at h1; omega
theorem atI.last {s : Bs} {i fr : Nat} {ar : List Int} {cs : List (List Fc)} (h : atI s i fr ar cs) (he : ¬ nlN (s.drop fr) < (s.drop fr).length) :
    i + 1 = (lines s).length ∧ ∃ hi : i < (lines s).length, (lines s)[i] = s.drop fr := by
  have h1 := h.ln
  rw [nlN_lines.2 he] at h1
  have h2 := congrArg List.length h1
  rw [List.length_drop] at h2
  have hi := h.lt
  rw [drop_one hi] at h1
  exact ⟨by simp at h2; omega, hi, (List.cons.inj h1).1⟩
/-- the end -/
theorem atI.fin {s : Bs} {i : Nat} {ar : List Int} {cs : List (List Fc)} (h : atI s i s.length ar cs) : (0 < i → linesR (lines s) = .inr (ar, cs)) ∧ (i = 0 → linesR (lines s) = .inl 0) := by
  obtain ⟨h1, hi, h2⟩ := h.last (by simp)
  rw [List.drop_length] at h2
  have h3 := h.rd.last hi h1
  refine ⟨fun h0 => ?_, fun h0 => ?_⟩
  · exact (h3.1 ⟨h2, h0⟩).2.2 (by omega) h1
  · have := h3.2 (fun e => by omega); rw [this, h0]
/-- a line without its newline -/
theorem atI.open {s : Bs} {i fr : Nat} {ar : List Int} {cs : List (List Fc)} (h : atI s i fr ar cs) (hlt : fr < s.length) (he : ¬ nlN (s.drop fr) < (s.drop fr).length) : linesR (lines s) = .inl i := by
  obtain ⟨h1, hi, h2⟩ := h.last he
  refine (h.rd.last hi h1).2 (fun e => ?_)
  have := congrArg List.length (h2.symm.trans e.1)
  rw [List.length_drop] at this; simp at this; omega
theorem atI.line {s : Bs} {i fr : Nat} {ar : List Int} {cs : List (List Fc)} (h : atI s i fr ar cs) (he : nlN (s.drop fr) < (s.drop fr).length) :
    i + 1 < (lines s).length ∧ (lines s).drop (i + 1) = lines (s.drop (fr + nlN (s.drop fr) + 1)) ∧ ∃ hi : i < (lines s).length, (lines s)[i] = (s.drop fr).take (nlN (s.drop fr)) := by
  have h1 := h.ln
  rw [nlN_lines.1 he] at h1
  have hi := h.lt
  rw [drop_one hi] at h1
  obtain ⟨h2, h3⟩ := List.cons.inj h1
  have h4 := congrArg List.length h3
  have h5 := (lines_len ((s.drop fr).drop (nlN (s.drop fr) + 1))).1
  rw [List.length_drop] at h4
  refine ⟨by omega, ?_, hi, h2⟩
  rw [h3, List.drop_drop]
  congr 2
theorem atI.first {s : Bs} {fr : Nat} {ar : List Int} {cs : List (List Fc)} (h : atI s 0 fr ar cs) (he : nlN (s.drop fr) < (s.drop fr).length) :
    (∀ a, signsO ((s.drop fr).take (nlN (s.drop fr))) = some a → atI s 1 (fr + nlN (s.drop fr) + 1) a []) ∧ (signsO ((s.drop fr).take (nlN (s.drop fr))) = none → linesR (lines s) = .inl 0) := by
  obtain ⟨h1, h2, hi, h3⟩ := h.line he
  obtain ⟨rfl, rfl⟩ := h.rd.1 rfl
  have h4 := h.rd.first h1
  rw [h3] at h4
  refine ⟨fun a ha => ⟨?_, h2, h4.1 a ha⟩, h4.2⟩
  rw [List.length_drop] at he; omega
theorem atI.mid {s : Bs} {i fr : Nat} {ar : List Int} {cs : List (List Fc)} (h : atI s i fr ar cs) (h0 : 0 < i) (he : nlN (s.drop fr) < (s.drop fr).length) :
    (∀ c, claimO ((s.drop fr).take (nlN (s.drop fr))) = some c → atI s (i + 1) (fr + nlN (s.drop fr) + 1) ar (cs ++ [c])) ∧ (claimO ((s.drop fr).take (nlN (s.drop fr))) = none → linesR (lines s) = .inl i) := by
  obtain ⟨h1, h2, hi, h3⟩ := h.line he
  have h4 := h.rd.mid h1 h0
  rw [h3] at h4
  refine ⟨fun c hc => ⟨?_, h2, h4.1 c hc⟩, h4.2⟩
  rw [List.length_drop] at he; omega
end Go.Proofs.YtidgnbdlfngeaaaGreatDoor
