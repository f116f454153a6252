/-
  Plain: jobs, waits, the earliest starts, what is least.
-/
import Derived.Test.YtacaakcpkgipfaaProg
namespace Go.Proofs.Ytacaakcpkgipfaa
set_option linter.unusedVariables false
set_option maxHeartbeats 400000

/-- a job: how long, its machine, not ahead of -/
structure Jb where
  long : Int
  mach : Int
  from_ : Int
/-- b does not begin ahead of by behind a's beginning -/
structure Wt where
  a : Nat
  b : Nat
  by_ : Int
def gT (l : List Int) (i : Nat) : Int := l.getD i 0
theorem gT_get {l : List Int} {i : Nat} (h : i < l.length) : gT l i = l[i] := by simp [gT, List.getD_eq_getElem?_getD, h]
theorem gT_set_same {l : List Int} {i : Nat} {v : Int} (h : i < l.length) : gT (l.set i v) i = v := by simp [gT, List.getD_eq_getElem?_getD, h]
theorem gT_set_other {l : List Int} {i j : Nat} {v : Int} (h : i ≠ j) : gT (l.set i v) j = gT l j := by simp [gT, List.getD_eq_getElem?_getD, List.getElem?_set_ne h]
def Feas (fr : List Int) (ws : List Wt) (s : List Int) : Prop := s.length = fr.length ∧ (∀ i, i < fr.length → gT fr i ≤ gT s i) ∧ ∀ w ∈ ws, gT s w.a + w.by_ ≤ gT s w.b
def inW (n : Nat) (ws : List Wt) : Prop := ∀ w ∈ ws, w.a < n ∧ w.b < n
/-- one round over the waits -/
def relaxL : List Wt → List Int → Bool → List Int × Bool
  | [], o, c => (o, c)
  | w :: r, o, c => if gT o w.b < gT o w.a + w.by_ then relaxL r (o.set w.b (gT o w.a + w.by_)) true else relaxL r o c
def roundsL (ws : List Wt) : Nat → List Int → Option (List Int)
  | 0, _ => none
  | k + 1, o => if (relaxL ws o false).2 = true then roundsL ws k (relaxL ws o false).1 else some (relaxL ws o false).1
def earliestF (fr : List Int) (ws : List Wt) : Option (List Int) := roundsL ws (fr.length + 1) fr

theorem relaxL_snoc (w : Wt) : ∀ (r : List Wt) (o : List Int) (c : Bool), relaxL (r ++ [w]) o c = (fun p : List Int × Bool => if gT p.1 w.b < gT p.1 w.a + w.by_ then (p.1.set w.b (gT p.1 w.a + w.by_), true) else p) (relaxL r o c)
  | [], o, c => by
    simp only [List.nil_append, relaxL]
    rfl
  | x :: r, o, c => by
    simp only [List.cons_append, relaxL]
    split
    · exact relaxL_snoc w r _ _
    · exact relaxL_snoc w r _ _
theorem relaxL_len : ∀ (r : List Wt) (o : List Int) (c : Bool), (relaxL r o c).1.length = o.length
  | [], o, c => rfl
  | x :: r, o, c => by
    simp only [relaxL]
    split
    · rw [relaxL_len r]; simp
    · exact relaxL_len r o c
/-- starts only grow -/
theorem relaxL_up : ∀ (r : List Wt) (o : List Int) (c : Bool), inW o.length r → ∀ i, i < o.length → gT o i ≤ gT (relaxL r o c).1 i
  | [], o, c, _, i, _ => Int.le_refl _
  | x :: r, o, c, h, i, hi => by
    simp only [relaxL]
    have hx := h x (List.mem_cons_self ..)
    split
    · rename_i hlt
      have h1 := relaxL_up r (o.set x.b (gT o x.a + x.by_)) true (fun w hw => by rw [List.length_set]; exact h w (List.mem_cons_of_mem _ hw)) i (by simpa using hi)
      refine Int.le_trans ?_ h1
      by_cases hb : x.b = i
      · subst hb; rw [gT_set_same hx.2]; omega
      · rw [gT_set_other hb]; exact Int.le_refl _
    · exact relaxL_up r o c (fun w hw => h w (List.mem_cons_of_mem _ hw)) i hi
/-- starts stay below all that keep the waits -/
theorem relaxL_low {s : List Int} : ∀ (r : List Wt) (o : List Int) (c : Bool), inW o.length r → (∀ w ∈ r, gT s w.a + w.by_ ≤ gT s w.b) → (∀ i, i < o.length → gT o i ≤ gT s i) → ∀ i, i < o.length → gT (relaxL r o c).1 i ≤ gT s i
  | [], o, c, _, _, h, i, hi => h i hi
  | x :: r, o, c, h, hs, ho, i, hi => by
    simp only [relaxL]
    have hx := h x (List.mem_cons_self ..)
    split
    · refine relaxL_low r _ true (fun w hw => by rw [List.length_set]; exact h w (List.mem_cons_of_mem _ hw)) (fun w hw => hs w (List.mem_cons_of_mem _ hw)) (fun j hj => ?_) i (by simpa using hi)
      rw [List.length_set] at hj
      by_cases hb : x.b = j
      · subst hb
        rw [gT_set_same hx.2]
        have h1 := hs x (List.mem_cons_self ..)
        have h2 := ho x.a hx.1
        omega
      · rw [gT_set_other hb]; exact ho j hj
    · exact relaxL_low r o c (fun w hw => h w (List.mem_cons_of_mem _ hw)) (fun w hw => hs w (List.mem_cons_of_mem _ hw)) ho i hi
theorem relaxL_true : ∀ (r : List Wt) (o : List Int), (relaxL r o true).2 = true
  | [], o => rfl
  | x :: r, o => by
    simp only [relaxL]
    split
    · exact relaxL_true r _
    · exact relaxL_true r o
/-- nothing has changed: all waits are kept -/
theorem relaxL_same : ∀ (r : List Wt) (o : List Int), (relaxL r o false).2 = false → (relaxL r o false).1 = o ∧ ∀ w ∈ r, gT o w.a + w.by_ ≤ gT o w.b
  | [], o, _ => ⟨rfl, by simp⟩
  | x :: r, o, h => by
    simp only [relaxL] at h ⊢
    by_cases hlt : gT o x.b < gT o x.a + x.by_
    · rw [if_pos hlt, relaxL_true] at h; cases h
    · rw [if_neg hlt] at h ⊢
      obtain ⟨h1, h2⟩ := relaxL_same r o h
      refine ⟨h1, fun w hw => ?_⟩
      rcases List.mem_cons.1 hw with rfl | hw
      · omega
      · exact h2 w hw
theorem relaxL_keeps : ∀ (r : List Wt) (o : List Int) (c : Bool), (∀ w ∈ r, gT o w.a + w.by_ ≤ gT o w.b) → relaxL r o c = (o, c)
  | [], o, c, _ => rfl
  | x :: r, o, c, h => by
    have h1 := h x (List.mem_cons_self ..)
    simp only [relaxL]
    rw [if_neg (by omega)]
    exact relaxL_keeps r o c (fun w hw => h w (List.mem_cons_of_mem _ hw))
/-- behind the round each wait has been looked at -/
theorem relaxL_met : ∀ (r : List Wt) (o : List Int) (c : Bool), inW o.length r → ∀ w ∈ r, gT o w.a + w.by_ ≤ gT (relaxL r o c).1 w.b
  | [], o, c, _, w, hw => by simp at hw
  | x :: r, o, c, h, w, hw => by
    have hx := h x (List.mem_cons_self ..)
    simp only [relaxL]
    rcases List.mem_cons.1 hw with rfl | hw
    · split
      · have h1 := relaxL_up r (o.set w.b (gT o w.a + w.by_)) true (fun u hu => by rw [List.length_set]; exact h u (List.mem_cons_of_mem _ hu)) w.b (by simpa using hx.2)
        rw [gT_set_same hx.2] at h1
        exact h1
      · have h1 := relaxL_up r o c (fun u hu => h u (List.mem_cons_of_mem _ hu)) w.b hx.2
        omega
    · have hwb := h w (List.mem_cons_of_mem _ hw)
      split
      · rename_i hlt
        have h1 := relaxL_met r (o.set x.b (gT o x.a + x.by_)) true (fun u hu => by rw [List.length_set]; exact h u (List.mem_cons_of_mem _ hu)) w hw
        by_cases hb : x.b = w.a
        · rw [← hb, gT_set_same hx.2] at h1
          rw [← hb]
          omega
        · rw [gT_set_other hb] at h1; exact h1
      · exact relaxL_met r o c (fun u hu => h u (List.mem_cons_of_mem _ hu)) w hw

theorem roundsL_some {fr : List Int} {ws : List Wt} : ∀ (k : Nat) (o r : List Int), inW fr.length ws → o.length = fr.length → (∀ i, i < fr.length → gT fr i ≤ gT o i) → (∀ s, Feas fr ws s → ∀ i, i < fr.length → gT o i ≤ gT s i) → roundsL ws k o = some r →
    Feas fr ws r ∧ ∀ s, Feas fr ws s → ∀ i, i < fr.length → gT r i ≤ gT s i
  | 0, o, r, _, _, _, _, h => by simp [roundsL] at h
  | k + 1, o, r, hw, hl, h1, h2, h => by
    rw [roundsL] at h
    by_cases hc : (relaxL ws o false).2 = true
    · rw [if_pos hc] at h
      have hwo : inW o.length ws := by rw [hl]; exact hw
      refine roundsL_some k _ r hw (by rw [relaxL_len, hl]) (fun i hi => ?_) (fun s hs i hi => ?_) h
      · exact Int.le_trans (h1 i hi) (relaxL_up ws o false hwo i (by omega))
      · exact relaxL_low ws o false hwo hs.2.2 (fun j hj => h2 s hs j (by omega)) i (by omega)
    · rw [if_neg hc] at h
      obtain ⟨h3, h4⟩ := relaxL_same ws o (by simpa using hc)
      rw [h3] at h
      obtain rfl := Option.some.inj h
      exact ⟨⟨hl, h1, h4⟩, h2⟩
/-- the earliest starts are the least ones -/
theorem earliestF_some {fr r : List Int} {ws : List Wt} (hw : inW fr.length ws) (h : earliestF fr ws = some r) : Feas fr ws r ∧ ∀ s, Feas fr ws s → ∀ i, i < fr.length → gT r i ≤ gT s i :=
  roundsL_some _ fr r hw rfl (fun i _ => Int.le_refl _) (fun s hs i hi => hs.2.1 i hi) h

/-- how many starts have not come to those of s -/
def offN (s o : List Int) : Nat → Nat
  | 0 => 0
  | n + 1 => offN s o n + if gT o n = gT s n then 0 else 1
theorem offN_le (s o : List Int) : ∀ n, offN s o n ≤ n
  | 0 => Nat.le_refl _
  | n + 1 => by have := offN_le s o n; rw [offN]; split <;> omega
theorem offN_zero {s o : List Int} : ∀ {n : Nat}, offN s o n = 0 → ∀ i, i < n → gT o i = gT s i
  | 0, _, i, hi => by omega
  | n + 1, h, i, hi => by
    rw [offN] at h
    by_cases hn : gT o n = gT s n
    · rcases Nat.lt_succ_iff_lt_or_eq.1 hi with h1 | rfl
      · exact offN_zero (by omega) i h1
      · exact hn
    · rw [if_neg hn] at h; omega
theorem offN_mono {s o o' : List Int} : ∀ {n : Nat}, (∀ i, i < n → gT o i = gT s i → gT o' i = gT s i) → offN s o' n ≤ offN s o n ∧ ((∃ i, i < n ∧ gT o i ≠ gT s i ∧ gT o' i = gT s i) → offN s o' n < offN s o n)
  | 0, _ => ⟨Nat.le_refl _, fun ⟨i, hi, _⟩ => by omega⟩
  | n + 1, h => by
    obtain ⟨h1, h2⟩ := offN_mono (s := s) (o := o) (o' := o') (n := n) (fun i hi => h i (by omega))
    have h3 := h n (by omega)
    simp only [offN]
    refine ⟨?_, fun ⟨i, hi, ha, hb⟩ => ?_⟩
    · by_cases e : gT o n = gT s n
      · rw [if_pos e, if_pos (h3 e)]; omega
      · rw [if_neg e]; split <;> omega
    · rcases Nat.lt_succ_iff_lt_or_eq.1 hi with h4 | rfl
      · have h5 := h2 ⟨i, h4, ha, hb⟩
        by_cases e : gT o n = gT s n
        · rw [if_pos e, if_pos (h3 e)]; omega
        · rw [if_neg e]; split <;> omega
      · rw [if_neg ha, if_pos hb]; omega
def lowered (U : Nat → Bool) (s : List Int) : List Int := s.mapIdx fun i x => if U i then x - 1 else x
theorem gT_lowered {U : Nat → Bool} {s : List Int} {i : Nat} (h : i < s.length) : gT (lowered U s) i = if U i then gT s i - 1 else gT s i := by
  rw [gT_get (by simpa [lowered] using h), gT_get h]
  simp [lowered]
/-- nothing of it can be lowered -/
def Tight (fr : List Int) (ws : List Wt) (s : List Int) : Prop := Feas fr ws s ∧ ∀ U : Nat → Bool, (∃ i, i < fr.length ∧ U i = true) → ¬ Feas fr ws (lowered U s)
def slack (fr s : List Int) : Nat → Nat
  | 0 => 0
  | n + 1 => slack fr s n + (gT s n - gT fr n).toNat
theorem slack_lowered {fr s : List Int} {U : Nat → Bool} (hl : s.length = fr.length) (hf : ∀ i, i < fr.length → gT fr i ≤ gT (lowered U s) i) : ∀ n, n ≤ fr.length → slack fr (lowered U s) n ≤ slack fr s n ∧ ((∃ i, i < n ∧ U i = true) → slack fr (lowered U s) n < slack fr s n)
  | 0, _ => ⟨Nat.le_refl _, fun ⟨i, hi, _⟩ => by omega⟩
  | n + 1, hn => by
    obtain ⟨h1, h2⟩ := slack_lowered hl hf n (by omega)
    have h3 := gT_lowered (U := U) (s := s) (i := n) (by omega)
    have h4 := hf n (by omega)
    simp only [slack]
    rw [h3] at h4 ⊢
    refine ⟨by split <;> omega, fun ⟨i, hi, hu⟩ => ?_⟩
    rcases Nat.lt_succ_iff_lt_or_eq.1 hi with h5 | rfl
    · have := h2 ⟨i, h5, hu⟩
      split <;> omega
    · rw [if_pos hu] at h4 ⊢
      omega
theorem tight_of {fr : List Int} {ws : List Wt} : ∀ (m : Nat) (s : List Int), slack fr s fr.length ≤ m → Feas fr ws s → ∃ t, Tight fr ws t
  | m, s, hm, hs => by
    by_cases h : ∃ U : Nat → Bool, (∃ i, i < fr.length ∧ U i = true) ∧ Feas fr ws (lowered U s)
    · obtain ⟨U, h1, h2⟩ := h
      have h3 := (slack_lowered hs.1 h2.2.1 fr.length (Nat.le_refl _)).2 h1
      match m, hm with
      | 0, hm => omega
      | m + 1, hm => exact tight_of m _ (by omega) h2
    · exact ⟨s, hs, fun U h1 h2 => h ⟨U, h1, h2⟩⟩
/-- a round brings one start more to its end -/
theorem round_less {fr s o : List Int} {ws : List Wt} (hw : inW fr.length ws) (ht : Tight fr ws s) (hl : o.length = fr.length) (h1 : ∀ i, i < fr.length → gT fr i ≤ gT o i) (h2 : ∀ i, i < fr.length → gT o i ≤ gT s i) (hne : offN s o fr.length ≠ 0) :
    offN s (relaxL ws o false).1 fr.length < offN s o fr.length := by
  have hwo : inW o.length ws := by rw [hl]; exact hw
  have hup := fun i (hi : i < fr.length) => relaxL_up ws o false hwo i (by omega)
  have hlow := fun i (hi : i < fr.length) => relaxL_low (s := s) ws o false hwo ht.1.2.2 (fun j hj => h2 j (by omega)) i (by omega)
  have hmon : ∀ i, i < fr.length → gT o i = gT s i → gT (relaxL ws o false).1 i = gT s i := fun i hi e => by have := hup i hi; have := hlow i hi; omega
  refine (offN_mono hmon).2 (Classical.byContradiction fun hno => ?_)
  have hno' : ∀ i, i < fr.length → gT o i ≠ gT s i → gT (relaxL ws o false).1 i < gT s i := fun i hi e => by
    have h3 := hlow i hi
    have h4 : gT (relaxL ws o false).1 i ≠ gT s i := fun e2 => hno ⟨i, hi, e, e2⟩
    omega
  have hex : ∃ i, i < fr.length ∧ gT o i ≠ gT s i := Classical.byContradiction fun h => hne (by
    have key : ∀ n, n ≤ fr.length → offN s o n = 0 := by
      intro n
      induction n with
      | zero => intro _; rfl
      | succ n ih =>
        intro hn
        rw [offN, ih (by omega), if_pos (Classical.byContradiction fun e => h ⟨n, by omega, e⟩)]
    exact key _ (Nat.le_refl _))
  refine ht.2 (fun i => decide (gT o i ≠ gT s i)) (by obtain ⟨i, hi, e⟩ := hex; exact ⟨i, hi, decide_eq_true e⟩) ⟨by simpa [lowered] using ht.1.1, fun i hi => ?_, fun w hw2 => ?_⟩
  · rw [gT_lowered (by have := ht.1.1; omega)]
    have h3 := h1 i hi; have h4 := h2 i hi
    split
    · rename_i e
      have e := of_decide_eq_true e
      omega
    · omega
  · have hab := hw w hw2
    rw [gT_lowered (by have := ht.1.1; omega), gT_lowered (by have := ht.1.1; omega)]
    have h3 := ht.1.2.2 w hw2
    by_cases ea : gT o w.a = gT s w.a
    · rw [if_neg (by simp [ea])]
      by_cases eb : gT o w.b = gT s w.b
      · rw [if_neg (by simp [eb])]; exact h3
      · rw [if_pos (by simp [eb])]
        have h4 := relaxL_met ws o false hwo w hw2
        have h5 := hno' w.b hab.2 eb
        omega
    · rw [if_pos (by simp [ea])]
      split <;> omega
theorem roundsL_ends {fr s : List Int} {ws : List Wt} (hw : inW fr.length ws) (ht : Tight fr ws s) : ∀ (k : Nat) (o : List Int), o.length = fr.length → (∀ i, i < fr.length → gT fr i ≤ gT o i) → (∀ i, i < fr.length → gT o i ≤ gT s i) → offN s o fr.length < k → (roundsL ws k o).isSome = true
  | 0, o, _, _, _, h => by omega
  | k + 1, o, hl, h1, h2, h => by
    have hwo : inW o.length ws := by rw [hl]; exact hw
    rw [roundsL]
    by_cases hc : (relaxL ws o false).2 = true
    · rw [if_pos hc]
      by_cases h0 : offN s o fr.length = 0
      · exfalso
        have he := offN_zero h0
        rw [relaxL_keeps ws o false (fun w hw2 => by
          rw [he w.a (hw w hw2).1, he w.b (hw w hw2).2]; exact ht.1.2.2 w hw2)] at hc
        cases hc
      · have h3 := round_less hw ht hl h1 h2 h0
        exact roundsL_ends hw ht k _ (by rw [relaxL_len, hl]) (fun i hi => Int.le_trans (h1 i hi) (relaxL_up ws o false hwo i (by omega))) (fun i hi => relaxL_low ws o false hwo ht.1.2.2 (fun j hj => h2 j (by omega)) i (by omega)) (by omega)
    · rw [if_neg hc]; rfl
/-- where there are none, no starts keep the waits -/
theorem earliestF_none {fr : List Int} {ws : List Wt} (hw : inW fr.length ws) (h : earliestF fr ws = none) : ∀ s, ¬ Feas fr ws s := fun s hs => by
  obtain ⟨t, ht⟩ := tight_of _ s (Nat.le_refl _) hs
  have h1 := roundsL_ends hw ht (fr.length + 1) fr rfl (fun i _ => Int.le_refl _) (fun i hi => ht.1.2.1 i hi) (by have := offN_le t fr fr.length; omega)
  have h2 : (earliestF fr ws).isSome = true := h1
  rw [h] at h2; cases h2
end Go.Proofs.Ytacaakcpkgipfaa
