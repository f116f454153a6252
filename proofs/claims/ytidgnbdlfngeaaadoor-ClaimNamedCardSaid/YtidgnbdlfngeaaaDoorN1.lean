/-
  Plain: numbers of variables by first showing; a tree renumbered with its own order is the document's renumbered one.
-/
import Derived.Test.YtidgnbdlfngeaaaDoorE7
import Derived.Test.YtidgnbdlfngeaaaDoorXc
namespace Go.Proofs.YtidgnbdlfngeaaaDoor
open Go.RowKit Go.Shelf
set_option linter.unusedVariables false

def numZ (l : List Int) (h : Int) : Nat → Int
  | 0 => 0
  | n + 1 => if gI l n = h then -(n : Int) - 1 else numZ l h n
def numL (l : List Int) (h : Int) : Int := numZ l h l.length
theorem numZ_range (l : List Int) (h : Int) : ∀ n : Nat, numZ l h n ≤ 0 ∧ -(n : Int) ≤ numZ l h n
  | 0 => by simp [numZ]
  | n + 1 => by
    have := numZ_range l h n
    rw [numZ]; split <;> omega
theorem numZ_zero (l : List Int) (h : Int) : ∀ n : Nat, numZ l h n = 0 ↔ ∀ j, j < n → gI l j ≠ h
  | 0 => by simp [numZ]
  | n + 1 => by
    have ih := numZ_zero l h n
    rw [numZ]
    split
    · rename_i e
      refine ⟨fun h1 => by omega, fun h1 => absurd e (h1 n (by omega))⟩
    · rename_i e
      rw [ih]
      refine ⟨fun h1 j hj => ?_, fun h1 j hj => h1 j (by omega)⟩
      rcases Nat.lt_succ_iff_lt_or_eq.1 hj with h2 | rfl
      · exact h1 j h2
      · exact e
theorem numL_zero (l : List Int) (h : Int) : numL l h = 0 ↔ h ∉ l := by
  unfold numL
  rw [numZ_zero]
  refine ⟨fun h1 hm => ?_, fun h1 j hj e => h1 (by rw [← e, gI_get hj]; exact List.getElem_mem hj)⟩
  obtain ⟨j, hj, e⟩ := List.getElem_of_mem hm
  exact h1 j hj (by rw [gI_get hj, e])
theorem numZ_append (l m : List Int) (h : Int) : ∀ n : Nat, n ≤ l.length → numZ (l ++ m) h n = numZ l h n
  | 0, _ => rfl
  | n + 1, hn => by
    rw [numZ, numZ, numZ_append l m h n (by omega)]
    have e : gI (l ++ m) n = gI l n := by simp [gI, List.getElem?_append_left (show n < l.length by omega)]
    rw [e]
theorem numL_snoc (l : List Int) (x h : Int) : numL (l ++ [x]) h = if x = h then -(l.length : Int) - 1 else numL l h := by
  unfold numL
  rw [List.length_append]
  show numZ (l ++ [x]) h (l.length + 1) = _
  rw [numZ, numZ_append _ _ _ _ (Nat.le_refl _)]
  have e : gI (l ++ [x]) l.length = x := by simp [gI]
  rw [e]
theorem renH_numZ (l : List Int) (h : Int) : ∀ n : Nat, renH l h n = if numZ l h n = 0 then h else numZ l h n
  | 0 => by simp [renH, numZ]
  | n + 1 => by
    rw [renH, numZ]
    by_cases e : gI l n = h
    · rw [if_pos e, if_pos e, if_neg (by omega)]
    · rw [if_neg e, if_neg e]; exact renH_numZ l h n
/-- more variables behind, none of them old -/
def Ext (l m : List Int) : Prop := ∃ r, m = l ++ r ∧ ∀ x ∈ r, x ∉ l
theorem Ext.refl (l : List Int) : Ext l l := ⟨[], by simp, fun x h => by simp at h⟩
theorem Ext.trans {a b c : List Int} (h1 : Ext a b) (h2 : Ext b c) : Ext a c := by
  obtain ⟨r, rfl, hr⟩ := h1
  obtain ⟨s, rfl, hs⟩ := h2
  refine ⟨r ++ s, by simp, fun x hx => ?_⟩
  rcases List.mem_append.1 hx with h | h
  · exact hr x h
  · exact fun e => hs x h (List.mem_append_left _ e)
theorem Ext.mem {a b : List Int} (h : Ext a b) {x : Int} (hx : x ∈ a) : x ∈ b := by
  obtain ⟨r, rfl, _⟩ := h
  exact List.mem_append_left _ hx
theorem numL_ext_aux : ∀ (r l : List Int) (h : Int), h ∉ r → numL (l ++ r) h = numL l h
  | [], l, h, _ => by simp
  | x :: r, l, h, hh => by
    have e : l ++ x :: r = (l ++ [x]) ++ r := by simp
    rw [e, numL_ext_aux r (l ++ [x]) h (fun hm => hh (List.mem_cons_of_mem _ hm)), numL_snoc, if_neg (fun e => hh (by rw [e]; simp))]
theorem Ext.num {a b : List Int} (h : Ext a b) {x : Int} (hx : x ∈ a) : numL b x = numL a x := by
  obtain ⟨r, rfl, hr⟩ := h
  exact numL_ext_aux r a x (fun hm => hr x hm hx)

mutual
/-- a tree with its variables' numbers, its variables' kids dropped -/
def T.ren (l : List Int) : T → T
  | .node h ks => if h < 0 then .node (numL l h) [] else .node h (renL l ks)
def renL (l : List Int) : List T → List T
  | [] => []
  | t :: r => t.ren l :: renL l r
end
theorem renL_append (l : List Int) : ∀ (a b : List T), renL l (a ++ b) = renL l a ++ renL l b
  | [], b => rfl
  | t :: r, b => by simp [renL, renL_append l r b]
theorem renL_length (l : List Int) : ∀ (ks : List T), (renL l ks).length = ks.length
  | [] => rfl
  | t :: r => by simp [renL, renL_length l r]
theorem T.ren_neg {l : List Int} {t : T} (h : t.head < 0) : t.ren l = .node (numL l t.head) [] := by
  cases t with | node h ks => simp only [T.ren]; exact if_pos h
theorem T.ren_pos {l : List Int} {t : T} (h : ¬ t.head < 0) : t.ren l = .node t.head (renL l t.kids) := by
  cases t with | node h ks => simp only [T.ren]; exact if_neg h

mutual
/-- all variables that order looks at are in the list -/
def T.cov (l : List Int) : T → Prop
  | .node h ks => (h < 0 → h ∈ l) ∧ (¬ h < 0 → covL l ks)
def covL (l : List Int) : List T → Prop
  | [] => True
  | t :: r => t.cov l ∧ covL l r
end
mutual
theorem T.cov_ext {a b : List Int} (h : Ext a b) : ∀ {t : T}, t.cov a → t.cov b ∧ t.ren b = t.ren a
  | .node hd ks, hc => by
    rw [T.cov] at hc
    by_cases hn : hd < 0
    · refine ⟨by rw [T.cov]; exact ⟨fun _ => h.mem (hc.1 hn), fun e => absurd hn e⟩, ?_⟩
      simp only [T.ren, if_pos hn]
      rw [h.num (hc.1 hn)]
    · have h1 := covL_ext h (hc.2 hn)
      refine ⟨by rw [T.cov]; exact ⟨fun e => absurd e hn, fun _ => h1.1⟩, ?_⟩
      simp only [T.ren, if_neg hn]
      rw [h1.2]
theorem covL_ext {a b : List Int} (h : Ext a b) : ∀ {ks : List T}, covL a ks → covL b ks ∧ renL b ks = renL a ks
  | [], _ => ⟨trivial, rfl⟩
  | t :: r, hc => by
    have h1 := T.cov_ext h hc.1
    have h2 := covL_ext h hc.2
    exact ⟨⟨h1.1, h2.1⟩, by simp only [renL]; rw [h1.2, h2.2]⟩
end
mutual
theorem T.order_ext : ∀ (t : T) (had : List Int), Ext had (t.order had) ∧ t.cov (t.order had)
  | .node h ks, had => by
    simp only [T.order, T.cov]
    by_cases hn : h < 0
    · rw [if_pos hn]
      by_cases hm : h ∈ had
      · rw [if_pos hm]
        exact ⟨Ext.refl _, fun _ => hm, fun e => absurd hn e⟩
      · rw [if_neg hm]
        exact ⟨⟨[h], rfl, fun x hx => by simp at hx; subst hx; exact hm⟩, fun _ => by simp, fun e => absurd hn e⟩
    · rw [if_neg hn]
      have := orderL_ext ks had
      exact ⟨this.1, fun e => absurd e hn, fun _ => this.2⟩
theorem orderL_ext : ∀ (l : List T) (had : List Int), Ext had (orderL l had) ∧ covL (orderL l had) l
  | [], had => ⟨Ext.refl _, trivial⟩
  | t :: r, had => by
    have h1 := T.order_ext t had
    have h2 := orderL_ext r (t.order had)
    simp only [orderL]
    exact ⟨h1.1.trans h2.1, (T.cov_ext h2.1 h1.2).1, h2.2⟩
end
theorem renL_orderL_take {l : List T} {i : Nat} (h : i < l.length) (had : List Int) :
    renL (orderL (l.take (i + 1)) had) (l.take (i + 1)) = renL (orderL (l.take i) had) (l.take i) ++ [(gK l i).ren ((gK l i).order (orderL (l.take i) had))] := by
  have e := orderL_take h had
  have h1 := T.order_ext (gK l i) (orderL (l.take i) had)
  have h2 := (orderL_ext (l.take i) had).2
  rw [e, take_gK h, renL_append, (covL_ext h1.1 h2).2]
  rfl
mutual
/-- where variables have no kids, and every variable is in the list, the document's renumbered is the same -/
theorem T.ren_renum {l : List Int} (hl : ∀ x ∈ l, x < 0) : ∀ {t : T}, t.cov l → (∀ x ∈ t.pre, x.head < 0 → x.kids = []) → t.ren l = t.renum l
  | .node h ks, hc, hk => by
    rw [T.cov] at hc
    simp only [T.ren, T.renum]
    by_cases hn : h < 0
    · have h1 : ks = [] := hk (.node h ks) (by rw [T.pre]; simp) hn
      subst h1
      rw [if_pos hn, renH_numZ]
      have h2 : numL l h ≠ 0 := fun e => (numL_zero l h).1 e (hc.1 hn)
      have h2 : ¬ numZ l h l.length = 0 := h2
      rw [if_neg h2]; rfl
    · rw [if_neg hn, renH_numZ]
      have h2 : numZ l h l.length = 0 := (numL_zero l h).2 (fun e => hn (hl h e))
      rw [if_pos h2, renL_renumL hl (hc.2 hn) (fun x hx => hk x (by rw [T.pre]; exact List.mem_cons_of_mem _ hx))]
theorem renL_renumL {l : List Int} (hl : ∀ x ∈ l, x < 0) : ∀ {ks : List T}, covL l ks → (∀ x ∈ preL ks, x.head < 0 → x.kids = []) → renL l ks = renumL l ks
  | [], _, _ => rfl
  | t :: r, hc, hk => by
    simp only [renL, renumL]
    rw [T.ren_renum hl hc.1 (fun x hx => hk x (by simp [preL, hx])), renL_renumL hl hc.2 (fun x hx => hk x (by simp [preL, hx]))]
end
mutual
theorem T.order_neg : ∀ (t : T) (had : List Int), (∀ x ∈ had, x < 0) → ∀ x ∈ t.order had, x < 0
  | .node h ks, had, hh => by
    simp only [T.order]
    by_cases hn : h < 0
    · rw [if_pos hn]
      by_cases hm : h ∈ had
      · rw [if_pos hm]; exact hh
      · rw [if_neg hm]; intro x hx
        rcases List.mem_append.1 hx with h1 | h1
        · exact hh x h1
        · simp at h1; subst h1; exact hn
    · rw [if_neg hn]; exact orderL_neg ks had hh
theorem orderL_neg : ∀ (l : List T) (had : List Int), (∀ x ∈ had, x < 0) → ∀ x ∈ orderL l had, x < 0
  | [], had, hh => hh
  | t :: r, had, hh => by simp only [orderL]; exact orderL_neg r _ (T.order_neg t had hh)
end
end Go.Proofs.YtidgnbdlfngeaaaDoor
