/-
  Numbering the variables of a clause anew is done once for all, and does not ask for the variables' names: plain.
-/
import Derived.Test.YtidgnbdlfngeaaaDoorProg
import Derived.Test.YtidgnbdlfngeaaaDoorM4
import Derived.Test.YtidgnbdlfngeaaaDoorMv
import Derived.Test.YtidgnbdlfngeaaaDoorCm
import Derived.Test.YtidgnbdlfngeaaaDoorT24
namespace Go.Proofs.YtidgnbdlfngeaaaDoor
open Go.RowKit Go.Shelf
set_option linter.unusedVariables false
set_option maxHeartbeats 400000

mutual
/-- a tree whose variables have other numbers and no kids -/
def mpT (f : Int → Int) : T → T
  | .node h ks => if h < 0 then .node (f h) [] else .node h (mpL f ks)
def mpL (f : Int → Int) : List T → List T
  | [] => []
  | t :: r => mpT f t :: mpL f r
end
mutual
theorem ren_mp (L : List Int) : ∀ t : T, t.ren L = mpT (numL L) t
  | .node h ks => by simp only [T.ren, mpT]; rw [renL_mp L ks]
theorem renL_mp (L : List Int) : ∀ ks : List T, renL L ks = mpL (numL L) ks
  | [] => rfl
  | t :: r => by simp only [renL, mpL]; rw [ren_mp L t, renL_mp L r]
end
mutual
theorem sh_mp (x : Int) : ∀ t : T, (∀ z ∈ t.pre, z.head < 0 → z.kids = []) → shT x t = mpT (fun h => h - x) t
  | .node h ks, hk => by
    by_cases hn : h < 0
    · have e : ks = [] := hk (.node h ks) (by simp [T.pre]) hn
      subst e
      simp [shT, mpT, hn, shL]
    · simp only [shT, mpT, if_neg hn]
      rw [shL_mp x ks (fun z hz => hk z (by rw [T.pre]; exact List.mem_cons_of_mem _ hz))]
theorem shL_mp (x : Int) : ∀ ks : List T, (∀ z ∈ preL ks, z.head < 0 → z.kids = []) → shL x ks = mpL (fun h => h - x) ks
  | [], _ => rfl
  | t :: r, hk => by
    simp only [shL, mpL]
    rw [sh_mp x t (fun z hz => hk z (by rw [preL]; exact List.mem_append_left _ hz)), shL_mp x r (fun z hz => hk z (by rw [preL]; exact List.mem_append_right _ hz))]
end

def InjOn (f : Int → Int) (L : List Int) : Prop := (∀ a ∈ L, ∀ b ∈ L, f a = f b → a = b) ∧ ∀ a ∈ L, a < 0 → f a < 0
mutual
theorem order_mp {f : Int → Int} {L : List Int} (hf : InjOn f L) : ∀ (t : T) (had : List Int), t.cov L → (∀ x ∈ had, x ∈ L) → (mpT f t).order (had.map f) = (t.order had).map f ∧ ∀ x ∈ t.order had, x ∈ L
  | .node h ks, had, hc, hh => by
    rw [T.cov] at hc
    by_cases h0 : h < 0
    · have hm := hc.1 h0
      have hp := hf.2 h hm h0
      simp only [mpT, if_pos h0, T.order, if_pos hp]
      by_cases hx : h ∈ had
      · rw [if_pos hx, if_pos (List.mem_map_of_mem hx)]
        exact ⟨rfl, hh⟩
      · rw [if_neg hx, if_neg (fun e => by
          obtain ⟨y, hy, e⟩ := List.mem_map.1 e
          have := hf.1 y (hh y hy) h hm e
          subst this
          exact hx hy)]
        refine ⟨by simp, fun x hx => ?_⟩
        rcases List.mem_append.1 hx with h1 | h1
        · exact hh x h1
        · simp at h1; subst h1; exact hm
    · simp only [mpT, if_neg h0, T.order]
      exact orderL_mp hf ks had (hc.2 h0) hh
theorem orderL_mp {f : Int → Int} {L : List Int} (hf : InjOn f L) : ∀ (ks : List T) (had : List Int), covL L ks → (∀ x ∈ had, x ∈ L) → orderL (mpL f ks) (had.map f) = (orderL ks had).map f ∧ ∀ x ∈ orderL ks had, x ∈ L
  | [], had, _, hh => ⟨rfl, hh⟩
  | t :: r, had, hc, hh => by
    simp only [mpL, orderL]
    have h1 := order_mp hf t had hc.1 hh
    rw [h1.1]
    exact orderL_mp hf r (t.order had) hc.2 h1.2
end
theorem numZ_map {f : Int → Int} {L : List Int} (hf : InjOn f L) {h : Int} (hm : h ∈ L) : ∀ n : Nat, n ≤ L.length → numZ (L.map f) (f h) n = numZ L h n
  | 0, _ => rfl
  | n + 1, hn => by
    have hl : n < L.length := by omega
    have e : gI (L.map f) n = f L[n] := by simp [gI, hl]
    rw [numZ, numZ, e, gI_get hl, numZ_map hf hm n (by omega)]
    by_cases e1 : L[n] = h
    · rw [if_pos (by rw [e1]), if_pos e1]
    · rw [if_neg (fun e2 => e1 (hf.1 _ (List.getElem_mem hl) _ hm e2)), if_neg e1]
theorem numL_map {f : Int → Int} {L : List Int} (hf : InjOn f L) {h : Int} (hm : h ∈ L) : numL (L.map f) (f h) = numL L h := by
  unfold numL
  rw [List.length_map]
  exact numZ_map hf hm _ (Nat.le_refl _)
mutual
theorem mp_ren {f : Int → Int} {L : List Int} (hf : InjOn f L) : ∀ t : T, t.cov L → (mpT f t).ren (L.map f) = t.ren L
  | .node h ks, hc => by
    rw [T.cov] at hc
    by_cases h0 : h < 0
    · have hm := hc.1 h0
      have hp := hf.2 h hm h0
      simp only [mpT, if_pos h0, T.ren, if_pos hp]
      rw [numL_map hf hm]
    · simp only [mpT, if_neg h0, T.ren]
      rw [mpL_ren hf ks (hc.2 h0)]
theorem mpL_ren {f : Int → Int} {L : List Int} (hf : InjOn f L) : ∀ ks : List T, covL L ks → renL (L.map f) (mpL f ks) = renL L ks
  | [], _ => rfl
  | t :: r, hc => by
    simp only [mpL, renL]
    rw [mp_ren hf t hc.1, mpL_ren hf r hc.2]
end

/-- a clause with other numbers -/
def mpC (f : Int → Int) (fs : List Fc) : List Fc := fs.map fun x => ⟨x.neg, mpT f x.l, mpT f x.r⟩
theorem treesF_mp (f : Int → Int) : ∀ fs : List Fc, treesF (mpC f fs) = mpL f (treesF fs)
  | [] => rfl
  | x :: r => by
    have := treesF_mp f r
    simp only [mpC, List.map_cons, treesF, mpL] at this ⊢
    rw [this]
theorem rnA_mp (fs : List Fc) : rnA fs = mpC (numL (orderL (treesF fs) [])) fs := by
  unfold rnA mpC
  congr 1
  funext x
  simp only [rnF, ren_mp]
theorem order_cov (fs : List Fc) : covL (orderL (treesF fs) []) (treesF fs) := (orderL_ext _ _).2
theorem map_ren {f : Int → Int} {L : List Int} (hf : InjOn f L) : ∀ fs : List Fc, covL L (treesF fs) → (mpC f fs).map (rnF (L.map f)) = fs.map (rnF L)
  | [], _ => rfl
  | x :: r, hc => by
    have hc' : x.l.cov L ∧ x.r.cov L ∧ covL L (treesF r) := hc
    have := map_ren hf r hc'.2.2
    simp only [mpC, List.map_cons] at this ⊢
    rw [this]
    simp only [rnF, mp_ren hf x.l hc'.1, mp_ren hf x.r hc'.2.1]
/-- numbering anew does not ask for the names -/
theorem rnA_any {f : Int → Int} {fs : List Fc} (hf : InjOn f (orderL (treesF fs) [])) : rnA (mpC f fs) = rnA fs := by
  have h1 := (orderL_mp hf (treesF fs) [] (order_cov fs) (fun x hx => by cases hx)).1
  unfold rnA
  rw [treesF_mp, show orderL (mpL f (treesF fs)) [] = (orderL (treesF fs) []).map f from h1]
  exact map_ren hf fs (order_cov fs)
theorem numZ_at (l : List Int) (h : Int) : ∀ n : Nat, numZ l h n ≠ 0 → gI l (-(numZ l h n) - 1).toNat = h
  | 0, e => absurd rfl e
  | n + 1, e => by
    rw [numZ] at e ⊢
    by_cases e1 : gI l n = h
    · rw [if_pos e1]
      have : (-(-(n : Int) - 1) - 1).toNat = n := by omega
      rw [this]; exact e1
    · rw [if_neg e1] at e ⊢
      exact numZ_at l h n e
theorem numL_inj (L : List Int) : InjOn (numL L) L := by
  refine ⟨fun a ha b hb e => ?_, fun a ha _ => ?_⟩
  · have h1 := numZ_at L a L.length (fun e => (numL_zero L a).1 e ha)
    have h2 := numZ_at L b L.length (fun e => (numL_zero L b).1 e hb)
    have e' : numZ L a L.length = numZ L b L.length := e
    rw [e'] at h1
    exact h1.symm.trans h2
  · have h1 := (numZ_range L a L.length).1
    have h2 : numL L a ≠ 0 := fun e => (numL_zero L a).1 e ha
    have h3 : numL L a = numZ L a L.length := rfl
    omega
theorem rnA_twice (fs : List Fc) : rnA (rnA fs) = rnA fs := by
  have h := rnA_any (fs := fs) (numL_inj (orderL (treesF fs) []))
  rw [← rnA_mp] at h
  exact h

mutual
theorem mp_size (f : Int → Int) : ∀ t : T, (mpT f t).size ≤ t.size
  | .node h ks => by
    by_cases h0 : h < 0
    · simp only [mpT, if_pos h0, T.size, sizeL]; omega
    · have := mpL_size f ks
      simp only [mpT, if_neg h0, T.size]; omega
theorem mpL_size (f : Int → Int) : ∀ ks : List T, sizeL (mpL f ks) ≤ sizeL ks
  | [] => Nat.le_refl _
  | t :: r => by
    have h1 := mp_size f t
    have h2 := mpL_size f r
    simp only [mpL, sizeL]; omega
end
mutual
theorem mp_deep (f : Int → Int) : ∀ t : T, (mpT f t).deep ≤ t.deep
  | .node h ks => by
    by_cases h0 : h < 0
    · simp only [mpT, if_pos h0, T.deep, deepL]; omega
    · have := mpL_deep f ks
      simp only [mpT, if_neg h0, T.deep]; omega
theorem mpL_deep (f : Int → Int) : ∀ ks : List T, deepL (mpL f ks) ≤ deepL ks
  | [] => Nat.le_refl _
  | t :: r => by
    have h1 := mp_deep f t
    have h2 := mpL_deep f r
    simp only [mpL, deepL]; omega
end
theorem mpL_length (f : Int → Int) : ∀ ks : List T, (mpL f ks).length = ks.length
  | [] => rfl
  | t :: r => by simp only [mpL, List.length_cons]; rw [mpL_length f r]
mutual
theorem mp_pre (f : Int → Int) {L : List Int} : ∀ t : T, t.cov L → ∀ y ∈ (mpT f t).pre, (∃ h, h ∈ L ∧ h < 0 ∧ y = .node (f h) []) ∨ ∃ x ∈ t.pre, ¬ x.head < 0 ∧ y.head = x.head ∧ y.kids.length = x.kids.length
  | .node h ks, hc, y, hy => by
    rw [T.cov] at hc
    by_cases h0 : h < 0
    · simp only [mpT, if_pos h0, T.pre, preL, List.mem_singleton] at hy
      exact .inl ⟨h, hc.1 h0, h0, hy⟩
    · simp only [mpT, if_neg h0, T.pre, List.mem_cons] at hy
      rcases hy with rfl | hy
      · exact .inr ⟨.node h ks, by simp [T.pre], h0, rfl, mpL_length f ks⟩
      · rcases mpL_pre f ks (hc.2 h0) y hy with h1 | ⟨x, hx, h1⟩
        · exact .inl h1
        · exact .inr ⟨x, by simp only [T.pre, List.mem_cons]; exact .inr hx, h1⟩
theorem mpL_pre (f : Int → Int) {L : List Int} : ∀ ks : List T, covL L ks → ∀ y ∈ preL (mpL f ks), (∃ h, h ∈ L ∧ h < 0 ∧ y = .node (f h) []) ∨ ∃ x ∈ preL ks, ¬ x.head < 0 ∧ y.head = x.head ∧ y.kids.length = x.kids.length
  | [], _, y, hy => by cases hy
  | t :: r, hc, y, hy => by
    simp only [mpL, preL, List.mem_append] at hy ⊢
    rcases hy with hy | hy
    · rcases mp_pre f t hc.1 y hy with h1 | ⟨x, hx, h1⟩
      · exact .inl h1
      · exact .inr ⟨x, .inl hx, h1⟩
    · rcases mpL_pre f r hc.2 y hy with h1 | ⟨x, hx, h1⟩
      · exact .inl h1
      · exact .inr ⟨x, .inr hx, h1⟩
end
theorem treeF_mp {f : Int → Int} {L : List Int} {t : T} (hc : t.cov L) (hL : ∀ h ∈ L, h < 0 → -8 ≤ f h ∧ f h < 0) (h : (treeF t).1 = 0) : (treeF (mpT f t)).1 = 0 := by
  obtain ⟨h1, h2, h3⟩ := treeF_ok.1 h
  refine treeF_ok.2 ⟨Nat.le_trans (mp_size f t) h1, Nat.le_trans (mp_deep f t) h2, fun y hy => ?_⟩
  rcases mp_pre f t hc y hy with ⟨a, ha, ha0, rfl⟩ | ⟨x, hx, hn, e1, e2⟩
  · have := hL a ha ha0
    have e : T.head (.node (f a) []) = f a := rfl
    have e' : (T.kids (.node (f a) [])).length = 0 := rfl
    refine ⟨?_, ?_⟩
    · unfold badHead; rw [e]; omega
    · unfold badKids; rw [e']; omega
  · have := h3 x hx
    unfold okN at this ⊢
    rw [e1, e2]; exact this
theorem covL_mem {L : List Int} : ∀ {ks : List T}, covL L ks → ∀ t ∈ ks, t.cov L
  | t :: r, hc, x, hx => by
    rcases List.mem_cons.1 hx with rfl | hx
    · exact hc.1
    · exact covL_mem hc.2 x hx
theorem firstC_zero : ∀ {ts : List T}, (∀ t ∈ ts, (treeF t).1 = 0) → firstC ts = 0
  | [], _ => rfl
  | t :: r, h => by
    rw [firstC, if_neg (by simpa using h t (by simp))]
    exact firstC_zero fun x hx => h x (List.mem_cons_of_mem _ hx)
theorem mpL_mem (f : Int → Int) : ∀ {ks : List T} {y : T}, y ∈ mpL f ks → ∃ t ∈ ks, y = mpT f t
  | t :: r, y, hy => by
    simp only [mpL, List.mem_cons] at hy
    rcases hy with rfl | hy
    · exact ⟨t, by simp, rfl⟩
    · obtain ⟨x, hx, e⟩ := mpL_mem f hy
      exact ⟨x, List.mem_cons_of_mem _ hx, e⟩
theorem formF_mem {fs : List Fc} (h : formF fs = 0) : ∀ t ∈ treesF fs, (treeF t).1 = 0 := fun t ht => by
  obtain ⟨i, hi, e⟩ := List.getElem_of_mem ht
  exact (formF_ok h).2 i t (by rw [← e]; exact List.getElem?_eq_getElem hi)
theorem formF_mp {f : Int → Int} {fs : List Fc} (h : formF fs = 0) (hL : ∀ x ∈ orderL (treesF fs) [], x < 0 → -8 ≤ f x ∧ f x < 0) : formF (mpC f fs) = 0 := by
  have h1 := formF_ok h
  unfold formF
  rw [if_neg (by simp [mpC]; omega), treesF_mp]
  refine firstC_zero fun y hy => ?_
  obtain ⟨t, ht, rfl⟩ := mpL_mem f hy
  exact treeF_mp (covL_mem (order_cov fs) t ht) hL (formF_mem h t ht)
mutual
theorem order_mem : ∀ (t : T) (had : List Int), ∀ x ∈ t.order had, x ∈ had ∨ ∃ z ∈ t.pre, z.head = x
  | .node h ks, had, x, hx => by
    by_cases h0 : h < 0
    · simp only [T.order, if_pos h0] at hx
      by_cases hm : h ∈ had
      · rw [if_pos hm] at hx; exact .inl hx
      · rw [if_neg hm] at hx
        rcases List.mem_append.1 hx with h1 | h1
        · exact .inl h1
        · simp at h1; exact .inr ⟨.node h ks, by simp [T.pre], by rw [h1]; rfl⟩
    · simp only [T.order, if_neg h0] at hx
      rcases orderL_mem ks had x hx with h1 | ⟨z, hz, e⟩
      · exact .inl h1
      · exact .inr ⟨z, by simp only [T.pre, List.mem_cons]; exact .inr hz, e⟩
theorem orderL_mem : ∀ (ks : List T) (had : List Int), ∀ x ∈ orderL ks had, x ∈ had ∨ ∃ z ∈ preL ks, z.head = x
  | [], had, x, hx => .inl hx
  | t :: r, had, x, hx => by
    simp only [orderL] at hx
    rcases orderL_mem r _ x hx with h1 | ⟨z, hz, e⟩
    · rcases order_mem t had x h1 with h2 | ⟨z, hz, e⟩
      · exact .inl h2
      · exact .inr ⟨z, by simp only [preL]; exact List.mem_append_left _ hz, e⟩
    · exact .inr ⟨z, by simp only [preL]; exact List.mem_append_right _ hz, e⟩
end
mutual
theorem order_nodup : ∀ (t : T) (had : List Int), had.Nodup → (t.order had).Nodup
  | .node h ks, had, hn => by
    by_cases h0 : h < 0
    · simp only [T.order, if_pos h0]
      by_cases hm : h ∈ had
      · rw [if_pos hm]; exact hn
      · rw [if_neg hm]
        exact List.nodup_append.2 ⟨hn, by simp, fun a ha b hb e => by simp at hb; subst hb; subst e; exact hm ha⟩
    · simp only [T.order, if_neg h0]; exact orderL_nodup ks had hn
theorem orderL_nodup : ∀ (ks : List T) (had : List Int), had.Nodup → (orderL ks had).Nodup
  | [], had, hn => hn
  | t :: r, had, hn => by simp only [orderL]; exact orderL_nodup r _ (order_nodup t had hn)
end
theorem pre_memL : ∀ {ks : List T} {z : T}, z ∈ preL ks → ∃ t ∈ ks, z ∈ t.pre
  | t :: r, z, hz => by
    simp only [preL, List.mem_append] at hz
    rcases hz with hz | hz
    · exact ⟨t, by simp, hz⟩
    · obtain ⟨x, hx, h⟩ := pre_memL hz
      exact ⟨x, List.mem_cons_of_mem _ hx, h⟩
theorem small_len : ∀ (n : Nat) (L : List Int), L.Nodup → (∀ x ∈ L, -(n : Int) ≤ x ∧ x < 0) → L.length ≤ n
  | 0, L, _, h => by
    cases L with
    | nil => simp
    | cons x r => have := h x (by simp); omega
  | n + 1, L, hn, h => by
    by_cases hm : (-((n : Int) + 1)) ∈ L
    · have h1 := small_len n (L.erase (-((n : Int) + 1))) (hn.erase _) (fun x hx => by
        have h2 := (hn.mem_erase_iff).1 hx
        have h3 := h x h2.2
        have h4 := h2.1
        omega)
      rw [List.length_erase_of_mem hm] at h1
      omega
    · have h1 := small_len n L hn (fun x hx => by
        have h3 := h x hx
        have h4 : x ≠ -((n : Int) + 1) := fun e => hm (e ▸ hx)
        omega)
      omega
theorem order_head {fs : List Fc} {x : Int} (hx : x ∈ orderL (treesF fs) []) : ∃ t ∈ treesF fs, ∃ z ∈ t.pre, z.head = x := by
  rcases orderL_mem _ _ x hx with h | ⟨z, hz, e⟩
  · cases h
  · obtain ⟨t, ht, h⟩ := pre_memL hz
    exact ⟨t, ht, z, h, e⟩
theorem order_neg0 (fs : List Fc) : ∀ x ∈ orderL (treesF fs) [], x < 0 := orderL_neg _ _ (fun x hx => by cases hx)
theorem order_range {fs : List Fc} (h : formF fs = 0) : ∀ x ∈ orderL (treesF fs) [], -((8 : Nat) : Int) ≤ x ∧ x < 0 := fun x hx => by
  obtain ⟨t, ht, z, hz, rfl⟩ := order_head hx
  have h1 := (treeF_ok.1 (formF_mem h t ht)).2.2 z hz
  have h2 := order_neg0 fs _ hx
  have h3 := h1.1
  unfold badHead at h3
  omega
theorem order_len {fs : List Fc} (h : formF fs = 0) : (orderL (treesF fs) []).length ≤ 8 := small_len 8 _ (orderL_nodup _ _ List.nodup_nil) (order_range h)
theorem formF_rnA {fs : List Fc} (h : formF fs = 0) : formF (rnA fs) = 0 := by
  rw [rnA_mp]
  refine formF_mp h fun x hx _ => ?_
  have h1 := order_len h
  have h2 := numZ_range (orderL (treesF fs) []) x (orderL (treesF fs) []).length
  have h3 := (numL_inj (orderL (treesF fs) [])).2 x hx (order_neg0 fs x hx)
  have h4 : numL (orderL (treesF fs) []) x = numZ (orderL (treesF fs) []) x (orderL (treesF fs) []).length := rfl
  omega
theorem most_memL : ∀ {ks : List T} {t : T}, t ∈ ks → t.most ≤ mostL ks
  | u :: r, t, ht => by
    simp only [mostL]
    rcases List.mem_cons.1 ht with rfl | ht
    · omega
    · have := most_memL ht; omega
/-- a clause whose variables are moved -/
def mvC (x : Int) (fs : List Fc) : List Fc := fs.map fun f => ⟨f.neg, shT x f.l, shT x f.r⟩
theorem mvC_mp {x : Int} {fs : List Fc} (h : formF fs = 0) : mvC x fs = mpC (fun a => a - x) fs := by
  have hm : ∀ f ∈ fs, (f.l ∈ treesF fs ∧ f.r ∈ treesF fs) := by
    clear h
    induction fs with
    | nil => intro f hf; cases hf
    | cons g r ih =>
      intro f hf
      rcases List.mem_cons.1 hf with rfl | hf
      · exact ⟨by simp [treesF], by simp [treesF]⟩
      · exact ⟨by simp [treesF, (ih f hf).1], by simp [treesF, (ih f hf).2]⟩
  refine List.map_congr_left fun f hf => ?_
  have h1 := low_of_ok (formF_mem h _ (hm f hf).1)
  have h2 := low_of_ok (formF_mem h _ (hm f hf).2)
  rw [sh_mp x f.l h1.2.2, sh_mp x f.r h2.2.2]
theorem rnA_mv {x : Int} {fs : List Fc} (h : formF fs = 0) (h0 : 0 ≤ x) : rnA (mvC x fs) = rnA fs := by
  rw [mvC_mp h]
  exact rnA_any ⟨fun a _ b _ e => by simp only at e; omega, fun a _ e => by show a - x < 0; omega⟩
theorem formF_mv {x : Int} {fs : List Fc} (h : formF fs = 0) (h0 : 0 ≤ x) (hx : x ≤ 8 - mostL (treesF fs)) : formF (mvC x fs) = 0 := by
  rw [mvC_mp h]
  refine formF_mp h fun a ha ha0 => ?_
  obtain ⟨t, ht, z, hz, rfl⟩ := order_head ha
  have h1 := head_le_most t z hz
  have h2 := most_memL ht
  show -8 ≤ z.head - x ∧ z.head - x < 0
  omega
theorem normO_ok {fs : List Fc} (h : formF fs = 0) : normO fs = rnA fs := by
  unfold normO; rw [if_pos h, rnA_norm (formF_ok h).2]
end Go.Proofs.YtidgnbdlfngeaaaDoor
