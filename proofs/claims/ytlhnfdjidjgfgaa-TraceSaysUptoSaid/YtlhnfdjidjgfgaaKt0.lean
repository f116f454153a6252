/-
  Plain: what a step of a derivation makes is small.
-/
import Derived.Test.YtlhnfdjidjgfgaaTr0
import Derived.Test.YtlhnfdjidjgfgaaT29
import Derived.Test.YtlhnfdjidjgfgaaP4
import Derived.Test.YtlhnfdjidjgfgaaK8
namespace Go.Proofs.Ytlhnfdjidjgfgaa
open Go.RowKit Go.Shelf
set_option linter.unusedVariables false
set_option maxHeartbeats 400000

theorem sub_size_le (bs : List T) (m : Nat) (hm : 1 ≤ m) (hb : ∀ i, i < bs.length → (gK bs i).size ≤ m) (t : T) : (t.sub bs).size ≤ t.size * m := by
  induction t using T.ind with
  | h t ih =>
    by_cases hn : t.head < 0
    · have h1 := t.size_pos
      by_cases hbd : boundB bs (-t.head - 1).toNat = true
      · rw [T.sub_var hn hbd]
        have h2 : (-t.head - 1).toNat < bs.length := by simp [boundB] at hbd; have := hbd.1; omega
        have := hb _ h2
        calc (gK bs (-t.head - 1).toNat).size ≤ 1 * m := by omega
          _ ≤ t.size * m := Nat.mul_le_mul_right _ h1
      · rw [T.sub_free hn (by simpa using hbd)]
        calc t.size = t.size * 1 := by omega
          _ ≤ t.size * m := Nat.mul_le_mul_left _ hm
    · rw [T.sub_pos hn, T.size_eq, T.size_eq t]
      have key : ∀ l : List T, (∀ i, i < l.length → ((gK l i).sub bs).size ≤ (gK l i).size * m) → sizeL (l.map (T.sub bs)) ≤ sizeL l * m := by
        intro l
        induction l with
        | nil => intro _; simp [sizeL]
        | cons x r ihr =>
          intro h
          have h0 := h 0 (by simp)
          simp only [gK, List.getD_cons_zero] at h0
          have h1 := ihr (fun i hi => by have := h (i + 1) (by simpa using hi); simpa only [gK, List.getD_cons_succ] using this)
          simp only [List.map_cons, sizeL, Nat.add_mul]; omega
      have := key t.kids ih
      have e : (T.node t.head (t.kids.map (T.sub bs))).kids = t.kids.map (T.sub bs) := rfl
      rw [e]; simp only [Nat.add_mul]; omega
theorem sub_size_small (t : T) (bs : List T) (ht : t.size ≤ 40) (hb : ∀ i, i < bs.length → (gK bs i).size ≤ 40) : (t.sub bs).size ≤ 1000000 := by
  have h1 := sub_size_le bs 40 (by omega) hb t
  have h2 : t.size * 40 ≤ 40 * 40 := Nat.mul_le_mul_right _ ht
  omega

set_option maxRecDepth 100000 in
set_option maxHeartbeats 4000000 in
theorem mapIdx_size (g : T → T) (m : Nat) (hg : ∀ k : T, (g k).size ≤ k.size + m) (p : Int) : ∀ (l : List T) (c : Int), sizeL (l.mapIdx fun i k => if (i : Int) + c = p then g k else k) ≤ sizeL l + m
  | [], c => by simp [sizeL]
  | x :: r, c => by
    rw [List.mapIdx_cons]
    simp only [sizeL]
    by_cases h : ((0 : Nat) : Int) + c = p
    · rw [if_pos h]
      have e : (r.mapIdx fun i k => if ((i + 1 : Nat) : Int) + c = p then g k else k) = r := by
        apply List.ext_getElem (by simp)
        intro i h1 h2
        rw [List.getElem_mapIdx, if_neg (by omega)]
      rw [e]
      have := hg x; omega
    · rw [if_neg h]
      have e : (fun (i : Nat) (k : T) => if ((i + 1 : Nat) : Int) + c = p then g k else k) = fun (i : Nat) (k : T) => if (i : Int) + (c + 1) = p then g k else k := by
        funext i k
        have : (((i + 1 : Nat) : Int) + c = p) ↔ ((i : Int) + (c + 1) = p) := by omega
        simp only [this]
      rw [e]
      have := mapIdx_size g m hg p r (c + 1); omega
theorem withAt_size (s : T) : ∀ (p : List Int) (t : T), (T.withAt p t s).size ≤ t.size + s.size
  | [], t => by rw [T.withAt]; omega
  | p :: ps, t => by
    rw [withAt_cons, T.size_eq, T.size_eq t]
    have h := mapIdx_size (fun k => T.withAt ps k s) s.size (fun k => withAt_size s ps k) p t.kids 1
    simp only [T.kids] at h ⊢
    omega

theorem mem_treesF {t : T} : ∀ {l : List Fc}, t ∈ treesF l → ∃ f ∈ l, t = f.l ∨ t = f.r
  | [], h => by simp [treesF] at h
  | f :: r, h => by
    simp only [treesF, List.mem_cons] at h
    rcases h with h | h | h
    · exact ⟨f, List.mem_cons_self .., .inl h⟩
    · exact ⟨f, List.mem_cons_self .., .inr h⟩
    · obtain ⟨x, hx, h⟩ := mem_treesF h
      exact ⟨x, List.mem_cons_of_mem _ hx, h⟩
theorem treesF_of {f : Fc} : ∀ {l : List Fc}, f ∈ l → f.l ∈ treesF l ∧ f.r ∈ treesF l
  | [], h => by simp at h
  | x :: r, h => by
    simp only [treesF, List.mem_cons]
    rcases List.mem_cons.1 h with h | h
    · subst h; exact ⟨.inl rfl, .inr (.inl rfl)⟩
    · have := treesF_of h; exact ⟨.inr (.inr this.1), .inr (.inr this.2)⟩
def SmallC (m : Nat) (c : List Fc) : Prop := c.length ≤ 1000 ∧ ∀ f ∈ c, f.l.size ≤ m ∧ f.r.size ≤ m
theorem small_of {ar : List Int} {c : List Fc} (h : codeF ar c = 0) : SmallC 40 c :=
  ⟨by have := (code_small h).1; omega, fun f hf => ⟨((code_small h).2 _ (treesF_of hf).1).1, ((code_small h).2 _ (treesF_of hf).2).1⟩⟩
theorem SmallC.trees {m : Nat} {c : List Fc} (h : SmallC m c) (hm : m ≤ 1000000) : c.length ≤ 1000 ∧ ∀ (i : Nat) t, (treesF c)[i]? = some t → t.size ≤ 1000000 :=
  ⟨h.1, fun i t ht => by
    obtain ⟨f, hf, e⟩ := mem_treesF (List.mem_of_getElem? ht)
    have := h.2 f hf
    rcases e with e | e <;> subst e <;> omega⟩
theorem small_sub {bs : List T} {c : List Fc} (h : SmallC 40 c) (hb : ∀ i, i < bs.length → (gK bs i).size ≤ 40) : SmallC 1000000 (subC bs c) :=
  ⟨by simp [subC]; exact h.1, fun f hf => by
    obtain ⟨x, hx, rfl⟩ := List.mem_map.1 hf
    exact ⟨sub_size_small x.l bs (h.2 x hx).1 hb, sub_size_small x.r bs (h.2 x hx).2 hb⟩⟩
theorem small_once {c : List Fc} (h : SmallC 40 c) : SmallC 40 (onceF c) := ⟨by have := onceF_len c; have := h.1; omega, fun f hf => h.2 f (onceF_mem c f hf)⟩
theorem mem_gF {l : List Fc} {i : Int} (h : inL i l.length) : gF l i ∈ l := by
  unfold gF
  rw [List.getD_eq_getElem?_getD, List.getElem?_eq_getElem (show i.toNat < l.length by have := h.1; have := h.2; omega)]
  exact List.getElem_mem _
theorem small_right {a b : List Fc} {g : Gt} (ha : SmallC 40 a) (hb : SmallC 40 b) (hla : a.length ≤ 6) (hlb : b.length ≤ 6) : SmallC 1000000 (rightF a b g).1 := by
  have hl := rightF_len a b g
  refine ⟨by omega, ?_⟩
  unfold rightF
  split
  · simp
  · rename_i hin
    have hin := Decidable.not_not.1 hin
    split
    · simp
    · split
      · simp
      · split
        · simp
        · split
          · simp
          · intro f hf
            have h1 := ha.2 _ (mem_gF hin.1)
            have h2 := hb.2 _ (mem_gF hin.2)
            simp only [List.mem_append, List.mem_singleton] at hf
            rcases hf with (hf | hf) | hf
            · have := ha.2 f (List.mem_of_mem_eraseIdx hf); omega
            · have := hb.2 f (List.mem_of_mem_eraseIdx hf); omega
            · subst hf
              have hw := withAt_size (toF g (gF a g.i)) g.pl.tail (sideF g (gF b g.j))
              have h3 : (toF g (gF a g.i)).size ≤ 40 := by unfold toF; split; exact h1.1; exact h1.2
              have h4 : (sideF g (gF b g.j)).size ≤ 40 := by unfold sideF; split; exact h2.2; exact h2.1
              unfold lastF
              split
              · exact ⟨by have := h2.1; show (gF b g.j).l.size ≤ 1000000; omega, by show (T.withAt _ _ _).size ≤ 1000000; omega⟩
              · exact ⟨by show (T.withAt _ _ _).size ≤ 1000000; omega, by have := h2.2; show (gF b g.j).r.size ≤ 1000000; omega⟩
end Go.Proofs.Ytlhnfdjidjgfgaa
