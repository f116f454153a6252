/-
  Plain: terms set apart by the other's own number of variables can be made one if and only if those set apart by 8 can.
-/
import Derived.Test.YtlhnfdjidjgfgaaE80
import Derived.Test.YtlhnfdjidjgfgaaM2
import Derived.Test.YtlhnfdjidjgfgaaMg1
import Derived.Test.YtlhnfdjidjgfgaaMu0
namespace Go.Proofs.Ytlhnfdjidjgfgaa
open Go.RowKit Go.Shelf
set_option linter.unusedVariables false
set_option maxHeartbeats 400000

theorem sh_node (m : Int) (t : T) : ∀ z ∈ (shT m t).pre, ∃ q ∈ t.pre, z = shT m q := by
  induction t using T.ind with
  | h t ih =>
    intro z hz
    rw [shT_eq, T.pre_eq] at hz
    rcases List.mem_cons.1 hz with rfl | hz
    · exact ⟨t, self_pre t, (shT_eq m t).symm⟩
    · obtain ⟨i, hi, h2⟩ := mem_preL hz
      have hi' : i < t.kids.length := by simpa [T.kids, shL_length] using hi
      have h2' : z ∈ (gK (shL m t.kids) i).pre := h2
      rw [gK_shL m hi'] at h2'
      obtain ⟨q, hq, e⟩ := ih i hi' z h2'
      exact ⟨q, by rw [T.pre_eq]; exact List.mem_cons_of_mem _ (kid_pre_mem hi' hq), e⟩
theorem most_le_of {t : T} {b : Int} (hb : 0 ≤ b) (h : ∀ z ∈ t.pre, -z.head ≤ b) : t.most ≤ b := by
  have h1 := maxV_pre t 0 (by omega)
  have key : ∀ (l : List T) (m : Int), m ≤ b → (∀ x ∈ l, -x.head ≤ b) → maxV l m ≤ b := by
    intro l
    induction l with
    | nil => intro m hm _; simpa [maxV] using hm
    | cons x r ih =>
      intro m hm hx
      have h2 := hx x (by simp)
      simp only [maxV]
      exact ih _ (by omega) (fun y hy => hx y (List.mem_cons_of_mem _ hy))
  have h2 := key t.pre 0 hb h
  have h3 := t.most_nonneg
  omega
theorem low_of_heads (t : T) : (∀ z ∈ t.pre, -1000 ≤ z.head) → t.low := by
  induction t using T.ind with
  | h t ih =>
    intro h
    rw [T.low_eq]
    exact ⟨h t (self_pre t), fun i hi => ih i hi (fun z hz => h z (by rw [T.pre_eq]; exact List.mem_cons_of_mem _ (kid_pre_mem hi hz)))⟩
theorem sh_head (m : Int) (q : T) : (shT m q).head = if q.head < 0 then q.head - m else q.head := by rw [shT_eq]; rfl
theorem sh_kids (m : Int) (q : T) : (shT m q).kids = shL m q.kids := by rw [shT_eq]; rfl
structure ShOk (t s : T) (N : Nat) : Prop where
  mg : MG N t s [(t, s)] vT
  nz : NZ t s
  sml : Sml t s
  le : N ≤ 100
theorem sh_low {x : T} (hx : (treeF x).1 = 0) (m : Nat) (hm : m ≤ 8) : (shT m x).low := low_of_heads _ fun z hz => by
  obtain ⟨q, hq, rfl⟩ := sh_node m x z hz
  have h1 := okN_num ((ok_parts hx).1 q hq)
  rw [sh_head]; split <;> omega
theorem sh_start {x t : T} {N : Nat} (hx : (treeF x).1 = 0) (ht : (treeF t).1 = 0) (m : Nat) (hm : m ≤ 8) (h1N : t.most ≤ (N : Int)) (h2N : (shT m x).most ≤ (N : Int)) (hN : N ≤ 100) : ShOk t (shT m x) N := by
  obtain ⟨ox, sx, dx⟩ := ok_parts hx
  obtain ⟨ot, st', dt⟩ := ok_parts ht
  have hx' : ∀ z ∈ (shT m x).pre, z.head ≠ 0 ∧ z.kids.length ≤ 3 ∧ (z.head < 0 → z.kids = []) := fun z hz => by
    obtain ⟨q, hq, rfl⟩ := sh_node m x z hz
    have h1 := okN_num (ox q hq)
    rw [sh_head, sh_kids, shL_length]
    refine ⟨by split <;> omega, h1.2.2.2.1, fun h => ?_⟩
    have : q.kids.length = 0 := h1.2.2.2.2 (by by_cases e : q.head < 0; exact e; rw [if_neg e] at h; exact h)
    exact List.eq_nil_of_length_eq_zero (by rw [shL_length]; exact this)
  have vt : VA N t := ⟨fun z hz hn => by
    have h1 := okN_num (ot z hz)
    have h2 := head_le_most t z hz
    exact ⟨List.eq_nil_of_length_eq_zero (h1.2.2.2.2 hn), by unfold vI; omega⟩, by omega⟩
  have vs : VA N (shT m x) := ⟨fun z hz hn => by
    have h2 := head_le_most (shT m x) z hz
    exact ⟨(hx' z hz).2.2 hn, by unfold vI; omega⟩, by rw [sh_size]; omega⟩
  refine ⟨MG.start vt.lv vs.lv (fun y hy => has_lt vt hy) (fun y hy => has_lt vs hy), fun q hq => ?_, ⟨st', by rw [sh_size]; exact sx, fun q hq => ?_⟩, hN⟩
  · rcases List.mem_append.1 hq with h | h
    · exact (okN_num (ot q h)).1
    · exact (hx' q h).1
  · rcases List.mem_append.1 hq with h | h
    · exact (okN_num (ot q h)).2.2.2.1
    · exact (hx' q h).2.1
theorem sh_most {x : T} (hx : (treeF x).1 = 0) (m : Nat) (hm : m ≤ 8) : (shT m x).most ≤ 16 := most_le_of (by omega) fun z hz => by
  obtain ⟨q, hq, rfl⟩ := sh_node m x z hz
  have h1 := okN_num ((ok_parts hx).1 q hq)
  rw [sh_head]; split <;> omega
end Go.Proofs.Ytlhnfdjidjgfgaa
