/-
  Plain: unification by taking out one variable after the other: the whole run.
-/
import Derived.Test.YtlhnfdjidjgfgaaMg1
namespace Go.Proofs.Ytlhnfdjidjgfgaa
open Go.RowKit Go.Shelf
set_option linter.unusedVariables false
set_option maxHeartbeats 400000

/-- what is known of a tree in the run: it is an instance of what stands in the trees at the start -/
structure Tm (N : Nat) (Q : List T) (σ : Nat → T) (u : T) : Prop where
  lv : LV u
  lt : ∀ y, u.has y → y < N
  cl : ∀ z ∈ u.pre, ¬ z.head < 0 → ∃ q ∈ Q, ¬ q.head < 0 ∧ z = q.inst σ
structure MG (N : Nat) (A B : T) (l : List (T × T)) (σ : Nat → T) : Prop where
  sol : ∀ θ, A.inst θ = B.inst θ ↔ (∀ e ∈ l, e.1.inst θ = e.2.inst θ) ∧ ∀ x, θ x = (σ x).inst θ
  tm : ∀ e ∈ l, Tm N (A.pre ++ B.pre) σ e.1 ∧ Tm N (A.pre ++ B.pre) σ e.2
  stm : ∀ x, σ x = vT x ∨ (x < N ∧ Tm N (A.pre ++ B.pre) σ (σ x) ∧ (∀ y, ¬ (σ y).has x) ∧ ∀ e ∈ l, ¬ e.1.has x ∧ ¬ e.2.has x)
  low : ∀ x y, σ x = vT y → y ≤ x
theorem Tm.kid {N : Nat} {Q : List T} {σ : Nat → T} {u : T} (h : Tm N Q σ u) {i : Nat} (hi : i < u.kids.length) : Tm N Q σ (gK u.kids i) :=
  ⟨h.lv.kid hi, fun y hy => h.lt y (has_kid hi hy), fun z hz hn => h.cl z (by rw [T.pre_eq]; exact List.mem_cons_of_mem _ (kid_pre_mem hi hz)) hn⟩
theorem MG.start {N : Nat} {A B : T} (hA : LV A) (hB : LV B) (nA : ∀ y, A.has y → y < N) (nB : ∀ y, B.has y → y < N) : MG N A B [(A, B)] vT where
  sol := fun θ => by
    constructor
    · intro h
      exact ⟨fun e he => by simp at he; subst he; exact h, fun x => (vT_inst x θ).symm⟩
    · rintro ⟨h, _⟩; exact h (A, B) (by simp)
  tm := fun e he => by
    simp at he; subst he
    exact ⟨⟨hA, nA, fun z hz hn => ⟨z, List.mem_append_left _ hz, hn, (inst_vT_lv z (hA.sub hz)).symm⟩⟩, ⟨hB, nB, fun z hz hn => ⟨z, List.mem_append_right _ hz, hn, (inst_vT_lv z (hB.sub hz)).symm⟩⟩⟩
  stm := fun x => .inl rfl
  low := fun x y h => by have := vT_inj h; omega
theorem MG.slv {N : Nat} {A B : T} {l : List (T × T)} {σ : Nat → T} (h : MG N A B l σ) (x : Nat) : LV (σ x) := by
  rcases h.stm x with h1 | h1
  · rw [h1]; exact LV.vT x
  · exact h1.2.1.lv
theorem MG.same {N : Nat} {A B : T} {l : List (T × T)} {a : T} {σ : Nat → T} (h : MG N A B (l ++ [(a, a)]) σ) : MG N A B l σ where
  sol := fun θ => by
    rw [h.sol θ]
    constructor
    · rintro ⟨h1, h2⟩; exact ⟨fun e he => h1 e (by simp [he]), h2⟩
    · rintro ⟨h1, h2⟩
      refine ⟨fun e he => ?_, h2⟩
      rcases List.mem_append.1 he with he | he
      · exact h1 e he
      · simp at he; subst he; rfl
  tm := fun e he => h.tm e (by simp [he])
  stm := fun x => by
    rcases h.stm x with h1 | ⟨h1, h2, h3, h4⟩
    · exact .inl h1
    · exact .inr ⟨h1, h2, h3, fun e he => h4 e (by simp [he])⟩
  low := h.low
theorem mem_zip_gK {ks bs : List T} {e : T × T} (h : e ∈ ks.zip bs) : ∃ i, i < ks.length ∧ i < bs.length ∧ e = (gK ks i, gK bs i) := by
  obtain ⟨i, hi, rfl⟩ := List.getElem_of_mem h
  simp only [List.length_zip] at hi
  refine ⟨i, by omega, by omega, ?_⟩
  rw [List.getElem_zip, gK_get (by omega), gK_get (by omega)]
theorem zip_gK_mem {ks bs : List T} {i : Nat} (h1 : i < ks.length) (h2 : i < bs.length) : (gK ks i, gK bs i) ∈ ks.zip bs := by
  rw [gK_get h1, gK_get h2, ← List.getElem_zip (h := by simp; omega)]
  exact List.getElem_mem _
theorem MG.dec {N : Nat} {A B : T} {l : List (T × T)} {a b : T} {σ : Nat → T} (ha : ¬ a.head < 0) (hb : ¬ b.head < 0) (he : a.head = b.head) (hk : a.kids.length = b.kids.length) (h : MG N A B (l ++ [(a, b)]) σ) : MG N A B (l ++ a.kids.zip b.kids) σ where
  sol := fun θ => by
    rw [h.sol θ]
    refine and_congr ⟨fun h1 e hm => ?_, fun h1 e hm => ?_⟩ Iff.rfl
    · rcases List.mem_append.1 hm with hm | hm
      · exact h1 e (by simp [hm])
      · obtain ⟨i, h2, h3, rfl⟩ := mem_zip_gK hm
        exact ((inst_kids ha hb).1 (h1 (a, b) (by simp))).2.2 i h2
    · rcases List.mem_append.1 hm with hm | hm
      · exact h1 e (by simp [hm])
      · simp at hm; subst hm
        exact (inst_kids ha hb).2 ⟨he, hk, fun i hi => h1 _ (List.mem_append_right _ (zip_gK_mem hi (by omega)))⟩
  tm := fun e hm => by
    rcases List.mem_append.1 hm with hm | hm
    · exact h.tm e (by simp [hm])
    · obtain ⟨i, h2, h3, rfl⟩ := mem_zip_gK hm
      have := h.tm (a, b) (by simp)
      exact ⟨this.1.kid h2, this.2.kid h3⟩
  stm := fun x => by
    rcases h.stm x with h1 | ⟨h1, h2, h3, h4⟩
    · exact .inl h1
    · refine .inr ⟨h1, h2, h3, fun e hm => ?_⟩
      rcases List.mem_append.1 hm with hm | hm
      · exact h4 e (by simp [hm])
      · obtain ⟨i, h5, h6, rfl⟩ := mem_zip_gK hm
        have := h4 (a, b) (by simp)
        exact ⟨fun hc => this.1 (has_kid h5 hc), fun hc => this.2 (has_kid h6 hc)⟩
  low := h.low
/-- the pair in order: the variable that goes, and what comes for it -/
def pick (a b : T) : T × T := if 0 < a.head ∨ (b.head < 0 ∧ b.head < a.head) then (b, a) else (a, b)
/-- what the pair in order has of the pair -/
structure Goes (N : Nat) (A B : T) (l : List (T × T)) (σ : Nat → T) (x : Nat) (t : T) : Prop where
  x0 : x < N
  free : σ x = vT x
  tm : Tm N (A.pre ++ B.pre) σ t
  eq : ∀ θ, A.inst θ = B.inst θ ↔ (∀ e ∈ l, e.1.inst θ = e.2.inst θ) ∧ θ x = t.inst θ ∧ ∀ x, θ x = (σ x).inst θ
  ord : t.head < 0 → vI t < x ∨ t = vT x
  tms : ∀ e ∈ l, Tm N (A.pre ++ B.pre) σ e.1 ∧ Tm N (A.pre ++ B.pre) σ e.2
  nt : ∀ y, σ y ≠ vT y → ¬ t.has y
theorem MG.goes {N : Nat} {A B : T} {l : List (T × T)} {a b : T} {σ : Nat → T} (h : MG N A B (l ++ [(a, b)]) σ) (ha0 : a.head ≠ 0) (hb0 : b.head ≠ 0) (hn : ¬ (0 < a.head ∧ 0 < b.head)) :
    (pick a b).1 = vT (vI (pick a b).1) ∧ Goes N A B l σ (vI (pick a b).1) (pick a b).2 := by
  have hab : Tm N (A.pre ++ B.pre) σ a ∧ Tm N (A.pre ++ B.pre) σ b := h.tm (a, b) (by simp)
  have hs : ∀ θ, A.inst θ = B.inst θ ↔ (∀ e ∈ l, e.1.inst θ = e.2.inst θ) ∧ a.inst θ = b.inst θ ∧ ∀ x, θ x = (σ x).inst θ := fun θ => by
    rw [h.sol θ]
    constructor
    · rintro ⟨h1, h2⟩; exact ⟨fun e he => h1 e (by simp [he]), h1 (a, b) (by simp), h2⟩
    · rintro ⟨h1, h2, h3⟩
      refine ⟨fun e he => ?_, h3⟩
      rcases List.mem_append.1 he with he | he
      · exact h1 e he
      · simp at he; subst he; exact h2
  have hfree : ∀ y, a.has y ∨ b.has y → σ y = vT y := fun y hy => by
    rcases h.stm y with h1 | ⟨_, _, _, h4⟩
    · exact h1
    · have := h4 (a, b) (by simp)
      rcases hy with hy | hy
      · exact absurd hy this.1
      · exact absurd hy this.2
  unfold pick
  by_cases hc : 0 < a.head ∨ (b.head < 0 ∧ b.head < a.head)
  · rw [if_pos hc]
    have hbn : b.head < 0 := by omega
    have e1 := hab.2.lv.leaf hbn
    have hh : b.has (vI b) := by rw [e1, vI_vT]; exact vT_has _
    refine ⟨e1, hab.2.lt _ hh, hfree _ (.inr hh), hab.1, fun θ => ?_, fun h1 => ?_, fun e he => h.tm e (by simp [he]), fun y hy hc => hy (hfree y (.inl hc))⟩
    · rw [hs θ, inst_var hbn]
      exact and_congr Iff.rfl (and_congr eq_comm Iff.rfl)
    · left; show vI a < vI b; have h1 : a.head < 0 := h1; unfold vI; omega
  · rw [if_neg hc]
    have han : a.head < 0 := by omega
    have e1 := hab.1.lv.leaf han
    have hh : a.has (vI a) := by rw [e1, vI_vT]; exact vT_has _
    refine ⟨e1, hab.1.lt _ hh, hfree _ (.inl hh), hab.2, fun θ => ?_, fun h1 => ?_, fun e he => h.tm e (by simp [he]), fun y hy hc => hy (hfree y (.inr hc))⟩
    · rw [hs θ, inst_var han]
    · have h1 : b.head < 0 := h1
      have h2 := hab.2.lv.leaf h1
      by_cases h3 : a.head = b.head
      · right; show b = vT (vI a); rw [h2]; unfold vI; rw [h3, ← show vI b = (-b.head - 1).toNat from rfl, ← h2]
      · left
        have : ¬ (b.head < 0 ∧ b.head < a.head) := fun h => hc (.inr h)
        show vI b < vI a; unfold vI; omega
theorem Goes.none {N : Nat} {A B : T} {l : List (T × T)} {σ : Nat → T} {x : Nat} {t : T} (h : Goes N A B l σ x t) (hx : t.has x) (hne : t ≠ vT x) : ∀ θ, A.inst θ ≠ B.inst θ := fun θ he => by
  have h1 := ((h.eq θ).1 he).2.1
  have hn : ¬ t.head < 0 := fun hn => by
    have h2 := h.tm.lv.leaf hn
    rw [h2] at hx
    rw [has_vT hx] at hne
    exact hne h2
  have h3 := (has_size_lv (θ := θ) h.tm.lv hx).2 hn
  rw [← h1] at h3
  omega
/-- what stands in a place is moved along -/
theorem Tm.upd {N : Nat} {A B : T} {l : List (T × T)} {σ : Nat → T} {x : Nat} {t u : T} (h : Goes N A B l σ x t) (hx : ¬ t.has x) (hu : Tm N (A.pre ++ B.pre) σ u) : Tm N (A.pre ++ B.pre) (fun y => (σ y).inst (upd x t)) (u.inst (upd x t)) where
  lv := LV.inst (fun y => by unfold Go.Proofs.Ytlhnfdjidjgfgaa.upd; split; exact h.tm.lv; exact LV.vT y) u
  lt := fun y hy => by
    obtain ⟨z, h1, h2⟩ := has_inst hu.lv hy
    by_cases hz : z = x
    · subst hz; rw [upd_self] at h2; exact h.tm.lt y h2
    · rw [upd_other t hz] at h2; rw [has_vT h2]; exact hu.lt z h1
  cl := fun z hz hn => by
    rcases pre_inst hz with ⟨q, h1, h2, h3⟩ | ⟨y, h1, h2⟩
    · obtain ⟨p, hp, hp2, hp3⟩ := hu.cl q h1 h2
      exact ⟨p, hp, hp2, by rw [h3, hp3, inst_inst]⟩
    · by_cases hy : y = x
      · subst hy; rw [upd_self] at h2
        obtain ⟨p, hp, hp2, hp3⟩ := h.tm.cl z h2 hn
        refine ⟨p, hp, hp2, ?_⟩
        rw [← inst_inst, ← hp3]
        have h4 : ∀ i, z.has i → Go.Proofs.Ytlhnfdjidjgfgaa.upd y t i = vT i := fun i hi => upd_other t (fun e => hx (has_sub h2 (e ▸ hi)))
        rw [inst_congr z h4, inst_vT_lv z (h.tm.lv.sub h2)]
      · rw [upd_other t hy, T.pre_eq] at h2
        rcases List.mem_cons.1 h2 with rfl | h2
        · exact absurd (vT_neg y) hn
        · simp [vT, T.kids, preL] at h2
theorem Goes.inst {N : Nat} {A B : T} {l : List (T × T)} {σ : Nat → T} {x : Nat} {t : T} {θ : Nat → T} (h : θ x = t.inst θ) (u : T) : (u.inst (upd x t)).inst θ = u.inst θ := by
  rw [inst_inst]
  congr 1
  funext y
  unfold upd
  split
  · rename_i e; subst e; exact h.symm
  · exact vT_inst y θ
theorem Goes.elim {N : Nat} {A B : T} {l : List (T × T)} {σ : Nat → T} {x : Nat} {t : T} (h : Goes N A B l σ x t) (hx : ¬ t.has x) (hst : ∀ y, σ y = vT y ∨ (y < N ∧ Tm N (A.pre ++ B.pre) σ (σ y) ∧ (∀ z, ¬ (σ z).has y) ∧ ∀ e ∈ l, ¬ e.1.has y ∧ ¬ e.2.has y)) (hlow : ∀ x y, σ x = vT y → y ≤ x) :
    MG N A B (l.map fun e => (e.1.inst (upd x t), e.2.inst (upd x t))) (fun y => (σ y).inst (upd x t)) := by
  have hlv : ∀ y, LV (σ y) := fun y => by
    rcases hst y with h1 | h1
    · rw [h1]; exact LV.vT y
    · exact h1.2.1.lv
  have hno : ∀ {u : T} {y : Nat}, LV u → (y = x ∨ ¬ u.has y) → ¬ t.has y → ¬ (u.inst (upd x t)).has y := fun {u y} hl h1 h2 hc => by
    obtain ⟨z, h3, h4⟩ := has_inst hl hc
    by_cases hz : z = x
    · subst hz; rw [upd_self] at h4; exact h2 h4
    · rw [upd_other t hz] at h4
      have h5 := has_vT h4
      rcases h1 with h1 | h1
      · omega
      · rw [h5] at h1; exact h1 h3
  refine ⟨fun θ => ?_, fun e he => ?_, fun y => ?_, fun y k hk => ?_⟩
  · rw [h.eq θ]
    constructor
    · rintro ⟨h1, h2, h3⟩
      refine ⟨fun e he => ?_, fun y => ?_⟩
      · obtain ⟨e0, he0, rfl⟩ := List.mem_map.1 he
        simp only [Goes.inst (A := A) (B := B) (l := l) (σ := σ) (N := N) h2]
        exact h1 e0 he0
      · rw [Goes.inst (A := A) (B := B) (l := l) (σ := σ) (N := N) h2]; exact h3 y
    · rintro ⟨h1, h2⟩
      have h3 : θ x = t.inst θ := by
        have := h2 x
        simp only [h.free, vT_inst, upd_self] at this
        exact this
      refine ⟨fun e he => ?_, h3, fun y => ?_⟩
      · have := h1 _ (List.mem_map.2 ⟨e, he, rfl⟩)
        simp only [Goes.inst (A := A) (B := B) (l := l) (σ := σ) (N := N) h3] at this
        exact this
      · have := h2 y
        rw [Goes.inst (A := A) (B := B) (l := l) (σ := σ) (N := N) h3] at this
        exact this
  · obtain ⟨e0, he0, rfl⟩ := List.mem_map.1 he
    exact ⟨(h.tms e0 he0).1.upd h hx, (h.tms e0 he0).2.upd h hx⟩
  · by_cases hy : y = x
    · subst hy
      right
      have e1 : (σ y).inst (upd y t) = t := by rw [h.free, vT_inst, upd_self]
      have e2 : t.inst (upd y t) = t := by
        rw [inst_congr t (σ := upd y t) (τ := vT) (fun i hi => upd_other t (fun e => hx (e ▸ hi)))]
        exact inst_vT_lv t h.tm.lv
      refine ⟨h.x0, ?_, fun z => hno (hlv z) (.inl rfl) hx, fun e he => ?_⟩
      · show Tm N _ _ ((σ y).inst (upd y t))
        rw [e1]
        have := h.tm.upd h hx
        rw [e2] at this
        exact this
      · obtain ⟨e0, he0, rfl⟩ := List.mem_map.1 he
        exact ⟨hno (h.tms e0 he0).1.lv (.inl rfl) hx, hno (h.tms e0 he0).2.lv (.inl rfl) hx⟩
    · rcases hst y with h1 | ⟨h1, h2, h3, h4⟩
      · left; show (σ y).inst _ = _; rw [h1, vT_inst, upd_other t hy]
      · right
        have hty : ¬ t.has y := h.nt y (fun e => h3 y (by rw [e]; exact vT_has y))
        refine ⟨h1, h2.upd h hx, fun z => hno (hlv z) (.inr (h3 z)) hty, fun e he => ?_⟩
        obtain ⟨e0, he0, rfl⟩ := List.mem_map.1 he
        exact ⟨hno (h.tms e0 he0).1.lv (.inr (h4 e0 he0).1) hty, hno (h.tms e0 he0).2.lv (.inr (h4 e0 he0).2) hty⟩
  · have hk' : (σ y).inst (upd x t) = vT k := hk
    have hn : (σ y).head < 0 := Classical.byContradiction fun hn => by
      rw [inst_node hn] at hk'
      have := congrArg T.head hk'
      rw [vT_head] at this
      have h2 : (σ y).head = -(k : Int) - 1 := this
      omega
    have h1 := (hlv y).leaf hn
    have h2 := hlow y _ h1
    rw [inst_var hn] at hk'
    by_cases hj : vI (σ y) = x
    · rw [hj, upd_self] at hk'
      have h3 := h.ord (by rw [hk']; exact vT_neg k)
      rcases h3 with h3 | h3
      · rw [hk', vI_vT] at h3; omega
      · rw [hk'] at h3; have := vT_inj h3; omega
    · rw [upd_other t hj] at hk'
      have := vT_inj hk'; omega
/-- the end -/
theorem MG.canon {N : Nat} {A B : T} {σ : Nat → T} (h : MG N A B [] σ) : Canon (fun θ => A.inst θ = B.inst θ) σ where
  sol := (h.sol σ).2 ⟨fun e he => by simp at he, fun x => by
    rw [inst_congr (σ x) (σ := σ) (τ := vT) (fun i hi => by
      rcases h.stm i with h1 | h1
      · exact h1
      · exact absurd hi (h1.2.2.1 x)), inst_vT_lv _ (h.slv x)]⟩
  gen := fun θ hθ x => (((h.sol θ).1 hθ).2 x).symm
  lv := h.slv
  low := fun x y hy => ⟨h.low x y hy, by
    rcases h.stm y with h1 | h1
    · exact h1
    · exact absurd (by rw [hy]; exact vT_has y) (h1.2.2.1 x)⟩
/-! the run -/
noncomputable def mrun : Nat → List (T × T) → (Nat → T) → Option (Nat × (Nat → T))
  | 0, _, _ => none
  | n + 1, l, σ => match l.reverse with
    | [] => some (1, σ)
    | (a, b) :: r => open Classical in
      if a = b then mrun n r.reverse σ
      else if 0 < a.head ∧ 0 < b.head then
        if a.head ≠ b.head ∨ a.kids.length ≠ b.kids.length then some (0, σ) else mrun n (r.reverse ++ a.kids.zip b.kids) σ
      else if (pick a b).2.has (vI (pick a b).1) then some (0, σ)
      else if 4000 < (pick a b).2.size then some (3, σ)
      else mrun n (r.reverse.map fun e => (e.1.inst (upd (vI (pick a b).1) (pick a b).2), e.2.inst (upd (vI (pick a b).1) (pick a b).2))) (fun y => (σ y).inst (upd (vI (pick a b).1) (pick a b).2))
theorem mrun_nil (n : Nat) (σ : Nat → T) : mrun (n + 1) [] σ = some (1, σ) := rfl
open Classical in
theorem mrun_snoc (n : Nat) (l : List (T × T)) (a b : T) (σ : Nat → T) : mrun (n + 1) (l ++ [(a, b)]) σ =
      if a = b then mrun n l σ
      else if 0 < a.head ∧ 0 < b.head then
        if a.head ≠ b.head ∨ a.kids.length ≠ b.kids.length then some (0, σ) else mrun n (l ++ a.kids.zip b.kids) σ
      else if (pick a b).2.has (vI (pick a b).1) then some (0, σ)
      else if 4000 < (pick a b).2.size then some (3, σ)
      else mrun n (l.map fun e => (e.1.inst (upd (vI (pick a b).1) (pick a b).2), e.2.inst (upd (vI (pick a b).1) (pick a b).2))) (fun y => (σ y).inst (upd (vI (pick a b).1) (pick a b).2)) := by
  have h : (l ++ [(a, b)]).reverse = (a, b) :: l.reverse := by simp
  conv => lhs; rw [mrun]
  rw [h]
  simp only [List.reverse_reverse]
/-- heads are not nought -/
def NZ (A B : T) : Prop := ∀ q ∈ A.pre ++ B.pre, q.head ≠ 0
theorem Tm.nz {N : Nat} {A B : T} {σ : Nat → T} {u : T} (hz : NZ A B) (h : Tm N (A.pre ++ B.pre) σ u) : u.head ≠ 0 := fun e => by
  obtain ⟨q, h1, h2, h3⟩ := h.cl u (self_pre u) (by omega)
  rw [h3, inst_node h2] at e
  exact hz q h1 e
/-- how a step goes on -/
theorem MG.step {N : Nat} {A B : T} {l : List (T × T)} {a b : T} {σ : Nat → T} (hz : NZ A B) (h : MG N A B (l ++ [(a, b)]) σ) (hne : a ≠ b) (hn : ¬ (0 < a.head ∧ 0 < b.head)) :
    (pick a b).1 = vT (vI (pick a b).1) ∧ Goes N A B l σ (vI (pick a b).1) (pick a b).2 ∧ (pick a b).2 ≠ vT (vI (pick a b).1) ∧
    (¬ (pick a b).2.has (vI (pick a b).1) → MG N A B (l.map fun e => (e.1.inst (upd (vI (pick a b).1) (pick a b).2), e.2.inst (upd (vI (pick a b).1) (pick a b).2))) (fun y => (σ y).inst (upd (vI (pick a b).1) (pick a b).2))) := by
  have hab : Tm N (A.pre ++ B.pre) σ a ∧ Tm N (A.pre ++ B.pre) σ b := h.tm (a, b) (by simp)
  obtain ⟨h1, h2⟩ := h.goes (hab.1.nz hz) (hab.2.nz hz) hn
  refine ⟨h1, h2, fun e => ?_, fun hx => h2.elim hx (fun y => ?_) h.low⟩
  · rw [← h1] at e
    unfold pick at e
    split at e
    · exact hne e
    · exact hne e.symm
  · rcases h.stm y with h3 | ⟨h3, h4, h5, h6⟩
    · exact .inl h3
    · exact .inr ⟨h3, h4, h5, fun e he => h6 e (by simp [he])⟩
theorem mrun_says {N : Nat} {A B : T} (hz : NZ A B) : ∀ (n : Nat) (l : List (T × T)) (σ : Nat → T) (c : Nat) (τ : Nat → T), MG N A B l σ → mrun n l σ = some (c, τ) →
    (c = 0 ∧ ∀ θ, A.inst θ ≠ B.inst θ) ∨ (c = 1 ∧ MG N A B [] τ) ∨ c = 3 := by
  intro n
  induction n with
  | zero => intro l σ c τ _ h; simp [mrun] at h
  | succ n ih =>
    intro l σ c τ hg h
    by_cases hl : l = []
    · subst hl
      rw [mrun_nil] at h
      simp only [Option.some.injEq, Prod.mk.injEq] at h
      obtain ⟨rfl, rfl⟩ := h
      exact .inr (.inl ⟨rfl, hg⟩)
    · obtain ⟨l', ⟨a, b⟩, rfl⟩ : ∃ l' e, l = l' ++ [e] := ⟨l.dropLast, l.getLast hl, (List.dropLast_concat_getLast hl).symm⟩
      rw [mrun_snoc] at h
      by_cases h1 : a = b
      · rw [if_pos h1] at h
        subst h1
        exact ih _ _ _ _ hg.same h
      · rw [if_neg h1] at h
        by_cases h2 : 0 < a.head ∧ 0 < b.head
        · rw [if_pos h2] at h
          by_cases h3 : a.head ≠ b.head ∨ a.kids.length ≠ b.kids.length
          · rw [if_pos h3] at h
            simp only [Option.some.injEq, Prod.mk.injEq] at h
            obtain ⟨rfl, rfl⟩ := h
            refine .inl ⟨rfl, fun θ he => ?_⟩
            have h4 : a.inst θ = b.inst θ := ((hg.sol θ).1 he).1 (a, b) (by simp)
            have h5 := (inst_kids (by omega) (by omega)).1 h4
            rcases h3 with h3 | h3
            · exact h3 h5.1
            · exact h3 h5.2.1
          · rw [if_neg h3] at h
            have h4 : a.head = b.head := Classical.byContradiction fun hc => h3 (.inl hc)
            have h5 : a.kids.length = b.kids.length := Classical.byContradiction fun hc => h3 (.inr hc)
            exact ih _ _ _ _ (hg.dec (by omega) (by omega) h4 h5) h
        · rw [if_neg h2] at h
          obtain ⟨s1, s2, s3, s4⟩ := hg.step hz h1 h2
          by_cases h3 : (pick a b).2.has (vI (pick a b).1)
          · rw [if_pos h3] at h
            simp only [Option.some.injEq, Prod.mk.injEq] at h
            obtain ⟨rfl, rfl⟩ := h
            exact .inl ⟨rfl, s2.none h3 s3⟩
          · rw [if_neg h3] at h
            by_cases h4 : 4000 < (pick a b).2.size
            · rw [if_pos h4] at h
              simp only [Option.some.injEq, Prod.mk.injEq] at h
              exact .inr (.inr h.1.symm)
            · rw [if_neg h4] at h
              exact ih _ _ _ _ (s4 h3) h

/-! it ends -/
noncomputable def openN (N : Nat) (σ : Nat → T) : Nat := (List.range N).countP (fun y => open Classical in decide (σ y = vT y))
def sumE2 : List (T × T) → Nat
  | [] => 0
  | e :: r => e.1.size + sumE2 r
theorem sumE2_append : ∀ a b, sumE2 (a ++ b) = sumE2 a + sumE2 b
  | [], b => by simp [sumE2]
  | e :: r, b => by simp only [List.cons_append, sumE2, sumE2_append r b]; omega
theorem sumE2_zip : ∀ ks bs : List T, sumE2 (ks.zip bs) ≤ sizeL ks
  | [], bs => by simp [sumE2]
  | a :: r, [] => by simp [sumE2]
  | a :: r, b :: s => by have := sumE2_zip r s; simp only [List.zip_cons_cons, sumE2, sizeL]; omega
theorem openN_lt {N : Nat} {A B : T} {l : List (T × T)} {σ : Nat → T} {x : Nat} {t : T} (h : Goes N A B l σ x t) (hne : t ≠ vT x) (hlv : ∀ y, LV (σ y)) (hlow : ∀ x y, σ x = vT y → y ≤ x) :
    openN N (fun y => (σ y).inst (upd x t)) < openN N σ := by
  classical
  refine countP_lt (fun y _ hy => ?_) ⟨x, by simpa using h.x0, by simpa using h.free, ?_⟩
  · have hk' : (σ y).inst (upd x t) = vT y := by simpa using hy
    have hn : (σ y).head < 0 := Classical.byContradiction fun hn => by
      rw [inst_node hn] at hk'
      have := congrArg T.head hk'
      rw [vT_head] at this
      have h2 : (σ y).head = -(y : Int) - 1 := this
      omega
    have h1 := (hlv y).leaf hn
    have h2 := hlow y _ h1
    rw [inst_var hn] at hk'
    by_cases hj : vI (σ y) = x
    · rw [hj, upd_self] at hk'
      have h3 := h.ord (by rw [hk']; exact vT_neg y)
      rcases h3 with h3 | h3
      · rw [hk', vI_vT] at h3; omega
      · exact absurd h3 hne
    · rw [upd_other t hj] at hk'
      simp only [decide_eq_true_eq]
      exact h1.trans hk'
  · have : (σ x).inst (upd x t) = t := by rw [h.free, vT_inst, upd_self]
    simp only [this, decide_eq_false_iff_not]
    exact hne
theorem mrun_ends {N : Nat} {A B : T} (hz : NZ A B) : ∀ (k m : Nat) (l : List (T × T)) (σ : Nat → T), MG N A B l σ → openN N σ ≤ k → sumE2 l ≤ m → ∃ n r, mrun n l σ = some r := by
  intro k
  induction k using Nat.strongRecOn with
  | ind k ihk =>
    intro m
    induction m with
    | zero =>
      intro l σ hg hk hm
      by_cases hl : l = []
      · subst hl; exact ⟨1, _, mrun_nil 0 σ⟩
      · obtain ⟨l', ⟨a, b⟩, rfl⟩ : ∃ l' e, l = l' ++ [e] := ⟨l.dropLast, l.getLast hl, (List.dropLast_concat_getLast hl).symm⟩
        rw [sumE2_append] at hm
        simp only [sumE2] at hm
        have := a.size_pos; omega
    | succ m ihm =>
      intro l σ hg hk hm
      by_cases hl : l = []
      · subst hl; exact ⟨1, _, mrun_nil 0 σ⟩
      · obtain ⟨l', ⟨a, b⟩, rfl⟩ : ∃ l' e, l = l' ++ [e] := ⟨l.dropLast, l.getLast hl, (List.dropLast_concat_getLast hl).symm⟩
        rw [sumE2_append] at hm
        simp only [sumE2] at hm
        have hpos := a.size_pos
        by_cases h1 : a = b
        · subst h1
          obtain ⟨n, r, h⟩ := ihm l' σ hg.same hk (by omega)
          exact ⟨n + 1, r, by rw [mrun_snoc, if_pos rfl]; exact h⟩
        · by_cases h2 : 0 < a.head ∧ 0 < b.head
          · by_cases h3 : a.head ≠ b.head ∨ a.kids.length ≠ b.kids.length
            · exact ⟨1, _, by rw [mrun_snoc, if_neg h1, if_pos h2, if_pos h3]⟩
            · have h4 : a.head = b.head := Classical.byContradiction fun hc => h3 (.inl hc)
              have h5 : a.kids.length = b.kids.length := Classical.byContradiction fun hc => h3 (.inr hc)
              obtain ⟨n, r, h⟩ := ihm _ σ (hg.dec (by omega) (by omega) h4 h5) hk (by
                have := sumE2_zip a.kids b.kids
                rw [sumE2_append, ]
                have h6 := a.size_eq
                omega)
              exact ⟨n + 1, r, by rw [mrun_snoc, if_neg h1, if_pos h2, if_neg h3]; exact h⟩
          · obtain ⟨s1, s2, s3, s4⟩ := hg.step hz h1 h2
            by_cases h3 : (pick a b).2.has (vI (pick a b).1)
            · exact ⟨1, _, by rw [mrun_snoc, if_neg h1, if_neg h2, if_pos h3]⟩
            · by_cases h4 : 4000 < (pick a b).2.size
              · exact ⟨1, _, by rw [mrun_snoc, if_neg h1, if_neg h2, if_neg h3, if_pos h4]⟩
              · have h5 := openN_lt s2 s3 hg.slv hg.low
                obtain ⟨n, r, h⟩ := ihk _ (Nat.lt_of_lt_of_le h5 hk) _ _ _ (s4 h3) (Nat.le_refl _) (Nat.le_refl _)
                exact ⟨n + 1, r, by rw [mrun_snoc, if_neg h1, if_neg h2, if_neg h3, if_neg h4]; exact h⟩
end Go.Proofs.Ytlhnfdjidjgfgaa
