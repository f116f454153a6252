/-
  Plain: what a most general unifier of good terms is made of; and its use.
-/
import Derived.Test.YtlhnfdjidjgfgaaUx8
import Derived.Test.YtlhnfdjidjgfgaaT20
namespace Go.Proofs.Ytlhnfdjidjgfgaa
open Go.RowKit
set_option linter.unusedVariables false
set_option maxHeartbeats 400000

theorem instL_map (θ : Nat → T) : ∀ l : List T, instL θ l = l.map (T.inst θ)
  | [] => rfl
  | x :: r => by simp [instL, instL_map θ r]
def lfx : T := .node 2 []
theorem lfx_inst (θ : Nat → T) : lfx.inst θ = lfx := by
  rw [inst_node (by show ¬ (2 : Int) < 0; omega)]; rfl
mutual
/-- nodes that are not allowed are turned away -/
noncomputable def rep : T → T
  | .node h ks => if h < 0 then .node h ks else if badHead h ∨ badKids h ks.length then lfx else .node h (repL ks)
noncomputable def repL : List T → List T
  | [] => []
  | t :: r => rep t :: repL r
end
theorem repL_map : ∀ l : List T, repL l = l.map rep
  | [] => rfl
  | x :: r => by simp [repL, repL_map r]
theorem rep_eq (t : T) : rep t = if t.head < 0 then t else if badHead t.head ∨ badKids t.head t.kids.length then lfx else .node t.head (t.kids.map rep) := by
  cases t with
  | node h ks => rw [rep, repL_map]; rfl
theorem rep_node (h : Int) (ks : List T) : rep (.node h ks) = if h < 0 then .node h ks else if badHead h ∨ badKids h ks.length then lfx else .node h (ks.map rep) := by
  rw [rep, repL_map]
theorem rep_inst (σ : Nat → T) {t : T} : (∀ z ∈ t.pre, okN z) → rep (t.inst σ) = t.inst (fun x => rep (σ x)) := by
  induction t using T.ind with
  | h t ih =>
    intro hok
    by_cases hn : t.head < 0
    · rw [inst_var hn, inst_var hn]
    · have h0 := hok t (self_pre t)
      rw [inst_node hn, inst_node hn, rep_node]
      rw [if_neg hn, if_neg (by rw [instL_map, List.length_map]; exact fun h => h.elim h0.1 h0.2), instL_map, instL_map, List.map_map]
      congr 1
      refine List.map_congr_left fun x hx => ?_
      obtain ⟨i, hi, rfl⟩ := List.getElem_of_mem hx
      have := ih i hi (fun z hz => hok z (by rw [T.pre_eq]; exact List.mem_cons_of_mem _ (kid_pre_mem hi hz)))
      rw [gK_get hi] at this
      exact this
theorem rep_fix {σ : Nat → T} {t : T} : LV t → (∀ y, t.has y → y < 8) → t.inst (fun x => rep (σ x)) = rep t → ∀ z ∈ t.pre, okN z := by
  induction t using T.ind with
  | h t ih =>
    intro hl hv he z hz
    by_cases hn : t.head < 0
    · have h1 := hl.leaf hn
      have h2 := hv (vI t) (by rw [h1, vI_vT]; simp [vT, T.has, T.times, timesL])
      rw [h1] at hz
      have h3 : z = vT (vI t) := by simpa [vT, T.pre, preL] using hz
      rw [h3]
      refine ⟨?_, ?_⟩
      · rw [vT_head]; unfold badHead; omega
      · show ¬ badKids _ 0
        rw [vT_head]; unfold badKids; omega
    · rw [inst_node hn, rep_eq, if_neg hn] at he
      by_cases hb : badHead t.head ∨ badKids t.head t.kids.length
      · rw [if_pos hb] at he
        have h1 : t.head = 2 := congrArg T.head he
        have h2 : instL (fun x => rep (σ x)) t.kids = [] := congrArg T.kids he
        rw [instL_map] at h2
        have h3 : t.kids.length = 0 := by have := congrArg List.length h2; simpa using this
        rw [h1, h3] at hb
        exfalso
        rcases hb with hb | hb
        · unfold badHead at hb; omega
        · unfold badKids at hb; omega
      · rw [if_neg hb] at he
        have h2 : instL (fun x => rep (σ x)) t.kids = t.kids.map rep := congrArg T.kids he
        rw [T.pre_eq] at hz
        rcases List.mem_cons.1 hz with rfl | hz
        · exact ⟨fun h => hb (.inl h), fun h => hb (.inr h)⟩
        · obtain ⟨i, hi, hz⟩ := mem_preL hz
          refine ih i hi (hl.kid hi) (fun y hy => hv y (has_kid hi hy)) ?_ z hz
          have h3 : gK (instL (fun x => rep (σ x)) t.kids) i = gK (t.kids.map rep) i := by rw [h2]
          rw [gK_instL _ hi, gK_map hi] at h3
          exact h3
theorem uN_le {A B : T} (oA : OkT A) (oB : OkT B) : uN A B ≤ 8 := by
  have h := uN_eq A B
  have h1 := most_le A oA.ok; have h2 := most_le B oB.ok
  simp only [mostL] at h; omega
theorem uN_va {A B : T} (oA : OkT A) (oB : OkT B) : VA (uN A B) A ∧ VA (uN A B) B := by
  have h := uN_eq A B
  exact ⟨oA.va (by simp only [mostL] at h; omega), oB.va (by simp only [mostL] at h; omega)⟩
theorem can_vars {A B : T} {σ : Nat → T} (oA : OkT A) (oB : OkT B) (h : Canon (fun θ => A.inst θ = B.inst θ) σ) {x y : Nat} (hx : x < uN A B) (hy : (σ x).has y) : y < uN A B := by
  refine Classical.byContradiction fun hn => ?_
  have hA : ∀ t, VA (uN A B) t → t.inst (fun z => if z = y then lfx else σ z) = t.inst σ := fun t ht => inst_congr t (fun i hi => by
    have := has_lt ht hi
    show (if i = y then lfx else σ i) = σ i
    rw [if_neg (by omega)])
  have h1 := h.gen (fun z => if z = y then lfx else σ z) (by
    show A.inst _ = B.inst _
    rw [hA A (uN_va oA oB).1, hA B (uN_va oA oB).2]; exact h.sol) x
  rw [if_neg (show ¬ x = y by omega)] at h1
  have h2 := inst_fix (h.lv x) h1 y hy
  simp only [if_true] at h2
  have h3 := congrArg T.head h2
  rw [vT_head] at h3
  have h4 : (2 : Int) = -(y : Int) - 1 := h3
  omega
theorem can_ok {A B : T} {σ : Nat → T} (oA : OkT A) (oB : OkT B) (h : Canon (fun θ => A.inst θ = B.inst θ) σ) {x : Nat} (hx : x < uN A B) : ∀ z ∈ (σ x).pre, okN z := by
  have h1 := h.gen (fun y => rep (σ y)) (by
    show A.inst _ = B.inst _
    rw [← rep_inst σ oA.ok, ← rep_inst σ oB.ok]; exact congrArg rep h.sol) x
  exact rep_fix (h.lv x) (fun y hy => by have := can_vars oA oB h hx hy; have := uN_le oA oB; omega) h1
theorem inst_ok {N : Nat} {σ : Nat → T} (hσ : ∀ x, x < N → ∀ z ∈ (σ x).pre, okN z) {t : T} : VA N t → (∀ z ∈ t.pre, okN z) → ∀ z ∈ (t.inst σ).pre, okN z := by
  induction t using T.ind with
  | h t ih =>
    intro hv hok z hz
    by_cases hn : t.head < 0
    · rw [inst_var hn] at hz
      exact hσ _ (hv.leaf hn).2 z hz
    · rw [inst_node hn, T.pre_eq] at hz
      rcases List.mem_cons.1 hz with rfl | hz
      · have h0 := hok t (self_pre t)
        refine ⟨h0.1, ?_⟩
        show ¬ badKids t.head (instL σ t.kids).length
        rw [instL_map, List.length_map]; exact h0.2
      · obtain ⟨i, hi, hz⟩ := mem_preL hz
        have hi : i < (instL σ t.kids).length := hi
        rw [instL_map, List.length_map] at hi
        have hz : z ∈ (gK (instL σ t.kids) i).pre := hz
        rw [gK_instL σ hi] at hz
        exact ih i hi (hv.kid hi) (fun z hz => hok z (by rw [T.pre_eq]; exact List.mem_cons_of_mem _ (kid_pre_mem hi hz))) z hz
theorem bindL_of : ∀ (bs : List T) (k : Int), (∀ i, i < bs.length → gK bs i = zeroT ∨ (treeF (gK bs i)).1 = 0) → (∀ i, i < bs.length → gK bs i = zeroT ∨ (gK bs i).head ≠ 0) → bindL bs k = (0, 0)
  | [], _, _, _ => rfl
  | t :: r, k, h, h2 => by
    have h0 : t = zeroT ∨ (treeF t).1 = 0 := h 0 (by simp)
    have h1 : t = zeroT ∨ t.head ≠ 0 := h2 0 (by simp)
    have hr := bindL_of r (k + 1) (fun i hi => h (i + 1) (by simpa using hi)) (fun i hi => h2 (i + 1) (by simpa using hi))
    unfold bindL
    rcases h1 with rfl | h1
    · rw [if_pos (show zeroT.head = 0 from rfl), if_neg (by simp [zeroT, T.kids]), hr]
    · rcases h0 with rfl | h0
      · exact absurd rfl h1
      · rw [if_neg h1, if_neg (by simpa using h0), hr]
/-- the row of bindings is a good one -/
theorem FitU.row {A B : T} {σ : Nat → T} (oA : OkT A) (oB : OkT B) (h : FitU A B σ) : bindF (listT (uN A B) (bnd σ)) = (0, 0) := by
  have h8 := uN_le oA oB
  have hok : ∀ i, i < uN A B → σ i ≠ vT i → (treeF (σ i)).1 = 0 := fun i hi hne => by
    have h1 := h.fit i hne
    unfold fitN at h1
    exact treeF_ok.2 ⟨by omega, by omega, can_ok oA oB h.can hi⟩
  unfold bindF
  rw [listT_length, if_neg (by omega)]
  refine bindL_of _ 0 (fun i hi => ?_) (fun i hi => ?_)
  · rw [listT_length] at hi
    rw [listT_gK hi]
    unfold bnd
    by_cases e : σ i = vT i
    · rw [if_pos e]; exact .inl rfl
    · rw [if_neg e]; exact .inr (hok i hi e)
  · rw [listT_length] at hi
    rw [listT_gK hi]
    unfold bnd
    by_cases e : σ i = vT i
    · rw [if_pos e]; exact .inl rfl
    · rw [if_neg e]; exact .inr (okN_num (can_ok oA oB h.can hi (σ i) (self_pre _))).1
/-- to put in what the row says is to put in σ -/
theorem FitU.sub {A B : T} {σ : Nat → T} (oA : OkT A) (oB : OkT B) (h : FitU A B σ) {t : T} : LV t → t.sub (listT (uN A B) (bnd σ)) = t.inst σ := by
  induction t using T.ind with
  | h t ih =>
    intro hl
    by_cases hn : t.head < 0
    · have h1 := hl.leaf hn
      rw [inst_var hn]
      conv => lhs; rw [h1]
      unfold vT
      rw [T.sub, if_pos (by omega), show (-(-((vI t : Nat) : Int) - 1) - 1).toNat = vI t by omega]
      unfold boundB
      rw [listT_length]
      by_cases hi : vI t < uN A B
      · rw [listT_gK hi]
        unfold bnd
        by_cases e : σ (vI t) = vT (vI t)
        · rw [if_pos e, if_neg (by simp [zeroT, T.head]), e]; rfl
        · rw [if_neg e, if_pos (by simpa [hi] using (okN_num (can_ok oA oB h.can hi (σ (vI t)) (self_pre _))).1)]
      · rw [if_neg (by simp [hi]), h.low _ (by omega)]; rfl
    · rw [T.sub_pos hn, inst_node hn, instL_map]
      congr 1
      refine List.map_congr_left fun x hx => ?_
      obtain ⟨i, hi, rfl⟩ := List.getElem_of_mem hx
      have := ih i hi (hl.kid hi)
      rw [gK_get hi] at this
      exact this
/-- ROBINSON: it makes both one; done twice it is done once -/
theorem FitU.makes {A B : T} {σ : Nat → T} (hA : (treeF A).1 = 0) (hB : (treeF B).1 = 0) (h : FitU A B σ) :
    doF A (listT (uN A B) (bnd σ)) = doF B (listT (uN A B) (bnd σ)) ∧
    (((doF A (listT (uN A B) (bnd σ))).2 = (10, 0)) ∨ ((doF A (listT (uN A B) (bnd σ))).2 = (0, 0) ∧
      doF (doF A (listT (uN A B) (bnd σ))).1 (listT (uN A B) (bnd σ)) = ((doF A (listT (uN A B) (bnd σ))).1, (0, 0)))) := by
  have kA := treeF_ok.1 hA; have kB := treeF_ok.1 hB
  have oA : OkT A := ⟨kA.2.2, by omega, by omega⟩
  have oB : OkT B := ⟨kB.2.2, by omega, by omega⟩
  have hv := uN_va oA oB
  have hrow := h.row oA oB
  have hs : A.inst σ = B.inst σ := h.can.sol
  have dA : doF A (listT (uN A B) (bnd σ)) = if (treeF (A.inst σ)).1 ≠ 0 then (zeroT, (10, 0)) else (A.inst σ, (0, 0)) := by
    unfold doF
    rw [if_neg (by simpa using hA), hrow, if_neg (by simp), h.sub oA oB hv.1.lv]
  have dB : doF B (listT (uN A B) (bnd σ)) = if (treeF (A.inst σ)).1 ≠ 0 then (zeroT, (10, 0)) else (A.inst σ, (0, 0)) := by
    unfold doF
    rw [if_neg (by simpa using hB), hrow, if_neg (by simp), h.sub oA oB hv.2.lv, hs]
  refine ⟨dA.trans dB.symm, ?_⟩
  rw [dA]
  by_cases hf : (treeF (A.inst σ)).1 = 0
  · refine .inr ?_
    rw [if_neg (by simpa using hf)]
    refine ⟨rfl, ?_⟩
    have hl : LV (A.inst σ) := LV.inst h.can.lv A
    have hi : (A.inst σ).inst σ = A.inst σ := by
      rw [inst_inst]
      exact inst_congr A (fun i _ => h.can.gen σ h.can.sol i)
    unfold doF
    rw [if_neg (by simpa using hf), hrow, if_neg (by simp), h.sub oA oB hl, hi, if_neg (by simpa using hf)]
  · exact .inl (by rw [if_pos hf])
end Go.Proofs.Ytlhnfdjidjgfgaa
