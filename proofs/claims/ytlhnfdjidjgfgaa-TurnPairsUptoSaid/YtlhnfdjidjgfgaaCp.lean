/-
  Plain: the critical pair of two rules at a position.
-/
import Derived.Test.YtlhnfdjidjgfgaaUxg
import Derived.Test.YtlhnfdjidjgfgaaIs1
import Derived.Test.YtlhnfdjidjgfgaaM2
import Derived.Test.YtlhnfdjidjgfgaaE80
import Derived.Test.YtlhnfdjidjgfgaaT31
namespace Go.Proofs.Ytlhnfdjidjgfgaa
open Go.RowKit Go.Shelf
set_option linter.unusedVariables false
set_option maxHeartbeats 400000

theorem withAt_consC (p : Int) (ps : List Int) (t s : T) : T.withAt (p :: ps) t s = .node t.head (t.kids.mapIdx fun i k => if (i : Int) + 1 = p then T.withAt ps k s else k) := by rw [T.withAt]
theorem sub_size_leC (bs : List T) (m : Nat) (hm : 1 ≤ m) (hb : ∀ i, i < bs.length → (gK bs i).size ≤ m) (t : T) : (t.sub bs).size ≤ t.size * m := by
  induction t using T.ind with
  | h t ih =>
    by_cases hn : t.head < 0
    · have h1 := t.size_pos
      by_cases hbd : boundB bs (-t.head - 1).toNat = true
      · rw [T.sub_var hn hbd]
        have h2 : (-t.head - 1).toNat < bs.length := by simp [boundB] at hbd; have := hbd.1; omega
        have := hb _ h2
        calc (gK bs (-t.head - 1).toNat).size ≤ 1 * m := by omega
          _ ≤ t.size * m := Nat.mul_le_mul_right _ h1
      · rw [T.sub_free hn (by simpa using hbd)]
        calc t.size = t.size * 1 := by omega
          _ ≤ t.size * m := Nat.mul_le_mul_left _ hm
    · rw [T.sub_pos hn, T.size_eq, T.size_eq t]
      have key : ∀ l : List T, (∀ i, i < l.length → ((gK l i).sub bs).size ≤ (gK l i).size * m) → sizeL (l.map (T.sub bs)) ≤ sizeL l * m := by
        intro l
        induction l with
        | nil => intro _; simp [sizeL]
        | cons x r ihr =>
          intro h
          have h0 := h 0 (by simp)
          simp only [gK, List.getD_cons_zero] at h0
          have h1 := ihr (fun i hi => by have := h (i + 1) (by simpa using hi); simpa only [gK, List.getD_cons_succ] using this)
          simp only [List.map_cons, sizeL, Nat.add_mul]; omega
      have := key t.kids ih
      have e : (T.node t.head (t.kids.map (T.sub bs))).kids = t.kids.map (T.sub bs) := rfl
      rw [e]; simp only [Nat.add_mul]; omega
theorem mapIdx_sizeC (g : T → T) (m : Nat) (hg : ∀ k : T, (g k).size ≤ k.size + m) (p : Int) : ∀ (l : List T) (c : Int), sizeL (l.mapIdx fun i k => if (i : Int) + c = p then g k else k) ≤ sizeL l + m
  | [], c => by simp [sizeL]
  | x :: r, c => by
    rw [List.mapIdx_cons]
    simp only [sizeL]
    by_cases h : ((0 : Nat) : Int) + c = p
    · rw [if_pos h]
      have e : (r.mapIdx fun i k => if ((i + 1 : Nat) : Int) + c = p then g k else k) = r := by
        apply List.ext_getElem (by simp)
        intro i h1 h2
        rw [List.getElem_mapIdx, if_neg (by omega)]
      rw [e]
      have := hg x; omega
    · rw [if_neg h]
      have e : (fun (i : Nat) (k : T) => if ((i + 1 : Nat) : Int) + c = p then g k else k) = fun (i : Nat) (k : T) => if (i : Int) + (c + 1) = p then g k else k := by
        funext i k
        have : (((i + 1 : Nat) : Int) + c = p) ↔ ((i : Int) + (c + 1) = p) := by omega
        simp only [this]
      rw [e]
      have := mapIdx_sizeC g m hg p r (c + 1); omega
theorem withAt_sizeC (s : T) : ∀ (p : List Int) (t : T), (T.withAt p t s).size ≤ t.size + s.size
  | [], t => by rw [T.withAt]; omega
  | p :: ps, t => by
    rw [withAt_consC, T.size_eq, T.size_eq t]
    have h := mapIdx_sizeC (fun k => T.withAt ps k s) s.size (fun k => withAt_sizeC s ps k) p t.kids 1
    simp only [T.kids] at h ⊢
    omega

open Classical in
/-- the canonical most general unifier, if there is one -/
noncomputable def canU (A B : T) : Option (Nat → T) := if h : ∃ σ, Canon (fun θ => A.inst θ = B.inst θ) σ then some h.choose else none
theorem canU_some {A B : T} {σ : Nat → T} (h : Canon (fun θ => A.inst θ = B.inst θ) σ) : canU A B = some σ := by
  have hx : ∃ σ, Canon (fun θ => A.inst θ = B.inst θ) σ := ⟨σ, h⟩
  unfold canU
  rw [dif_pos hx]
  exact congrArg some (hx.choose_spec.unique h)
theorem canU_none {A B : T} (h : ∀ θ, A.inst θ ≠ B.inst θ) : canU A B = none := by
  unfold canU
  rw [dif_neg]
  rintro ⟨σ, hs⟩
  exact h σ hs.sol
/-- two terms with their variables numbered anew, as of one claim -/
def npair (P Q : T) : T × T := (P.renum (orderL [P, Q] []), Q.renum (orderL [P, Q] []))
theorem npair_norm (P Q : T) : normF [⟨false, P, Q⟩] = [⟨false, (npair P Q).1, (npair P Q).2⟩] := rfl
theorem npair_ren {P Q : T} (hP : LV P) (hQ : LV Q) : P.ren (P.order []) = (npair P Q).1 ∧ Q.ren (Q.order (P.order [])) = (npair P Q).2 := by
  have e1 := T.order_ext P []
  have e2 := T.order_ext Q (P.order [])
  have hO : orderL [P, Q] [] = Q.order (P.order []) := rfl
  have hneg : ∀ x ∈ orderL [P, Q] [], x < 0 := orderL_neg _ _ (fun x hx => by simp at hx)
  have h3 := T.cov_ext e2.1 e1.2
  unfold npair
  rw [hO] at hneg ⊢
  exact ⟨by rw [← h3.2]; exact T.ren_renum hneg h3.1 hP, T.ren_renum hneg e2.2 hQ⟩
open Classical in
/-- what pair answers: none: too large; some none: the terms cannot be made one -/
noncomputable def pairF (X Y : T × T) (at_ : List Int) (A : T) : Option (Option (T × T)) :=
  match canU A Y.1 with
  | none => some none
  | some σ => if ∀ x, σ x ≠ vT x → fitN 0 1 (σ x) then
      (let n := npair ((T.withAt at_ X.1 Y.2).sub (listT (uN A Y.1) (bnd σ))) (X.2.sub (listT (uN A Y.1) (bnd σ)))
       if (treeF n.1).1 = 0 ∧ (treeF n.2).1 = 0 then some (some n) else none) else none
theorem can_varsG {N : Nat} {A B : T} {σ : Nat → T} (vA : VA N A) (vB : VA N B) (h : Canon (fun θ => A.inst θ = B.inst θ) σ) {x y : Nat} (hx : x < N) (hy : (σ x).has y) : y < N := by
  refine Classical.byContradiction fun hn => ?_
  have hA : ∀ t, VA N t → t.inst (fun z => if z = y then lfx else σ z) = t.inst σ := fun t ht => inst_congr t (fun i hi => by
    have := has_lt ht hi
    show (if i = y then lfx else σ i) = σ i
    rw [if_neg (by omega)])
  have h1 := h.gen (fun z => if z = y then lfx else σ z) (by
    show A.inst _ = B.inst _
    rw [hA A vA, hA B vB]; exact h.sol) x
  rw [if_neg (show ¬ x = y by omega)] at h1
  have h2 := inst_fix (h.lv x) h1 y hy
  simp only [if_true] at h2
  have h3 := congrArg T.head h2
  rw [vT_head] at h3
  have h4 : (2 : Int) = -(y : Int) - 1 := h3
  omega
theorem withAt_node (s : T) : ∀ (p : List Int) (t : T), ∀ z ∈ (T.withAt p t s).pre, (∃ q ∈ t.pre, z.head = q.head ∧ z.kids.length = q.kids.length) ∨ z ∈ s.pre
  | [], t, z, hz => by rw [T.withAt] at hz; exact .inr hz
  | p :: ps, t, z, hz => by
    rw [T.withAt, T.pre_eq] at hz
    rcases List.mem_cons.1 hz with rfl | hz
    · exact .inl ⟨t, self_pre t, rfl, by simp [T.kids]⟩
    · obtain ⟨i, hi, h2⟩ := mem_preL hz
      have hi' : i < t.kids.length := by simpa [T.kids] using hi
      have h2' : z ∈ (gK (t.kids.mapIdx fun i k => if (i : Int) + 1 = p then T.withAt ps k s else k) i).pre := h2
      rw [gK_mapIdx _ _ hi'] at h2'
      by_cases e : (i : Int) + 1 = p
      · rw [if_pos e] at h2'
        rcases withAt_node s ps _ z h2' with ⟨q, hq, h⟩ | h
        · exact .inl ⟨q, by rw [T.pre_eq]; exact List.mem_cons_of_mem _ (kid_pre_mem hi' hq), h⟩
        · exact .inr h
      · rw [if_neg e] at h2'
        exact .inl ⟨z, by rw [T.pre_eq]; exact List.mem_cons_of_mem _ (kid_pre_mem hi' h2'), rfl, rfl⟩
theorem sub_node (bs : List T) (t : T) : ∀ z ∈ (t.sub bs).pre, (∃ q ∈ t.pre, z.head = q.head ∧ z.kids.length = q.kids.length) ∨ ∃ i, i < bs.length ∧ z ∈ (gK bs i).pre := by
  induction t using T.ind with
  | h t ih =>
  intro z hz
  cases t with | node h ks =>
  rw [T.sub] at hz
  by_cases hn : h < 0
  · rw [if_pos hn] at hz
    by_cases hb : boundB bs (-h - 1).toNat = true
    · rw [if_pos hb] at hz
      unfold boundB at hb
      rw [Bool.and_eq_true] at hb
      exact .inr ⟨_, of_decide_eq_true hb.1, hz⟩
    · rw [if_neg hb] at hz
      exact .inl ⟨z, hz, rfl, rfl⟩
  · rw [if_neg hn, T.pre] at hz
    rcases List.mem_cons.1 hz with rfl | hz
    · exact .inl ⟨_, self_pre _, rfl, by simp [T.kids, subL_map]⟩
    · obtain ⟨i, hi, h2⟩ := mem_preL hz
      rw [subL_map] at hi h2
      have hi' : i < ks.length := by simpa using hi
      have h2' : z ∈ ((gK ks i).sub bs).pre := by
        have : gK (ks.map (T.sub bs)) i = (gK ks i).sub bs := by simp [gK, hi']
        rw [← this]; exact h2
      rcases ih i hi' z h2' with ⟨q, hq, h⟩ | h
      · exact .inl ⟨q, by rw [T.pre_eq]; exact List.mem_cons_of_mem _ (kid_pre_mem (l := ks) hi' hq), h⟩
      · exact .inr h
/-- what is asked of the two rules: good ones, the second moved on -/
structure PairOk (X Y : T × T) (A : T) : Prop where
  x1 : (treeF X.1).1 = 0
  x2 : (treeF X.2).1 = 0
  a : (treeF A).1 = 0
  y : ∃ (m : Nat) (B C : T), m ≤ 8 ∧ (treeF B).1 = 0 ∧ (treeF C).1 = 0 ∧ Y = (shT m B, shT m C)
theorem sh_okg {x : T} (hx : (treeF x).1 = 0) (m : Nat) (hm : m ≤ 8) : (∀ z ∈ (shT m x).pre, -20 ≤ z.head ∧ z.head ≤ 100 ∧ (z.head < 0 → z.kids.length = 0)) ∧ (shT m x).size ≤ 40 := by
  obtain ⟨ox, sx, _⟩ := ok_parts hx
  refine ⟨fun z hz => ?_, by rw [sh_size]; exact sx⟩
  obtain ⟨q, hq, rfl⟩ := sh_node m x z hz
  have h1 := okN_num (ox q hq)
  rw [sh_head, sh_kids, shL_length]
  refine ⟨by split <;> omega, by split <;> omega, fun h => h1.2.2.2.2 (by by_cases e : q.head < 0; exact e; rw [if_neg e] at h; exact h)⟩
theorem ok_okg {x : T} (hx : (treeF x).1 = 0) : (∀ z ∈ x.pre, -20 ≤ z.head ∧ z.head ≤ 100 ∧ (z.head < 0 → z.kids.length = 0)) ∧ x.size ≤ 40 := by
  obtain ⟨ox, sx, _⟩ := ok_parts hx
  exact ⟨fun z hz => by have h1 := okN_num (ox z hz); exact ⟨by omega, by omega, h1.2.2.2.2⟩, sx⟩
theorem PairOk.solve {X Y : T × T} {A : T} (h : PairOk X Y A) : OkG A ∧ OkG Y.1 ∧ VA (uN A Y.1) A ∧ VA (uN A Y.1) Y.1 ∧ uN A Y.1 ≤ 100 := by
  obtain ⟨m, B, C, hm, hB, hC, e⟩ := h.y
  have eY : Y.1 = shT m B := by rw [e]
  rw [eY]
  have g1 := ok_okg h.a; have g2 := sh_okg hB m hm
  have key : ∀ t : T, ((∀ z ∈ t.pre, -20 ≤ z.head ∧ z.head ≤ 100 ∧ (z.head < 0 → z.kids.length = 0)) ∧ t.size ≤ 40) → OkG t ∧ ∀ N : Nat, t.most ≤ (N : Int) → VA N t := fun t ht =>
    ⟨⟨fun z hz => by have := ht.1 z hz; omega, by have := ht.2; omega, by have := deep_le t; have := ht.2; omega⟩, fun N hN => ⟨fun z hz hn => ⟨List.eq_nil_of_length_eq_zero ((ht.1 z hz).2.2 hn), by have := head_le_most t z hz; unfold vI; omega⟩, by have := ht.2; omega⟩⟩
  have hu := uN_eq A (shT m B)
  have hm1 := sh_most hB m hm
  have hm2 : A.most ≤ 8 := most_le_of (by omega) fun z hz => by have h1 := okN_num ((ok_parts h.a).1 z hz); omega
  simp only [mostL] at hu
  have := A.most_nonneg
  have := (shT m B).most_nonneg
  exact ⟨(key A g1).1, (key _ g2).1, (key A g1).2 _ (by omega), (key _ g2).2 _ (by omega), by omega⟩
theorem has_nodeC {p y : T} (hy : y ∈ p.pre) (hn : y.head < 0) : p.has (-y.head - 1).toNat := by
  unfold T.has
  rw [← cntV_pre]
  have e : -(((-y.head - 1).toNat : Nat) : Int) - 1 = y.head := by omega
  rw [e]
  generalize p.pre = l at hy
  induction l with
  | nil => cases hy
  | cons a r ih =>
    rw [cntV]
    rcases List.mem_cons.1 hy with rfl | h
    · rw [if_pos rfl]; omega
    · have := ih h; omega
/-- what can be said of what the pair is made of -/
structure Tame (t : T) : Prop where
  hd : ∀ z ∈ t.pre, -1000 ≤ z.head
  lv : LV t
  size : t.size ≤ 10000
theorem pair_tame {X Y : T × T} {A : T} (h : PairOk X Y A) {σ : Nat → T} (hc : Canon (fun θ => A.inst θ = Y.1.inst θ) σ) (hf : ∀ x, σ x ≠ vT x → fitN 0 1 (σ x)) (at_ : List Int) :
    (T.withAt at_ X.1 Y.2).low ∧ (T.withAt at_ X.1 Y.2).size ≤ 80 ∧ X.2.low ∧ Tame ((T.withAt at_ X.1 Y.2).sub (listT (uN A Y.1) (bnd σ))) ∧ Tame (X.2.sub (listT (uN A Y.1) (bnd σ))) ∧ ∀ i, i < (listT (uN A Y.1) (bnd σ)).length → (gK (listT (uN A Y.1) (bnd σ)) i).size ≤ 40 := by
  obtain ⟨_, _, vA, vB, hN⟩ := h.solve
  obtain ⟨m, B, C, hm, hB, hC, e⟩ := h.y
  have eY : Y.2 = shT m C := by rw [e]
  have gX := ok_okg h.x1; have gR := ok_okg h.x2; have gC := sh_okg hC m hm
  rw [← eY] at gC
  have gW : ∀ z ∈ (T.withAt at_ X.1 Y.2).pre, -20 ≤ z.head ∧ (z.head < 0 → z.kids.length = 0) := fun z hz => by
    rcases withAt_node Y.2 at_ X.1 z hz with ⟨q, hq, e1, e2⟩ | hz
    · have := gX.1 q hq; rw [e1, e2]; exact ⟨this.1, this.2.2⟩
    · have := gC.1 z hz; exact ⟨this.1, this.2.2⟩
  have sW : (T.withAt at_ X.1 Y.2).size ≤ 80 := by have := withAt_sizeC Y.2 at_ X.1; have := gX.2; have := gC.2; omega
  have hb : ∀ i, i < (listT (uN A Y.1) (bnd σ)).length → (gK (listT (uN A Y.1) (bnd σ)) i).size ≤ 40 ∧ ∀ z ∈ (gK (listT (uN A Y.1) (bnd σ)) i).pre, -1000 ≤ z.head ∧ (z.head < 0 → z.kids.length = 0) := fun i hi => by
    rw [listT_length] at hi
    rw [listT_gK hi]
    unfold bnd
    by_cases e : σ i = vT i
    · rw [if_pos e]; exact ⟨by decide, fun z hz => by
        have : z = zeroT := by simpa [zeroT, T.pre, preL] using hz
        subst this; exact ⟨by decide, fun _ => rfl⟩⟩
    · rw [if_neg e]
      have hfi := hf i e
      refine ⟨by unfold fitN at hfi; omega, fun z hz => ⟨?_, fun hn => ?_⟩⟩
      · by_cases hn : z.head < 0
        · have h1 := can_varsG vA vB hc hi (has_nodeC hz hn)
          omega
        · omega
      · rw [hc.lv i z hz hn]; rfl
  have tame : ∀ t : T, (∀ z ∈ t.pre, -20 ≤ z.head ∧ (z.head < 0 → z.kids.length = 0)) → t.size ≤ 80 → Tame (t.sub (listT (uN A Y.1) (bnd σ))) := fun t ht hs => by
    have key : ∀ z ∈ (t.sub (listT (uN A Y.1) (bnd σ))).pre, -1000 ≤ z.head ∧ (z.head < 0 → z.kids.length = 0) := fun z hz => by
      rcases sub_node _ t z hz with ⟨q, hq, e1, e2⟩ | ⟨i, hi, hz⟩
      · have := ht q hq; rw [e1, e2]; exact ⟨by omega, this.2⟩
      · exact (hb i hi).2 z hz
    refine ⟨fun z hz => (key z hz).1, fun z hz hn => List.eq_nil_of_length_eq_zero ((key z hz).2 hn), ?_⟩
    have h1 := sub_size_leC (listT (uN A Y.1) (bnd σ)) 40 (by omega) (fun i hi => (hb i hi).1) t
    have h2 : t.size * 40 ≤ 80 * 40 := Nat.mul_le_mul_right _ hs
    omega
  exact ⟨low_of_heads _ fun z hz => by have := (gW z hz).1; omega, sW, low_of_heads _ fun z hz => by have := (gR.1 z hz).1; omega, tame _ gW sW, tame _ (fun z hz => by have := gR.1 z hz; exact ⟨this.1, this.2.2⟩) (by have := gR.2; omega), fun i hi => (hb i hi).1⟩
end Go.Proofs.Ytlhnfdjidjgfgaa
