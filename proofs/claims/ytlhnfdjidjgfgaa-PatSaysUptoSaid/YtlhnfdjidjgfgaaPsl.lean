/-
  Plain: the document's instances are pat.Do's.
-/
import Derived.Test.YtlhnfdjidjgfgaaPs3
import Derived.Test.YtlhnfdjidjgfgaaKp
namespace Go.Proofs.Ytlhnfdjidjgfgaa
open Go.RowKit Go.Shelf
set_option linter.unusedVariables false

theorem firstC_zero : ∀ {ts : List T}, firstC ts = 0 → ∀ t ∈ ts, (treeF t).1 = 0
  | [], _ => fun t ht => by cases ht
  | x :: r, h => by
    unfold firstC at h
    by_cases h0 : (treeF x).1 ≠ 0
    · rw [if_pos h0] at h; exact absurd h h0
    · rw [if_neg h0] at h
      intro t ht
      rcases List.mem_cons.1 ht with rfl | ht
      · simpa using h0
      · exact firstC_zero h t ht
theorem form_of_code {ar : List Int} {y : List Fc} (h : codeF ar y = 0) : formF y = 0 := by
  obtain ⟨h1, h2⟩ := codeF_zero.1 h
  unfold formF
  rw [if_neg (by omega)]
  exact firstC_none fun j t _ ht => (h2 t (List.mem_of_getElem? ht)).1
theorem form_zero {y : List Fc} (h : formF y = 0) : y.length ≤ 6 ∧ ∀ t ∈ treesF y, (treeF t).1 = 0 := by
  unfold formF at h
  split at h
  · cases h
  · exact ⟨by omega, firstC_zero h⟩
theorem sigN_kids {ar : List Int} {h : Int} {ks ks' : List T} (hl : ks'.length = ks.length) (hs : sigN ar (.node h ks)) : sigN ar (.node h ks') := by
  unfold sigN at hs ⊢
  exact ⟨hs.1, fun h0 => by have := hs.2 h0; simp only [T.kids] at this ⊢; rw [hl]; exact this⟩
mutual
theorem sub_sigA {ar : List Int} {bs : List T} (hb : ∀ i, boundB bs i = true → ∀ x ∈ (gK bs i).pre, sigN ar x) : ∀ t : T, (∀ x ∈ t.pre, sigN ar x) → ∀ x ∈ (t.sub bs).pre, sigN ar x
  | .node h ks, hs => by
    rw [T.sub]
    split
    · split
      · rename_i hbd; exact hb _ hbd
      · exact hs
    · intro x hx
      rw [T.pre] at hx
      rcases List.mem_cons.1 hx with rfl | hx
      · exact sigN_kids (ks := ks) (by rw [subL_map]; simp) (hs (.node h ks) (by rw [T.pre]; exact List.mem_cons_self ..))
      · exact subL_sigA hb ks (fun z hz => hs z (by rw [T.pre]; exact List.mem_cons_of_mem _ hz)) x hx
theorem subL_sigA {ar : List Int} {bs : List T} (hb : ∀ i, boundB bs i = true → ∀ x ∈ (gK bs i).pre, sigN ar x) : ∀ l : List T, (∀ x ∈ preL l, sigN ar x) → ∀ x ∈ preL (subL bs l), sigN ar x
  | [], hs => fun x hx => by simp [subL, preL] at hx
  | t :: r, hs => fun x hx => by
    rw [subL, preL] at hx
    rcases List.mem_append.1 hx with hx | hx
    · exact sub_sigA hb t (fun z hz => hs z (by rw [preL]; exact List.mem_append_left _ hz)) x hx
    · exact subL_sigA hb r (fun z hz => hs z (by rw [preL]; exact List.mem_append_right _ hz)) x hx
end
theorem mostL_le {n : Int} (h0 : 0 ≤ n) : ∀ {l : List T}, (∀ t ∈ l, t.most ≤ n) → mostL l ≤ n
  | [], _ => by simpa [mostL] using h0
  | t :: r, h => by
    have h1 := h t (List.mem_cons_self ..)
    have h2 := mostL_le h0 (l := r) (fun u hu => h u (List.mem_cons_of_mem _ hu))
    simp only [mostL]; omega
theorem most_le_of {n : Int} (h0 : 0 ≤ n) (t : T) : (∀ x ∈ t.pre, x.head < 0 → -x.head ≤ n) → t.most ≤ n := by
  induction t using T.ind with
  | h t ih =>
  intro h
  have h1 : mostL t.kids ≤ n := mostL_le h0 fun u hu => by
    obtain ⟨i, hi, rfl⟩ := List.getElem_of_mem hu
    have := ih i hi (fun x hx => h x (by rw [T.pre_eq]; exact List.mem_cons_of_mem _ (mem_preLs.2 ⟨_, hu, by rw [gK_get hi] at hx; exact hx⟩)))
    rw [gK_get hi] at this; exact this
  have h2 := T.most_eq t
  by_cases hn : t.head < 0
  · have h3 := h t (self_pre t) hn
    rw [if_pos hn] at h2; omega
  · rw [if_neg hn] at h2; omega
/-- a pattern has all the variables of its claim -/
theorem patF_has {c : List Fc} {p : T} (hok : ∀ u ∈ treesF c, okA u) (hp : p ∈ patF c) : okA p ∧ ∀ u ∈ treesF c, ∀ x ∈ u.pre, x.head < 0 → p.has (-x.head - 1).toNat := by
  unfold patF at hp
  rcases patFold_mem.1 hp with hp | ⟨hp, _, hlen⟩
  · cases hp
  obtain ⟨u0, hu0, hpu⟩ := mem_preLs.1 hp
  have hpok : okA p := fun x hx => hok u0 hu0 x ((pre_all hpu).1 x hx)
  have hall := foldl_preL (treesF c) hok []
  have hpo := foldl_pre p hpok []
  have hback : ∀ z ∈ orderL (treesF c) [], z ∈ p.order [] := by
    refine sub_of_len _ _ (by rw [← hpo]; exact foldV_nodup List.nodup_nil) (by rw [← hall]; exact foldV_nodup List.nodup_nil) (fun z hz => ?_) (by omega)
    rw [← hpo] at hz
    rw [← hall]
    rcases mem_foldV.1 hz with hz | ⟨x, hx, h1, h2⟩
    · cases hz
    · exact mem_foldV.2 (.inr ⟨x, mem_preLs.2 ⟨u0, hu0, (pre_all hpu).1 x hx⟩, h1, h2⟩)
  refine ⟨hpok, fun u hu x hx hn => ?_⟩
  have hz : x.head ∈ p.order [] := hback _ (by rw [← hall]; exact mem_foldV.2 (.inr ⟨x, mem_preLs.2 ⟨u, hu, hx⟩, hn, rfl⟩))
  rw [← hpo] at hz
  rcases mem_foldV.1 hz with hz | ⟨y, hy, h1, h2⟩
  · cases hz
  rw [h2]; exact has_node hy h1
theorem patFilter (n : Nat) : ∀ (l L : List T), l.foldl (patStep n) (L.filter fun x => decide (0 < x.head ∧ (x.order []).length = n)) = (l.foldl addT L).filter fun x => decide (0 < x.head ∧ (x.order []).length = n)
  | [], L => rfl
  | x :: r, L => by
    rw [List.foldl_cons, List.foldl_cons, ← patFilter n r (addT L x)]
    congr 1
    unfold patStep
    by_cases hg : 0 < x.head ∧ (x.order []).length = n
    · rw [if_pos hg]
      unfold addT
      by_cases hm : x ∈ L
      · rw [if_pos hm, if_pos (List.mem_filter.2 ⟨hm, decide_eq_true hg⟩)]
      · rw [if_neg hm, if_neg (fun h => hm (List.mem_filter.1 h).1), List.filter_append]
        simp [hg]
    · rw [if_neg hg]
      unfold addT
      by_cases hm : x ∈ L
      · rw [if_pos hm]
      · rw [if_neg hm, List.filter_append]
        simp only [List.filter_cons, hg, decide_false, List.filter_nil]
        simp
theorem patF_filter {c : List Fc} (hg : ∀ t ∈ treesF c, (treeF t).1 = 0) : patF c = (subsF (treesF c)).filter (goodPt c) := by
  unfold patF
  have h := patFilter (orderL (treesF c) []).length (preL (treesF c)) []
  rw [List.filter_nil] at h
  rw [h]
  unfold subsF
  refine List.filter_congr fun x hx => ?_
  have h0 := treeF_ok.1 (subsF_good hg x hx)
  have h1 : x.head ≠ 0 := okA.nz (fun z hz => h0.2.2 z hz) x (self_pre x)
  unfold goodPt
  rw [Bool.eq_iff_iff]
  simp only [decide_eq_true_eq]
  constructor
  · rintro ⟨h2, h3⟩; exact ⟨by omega, h3⟩
  · rintro ⟨h2, h3⟩; exact ⟨by omega, h3⟩
theorem flatMap_if {α β : Type} {g : α → Bool} {f : α → List β} : ∀ l : List α, (l.flatMap fun x => if g x = true then f x else []) = (l.filter g).flatMap f
  | [] => rfl
  | x :: r => by
    have ih := flatMap_if (g := g) (f := f) r
    rw [List.flatMap_cons, ih, List.filter_cons]
    cases hx : g x <;> simp
theorem pairs_filterMap {β : Type} {f : T × T → Option β} : ∀ (ps ts : List T), (pairsT ps ts).filterMap f = ps.flatMap fun p => ts.filterMap fun t => f (p, t)
  | [], ts => rfl
  | p :: r, ts => by
    have ih := pairs_filterMap (f := f) r ts
    show ((ts.map fun t => (p, t)) ++ pairsT r ts).filterMap f = _
    rw [List.filterMap_append, ih, List.flatMap_cons, List.filterMap_map]; rfl
theorem ofF_pairs {c : List Fc} {A : List T} (hg : ∀ t ∈ treesF c, (treeF t).1 = 0) : ofD c A = (pairsT (patF c) A).filterMap fun pt => instOf (varsC c) c pt.1 pt.2 := by
  rw [pairs_filterMap, patF_filter hg]
  unfold ofD partK
  exact flatMap_if _
theorem step_eq {ar : List Int} {K : List (List Fc)} {y : List Fc} (hK : K.length ≤ 60) (hc : formF y = 0 → codeF ar y = 0) :
    ((addF ar K y).2 = true ∧ ((addD K y).length ≤ 60 ∧ formF y = 0) ∧ (addF ar K y).1 = addD K y) ∨ ((addF ar K y).2 = false ∧ ¬ ((addD K y).length ≤ 60 ∧ formF y = 0)) := by
  unfold addF addD
  by_cases h : codeF ar y ≠ 0
  · rw [if_pos h]
    exact .inr ⟨rfl, fun h2 => h (hc h2.2)⟩
  · rw [if_neg h]
    have hf := form_of_code (show codeF ar y = 0 by simpa using h)
    by_cases hm : y ∈ K
    · rw [if_pos hm, if_pos hm]
      exact .inl ⟨decide_eq_true hK, ⟨hK, hf⟩, rfl⟩
    · rw [if_neg hm, if_neg hm]
      by_cases hl : K.length + 1 ≤ 60
      · exact .inl ⟨decide_eq_true hl, ⟨by simpa using hl, hf⟩, rfl⟩
      · exact .inr ⟨decide_eq_false hl, fun h2 => hl (by simpa using h2.1)⟩
theorem go_eq {ar : List Int} {c : List Fc} {N : Nat} : ∀ (l : List (T × T)) (K : List (List Fc)), (∀ pt ∈ l, ((fitF pt.1 pt.2).isSome = true → instOf N c pt.1 pt.2 = some (subC (fitLst pt.1 pt.2) c) ∧ (formF (subC (fitLst pt.1 pt.2) c) = 0 → codeF ar (subC (fitLst pt.1 pt.2) c) = 0)) ∧ ((fitF pt.1 pt.2).isSome = false → instOf N c pt.1 pt.2 = none)) → K.length ≤ 60 →
    (goD (l.filterMap fun pt => instOf N c pt.1 pt.2) K).2 = (instGo ar c l K).2 ∧ ((instGo ar c l K).2 = true → (goD (l.filterMap fun pt => instOf N c pt.1 pt.2) K).1 = (instGo ar c l K).1)
  | [], K, _, _ => ⟨rfl, fun _ => rfl⟩
  | pt :: r, K, h, hK => by
    have h0 := h pt (List.mem_cons_self ..)
    have hr := fun (K : List (List Fc)) => go_eq (ar := ar) (c := c) (N := N) r K (fun q hq => h q (List.mem_cons_of_mem _ hq))
    cases hf : (fitF pt.1 pt.2).isSome with
    | false =>
      rw [instGo_no hf, List.filterMap_cons, h0.2 hf]
      exact hr K hK
    | true =>
      obtain ⟨h1, h2⟩ := h0.1 hf
      rw [List.filterMap_cons, h1]
      rcases step_eq (ar := ar) hK h2 with ⟨e1, e2, e3⟩ | ⟨e1, e2⟩
      · rw [instGo_go hf e1, e3]
        show (goD (_ :: _) K).2 = _ ∧ (_ → (goD (_ :: _) K).1 = _)
        rw [goD, if_pos e2]
        exact hr _ e2.1
      · rw [instGo_stop hf e1, e1]
        show (goD (_ :: _) K).2 = _ ∧ (_ → (goD (_ :: _) K).1 = _)
        rw [goD, if_neg e2]
        exact ⟨rfl, fun h => by cases h⟩
theorem list_eq {ar : List Int} {A : List T} {c : List Fc} {K : List (List Fc)} (hc : codeF ar c = 0) (hA : ∀ t ∈ A, (treeF t).1 = 0 ∧ t.sig ar) (hK : K.length ≤ 60) :
    (goD (listD A c) K).2 = (instF ar A c K).2 ∧ ((instF ar A c K).2 = true → (goD (listD A c) K).1 = (instF ar A c K).1) := by
  obtain ⟨hc6, hcz⟩ := codeF_zero.1 hc
  have hcast := varsC_cast (fs := c)
  unfold listD instF
  by_cases hm : mostL (treesF c) = 0
  · rw [if_pos hm, if_neg (by omega)]
    rcases step_eq (ar := ar) (y := c) hK (fun _ => hc) with ⟨e1, e2, e3⟩ | ⟨e1, e2⟩
    · rw [goD, if_pos e2, e1, e3]
      exact ⟨rfl, fun _ => rfl⟩
    · rw [goD, if_neg e2, e1]
      exact ⟨rfl, fun h => by cases h⟩
  · have hm0 := mostL_nonneg (treesF c)
    rw [if_neg hm, if_pos (by omega), ofF_pairs (fun t ht => (hcz t ht).1)]
    refine go_eq _ K (fun pt hpt => ?_) hK
    obtain ⟨p, hp, hpt⟩ := List.mem_flatMap.1 hpt
    obtain ⟨t, ht, rfl⟩ := List.mem_map.1 hpt
    have hok : ∀ u ∈ treesF c, okA u := fun u hu => (treeF_ok.1 (hcz u hu).1).2.2
    obtain ⟨hpok, hhas⟩ := patF_has hok hp
    have hpm : p.most = (varsC c : Nat) := by
      have h1 : p.most ≤ (varsC c : Nat) := part_most (by rw [patF_filter (fun t ht => (hcz t ht).1)] at hp; exact (List.mem_filter.1 hp).1)
      have h2 : mostL (treesF c) ≤ p.most := mostL_le p.most_nonneg fun u hu => most_le_of p.most_nonneg u fun x hx hn => by
        have := has_most (hhas u hu x hx hn); omega
      omega
    have htA := hA t ht
    have htok : okA t := (treeF_ok.1 htA.1).2.2
    dsimp only
    constructor
    · intro hf
      obtain ⟨r, hr⟩ : ∃ r, p.fit t (fun _ => zeroT) = some r := by
        unfold fitF at hf
        cases h : p.fit t (fun _ => zeroT) with
        | none => rw [h] at hf; simp at hf
        | some r => exact ⟨r, rfl⟩
      have hfl : fitLst p t = listT (varsC c) r := by unfold fitLst fitF; rw [hr, hpm]; rfl
      refine ⟨by unfold instOf; rw [hr, hfl]; rfl, fun hform => ?_⟩
      obtain ⟨_, _, a3, a4⟩ := fit_sound p t _ r hpok htok.nz hr
      obtain ⟨f1, f2⟩ := form_zero hform
      refine codeF_zero.2 ⟨f1, fun u hu => ⟨f2 u hu, ⟨fun x hx => ⟨(treeF_ok.1 (f2 u hu)).2.2 x hx, ?_⟩⟩⟩⟩
      rw [treesF_subC] at hu
      obtain ⟨v, hv, rfl⟩ := List.mem_map.1 hu
      refine sub_sigA (fun i hb => ?_) v (fun x hx => ((hcz v hv).2.all x hx).2) x hx
      rw [hfl] at hb ⊢
      unfold boundB at hb
      rw [listT_length, Bool.and_eq_true] at hb
      have hi := of_decide_eq_true hb.1
      rw [listT_gK hi] at hb ⊢
      rcases a4 i (by simpa using hb.2) with h | ⟨_, h⟩
      · exact absurd rfl h
      · exact fun z hz => (htA.2.all z ((pre_all h).1 z hz)).2
    · intro hf
      unfold fitF at hf
      cases h : p.fit t (fun _ => zeroT) with
      | none => unfold instOf; rw [h]; rfl
      | some r => rw [h] at hf; simp at hf
theorem do_eq {ar : List Int} {A : List T} (hA : ∀ t ∈ A, (treeF t).1 = 0 ∧ t.sig ar) : ∀ (cs : List (List Fc)) (i : Int) (K : List (List Fc)), (∀ c ∈ cs, codeF ar c = 0) → 0 ≤ i → K.length ≤ 60 →
    (instD A cs i K).1 = (doGo ar A cs i K).1 ∧ (((instD A cs i K).2 = -1 ∧ (doGo ar A cs i K).2 = (0, 0)) ∨ (0 ≤ (instD A cs i K).2 ∧ (doGo ar A cs i K).2 = (10, (instD A cs i K).2)))
  | [], i, K, _, _, _ => ⟨rfl, .inl ⟨rfl, rfl⟩⟩
  | c :: r, i, K, hc, hi, hK => by
    obtain ⟨h1, h2⟩ := list_eq (K := K) (hc c (List.mem_cons_self ..)) hA hK
    rw [instD, doGo, h1]
    cases hb : (instF ar A c K).2 with
    | false => exact ⟨rfl, .inr ⟨hi, rfl⟩⟩
    | true =>
      rw [if_pos rfl, if_pos rfl, h2 hb]
      exact do_eq hA r (i + 1) _ (fun x hx => hc x (List.mem_cons_of_mem _ hx)) (by omega) (instF_len hK hb)
end Go.Proofs.Ytlhnfdjidjgfgaa
