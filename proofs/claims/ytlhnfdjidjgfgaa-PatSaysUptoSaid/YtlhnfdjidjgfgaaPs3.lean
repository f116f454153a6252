/-
  Walk: the document's Instances.
-/
import Derived.Test.YtlhnfdjidjgfgaaProg
import Derived.Test.YtlhnfdjidjgfgaaPs2
import Derived.Test.YtlhnfdjidjgfgaaPa4
import Derived.Deep.CutBlock
import Derived.Deep.DeepCutAuto
import Derived.RegionTactic
import Derived.Lib.QuietBelow
import Derived.BigQuiet
namespace Go.Proofs.Ytlhnfdjidjgfgaa
open Go.RowKit Go.Shelf
set_option linter.unusedVariables false
set_option maxHeartbeats 400000

noncomputable def addD (K : List (List Fc)) (x : List Fc) : List (List Fc) := if x ∈ K then K else K ++ [x]
noncomputable def goD : List (List Fc) → List (List Fc) → List (List Fc) × Bool
  | [], K => (K, true)
  | x :: r, K => if (addD K x).length ≤ 60 ∧ formF x = 0 then goD r (addD K x) else (K, false)
noncomputable def listD (A : List T) (c : List Fc) : List (List Fc) := if 0 < varsC c then ofD c A else [c]
noncomputable def instD (A : List T) : List (List Fc) → Int → List (List Fc) → List (List Fc) × Int
  | [], _, K => (K, -1)
  | c :: r, i, K => if (goD (listD A c) K).2 = true then instD A r (i + 1) (goD (listD A c) K).1 else ([], i)
theorem addD_len (K : List (List Fc)) (x : List Fc) : (addD K x).length ≤ K.length + 1 := by unfold addD; split <;> simp
theorem addD_mem {K : List (List Fc)} {x y : List Fc} (h : y ∈ addD K x) : y ∈ K ∨ y = x := by
  unfold addD at h
  split at h
  · exact .inl h
  · simpa using h
theorem goD_step {L : List (List Fc)} {K : List (List Fc)} {i : Nat} (hi : i < L.length) (h : (addD K L[i]).length ≤ 60 ∧ formF L[i] = 0) : goD (L.drop i) K = goD (L.drop (i + 1)) (addD K L[i]) := by
  rw [List.drop_eq_getElem_cons hi, goD, if_pos h]
theorem goD_stop {L : List (List Fc)} {K : List (List Fc)} {i : Nat} (hi : i < L.length) (h : ¬ ((addD K L[i]).length ≤ 60 ∧ formF L[i] = 0)) : goD (L.drop i) K = (K, false) := by
  rw [List.drop_eq_getElem_cons hi, goD, if_neg h]
theorem instD_step {A : List T} {cs : List (List Fc)} {K : List (List Fc)} {k : Nat} {i : Int} (hk : k < cs.length) (h : (goD (listD A cs[k]) K).2 = true) : instD A (cs.drop k) i K = instD A (cs.drop (k + 1)) (i + 1) (goD (listD A cs[k]) K).1 := by
  rw [List.drop_eq_getElem_cons hk, instD, if_pos h]
theorem instD_stop {A : List T} {cs : List (List Fc)} {K : List (List Fc)} {k : Nat} {i : Int} (hk : k < cs.length) (h : (goD (listD A cs[k]) K).2 = false) : instD A (cs.drop k) i K = ([], i) := by
  rw [List.drop_eq_getElem_cons hk, instD, if_neg (by rw [h]; simp)]
theorem fitRow_size {n : Nat} {x t : T} {i : Nat} {N : Nat} (ht : t.size ≤ N) (hN : 1 ≤ N) : (gK (fitRow n x t) i).size ≤ N := by
  unfold fitRow
  cases hf : x.fit t (fun _ => zeroT) with
  | none => simp [gK]; exact hN
  | some bs =>
    simp only [Option.map_some, Option.getD_some]
    have h1 := T.fit_size hf ht (fun _ => hN)
    by_cases hi : i < n
    · rw [listT_gK hi]; exact h1 i
    · rw [show gK (listT n bs) i = default by simp [gK, listT, hi]]; exact hN
theorem treesF_subC2 (bs : List T) : ∀ c : List Fc, treesF (subC bs c) = (treesF c).map (T.sub bs)
  | [] => rfl
  | f :: r => by
    have := treesF_subC2 bs r
    unfold subC at this ⊢
    simp only [List.map_cons, treesF, this]
/-- what stands in the list of a claim is small -/
theorem listD_small {A : List T} {c x : List Fc} (hc : c.length ≤ 6) (hg : ∀ t ∈ treesF c, (treeF t).1 = 0) (hA : ∀ t ∈ A, (treeF t).1 = 0) (h : x ∈ listD A c) : x.length ≤ 6 ∧ ∀ t ∈ treesF x, t.size ≤ 1000000 := by
  unfold listD at h
  split at h
  · unfold ofD at h
    obtain ⟨p, hp, h⟩ := List.mem_flatMap.1 h
    unfold partK at h
    split at h
    · obtain ⟨t, ht, h⟩ := List.mem_filterMap.1 h
      cases hf : (p.fit t (fun _ => zeroT)).isSome with
      | false => rw [instOf_none hf] at h; cases h
      | true =>
        rw [(fitRow_some (n := varsC c) (fs := c) hf).2] at h
        obtain rfl := Option.some.inj h
        refine ⟨by unfold subC; simp; omega, fun u hu => ?_⟩
        rw [treesF_subC2] at hu
        obtain ⟨v, hv, rfl⟩ := List.mem_map.1 hu
        have h1 := (treeF_ok.1 (hg v hv)).1
        have h2 := T.sub_size (bs := fitRow (varsC c) p t) (N := 40) (by omega) (fun i => fitRow_size (by have := (treeF_ok.1 (hA t ht)).1; omega) (by omega)) v
        omega
    · cases h
  · obtain rfl : x = c := by simpa using h
    exact ⟨hc, fun t ht => by have := (treeF_ok.1 (hg t ht)).1; omega⟩
theorem listD_len {A : List T} {c : List Fc} (hA : A.length ≤ 1000000) (hc : (subsF (treesF c)).length ≤ 8000) : (listD A c).length ≤ 8000000000 := by
  unfold listD
  split
  · unfold ofD
    have := flatK_len (fs := c) hA (subsF (treesF c))
    omega
  · simp
def InstDP (p : Nat → Prop) (R : List (List Fc) × Int) (w : World) (e : Ending) (w' : World) : Prop :=
  ∃ ro rs, e = .returned (.tuple #[.slice ro R.1.length rs, .int .i64 R.2]) ∧ claimE.Row (fun b => p b ∨ w.heap.size ≤ b) w' ro R.1 ∧ R.1.length ≤ 60 ∧ Below w.heap.size w w'
theorem mem_take_succF {l : List (List Fc)} {k : Nat} {t : List Fc} (h : k < l.length) : (decide (t ∈ l.take k) || decide (l[k] = t)) = decide (t ∈ l.take (k + 1)) := by
  rw [List.take_succ_eq_append_getElem h, Bool.eq_iff_iff]
  simp only [Bool.or_eq_true, decide_eq_true_eq, List.mem_append, List.mem_singleton]
  exact or_congr Iff.rfl ⟨Eq.symm, Eq.symm⟩

set_option maxRecDepth 100000 in
set_option maxHeartbeats 8000000 in
theorem instances28 (ar : List Int) (cs : List (List Fc)) (gs : List T) (p : Nat → Prop) (ao co go : Option Addr) (ca cc gc : Nat) (w : World) (hp : ∀ b, p b → b < w.heap.size) (h : claimE.Row p w co cs) (hs : treeE.Row p w go gs) (hn : cs.length ≤ 100) (hm : gs.length ≤ 100) (hc : ∀ c ∈ cs, c.length ≤ 6 ∧ ∀ t ∈ treesF c, (treeF t).1 = 0) (hg : ∀ t ∈ gs, (treeF t).1 = 0) :
    Calls Try.prog 28 #[.agg #[.slice ao ar.length ca, .slice co cs.length cc], .slice go gs.length gc] w (InstDP p (instD (subsF gs) cs 0 []) w) := by
  obtain ⟨i41, hi, hz0, hz1, hz2⟩ := info_parts infoOf41
  have HP := Lib.hid hp; have HC := Lib.hid hc; have HGG := Lib.hid hg; have HSG := Lib.hid (subsF_good hg)
  have HSZ := Lib.hid (show sizeL gs ≤ 4000 by
    have h1 := sizeL_bound (n := 40) (l := gs) (fun t ht => (treeF_ok.1 (hg t ht)).1)
    omega)
  have HCR := Lib.hid h; have HGR := Lib.hid hs
  obtain ⟨bx, hbx⟩ : ∃ b, b = w.heap.size := ⟨_, rfl⟩
  have S1 := (((St.start w).box hbx.symm #[.slice ao ar.length ca, .slice co cs.length cc] 25).cons (.owns treeE (bx + 1) p (.slice none 0 0) []) (Elt.Own.nil _ _ _ _))
  have hsz1 : (w.alloc (.cells #[.slice ao ar.length ca, .slice co cs.length cc] 25)).heap.size = bx + 1 := by simp [hbx]
  clear hp hc hg h hs
  go_enter Try.func28, Try.ntmps28
  go_wp2_with fail
  rw [← hbx]
  refine S1.genC (z := bx + 1) (by omega) ?_
  intro w1 z1 S
  have HBX := Lib.hid hbx
  clear S1 hbx hsz1
  go_loopw [6, 7] (fun u i wr => ∃ k : Nat, k ≤ gs.length ∧ i = .int .i64 k ∧ bx + 1 ≤ wr.heap.size ∧ St w wr [.owns treeE (bx + 1) p u ((preL (gs.take k)).foldl addT []), .box bx #[.slice ao ar.length ca, .slice co cs.length cc] 25]) (fun _ i _ => gs.length - (intOf i).toNat)
  case atStart => exact ⟨0, by omega, rfl, z1, S⟩
  case round =>
    clear S z1
    obtain ⟨k, hk, rfl, z1, S⟩ := hrel
    by_cases hlt : k < gs.length
    · have hlti : (k : Int) < (gs.length : Int) := by omega
      obtain ⟨b, off, ka, sa, rfl, hpb, c0', c1', hta⟩ := HGR.out.tree hlt
      have c0 := Below.cellOf S.bel c0'
      have c1 := Below.cellOf S.bel c1'
      have HTX := Lib.hid hta
      have HSUM := Lib.hid (show sizeL (gs.take k) + gs[k].size ≤ 4000 by
        have h3 := sizeL_take hlt
        have h4 := sizeL_take_le gs (k + 1)
        have h5 := HSZ.out
        rw [gK_get hlt] at h3
        omega)
      have HPT := Lib.hid (show (preL (gs.take (k + 1))).foldl addT [] = gs[k].pre.foldl addT ((preL (gs.take k)).foldl addT []) by rw [preL_take hlt, gK_get hlt, List.foldl_append])
      obtain ⟨X, hX⟩ : ∃ X, X = gs[k] := ⟨_, rfl⟩
      rw [← hX] at c0 c1 HTX HSUM HPT
      have OU := Lib.hid (S.ownlt treeE 0)
      clear hX c0' c1' hta
      go_wp2_with fail
      refine (subs69 X p w wr (bx + 1) _ u6 _ _ HP.out (by have := HBX.out; omega) z1 HTX.out S (fun b' h => ⟨fun h2 => ?_, trivial⟩) (by
        have h1 := HSUM.out
        have h2 := foldT_len (preL (gs.take k)) []
        have h3 := preL_len (gs.take k)
        simp only [List.length_nil] at h2; omega)).mono ?_
      · have h3 : b' = bx := h2
        rcases h with h | h
        · have := (OU.out b' h).1; omega
        · omega
      rintro e w3 ⟨o2, rfl, z3, ho2, S3⟩
      rw [← HPT.out] at S3
      clear S ho2 c0 c1 OU
      go_wp2_with fail
      go_roundw
      case rel => exact ⟨k + 1, by omega, by go_num, by omega, S3⟩
      case measure => simp [intOf] <;> omega
    · obtain rfl : k = gs.length := by omega
      rw [List.take_length] at S
      obtain ⟨po, psp, rfl, hrq, hpm⟩ := (S.owns treeE 0).rowQ
      obtain ⟨A, hA⟩ : ∃ P, P = (preL gs).foldl addT [] := ⟨_, rfl⟩
      rw [← hA] at S hrq hpm
      rw [← hA]
      have HA := Lib.hid (show A = subsF gs by rw [hA]; rfl)
      have HAG := Lib.hid (show ∀ t ∈ A, (treeF t).1 = 0 by rw [HA.out]; exact HSG.out)
      have HAL := Lib.hid (show A.length ≤ 4000 by
        rw [hA]
        have h2 := foldT_len (preL gs) []
        have h3 := preL_len gs
        have h4 := HSZ.out
        simp only [List.length_nil] at h2; omega)
      have hal := HAL.out
      obtain ⟨H1, hH1⟩ : ∃ H, H = wr.heap.size := ⟨_, rfl⟩
      have HH1 := Lib.hid (show bx + 1 ≤ H1 by omega)
      have S7 := (S.tail.cons (.rowQ treeE (fun b => bx + 1 ≤ b ∧ b < H1) p po A) (by rw [hH1]; exact hrq)).cons (.owns claimE H1 (fun b => p b ∨ bx + 1 ≤ b) (.slice none 0 0) []) (Elt.Own.nil _ _ _ _)
      obtain ⟨R, hR⟩ : ∃ R, R = instD A cs 0 [] := ⟨_, rfl⟩
      have HR := Lib.hid hR.symm
      rw [show subsF gs = A from HA.out.symm, ← hR]
      clear S hrq hA hR
      go_wp2_with fail
      refine S7.genC (z := H1) (by omega) ?_
      intro w2 z2 S
      clear S7 hH1 hpm z1
      go_loopw [8, 9] (fun o i wr => ∃ (k : Nat) (K : List (List Fc)), k ≤ cs.length ∧ i = .int .i64 k ∧ Hid (instD A (cs.drop k) k K = R) ∧ K.length ≤ 60 ∧ Hid (∀ x ∈ K, x.length ≤ 6) ∧ H1 ≤ wr.heap.size ∧ St w wr [.owns claimE H1 (fun b => p b ∨ bx + 1 ≤ b) o K, .rowQ treeE (fun b => bx + 1 ≤ b ∧ b < H1) p po A, .box bx #[.slice ao ar.length ca, .slice co cs.length cc] 25]) (fun _ i _ => cs.length - (intOf i).toNat)
      case atStart => exact ⟨0, [], by omega, rfl, HR, by simp, Lib.hid (fun x h => by cases h), z2, S⟩
      case round =>
        clear S z2
        obtain ⟨k, K, hk, rfl, HRK, hkl, HKX, z1, S⟩ := hrel
        obtain ⟨⟨x0, _⟩, x1, _⟩ := S.two 2
        by_cases hlt : k < cs.length
        · have hlti : (k : Int) < (cs.length : Int) := by omega
          obtain ⟨cb, coff, xo, xs, rfl, _, c0', hcx⟩ := HCR.out.claim hlt
          have hcx1 := hcx.1
          obtain ⟨hc6, hcg⟩ := HC.out cs[k] (List.getElem_mem hlt)
          obtain ⟨c, hcE⟩ : ∃ c, c = cs[k] := ⟨_, rfl⟩
          have HSTEP := Lib.hid (fun h => instD_step (A := A) (K := K) (i := (k : Int)) hlt h)
          have HSTOP := Lib.hid (fun h => instD_stop (A := A) (K := K) (i := (k : Int)) hlt h)
          rw [← hcE] at c0' hcx1 hc6 hcg HSTEP HSTOP
          have c0 := Below.cellOf S.bel c0'
          have HCX := Lib.hid hcx1
          have HCG := Lib.hid hcg
          obtain ⟨b10, hb10⟩ : ∃ b, b = wr.heap.size := ⟨_, rfl⟩
          have HB10 := Lib.hid (show H1 ≤ b10 by omega)
          have OK := Lib.hid (show ∀ b, u8.ownBlock = some b → H1 ≤ b ∧ b < b10 by rw [hb10]; exact S.ownlt claimE 0)
          have ST := (S.tail.cons (.owns claimE H1 (fun b => p b ∨ (bx + 1 ≤ b ∧ b < b10)) u8 K) ((S.owns claimE 0).tight (q := fun b => p b ∨ (bx + 1 ≤ b ∧ b < b10)) (fun b h h2 => by rcases h with h | h; exact .inl h; exact .inr ⟨h, by omega⟩)))
          have S5 := (ST.box hb10.symm #[.slice xo c.length (c.length + xs)] 41).box (b := b10 + 1) (by simp [hb10]) #[.slice xo c.length (c.length + xs)] 41
          have z5 : b10 + 2 ≤ ((wr.alloc (.cells #[.slice xo c.length (c.length + xs)] 41)).alloc (.cells #[.slice xo c.length (c.length + xs)] 41)).heap.size := by simp [hb10]
          clear S ST hcE hcx hcx1 c0' hcg
          go_wp2_with fail
          rw [← hb10]
          clear hb10
          refine (claimMost31 c p xo xs _ (HCX.out.kept S5.bel) (by omega) (fun b hb => by have := HP.out b hb; have := S5.size; omega) (fun t ht => low_of_pre t (treeF_ok.1 (HCG.out t ht)).2.2)).mono ?_
          rintro e w3 ⟨rfl, hb3⟩
          have S6 := S5.step hb3
          have z6 : b10 + 2 ≤ w3.heap.size := by have := hb3.size; omega
          obtain ⟨N, hN⟩ : ∃ N, N = varsC c := ⟨_, rfl⟩
          rw [← hN]
          obtain ⟨L, hL⟩ : ∃ L, L = listD A c := ⟨_, rfl⟩
          have HL := Lib.hid hL
          have HN := Lib.hid hN
          have HSM := Lib.hid (show ∀ x ∈ L, x.length ≤ 6 ∧ ∀ t ∈ treesF x, t.size ≤ 1000000 by rw [hL]; exact fun x hx => listD_small hc6 HCG.out HAG.out hx)
          have HLL := Lib.hid (show L.length ≤ 8000000000 by
            rw [hL]
            refine listD_len (by omega) ?_
            have h1 := sizeL_bound (n := 40) (l := treesF c) (fun t ht => (treeF_ok.1 (HCG.out t ht)).1)
            have h2 := treesF_length c
            have h3 := subsF_len (gs := treesF c)
            omega)
          clear S5 hb3 z5 hL hN x0 x1 c0
          go_upto_if 43 with fail
          go_cut [11] (fun t11 W => ∃ (lo : Option Addr) (lc H4 : Nat), t11 = .slice lo L.length lc ∧ b10 + 2 ≤ H4 ∧ H4 ≤ W.heap.size ∧ St w W [.owns claimE H1 (fun b => p b ∨ (bx + 1 ≤ b ∧ b < b10)) u8 K, .rowE claimE (fun b => (p b ∨ (bx + 1 ≤ b ∧ b < H1)) ∨ (b10 ≤ b ∧ b < H4)) lo L, .rowQ treeE (fun b => bx + 1 ≤ b ∧ b < H1) p po A, .box bx #[.slice ao ar.length ca, .slice (some ⟨cb, coff, none⟩) cs.length cc] 25])
          case first =>
            by_cases hv : 0 < N
            · have hvi : (0 : Int) < (N : Int) := by omega
              have HLE := Lib.hid (show L = ofD c A by rw [HL.out]; unfold listD; rw [if_pos (by rw [← HN.out]; exact hv)])
              obtain ⟨y0, _⟩ := S6.one 3
              have HROW := Lib.hid (show treeE.Row (fun b => p b ∨ (bx + 1 ≤ b ∧ b < H1)) w3 po A from (show treeE.RowQ (fun b => bx + 1 ≤ b ∧ b < H1) p w3 po A from S6.rowQ treeE 1).row.mono (fun b h _ => h.elim (fun h => .inr h) (fun h => .inl h)))
              go_wp2_with fail
              refine (of70 c A (fun b => p b ∨ (bx + 1 ≤ b ∧ b < H1)) xo po xs psp w3 (fun b h => by
                have h1 := HB10.out
                rcases h with h | h
                · have := HP.out b h; have := S6.size; omega
                · omega) ((HCX.out.kept S6.bel).mono (fun b h _ => .inl h)) HROW.out (by omega) HCG.out HAG.out (by omega)).mono ?_
              rintro e w4 ⟨ro, rs, rfl, hro, hrm, hb4⟩
              rw [← HLE.out] at hro ⊢
              have S7 := ((S6.step hb4).cons (.rowE claimE (fun b => (p b ∨ (bx + 1 ≤ b ∧ b < H1)) ∨ (b10 ≤ b ∧ b < w4.heap.size)) ro L) (hro.mono (fun b h h2 => h.imp id (fun h => ⟨by omega, h2⟩)))).pick [1, 0, 2, 3]
              have z7 := hb4.size
              clear S6 hb4 hro y0 hrm
              go_wp2_with fail
              go_meet
              case rel => exact ⟨ro, _, w4.heap.size, rfl, by omega, Nat.le_refl _, S7⟩
            · have hv0 : N = 0 := by omega
              have HLE := Lib.hid (show L = [c] by rw [HL.out]; unfold listD; rw [if_neg (by rw [← HN.out]; exact hv)])
              have hblk := S6.block 4
              have HFX := HCX.out.kept S6.bel
              have hcm : c.length ≤ maxLen := by unfold maxLen; omega
              have S7 := (S6.cons (.rowE claimE (fun b => (p b ∨ (bx + 1 ≤ b ∧ b < H1)) ∨ (b10 ≤ b ∧ b < w3.heap.size)) (some ⟨b10 + 1, 0, none⟩) L) (by
                show claimE.Row _ w3 _ L
                rw [HLE.out]
                intro i x hx
                have hi0 : i = 0 := by
                  have := (List.getElem?_eq_some_iff.1 hx).1
                  simpa using this
                subst hi0
                obtain rfl : c = x := by simpa using hx
                refine ⟨b10 + 1, 0, [.slice xo c.length (c.length + xs)], rfl, .inr ⟨by omega, by omega⟩, fun j u hu => ?_, xo, xs, rfl, HFX.mono (fun b h _ => .inl (.inl h)), hcm⟩
                have hj0 : j = 0 := by
                  have := (List.getElem?_eq_some_iff.1 hu).1
                  simpa using this
                subst hj0
                obtain rfl := Option.some.inj hu
                exact (box1 hblk).1)).pick [1, 0, 2, 3]
              have HL1 := Lib.hid (show L.length = 1 by rw [HLE.out]; rfl)
              clear S6 hblk HFX hcm hv
              subst hv0
              go_wp2_with fail
              go_meet
              case rel => exact ⟨_, 1, w3.heap.size, by rw [HL1.out], by omega, Nat.le_refl _, S7⟩
          case rest =>
          obtain ⟨lo, lc, H4, ht11, z7, z8, S⟩ := hcut
          subst ht11
          clear S6 z6
          have HZ7 := Lib.hid z7
          have hll := HLL.out
          obtain ⟨G, hG⟩ : ∃ G, G = goD L K := ⟨_, rfl⟩
          have HG := Lib.hid hG.symm
          have HGL := Lib.hid (show goD (listD A c) K = G by rw [hG, HL.out])
          have S0 : St w wc [.owns claimE H1 (fun b => p b ∨ (bx + 1 ≤ b ∧ b < H4)) u8 K, .rowE claimE (fun b => (p b ∨ (bx + 1 ≤ b ∧ b < H1)) ∨ (b10 ≤ b ∧ b < H4)) lo L, .rowQ treeE (fun b => bx + 1 ≤ b ∧ b < H1) p po A, .box bx #[.slice ao ar.length ca, .slice (some ⟨cb, coff, none⟩) cs.length cc] 25] := ((S.tail).cons (.owns claimE H1 (fun b => p b ∨ (bx + 1 ≤ b ∧ b < H4)) u8 K) ((S.owns claimE 0).mono (q := fun b => p b ∨ (bx + 1 ≤ b ∧ b < H4)) (fun b (h : p b ∨ (bx + 1 ≤ b ∧ b < b10)) => h.imp id (fun h => ⟨h.1, by omega⟩))))
          clear S hG
          go_wp2_with fail
          refine S0.genC (z := H4) z8 ?_
          intro w5 z9 S
          clear S0 z8
          go_loopw [8, 12] (fun o i wr => ∃ (m : Nat) (K' : List (List Fc)), m ≤ L.length ∧ i = .int .i64 m ∧ Hid (goD (L.drop m) K' = G) ∧ K'.length ≤ 60 ∧ Hid (∀ x ∈ K', x.length ≤ 6) ∧ Hid (∀ b, o.ownBlock = some b → (H1 ≤ b ∧ b < b10) ∨ H4 ≤ b) ∧ H4 ≤ wr.heap.size ∧ St w wr [.owns claimE H1 (fun b => p b ∨ (bx + 1 ≤ b ∧ b < H4)) o K', .rowE claimE (fun b => (p b ∨ (bx + 1 ≤ b ∧ b < H1)) ∨ (b10 ≤ b ∧ b < H4)) lo L, .rowQ treeE (fun b => bx + 1 ≤ b ∧ b < H1) p po A, .box bx #[.slice ao ar.length ca, .slice (some ⟨cb, coff, none⟩) cs.length cc] 25]) (fun _ i _ => L.length - (intOf i).toNat)
          case atStart => exact ⟨0, K, by omega, rfl, HG, hkl, HKX, Lib.hid (fun b h => .inl (OK.out b h)), z9, S⟩
          case round =>
            clear S z9 HKX hkl HG
            obtain ⟨m, K', hm2, rfl, HG, hkl, HKX, HOB, z9, S⟩ := hrel
            by_cases hlt2 : m < L.length
            · have hlti2 : (m : Int) < (L.length : Int) := by omega
              obtain ⟨lb, loff, xk, xsp, rfl, _, d0, hxr, hxm⟩ := (S.rowE claimE 1).claim hlt2
              obtain ⟨hx6, hxs⟩ := HSM.out L[m] (List.getElem_mem hlt2)
              have HGO := Lib.hid (fun h => goD_step (K := K') hlt2 h)
              have HGS := Lib.hid (fun h => goD_stop (K := K') hlt2 h)
              obtain ⟨x, hxE⟩ : ∃ x, x = L[m] := ⟨_, rfl⟩
              rw [← hxE] at d0 hxr hx6 hxs HGO HGS
              have HXE := Lib.hid hxE
              have HXS := Lib.hid hxs
              clear hxE hxr hxs hxm
              go_wp2_with fail
              refine S.genC (z := H4) z9 ?_
              intro w6 z10 S
              clear d0 z9
              go_loopw [13, 14] (fun is i wr => ∃ j : Nat, j ≤ K'.length ∧ i = .int .i64 j ∧ (∃ d : Bool, is = .bool d ∧ Hid (d = decide (x ∈ K'.take j))) ∧ H4 ≤ wr.heap.size ∧ St w wr [.owns claimE H1 (fun b => p b ∨ (bx + 1 ≤ b ∧ b < H4)) u8 K', .rowE claimE (fun b => (p b ∨ (bx + 1 ≤ b ∧ b < H1)) ∨ (b10 ≤ b ∧ b < H4)) (some ⟨lb, loff, none⟩) L, .rowQ treeE (fun b => bx + 1 ≤ b ∧ b < H1) p po A, .box bx #[.slice ao ar.length ca, .slice (some ⟨cb, coff, none⟩) cs.length cc] 25]) (fun _ i _ => K'.length - (intOf i).toNat)
              case atStart => exact ⟨0, by omega, rfl, ⟨false, rfl, Lib.hid (by simp)⟩, z10, S⟩
              case round =>
                clear S z10
                obtain ⟨j, hj, rfl, ⟨d, rfl, HD⟩, z10, S⟩ := hrel
                obtain ⟨oa, osp, rfl, hrow, hom⟩ := ((S.owns claimE 0).mono (q := fun _ => True) (fun b _ => trivial)).row (fun b _ => trivial)
                by_cases hlt3 : j < K'.length
                · have hlti3 : (j : Int) < (K'.length : Int) := by omega
                  obtain ⟨ob, ooff, yk, ysp, rfl, _, f0, hyr, _⟩ := hrow.claim hlt3
                  obtain ⟨_, _, xk2, xsp2, e', _, d0, hxr, _⟩ := (S.rowE claimE 1).claim hlt2
                  obtain ⟨rfl, rfl⟩ := (show lb = _ ∧ loff = _ by simpa using e')
                  rw [← HXE.out] at d0 hxr
                  have hy6 := HKX.out K'[j] (List.getElem_mem hlt3)
                  have HMT := Lib.hid (mem_take_succF (t := x) hlt3)
                  obtain ⟨Y, hY⟩ : ∃ Y, Y = K'[j] := ⟨_, rfl⟩
                  rw [← hY] at f0 hyr hy6 HMT
                  rw [← HD.out] at HMT
                  have HYR := Lib.hid hyr
                  have HXR := Lib.hid hxr
                  have r0 := cell_regrown f0; have r1 := cell_regrown d0
                  clear hrow e' hY hyr hxr HD f0 d0 hom
                  cases d with
                  | true =>
                    go_wp2_with fail
                    refine wp_region_quiet_below (by kernel_rfl) (by kernel_rfl) ?_
                    repeat (go_big_quiet_step (fail))
                    refine wpQuiet_nil ?_
                    intro _ hw'
                    obtain ⟨⟨dq, osq⟩, hw''⟩ := hw'
                    subst hw''
                    have S2 := S.regrown dq osq
                    have hb2 : H4 ≤ (Go.Sort.grow (redrawn wr dq) osq).heap.size := Nat.le_trans z10 (below_regrown wr dq osq).size
                    clear r0 r1 S
                    go_wp2_with fail
                    go_roundw
                    case rel => exact ⟨j + 1, by omega, by go_num, ⟨true, rfl, Lib.hid (by rw [← HMT.out]; rfl)⟩, hb2, S2⟩
                    case measure => simp [intOf] <;> omega
                  | false =>
                    have CA := Lib.hid (fun d os => Calls.regrown_of (sameClaim20 Y x _ _ yk xk2 (Y.length + ysp) (x.length + xsp2) (Go.Sort.grow (redrawn wr d) os) (HYR.out.kept (below_regrown wr d os)) (HXR.out.kept (below_regrown wr d os)) (by omega) (by omega)))
                    go_wp2_with fail
                    refine wp_region_quiet_below (by kernel_rfl) (by kernel_rfl) ?_
                    repeat (go_big_quiet_step (exact CA.out _ _))
                    refine wpQuiet_nil ?_
                    intro _ hw'
                    obtain ⟨⟨dq, osq⟩, hw''⟩ := hw'
                    subst hw''
                    have S2 := S.regrown dq osq
                    have hb2 : H4 ≤ (Go.Sort.grow (redrawn wr dq) osq).heap.size := Nat.le_trans z10 (below_regrown wr dq osq).size
                    clear r0 r1 S CA
                    go_wp2_with fail
                    go_roundw
                    case rel => exact ⟨j + 1, by omega, by go_num, ⟨_, rfl, Lib.hid (by rw [← HMT.out]; rfl)⟩, hb2, S2⟩
                    case measure => simp [intOf] <;> omega
                · obtain rfl : j = K'.length := by omega
                  rw [List.take_length] at HD
                  obtain ⟨K2, hK2⟩ : ∃ Z, Z = addD K' x := ⟨_, rfl⟩
                  have HA2 := Lib.hid hK2
                  obtain ⟨_, _, xk2, xsp2, e', _, d0, hxr, hxm⟩ := (S.rowE claimE 1).claim hlt2
                  obtain ⟨rfl, rfl⟩ := (show lb = _ ∧ loff = _ by simpa using e')
                  rw [← HXE.out] at d0 hxr hxm
                  have HXR := Lib.hid hxr
                  have HXQ := Lib.hid (show claimE.is (fun b => (p b ∨ (bx + 1 ≤ b ∧ b < H1)) ∨ (b10 ≤ b ∧ b < H4)) wr [.slice xk2 x.length (x.length + xsp2)] x from ⟨xk2, xsp2, rfl, hxr, hxm⟩)
                  clear hrow e' hxr hxm hom
                  go_upto_if 72 with fail
                  go_cut [8] (fun u W => Hid (∀ b, u.ownBlock = some b → (H1 ≤ b ∧ b < b10) ∨ H4 ≤ b) ∧ H4 ≤ W.heap.size ∧ St w W [.owns claimE H1 (fun b => p b ∨ (bx + 1 ≤ b ∧ b < H4)) u K2, .rowE claimE (fun b => (p b ∨ (bx + 1 ≤ b ∧ b < H1)) ∨ (b10 ≤ b ∧ b < H4)) (some ⟨lb, loff, none⟩) L, .rowQ treeE (fun b => bx + 1 ≤ b ∧ b < H1) p po A, .box bx #[.slice ao ar.length ca, .slice (some ⟨cb, coff, none⟩) cs.length cc] 25])
                  case first =>
                    cases d with
                    | true =>
                      have HAD := Lib.hid (show K2 = K' by
                        have h : x ∈ K' := by simpa using HD.out.symm
                        rw [hK2]; simp [addD, h])
                      go_wp2_with fail
                      go_meet
                      case rel => exact ⟨HOB, z10, by rw [HAD.out]; exact S⟩
                    | false =>
                      have HAD := Lib.hid (show K2 = K' ++ [x] by
                        have h : x ∉ K' := by simpa using HD.out.symm
                        rw [hK2]; simp [addD, h])
                      go_wp2_with (at_builtin; refine wpList_app rfl (.tmp 73) (.tmp 78) 23 rfl claimE S 0 rfl (x := x) (q := fun b => (p b ∨ (bx + 1 ≤ b ∧ b < H1)) ∨ (b10 ≤ b ∧ b < H4)) (p' := fun b => p b ∨ (bx + 1 ≤ b ∧ b < H4)) HXQ.out Try.underlying23 hi hz0 hz1 hz2 rfl rfl ?v1 ?v2 ?c1 ?c2 ?c3 ?c4 ?c5 ?c6 ?c7 ?_)
                      case v1 => rfl
                      case v2 => rfl
                      case c1 => unfold maxLen; omega
                      case c2 => omega
                      case c3 => have := HZ7.out; have := HB10.out; omega
                      case c4 => have := HBX.out; have := HH1.out; omega
                      case c5 =>
                        intro b h1 h2 h3
                        have h4 := HOB.out b h1
                        have h5 := HP.out b
                        have h6 := HBX.out; have h7 := HH1.out; have h8 := HB10.out; have h9 := HZ7.out
                        refine ⟨fun e => ?_, fun e => ?_, fun e => ?_, trivial⟩
                        · rcases e with (e | e) | e
                          · have := h5 e; omega
                          · omega
                          · omega
                        · rcases e with e | e
                          · omega
                          · have := h5 e; omega
                        · have e' : b = bx := e
                          omega
                      case c6 =>
                        intro b h1 h2
                        have h4 := HOB.out b h2
                        have h5 := HP.out b
                        have h6 := HBX.out; have h7 := HH1.out; have h8 := HB10.out; have h9 := HZ7.out
                        rcases h1 with (e | e) | e
                        · have := h5 e; omega
                        · omega
                        · omega
                      case c7 =>
                        intro b h1
                        have h7 := HH1.out; have h8 := HB10.out; have h9 := HZ7.out
                        rcases h1 with h1 | (h1 | h1) | h1
                        · exact h1
                        · exact .inl h1
                        · exact .inr ⟨h1.1, by omega⟩
                        · exact .inr ⟨by omega, h1.2⟩
                      intro gg cap w7 S3 hs3 hgg hat
                      change St w w7 [.owns claimE H1 (fun b => p b ∨ (bx + 1 ≤ b ∧ b < H4)) (.slice (some ⟨gg, 0, none⟩) (K'.length + 1) cap) (K' ++ [x]), .rowE claimE (fun b => (p b ∨ (bx + 1 ≤ b ∧ b < H1)) ∨ (b10 ≤ b ∧ b < H4)) (some ⟨lb, loff, none⟩) L, .rowQ treeE (fun b => bx + 1 ≤ b ∧ b < H1) p po A, .box bx #[.slice ao ar.length ca, .slice (some ⟨cb, coff, none⟩) cs.length cc] 25] at S3
                      rw [← HAD.out] at S3
                      clear S
                      go_wp2_with fail
                      go_meet
                      case rel => exact ⟨Lib.hid (fun b hb => by
                        obtain rfl : gg = b := by simpa [Value.ownBlock] using hb
                        rcases hat with h | h
                        · exact HOB.out gg h
                        · right; omega), by omega, S3⟩
                  case rest =>
                  obtain ⟨HOB2, z11, S2⟩ := hcut
                  clear S hK2 HD d0
                  obtain ⟨oa2, osp2, rfl, _, _⟩ := (S2.owns claimE 0).rowQ
                  obtain ⟨_, _, xk3, xsp3, e', _, d0, hxr, hxm⟩ := (S2.rowE claimE 1).claim hlt2
                  obtain ⟨rfl, rfl⟩ := (show lb = _ ∧ loff = _ by simpa using e')
                  rw [← HXE.out] at d0 hxr hxm
                  have HXR2 := Lib.hid hxr
                  clear e' hxr hxm HXR HXQ
                  have HK2L := Lib.hid (show K2.length ≤ 61 by have := addD_len K' x; rw [← HA2.out] at this; omega)
                  have HK2X := Lib.hid (show ∀ y ∈ K2, y.length ≤ 6 from fun y hy => by
                    rw [HA2.out] at hy
                    rcases addD_mem hy with h | rfl
                    · exact HKX.out y h
                    · exact hx6)
                  by_cases hk60 : 60 < K2.length
                  · have hk60i : (60 : Int) < (K2.length : Int) := by omega
                    have HE := Lib.hid (show R = ([], (k : Int)) by
                      have h1 := HGS.out (by rw [← HA2.out]; omega)
                      rw [HG.out] at h1
                      have h2 := HSTOP.out (by rw [HGL.out, h1])
                      rw [← HRK.out, h2])
                    have SE := Lib.hid S2.bel
                    clear S2
                    go_wp2_with fail
                    go_ret2
                    rw [show instD (subsF gs) cs 0 [] = ([], (k : Int)) by rw [← HA.out, HR.out, HE.out]]
                    exact ⟨none, 0, rfl, Elt.Row.nil, by simp, SE.out⟩
                  · have hk60i : (K2.length : Int) ≤ 60 := by omega
                    obtain ⟨FX, hFX⟩ : ∃ z, z = formF x := ⟨_, rfl⟩
                    have HFX := Lib.hid hFX
                    go_wp2_with fail
                    refine (form16 x _ xk3 xsp3 _ HXR2.out (by omega) (fun b h => by
                      have h5 := HP.out b
                      have h6 := HBX.out; have h7 := HH1.out; have h8 := HB10.out; have h9 := HZ7.out
                      rcases h with (e | e) | e
                      · have := h5 e; omega
                      · omega
                      · omega) (fun i t ht => HXS.out t (List.mem_of_getElem? ht))).mono ?_
                    rintro e w8 ⟨rfl, hb8⟩
                    rw [← hFX]
                    have S3 := S2.step hb8
                    have z12 := hb8.size
                    clear S2 hb8 d0 hFX
                    by_cases hf : FX = 0
                    · have hfb : (FX != 0) = false := by simp [hf]
                      have HGN := Lib.hid (show goD (L.drop (m + 1)) K2 = G by
                        have h1 := HGO.out ⟨by rw [← HA2.out]; omega, by rw [← HFX.out]; exact hf⟩
                        rw [HG.out] at h1
                        rw [HA2.out]; exact h1.symm)
                      clear hf
                      go_wp2_with fail
                      go_roundw
                      case rel => exact ⟨m + 1, K2, by omega, by go_num, HGN, by omega, HK2X, HOB2, by omega, S3⟩
                      case measure => simp [intOf] <;> omega
                    · have hfb : (FX != 0) = true := by simp [hf]
                      have HE := Lib.hid (show R = ([], (k : Int)) by
                        have h1 := HGS.out (fun h => hf (by rw [HFX.out]; exact h.2))
                        rw [HG.out] at h1
                        have h2 := HSTOP.out (by rw [HGL.out, h1])
                        rw [← HRK.out, h2])
                      have SE := Lib.hid S3.bel
                      clear S3 hf
                      go_wp2_with fail
                      go_ret2
                      rw [show instD (subsF gs) cs 0 [] = ([], (k : Int)) by rw [← HA.out, HR.out, HE.out]]
                      exact ⟨none, 0, rfl, Elt.Row.nil, by simp, SE.out⟩
            · obtain rfl : m = L.length := by omega
              rw [List.drop_length] at HG
              have HE := Lib.hid (show instD A (cs.drop (k + 1)) ((k + 1 : Nat) : Int) K' = R by
                have h1 : goD (listD A c) K = (K', true) := by rw [HGL.out, ← HG.out, goD]
                have h2 := HSTEP.out (by rw [h1])
                rw [h1] at h2
                rw [← HRK.out, h2]; norm_cast)
              have SG := S.tail.tail.cons (.owns claimE H1 (fun b => p b ∨ bx + 1 ≤ b) u8 K') ((S.owns claimE 0).mono (q := fun b => p b ∨ bx + 1 ≤ b) (fun b (h : p b ∨ (bx + 1 ≤ b ∧ b < H4)) => h.imp id (fun h => h.1)))
              have z13 : H1 ≤ wr.heap.size := by have := HB10.out; have := HZ7.out; omega
              clear S
              go_wp2_with fail
              go_roundw
              case rel => exact ⟨k + 1, K', by omega, by go_num, HE, hkl, HKX, z13, SG⟩
              case measure => simp [intOf] <;> omega
        · obtain rfl : k = cs.length := by omega
          rw [List.drop_length] at HRK
          have HE := Lib.hid (show R = (K, -1) by rw [← HRK.out, instD])
          obtain ⟨oa, osp, rfl, horow, hom⟩ := (S.owns claimE 0).row (fun b h => Or.inr (by have := HH1.out; omega))
          have SE := Lib.hid S.bel
          have HOR := Lib.hid horow
          clear S horow x0 
          go_wp2_with fail
          go_ret2
          rw [show instD (subsF gs) cs 0 [] = (K, -1) by rw [← HA.out, HR.out, HE.out]]
          exact ⟨oa, _, rfl, HOR.out.mono (fun b h _ => h.imp id (fun h => by have := HBX.out; omega)), hkl, SE.out⟩
end Go.Proofs.Ytlhnfdjidjgfgaa
