/-
  Walk: the document's of: a claim's instances.
-/
import Derived.Test.YtlhnfdjidjgfgaaProg
import Derived.Test.YtlhnfdjidjgfgaaPs1
import Derived.Test.YtlhnfdjidjgfgaaT40
import Derived.Test.YtlhnfdjidjgfgaaZ7
import Derived.Test.YtlhnfdjidjgfgaaPb6
import Derived.Test.YtlhnfdjidjgfgaaMp
import Derived.Test.YtlhnfdjidjgfgaaG4
import Derived.Deep.CutBlock
import Derived.Deep.DeepCutAuto
import Derived.RegionTactic
namespace Go.Proofs.Ytlhnfdjidjgfgaa
open Go.RowKit Go.Shelf
set_option linter.unusedVariables false
set_option maxHeartbeats 400000

theorem infoOf41 : (Try.prog.info? 41).map (fun i => (i.zero, i.size, i.bytes)) = some (some (.agg #[.slice none 0 0]), 1, 24) := by kernel_rfl
/-- the instance of a claim by what makes x into t -/
noncomputable def instOf (n : Nat) (fs : List Fc) (x t : T) : Option (List Fc) := (x.fit t (fun _ => zeroT)).map fun r => subC (listT n r) fs
noncomputable def goodPt (fs : List Fc) (x : T) : Bool := decide (¬ x.head < 0 ∧ (x.order []).length = (orderL (treesF fs) []).length)
noncomputable def partK (fs : List Fc) (subs : List T) (x : T) : List (List Fc) := if goodPt fs x = true then subs.filterMap (instOf (varsC fs) fs x) else []
noncomputable def ofD (fs : List Fc) (subs : List T) : List (List Fc) := (subsF (treesF fs)).flatMap (partK fs subs)
theorem filterMap_take {α β : Type} {f : α → Option β} {l : List α} {k : Nat} (h : k < l.length) : (l.take (k + 1)).filterMap f = (l.take k).filterMap f ++ (f l[k]).toList := by
  rw [List.take_succ_eq_append_getElem h, List.filterMap_append]
  simp only [List.filterMap_cons, List.filterMap_nil]
  cases hf : f l[k] <;> rfl
theorem flatMap_take {α β : Type} {f : α → List β} {l : List α} {k : Nat} (h : k < l.length) : (l.take (k + 1)).flatMap f = (l.take k).flatMap f ++ f l[k] := by
  rw [List.take_succ_eq_append_getElem h, List.flatMap_append]; simp
theorem partK_len {fs : List Fc} {subs : List T} {x : T} : (partK fs subs x).length ≤ subs.length := by
  unfold partK
  split
  · exact List.length_filterMap_le _ _
  · simp
theorem flatK_len {fs : List Fc} {subs : List T} (h : subs.length ≤ 1000000) : ∀ l : List T, (l.flatMap (partK fs subs)).length ≤ l.length * 1000000
  | [] => by simp
  | x :: r => by
    have h1 := flatK_len (fs := fs) h r
    have h2 := partK_len (fs := fs) (subs := subs) (x := x)
    simp only [List.flatMap_cons, List.length_append, List.length_cons]; omega
theorem Elt.Own.tight {α : Type} {E : Elt α} {p q : Nat → Prop} {B : Nat} {w : World} {o : Value} {xs : List α} (h : E.Own p B w o xs) (hpq : ∀ b, p b → b < w.heap.size → q b) : E.Own q B w o xs := by
  obtain ⟨css, h1, h2, h3⟩ := h
  exact ⟨css, h1, h2, fun i cs x e1 e2 => E.keep (fun b hb hl => ⟨rfl, hpq b hb.1 hl, hb.2⟩) (h3 i cs x e1 e2)⟩
theorem mostL_mem {l : List T} {t : T} (h : t ∈ l) : t.most ≤ mostL l := by
  obtain ⟨i, hi, rfl⟩ := List.getElem_of_mem h
  have h1 := mostL_take hi
  have h2 := mostL_append (l.take (i + 1)) (l.drop (i + 1))
  rw [List.take_append_drop] at h2
  rw [gK_get hi] at h1
  omega
theorem most_pre (t : T) : ∀ x ∈ t.pre, x.most ≤ t.most := by
  induction t using T.ind with
  | h t ih =>
  intro x hx
  rw [T.pre_eq] at hx
  rcases List.mem_cons.1 hx with rfl | hx
  · exact Int.le_refl _
  · obtain ⟨u, hu, hx⟩ := mem_preLs.1 hx
    obtain ⟨i, hi, rfl⟩ := List.getElem_of_mem hu
    have h1 := ih i hi x (by rw [gK_get hi]; exact hx)
    have h2 := mostL_mem hu
    have h3 := T.most_eq t
    rw [gK_get hi] at h1
    omega
theorem part_most {fs : List Fc} {x : T} (h : x ∈ subsF (treesF fs)) : x.most ≤ (varsC fs : Nat) := by
  rw [varsC_cast]
  unfold subsF at h
  rcases mem_foldT.1 h with h | h
  · cases h
  · obtain ⟨t, ht, hx⟩ := mem_preLs.1 h
    exact Int.le_trans (most_pre t x hx) (mostL_mem ht)
def Apart2 (x y : Value) : Prop := ∀ b, x.ownBlock = some b → y.ownBlock = some b → False
/-- what the fit of x to t binds, as a row -/
noncomputable def fitRow (n : Nat) (x t : T) : List T := ((x.fit t (fun _ => zeroT)).map (listT n)).getD []
theorem fitRow_none {n : Nat} {x t : T} (h : (x.fit t (fun _ => zeroT)).isSome = false) : fitRow n x t = [] := by unfold fitRow; cases hx : x.fit t (fun _ => zeroT) <;> simp_all
theorem fitRow_some {n : Nat} {fs : List Fc} {x t : T} (h : (x.fit t (fun _ => zeroT)).isSome = true) : (fitRow n x t).length = n ∧ instOf n fs x t = some (subC (fitRow n x t) fs) := by
  unfold fitRow instOf
  cases hx : x.fit t (fun _ => zeroT) with
  | none => simp [hx] at h
  | some r => exact ⟨by simp [listT], rfl⟩
theorem instOf_none {n : Nat} {fs : List Fc} {x t : T} (h : (x.fit t (fun _ => zeroT)).isSome = false) : instOf n fs x t = none := by
  unfold instOf
  cases hx : x.fit t (fun _ => zeroT) with
  | none => rfl
  | some r => simp [hx] at h
def OfP (p : Nat → Prop) (fs : List Fc) (subs : List T) (w : World) (e : Ending) (w' : World) : Prop :=
  ∃ ro rs, e = .returned (.slice ro (ofD fs subs).length ((ofD fs subs).length + rs)) ∧ claimE.Row (fun b => p b ∨ w.heap.size ≤ b) w' ro (ofD fs subs) ∧ (ofD fs subs).length ≤ maxLen ∧ Below w.heap.size w w'

set_option maxRecDepth 100000 in
set_option maxHeartbeats 8000000 in
theorem of70 (fs : List Fc) (subs : List T) (p : Nat → Prop) (ao so : Option Addr) (sp ss : Nat) (w : World) (hp : ∀ b, p b → b < w.heap.size) (h : factE.Row p w ao fs) (hs : treeE.Row p w so subs) (hn : fs.length ≤ 100) (hg : ∀ t ∈ treesF fs, (treeF t).1 = 0) (hgs : ∀ t ∈ subs, (treeF t).1 = 0) (hsn : subs.length ≤ 1000000) :
    Calls Try.prog 70 #[.agg #[.slice ao fs.length (fs.length + sp)], .slice so subs.length (subs.length + ss)] w (OfP p fs subs w) := by
  obtain ⟨i54, gi, gz0, gz1, gz2⟩ := info_parts info54
  obtain ⟨i41, hi, hz0, hz1, hz2⟩ := info_parts infoOf41
  have HP := Lib.hid hp; have HF0 := Lib.hid h; have HS0 := Lib.hid hs; have HG := Lib.hid hg; have HGS := Lib.hid hgs
  have HLOW := Lib.hid (fun t ht => low_of_pre t (treeF_ok.1 (hg t ht)).2.2)
  have HPG := Lib.hid (subsF_good hg)
  have HTL := Lib.hid (show (treesF fs).length ≤ 200 by rw [treesF_length]; omega)
  have HSZ := Lib.hid (show sizeL (treesF fs) ≤ 8000 by
    have h1 := sizeL_bound (n := 40) (l := treesF fs) (fun t ht => (treeF_ok.1 (hg t ht)).1)
    have h2 := treesF_length fs
    omega)
  obtain ⟨bx, hbx⟩ : ∃ b, b = w.heap.size := ⟨_, rfl⟩
  have HB0 := Lib.hid ((Below.refl w.heap.size w).alloc (Nat.le_refl _) (.cells #[.slice ao fs.length (fs.length + sp)] 41))
  have hc0 := heap_ofAlloc w (.cells #[.slice ao fs.length (fs.length + sp)] 41)
  rw [← hbx] at hc0
  have HBX := Lib.hid hbx
  have HC0 := Lib.hid (box1 hc0).1
  have hx0 := HC0.out
  clear hp h hs hg hgs hc0
  go_enter Try.func70, Try.ntmps70
  go_wp2_with fail
  rw [← hbx]
  refine (trees64 fs p ao sp _ (HF0.out.kept HB0.out) (by omega) (fun b hb => by have := HP.out b hb; simp; omega)).mono ?_
  rintro e w1 ⟨tro, tsp, rfl, htr, hb1⟩
  have HB1 := Lib.hid (Below.step HB0.out hb1)
  obtain ⟨H0, hH0⟩ : ∃ H, H = w1.heap.size := ⟨_, rfl⟩
  have HH0 := Lib.hid (show bx + 1 ≤ H0 by have := hb1.size; simp at this; omega)
  have HH1 := Lib.hid hH0
  obtain ⟨p1, hp1⟩ : ∃ q : Nat → Prop, q = fun b => (p b ∨ bx ≤ b) ∧ b < H0 := ⟨_, rfl⟩
  have HP1 := Lib.hid (show ∀ b, p1 b → b < H0 by rw [hp1]; exact fun b h => h.2)
  have HPP := Lib.hid (show ∀ b, p1 b → p b ∨ bx ≤ b by rw [hp1]; exact fun b h => h.1)
  have HPI := Lib.hid (show ∀ b, (p b ∨ bx ≤ b) → b < H0 → p1 b by rw [hp1]; exact fun b h h2 => ⟨h, h2⟩)
  have HTR := Lib.hid (show treeE.Row p1 w1 tro (treesF fs) from Elt.Row.mono htr (fun b h h2 => HPI.out b (h.imp id (fun h => by have := HBX.out; simp at h; omega)) (by omega)))
  have HFR := Lib.hid (show factE.Row p1 w1 ao fs from Elt.Row.mono (HF0.out.kept HB1.out) (fun b h h2 => HPI.out b (.inl h) (by omega)))
  have HSR := Lib.hid (show treeE.Row p1 w1 so subs from Elt.Row.mono (HS0.out.kept HB1.out) (fun b h h2 => HPI.out b (.inl h) (by omega)))
  have HX1 := Lib.hid (Below.cellOf hb1 HC0.out)
  have htl := HTL.out
  have S := ((St.start w1).cons (.owns treeE H0 p1 (.slice none 0 0) []) (Elt.Own.nil _ _ _ _)).cons (.owns intE H0 pF (.slice none 0 0) []) (Elt.Own.nil _ _ _ _)
  have zz : H0 ≤ w1.heap.size := by omega
  have HLE := Lib.hid (show w1.heap.size ≤ H0 by omega)
  obtain ⟨ts, hts⟩ : ∃ z, z = treesF fs := ⟨_, rfl⟩
  rw [← hts] at htl HTR HTL HSZ ⊢
  have HTS := Lib.hid hts
  clear htr hb1 hp1 hH0 hx0 hbx hts
  go_wp2_with fail
  go_loopw [5, 6, 8] (fun u x i wr => ∃ k : Nat, k ≤ ts.length ∧ i = .int .i64 k ∧ Hid (Apart2 u x) ∧ H0 ≤ wr.heap.size ∧ St w1 wr [.owns intE H0 pF u (orderL (ts.take k) []), .owns treeE H0 p1 x ((preL (ts.take k)).foldl addT [])]) (fun _ _ i _ => ts.length - (intOf i).toNat)
  case atStart => exact ⟨0, by omega, rfl, Lib.hid (fun b h => by simp [Value.ownBlock] at h), zz, S⟩
  case round =>
    clear S zz
    obtain ⟨k, hk, rfl, HAP, z1, S⟩ := hrel
    have OU := Lib.hid (S.ownlt intE 0)
    have OX := Lib.hid (S.ownlt treeE 1)
    by_cases hlt : k < ts.length
    · have hlti : (k : Int) < (ts.length : Int) := by omega
      obtain ⟨b, off, ka, sa, rfl, hpb, c0, c1, hta⟩ := (HTR.out.kept S.bel).tree hlt
      have HTA := Lib.hid ((HTR.out.rowP k hlt))
      obtain ⟨b', off', ka', sa', e', hpb', c0', c1', hta'⟩ := HTA.out
      obtain ⟨rfl, rfl⟩ : b = b' ∧ off = off' := by simpa using e'
      rw [gK_get hlt] at c0' c1' hta'
      have d0 := Below.cellOf S.bel c0'
      have d1 := Below.cellOf S.bel c1'
      have HTX := Lib.hid hta'
      have HSUM := Lib.hid (show sizeL (ts.take k) + ts[k].size ≤ 8000 by
        have h3 := sizeL_take hlt
        have h4 := sizeL_take_le ts (k + 1)
        have h5 := HSZ.out
        rw [gK_get hlt] at h3
        omega)
      have HOT := Lib.hid (show orderL (ts.take (k + 1)) [] = ts[k].order (orderL (ts.take k) []) by rw [orderL_take hlt, gK_get hlt])
      have HPT := Lib.hid (show (preL (ts.take (k + 1))).foldl addT [] = ts[k].pre.foldl addT ((preL (ts.take k)).foldl addT []) by rw [preL_take hlt, gK_get hlt, List.foldl_append])
      have HC := Lib.hid (fun W (hb : Below w1.heap.size w1 W) => And.intro (Below.cellOf hb c0') (Below.cellOf hb c1'))
      clear hta hta' c0 c1 c0' c1' HTA e'
      obtain ⟨X, hX⟩ : ∃ X, X = ts[k] := ⟨_, rfl⟩
      rw [← hX] at HTX HSUM HOT HPT d0 d1 HC
      clear hX
      go_wp2_with fail
      refine (order68 X p1 w1 wr H0 _ u5 _ _ (fun b h => by have := HP1.out b h; have := HH1.out; omega) (by have := HLE.out; omega) z1 HTX.out S (fun b' h => ⟨fun h2 => ?_, trivial⟩) (by
        have h1 := HSUM.out
        have h2 := orderL_length (ts.take k) []
        simp at h2; omega)).mono ?_
      · have h4 := HH1.out
        rcases h2 with h2 | h2
        · rcases h with h | h
          · exact HAP.out b' h h2
          · have := (OX.out b' h2).2; omega
        · have h3 := HP1.out b' h2
          rcases h with h | h
          · have := (OU.out b' h).1; omega
          · omega
      rintro e w3 ⟨u2, rfl, z3, hu2, S3⟩
      rw [← HOT.out] at S3
      have HAP3 := Lib.hid (show Apart2 u2 u6 from fun b h1 h2 => by
        rcases hu2 b h1 with h | h
        · exact HAP.out b h h2
        · have := (OX.out b h2).2; omega)
      have OU3 := Lib.hid (S3.ownlt intE 0)
      have OX3 := Lib.hid (S3.ownlt treeE 1)
      obtain ⟨e0, e1⟩ := HC.out w3 S3.bel
      have S4 := S3.swap
      clear S S3 hu2 d0 d1 HAP OU
      go_wp2_with fail
      refine (subs69 X p1 w1 w3 H0 _ u6 _ _ (fun b h => by have := HP1.out b h; have := HH1.out; omega) (by have := HLE.out; omega) (by omega) HTX.out S4 (fun b' h => ⟨fun h2 => ?_, trivial⟩) (by
        have h1 := HSUM.out
        have h2 := foldT_len (preL (ts.take k)) []
        have h3 := preL_len (ts.take k)
        simp only [List.length_nil] at h2; omega)).mono ?_
      · rcases h2 with h2 | h2
        · rcases h with h | h
          · exact HAP3.out b' h2 h
          · have := (OU3.out b' h2).2; omega
        · exact h2
      rintro e w4 ⟨x2, rfl, z4, hx2, S5⟩
      rw [← HPT.out] at S5
      have HAP4 := Lib.hid (show Apart2 u2 x2 from fun b h1 h2 => by
        rcases hx2 b h2 with h | h
        · exact HAP3.out b h1 h
        · have := (OU3.out b h1).2; omega)
      have S6 := S5.swap
      clear S4 S5 hx2 e0 e1 HAP3 OX3 OU3
      go_wp2_with fail
      go_roundw
      case rel => exact ⟨k + 1, by omega, by go_num, HAP4, by omega, S6⟩
      case measure => simp [intOf] <;> omega
    · obtain rfl : k = ts.length := by omega
      rw [List.take_length] at S
      obtain ⟨va, vsp, rfl, _, _⟩ := (S.owns intE 0).rowQ
      obtain ⟨po, psp, rfl, hrq, hpm⟩ := (S.owns treeE 1).rowQ
      obtain ⟨V, hV⟩ : ∃ V, V = orderL ts [] := ⟨_, rfl⟩
      obtain ⟨P, hP⟩ : ∃ P, P = (preL ts).foldl addT [] := ⟨_, rfl⟩
      rw [← hV, ← hP] at S
      rw [← hP] at hrq hpm
      rw [← hV, ← hP]
      have HV := Lib.hid (show V = orderL (treesF fs) [] by rw [hV, HTS.out])
      have HPS := Lib.hid (show P = subsF (treesF fs) by rw [hP, HTS.out]; rfl)
      have HPL := Lib.hid (show P.length ≤ 8000 by
        rw [hP]
        have h2 := foldT_len (preL ts) []
        have h3 := preL_len ts
        have h4 := HSZ.out
        simp only [List.length_nil] at h2; omega)
      have hpl := HPL.out
      have HVL := Lib.hid (show V.length ≤ 8000 by
        rw [hV]
        have h2 := orderL_length ts []
        have h4 := HSZ.out
        simp only [List.length_nil] at h2; omega)
      obtain ⟨H1, hH1⟩ : ∃ H, H = wr.heap.size := ⟨_, rfl⟩
      have HH2 := Lib.hid (show H0 ≤ H1 by omega)
      have S7 := (((St.start w1).step S.bel).cons (.rowQ treeE (fun b => H0 ≤ b ∧ b < H1) p1 po P) (by rw [hH1]; exact hrq)).cons (.owns claimE H1 (fun b => p1 b ∨ H1 ≤ b) (.slice none 0 0) []) (Elt.Own.nil _ _ _ _)
      obtain ⟨n2, hn2⟩ : ∃ n, n = V.length := ⟨_, rfl⟩
      have hvl : n2 ≤ 8000 := by have := HVL.out; omega
      rw [← hn2]
      have HN2 := Lib.hid hn2
      clear S hrq OU OX HAP hV hP hn2
      go_wp2_with fail
      refine S7.genC (z := H1) (by omega) ?_
      intro w2 z2 S
      clear S7 hH1 hpm z1
      go_loopw [9, 10] (fun o i wr => ∃ k : Nat, k ≤ P.length ∧ i = .int .i64 k ∧ H1 ≤ wr.heap.size ∧ St w1 wr [.owns claimE H1 (fun b => p1 b ∨ H1 ≤ b) o ((P.take k).flatMap (partK fs subs)), .rowQ treeE (fun b => H0 ≤ b ∧ b < H1) p1 po P]) (fun _ i _ => P.length - (intOf i).toNat)
      case atStart => exact ⟨0, by omega, rfl, z2, S⟩
      case round =>
        clear S z2
        obtain ⟨k, hk, rfl, z1, S⟩ := hrel
        by_cases hlt : k < P.length
        · have hlti : (k : Int) < (P.length : Int) := by omega
          obtain ⟨b, off, ka, sa, rfl, hrb, c0, c1, hta⟩ := (show treeE.RowQ (fun b => H0 ≤ b ∧ b < H1) p1 wr po P from S.rowQ treeE 1).tree hlt
          have HX0 := Lib.hid (HPG.out (gK P k) (by rw [gK_get hlt, ← HPS.out]; exact List.getElem_mem hlt))
          have HXM := Lib.hid (show (gK P k).most ≤ (varsC fs : Nat) from part_most (by rw [gK_get hlt, ← HPS.out]; exact List.getElem_mem hlt))
          have HFT := Lib.hid (show (P.take (k + 1)).flatMap (partK fs subs) = (P.take k).flatMap (partK fs subs) ++ partK fs subs (gK P k) by rw [flatMap_take hlt, gK_get hlt])
          have HKL := Lib.hid (show ((P.take k).flatMap (partK fs subs)).length ≤ k * 1000000 by
            have h1 := flatK_len (fs := fs) hsn (P.take k)
            have h2 : (P.take k).length = k := by simp; omega
            rw [h2] at h1; exact h1)
          obtain ⟨x, hx⟩ : ∃ x, x = gK P k := ⟨_, rfl⟩
          rw [← hx] at c0 c1 hta HX0 HXM HFT
          have HXE := Lib.hid hx
          have HXT := Lib.hid (hta.before (w := w1) (fun b h => by have := HP1.out b h; have := HH1.out; omega) S.bel)
          obtain ⟨K, hK⟩ : ∃ K, K = (P.take k).flatMap (partK fs subs) := ⟨_, rfl⟩
          rw [← hK] at S HFT HKL
          obtain ⟨H3, hH3⟩ : ∃ H, H = wr.heap.size := ⟨_, rfl⟩
          have S2 := (S.tail.cons (.owns claimE H1 (fun b => p1 b ∨ (H1 ≤ b ∧ b < H3)) u9 K) ((S.owns claimE 0).tight (fun b h h2 => by rcases h with h | h; exact .inl h; exact .inr ⟨h, by omega⟩))).cons (.owns intE wr.heap.size pF (.slice none 0 0) []) (Elt.Own.nil _ _ _ _)
          have OK2 := Lib.hid (S.ownlt claimE 0)
          have HX1' := Lib.hid (treeF_ok.1 HX0.out)
          have hxs := HX1'.out.1
          clear hta hx hK S
          go_wp2_with fail
          refine (order68 x p1 w1 wr wr.heap.size _ (.slice none 0 0) _ [] (fun b h => by have := HP1.out b h; have := HH1.out; omega) (by have := HLE.out; have := HH2.out; omega) (Nat.le_refl _) HXT.out S2 (fun b' h => ?_) (by simp only [List.length_nil]; omega)).mono ?_
          · have hb' : wr.heap.size ≤ b' := by
              rcases h with h | h
              · simp [Value.ownBlock] at h
              · exact h
            have h5 := HH1.out
            have h6 := HH2.out
            have h7 := HLE.out
            refine ⟨fun h2 => ?_, fun h2 => ?_, trivial⟩
            · rcases h2 with h2 | h2 | h2
              · have := (OK2.out b' h2).2; omega
              · have := HP1.out b' h2; omega
              · omega
            · rcases h2 with h2 | h2
              · omega
              · have := HP1.out b' h2; omega
          rintro e w3 ⟨o3, rfl, z3, ho3, S3⟩
          obtain ⟨ha, hsp, rfl, _, _⟩ := (S3.owns intE 0).rowQ
          obtain ⟨n1, hn1⟩ : ∃ n, n = (x.order []).length := ⟨_, rfl⟩
          rw [← hn1]
          have HGP := Lib.hid (show goodPt fs x = decide (¬ x.head < 0 ∧ n1 = n2) by unfold goodPt; rw [hn1, HN2.out, HV.out])
          have S4 := S3.tail
          have HBW := Lib.hid z3
          obtain ⟨_, _, _, _, e', _, d0, d1, _⟩ := (show treeE.RowQ (fun b => H0 ≤ b ∧ b < H1) p1 w3 (some ⟨b, off, none⟩) P from S4.rowQ treeE 1).tree hlt
          obtain ⟨rfl, rfl⟩ := (show b = _ ∧ off = _ by simpa using e')
          rw [← HXE.out] at d0
          clear e' d1
          have S5 : St w1 w3 [.owns claimE H1 (fun b => p1 b ∨ H1 ≤ b) u9 K, .rowQ treeE (fun b => H0 ≤ b ∧ b < H1) p1 (some ⟨b, off, none⟩) P] := S4.tail.cons (.owns claimE H1 (fun b => p1 b ∨ H1 ≤ b) u9 K) ((S4.owns claimE 0).mono (q := fun b => p1 b ∨ H1 ≤ b) (fun b (h : p1 b ∨ (H1 ≤ b ∧ b < H3)) => h.imp id (fun h => h.1)))
          clear S2 S3 S4 ho3 c0 c1 hn1 OK2
          by_cases hneg : x.head < 0
          · have HFK := Lib.hid (show (P.take (k + 1)).flatMap (partK fs subs) = K by rw [HFT.out]; unfold partK; rw [HGP.out]; simp [hneg])
            go_wp2_with fail
            go_roundw
            case rel => exact ⟨k + 1, by omega, by go_num, by omega, by rw [HFK.out]; exact S5⟩
            case measure => simp [intOf] <;> omega
          by_cases hnn : n1 = n2
          case neg =>
            have HFK := Lib.hid (show (P.take (k + 1)).flatMap (partK fs subs) = K by rw [HFT.out]; unfold partK; rw [HGP.out]; simp [hnn])
            have hne : ((n1 : Int) != (n2 : Int)) = true := by simp; omega
            clear hnn
            go_wp2_with fail
            go_roundw
            case rel => exact ⟨k + 1, by omega, by go_num, by omega, by rw [HFK.out]; exact S5⟩
            case measure => simp [intOf] <;> omega
          have HGT := Lib.hid (show partK fs subs x = subs.filterMap (instOf (varsC fs) fs x) by unfold partK; rw [if_pos (by rw [HGP.out]; simp [hneg, hnn])])
          subst hnn
          obtain ⟨N, hN⟩ : ∃ N, N = varsC fs := ⟨_, rfl⟩
          rw [← hN] at HGT HXM
          have HN := Lib.hid hN
          have HXN := Lib.hid (show x.most ≤ (N : Int) from HXM.out)
          have HN8 := Lib.hid (show N ≤ 8 by
            have h1 := mostL_bound (l := treesF fs) HG.out
            have h2 := varsC_cast (fs := fs)
            rw [hN]; omega)
          have hK0 : K ++ (subs.take 0).filterMap (instOf N fs x) = K := by simp
          have hnb : ((n1 : Int) != (n1 : Int)) = false := by simp
          have hneg0 : 0 ≤ x.head := by omega
          clear hN
          have hsl : (subs.length : Int) ≤ 1000000 := by omega
          go_wp2_with fail
          refine S5.genC (z := w3.heap.size) (Nat.le_refl _) ?_
          intro w4 z4 S
          go_loopw [9, 12] (fun o i wr => ∃ m : Nat, m ≤ subs.length ∧ i = .int .i64 m ∧ w3.heap.size ≤ wr.heap.size ∧ St w1 wr [.owns claimE H1 (fun b => p1 b ∨ H1 ≤ b) o (K ++ (subs.take m).filterMap (instOf N fs x)), .rowQ treeE (fun b => H0 ≤ b ∧ b < H1) p1 (some ⟨b, off, none⟩) P]) (fun _ i _ => subs.length - (intOf i).toNat)
          case atStart => exact ⟨0, by omega, rfl, z4, by rw [hK0]; exact S⟩
          case round =>
            clear S z4 S5 hK0
            obtain ⟨m, hm, rfl, z5, S⟩ := hrel
            by_cases hlt2 : m < subs.length
            · have hlti2 : (m : Int) < (subs.length : Int) := by omega
              obtain ⟨tb, toff, tk, tsp2, rfl, _, d0', d1', htt⟩ := HSR.out.tree hlt2
              have HT0 := Lib.hid (HGS.out subs[m] (List.getElem_mem hlt2))
              have HFI := Lib.hid (show (subs.take (m + 1)).filterMap (instOf N fs x) = (subs.take m).filterMap (instOf N fs x) ++ (instOf N fs x subs[m]).toList from filterMap_take hlt2)
              obtain ⟨t, ht⟩ : ∃ t, t = subs[m] := ⟨_, rfl⟩
              rw [← ht] at d0' d1' htt HT0 HFI
              have d0 := Below.cellOf S.bel d0'
              have d1 := Below.cellOf S.bel d1'
              have HTT := Lib.hid htt
              have x0 := Below.cellOf S.bel HX1.out
              obtain ⟨_, _, ka2, sa2, e', _, c0, c1, hx2⟩ := (show treeE.RowQ (fun b => H0 ≤ b ∧ b < H1) p1 wr (some ⟨b, off, none⟩) P from S.rowQ treeE 1).tree hlt
              obtain ⟨rfl, rfl⟩ := (show b = _ ∧ off = _ by simpa using e')
              rw [← HXE.out] at c0 c1 hx2
              have HXT2 := Lib.hid (hx2.before (w := w1) (fun b h => by have := HP1.out b h; have := HH1.out; omega) S.bel)
              clear e' d0' d1' htt ht hx2
              obtain ⟨K', hK'⟩ : ∃ Z, Z = K ++ (subs.take m).filterMap (instOf N fs x) := ⟨_, rfl⟩
              have HK2 := Lib.hid (show K'.length ≤ k * 1000000 + m by
                have h1 := HKL.out
                have h2 : ((subs.take m).filterMap (instOf N fs x)).length ≤ (subs.take m).length := List.length_filterMap_le _ _
                have h3 : (subs.take m).length ≤ m := by simp; omega
                rw [hK', List.length_append]; omega)
              have HKE := Lib.hid (show K ++ (subs.take (m + 1)).filterMap (instOf N fs x) = K' ++ (instOf N fs x t).toList by rw [HFI.out, hK', List.append_assoc])
              rw [← hK'] at S
              obtain ⟨ok, hok⟩ : ∃ z, z = (x.fit t (fun _ => zeroT)).isSome := ⟨_, rfl⟩
              have HOK := Lib.hid hok.symm
              obtain ⟨H4, hH4⟩ : ∃ H, H = wr.heap.size := ⟨_, rfl⟩
              have ST := (S.tail.cons (.owns claimE H1 (fun b => p1 b ∨ (H1 ≤ b ∧ b < H4)) u9 K') ((S.owns claimE 0).tight (q := fun b => p1 b ∨ (H1 ≤ b ∧ b < H4)) (fun b h h2 => by rcases h with h | h; exact .inl h; exact .inr ⟨h, by omega⟩)))
              have HZ4 := Lib.hid (show w3.heap.size ≤ H4 by omega)
              have OK4 := Lib.hid (show ∀ b, u9.ownBlock = some b → H1 ≤ b ∧ b < H4 by rw [hH4]; exact S.ownlt claimE 0)
              have SD := ST.drew
              have FC := Lib.hid (fun W (hb : Below wr.heap.size wr W) => (⟨Below.cellOf hb c0, Below.cellOf hb c1, Below.cellOf hb d0, Below.cellOf hb d1, Below.cellOf hb x0⟩ : _ ∧ _ ∧ _ ∧ _ ∧ _))
              have hmk := make25 N (by have := HN8.out; omega)
              clear S ST hK' hok c0 c1 d0 d1 x0
              go_upto_region 19 with fail
              go_cut [13, 14] (fun t13 t14 W => ∃ (ro : Option Addr) (rc H5 : Nat), t13 = .slice ro N rc ∧ t14 = .bool ok ∧ H4 ≤ H5 ∧ H5 ≤ W.heap.size ∧ St w1 W [.rowE treeE (fun b => p1 b ∨ (H4 ≤ b ∧ b < H5)) ro (fitRow N x t), .owns claimE H1 (fun b => p1 b ∨ (H1 ≤ b ∧ b < H4)) u9 K', .rowQ treeE (fun b => H0 ≤ b ∧ b < H1) p1 (some ⟨b, off, none⟩) P])
              case first =>
                refine wpH_region [] (fun W => W.cell? ⟨b, off + k * 2, none⟩ = some (.int .i64 x.head) ∧ W.cell? ⟨b, off + k * 2 + 1, none⟩ = some (.slice ka2 x.kids.length (x.kids.length + sa2)) ∧ W.cell? ⟨tb, toff + m * 2, none⟩ = some (.int .i64 t.head) ∧ W.cell? ⟨tb, toff + m * 2 + 1, none⟩ = some (.slice tk t.kids.length (t.kids.length + tsp2)) ∧ W.cell? ⟨bx, 0, none⟩ = some (.slice ao fs.length (fs.length + sp))) (by kernel_rfl) ?_
                have HS := FC.out _ (Below.refl _ wr).drew
                refine wpH.take (i := 0) (by kernel_rfl) (by kernel_rfl) (by kernel_rfl) (by kernel_rfl) (by kernel_rfl) HS ?_
                intro oi ho
                simp only [List.getElem?_toArray, List.getElem?_cons_zero, Option.some.injEq] at ho
                subst ho
                refine ⟨?_, Or.inl ⟨by rfl, ?_⟩, fun _ _ _ h => h, ?_⟩
                rotate_left 1
                · intro W hW
                  try dsimp only at hW
                  go_simp
                  try with_reducible rfl
                simp only [Act.put, List.setIfInBounds_toArray, List.set_cons_zero, List.set_cons_succ]
                refine wpH.take (i := 1) (by kernel_rfl) (by kernel_rfl) (by kernel_rfl) (by kernel_rfl) (by kernel_rfl) HS ?_
                intro oi ho
                simp only [List.getElem?_toArray, List.getElem?_cons_succ, List.getElem?_cons_zero, Option.some.injEq] at ho
                subst ho
                refine ⟨?_, Or.inl ⟨by rfl, ?_⟩, fun _ _ _ h => h, ?_⟩
                rotate_left 1
                · intro W hW
                  try dsimp only at hW
                  go_simp
                  try with_reducible rfl
                simp only [Act.put, List.setIfInBounds_toArray, List.set_cons_zero, List.set_cons_succ]
                refine wpH.take (i := 2) (by kernel_rfl) (by kernel_rfl) (by kernel_rfl) (by kernel_rfl) (by kernel_rfl) HS ?_
                intro oi ho
                simp only [List.getElem?_toArray, List.getElem?_cons_succ, List.getElem?_cons_zero, Option.some.injEq] at ho
                subst ho
                refine ⟨?_, Or.inl ⟨by rfl, ?_⟩, fun _ _ _ h => h, ?_⟩
                rotate_left 1
                · intro W hW
                  try dsimp only at hW
                  go_simp
                  try with_reducible rfl
                simp only [Act.put, List.setIfInBounds_toArray, List.set_cons_zero, List.set_cons_succ]
                refine wpH.take (i := 3) (by kernel_rfl) (by kernel_rfl) (by kernel_rfl) (by kernel_rfl) (by kernel_rfl) HS ?_
                intro oi ho
                simp only [List.getElem?_toArray, List.getElem?_cons_succ, List.getElem?_cons_zero, Option.some.injEq] at ho
                subst ho
                refine ⟨?_, Or.inl ⟨by rfl, ?_⟩, fun _ _ _ h => h, ?_⟩
                rotate_left 1
                · intro W hW
                  try dsimp only at hW
                  go_simp
                  try with_reducible rfl
                simp only [Act.put, List.setIfInBounds_toArray, List.set_cons_zero, List.set_cons_succ]
                refine wpH.take (i := 4) (by kernel_rfl) (by kernel_rfl) (by kernel_rfl) (by kernel_rfl) (by kernel_rfl) HS ?_
                intro oi ho
                simp only [List.getElem?_toArray, List.getElem?_cons_succ, List.getElem?_cons_zero, Option.some.injEq] at ho
                subst ho
                refine ⟨?_, Or.inl ⟨by rfl, ?_⟩, fun _ _ _ h => h, ?_⟩
                rotate_left 1
                · intro W hW
                  try dsimp only at hW
                  go_simp
                  try with_reducible rfl
                simp only [Act.put, List.setIfInBounds_toArray, List.set_cons_zero, List.set_cons_succ]
                refine wpH.take (i := 5) (by kernel_rfl) (by kernel_rfl) (by kernel_rfl) (by kernel_rfl) (by kernel_rfl) HS ?_
                intro oi ho
                simp only [List.getElem?_toArray, List.getElem?_cons_succ, List.getElem?_cons_zero, Option.some.injEq] at ho
                subst ho
                refine ⟨?_, Or.inl ⟨by rfl, ?_⟩, fun _ _ _ h => h, ?_⟩
                rotate_left 1
                · intro W hW
                  try dsimp only at hW
                  go_simp
                  try with_reducible rfl
                simp only [Act.put, List.setIfInBounds_toArray, List.set_cons_zero, List.set_cons_succ]
                refine wpH.take (i := 6) (by kernel_rfl) (by kernel_rfl) (by kernel_rfl) (by kernel_rfl) (by kernel_rfl) HS ?_
                intro oi ho
                simp only [List.getElem?_toArray, List.getElem?_cons_succ, List.getElem?_cons_zero, Option.some.injEq] at ho
                subst ho
                refine ⟨?_, Or.inl ⟨by rfl, ?_⟩, fun _ _ _ h => h, ?_⟩
                rotate_left 1
                · intro W hW
                  try dsimp only at hW
                  go_simp
                  try with_reducible rfl
                simp only [Act.put, List.setIfInBounds_toArray, List.set_cons_zero, List.set_cons_succ]
                refine wpH.take (i := 7) (by kernel_rfl) (by kernel_rfl) (by kernel_rfl) (by kernel_rfl) (by kernel_rfl) HS ?_
                intro oi ho
                simp only [List.getElem?_toArray, List.getElem?_cons_succ, List.getElem?_cons_zero, Option.some.injEq] at ho
                subst ho
                refine ⟨?_, Or.inl ⟨by rfl, ?_⟩, fun _ _ _ h => h, ?_⟩
                rotate_left 1
                · intro W hW
                  try dsimp only at hW
                  go_simp
                  try with_reducible rfl
                simp only [Act.put, List.setIfInBounds_toArray, List.set_cons_zero, List.set_cons_succ]
                refine wpH.take (i := 8) (by kernel_rfl) (by kernel_rfl) (by kernel_rfl) (by kernel_rfl) (by kernel_rfl) HS ?_
                intro oi ho
                simp only [List.getElem?_toArray, List.getElem?_cons_succ, List.getElem?_cons_zero, Option.some.injEq] at ho
                subst ho
                refine ⟨?_, Or.inl ⟨by rfl, ?_⟩, fun _ _ _ h => h, ?_⟩
                rotate_left 1
                · intro W hW
                  try dsimp only at hW
                  go_simp
                  try with_reducible rfl
                simp only [Act.put, List.setIfInBounds_toArray, List.set_cons_zero, List.set_cons_succ]
                refine wpH.one (i := 9) (by kernel_rfl) ?_
                intro oi ho
                simp only [List.getElem?_toArray, List.getElem?_cons_succ, List.getElem?_cons_zero, Option.some.injEq] at ho
                subst ho
                intro K hK
                have HK := Lib.hid hK
                clear hK
                go_simp
                go_at_call 31
                refine (claimMost31 fs p1 ao sp _ (HFR.out.kept SD.bel) (by omega) (fun b h => by have h1 := HP1.out b h; have h2 := HH1.out; have h3 := SD.size; omega) HLOW.out).mono ?_
                rintro e wn ⟨rfl, hbn⟩
                rw [← HN.out]
                have S9 := SD.step hbn
                have HB9 := Lib.hid (Below.step (Below.refl _ wr).drew hbn)
                have zn : wr.heap.size ≤ wn.heap.size := hbn.size
                clear hbn
                dsimp only
                refine HK.out _ _ (fun _ => FC.out _ HB9.out) ?_
                have HS := FC.out _ HB9.out
                try simp only [Act.put, List.setIfInBounds_toArray, List.set_cons_zero, List.set_cons_succ]
                refine wpH.one (i := 10) (by kernel_rfl) ?_
                intro oi ho
                simp only [List.getElem?_toArray, List.getElem?_cons_succ, List.getElem?_cons_zero, Option.some.injEq] at ho
                subst ho
                intro K hK
                have HK := Lib.hid hK
                clear hK
                go_simp
                have S10 := S9.alloc (.cells (madeCells (Value.agg #[.int .i64 0, .slice none 0 0]).cells (N * 2)) 38)
                have HB10 := Lib.hid (HB9.out.alloc (HB9.out.size) (.cells (madeCells (Value.agg #[.int .i64 0, .slice none 0 0]).cells (N * 2)) 38))
                refine HK.out _ _ (fun _ => FC.out _ HB10.out) ?_
                have HS := FC.out _ HB10.out
                try simp only [Act.put, List.setIfInBounds_toArray, List.set_cons_zero, List.set_cons_succ]
                refine wpH.one (i := 11) (by kernel_rfl) ?_
                intro oi ho
                simp only [List.getElem?_toArray, List.getElem?_cons_succ, List.getElem?_cons_zero, Option.some.injEq] at ho
                subst ho
                intro K hK
                have HK := Lib.hid hK
                clear hK
                go_simp
                go_at_call 46
                refine (fit35 N x t (fun _ => zeroT) (fun b => (p1 b ∨ wr.heap.size ≤ b) ∧ b < (wn.alloc (.cells (madeCells (Value.agg #[.int .i64 0, .slice none 0 0]).cells (N * 2)) 38)).heap.size) _ _ _ _ _ (fun _ h => h.2) ((HXT2.out.kept S10.bel).mono (fun b h h2 => ⟨.inl h, h2⟩)) ((HTT.out.kept S10.bel).mono (fun b h h2 => ⟨.inl h, h2⟩)) (RowP.made (heap_ofAlloc _ _) _ ⟨.inr zn, by simp⟩) HXN.out (by have := HN8.out; omega)).mono ?_
                rintro e w12 ⟨ro2, rc2, rfl, hrow, hb12⟩
                have S12 := S10.step hb12
                have HB12 := Lib.hid (Below.step HB10.out hb12)
                have HRW := Lib.hid hrow
                have HZ12 := Lib.hid hb12.size
                clear hb12 hrow
                dsimp only
                refine HK.out _ _ (fun _ => FC.out _ HB12.out) ?_
                have HS := FC.out _ HB12.out
                try simp only [Act.put, List.setIfInBounds_toArray, List.set_cons_zero, List.set_cons_succ]
                refine wpH.one (i := 12) (by kernel_rfl) ?_
                intro oi ho
                simp only [List.getElem?_toArray, List.getElem?_cons_succ, List.getElem?_cons_zero, Option.some.injEq] at ho
                subst ho
                intro K hK
                have HK := Lib.hid hK
                clear hK
                go_simp
                refine HK.out _ _ (fun _ => FC.out _ HB12.out) ?_
                have HS := FC.out _ HB12.out
                try simp only [Act.put, List.setIfInBounds_toArray, List.set_cons_zero, List.set_cons_succ]
                refine wpH.take (i := 13) (by kernel_rfl) (by kernel_rfl) (by kernel_rfl) (by kernel_rfl) (by kernel_rfl) HS ?_
                intro oi ho
                simp only [List.getElem?_toArray, List.getElem?_cons_succ, List.getElem?_cons_zero, Option.some.injEq] at ho
                subst ho
                refine ⟨?_, Or.inl ⟨by rfl, ?_⟩, fun _ _ _ h => h, ?_⟩
                rotate_left 1
                · intro W hW
                  try dsimp only at hW
                  go_simp
                  try with_reducible rfl
                simp only [Act.put, List.setIfInBounds_toArray, List.set_cons_zero, List.set_cons_succ]
                refine wpH.take (i := 14) (by kernel_rfl) (by kernel_rfl) (by kernel_rfl) (by kernel_rfl) (by kernel_rfl) HS ?_
                intro oi ho
                simp only [List.getElem?_toArray, List.getElem?_cons_succ, List.getElem?_cons_zero, Option.some.injEq] at ho
                subst ho
                refine ⟨?_, Or.inl ⟨by rfl, ?_⟩, fun _ _ _ h => h, ?_⟩
                rotate_left 1
                · intro W hW
                  try dsimp only at hW
                  go_simp
                  try with_reducible rfl
                simp only [Act.put, List.setIfInBounds_toArray, List.set_cons_zero, List.set_cons_succ]
                refine wpH.take (i := 15) (by kernel_rfl) (by kernel_rfl) (by kernel_rfl) (by kernel_rfl) (by kernel_rfl) HS ?_
                intro oi ho
                simp only [List.getElem?_toArray, List.getElem?_cons_succ, List.getElem?_cons_zero, Option.some.injEq] at ho
                subst ho
                refine ⟨?_, Or.inl ⟨by rfl, ?_⟩, fun _ _ _ h => h, ?_⟩
                rotate_left 1
                · intro W hW
                  try dsimp only at hW
                  go_simp
                  try with_reducible rfl
                simp only [Act.put, List.setIfInBounds_toArray, List.set_cons_zero, List.set_cons_succ]
                refine wpH.take (i := 16) (by kernel_rfl) (by kernel_rfl) (by kernel_rfl) (by kernel_rfl) (by kernel_rfl) HS ?_
                intro oi ho
                simp only [List.getElem?_toArray, List.getElem?_cons_succ, List.getElem?_cons_zero, Option.some.injEq] at ho
                subst ho
                refine ⟨?_, Or.inl ⟨by rfl, ?_⟩, fun _ _ _ h => h, ?_⟩
                rotate_left 1
                · intro W hW
                  try dsimp only at hW
                  go_simp
                  try with_reducible rfl
                simp only [Act.put, List.setIfInBounds_toArray, List.set_cons_zero, List.set_cons_succ]
                refine wpH.done (by kernel_rfl) ?_
                have z12 := HB12.out.size
                clear hmk SD S9 S10 HS
                have SF := S12.cons (.rowE treeE (fun b => p1 b ∨ (H4 ≤ b ∧ b < w12.heap.size)) ro2 (fitRow N x t)) (by
                  show treeE.Row _ w12 ro2 (fitRow N x t)
                  unfold fitRow
                  cases hf : x.fit t (fun _ => zeroT) with
                  | none => exact Elt.Row.nil
                  | some r => exact Elt.Row.mono (HRW.out r hf).elt (fun b h h2 => by
                      rcases h with h | h
                      · exact h.1.imp id (fun h => ⟨by omega, h2⟩)
                      · exact .inr ⟨by have := HB10.out.size; omega, h2⟩))
                clear S12
                try go_wp2_with fail
                go_meet
                case rel => exact ⟨ro2, rc2, w12.heap.size, rfl, congrArg Value.bool HOK.out, by omega, Nat.le_refl _, SF⟩
              case rest =>
              clear SD FC hmk
              obtain ⟨ro, rc, H5, ht13, ht14, z45, z5', S⟩ := hcut
              subst ht13
              subst ht14
              have HH3 := Lib.hid (show H1 ≤ w3.heap.size by omega)
              have HZ45 := Lib.hid z45
              go_step
              cases ok with
              | false =>
                have HN0 := Lib.hid (show K ++ (subs.take (m + 1)).filterMap (instOf N fs x) = K' by rw [HKE.out, instOf_none HOK.out]; simp)
                have SG := S.tail.tail.cons (.owns claimE H1 (fun b => p1 b ∨ H1 ≤ b) u9 K') ((S.owns claimE 1).mono (q := fun b => p1 b ∨ H1 ≤ b) (fun b (h : p1 b ∨ (H1 ≤ b ∧ b < H4)) => h.imp id (fun h => h.1)))
                clear S
                go_wp2_with fail
                go_roundw
                case rel => exact ⟨m + 1, by omega, by go_num, by have := HZ4.out; omega, by rw [HN0.out]; exact SG⟩
                case measure => simp [intOf] <;> omega
              | true =>
                obtain ⟨hrl, hio⟩ := fitRow_some (n := N) (fs := fs) HOK.out
                obtain ⟨RL, hRL⟩ : ∃ Z, Z = fitRow N x t := ⟨_, rfl⟩
                rw [← hRL] at S hrl hio
                have HIO := Lib.hid (show K ++ (subs.take (m + 1)).filterMap (instOf N fs x) = K' ++ [mapC (T.sub RL) fs] by rw [HKE.out, hio]; rfl)
                have HRLN := Lib.hid hrl
                have HQR := Lib.hid (show ∀ b, (p1 b ∨ (H4 ≤ b ∧ b < H5)) → b < H5 from fun b h => by
                  rcases h with h | h
                  · have h1 := HP1.out b h
                    have := HH2.out; have := HH3.out; have := HZ4.out; omega
                  · omega)
                have W19 := Lib.hid (fun (u : T) (v : Value) (W : World) (hu : (treeF u).1 = 0) (hv : TreeP p1 W v u) (hr : RowP (fun b => p1 b ∨ (H4 ≤ b ∧ b < H5)) W ro RL) (hW : H5 ≤ W.heap.size) =>
                  show Calls Try.prog 60 #[v, .slice ro N rc] W fun e w' => ∃ u', e = .returned u' ∧ TreeP (fun b => (p1 b ∨ (H4 ≤ b ∧ b < H5)) ∨ W.heap.size ≤ b) w' u' (u.sub RL) ∧ Below W.heap.size W w' by
                    have h0 := treeF_ok.1 hu
                    have h1 := with19 RL u (fun b => p1 b ∨ (H4 ≤ b ∧ b < H5)) v ro rc W (fun b h => by have := HQR.out b h; omega) (by rw [HRLN.out]; have := HN8.out; omega) (hv.mono (fun b h _ => .inl h)) hr (low_of_pre u h0.2.2) (by omega)
                    rw [HRLN.out] at h1
                    exact h1)
                have hx0 := Below.cellOf S.bel HX1.out
                have S1 := S.cons (.owns factE H5 (fun b => p1 b ∨ H4 ≤ b) (.slice none 0 0) (mapC (T.sub RL) (fs.take 0))) (by rw [List.take_zero]; exact Elt.Own.nil _ _ _ _)
                clear S hRL hrl hio hx0
                go_wp2_with fail
                refine S1.genC (z := H5) z5' ?_
                intro w5 z6 S
                clear S1 z5' z45
                go_loopw [15, 16] (fun l i wr => ∃ j : Nat, j ≤ fs.length ∧ i = .int .i64 j ∧ H5 ≤ wr.heap.size ∧ St w1 wr [.owns factE H5 (fun b => p1 b ∨ H4 ≤ b) l (mapC (T.sub RL) (fs.take j)), .rowE treeE (fun b => p1 b ∨ (H4 ≤ b ∧ b < H5)) ro RL, .owns claimE H1 (fun b => p1 b ∨ (H1 ≤ b ∧ b < H4)) u9 K', .rowQ treeE (fun b => H0 ≤ b ∧ b < H1) p1 (some ⟨b, off, none⟩) P]) (fun _ i _ => fs.length - (intOf i).toNat)
                case atStart => exact ⟨0, by omega, rfl, z6, S⟩
                case round =>
                  clear S z6
                  obtain ⟨j, hj, rfl, z6, S⟩ := hrel
                  have x0 := Below.cellOf S.bel HX1.out
                  by_cases hlt3 : j < fs.length
                  · have hlti3 : (j : Int) < (fs.length : Int) := by omega
                    obtain ⟨fb, foff, k1, s1, k2, s2, rfl, _, e0', e1', e2', e3', e4', htx, hty⟩ := HFR.out.fact hlt3
                    have HTK := mapC_take (F := T.sub RL) hlt3
                    have HPR := treesF_mem2 hlt3
                    obtain ⟨X, hX⟩ : ∃ X, X = fs[j].l := ⟨_, rfl⟩
                    obtain ⟨Y, hY⟩ : ∃ Y, Y = fs[j].r := ⟨_, rfl⟩
                    obtain ⟨NG, hN⟩ : ∃ N, N = fs[j].neg := ⟨_, rfl⟩
                    rw [← hX, ← hY] at HPR HTK
                    rw [← hN] at HTK e0'
                    rw [← hX] at e1' e2' htx
                    rw [← hY] at e3' e4' hty
                    have HLX := Lib.hid (HG.out X HPR.1)
                    have HLY := Lib.hid (HG.out Y HPR.2)
                    have HT2 := Lib.hid HTK
                    have TX := Lib.hid htx
                    have TY := Lib.hid hty
                    have FC := Lib.hid (fun W (hb : Below wr.heap.size wr W) => (⟨Below.cellOf hb x0, Below.cellOf hb (Below.cellOf S.bel e0'), Below.cellOf hb (Below.cellOf S.bel e1'), Below.cellOf hb (Below.cellOf S.bel e2'), Below.cellOf hb (Below.cellOf S.bel e3'), Below.cellOf hb (Below.cellOf S.bel e4')⟩ : _ ∧ _ ∧ _ ∧ _ ∧ _ ∧ _))
                    have HOW := Lib.hid (S.ownlt factE 0)
                    have HZD := Lib.hid (show H5 ≤ wr.drew.heap.size from z6)
                    have HLL := Lib.hid (show (mapC (T.sub RL) (fs.take j)).length = j by rw [mapC_length]; simp; omega)
                    obtain ⟨ML, hML⟩ : ∃ Z, Z = mapC (T.sub RL) (fs.take j) := ⟨_, rfl⟩
                    rw [← hML] at S HLL HT2
                    have SD := S.drew
                    clear S hML hX hY hN HPR HTK htx hty e0' e1' e2' e3' e4'
                    go_wp2_with fail
                    refine wpH_region [25, 26] (fun W => W.cell? ⟨bx, 0, none⟩ = some (.slice (some ⟨fb, foff, none⟩) fs.length (fs.length + sp)) ∧ W.cell? ⟨fb, foff + j * 5, none⟩ = some (.bool NG) ∧ W.cell? ⟨fb, foff + j * 5 + 1, none⟩ = some (.int .i64 X.head) ∧ W.cell? ⟨fb, foff + j * 5 + 2, none⟩ = some (.slice k1 X.kids.length (X.kids.length + s1)) ∧ W.cell? ⟨fb, foff + j * 5 + 3, none⟩ = some (.int .i64 Y.head) ∧ W.cell? ⟨fb, foff + j * 5 + 4, none⟩ = some (.slice k2 Y.kids.length (Y.kids.length + s2))) (by kernel_rfl) ?_
                    have HS := FC.out _ (Below.refl _ wr).drew
                    refine wpH.take (i := 0) (by kernel_rfl) (by kernel_rfl) (by kernel_rfl) (by kernel_rfl) (by kernel_rfl) HS ?_
                    intro oi ho
                    simp only [List.getElem?_toArray, List.getElem?_cons_zero, Option.some.injEq] at ho
                    subst ho
                    refine ⟨?_, Or.inl ⟨by rfl, ?_⟩, fun _ _ _ h => h, ?_⟩
                    rotate_left 1
                    · intro W hW
                      try dsimp only at hW
                      go_simp
                      try with_reducible rfl
                    simp only [Act.put, List.setIfInBounds_toArray, List.set_cons_zero, List.set_cons_succ]
                    refine wpH.take (i := 1) (by kernel_rfl) (by kernel_rfl) (by kernel_rfl) (by kernel_rfl) (by kernel_rfl) HS ?_
                    intro oi ho
                    simp only [List.getElem?_toArray, List.getElem?_cons_succ, List.getElem?_cons_zero, Option.some.injEq] at ho
                    subst ho
                    refine ⟨?_, Or.inl ⟨by rfl, ?_⟩, fun _ _ _ h => h, ?_⟩
                    rotate_left 1
                    · intro W hW
                      try dsimp only at hW
                      go_simp
                      try with_reducible rfl
                    simp only [Act.put, List.setIfInBounds_toArray, List.set_cons_zero, List.set_cons_succ]
                    refine wpH.take (i := 2) (by kernel_rfl) (by kernel_rfl) (by kernel_rfl) (by kernel_rfl) (by kernel_rfl) HS ?_
                    intro oi ho
                    simp only [List.getElem?_toArray, List.getElem?_cons_succ, List.getElem?_cons_zero, Option.some.injEq] at ho
                    subst ho
                    refine ⟨?_, Or.inl ⟨by rfl, ?_⟩, fun _ _ _ h => h, ?_⟩
                    rotate_left 1
                    · intro W hW
                      try dsimp only at hW
                      go_simp
                      try with_reducible rfl
                    simp only [Act.put, List.setIfInBounds_toArray, List.set_cons_zero, List.set_cons_succ]
                    refine wpH.take (i := 3) (by kernel_rfl) (by kernel_rfl) (by kernel_rfl) (by kernel_rfl) (by kernel_rfl) HS ?_
                    intro oi ho
                    simp only [List.getElem?_toArray, List.getElem?_cons_succ, List.getElem?_cons_zero, Option.some.injEq] at ho
                    subst ho
                    refine ⟨?_, Or.inl ⟨by rfl, ?_⟩, fun _ _ _ h => h, ?_⟩
                    rotate_left 1
                    · intro W hW
                      try dsimp only at hW
                      go_simp
                      try with_reducible rfl
                    simp only [Act.put, List.setIfInBounds_toArray, List.set_cons_zero, List.set_cons_succ]
                    refine wpH.take (i := 4) (by kernel_rfl) (by kernel_rfl) (by kernel_rfl) (by kernel_rfl) (by kernel_rfl) HS ?_
                    intro oi ho
                    simp only [List.getElem?_toArray, List.getElem?_cons_succ, List.getElem?_cons_zero, Option.some.injEq] at ho
                    subst ho
                    refine ⟨?_, Or.inl ⟨by rfl, ?_⟩, fun _ _ _ h => h, ?_⟩
                    rotate_left 1
                    · intro W hW
                      try dsimp only at hW
                      go_simp
                      try with_reducible rfl
                    simp only [Act.put, List.setIfInBounds_toArray, List.set_cons_zero, List.set_cons_succ]
                    refine wpH.take (i := 5) (by kernel_rfl) (by kernel_rfl) (by kernel_rfl) (by kernel_rfl) (by kernel_rfl) HS ?_
                    intro oi ho
                    simp only [List.getElem?_toArray, List.getElem?_cons_succ, List.getElem?_cons_zero, Option.some.injEq] at ho
                    subst ho
                    refine ⟨?_, Or.inl ⟨by rfl, ?_⟩, fun _ _ _ h => h, ?_⟩
                    rotate_left 1
                    · intro W hW
                      try dsimp only at hW
                      go_simp
                      try with_reducible rfl
                    simp only [Act.put, List.setIfInBounds_toArray, List.set_cons_zero, List.set_cons_succ]
                    refine wpH.take (i := 6) (by kernel_rfl) (by kernel_rfl) (by kernel_rfl) (by kernel_rfl) (by kernel_rfl) HS ?_
                    intro oi ho
                    simp only [List.getElem?_toArray, List.getElem?_cons_succ, List.getElem?_cons_zero, Option.some.injEq] at ho
                    subst ho
                    refine ⟨?_, Or.inl ⟨by rfl, ?_⟩, fun _ _ _ h => h, ?_⟩
                    rotate_left 1
                    · intro W hW
                      try dsimp only at hW
                      go_simp
                      try with_reducible rfl
                    simp only [Act.put, List.setIfInBounds_toArray, List.set_cons_zero, List.set_cons_succ]
                    refine wpH.take (i := 7) (by kernel_rfl) (by kernel_rfl) (by kernel_rfl) (by kernel_rfl) (by kernel_rfl) HS ?_
                    intro oi ho
                    simp only [List.getElem?_toArray, List.getElem?_cons_succ, List.getElem?_cons_zero, Option.some.injEq] at ho
                    subst ho
                    refine ⟨?_, Or.inl ⟨by rfl, ?_⟩, fun _ _ _ h => h, ?_⟩
                    rotate_left 1
                    · intro W hW
                      try dsimp only at hW
                      go_simp
                      try with_reducible rfl
                    simp only [Act.put, List.setIfInBounds_toArray, List.set_cons_zero, List.set_cons_succ]
                    refine wpH.take (i := 8) (by kernel_rfl) (by kernel_rfl) (by kernel_rfl) (by kernel_rfl) (by kernel_rfl) HS ?_
                    intro oi ho
                    simp only [List.getElem?_toArray, List.getElem?_cons_succ, List.getElem?_cons_zero, Option.some.injEq] at ho
                    subst ho
                    refine ⟨?_, Or.inl ⟨by rfl, ?_⟩, fun _ _ _ h => h, ?_⟩
                    rotate_left 1
                    · intro W hW
                      try dsimp only at hW
                      go_simp
                      try with_reducible rfl
                    simp only [Act.put, List.setIfInBounds_toArray, List.set_cons_zero, List.set_cons_succ]
                    refine wpH.take (i := 9) (by kernel_rfl) (by kernel_rfl) (by kernel_rfl) (by kernel_rfl) (by kernel_rfl) HS ?_
                    intro oi ho
                    simp only [List.getElem?_toArray, List.getElem?_cons_succ, List.getElem?_cons_zero, Option.some.injEq] at ho
                    subst ho
                    refine ⟨?_, Or.inl ⟨by rfl, ?_⟩, fun _ _ _ h => h, ?_⟩
                    rotate_left 1
                    · intro W hW
                      try dsimp only at hW
                      go_simp
                      try with_reducible rfl
                    simp only [Act.put, List.setIfInBounds_toArray, List.set_cons_zero, List.set_cons_succ]
                    refine wpH.take (i := 10) (by kernel_rfl) (by kernel_rfl) (by kernel_rfl) (by kernel_rfl) (by kernel_rfl) HS ?_
                    intro oi ho
                    simp only [List.getElem?_toArray, List.getElem?_cons_succ, List.getElem?_cons_zero, Option.some.injEq] at ho
                    subst ho
                    refine ⟨?_, Or.inl ⟨by rfl, ?_⟩, fun _ _ _ h => h, ?_⟩
                    rotate_left 1
                    · intro W hW
                      try dsimp only at hW
                      go_simp
                      try with_reducible rfl
                    simp only [Act.put, List.setIfInBounds_toArray, List.set_cons_zero, List.set_cons_succ]
                    refine wpH.take (i := 11) (by kernel_rfl) (by kernel_rfl) (by kernel_rfl) (by kernel_rfl) (by kernel_rfl) HS ?_
                    intro oi ho
                    simp only [List.getElem?_toArray, List.getElem?_cons_succ, List.getElem?_cons_zero, Option.some.injEq] at ho
                    subst ho
                    refine ⟨?_, Or.inl ⟨by rfl, ?_⟩, fun _ _ _ h => h, ?_⟩
                    rotate_left 1
                    · intro W hW
                      try dsimp only at hW
                      go_simp
                      try with_reducible rfl
                    simp only [Act.put, List.setIfInBounds_toArray, List.set_cons_zero, List.set_cons_succ]
                    refine wpH.take (i := 12) (by kernel_rfl) (by kernel_rfl) (by kernel_rfl) (by kernel_rfl) (by kernel_rfl) HS ?_
                    intro oi ho
                    simp only [List.getElem?_toArray, List.getElem?_cons_succ, List.getElem?_cons_zero, Option.some.injEq] at ho
                    subst ho
                    refine ⟨?_, Or.inl ⟨by rfl, ?_⟩, fun _ _ _ h => h, ?_⟩
                    rotate_left 1
                    · intro W hW
                      try dsimp only at hW
                      go_simp
                      try with_reducible rfl
                    simp only [Act.put, List.setIfInBounds_toArray, List.set_cons_zero, List.set_cons_succ]
                    refine wpH.take (i := 13) (by kernel_rfl) (by kernel_rfl) (by kernel_rfl) (by kernel_rfl) (by kernel_rfl) HS ?_
                    intro oi ho
                    simp only [List.getElem?_toArray, List.getElem?_cons_succ, List.getElem?_cons_zero, Option.some.injEq] at ho
                    subst ho
                    refine ⟨?_, Or.inl ⟨by rfl, ?_⟩, fun _ _ _ h => h, ?_⟩
                    rotate_left 1
                    · intro W hW
                      try dsimp only at hW
                      go_simp
                      try with_reducible rfl
                    simp only [Act.put, List.setIfInBounds_toArray, List.set_cons_zero, List.set_cons_succ]
                    refine wpH.take (i := 15) (by kernel_rfl) (by kernel_rfl) (by kernel_rfl) (by kernel_rfl) (by kernel_rfl) HS ?_
                    intro oi ho
                    simp only [List.getElem?_toArray, List.getElem?_cons_succ, List.getElem?_cons_zero, Option.some.injEq] at ho
                    subst ho
                    refine ⟨?_, Or.inl ⟨by rfl, ?_⟩, fun _ _ _ h => h, ?_⟩
                    rotate_left 1
                    · intro W hW
                      try dsimp only at hW
                      go_simp
                      try with_reducible rfl
                    simp only [Act.put, List.setIfInBounds_toArray, List.set_cons_zero, List.set_cons_succ]
                    refine wpH.take (i := 16) (by kernel_rfl) (by kernel_rfl) (by kernel_rfl) (by kernel_rfl) (by kernel_rfl) HS ?_
                    intro oi ho
                    simp only [List.getElem?_toArray, List.getElem?_cons_succ, List.getElem?_cons_zero, Option.some.injEq] at ho
                    subst ho
                    refine ⟨?_, Or.inl ⟨by rfl, ?_⟩, fun _ _ _ h => h, ?_⟩
                    rotate_left 1
                    · intro W hW
                      try dsimp only at hW
                      go_simp
                      try with_reducible rfl
                    simp only [Act.put, List.setIfInBounds_toArray, List.set_cons_zero, List.set_cons_succ]
                    refine wpH.take (i := 17) (by kernel_rfl) (by kernel_rfl) (by kernel_rfl) (by kernel_rfl) (by kernel_rfl) HS ?_
                    intro oi ho
                    simp only [List.getElem?_toArray, List.getElem?_cons_succ, List.getElem?_cons_zero, Option.some.injEq] at ho
                    subst ho
                    refine ⟨?_, Or.inl ⟨by rfl, ?_⟩, fun _ _ _ h => h, ?_⟩
                    rotate_left 1
                    · intro W hW
                      try dsimp only at hW
                      go_simp
                      try with_reducible rfl
                    simp only [Act.put, List.setIfInBounds_toArray, List.set_cons_zero, List.set_cons_succ]
                    refine wpH.take (i := 18) (by kernel_rfl) (by kernel_rfl) (by kernel_rfl) (by kernel_rfl) (by kernel_rfl) HS ?_
                    intro oi ho
                    simp only [List.getElem?_toArray, List.getElem?_cons_succ, List.getElem?_cons_zero, Option.some.injEq] at ho
                    subst ho
                    refine ⟨?_, Or.inl ⟨by rfl, ?_⟩, fun _ _ _ h => h, ?_⟩
                    rotate_left 1
                    · intro W hW
                      try dsimp only at hW
                      go_simp
                      try with_reducible rfl
                    simp only [Act.put, List.setIfInBounds_toArray, List.set_cons_zero, List.set_cons_succ]
                    refine wpH.take (i := 19) (by kernel_rfl) (by kernel_rfl) (by kernel_rfl) (by kernel_rfl) (by kernel_rfl) HS ?_
                    intro oi ho
                    simp only [List.getElem?_toArray, List.getElem?_cons_succ, List.getElem?_cons_zero, Option.some.injEq] at ho
                    subst ho
                    refine ⟨?_, Or.inl ⟨by rfl, ?_⟩, fun _ _ _ h => h, ?_⟩
                    rotate_left 1
                    · intro W hW
                      try dsimp only at hW
                      go_simp
                      try with_reducible rfl
                    simp only [Act.put, List.setIfInBounds_toArray, List.set_cons_zero, List.set_cons_succ]
                    refine wpH.take (i := 20) (by kernel_rfl) (by kernel_rfl) (by kernel_rfl) (by kernel_rfl) (by kernel_rfl) HS ?_
                    intro oi ho
                    simp only [List.getElem?_toArray, List.getElem?_cons_succ, List.getElem?_cons_zero, Option.some.injEq] at ho
                    subst ho
                    refine ⟨?_, Or.inl ⟨by rfl, ?_⟩, fun _ _ _ h => h, ?_⟩
                    rotate_left 1
                    · intro W hW
                      try dsimp only at hW
                      go_simp
                      try with_reducible rfl
                    simp only [Act.put, List.setIfInBounds_toArray, List.set_cons_zero, List.set_cons_succ]
                    refine wpH.take (i := 21) (by kernel_rfl) (by kernel_rfl) (by kernel_rfl) (by kernel_rfl) (by kernel_rfl) HS ?_
                    intro oi ho
                    simp only [List.getElem?_toArray, List.getElem?_cons_succ, List.getElem?_cons_zero, Option.some.injEq] at ho
                    subst ho
                    refine ⟨?_, Or.inl ⟨by rfl, ?_⟩, fun _ _ _ h => h, ?_⟩
                    rotate_left 1
                    · intro W hW
                      try dsimp only at hW
                      go_simp
                      try with_reducible rfl
                    simp only [Act.put, List.setIfInBounds_toArray, List.set_cons_zero, List.set_cons_succ]
                    refine wpH.one (i := 14) (by kernel_rfl) ?_
                    intro oi ho
                    simp only [List.getElem?_toArray, List.getElem?_cons_succ, List.getElem?_cons_zero, Option.some.injEq] at ho
                    subst ho
                    intro K hK
                    have HK := Lib.hid hK
                    clear hK
                    go_simp
                    go_at_call 60
                    refine (SD.madeP (W19.out X _ _ HLX.out (TX.out.kept SD.bel) (SD.rowE treeE 1).rowP HZD.out)).mono ?_
                    rintro e w4 ⟨k4, s4, rfl, zw4, hb4, S4⟩
                    have HB4 := Lib.hid (Below.step (Below.refl _ wr).drew hb4)
                    have zw4 : wr.heap.size ≤ w4.heap.size := zw4
                    clear hb4
                    dsimp only
                    refine HK.out _ _ (fun _ => FC.out _ HB4.out) ?_
                    have HS := FC.out _ HB4.out
                    try simp only [Act.put, List.setIfInBounds_toArray, List.set_cons_zero, List.set_cons_succ]
                    refine wpH.one (i := 22) (by kernel_rfl) ?_
                    intro oi ho
                    simp only [List.getElem?_toArray, List.getElem?_cons_succ, List.getElem?_cons_zero, Option.some.injEq] at ho
                    subst ho
                    intro K hK
                    have HK := Lib.hid hK
                    clear hK
                    go_simp
                    go_at_call 60
                    refine (S4.madeP (W19.out Y _ _ HLY.out (TY.out.kept S4.bel) (S4.rowE treeE 1).rowP (Nat.le_trans HZD.out zw4))).mono ?_
                    rintro e w5 ⟨k5, s5, rfl, zw5, hb5, S5⟩
                    have HB5 := Lib.hid (Below.step HB4.out hb5)
                    clear hb5
                    dsimp only
                    refine HK.out _ _ (fun _ => FC.out _ HB5.out) ?_
                    have HS := FC.out _ HB5.out
                    try simp only [Act.put, List.setIfInBounds_toArray, List.set_cons_zero, List.set_cons_succ]
                    refine wpH.take (i := 23) (by kernel_rfl) (by kernel_rfl) (by kernel_rfl) (by kernel_rfl) (by kernel_rfl) HS ?_
                    intro oi ho
                    simp only [List.getElem?_toArray, List.getElem?_cons_succ, List.getElem?_cons_zero, Option.some.injEq] at ho
                    subst ho
                    refine ⟨?_, Or.inl ⟨by rfl, ?_⟩, fun _ _ _ h => h, ?_⟩
                    rotate_left 1
                    · intro W hW
                      try dsimp only at hW
                      go_simp
                      try with_reducible rfl
                    simp only [Act.put, List.setIfInBounds_toArray, List.set_cons_zero, List.set_cons_succ]
                    refine wpH.one (i := 24) (by kernel_rfl) ?_
                    intro oi ho
                    simp only [List.getElem?_toArray, List.getElem?_cons_succ, List.getElem?_cons_zero, Option.some.injEq] at ho
                    subst ho
                    intro K hK
                    have HK := Lib.hid hK
                    clear hK
                    go_simp
                    refine HK.out _ _ (fun _ => FC.out _ (HB5.out.alloc HB5.out.size (.cells #[.bool NG, .int .i64 (X.sub RL).head, .slice k4 (X.sub RL).kids.length ((X.sub RL).kids.length + s4), .int .i64 (Y.sub RL).head, .slice k5 (Y.sub RL).kids.length ((Y.sub RL).kids.length + s5)] 62))) ?_
                    have HS := trivial
                    try simp only [Act.put, List.setIfInBounds_toArray, List.set_cons_zero, List.set_cons_succ]
                    refine wpH.one (i := 25) (by kernel_rfl) ?_
                    intro oi ho
                    simp only [List.getElem?_toArray, List.getElem?_cons_succ, List.getElem?_cons_zero, Option.some.injEq] at ho
                    subst ho
                    intro K hK
                    have HK := Lib.hid hK
                    clear hK
                    refine step_app (by rfl) (.tmp 92) (.tmp 116) 39 (by rfl) factE S5 0 rfl (x := ⟨NG, X.sub RL, Y.sub RL⟩) (q := fun b => p1 b ∨ (H4 ≤ b ∧ b < H5) ∨ (wr.heap.size ≤ b ∧ b < w5.heap.size)) (p' := fun b => p1 b ∨ H4 ≤ b) ⟨k4, s4, k5, s5, rfl, (S5.treeP 4).mono (fun b h _ => by rcases h with h | h; exact h.imp id .inl; exact .inr (.inr ⟨h.1, by have := h.2; omega⟩)), (S5.treeP 5).mono (fun b h _ => by rcases h with h | h; exact h.imp id .inl; exact .inr (.inr ⟨by have h1 : w4.heap.size ≤ b := h.1; omega, h.2⟩))⟩ Try.underlying39 gi gz0 gz1 gz2 (by rfl) (by rfl) (by rfl) (by rfl) (by rw [HLL.out]; unfold maxLen; omega) (by rw [HLL.out]; omega) (by have := HZD.out; omega) (by have := HLE.out; have := HH2.out; have := HZ4.out; have := HH3.out; have := HZ45.out; omega)
                                (fun bb h1 h2 h3 => by
                                  have h4 := (HOW.out bb h1).2
                                  have h5 := (OK4.out bb)
                                  have h6 := HP1.out bb
                                  have h7 := HH2.out
                                  have h8 := HH3.out
                                  have h9 := HZ4.out
                                  have h10 := HZ45.out
                                  simp only [fsnoc, offs, offAll, Fct.rowE, Fct.owns, Fct.rowQ, Fct.treeP, and_true]
                                  refine ⟨fun e => ?_, fun e => ?_, fun e => ?_, fun e => ?_, fun e => ?_⟩
                                  · rcases e with e | e
                                    · have := h6 e; omega
                                    · omega
                                  · rcases e with e | e | e
                                    · have := h5 e; omega
                                    · have := h6 e; omega
                                    · omega
                                  · rcases e with e | e
                                    · omega
                                    · have := h6 e; omega
                                  · rcases e with (e | e) | e
                                    · have := h6 e; omega
                                    · omega
                                    · have e1 : wr.heap.size ≤ bb := e.1; omega
                                  · rcases e with (e | e) | e
                                    · have := h6 e; omega
                                    · omega
                                    · have := e.1; omega) (fun bb h1 h2 => by
                                  have h4 := HOW.out bb h2
                                  have h6 := HP1.out bb
                                  have h7 := HH2.out
                                  have h8 := HH3.out
                                  have h9 := HZ4.out
                                  have h10 := HZ45.out
                                  rcases h1 with h1 | h1 | h1
                                  · have := h6 h1; omega
                                  · omega
                                  · omega) (fun bb h1 => by
                                  have h10 := HZ45.out
                                  have h11 := HZD.out
                                  rcases h1 with h1 | h1 | h1 | h1
                                  · exact h1
                                  · exact .inl h1
                                  · exact .inr h1.1
                                  · exact .inr (by omega)) ?_
                    intro gg cap w6 S6 hs6 hgg hat6
                    rw [HLL.out] at S6 ⊢
                    refine HK.out _ _ (fun h => absurd h (by decide)) ?_
                    have HS := trivial
                    try simp only [Act.put, List.setIfInBounds_toArray, List.set_cons_zero, List.set_cons_succ]
                    refine wpH.one (i := 26) (by kernel_rfl) ?_
                    intro oi ho
                    simp only [List.getElem?_toArray, List.getElem?_cons_succ, List.getElem?_cons_zero, Option.some.injEq] at ho
                    subst ho
                    intro K hK
                    have HK := Lib.hid hK
                    clear hK
                    go_simp
                    refine HK.out _ _ (fun h => absurd h (by decide)) ?_
                    try simp only [Act.put, List.setIfInBounds_toArray, List.set_cons_zero, List.set_cons_succ]
                    refine wpH.done (by kernel_rfl) ?_
                    have SG := S6.pick [0, 1, 2, 3]
                    have z7 : H5 ≤ w6.heap.size := by
                      have h1 := HZD.out
                      have h2 : w5.heap.size ≤ w6.heap.size := hs6
                      have h3 : wr.drew.heap.size = wr.heap.size := rfl
                      have h4 : w4.heap.size ≤ w5.heap.size := zw5
                      omega
                    clear S6 S5 S4 SD HS
                    try go_wp2_with fail
                    go_roundw
                    case rel => exact ⟨j + 1, by omega, by go_num, z7, by rw [HT2.out]; exact SG⟩
                    case measure => simp [intOf] <;> omega
                  · obtain rfl : j = fs.length := by omega
                    rw [List.take_length] at S
                    obtain ⟨la, lsp, rfl, hlrow, hlm⟩ := (S.owns factE 0).row (fun b h => Or.inr (by have := HZ45.out; omega))
                    have SC := S.tail.tail
                    obtain ⟨CL, hCL⟩ : ∃ Z, Z = mapC (T.sub RL) fs := ⟨_, rfl⟩
                    rw [← hCL] at hlrow hlm HIO ⊢
                    have HCR := Lib.hid (show claimE.is (fun b => (p1 b ∨ H4 ≤ b)) wr [.slice la CL.length (CL.length + lsp)] CL from ⟨la, lsp, rfl, hlrow, hlm⟩)
                    have hkl := HKL.out
                    have hk2 := HK2.out
                    clear S hCL hlrow
                    go_wp2_with (at_builtin; refine wpList_app rfl (.tmp 118) (.tmp 121) 23 rfl claimE SC 0 rfl (x := CL) (q := fun b => p1 b ∨ H4 ≤ b) (p' := fun b => p1 b ∨ H1 ≤ b) HCR.out Try.underlying23 hi hz0 hz1 hz2 rfl rfl ?v1 ?v2 ?c1 ?c2 ?c3 ?c4 ?c5 ?c6 ?c7 ?_)
                    case v1 => rfl
                    case v2 => rfl
                    case c1 => unfold maxLen; omega
                    case c2 => omega
                    case c3 => have := HH3.out; have := HZ4.out; have := HZ45.out; omega
                    case c4 => have := HLE.out; have := HH2.out; omega
                    case c5 =>
                      intro bb h1 h2 h3
                      refine ⟨fun e => ?_, trivial⟩
                      rcases e with e | e
                      · omega
                      · have := HP1.out bb e; have := HH2.out; omega
                    case c6 =>
                      intro bb h1 h2
                      have h4 := OK4.out bb h2
                      rcases h1 with h1 | h1
                      · have := HP1.out bb h1; have := HH2.out; omega
                      · omega
                    case c7 =>
                      intro bb h1
                      have := HH3.out; have := HZ4.out
                      rcases h1 with (h1 | h1) | h1 | h1
                      · exact .inl h1
                      · exact .inr h1.1
                      · exact .inl h1
                      · exact .inr (by omega)
                    intro gg cap w6 S6 hs6 hgg hat
                    change St w1 w6 [.owns claimE H1 (fun b => p1 b ∨ H1 ≤ b) (.slice (some ⟨gg, 0, none⟩) (K'.length + 1) cap) (K' ++ [CL]), .rowQ treeE (fun b => H0 ≤ b ∧ b < H1) p1 (some ⟨b, off, none⟩) P] at S6
                    rw [← HIO.out] at S6
                    have z8 : w3.heap.size ≤ w6.heap.size := by have := HZ4.out; have := HZ45.out; omega
                    clear SC hat
                    go_wp2_with fail
                    go_roundw
                    case rel => exact ⟨m + 1, by omega, by go_num, z8, S6⟩
                    case measure => simp [intOf] <;> omega
            · obtain rfl : m = subs.length := by omega
              rw [List.take_length, ← HGT.out, ← HFT.out] at S
              have SG := S
              clear S
              go_wp2_with fail
              go_roundw
              case rel => exact ⟨k + 1, by omega, by go_num, by have := HBW.out; omega, SG⟩
              case measure => simp [intOf] <;> omega
        · obtain rfl : k = P.length := by omega
          rw [List.take_length] at S
          have HFF := Lib.hid (show P.flatMap (partK fs subs) = ofD fs subs by rw [HPS.out]; rfl)
          rw [HFF.out] at S
          obtain ⟨oa, osp, rfl, horow, hom⟩ := (S.owns claimE 0).row (fun b h => Or.inr h)
          have SE := Lib.hid S.bel
          have HR := Lib.hid horow
          clear S horow
          go_wp2_with fail
          go_ret
          refine ⟨oa, osp, rfl, HR.out.mono (fun b h _ => ?_), hom, Below.step HB1.out SE.out⟩
          have h1 := HBX.out
          rcases h with h | h
          · exact (HPP.out b h).imp id (fun h => by omega)
          · right; have := HH2.out; have := HH0.out; omega
end Go.Proofs.Ytlhnfdjidjgfgaa
