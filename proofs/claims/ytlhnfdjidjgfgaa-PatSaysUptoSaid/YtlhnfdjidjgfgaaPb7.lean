/-
  Walk: pat.instances.
-/
import Derived.Test.YtlhnfdjidjgfgaaProg
import Derived.Test.YtlhnfdjidjgfgaaPb6
import Derived.Test.YtlhnfdjidjgfgaaPb5
import Derived.Test.YtlhnfdjidjgfgaaPa7
import Derived.Test.YtlhnfdjidjgfgaaMp
import Derived.Test.YtlhnfdjidjgfgaaV7
import Derived.RegionTactic
import Derived.Deep.CutBlock
import Derived.Deep.DeepCutAuto
namespace Go.Proofs.Ytlhnfdjidjgfgaa
open Go.RowKit Go.Shelf
set_option linter.unusedVariables false
set_option maxHeartbeats 400000

def InstP (w0 : World) (ar : List Int) (subs : List T) (c : List Fc) (K : List (List Fc)) (bo B : Nat) (p : Nat → Prop) (ov : Value) (r : List Fct) (w : World) (e : Ending) (w' : World) : Prop :=
  e = .returned (.bool (instF ar subs c K).2) ∧ ∃ ov', St w0 w' (.box bo #[ov'] 23 :: .owns claimE B p ov' (instF ar subs c K).1 :: r) ∧ (∀ b, ov'.ownBlock = some b → ov.ownBlock = some b ∨ w.heap.size ≤ b) ∧ w.heap.size ≤ w'.heap.size

set_option maxRecDepth 100000 in
set_option maxHeartbeats 8000000 in
theorem instances80 {w0 : World} (ar : List Int) (subs : List T) (c : List Fc) (K : List (List Fc)) (bl bo B : Nat) (p qa qc qs : Nat → Prop) (ao xo so : Option Addr) (ca sp ss : Nat) (ov : Value) (r : List Fct) (w : World)
    (S : St w0 w (.box bo #[ov] 23 :: .owns claimE B p ov K :: r)) (hoff : ∀ b, (b = bo ∨ ov.ownBlock = some b ∨ w.heap.size ≤ b) → offAll b r) (hl : w.cell? ⟨bl, 0, none⟩ = some (.slice ao ar.length ca)) (ha : intE.Row qa w ao ar) (hx : factE.Row qc w xo c) (hs : treeE.Row qs w so subs)
    (hB : w0.heap.size ≤ B) (hBw : B ≤ w.heap.size) (hbo : w0.heap.size ≤ bo) (hpB : ∀ b, B ≤ b → p b) (hpo : ¬ p bo) (hqc : ∀ b, qc b → (b < w.heap.size ∧ b ≠ bo ∧ ov.ownBlock ≠ some b) ∧ p b) (hqs : ∀ b, qs b → b < w.heap.size ∧ b ≠ bo ∧ ov.ownBlock ≠ some b) (hqa : ∀ b, qa b → b < w.heap.size ∧ b ≠ bo ∧ ov.ownBlock ≠ some b) (hbl : bl ≠ bo ∧ ov.ownBlock ≠ some bl)
    (hna : ar.length ≤ 1000000000) (hc : codeF ar c = 0) (hKn : K.length ≤ 60) (hKx : ∀ x ∈ K, x.length ≤ 1000000) (hoo : ov.ownBlock ≠ some bo) (hsub : ∀ t ∈ subs, (treeF t).1 = 0) (hsn : subs.length ≤ 1000000) :
    Calls Try.prog 80 #[.agg #[.slice xo c.length (c.length + sp)], .slice so subs.length (subs.length + ss), .func (.func 75) #[] #[.pointer (some ⟨bl, 0, none⟩), .pointer (some ⟨bo, 0, none⟩)]] w (InstP w0 ar subs c K bo B p ov r w) := by
  have HOFF := Lib.hid hoff; have HPB := Lib.hid hpB; have HPO := Lib.hid hpo; have HQC := Lib.hid hqc; have HQS := Lib.hid hqs; have HQA := Lib.hid hqa; have HBL := Lib.hid hbl; have HKX := Lib.hid hKx; have HOO := Lib.hid hoo; have HSUB := Lib.hid hsub; have HC := Lib.hid hc
  have HX := Lib.hid hx; have HS := Lib.hid hs; have HA := Lib.hid ha; have HL := Lib.hid hl
  have HCZ := Lib.hid (codeF_zero.1 hc)
  have HOWL := Lib.hid (fun b (e : ov.ownBlock = some b) => (S.ownlt claimE 1 rfl b e).2)
  have HBOL := Lib.hid (S.lt 0)
  obtain ⟨bx, hbx⟩ : ∃ b, b = w.heap.size := ⟨_, rfl⟩
  have S1 := S.boxH hbx.symm #[.slice xo c.length (c.length + sp)] 41
  have HB0 := Lib.hid ((Below.refl w.heap.size w).alloc (Nat.le_refl _) (.cells #[.slice xo c.length (c.length + sp)] 41))
  have hszA : (w.alloc (.cells #[.slice xo c.length (c.length + sp)] 41)).heap.size = bx + 1 := by simp [hbx]
  have HBX := Lib.hid hbx
  clear hoff hpB hpo hqc hqs hqa hbl hKx hoo hsub hc hx hs ha hl S
  go_enter Try.func80, Try.ntmps80
  go_wp2_with fail
  rw [← hbx]
  refine (max112 c qc xo sp _ (HX.out.kept HB0.out) HCZ.out.1 (fun t ht => (HCZ.out.2 t ht).1)).mono ?_
  rintro e w1 ⟨rfl, hb1⟩
  have S2 := S1.step hb1
  have HB1 := Lib.hid (Below.step HB0.out hb1)
  have z1 : bx + 1 ≤ w1.heap.size := by have := hb1.size; omega
  clear S1 hb1 hbx hszA
  obtain ⟨MC, hMC⟩ : ∃ z, z = mostL (treesF c) := ⟨_, rfl⟩
  rw [← hMC]
  have HMC := Lib.hid hMC
  clear hMC
  obtain ⟨x0, _⟩ := S2.one 0
  by_cases hm : MC = 0
  case pos =>
    have hmb : (MC == 0) = true := by simp [hm]
    have HF := Lib.hid (show instF ar subs c K = addF ar K c by unfold instF; rw [if_pos (by rw [← HMC.out]; exact hm)])
    clear hm
    go_wp2_with fail
    refine (mapAny id 113 #[] (enters_of Try.func113 (by kernel_rfl) rfl) c qc (fun _ => False) xo sp w1 (fun b hb => by have := (HQC.out b hb).1.1; have := HBX.out; omega) (fun _ h => h.elim) (HX.out.kept HB1.out) (by have := HCZ.out.1; omega) (fun W v t ht hbW htv => ?_)).mono ?_
    · exact (copy50 t v W htv.at (by have := (treeF_ok.1 (HCZ.out.2 t ht).1).1; omega)).mono fun e w' ⟨u, h1, h2, h3⟩ => ⟨u, h1, h2.mono (fun b h _ => .inr h), h3⟩
    rintro e w2 ⟨ro, rsp, rfl, hro, hb2⟩
    have hid : mapC id c = c := by unfold mapC; simp
    rw [hid] at hro ⊢
    have S3 := (S2.step hb2).tail
    have z2 := hb2.size
    have HB2 := Lib.hid (Below.step HB1.out hb2)
    have HRO := Lib.hid hro
    clear S2 hb2 hro x0 hid
    go_wp2_with fail
    refine (add75 ar K c bl bo B p (fun b => False ∨ w1.heap.size ≤ b) qa ao ro ca rsp ov r w2 S3 (fun b h => HOFF.out b (h.imp id (Or.imp id (fun h => by have := HBX.out; omega)))) (Below.cellOf HB2.out HL.out) (HA.out.kept HB2.out) HRO.out hB (by have := HBX.out; omega) hbo HPB.out HPO.out
      (fun b h => h.elim (fun h => h.elim) (fun h => ⟨HPB.out b (by have := HBX.out; omega), fun e => by have := HOWL.out b e; have := HBX.out; omega⟩)) hna (by have := HCZ.out.1; omega) (by omega) HKX.out HOO.out).mono ?_
    rintro e w4 ⟨rfl, ov', S4, ho4, z4⟩
    have SG := Lib.hid S4
    have HO4 := Lib.hid ho4
    clear S3 S4 ho4
    go_wp2_with fail
    go_ret
    exact ⟨by rw [HF.out]; rfl, ov', by rw [HF.out]; exact SG.out, fun b h => (HO4.out b h).imp id (fun h => by have := HBX.out; omega), by have := HBX.out; omega⟩
  case neg =>
  have hmb : (MC == 0) = false := by simp [hm]
  have HF := Lib.hid (show instF ar subs c K = instGo ar c (pairsT (patF c) subs) K by unfold instF; rw [if_neg (by rw [← HMC.out]; exact hm)])
  have HPG := Lib.hid (patF_good (fun t ht => (HCZ.out.2 t ht).1))
  have HSZ := Lib.hid (show sizeL (treesF c) ≤ 1000 by
    have h1 := sizeL_bound (n := 40) (l := treesF c) (fun t ht => (treeF_ok.1 (HCZ.out.2 t ht).1).1)
    have h2 := treesF_len c
    have h3 := HCZ.out.1
    omega)
  clear hm
  go_wp2_with fail
  clear x0
  refine (patterns130 c qc xo sp w1 (fun b hb => by have := (HQC.out b hb).1.1; have := HBX.out; omega) (HX.out.kept HB1.out) (by have := HCZ.out.1; omega) (by have := HSZ.out; omega) (fun t ht => by
    have h1 := treeF_ok.1 (HCZ.out.2 t ht).1
    exact ⟨by omega, h1.2.2⟩)).mono ?_
  rintro e w2 ⟨o2, rfl, ho2, hb2⟩
  obtain ⟨po, psp, rfl, hrq, hpm⟩ := ho2.rowQ
  obtain ⟨H1, hH1⟩ : ∃ H, H = w2.heap.size := ⟨_, rfl⟩
  have HB2 := Lib.hid (Below.step HB1.out hb2)
  have S3 := ((((((S2.step hb2).cons (.rowQ treeE (fun b => bx + 1 ≤ b ∧ b < H1) qc po (patF c)) (hrq.keep (fun b h h2 => ⟨rfl, by have := h.1; omega, by omega⟩) (fun b h _ => ⟨rfl, h⟩))).cons (.rowE treeE qs so subs) (HS.out.kept HB2.out)).cons (.rowE factE qc xo c) (HX.out.kept HB2.out)).cons (.rowE intE qa ao ar) (HA.out.kept HB2.out)).cons (.cellAt bl 0 (.slice ao ar.length ca)) (Below.cellOf HB2.out HL.out))
  have S4 : St w0 w2 (.box bo #[ov] 23 :: .owns claimE B p ov K :: .box bx #[.slice xo c.length (c.length + sp)] 41 :: .rowQ treeE (fun b => bx + 1 ≤ b ∧ b < H1) qc po (patF c) :: .rowE treeE qs so subs :: .rowE factE qc xo c :: .rowE intE qa ao ar :: .cellAt bl 0 (.slice ao ar.length ca) :: r) := S3.sub (fun f hf => by simp at hf ⊢; rcases hf with h | h | h | h | h | h | h | h | h <;> simp [h])
  have zH : bx + 1 ≤ H1 := by have := hb2.size; omega
  have zH2 : H1 ≤ w2.heap.size := by omega
  clear S2 S3 ho2 hrq hb2 hH1
  have HPL := Lib.hid (show (patF c).length ≤ 1000 from Nat.le_trans patF_len HSZ.out)
  obtain ⟨ps, hps⟩ : ∃ ps, ps = patF c := ⟨_, rfl⟩
  rw [← hps] at S4 HPG HPL HF ⊢
  have HPSD := Lib.hid hps
  clear hps hpm
  obtain ⟨R, hR⟩ : ∃ R, R = instGo ar c (pairsT ps subs) K := ⟨_, rfl⟩
  rw [← hR] at HF
  have HR := Lib.hid hR.symm
  have HZH := Lib.hid zH
  clear hR
  have hpl := HPL.out
  go_wp2_with fail
  go_loopw [23] (fun i wr => ∃ (k : Nat) (K' : List (List Fc)) (ov' : Value), k ≤ ps.length ∧ i = .int .i64 k ∧ Hid (instGo ar c (pairsT (ps.drop k) subs) K' = R) ∧ K'.length ≤ 60 ∧ Hid (∀ x ∈ K', x.length ≤ 1000000) ∧ Hid (∀ b, ov'.ownBlock = some b → ov.ownBlock = some b ∨ H1 ≤ b) ∧ H1 ≤ wr.heap.size ∧
    St w0 wr (.box bo #[ov'] 23 :: .owns claimE B p ov' K' :: .box bx #[.slice xo c.length (c.length + sp)] 41 :: .rowQ treeE (fun b => bx + 1 ≤ b ∧ b < H1) qc po ps :: .rowE treeE qs so subs :: .rowE factE qc xo c :: .rowE intE qa ao ar :: .cellAt bl 0 (.slice ao ar.length ca) :: r)) (fun i _ => ps.length - (intOf i).toNat)
  case atStart => exact ⟨0, K, ov, by omega, by trivial, by rw [List.drop_zero]; exact HR, hKn, HKX, Lib.hid (fun b h => .inl h), zH2, S4⟩
  case round =>
    clear S4 zH2
    obtain ⟨k, K', ov', hk, rfl, HG, hK60, HKK, HOV, zr, S⟩ := hrel
    by_cases hlt : k < ps.length
    · have hlti : (k : Int) < (ps.length : Int) := by omega
      obtain ⟨b, off, xk, xs, rfl, hrb, c0, c1, hxt⟩ := (show treeE.RowQ (fun b => bx + 1 ≤ b ∧ b < H1) qc wr po ps from S.rowQ treeE 3).tree hlt
      have HXG := Lib.hid (HPG.out (gK ps k) (by rw [gK_get hlt]; exact List.getElem_mem hlt))
      have HIN := Lib.hid (show instGo ar c (((subs.drop 0).map fun t => (gK ps k, t)) ++ pairsT (ps.drop (k + 1)) subs) K' = R by rw [← HG.out, pairsT_drop hlt, List.drop_zero, gK_get hlt])
      obtain ⟨x, hx⟩ : ∃ x, x = gK ps k := ⟨_, rfl⟩
      rw [← hx] at c0 c1 hxt HXG HIN
      have HXT := Lib.hid hxt
      obtain ⟨b8, hb8⟩ : ∃ b, b = wr.heap.size := ⟨_, rfl⟩
      have HB8 := Lib.hid (show H1 ≤ b8 by omega)
      have HO8 := Lib.hid (show ov'.ownBlock ≠ some b8 from fun e => by have := (S.ownlt claimE 1 rfl b8 e).2; omega)
      have S5 := S.boxH hb8.symm #[.int .i64 x.head, .slice xk x.kids.length (x.kids.length + xs)] 38
      have S5 := S5.cons (.treeP qc (.agg #[.int .i64 x.head, .slice xk x.kids.length (x.kids.length + xs)]) x) (HXT.out.kept ((Below.refl wr.heap.size wr).alloc (Nat.le_refl _) (.cells #[.int .i64 x.head, .slice xk x.kids.length (x.kids.length + xs)] 38)))
      have S6 : St w0 (wr.alloc (.cells #[.int .i64 x.head, .slice xk x.kids.length (x.kids.length + xs)] 38)) (.box bo #[ov'] 23 :: .owns claimE B p ov' K' :: .box b8 #[.int .i64 x.head, .slice xk x.kids.length (x.kids.length + xs)] 38 :: .box bx #[.slice xo c.length (c.length + sp)] 41 :: .rowQ treeE (fun b => bx + 1 ≤ b ∧ b < H1) qc (some ⟨b, off, none⟩) ps :: .rowE treeE qs so subs :: .rowE factE qc xo c :: .rowE intE qa ao ar :: .cellAt bl 0 (.slice ao ar.length ca) :: .treeP qc (.agg #[.int .i64 x.head, .slice xk x.kids.length (x.kids.length + xs)]) x :: r) := S5.sub (fun f hf => by simp at hf ⊢; rcases hf with h | h | h | h | h | h | h | h | h | h | h <;> simp [h])
      have z6 : b8 + 1 ≤ (wr.alloc (.cells #[.int .i64 x.head, .slice xk x.kids.length (x.kids.length + xs)] 38)).heap.size := by simp [hb8]
      have hsl : (subs.length : Int) ≤ 1000000 := by omega
      clear S S5 hx hxt HG
      go_wp2_with fail
      rw [← hb8]
      clear c0 c1 hb8 zr
      generalize wr.alloc (.cells #[.int .i64 x.head, .slice xk x.kids.length (x.kids.length + xs)] 38) = wq at S6 z6 ⊢
      go_loopw [29] (fun i wr => ∃ (m : Nat) (K' : List (List Fc)) (ov' : Value), m ≤ subs.length ∧ i = .int .i64 m ∧ Hid (instGo ar c (((subs.drop m).map fun t => (x, t)) ++ pairsT (ps.drop (k + 1)) subs) K' = R) ∧ K'.length ≤ 60 ∧ Hid (∀ x ∈ K', x.length ≤ 1000000) ∧ Hid (∀ b, ov'.ownBlock = some b → ov.ownBlock = some b ∨ H1 ≤ b) ∧ Hid (ov'.ownBlock ≠ some b8) ∧ b8 + 1 ≤ wr.heap.size ∧
        St w0 wr (.box bo #[ov'] 23 :: .owns claimE B p ov' K' :: .box b8 #[.int .i64 x.head, .slice xk x.kids.length (x.kids.length + xs)] 38 :: .box bx #[.slice xo c.length (c.length + sp)] 41 :: .rowQ treeE (fun b => bx + 1 ≤ b ∧ b < H1) qc (some ⟨b, off, none⟩) ps :: .rowE treeE qs so subs :: .rowE factE qc xo c :: .rowE intE qa ao ar :: .cellAt bl 0 (.slice ao ar.length ca) :: .treeP qc (.agg #[.int .i64 x.head, .slice xk x.kids.length (x.kids.length + xs)]) x :: r)) (fun i _ => subs.length - (intOf i).toNat)
      case atStart => exact ⟨0, K', ov', by omega, by trivial, HIN, hK60, HKK, HOV, HO8, z6, S6⟩
      case round =>
        clear S6 z6 HO8 HIN HKK HOV hK60 HXT
        obtain ⟨m, K', ov', hm, rfl, HG, hK60, HKK, HOV, HO8, zr, S⟩ := hrel
        have HXT := Lib.hid (S.treeP 9)
        by_cases hlt2 : m < subs.length
        · have hlti2 : (m : Int) < (subs.length : Int) := by omega
          obtain ⟨tb, toff, tk, ts, rfl, _, d0, d1, htt⟩ := (show treeE.Row qs wr so subs from S.rowE treeE 5).tree hlt2
          have HTG := Lib.hid (HSUB.out subs[m] (List.getElem_mem hlt2))
          have HIR := Lib.hid (instRest (ps := ps) (k := k + 1) (x := x) hlt2)
          rw [gK_get hlt2] at HIR
          obtain ⟨t, ht⟩ : ∃ t, t = subs[m] := ⟨_, rfl⟩
          rw [← ht] at d0 d1 htt HTG HIR
          obtain ⟨⟨p0, _⟩, ⟨p1, _⟩⟩ := And.intro (S.cell 2 0 rfl) (S.cell 2 1 rfl)
          have hl8 : b8 < wr.heap.size := by omega
          have HTT := Lib.hid (htt.at.kept ((Below.refl wr.heap.size wr).alloc (Nat.le_refl _) (.cells #[.int .i64 t.head, .slice tk t.kids.length (t.kids.length + ts)] 38)))
          have HXX := Lib.hid (HXT.out.at.kept ((Below.refl wr.heap.size wr).alloc (Nat.le_refl _) (.cells #[.int .i64 t.head, .slice tk t.kids.length (t.kids.length + ts)] 38)))
          have HBA := Lib.hid ((Below.refl wr.heap.size wr).alloc (Nat.le_refl _) (.cells #[.int .i64 t.head, .slice tk t.kids.length (t.kids.length + ts)] 38))
          have HOL := Lib.hid (fun b (e : ov'.ownBlock = some b) => (S.ownlt claimE 1 rfl b e).2)
          have SH := Lib.hid S
          clear ht htt S
          go_wp2_with fail
          refine (match55 x t _ _ _ HXX.out HTT.out HXG.out.2.2 (by have := HXG.out.1; omega) (by have := HXG.out.2.1; omega) (by have := (treeF_ok.1 HTG.out).1; omega)).mono ?_
          rintro e w4 ⟨ro, rc, rfl, hro, hb4⟩
          have HB4 := Lib.hid (Below.step HBA.out hb4)
          have HSM := Lib.hid (fun i => show (gK (fitLst x t) i).size ≤ 100 from fitLst_size (by have := (treeF_ok.1 HTG.out).1; omega) (by omega))
          obtain ⟨ks, hks⟩ : ∃ ks, ks = fitLst x t := ⟨_, rfl⟩
          obtain ⟨ok, hok⟩ : ∃ z, z = (fitF x t).isSome := ⟨_, rfl⟩
          rw [← hks] at hro HSM
          rw [← hok, ← hks]
          have HKS := Lib.hid hks; have HOK := Lib.hid hok
          have HKL := Lib.hid (show ks.length ≤ 1000 by rw [hks]; exact fitLst_len HXG.out.2.2)
          have hz4 := hb4.size
          have hz4' : wr.heap.size + 1 ≤ w4.heap.size := by simpa using hz4
          obtain ⟨b11, hb11⟩ : ∃ b, b = w4.heap.size := ⟨_, rfl⟩
          have HB5 := Lib.hid (HB4.out.alloc (by omega) (.cells #[.slice ro ks.length rc] 33))
          have HRO := Lib.hid (show RowP (fun b => wr.heap.size ≤ b ∧ b < b11) (w4.alloc (.cells #[.slice ro ks.length rc] 33)) ro ks from
            (RowP.kept (RowP.mono (show RowP (fun b => (wr.alloc (.cells #[.int .i64 t.head, .slice tk t.kids.length (t.kids.length + ts)] 38)).heap.size ≤ b ∧ b < w4.heap.size) w4 ro ks from hro) (fun b h _ => ⟨by have h1 := h.1; simp at h1; omega, by rw [hb11]; exact h.2⟩)) ((Below.refl _ w4).alloc (Nat.le_refl _) (.cells #[.slice ro ks.length rc] 33))))
          have hc11 := heap_ofAlloc w4 (.cells #[.slice ro ks.length rc] 33)
          rw [← hb11] at hc11
          have HC11 := Lib.hid hc11
          have S5 := SH.out.step HB5.out
          have HS5 := Lib.hid (show b8 + 1 ≤ (w4.alloc (.cells #[.slice ro ks.length rc] 33)).heap.size by simp; omega)
          have HSX := Lib.hid (show b11 + 1 ≤ (w4.alloc (.cells #[.slice ro ks.length rc] 33)).heap.size ∧ wr.heap.size + 1 ≤ b11 by simp [hb11]; omega)
          clear hro hb4 hks hok hz4 p0 p1 d0 d1
          cases ok with
          | false =>
            have HN := Lib.hid (instGo_no (ar := ar) (c := c) (pt := (x, t)) (r := ((subs.drop (m + 1)).map fun t => (x, t)) ++ pairsT (ps.drop (k + 1)) subs) (K := K') HOK.out.symm)
            clear hc11 S5
            go_wp2_with fail
            go_roundw
            case rel => exact ⟨m + 1, K', ov', by omega, by go_num, Lib.hid (by rw [← HN.out, ← HIR.out]; exact HG.out), hK60, HKK, HOV, HO8, HS5.out, SH.out.step HB5.out⟩
            case measure => simp [intOf] <;> omega
          | true =>
            obtain ⟨⟨q0, _⟩⟩ := And.intro (show (w4.alloc (.cells #[.slice ro ks.length rc] 33)).cell? ⟨bx, 0, none⟩ = some (.slice xo c.length (c.length + sp)) ∧ True from ⟨(show St w0 _ (.box bo #[ov'] 23 :: .owns claimE B p ov' K' :: .box b8 #[.int .i64 x.head, .slice xk x.kids.length (x.kids.length + xs)] 38 :: .box bx #[.slice xo c.length (c.length + sp)] 41 :: .rowQ treeE (fun b => bx + 1 ≤ b ∧ b < H1) qc (some ⟨b, off, none⟩) ps :: .rowE treeE qs (some ⟨tb, toff, none⟩) subs :: .rowE factE qc xo c :: .rowE intE qa ao ar :: .cellAt bl 0 (.slice ao ar.length ca) :: .treeP qc (.agg #[.int .i64 x.head, .slice xk x.kids.length (x.kids.length + xs)]) x :: r) from S5).one 3 |>.1, trivial⟩) trivial
            have hlx : bx < w4.heap.size := by have := HB8.out; have := HZH.out; omega
            have HFR := Lib.hid ((show St w0 _ (.box bo #[ov'] 23 :: .owns claimE B p ov' K' :: .box b8 #[.int .i64 x.head, .slice xk x.kids.length (x.kids.length + xs)] 38 :: .box bx #[.slice xo c.length (c.length + sp)] 41 :: .rowQ treeE (fun b => bx + 1 ≤ b ∧ b < H1) qc (some ⟨b, off, none⟩) ps :: .rowE treeE qs (some ⟨tb, toff, none⟩) subs :: .rowE factE qc xo c :: .rowE intE qa ao ar :: .cellAt bl 0 (.slice ao ar.length ca) :: .treeP qc (.agg #[.int .i64 x.head, .slice xk x.kids.length (x.kids.length + xs)]) x :: r) from S5).rowE factE 6)
            go_wp2_with fail
            rw [← hb11]
            clear hb11 hc11 S5 q0 hlx
            have SW := Lib.hid (SH.out.step HB5.out)
            generalize (w4.alloc (.cells #[.slice ro ks.length rc] 33)) = w5 at *
            have hx5 := HSX.out
            have hwr : w.heap.size ≤ wr.heap.size := by have := HBX.out; have := HZH.out; have := HB8.out; omega
            have hwc := HB5.out.size
            refine (mapAny (T.sub ks) 131 #[.pointer (some ⟨b11, 0, none⟩)] (enters_of Try.func131 (by kernel_rfl) rfl) c qc (fun b => qc b ∨ (wr.heap.size ≤ b ∧ b < b11)) xo sp w5 (fun b hb => by have := (HQC.out b hb).1.1; omega) (fun b hb => by rcases hb with hb | hb; (have := (HQC.out b hb).1.1; omega); omega) HFR.out (by have := HCZ.out.1; omega) (fun W v u hu hbW htv => ?_)).mono ?_
            · have hu0 := treeF_ok.1 (HCZ.out.2 u hu).1
              exact inst131 u ks (fun b => qc b ∨ (wr.heap.size ≤ b ∧ b < b11)) v ro rc b11 W (fun b hb => by have := hbW.size; rcases hb with hb | hb; (have := (HQC.out b hb).1.1; omega); omega) HKL.out (htv.mono (fun b h _ => .inl h)) ((RowP.mono HRO.out (fun b h _ => .inr h)).kept hbW) (low_of_pre u hu0.2.2) (by omega) (fun i hi => by have := HSM.out i; omega) (Below.cellOf hbW (box1 HC11.out).1)
            rintro e w6 ⟨mo, msp, rfl, hmo, hb6⟩
            rw [show mapC (T.sub ks) c = subC ks c from rfl] at hmo ⊢
            have S6 : St w0 w6 (.box bo #[ov'] 23 :: .owns claimE B p ov' K' :: .box b8 #[.int .i64 x.head, .slice xk x.kids.length (x.kids.length + xs)] 38 :: .box bx #[.slice xo c.length (c.length + sp)] 41 :: .rowQ treeE (fun b => bx + 1 ≤ b ∧ b < H1) qc (some ⟨b, off, none⟩) ps :: .rowE treeE qs (some ⟨tb, toff, none⟩) subs :: .rowE factE qc xo c :: .rowE intE qa ao ar :: .cellAt bl 0 (.slice ao ar.length ca) :: .treeP qc (.agg #[.int .i64 x.head, .slice xk x.kids.length (x.kids.length + xs)]) x :: r) := SW.out.step hb6
            have z6 := hb6.size
            have HB6 := Lib.hid (Below.step HB5.out hb6)
            have HMO := Lib.hid hmo
            obtain ⟨AD, hAD⟩ : ∃ z, z = addF ar K' (subC ks c) := ⟨_, rfl⟩
            have HAL := Lib.hid (addF_len (ar := ar) (x := subC ks c) hK60)
            have hxl : (subC ks c).length ≤ 100 := by have := HCZ.out.1; unfold subC; simp; omega
            clear hmo hb6
            go_wp2_with fail
            refine (add75 ar K' (subC ks c) bl bo B p (fun b => (qc b ∨ (wr.heap.size ≤ b ∧ b < b11)) ∨ w5.heap.size ≤ b) qa ao mo ca msp ov' (.box b8 #[.int .i64 x.head, .slice xk x.kids.length (x.kids.length + xs)] 38 :: .box bx #[.slice xo c.length (c.length + sp)] 41 :: .rowQ treeE (fun b => bx + 1 ≤ b ∧ b < H1) qc (some ⟨b, off, none⟩) ps :: .rowE treeE qs (some ⟨tb, toff, none⟩) subs :: .rowE factE qc xo c :: .rowE intE qa ao ar :: .cellAt bl 0 (.slice ao ar.length ca) :: .treeP qc (.agg #[.int .i64 x.head, .slice xk x.kids.length (x.kids.length + xs)]) x :: r) w6 S6 ?h1 (S6.cellAt 8) (S6.rowE intE 7) HMO.out hB (by omega) hbo HPB.out HPO.out ?h2 hna hxl (by omega) HKK.out ?h3).mono ?_
            case h1 =>
              intro b2 hb2
              have hq1 := HBX.out
              have hq2 := HBOL.out
              have hq3 := HZH.out
              have hq4 := HB8.out
              simp only [offAll, Fct.box, Fct.rowQ, Fct.rowE, Fct.cellAt, Fct.treeP]
              have hbo2 : b2 = bo ∨ ov.ownBlock = some b2 ∨ w.heap.size ≤ b2 := by
                rcases hb2 with h | h | h
                · exact .inl h
                · exact .inr ((HOV.out b2 h).imp id (fun h => by omega))
                · exact .inr (.inr (by omega))
              have n8 : b2 ≠ b8 := fun e => by
                rcases hb2 with h | h | h
                · omega
                · exact HO8.out (by rw [← e]; exact h)
                · omega
              have nq : ¬ qc b2 := fun e => by
                have h5 := HQC.out b2 e
                rcases hb2 with h | h | h
                · exact h5.1.2.1 h
                · rcases HOV.out b2 h with h | h
                  · exact h5.1.2.2 h
                  · omega
                · omega
              have ns : ¬ qs b2 := fun e => by
                have h5 := HQS.out b2 e
                rcases hb2 with h | h | h
                · exact h5.2.1 h
                · rcases HOV.out b2 h with h | h
                  · exact h5.2.2 h
                  · omega
                · omega
              have na : ¬ qa b2 := fun e => by
                have h5 := HQA.out b2 e
                rcases hb2 with h | h | h
                · exact h5.2.1 h
                · rcases HOV.out b2 h with h | h
                  · exact h5.2.2 h
                  · omega
                · omega
              have nl : b2 ≠ bl := fun e => by
                rcases hb2 with h | h | h
                · exact HBL.out.1 (by omega)
                · rcases HOV.out b2 h with h | h
                  · exact HBL.out.2 (by rw [← e]; exact h)
                  · have := block_lt_of_cell HL.out; have h6 : bl < w.heap.size := this; omega
                · have := block_lt_of_cell HL.out; have h6 : bl < w.heap.size := this; omega
              have nx : b2 ≠ bx := fun e => by
                rcases hb2 with h | h | h
                · omega
                · rcases HOV.out b2 h with h | h
                  · have := HOWL.out b2 h; omega
                  · omega
                · omega
              have nr : ¬ (bx + 1 ≤ b2 ∧ b2 < H1) := fun e => by
                rcases hb2 with h | h | h
                · omega
                · rcases HOV.out b2 h with h | h
                  · have := HOWL.out b2 h; omega
                  · omega
                · omega
              exact ⟨n8, nx, fun e => e.elim nr nq, ns, nq, na, nl, nq, HOFF.out b2 hbo2⟩
            case h2 =>
              intro b2 hb2
              have hq1 := HBX.out
              have hq3 := HZH.out
              have hq4 := HB8.out
              rcases hb2 with (h | h) | h
              · have h5 := HQC.out b2 h
                exact ⟨h5.2, fun e => by
                  rcases HOV.out b2 e with h6 | h6
                  · exact h5.1.2.2 h6
                  · omega⟩
              · exact ⟨HPB.out b2 (by omega), fun e => by have := HOL.out b2 e; omega⟩
              · exact ⟨HPB.out b2 (by omega), fun e => by have := HOL.out b2 e; omega⟩
            case h3 =>
              intro e
              rcases HOV.out bo e with h6 | h6
              · exact HOO.out h6
              · have := HBOL.out; have := HBX.out; have := HZH.out; omega
            rintro e w7 ⟨rfl, ov2, S7, ho7, z7⟩
            have HA7 := Lib.hid ho7
            rw [← hAD] at S7 HAL
            rw [← hAD]
            have S7H := Lib.hid S7
            have HKS2 := Lib.hid (show addF ar K' (subC (fitLst x t) c) = AD by rw [← HKS.out]; exact hAD.symm)
            clear S6 S7 ho7 hAD hxl
            obtain ⟨AK, AB⟩ := AD
            cases AB with
            | false =>
              have HN := Lib.hid (instGo_stop (ar := ar) (c := c) (pt := (x, t)) (r := ((subs.drop (m + 1)).map fun t => (x, t)) ++ pairsT (ps.drop (k + 1)) subs) (K := K') HOK.out.symm (by rw [HKS2.out]))
              have HRR := Lib.hid (show R = (AK, false) by rw [← HG.out, HIR.out, HN.out, HKS2.out])
              go_wp2_with fail
              go_ret
              refine ⟨by rw [HF.out, HRR.out]; rfl, ov2, by rw [HF.out, HRR.out]; exact S7H.out.sub (fun f hf => by simp at hf ⊢; rcases hf with h | h | h <;> simp [h]), fun b h => ?_, by have := HBX.out; have := HZH.out; have := HB8.out; omega⟩
              rcases HA7.out b h with h | h
              · exact (HOV.out b h).imp id (fun h => by have := HBX.out; have := HZH.out; omega)
              · right; have := HBX.out; have := HZH.out; have := HB8.out; omega
            | true =>
              have HN := Lib.hid (instGo_go (ar := ar) (c := c) (pt := (x, t)) (r := ((subs.drop (m + 1)).map fun t => (x, t)) ++ pairsT (ps.drop (k + 1)) subs) (K := K') HOK.out.symm (by rw [HKS2.out]))
              have HG2 := Lib.hid (show instGo ar c (((subs.drop (m + 1)).map fun t => (x, t)) ++ pairsT (ps.drop (k + 1)) subs) AK = R by rw [← HG.out, HIR.out, HN.out, HKS2.out])
              have hak : AK.length ≤ 60 := HAL.out.2 rfl
              have HKN := Lib.hid (show ∀ y ∈ AK, y.length ≤ 1000000 from fun y hy => by
                have h5 : y ∈ (addF ar K' (subC (fitLst x t) c)).1 := by rw [HKS2.out]; exact hy
                rcases addF_mem h5 with h | ⟨rfl, h⟩
                · exact HKK.out y h
                · have := (codeF_zero.1 h).1; omega)
              have HOV2 := Lib.hid (show ∀ b, ov2.ownBlock = some b → ov.ownBlock = some b ∨ H1 ≤ b from fun b h => by
                rcases HA7.out b h with h | h
                · exact HOV.out b h
                · right; have := HB8.out; omega)
              have HO82 := Lib.hid (show ov2.ownBlock ≠ some b8 from fun e => by
                rcases HA7.out b8 e with h | h
                · exact HO8.out h
                · omega)
              have z9 : b8 + 1 ≤ w7.heap.size := by omega
              go_wp2_with fail
              go_roundw
              case rel => exact ⟨m + 1, AK, ov2, by omega, by go_num, HG2, hak, HKN, HOV2, HO82, z9, S7H.out⟩
              case measure => simp [intOf] <;> omega
        · obtain rfl : m = subs.length := by omega
          have HG2 := Lib.hid (show instGo ar c (pairsT (ps.drop (k + 1)) subs) K' = R by have := HG.out; rw [List.drop_length] at this; exact this)
          have SN := Lib.hid (show St w0 wr (.box bo #[ov'] 23 :: .owns claimE B p ov' K' :: .box bx #[.slice xo c.length (c.length + sp)] 41 :: .rowQ treeE (fun b => bx + 1 ≤ b ∧ b < H1) qc (some ⟨b, off, none⟩) ps :: .rowE treeE qs so subs :: .rowE factE qc xo c :: .rowE intE qa ao ar :: .cellAt bl 0 (.slice ao ar.length ca) :: r) from S.sub (fun f hf => by simp at hf ⊢; rcases hf with h | h | h | h | h | h | h | h | h <;> simp [h]))
          have zw : H1 ≤ wr.heap.size := by have := HB8.out; omega
          clear S
          go_wp2_with fail
          go_roundw
          case rel => exact ⟨k + 1, K', ov', by omega, by go_num, HG2, hK60, HKK, HOV, zw, SN.out⟩
          case measure => simp [intOf] <;> omega
    · obtain rfl : k = ps.length := by omega
      have HRR := Lib.hid (show R = (K', true) by rw [← HG.out, List.drop_length]; rfl)
      have SG := Lib.hid (S.sub (l' := .box bo #[ov'] 23 :: .owns claimE B p ov' K' :: r) (fun f hf => by simp at hf ⊢; rcases hf with h | h | h <;> simp [h]))
      clear S
      go_wp2_with fail
      go_ret
      refine ⟨by rw [HF.out, HRR.out]; rfl, ov', by rw [HF.out, HRR.out]; exact SG.out, fun b h => (HOV.out b h).imp id (fun h => by have := HBX.out; have := HZH.out; omega), by have := HBX.out; have := HZH.out; omega⟩
end Go.Proofs.Ytlhnfdjidjgfgaa
