/-
  Walks: table.True.
-/
import Derived.Test.YteekoclfpehnpaaProg
import Derived.Test.YteekoclfpehnpaaV9
import Derived.Test.YteekoclfpehnpaaG1
import Derived.RegionTactic
import Derived.Lib.QuietBelow
import Derived.BigQuiet
namespace Go.Proofs.Yteekoclfpehnpaa
open Go.RowKit Go.Shelf
set_option linter.unusedVariables false
set_option maxHeartbeats 400000

theorem dig_get {s : Nat} : ∀ (n k i : Nat), i < n → (dig s n k)[i]? = some ((k / s ^ i % s : Nat) : Int)
  | 0, k, i, h => by omega
  | n + 1, k, 0, _ => by rw [dig]; simp
  | n + 1, k, i + 1, h => by rw [dig, List.getElem?_cons_succ, dig_get n (k / s) i (by omega), Nat.div_div_eq_div_mul, Nat.pow_succ, Nat.mul_comm s]
/-- the things while try number k is written over an older one -/
def mid (s n k : Nat) (th : List Int) (i : Nat) : List Int := (dig s n k).take i ++ th.drop i
theorem mid_set {s n k i : Nat} {th : List Int} (hi : i < n) (hl : th.length = n) : (mid s n k th i).set i ((k / s ^ i % s : Nat) : Int) = mid s n k th (i + 1) := by
  unfold mid
  have hd : (dig s n k).length = n := dig_length n k
  have ht : ((dig s n k).take i).length = i := by simp [hd]; omega
  rw [List.set_append_right _ _ (by omega), ht, Nat.sub_self, List.drop_eq_getElem_cons (by omega), List.set_cons_zero]
  have hg : (dig s n k)[i]'(by omega) = ((k / s ^ i % s : Nat) : Int) := by
    have h := dig_get (s := s) n k i hi
    rw [List.getElem?_eq_getElem (by omega)] at h
    exact Option.some.inj h
  rw [List.take_succ_eq_append_getElem (by omega), hg, List.append_assoc, List.singleton_append]
theorem mid_end {s n k : Nat} {th : List Int} (hl : th.length = n) : mid s n k th n = dig s n k := by
  unfold mid
  rw [List.drop_eq_nil_of_le (by omega), List.append_nil, List.take_of_length_le (by rw [dig_length]; omega)]
theorem mid_length {s n k i : Nat} {th : List Int} (hi : i ≤ n) (hl : th.length = n) : (mid s n k th i).length = n := by
  unfold mid
  simp [dig_length, hl]; omega
theorem trueF_false {s : Nat} {tb : List (List Int)} {fs : List Fc} {k : Nat} (hk : k < powN s 4096 (varsC fs) 1) (h : fs.any (factB s tb (dig s (varsC fs) k)) = false) : trueF s tb fs = false := by
  unfold trueF
  rw [List.all_eq_false]
  exact ⟨k, by simpa using hk, by rw [h]; simp⟩
theorem trueF_true {s : Nat} {tb : List (List Int)} {fs : List Fc} (h : ∀ k, k < powN s 4096 (varsC fs) 1 → fs.any (factB s tb (dig s (varsC fs) k)) = true) : trueF s tb fs = true := by
  unfold trueF
  rw [List.all_eq_true]
  exact fun k hk => h k (by simpa using hk)

set_option maxRecDepth 100000 in
set_option maxHeartbeats 8000000 in
theorem true78 (ar : List Int) (s : Nat) (tb : List (List Int)) (hT : TabOK ar s tb) (fs : List Fc) (hok : codeF ar fs = 0) (p r : Nat → Prop) (to_ co : Option Addr) (ct sp : Nat) (w : World) (hrow : intsE.Row r w to_ tb) (h : factE.Row p w co fs) :
    Calls Try.prog 78 #[.agg #[.int .i64 s, .slice to_ tb.length (tb.length + ct)], .agg #[.slice co fs.length (fs.length + sp)]] w fun e w' => e = .returned (.bool (trueF s tb fs)) ∧ Below w.heap.size w w' := by
  have HC := Lib.hid (codeF_zero.1 hok)
  have HR := Lib.hid hrow; have HF := Lib.hid h; have HT := Lib.hid hT
  have hs14 : 1 ≤ s ∧ s ≤ 4 := ⟨hT.1, hT.2.1⟩
  obtain ⟨n, hnn⟩ : ∃ n, n = varsC fs := ⟨_, rfl⟩
  have hn8 : n ≤ 8 := by
    have := mostL_bound (l := treesF fs) (fun t ht => (HC.out.2 t ht).1)
    rw [← varsC_cast, ← hnn] at this; omega
  have HNV := Lib.hid hnn
  obtain ⟨bx, hbx⟩ : ∃ b, b = w.heap.size := ⟨_, rfl⟩
  have S1 := ((St.start w).box hbx.symm #[.int .i64 s, .slice to_ tb.length (tb.length + ct)] 41).box (b := bx + 1) (by simp [hbx]) #[.slice co fs.length (fs.length + sp)] 24
  have hsz : ((w.alloc (.cells #[.int .i64 s, .slice to_ tb.length (tb.length + ct)] 41)).alloc (.cells #[.slice co fs.length (fs.length + sp)] 24)).heap.size = bx + 2 := by simp [hbx]
  have hmk : ∀ W : World, (Instr.makeSlice 27 (.int .i64 (n : Int)) (.int .i64 (n : Int))).run Try.prog W = .ok (.slice (some ⟨W.heap.size, 0, none⟩) n n) (W.alloc (.cells (tc (List.replicate n 0)) 3)) := fun W => make27 n (by omega) W
  obtain ⟨y0, _⟩ := S1.one 1
  clear hrow h hT hok
  go_enter Try.func78, Try.ntmps78
  go_wp2_with fail
  rw [← hbx]
  refine S1.gen (z := bx + 2) (by omega) ?_
  intro w1 z1 S
  have HBX := Lib.hid hbx
  clear S1 hbx hsz y0
  refine (S.quiet (max112 fs p co sp w1 (HF.out.kept S.bel) HC.out.1 (fun t ht => (HC.out.2 t ht).1))).mono ?_
  rintro e w2 ⟨rfl, z2, S2⟩
  rw [← varsC_cast, ← hnn]
  clear S hnn
  have S3 := (S2.box rfl (tc (List.replicate n 0)) 3).box (b := w2.heap.size + 1) (by simp) #[.slice (some ⟨w2.heap.size, 0, none⟩) n n] 27
  obtain ⟨⟨x0, _⟩, x1, _⟩ := S3.two 0
  obtain ⟨v0, _⟩ := S3.one 3
  clear S2
  go_wp2_with fail
  refine S3.gen (z := w2.heap.size + 2) (by simp) ?_
  intro w4 z4 S
  obtain ⟨g, hg⟩ : ∃ g, g = w2.heap.size := ⟨_, rfl⟩
  have HG := Lib.hid (show bx + 2 ≤ g by omega)
  clear S3 x0 x1 v0 hmk
  rw [← hg] at S z4 ⊢
  clear hg
  refine (power80 s n 4096 w4 (by omega) (by omega) (by omega)).mono ?_
  rintro e w5 ⟨rfl, hw⟩
  have hw := hw.symm
  subst hw
  obtain ⟨PW, hPW⟩ : ∃ PW, PW = powN s 4096 n 1 := ⟨_, rfl⟩
  have hpb : PW ≤ 16384 := by rw [hPW]; exact powN_le hs14.2 (by omega) n 1 (by omega)
  rw [← hPW]
  have HPW := Lib.hid (show powN s 4096 (varsC fs) 1 = PW by rw [← HNV.out, hPW])
  clear hPW
  go_wp2_with fail
  refine S.genC (z := g + 2) z4 ?_
  intro w5 z5 S
  go_loopw [16] (fun i wr => ∃ (k : Nat) (th : List Int), k ≤ PW ∧ i = .int .i64 k ∧ th.length = n ∧ (∀ j, j < k → fs.any (factB s tb (dig s n j)) = true) ∧ g + 2 ≤ wr.heap.size ∧ St w wr [.box bx #[.int .i64 s, .slice to_ tb.length (tb.length + ct)] 41, .box (bx + 1) #[.slice co fs.length (fs.length + sp)] 24, .box g (tc th) 3, .box (g + 1) #[.slice (some ⟨g, 0, none⟩) n n] 27]) (fun i _ => PW - (intOf i).toNat)
  case atStart => exact ⟨0, List.replicate n 0, by omega, rfl, by simp, fun j hj => by omega, z5, S⟩
  case round =>
    clear S z5 w5
    obtain ⟨k, th, hk, rfl, hthl, hno, z6, S⟩ := hrel
    have HNO := Lib.hid hno
    have HTL := Lib.hid hthl
    clear hno hthl
    by_cases hlt : k < PW
    · have hlti : (k : Int) < (PW : Int) := by omega
      obtain ⟨v0, _⟩ := S.one 3
      obtain ⟨wv, hwv⟩ : ∃ W, W = wr := ⟨_, rfl⟩
      go_wp2_with fail
      rw [← hwv]
      rw [← hwv] at S z6 v0
      clear hwv v0
      go_loopw [6, 21] (fun kk i wr => ∃ (m c : Nat), m ≤ n ∧ i = .int .i64 m ∧ kk = .int .i64 c ∧ c = k / s ^ m ∧ g + 2 ≤ wr.heap.size ∧ St w wr [.box bx #[.int .i64 s, .slice to_ tb.length (tb.length + ct)] 41, .box (bx + 1) #[.slice co fs.length (fs.length + sp)] 24, .box g (tc (mid s n k th m)) 3, .box (g + 1) #[.slice (some ⟨g, 0, none⟩) n n] 27]) (fun _ i _ => n - (intOf i).toNat)
      case atStart => exact ⟨0, k, by omega, rfl, rfl, by simp, z6, by show St w _ [.box bx #[.int .i64 s, .slice to_ tb.length (tb.length + ct)] 41, .box (bx + 1) #[.slice co fs.length (fs.length + sp)] 24, .box g (tc (mid s n k th 0)) 3, .box (g + 1) #[.slice (some ⟨g, 0, none⟩) n n] 27]; rw [show mid s n k th 0 = th by simp [mid]]; exact S⟩
      case round =>
        clear S
        obtain ⟨m, c, hm, rfl, rfl, hc, z7, S⟩ := hrel
        by_cases hlt2 : m < n
        · have hlti2 : (m : Int) < (n : Int) := by omega
          have hcb : c ≤ 16384 := by rw [hc]; exact Nat.le_trans (Nat.div_le_self _ _) (by omega)
          have HCQ := Lib.hid hc
          have hs0 : ¬ s = 0 := by omega
          obtain ⟨X, hX⟩ : ∃ X, X = c % s := ⟨_, rfl⟩
          have hrem : Int.tmod (c : Int) (s : Int) = (X : Int) := by rw [hX]; rfl
          have HXV := Lib.hid (show X = k / s ^ m % s by rw [hX, hc])
          have hxs : X ≤ 4 := by have := Nat.mod_lt c (show 0 < s by omega); omega
          clear hc hX
          go_wp2_with fail
          have S := S.drew
          have hgl := S.lt 2
          have hmlt := HTL.out
          have hml := mid_length (s := s) (k := k) hm HTL.out
          obtain ⟨g0, g1⟩ := S.cell 2 m (v := .int .i64 ((mid s n k th m)[m]'(by omega))) (by simp [tc, hml, hlt2]) rfl
          refine wpG_region 7 (fun W => W.cell? ⟨g + 1, 0, none⟩ = some (.slice (some ⟨g, 0, none⟩) n n) ∧ W.cell? ⟨bx, 0, none⟩ = some (.int .i64 s)) (by kernel_rfl) ?_
          have HS := And.intro (S.one 3).1 (S.two 0).1.1
          refine wpG.take (i := 0) (by kernel_rfl) (by kernel_rfl) (by kernel_rfl) (by kernel_rfl) (by kernel_rfl) HS ?_
          intro oi ho
          simp only [List.getElem?_toArray, List.getElem?_cons_zero, Option.some.injEq] at ho
          subst ho
          refine ⟨?_, Or.inl ⟨by rfl, ?_⟩, fun _ _ _ h => h, ?_⟩
          rotate_left 1
          · intro W hW
            try dsimp only at hW
            go_simp
            try with_reducible rfl
          simp only [Act.put, List.setIfInBounds_toArray, List.set_cons_zero, List.set_cons_succ]
          refine wpG.take (i := 1) (by kernel_rfl) (by kernel_rfl) (by kernel_rfl) (by kernel_rfl) (by kernel_rfl) HS ?_
          intro oi ho
          simp only [List.getElem?_toArray, List.getElem?_cons_succ, List.getElem?_cons_zero, Option.some.injEq] at ho
          subst ho
          refine ⟨?_, Or.inl ⟨by rfl, ?_⟩, fun _ _ _ h => h, ?_⟩
          rotate_left 1
          · intro W hW
            try dsimp only at hW
            go_simp
            try with_reducible rfl
          simp only [Act.put, List.setIfInBounds_toArray, List.set_cons_zero, List.set_cons_succ]
          refine wpG.take (i := 2) (by kernel_rfl) (by kernel_rfl) (by kernel_rfl) (by kernel_rfl) (by kernel_rfl) HS ?_
          intro oi ho
          simp only [List.getElem?_toArray, List.getElem?_cons_succ, List.getElem?_cons_zero, Option.some.injEq] at ho
          subst ho
          refine ⟨?_, Or.inl ⟨by rfl, ?_⟩, fun _ _ _ h => h, ?_⟩
          rotate_left 1
          · intro W hW
            try dsimp only at hW
            go_simp
            try with_reducible rfl
          simp only [Act.put, List.setIfInBounds_toArray, List.set_cons_zero, List.set_cons_succ]
          refine wpG.take (i := 3) (by kernel_rfl) (by kernel_rfl) (by kernel_rfl) (by kernel_rfl) (by kernel_rfl) HS ?_
          intro oi ho
          simp only [List.getElem?_toArray, List.getElem?_cons_succ, List.getElem?_cons_zero, Option.some.injEq] at ho
          subst ho
          refine ⟨?_, Or.inl ⟨by rfl, ?_⟩, fun _ _ _ h => h, ?_⟩
          rotate_left 1
          · intro W hW
            try dsimp only at hW
            go_simp
            try with_reducible rfl
          simp only [Act.put, List.setIfInBounds_toArray, List.set_cons_zero, List.set_cons_succ]
          refine wpG.take (i := 4) (by kernel_rfl) (by kernel_rfl) (by kernel_rfl) (by kernel_rfl) (by kernel_rfl) HS ?_
          intro oi ho
          simp only [List.getElem?_toArray, List.getElem?_cons_succ, List.getElem?_cons_zero, Option.some.injEq] at ho
          subst ho
          refine ⟨?_, Or.inl ⟨by rfl, ?_⟩, fun _ _ _ h => h, ?_⟩
          rotate_left 1
          · intro W hW
            try dsimp only at hW
            go_simp
            try with_reducible rfl
          simp only [Act.put, List.setIfInBounds_toArray, List.set_cons_zero, List.set_cons_succ]
          refine wpG.take (i := 5) (by kernel_rfl) (by kernel_rfl) (by kernel_rfl) (by kernel_rfl) (by kernel_rfl) HS ?_
          intro oi ho
          simp only [List.getElem?_toArray, List.getElem?_cons_succ, List.getElem?_cons_zero, Option.some.injEq] at ho
          subst ho
          refine ⟨?_, Or.inl ⟨by rfl, ?_⟩, fun _ _ _ h => h, ?_⟩
          rotate_left 1
          · intro W hW
            try dsimp only at hW
            go_simp
            try with_reducible rfl
          simp only [Act.put, List.setIfInBounds_toArray, List.set_cons_zero, List.set_cons_succ]
          refine wpG.one (i := 6) (by kernel_rfl) ?_
          intro oi ho
          simp only [List.getElem?_toArray, List.getElem?_cons_succ, List.getElem?_cons_zero, Option.some.injEq] at ho
          subst ho
          intro K hK
          have HK := Lib.hid hK
          have HSH := Lib.hid HS
          clear hK HS
          go_simp
          refine HK.out _ _ (fun _ => HSH.out) ?_
          have HS := HSH.out
          try simp only [Act.put, List.setIfInBounds_toArray, List.set_cons_zero, List.set_cons_succ]
          refine wpG.one (i := 7) (by kernel_rfl) ?_
          intro oi ho
          simp only [List.getElem?_toArray, List.getElem?_cons_succ, List.getElem?_cons_zero, Option.some.injEq] at ho
          subst ho
          intro K hK
          have HK := Lib.hid hK
          have HSH := Lib.hid HS
          clear hK HS
          go_simp
          refine HK.out _ _ (fun h => absurd rfl h) ?_
          try simp only [Act.put, List.setIfInBounds_toArray, List.set_cons_zero, List.set_cons_succ]
          refine wpG.done (by kernel_rfl) ?_
          have SN := S.setAt 2 rfl m (.int .i64 (X : Int)) (by have := HG.out; have := HBX.out; omega) (by have := HG.out; simp only [offs, offAll, Fct.box, and_true]; omega)
          have he : (tc (mid s n k th m)).setIfInBounds m (.int .i64 (X : Int)) = tc (mid s n k th (m + 1)) := by rw [tc_set, HXV.out, mid_set hlt2 HTL.out]
          rw [he] at SN
          refine (show St w _ [.box bx #[.int .i64 s, .slice to_ tb.length (tb.length + ct)] 41, .box (bx + 1) #[.slice co fs.length (fs.length + sp)] 24, .box g (tc (mid s n k th (m + 1))) 3, .box (g + 1) #[.slice (some ⟨g, 0, none⟩) n n] 27] from SN).genX (z := g + 2) (by simp; exact z7) ?_
          intro w8 z8 S8
          clear S SN g0 g1 hgl hml
          obtain ⟨⟨x0, _⟩, x1, _⟩ := S8.two 0
          obtain ⟨c2, hc2⟩ : ∃ c2, c2 = c / s := ⟨_, rfl⟩
          have hquo : Int.tdiv (c : Int) (s : Int) = (c2 : Int) := by rw [hc2]; rfl
          have HC2 := Lib.hid (show c2 = k / s ^ (m + 1) by rw [hc2, HCQ.out, Nat.div_div_eq_div_mul, Nat.pow_succ])
          have hc2b : c2 ≤ 16384 := by rw [hc2]; exact Nat.le_trans (Nat.div_le_self _ _) hcb
          clear hc2
          go_wp2_with fail
          go_roundw
          case rel => exact ⟨m + 1, c2, by omega, by go_num, rfl, HC2.out, z8, S8⟩
          case measure => simp [intOf] <;> omega
        · obtain rfl : m = n := by omega
          rw [mid_end HTL.out] at S
          obtain ⟨y0, _⟩ := S.one 1
          clear hc
          go_wp2_with fail
          refine (S.quiet (contF 114 #[.pointer (some ⟨bx, 0, none⟩), .pointer (some ⟨g + 1, 0, none⟩)] (enters_of Try.func114 (by kernel_rfl) rfl) p co fs (fs.length + sp) (factB s tb (dig s m k)) wr (by have := HC.out.1; unfold maxLen; omega) (HF.out.kept S.bel) (fun i x kk q1 k2 q2 w1 hx hb t1 t2 => by
            have hi := (List.getElem?_eq_some_iff.1 hx).1
            have hxe : fs[i] = x := (List.getElem?_eq_some_iff.1 hx).2
            have hp := treesF_pair hi
            rw [hxe] at hp
            exact true114 ar s tb (dig s m k) HT.out (dig_ok hs14.1 m k) (by rw [dig_length]; omega) x (HC.out.2 _ (List.mem_of_getElem? hp.1)).2 (HC.out.2 _ (List.mem_of_getElem? hp.2)).2 p (fun b => b = g) r kk k2 to_ (some ⟨g, 0, none⟩) q1 q2 ct m bx (g + 1) w1
              (Below.heapAt hb (S.block 0)) (by rw [dig_length]; exact Below.heapAt hb (S.block 3)) (HR.out.kept (Below.step S.bel hb)) (row_tc rfl (Below.heapAt hb (S.block 2))) t1 t2))).mono ?_
          rintro e w9 ⟨rfl, z9, S9⟩
          have hz9 : g + 2 ≤ w9.heap.size := by omega
          clear S y0 z9
          cases hany : fs.any (factB s tb (dig s m k)) with
          | true =>
            have HN := Lib.hid (show ∀ j, j < k + 1 → fs.any (factB s tb (dig s m j)) = true from fun j hj => by
              rcases Nat.lt_succ_iff_lt_or_eq.1 hj with h | rfl
              · exact HNO.out j h
              · exact hany)
            have HDL := Lib.hid (dig_length (s := s) m k)
            clear hany
            go_wp2_with fail
            go_roundw
            case rel => exact ⟨k + 1, dig s m k, by omega, by go_num, HDL.out, HN.out, hz9, S9⟩
            case measure => simp [intOf] <;> omega
          | false =>
            have HFI := Lib.hid (show trueF s tb fs = false from trueF_false (k := k) (by rw [HPW.out]; exact hlt) (by rw [← HNV.out]; exact hany))
            have SE := Lib.hid S9.bel
            clear hany S9
            go_wp2_with fail
            go_ret
            exact ⟨ret_bool HFI.out.symm, SE.out⟩
    · obtain rfl : k = PW := by omega
      have HFI := Lib.hid (show trueF s tb fs = true from trueF_true (fun j hj => by rw [HPW.out] at hj; rw [← HNV.out]; exact HNO.out j hj))
      have SE := Lib.hid S.bel
      clear S
      go_wp2_with fail
      go_ret
      exact ⟨ret_bool HFI.out.symm, SE.out⟩
end Go.Proofs.Yteekoclfpehnpaa
