/-
  Walks: claim.write.
-/
import Derived.Test.YtidgnbdlfngeaaaGreatDoorBw
import Derived.Test.YtidgnbdlfngeaaaGreatDoorSf
import Derived.Test.YtidgnbdlfngeaaaGreatDoorQ2
import Derived.Test.YtidgnbdlfngeaaaGreatDoorRd1
namespace Go.Proofs.YtidgnbdlfngeaaaGreatDoor
open Go.RowKit Go.Shelf
set_option linter.unusedVariables false
set_option linter.unusedSimpArgs false
set_option maxHeartbeats 400000

def Bld (B b : Nat) (bs : Bs) (w : World) : Prop := Lib.IsBuilder 58 5 B b (Lib.byteCells bs) w
theorem Bld.ge {B b : Nat} {bs : Bs} {w : World} (h : Bld B b bs w) : B ≤ b ∧ b < w.heap.size := by
  rcases h with h | h
  · exact ⟨h.1, h.lt⟩
  · exact ⟨h.1, h.lt⟩
theorem Bld.below {B b : Nat} {bs : Bs} {w w' : World} (h : Bld B b bs w) (hb : Below w.heap.size w w') : Bld B b bs w' := by
  have key : ∀ p, Lib.BuilderAt 58 5 B b p (Lib.byteCells bs) w → Lib.BuilderAt 58 5 B b p (Lib.byteCells bs) w' := by
    intro p h
    have hlt := h.lt
    obtain ⟨h1, v, h2, h3, h4⟩ := h
    exact ⟨h1, v, (hb.block b hlt).trans h2, ownsRow_carry h3 (fun c hc hl => hb.block c hl), h4⟩
  exact h.elim (fun h => .inl (key _ h)) (fun h => .inr (key _ h))
theorem Bld.alloc {B b : Nat} {bs : Bs} {w : World} (h : Bld B b bs w) (o : Obj) : Bld B b bs (w.alloc o) := h.below ((Below.refl _ w).alloc (Nat.le_refl _) o)
theorem str16s (s bs : Bs) (B b : Nat) (w : World) (h : Bld B b bs w) (hB : B ≤ w.heap.size) (hl : bs.length + s.length ≤ 10000000000) :
    Calls Tryz.prog 23 #[.pointer (some ⟨b, 0, none⟩), sV s] w fun e w' => (∃ k, e = .returned (.tuple #[.int .i64 k, .nilIface])) ∧ Bld B b (bs ++ s) w' ∧ BW B b w w' := by
  have hz : (⟨s.toArray⟩ : ByteArray).size = s.length := by simp [ByteArray.size]
  refine (str16 B b _ ⟨s.toArray⟩ w h (by rw [Lib.byteCells_length, hz]; omega) hB).mono ?_
  rintro e w' ⟨rfl, h1, h2⟩
  refine ⟨⟨_, rfl⟩, ?_, h2⟩
  unfold Bld
  rw [Lib.byteCells_append]; exact h1
theorem byte18s (c : UInt8) (n : Int) (hn : n = (c.toNat : Int)) (bs : Bs) (B b : Nat) (w : World) (h : Bld B b bs w) (hB : B ≤ w.heap.size) (hl : bs.length ≤ 10000000000) :
    Calls Tryz.prog 25 #[.pointer (some ⟨b, 0, none⟩), .int .u8 n] w fun e w' => e = .returned .nilIface ∧ Bld B b (bs ++ [c]) w' ∧ BW B b w w' := by
  subst hn
  refine (byte18 B b _ (c.toNat : Int) w h (by rw [Lib.byteCells_length]; omega) hB).mono ?_
  rintro e w' ⟨rfl, h1, h2⟩
  refine ⟨rfl, ?_, h2⟩
  unfold Bld
  rw [Lib.byteCells_append]; exact h1
theorem itoa17 (i : Nat) (h : i ≤ 12) (w : World) : Calls Tryz.prog 24 #[.int .i64 (i : Int)] w fun e w' => e = .returned (sV (Lib.decDigits i)) ∧ w' = w := Tryz.strconv_Itoa_small i (by omega) w
theorem dig_short {n : Nat} (h : n ≤ 12) : (Lib.decDigits n).length ≤ 2 := by
  by_cases h1 : n < 10
  · rw [dig_lt h1]; simp
  · rw [dig_ge (by omega) (by omega)]; simp
theorem cat_sV (a b : Bs) : (⟨a.toArray⟩ : ByteArray) ++ (⟨b.toArray⟩ : ByteArray) = ⟨(a ++ b).toArray⟩ := by
  apply ByteArray.ext
  simp [ByteArray.data_append]
theorem BW.box {B b bx : Nat} {w w' : World} (h : BW B b w w') {cs : Array Value} {T : TypeId} (hb : w.heap[bx]? = some (.cells cs T (0, 0))) (hT : T ≠ 5) (hne : bx ≠ b) : w'.heap[bx]? = some (.cells cs T (0, 0)) := by
  rw [h.2 bx (Array.getElem?_eq_some_iff.1 hb).1 hne (fun cs' fr e => by
    rw [hb] at e
    injection e with e; injection e with _ e _
    exact hT e)]
  exact hb

/-- the kids written so far -/
def restPre : List T → Bs
  | [] => []
  | k :: r => 44 :: (k.txt ++ restPre r)
def kidsPre : List T → Bs
  | [] => []
  | k :: r => 40 :: (k.txt ++ restPre r)
theorem restPre_snoc (l : List T) (k : T) : restPre (l ++ [k]) = restPre l ++ 44 :: k.txt := by
  induction l with
  | nil => simp [restPre]
  | cons a l ih => rw [List.cons_append, restPre, ih, restPre]; simp
theorem kidsPre_snoc (l : List T) (k : T) (h : l ≠ []) : kidsPre (l ++ [k]) = kidsPre l ++ 44 :: k.txt := by
  cases l with
  | nil => exact absurd rfl h
  | cons a l => rw [List.cons_append, kidsPre, restPre_snoc, kidsPre]; simp
theorem restTxt_pre (l : List T) : restTxt l = restPre l ++ [41] := by
  induction l with
  | nil => rfl
  | cons a l ih => rw [restTxt, ih, restPre]; simp
theorem kidsTxt_pre (l : List T) (h : l ≠ []) : kidsTxt l = kidsPre l ++ [41] := by
  cases l with
  | nil => exact absurd rfl h
  | cons a l => rw [kidsTxt, restTxt_pre, kidsPre]; simp
theorem restPre_le (l m : List T) : (restPre l).length ≤ (restPre (l ++ m)).length := by
  induction l with
  | nil => simp [restPre]
  | cons a l ih => rw [List.cons_append, restPre, restPre]; simp only [List.length_cons, List.length_append]; omega
theorem kidsPre_le (l m : List T) : (kidsPre l).length ≤ (kidsPre (l ++ m)).length := by
  cases l with
  | nil => simp [kidsPre]
  | cons a l => rw [List.cons_append, kidsPre, kidsPre]; have := restPre_le l m; simp only [List.length_cons, List.length_append]; omega

theorem okTs_at {ks : List T} (h : okTs ks) {j : Nat} (hj : j < ks.length) : ∀ x ∈ (gK ks j).pre, okN x := by
  induction ks generalizing j with
  | nil => simp at hj
  | cons k ks ih =>
    obtain ⟨h1, h2⟩ := okTs_cons.1 h
    cases j with
    | zero => simpa [gK] using h1
    | succ j =>
      have := ih h2 (j := j) (by simpa using hj)
      simpa [gK] using this

set_option maxRecDepth 100000 in
set_option maxHeartbeats 8000000 in
theorem write19 (t : T) : ∀ (bs : Bs) (B b : Nat) (v : Value) (w : World), Bld B b bs w → B ≤ w.heap.size → TreeP (fun c => c < B) w v t → (∀ x ∈ t.pre, okN x) → bs.length + t.txt.length ≤ 1000000000 →
    Calls Tryz.prog 26 #[.pointer (some ⟨b, 0, none⟩), v] w fun e w' => e = .returned (.tuple #[]) ∧ Bld B b (bs ++ t.txt) w' ∧ BW B b w w' := by
  induction t using T.ind with
  | h t ih =>
  intro bs B b v w hbl hB ht hok hlen
  obtain ⟨h, ks⟩ := t
  obtain ⟨ao, sp, rfl, hr, hml⟩ := ht.open
  obtain ⟨hn, hks⟩ := okT_node.1 hok
  have hbh := hn.1; have hbk := hn.2
  unfold badHead at hbh; unfold badKids at hbk
  simp only [T.head, T.kids] at hbh hbk hr hml ih ⊢
  obtain ⟨m, hm⟩ : ∃ m, m = ks.length := ⟨_, rfl⟩
  obtain ⟨bx, hbx⟩ : ∃ b, b = w.heap.size := ⟨_, rfl⟩
  have hge := hbl.ge
  have hbb := heap_ofAlloc w (.cells #[.int .i64 h, .slice ao m (m + sp)] 45)
  rw [← hbx] at hbb
  have HW := Lib.hid ((BW.refl B b w).alloc hB (.cells #[.int .i64 h, .slice ao m (m + sp)] 45))
  have HBL := Lib.hid (hbl.alloc (.cells #[.int .i64 h, .slice ao m (m + sp)] 45))
  have HSZ := Lib.hid (show (w.alloc (.cells #[.int .i64 h, .slice ao m (m + sp)] 45)).heap.size = bx + 1 ∧ w.heap.size = bx from ⟨by simp [hbx], hbx.symm⟩)
  obtain ⟨w1, hw1⟩ : ∃ W, W = w.alloc (.cells #[.int .i64 h, .slice ao m (m + sp)] 45) := ⟨_, rfl⟩
  obtain ⟨⟨y0, y1⟩, y2, y3⟩ := box2 hbb
  have HBB := Lib.hid hbb
  rw [← hw1] at HBB HW y0 y1 y2 y3 HBL HSZ
  have hmb : m ≤ 1000000000000000000 := by rw [hm]; unfold maxLen at hml; omega
  have HR := Lib.hid hr
  have HM := Lib.hid hm
  have HIH := Lib.hid ih
  have HKS := Lib.hid hks
  have HLEN := Lib.hid hlen
  rw [← hm]
  clear hr ih hok ht hks hlen hbl hbb
  by_cases hneg : h < 0
  · have HKN := Lib.hid (show ks = [] by
      cases ks with
      | nil => rfl
      | cons a l => exact absurd (.inr ⟨hneg, by simp⟩) hbk)
    obtain ⟨i, hi⟩ : ∃ i : Nat, (i : Int) = -h := ⟨(-h).toNat, by omega⟩
    have HI := Lib.hid (fun W => itoa17 i (by omega) W)
    have HWR := Lib.hid (show wrap64 (-h) = (i : Int) by rw [IntWalk.wrap64_in _ (by omega), hi])
    have HTX := Lib.hid (show (T.node h ks).txt = 120 :: Lib.decDigits i by rw [T.txt, if_pos hneg, ← hi]; rfl)
    have HDS := Lib.hid (dig_short (n := i) (by omega))
    clear hi hbh hbk hn hm
    go_enter Tryz.func26, Tryz.ntmps26
    go_upto_region 1 with fail
    rw [← hw1, ← hbx]
    clear hw1 hbx
    have hcat : (⟨#[120]⟩ : ByteArray) ++ (⟨(Lib.decDigits i).toArray⟩ : ByteArray) = ⟨(120 :: Lib.decDigits i).toArray⟩ := cat_sV [120] _
    have hds : ¬ 9223372036854775807 < 1 + (Lib.decDigits i).length := by have := HDS.out; omega
    go_wp2_with fail
    rw [HWR.out]
    refine (HI.out _).mono ?_
    rintro e w2 ⟨rfl, hw2⟩
    have hw2 := hw2.symm
    subst hw2
    have HST := Lib.hid (str16s (120 :: Lib.decDigits i) bs B b w1 HBL.out (by have := HSZ.out; omega) (by have := HLEN.out; have := HDS.out; simp only [List.length_cons]; omega))
    go_wp2_with fail
    refine (HST.out).mono ?_
    rintro e w3 ⟨⟨kk, rfl⟩, hb3, hw3⟩
    clear HST
    go_wp2_with fail
    refine bodyPost_ret (results_none (fn := Tryz.f26) (by kernel_rfl) _ _ _) rfl ?_
    exact ⟨rfl, by rw [HTX.out]; exact hb3, HW.out.trans hw3⟩
  · obtain ⟨i, hi⟩ : ∃ i : Nat, (i : Int) = h := ⟨h.toNat, by omega⟩
    have HI := Lib.hid (fun W => by have := itoa17 i (by omega) W; rw [hi] at this; exact this)
    have HTX := Lib.hid (show (T.node h ks).txt = 115 :: (Lib.decDigits i ++ kidsTxt ks) by rw [T.txt, if_neg hneg, ← hi]; rfl)
    have HDS := Lib.hid (dig_short (n := i) (by omega))
    clear hi hbh hbk hn hm
    go_enter Tryz.func26, Tryz.ntmps26
    go_upto_region 1 with fail
    rw [← hw1, ← hbx]
    clear hw1 hbx
    have hcat : (⟨#[115]⟩ : ByteArray) ++ (⟨(Lib.decDigits i).toArray⟩ : ByteArray) = ⟨(115 :: Lib.decDigits i).toArray⟩ := cat_sV [115] _
    have hds : ¬ 9223372036854775807 < 1 + (Lib.decDigits i).length := by have := HDS.out; omega
    go_wp2_with fail
    refine (HI.out _).mono ?_
    rintro e w2 ⟨rfl, hw2⟩
    have hw2 := hw2.symm
    subst hw2
    have HST := Lib.hid (str16s (115 :: Lib.decDigits i) bs B b w1 HBL.out (by have := HSZ.out; omega) (by have := HLEN.out; have := HDS.out; simp only [List.length_cons]; omega))
    go_wp2_with fail
    refine (HST.out).mono ?_
    rintro e w3 ⟨⟨kk, rfl⟩, hb3, hw3⟩
    clear HST hcat hds
    have HX3 := Lib.hid (hw3.box HBB.out (by decide) (by have := HSZ.out; omega))
    obtain ⟨⟨x0, x1⟩, x2, x3⟩ := box2 HX3.out
    have HB3 := Lib.hid hb3
    have HW3 := Lib.hid (HW.out.trans hw3)
    clear hb3 hw3 y0 y1 y2 y3
    go_wp2_with fail
    go_loopw [25] (fun i' wr => ∃ k : Nat, k ≤ m ∧ i' = .int .i64 k ∧ Hid (Bld B b (bs ++ 115 :: Lib.decDigits i ++ kidsPre (ks.take k)) wr) ∧ Hid (BW B b w wr) ∧ Hid (wr.heap[bx]? = some (.cells #[.int .i64 h, .slice ao m (m + sp)] 45 (0, 0)))) (fun i' _ => m - (intOf i').toNat)
    case atStart => exact ⟨0, Nat.zero_le _, rfl, Lib.hid (by simpa [kidsPre] using HB3.out), HW3, HX3⟩
    case round =>
      obtain ⟨k, hk, rfl, HBr, HWr, HXr⟩ := hrel
      by_cases hlt : k < m
      · have hkl : k < ks.length := by have := HM.out; omega
        obtain ⟨bb, off, ko, ksp, rfl, hpb, c0', c1', c2⟩ := HR.out k hkl
        have c0 : wr.cell? ⟨bb, off + k * 2, none⟩ = some (.int .i64 (gK ks k).head) := by rw [World.cell?_of_block (w := w) (w' := wr) (HWr.out.1.block bb hpb)]; exact c0'
        have c1 : wr.cell? ⟨bb, off + k * 2 + 1, none⟩ = some (.slice ko (gK ks k).kids.length ((gK ks k).kids.length + ksp)) := by rw [World.cell?_of_block (w := w) (w' := wr) (HWr.out.1.block bb hpb)]; exact c1'
        have HTR := Lib.hid (c2.carry (w' := wr) (fun c (hc : c < B) _ => HWr.out.1.block c hc))
        obtain ⟨bk, hbk⟩ : ∃ b, b = wr.heap.size := ⟨_, rfl⟩
        have HK5 := Lib.hid (heap_ofAlloc wr (.cells #[.int .i64 (gK ks k).head, .slice ko (gK ks k).kids.length ((gK ks k).kids.length + ksp)] 45))
        rw [← hbk] at HK5
        have HX5 := Lib.hid (heap_alloc_old (o' := .cells #[.int .i64 (gK ks k).head, .slice ko (gK ks k).kids.length ((gK ks k).kids.length + ksp)] 45) HXr.out)
        have HB5 := Lib.hid (HBr.out.alloc (.cells #[.int .i64 (gK ks k).head, .slice ko (gK ks k).kids.length ((gK ks k).kids.length + ksp)] 45))
        have hszr := HWr.out.1.size
        have HW5 := Lib.hid ((BW.refl B b wr).alloc (by omega) (.cells #[.int .i64 (gK ks k).head, .slice ko (gK ks k).kids.length ((gK ks k).kids.length + ksp)] 45))
        have HS5 := Lib.hid (show (wr.alloc (.cells #[.int .i64 (gK ks k).head, .slice ko (gK ks k).kids.length ((gK ks k).kids.length + ksp)] 45)).heap.size = wr.heap.size + 1 ∧ w.heap.size ≤ wr.heap.size ∧ B ≤ wr.heap.size from ⟨by simp, hszr, by omega⟩)
        have HNE := Lib.hid (show bx ≠ b ∧ bk ≠ b from ⟨by have := HSZ.out; omega, by omega⟩)
        have HLB2 := Lib.hid (show (bs ++ 115 :: Lib.decDigits i ++ kidsPre (ks.take (k + 1))).length ≤ 1000000000 by
          have h1 := HLEN.out
          rw [HTX.out] at h1
          have h2 := kidsPre_le (ks.take (k + 1)) (ks.drop (k + 1))
          rw [List.take_append_drop, ] at h2
          have h3 := kidsTxt_pre ks (by intro e; rw [e] at hkl; simp at hkl)
          rw [h3] at h1
          simp only [List.length_append, List.length_cons, List.length_nil] at h1 h2 ⊢
          omega)
        have hsn : ks.take (k + 1) = ks.take k ++ [gK ks k] := take_gK hkl
        have HOK := Lib.hid (fun j (hj : j < ks.length) => okTs_at HKS.out hj)
        clear hszr
        by_cases hk0 : k = 0
        · have HSEP := Lib.hid (show kidsPre (ks.take (k + 1)) = kidsPre (ks.take k) ++ 40 :: (gK ks k).txt by
            rw [hsn, hk0]; simp [kidsPre, restPre])
          have HLB := Lib.hid (show (bs ++ 115 :: Lib.decDigits i ++ kidsPre (ks.take k)).length ≤ 1000000000 by
            have := HLB2.out; rw [HSEP.out] at this; simp only [List.length_append, List.length_cons] at this ⊢; omega)
          rw [HSEP.out] at HLB2
          have hkq : ((k : Int) == 0) = true := by simp [hk0]
          clear hsn c0' c1' c2 hk0
          have HBY := Lib.hid (byte18s 40 40 (by rfl) _ B b _ HB5.out (by have := HS5.out; omega) (by have := HLB.out; omega))
          go_wp2_with fail
          rw [← hbk]
          clear hbk
          refine (HBY.out).mono ?_
          rintro e w6 ⟨rfl, hb6, hw6⟩
          have HW6 := Lib.hid hw6
          have HX6 := Lib.hid (hw6.box HX5.out (by decide) HNE.out.1)
          have HK6 := Lib.hid (hw6.box HK5.out (by decide) HNE.out.2)
          obtain ⟨⟨k0, _⟩, k2, _⟩ := box2 HK6.out
          have hsz6 : wr.heap.size ≤ w6.heap.size := by have := hw6.1.size; have := HS5.out; omega
          have HREC := Lib.hid (HIH.out k hkl (bs ++ 115 :: Lib.decDigits i ++ kidsPre (ks.take k) ++ [40]) B b _ w6 hb6 (by have := HS5.out; omega) (HTR.out.carry (fun c (hc : c < B) _ => (hw6.1.block c hc).trans (HW5.out.1.block c hc))) (HOK.out k hkl) (by have := HLB2.out; simp only [List.length_append, List.length_cons, List.length_nil] at this ⊢; omega))
          clear hb6 hw6 HBY
          go_wp2_with fail
          refine (HREC.out).mono ?_
          rintro e w7 ⟨rfl, hb7, hw7⟩
          have HX7 := Lib.hid (hw7.box HX6.out (by decide) HNE.out.1)
          have HB7 := Lib.hid (show Bld B b (bs ++ 115 :: Lib.decDigits i ++ kidsPre (ks.take (k + 1))) w7 by
            rw [HSEP.out]
            simpa using hb7)
          have HW7 := Lib.hid (((HWr.out.trans HW5.out).trans HW6.out).trans hw7)
          clear HREC hb7 hw7 k0 k2
          go_wp2_with fail
          go_roundw
          case rel => exact ⟨k + 1, by omega, by go_num, HB7, HW7, HX7⟩
          case measure => simp [intOf]; omega
        · have HSEP := Lib.hid (show kidsPre (ks.take (k + 1)) = kidsPre (ks.take k) ++ 44 :: (gK ks k).txt by
            rw [hsn]; exact kidsPre_snoc _ _ (by intro e; have := congrArg List.length e; rw [List.length_take, List.length_nil] at this; omega))
          have HLB := Lib.hid (show (bs ++ 115 :: Lib.decDigits i ++ kidsPre (ks.take k)).length ≤ 1000000000 by
            have := HLB2.out; rw [HSEP.out] at this; simp only [List.length_append, List.length_cons] at this ⊢; omega)
          rw [HSEP.out] at HLB2
          have hkq : ((k : Int) == 0) = false := by rw [beq_eq_false_iff_ne]; omega
          clear hsn c0' c1' c2 hk0
          have HBY := Lib.hid (byte18s 44 44 (by rfl) _ B b _ HB5.out (by have := HS5.out; omega) (by have := HLB.out; omega))
          go_wp2_with fail
          rw [← hbk]
          clear hbk
          refine (HBY.out).mono ?_
          rintro e w6 ⟨rfl, hb6, hw6⟩
          have HW6 := Lib.hid hw6
          have HX6 := Lib.hid (hw6.box HX5.out (by decide) HNE.out.1)
          have HK6 := Lib.hid (hw6.box HK5.out (by decide) HNE.out.2)
          obtain ⟨⟨k0, _⟩, k2, _⟩ := box2 HK6.out
          have hsz6 : wr.heap.size ≤ w6.heap.size := by have := hw6.1.size; have := HS5.out; omega
          have HREC := Lib.hid (HIH.out k hkl (bs ++ 115 :: Lib.decDigits i ++ kidsPre (ks.take k) ++ [44]) B b _ w6 hb6 (by have := HS5.out; omega) (HTR.out.carry (fun c (hc : c < B) _ => (hw6.1.block c hc).trans (HW5.out.1.block c hc))) (HOK.out k hkl) (by have := HLB2.out; simp only [List.length_append, List.length_cons, List.length_nil] at this ⊢; omega))
          clear hb6 hw6 HBY
          go_wp2_with fail
          refine (HREC.out).mono ?_
          rintro e w7 ⟨rfl, hb7, hw7⟩
          have HX7 := Lib.hid (hw7.box HX6.out (by decide) HNE.out.1)
          have HB7 := Lib.hid (show Bld B b (bs ++ 115 :: Lib.decDigits i ++ kidsPre (ks.take (k + 1))) w7 by
            rw [HSEP.out]
            simpa using hb7)
          have HW7 := Lib.hid (((HWr.out.trans HW5.out).trans HW6.out).trans hw7)
          clear HREC hb7 hw7 k0 k2
          go_wp2_with fail
          go_roundw
          case rel => exact ⟨k + 1, by omega, by go_num, HB7, HW7, HX7⟩
          case measure => simp [intOf]; omega
      · obtain rfl : k = m := by omega
        obtain ⟨⟨x0, x1⟩, x2, x3⟩ := box2 HXr.out
        have HKP := Lib.hid (show ks.take k = ks by rw [HM.out, List.take_length])
        by_cases hk0 : k = 0
        · have HTX2 := Lib.hid (show bs ++ (T.node h ks).txt = bs ++ 115 :: Lib.decDigits i ++ kidsPre (ks.take k) by
            have hkn : ks = [] := List.eq_nil_of_length_eq_zero (by rw [← HM.out]; exact hk0)
            rw [HKP.out, HTX.out, hkn]; simp [kidsTxt, kidsPre])
          have hkz : ¬ 0 < k := by omega
          clear hk0
          go_wp2_with fail
          go_end0
          exact ⟨rfl, by rw [HTX2.out]; exact HBr.out, HWr.out⟩
        · have HTX2 := Lib.hid (show bs ++ (T.node h ks).txt = bs ++ 115 :: Lib.decDigits i ++ kidsPre (ks.take k) ++ [41] by
            have hkn : ks ≠ [] := by intro e; rw [e] at HM; exact hk0 HM.out
            rw [HKP.out, HTX.out, kidsTxt_pre ks hkn]; simp)
          have hkz : 0 < k := by omega
          have HBY := Lib.hid (byte18s 41 41 (by rfl) _ B b _ HBr.out (by have := HWr.out.1.size; omega) (by
            have h1 := HLEN.out
            have h2 := congrArg List.length HTX2.out
            simp only [List.length_append] at h1 h2 ⊢
            omega))
          clear hk0
          go_wp2_with fail
          refine (HBY.out).mono ?_
          rintro e w6 ⟨rfl, hb6, hw6⟩
          go_wp2_with fail
          go_end0
          exact ⟨rfl, by rw [HTX2.out]; exact hb6, HWr.out.trans hw6⟩
end Go.Proofs.YtidgnbdlfngeaaaGreatDoor
