/-
  Walks: table.Check.
-/
import Derived.Test.YtlhnfdjidjgfgaaProg
import Derived.Test.YtlhnfdjidjgfgaaV5
import Derived.RegionTactic
import Derived.Lib.QuietBelow
import Derived.BigQuiet
namespace Go.Proofs.Ytlhnfdjidjgfgaa
open Go.RowKit Go.Shelf
set_option linter.unusedVariables false
set_option maxHeartbeats 400000

def Fct.cellAt (b off : Nat) (v : Value) : Fct :=
  ⟨fun c => c = b, fun w => w.cell? ⟨b, off, Option.none⟩ = some v, fun w w' h hc => by rw [World.cell?_of_block (w := w) (h b rfl (block_lt_of_cell hc))]; exact hc⟩
theorem St.cellAt {w0 w : World} {l : List Fct} (S : St w0 w l) (i : Nat) {b off : Nat} {v : Value} (h : Fct.at l i = Fct.cellAt b off v := by rfl) : w.cell? ⟨b, off, none⟩ = some v := by
  have := S.2 i
  rw [h] at this; exact this
def outS (s : Nat) (x : Int) : Bool := decide (x < 0) || decide ((s : Int) ≤ x)

theorem out81 (s : Nat) (x : Int) (b : Nat) (w : World) (hc : w.cell? ⟨b, 0, none⟩ = some (.int .i64 s)) : Calls Try.prog 116 #[.int .i64 x, .pointer (some ⟨b, 0, none⟩)] w fun e w' => e = .returned (.bool (outS s x)) ∧ Below w.heap.size w w' := by
  by_cases h : x < 0
  · have HB := Lib.hid (show outS s x = true by unfold outS; rw [decide_eq_true h]; rfl)
    go_enter Try.func116, Try.ntmps116
    go_wp2_with fail
    go_ret
    exact ⟨ret_bool HB.out.symm, Below.refl _ _⟩
  · have HB := Lib.hid (show outS s x = decide ((s : Int) ≤ x) by unfold outS; rw [decide_eq_false h]; rfl)
    go_enter Try.func116, Try.ntmps116
    go_wp2_with fail
    go_ret
    exact ⟨ret_bool HB.out.symm, Below.refl _ _⟩

def badTb (s : Nat) (x : Int × List Int) : Int := if (x.2.length : Int) ≠ (powN s 4096 x.1.toNat 1 : Nat) then 9 else if x.2.any (outS s) then 3 else 0
def tabF (ar : List Int) (cs : List (List Fc)) (sz : Int) (tb : List (List Int)) : Int × Int :=
  if (loreF ar cs).1 ≠ 0 then loreF ar cs else if sz < 1 ∨ 4 < sz then (3, -1) else if tb.length ≠ ar.length then (9, -1) else firstP (badTb sz.toNat) (ar.zip tb) 0
theorem tabF_zero {ar : List Int} {cs : List (List Fc)} {sz : Int} {tb : List (List Int)} (h : (tabF ar cs sz tb).1 = 0) : tabF ar cs sz tb = (0, 0) ∧ (loreF ar cs).1 = 0 ∧ ∃ s : Nat, sz = s ∧ TabOK ar s tb := by
  unfold tabF at h ⊢
  by_cases h1 : (loreF ar cs).1 ≠ 0
  · rw [if_pos h1] at h; exact absurd h h1
  · rw [if_neg h1] at h ⊢
    have h1 : (loreF ar cs).1 = 0 := by simpa using h1
    by_cases h2 : sz < 1 ∨ 4 < sz
    · rw [if_pos h2] at h; cases h
    · rw [if_neg h2] at h ⊢
      by_cases h3 : tb.length ≠ ar.length
      · rw [if_pos h3] at h; cases h
      · rw [if_neg h3] at h ⊢
        have h3 : tb.length = ar.length := by simpa using h3
        obtain ⟨h4, h5⟩ := firstP_zero h
        refine ⟨h4, h1, sz.toNat, by omega, by omega, by omega, h3, fun i a l ha hl => ?_⟩
        have hz : (a, l) ∈ ar.zip tb := List.mem_of_getElem? (i := i) (by rw [List.getElem?_zip_eq_some]; exact ⟨ha, hl⟩)
        have h6 := h5 _ hz
        have h7 := (loreF_zero h1).2.2.2.1 a (List.mem_of_getElem? ha)
        unfold badTb at h6
        by_cases h8 : (l.length : Int) ≠ (powN sz.toNat 4096 a.toNat 1 : Nat)
        · rw [if_pos h8] at h6; cases h6
        · rw [if_neg h8] at h6
          by_cases h9 : l.any (outS sz.toNat) = true
          · rw [if_pos h9] at h6; cases h6
          · have hp : (sz.toNat) ^ a.toNat ≤ 4096 := by
              have q1 : sz.toNat ^ a.toNat ≤ 4 ^ a.toNat := Nat.pow_le_pow_left (by omega) _
              have q2 : 4 ^ a.toNat ≤ 4 ^ 3 := Nat.pow_le_pow_right (by omega) (by omega)
              omega
            have he := powN_of (b := sz.toNat) (most := 4096) (by omega) a.toNat 1 (by omega)
            rw [Nat.one_mul] at he
            rw [he] at h8
            refine ⟨h7.1, h7.2, by omega, fun x hx => ?_⟩
            have h10 : ¬ outS sz.toNat x = true := fun e => h9 (List.any_eq_true.2 ⟨x, hx, e⟩)
            unfold outS at h10
            simp only [Bool.or_eq_true, decide_eq_true_eq, not_or] at h10
            omega

set_option maxRecDepth 100000 in
set_option maxHeartbeats 8000000 in
theorem tab26 (ar : List Int) (cs : List (List Fc)) (sz : Int) (tb : List (List Int)) (p q r : Nat → Prop) (ao co to_ : Option Addr) (ca cc ct : Nat) (w : World) (ha : intE.Row q w ao ar) (h : claimE.Row p w co cs) (ht : intsE.Row r w to_ tb) (hna : ar.length ≤ maxLen) (hn : cs.length ≤ maxLen) (hnt : tb.length ≤ maxLen) :
    Calls Try.prog 65 #[.agg #[.slice ao ar.length ca, .slice co cs.length cc], .agg #[.int .i64 sz, .slice to_ tb.length (tb.length + ct)]] w fun e w' => e = .returned (FV (tabF ar cs sz tb)) ∧ Below w.heap.size w w' := by
  have HC := Lib.hid h; have HA := Lib.hid ha; have HNA := Lib.hid hna; have HNC := Lib.hid hn; have HT := Lib.hid ht
  have hn2 : ar.length ≤ 9223372036854775807 := by unfold maxLen at hna; omega
  have hn3 : tb.length ≤ 9223372036854775807 := by unfold maxLen at hnt; omega
  obtain ⟨bx, hbx⟩ : ∃ b, b = w.heap.size := ⟨_, rfl⟩
  have S1 := (((St.start w).box hbx.symm #[.slice ao ar.length ca, .slice co cs.length cc] 25).box (b := bx + 1) (by simp [hbx]) #[.int .i64 sz, .slice to_ tb.length (tb.length + ct)] 55).box (b := bx + 2) (by simp [hbx]) #[.int .i64 0, .int .i64 0] 29
  have hsz1 : (((w.alloc (.cells #[.slice ao ar.length ca, .slice co cs.length cc] 25)).alloc (.cells #[.int .i64 sz, .slice to_ tb.length (tb.length + ct)] 55)).alloc (.cells #[.int .i64 0, .int .i64 0] 29)).heap.size = bx + 3 := by simp [hbx]
  clear h ha hn hna ht hnt
  obtain ⟨⟨x0, _⟩, x1, _⟩ := S1.two 0
  go_enter Try.func65, Try.ntmps65
  go_wp2_with fail
  rw [← hbx]
  refine S1.gen (z := bx + 3) (by omega) ?_
  intro w1 z1 S
  have HBX := Lib.hid hbx
  clear S1 hbx hsz1 x0 x1
  refine (S.faultF (lore79 ar cs p q ao co ca cc w1 (HA.out.kept S.bel) (HC.out.kept S.bel) HNA.out HNC.out)).mono ?_
  rintro e w2 ⟨C, D, rfl, HCD, z2, S2⟩
  clear S
  obtain ⟨b5, hb5⟩ : ∃ b, b = w2.heap.size := ⟨_, rfl⟩
  have S3 := S2.box hb5.symm #[.int .i64 C, .int .i64 D] 29
  have z3 : b5 + 1 ≤ (w2.alloc (.cells #[.int .i64 C, .int .i64 D] 29)).heap.size := by simp [hb5]
  have HB5 := Lib.hid (show bx + 3 ≤ b5 by omega)
  clear S2
  by_cases hC : C = 0
  · have hcb : (C != 0) = false := by simp [hC]
    have HF := Lib.hid (show tabF ar cs sz tb = if sz < 1 ∨ 4 < sz then (3, -1) else if tb.length ≠ ar.length then (9, -1) else firstP (badTb sz.toNat) (ar.zip tb) 0 by
      unfold tabF; rw [if_neg (by rw [HCD.out]; simpa using hC)])
    have HAL := Lib.hid (loreF_zero (show (loreF ar cs).1 = 0 by rw [HCD.out]; exact hC))
    clear hC
    by_cases h1 : sz < 1
    · have HF2 := Lib.hid (show tabF ar cs sz tb = (3, -1) by rw [HF.out, if_pos (Or.inl h1)])
      obtain ⟨⟨x0, _⟩, x1, _⟩ := S3.two 1
      obtain ⟨⟨y0, y1⟩, y2, y3⟩ := S3.two 2
      have hl := S3.lt 2
      have SB := Lib.hid S3
      clear S3
      go_wp2_with fail
      refine ret_box2 (.int .i64 3) (.int .i64 (-1)) (bx + 2) 29 (box2_set (SB.out.block 2) _ _) (fun w' q0 q1 => by simp [results, Try.results65, go_sem, q0, q1]) rfl ?_
      have hx := HBX.out
      exact ⟨by rw [HF2.out]; rfl, (SB.out.bel.setCell (p := ⟨bx + 2, 0, none⟩) (by show w.heap.size ≤ bx + 2; omega) _).setCell (p := ⟨bx + 2, 1, none⟩) (by show w.heap.size ≤ bx + 2; omega) _⟩
    · by_cases h4 : 4 < sz
      · have HF2 := Lib.hid (show tabF ar cs sz tb = (3, -1) by rw [HF.out, if_pos (Or.inr h4)])
        obtain ⟨⟨x0, _⟩, x1, _⟩ := S3.two 1
        obtain ⟨⟨y0, y1⟩, y2, y3⟩ := S3.two 2
        have hl := S3.lt 2
        have SB := Lib.hid S3
        clear S3
        go_wp2_with fail
        refine ret_box2 (.int .i64 3) (.int .i64 (-1)) (bx + 2) 29 (box2_set (SB.out.block 2) _ _) (fun w' q0 q1 => by simp [results, Try.results65, go_sem, q0, q1]) rfl ?_
        have hx := HBX.out
        exact ⟨by rw [HF2.out]; rfl, (SB.out.bel.setCell (p := ⟨bx + 2, 0, none⟩) (by show w.heap.size ≤ bx + 2; omega) _).setCell (p := ⟨bx + 2, 1, none⟩) (by show w.heap.size ≤ bx + 2; omega) _⟩
      · obtain ⟨s, hs⟩ : ∃ s : Nat, sz = s := ⟨sz.toNat, by omega⟩
        subst hs
        by_cases hl : tb.length = ar.length
        · have hlb : ((tb.length : Int) != (ar.length : Int)) = false := by simp [hl]
          have HF2 := Lib.hid (show tabF ar cs s tb = firstP (badTb s) (ar.zip tb) 0 by rw [HF.out, if_neg (by omega), if_neg (by simpa using hl)]; rfl)
          have HLL := Lib.hid hl
          clear hl
          obtain ⟨⟨x0, _⟩, x1, _⟩ := S3.two 1
          obtain ⟨⟨y0, _⟩, y1, _⟩ := S3.two 0
          go_wp2_with fail
          rw [← hb5]
          refine S3.genC (z := bx + 3) (by have := HB5.out; omega) ?_
          intro w4 z4 S
          clear S3 z3 hb5 x0 x1 y0 y1
          have S := S.pick [0, 1, 2]
          go_loopw [36] (fun i wr => ∃ k : Nat, k ≤ ar.length ∧ i = .int .i64 k ∧ (∀ (j : Nat) y, j < k → (ar.zip tb)[j]? = some y → badTb s y = 0) ∧ bx + 3 ≤ wr.heap.size ∧ St w wr [.box bx #[.slice ao ar.length ca, .slice co cs.length cc] 25, .box (bx + 1) #[.int .i64 s, .slice to_ tb.length (tb.length + ct)] 55, .box (bx + 2) #[.int .i64 0, .int .i64 0] 29]) (fun i _ => ar.length - (intOf i).toNat)
          case atStart => exact ⟨0, by omega, rfl, fun j y hj _ => by omega, z4, S⟩
          case round =>
            clear S
            obtain ⟨k, hk, rfl, hno, z5, S⟩ := hrel
            have HNO := Lib.hid hno
            clear hno
            by_cases hlt : k < ar.length
            · have hlti : (k : Int) < (ar.length : Int) := by omega
              have hltt : k < tb.length := by have := HLL.out; omega
              have hltti : (k : Int) < (tb.length : Int) := by omega
              obtain ⟨b, off, rfl, hqb, c0⟩ := (HA.out.kept S.bel).int hlt
              obtain ⟨b1, off1, k1, s1, rfl, hpb, c1, r1, hm1⟩ := (HT.out.kept S.bel).ints hltt
              have HX := Lib.hid (show (ar.zip tb)[k]? = some (ar[k], tb[k]) by rw [List.getElem?_zip_eq_some]; exact ⟨List.getElem?_eq_getElem hlt, List.getElem?_eq_getElem hltt⟩)
              have HA03 := HAL.out.2.2.2.1 ar[k] (List.getElem_mem hlt)
              obtain ⟨A, hA⟩ : ∃ A, A = ar[k] := ⟨_, rfl⟩
              obtain ⟨L, hL⟩ : ∃ L, L = tb[k] := ⟨_, rfl⟩
              rw [← hA, ← hL] at HX
              rw [← hA] at c0 HA03
              rw [← hL] at c1 r1 hm1
              obtain ⟨a, ha⟩ : ∃ a : Nat, A = (a : Int) := ⟨A.toNat, by omega⟩
              rw [ha] at HX c0 HA03
              have S := (S.add (.cellAt b1 (off1 + k) (.slice k1 L.length (L.length + s1))) c1).add (.rowE intE r k1 L) r1
              have HM1 := Lib.hid hm1
              clear hA hL ha r1 hm1
              obtain ⟨⟨x0, _⟩, x1, _⟩ := S.two 1
              obtain ⟨⟨v0, _⟩, v1, _⟩ := S.two 0
              have CA := Lib.hid (fun d os => Calls.regrown_of ((power80 s a 4096 (Go.Sort.grow (redrawn wr d) os) (by omega) (by omega) (by omega)).mono (fun e w' ⟨h1, h2⟩ => ⟨h1, by rw [h2]; exact Below.refl _ _⟩)))
              obtain ⟨PW, hPW⟩ : ∃ PW, PW = powN s 4096 a 1 := ⟨_, rfl⟩
              rw [← hPW] at CA
              have HBT := Lib.hid (show badTb s ((a : Int), L) = if (L.length : Int) ≠ (PW : Nat) then 9 else if L.any (outS s) then 3 else 0 by rw [hPW]; rfl)
              clear hPW
              have r0 := cell_regrown x0; have r1 := cell_regrown x1; have r2 := cell_regrown c1
              go_wp2_with fail
              clear x0 x1 v0 v1 c0 c1
              refine wp_region_quiet_below (by kernel_rfl) (by kernel_rfl) ?_
              repeat (go_big_quiet_step (exact CA.out _ _))
              refine wpQuiet_nil ?_
              intro _ hw'
              obtain ⟨⟨dq, osq⟩, hw''⟩ := hw'
              subst hw''
              refine (S.regrown dq osq).genX (z := bx + 3) (Nat.le_trans z5 (below_regrown wr dq osq).size) ?_
              intro w6 z6 S6
              clear S r0 r1 r2 CA
              by_cases hne : (L.length : Int) = (PW : Int)
              · have hnb : ((L.length : Int) != (PW : Int)) = false := by simp [hne]
                have HBT2 := Lib.hid (show badTb s ((a : Int), L) = if L.any (outS s) then 3 else 0 by rw [HBT.out, if_neg (by simpa using hne)])
                clear hne
                obtain ⟨⟨x0, _⟩, x1, _⟩ := S6.two 1
                have c1 := S6.cellAt 3
                have HX0 := Lib.hid x0
                go_wp2_with fail
                refine (S6.quiet (contI 116 #[.pointer (some ⟨bx + 1, 0, none⟩)] (enters_of Try.func116 (by kernel_rfl) rfl) r k1 L (L.length + s1) (outS s) w6 HM1.out (S6.rowE intE 4) (fun i x w7 _ hb => out81 s x (bx + 1) w7 (Below.cellOf hb HX0.out)))).mono ?_
                rintro e w7 ⟨rfl, z7, S7⟩
                have S8 := S7.pick [0, 1, 2]
                have hz8 : bx + 3 ≤ w7.heap.size := by omega
                clear S6 S7 x0 x1 c1 z7 HX0
                cases hany : L.any (outS s) with
                | true =>
                  have HF3 := Lib.hid (show tabF ar cs s tb = (3, (k : Int)) by rw [HF2.out, firstP_hit HNO.out HX.out (by rw [HBT2.out, hany]; simp), HBT2.out, hany]; simp)
                  clear hany
                  obtain ⟨⟨y0, y1⟩, y2, y3⟩ := S8.two 2
                  have hl := S8.lt 2
                  have SB := Lib.hid S8
                  clear S8
                  go_wp2_with fail
                  refine ret_box2 (.int .i64 3) (.int .i64 k) (bx + 2) 29 (box2_set (SB.out.block 2) _ _) (fun w' q0 q1 => by simp [results, Try.results65, go_sem, q0, q1]) rfl ?_
                  have hx := HBX.out
                  exact ⟨by rw [HF3.out]; rfl, (SB.out.bel.setCell (p := ⟨bx + 2, 0, none⟩) (by show w.heap.size ≤ bx + 2; omega) _).setCell (p := ⟨bx + 2, 1, none⟩) (by show w.heap.size ≤ bx + 2; omega) _⟩
                | false =>
                  have HN := Lib.hid (show ∀ (j : Nat) y, j < k + 1 → (ar.zip tb)[j]? = some y → badTb s y = 0 from fun j y hj hy => by
                    rcases Nat.lt_succ_iff_lt_or_eq.1 hj with h | rfl
                    · exact HNO.out j y h hy
                    · rw [HX.out] at hy; obtain rfl := Option.some.inj hy; rw [HBT2.out, hany]; rfl)
                  clear hany
                  go_wp2_with fail
                  go_roundw
                  case rel => exact ⟨k + 1, by omega, by go_num, HN.out, hz8, S8⟩
                  case measure => simp [intOf] <;> omega
              · have hnb : ((L.length : Int) != (PW : Int)) = true := by simp [hne]
                have HBT2 := Lib.hid (show badTb s ((a : Int), L) = 9 by rw [HBT.out, if_pos hne])
                have HF3 := Lib.hid (show tabF ar cs s tb = (9, (k : Int)) by rw [HF2.out, firstP_hit HNO.out HX.out (by rw [HBT2.out]; omega), HBT2.out]; simp)
                clear hne
                obtain ⟨⟨y0, y1⟩, y2, y3⟩ := S6.two 2
                have hl := S6.lt 2
                have SB := Lib.hid S6
                clear S6
                go_wp2_with fail
                refine ret_box2 (.int .i64 9) (.int .i64 k) (bx + 2) 29 (box2_set (SB.out.block 2) _ _) (fun w' q0 q1 => by simp [results, Try.results65, go_sem, q0, q1]) rfl ?_
                have hx := HBX.out
                exact ⟨by rw [HF3.out]; rfl, (SB.out.bel.setCell (p := ⟨bx + 2, 0, none⟩) (by show w.heap.size ≤ bx + 2; omega) _).setCell (p := ⟨bx + 2, 1, none⟩) (by show w.heap.size ≤ bx + 2; omega) _⟩
            · obtain rfl : k = ar.length := by omega
              have HF3 := Lib.hid (show tabF ar cs s tb = (0, 0) by rw [HF2.out, firstP_none (fun j y hj hy => HNO.out j y (by simp at hj; omega) hy)])
              obtain ⟨⟨y0, y1⟩, y2, y3⟩ := S.two 2
              have hl := S.lt 2
              have SB := Lib.hid S
              clear S
              go_wp2_with fail
              refine ret_box2 (.int .i64 0) (.int .i64 0) (bx + 2) 29 (box2_set (SB.out.block 2) _ _) (fun w' q0 q1 => by simp [results, Try.results65, go_sem, q0, q1]) rfl ?_
              have hx := HBX.out
              exact ⟨by rw [HF3.out]; rfl, (SB.out.bel.setCell (p := ⟨bx + 2, 0, none⟩) (by show w.heap.size ≤ bx + 2; omega) _).setCell (p := ⟨bx + 2, 1, none⟩) (by show w.heap.size ≤ bx + 2; omega) _⟩
        · have hlb : ((tb.length : Int) != (ar.length : Int)) = true := by simp; omega
          have HF2 := Lib.hid (show tabF ar cs s tb = (9, -1) by rw [HF.out, if_neg (by omega), if_pos (by simpa using hl)])
          clear hl
          obtain ⟨⟨x0, _⟩, x1, _⟩ := S3.two 1
          obtain ⟨⟨v0, _⟩, v1, _⟩ := S3.two 0
          obtain ⟨⟨y0, y1⟩, y2, y3⟩ := S3.two 2
          have hl := S3.lt 2
          have SB := Lib.hid S3
          clear S3
          go_wp2_with fail
          refine ret_box2 (.int .i64 9) (.int .i64 (-1)) (bx + 2) 29 (box2_set (SB.out.block 2) _ _) (fun w' q0 q1 => by simp [results, Try.results65, go_sem, q0, q1]) rfl ?_
          have hx := HBX.out
          exact ⟨by rw [HF2.out]; rfl, (SB.out.bel.setCell (p := ⟨bx + 2, 0, none⟩) (by show w.heap.size ≤ bx + 2; omega) _).setCell (p := ⟨bx + 2, 1, none⟩) (by show w.heap.size ≤ bx + 2; omega) _⟩
  · have hcb : (C != 0) = true := by simp [hC]
    have HF := Lib.hid (show tabF ar cs sz tb = (C, D) by unfold tabF; rw [if_pos (by rw [HCD.out]; exact hC), HCD.out])
    clear hC
    obtain ⟨⟨y0, y1⟩, y2, y3⟩ := S3.two 2
    have hl := S3.lt 2
    have SB := Lib.hid S3
    clear S3
    go_wp2_with fail
    refine ret_box2 (.int .i64 C) (.int .i64 D) (bx + 2) 29 (box2_set (SB.out.block 2) _ _) (fun w' q0 q1 => by simp [results, Try.results65, go_sem, q0, q1]) rfl ?_
    have hx := HBX.out
    exact ⟨by rw [HF.out]; rfl, (SB.out.bel.setCell (p := ⟨bx + 2, 0, none⟩) (by show w.heap.size ≤ bx + 2; omega) _).setCell (p := ⟨bx + 2, 1, none⟩) (by show w.heap.size ≤ bx + 2; omega) _⟩
end Go.Proofs.Ytlhnfdjidjgfgaa
