/-
  Walks: table.Check.
  Walks: claim.Max, table.Wide.
  Walks: table.Wide.
  Is a claim true under every row of things: plain; the closure.
  Walks: table.True.
  Walks: table.Holds.
-/
import Derived.Test.YtlhnfdjidjgfgaaProg
import Derived.Test.YtlhnfdjidjgfgaaV5
import Derived.RegionTactic
import Derived.Lib.QuietBelow
import Derived.BigQuiet
import Derived.Test.YtlhnfdjidjgfgaaT29
import Derived.Test.YtlhnfdjidjgfgaaV3
import Derived.Test.YtlhnfdjidjgfgaaMp
namespace Go.Proofs.Ytlhnfdjidjgfgaa
open Go.RowKit Go.Shelf
set_option linter.unusedVariables false
set_option maxHeartbeats 400000

def Fct.cellAt (b off : Nat) (v : Value) : Fct :=
  ⟨fun c => c = b, fun w => w.cell? ⟨b, off, Option.none⟩ = some v, fun w w' h hc => by rw [World.cell?_of_block (w := w) (h b rfl (block_lt_of_cell hc))]; exact hc⟩
theorem St.cellAt {w0 w : World} {l : List Fct} (S : St w0 w l) (i : Nat) {b off : Nat} {v : Value} (h : Fct.at l i = Fct.cellAt b off v := by rfl) : w.cell? ⟨b, off, none⟩ = some v := by
  have := S.2 i
  rw [h] at this; exact this
def outS (s : Nat) (x : Int) : Bool := decide (x < 0) || decide ((s : Int) ≤ x)

theorem out81 (s : Nat) (x : Int) (b : Nat) (w : World) (hc : w.cell? ⟨b, 0, none⟩ = some (.int .i64 s)) : Calls Try.prog 116 #[.int .i64 x, .pointer (some ⟨b, 0, none⟩)] w fun e w' => e = .returned (.bool (outS s x)) ∧ Below w.heap.size w w' := by
  by_cases h : x < 0
  · have HB := Lib.hid (show outS s x = true by unfold outS; rw [decide_eq_true h]; rfl)
    go_enter Try.func116, Try.ntmps116
    go_wp2_with fail
    go_ret
    exact ⟨ret_bool HB.out.symm, Below.refl _ _⟩
  · have HB := Lib.hid (show outS s x = decide ((s : Int) ≤ x) by unfold outS; rw [decide_eq_false h]; rfl)
    go_enter Try.func116, Try.ntmps116
    go_wp2_with fail
    go_ret
    exact ⟨ret_bool HB.out.symm, Below.refl _ _⟩

def badTb (s : Nat) (x : Int × List Int) : Int := if (x.2.length : Int) ≠ (powN s 4096 x.1.toNat 1 : Nat) then 9 else if x.2.any (outS s) then 3 else 0
def tabF (ar : List Int) (cs : List (List Fc)) (sz : Int) (tb : List (List Int)) : Int × Int :=
  if (loreF ar cs).1 ≠ 0 then loreF ar cs else if sz < 1 ∨ 4 < sz then (3, -1) else if tb.length ≠ ar.length then (9, -1) else firstP (badTb sz.toNat) (ar.zip tb) 0
theorem tabF_zero {ar : List Int} {cs : List (List Fc)} {sz : Int} {tb : List (List Int)} (h : (tabF ar cs sz tb).1 = 0) : tabF ar cs sz tb = (0, 0) ∧ (loreF ar cs).1 = 0 ∧ ∃ s : Nat, sz = s ∧ TabOK ar s tb := by
  unfold tabF at h ⊢
  by_cases h1 : (loreF ar cs).1 ≠ 0
  · rw [if_pos h1] at h; exact absurd h h1
  · rw [if_neg h1] at h ⊢
    have h1 : (loreF ar cs).1 = 0 := by simpa using h1
    by_cases h2 : sz < 1 ∨ 4 < sz
    · rw [if_pos h2] at h; cases h
    · rw [if_neg h2] at h ⊢
      by_cases h3 : tb.length ≠ ar.length
      · rw [if_pos h3] at h; cases h
      · rw [if_neg h3] at h ⊢
        have h3 : tb.length = ar.length := by simpa using h3
        obtain ⟨h4, h5⟩ := firstP_zero h
        refine ⟨h4, h1, sz.toNat, by omega, by omega, by omega, h3, fun i a l ha hl => ?_⟩
        have hz : (a, l) ∈ ar.zip tb := List.mem_of_getElem? (i := i) (by rw [List.getElem?_zip_eq_some]; exact ⟨ha, hl⟩)
        have h6 := h5 _ hz
        have h7 := (loreF_zero h1).2.2.2.1 a (List.mem_of_getElem? ha)
        unfold badTb at h6
        by_cases h8 : (l.length : Int) ≠ (powN sz.toNat 4096 a.toNat 1 : Nat)
        · rw [if_pos h8] at h6; cases h6
        · rw [if_neg h8] at h6
          by_cases h9 : l.any (outS sz.toNat) = true
          · rw [if_pos h9] at h6; cases h6
          · have hp : (sz.toNat) ^ a.toNat ≤ 4096 := by
              have q1 : sz.toNat ^ a.toNat ≤ 4 ^ a.toNat := Nat.pow_le_pow_left (by omega) _
              have q2 : 4 ^ a.toNat ≤ 4 ^ 3 := Nat.pow_le_pow_right (by omega) (by omega)
              omega
            have he := powN_of (b := sz.toNat) (most := 4096) (by omega) a.toNat 1 (by omega)
            rw [Nat.one_mul] at he
            rw [he] at h8
            refine ⟨h7.1, h7.2, by omega, fun x hx => ?_⟩
            have h10 : ¬ outS sz.toNat x = true := fun e => h9 (List.any_eq_true.2 ⟨x, hx, e⟩)
            unfold outS at h10
            simp only [Bool.or_eq_true, decide_eq_true_eq, not_or] at h10
            omega

set_option maxRecDepth 100000 in
set_option maxHeartbeats 8000000 in
theorem tab26 (ar : List Int) (cs : List (List Fc)) (sz : Int) (tb : List (List Int)) (p q r : Nat → Prop) (ao co to_ : Option Addr) (ca cc ct : Nat) (w : World) (ha : intE.Row q w ao ar) (h : claimE.Row p w co cs) (ht : intsE.Row r w to_ tb) (hna : ar.length ≤ maxLen) (hn : cs.length ≤ maxLen) (hnt : tb.length ≤ maxLen) :
    Calls Try.prog 65 #[.agg #[.slice ao ar.length ca, .slice co cs.length cc], .agg #[.int .i64 sz, .slice to_ tb.length (tb.length + ct)]] w fun e w' => e = .returned (FV (tabF ar cs sz tb)) ∧ Below w.heap.size w w' := by
  have HC := Lib.hid h; have HA := Lib.hid ha; have HNA := Lib.hid hna; have HNC := Lib.hid hn; have HT := Lib.hid ht
  have hn2 : ar.length ≤ 9223372036854775807 := by unfold maxLen at hna; omega
  have hn3 : tb.length ≤ 9223372036854775807 := by unfold maxLen at hnt; omega
  obtain ⟨bx, hbx⟩ : ∃ b, b = w.heap.size := ⟨_, rfl⟩
  have S1 := (((St.start w).box hbx.symm #[.slice ao ar.length ca, .slice co cs.length cc] 25).box (b := bx + 1) (by simp [hbx]) #[.int .i64 sz, .slice to_ tb.length (tb.length + ct)] 55).box (b := bx + 2) (by simp [hbx]) #[.int .i64 0, .int .i64 0] 29
  have hsz1 : (((w.alloc (.cells #[.slice ao ar.length ca, .slice co cs.length cc] 25)).alloc (.cells #[.int .i64 sz, .slice to_ tb.length (tb.length + ct)] 55)).alloc (.cells #[.int .i64 0, .int .i64 0] 29)).heap.size = bx + 3 := by simp [hbx]
  clear h ha hn hna ht hnt
  obtain ⟨⟨x0, _⟩, x1, _⟩ := S1.two 0
  go_enter Try.func65, Try.ntmps65
  go_wp2_with fail
  rw [← hbx]
  refine S1.gen (z := bx + 3) (by omega) ?_
  intro w1 z1 S
  have HBX := Lib.hid hbx
  clear S1 hbx hsz1 x0 x1
  refine (S.faultF (lore79 ar cs p q ao co ca cc w1 (HA.out.kept S.bel) (HC.out.kept S.bel) HNA.out HNC.out)).mono ?_
  rintro e w2 ⟨C, D, rfl, HCD, z2, S2⟩
  clear S
  obtain ⟨b5, hb5⟩ : ∃ b, b = w2.heap.size := ⟨_, rfl⟩
  have S3 := S2.box hb5.symm #[.int .i64 C, .int .i64 D] 29
  have z3 : b5 + 1 ≤ (w2.alloc (.cells #[.int .i64 C, .int .i64 D] 29)).heap.size := by simp [hb5]
  have HB5 := Lib.hid (show bx + 3 ≤ b5 by omega)
  clear S2
  by_cases hC : C = 0
  · have hcb : (C != 0) = false := by simp [hC]
    have HF := Lib.hid (show tabF ar cs sz tb = if sz < 1 ∨ 4 < sz then (3, -1) else if tb.length ≠ ar.length then (9, -1) else firstP (badTb sz.toNat) (ar.zip tb) 0 by
      unfold tabF; rw [if_neg (by rw [HCD.out]; simpa using hC)])
    have HAL := Lib.hid (loreF_zero (show (loreF ar cs).1 = 0 by rw [HCD.out]; exact hC))
    clear hC
    by_cases h1 : sz < 1
    · have HF2 := Lib.hid (show tabF ar cs sz tb = (3, -1) by rw [HF.out, if_pos (Or.inl h1)])
      obtain ⟨⟨x0, _⟩, x1, _⟩ := S3.two 1
      obtain ⟨⟨y0, y1⟩, y2, y3⟩ := S3.two 2
      have hl := S3.lt 2
      have SB := Lib.hid S3
      clear S3
      go_wp2_with fail
      refine ret_box2 (.int .i64 3) (.int .i64 (-1)) (bx + 2) 29 (box2_set (SB.out.block 2) _ _) (fun w' q0 q1 => by simp [results, Try.results65, go_sem, q0, q1]) rfl ?_
      have hx := HBX.out
      exact ⟨by rw [HF2.out]; rfl, (SB.out.bel.setCell (p := ⟨bx + 2, 0, none⟩) (by show w.heap.size ≤ bx + 2; omega) _).setCell (p := ⟨bx + 2, 1, none⟩) (by show w.heap.size ≤ bx + 2; omega) _⟩
    · by_cases h4 : 4 < sz
      · have HF2 := Lib.hid (show tabF ar cs sz tb = (3, -1) by rw [HF.out, if_pos (Or.inr h4)])
        obtain ⟨⟨x0, _⟩, x1, _⟩ := S3.two 1
        obtain ⟨⟨y0, y1⟩, y2, y3⟩ := S3.two 2
        have hl := S3.lt 2
        have SB := Lib.hid S3
        clear S3
        go_wp2_with fail
        refine ret_box2 (.int .i64 3) (.int .i64 (-1)) (bx + 2) 29 (box2_set (SB.out.block 2) _ _) (fun w' q0 q1 => by simp [results, Try.results65, go_sem, q0, q1]) rfl ?_
        have hx := HBX.out
        exact ⟨by rw [HF2.out]; rfl, (SB.out.bel.setCell (p := ⟨bx + 2, 0, none⟩) (by show w.heap.size ≤ bx + 2; omega) _).setCell (p := ⟨bx + 2, 1, none⟩) (by show w.heap.size ≤ bx + 2; omega) _⟩
      · obtain ⟨s, hs⟩ : ∃ s : Nat, sz = s := ⟨sz.toNat, by omega⟩
        subst hs
        by_cases hl : tb.length = ar.length
        · have hlb : ((tb.length : Int) != (ar.length : Int)) = false := by simp [hl]
          have HF2 := Lib.hid (show tabF ar cs s tb = firstP (badTb s) (ar.zip tb) 0 by rw [HF.out, if_neg (by omega), if_neg (by simpa using hl)]; rfl)
          have HLL := Lib.hid hl
          clear hl
          obtain ⟨⟨x0, _⟩, x1, _⟩ := S3.two 1
          obtain ⟨⟨y0, _⟩, y1, _⟩ := S3.two 0
          go_wp2_with fail
          rw [← hb5]
          refine S3.genC (z := bx + 3) (by have := HB5.out; omega) ?_
          intro w4 z4 S
          clear S3 z3 hb5 x0 x1 y0 y1
          have S := S.pick [0, 1, 2]
          go_loopw [36] (fun i wr => ∃ k : Nat, k ≤ ar.length ∧ i = .int .i64 k ∧ (∀ (j : Nat) y, j < k → (ar.zip tb)[j]? = some y → badTb s y = 0) ∧ bx + 3 ≤ wr.heap.size ∧ St w wr [.box bx #[.slice ao ar.length ca, .slice co cs.length cc] 25, .box (bx + 1) #[.int .i64 s, .slice to_ tb.length (tb.length + ct)] 55, .box (bx + 2) #[.int .i64 0, .int .i64 0] 29]) (fun i _ => ar.length - (intOf i).toNat)
          case atStart => exact ⟨0, by omega, rfl, fun j y hj _ => by omega, z4, S⟩
          case round =>
            clear S
            obtain ⟨k, hk, rfl, hno, z5, S⟩ := hrel
            have HNO := Lib.hid hno
            clear hno
            by_cases hlt : k < ar.length
            · have hlti : (k : Int) < (ar.length : Int) := by omega
              have hltt : k < tb.length := by have := HLL.out; omega
              have hltti : (k : Int) < (tb.length : Int) := by omega
              obtain ⟨b, off, rfl, hqb, c0⟩ := (HA.out.kept S.bel).int hlt
              obtain ⟨b1, off1, k1, s1, rfl, hpb, c1, r1, hm1⟩ := (HT.out.kept S.bel).ints hltt
              have HX := Lib.hid (show (ar.zip tb)[k]? = some (ar[k], tb[k]) by rw [List.getElem?_zip_eq_some]; exact ⟨List.getElem?_eq_getElem hlt, List.getElem?_eq_getElem hltt⟩)
              have HA03 := HAL.out.2.2.2.1 ar[k] (List.getElem_mem hlt)
              obtain ⟨A, hA⟩ : ∃ A, A = ar[k] := ⟨_, rfl⟩
              obtain ⟨L, hL⟩ : ∃ L, L = tb[k] := ⟨_, rfl⟩
              rw [← hA, ← hL] at HX
              rw [← hA] at c0 HA03
              rw [← hL] at c1 r1 hm1
              obtain ⟨a, ha⟩ : ∃ a : Nat, A = (a : Int) := ⟨A.toNat, by omega⟩
              rw [ha] at HX c0 HA03
              have S := (S.add (.cellAt b1 (off1 + k) (.slice k1 L.length (L.length + s1))) c1).add (.rowE intE r k1 L) r1
              have HM1 := Lib.hid hm1
              clear hA hL ha r1 hm1
              obtain ⟨⟨x0, _⟩, x1, _⟩ := S.two 1
              obtain ⟨⟨v0, _⟩, v1, _⟩ := S.two 0
              have CA := Lib.hid (fun d os => Calls.regrown_of ((power80 s a 4096 (Go.Sort.grow (redrawn wr d) os) (by omega) (by omega) (by omega)).mono (fun e w' ⟨h1, h2⟩ => ⟨h1, by rw [h2]; exact Below.refl _ _⟩)))
              obtain ⟨PW, hPW⟩ : ∃ PW, PW = powN s 4096 a 1 := ⟨_, rfl⟩
              rw [← hPW] at CA
              have HBT := Lib.hid (show badTb s ((a : Int), L) = if (L.length : Int) ≠ (PW : Nat) then 9 else if L.any (outS s) then 3 else 0 by rw [hPW]; rfl)
              clear hPW
              have r0 := cell_regrown x0; have r1 := cell_regrown x1; have r2 := cell_regrown c1
              go_wp2_with fail
              clear x0 x1 v0 v1 c0 c1
              refine wp_region_quiet_below (by kernel_rfl) (by kernel_rfl) ?_
              repeat (go_big_quiet_step (exact CA.out _ _))
              refine wpQuiet_nil ?_
              intro _ hw'
              obtain ⟨⟨dq, osq⟩, hw''⟩ := hw'
              subst hw''
              refine (S.regrown dq osq).genX (z := bx + 3) (Nat.le_trans z5 (below_regrown wr dq osq).size) ?_
              intro w6 z6 S6
              clear S r0 r1 r2 CA
              by_cases hne : (L.length : Int) = (PW : Int)
              · have hnb : ((L.length : Int) != (PW : Int)) = false := by simp [hne]
                have HBT2 := Lib.hid (show badTb s ((a : Int), L) = if L.any (outS s) then 3 else 0 by rw [HBT.out, if_neg (by simpa using hne)])
                clear hne
                obtain ⟨⟨x0, _⟩, x1, _⟩ := S6.two 1
                have c1 := S6.cellAt 3
                have HX0 := Lib.hid x0
                go_wp2_with fail
                refine (S6.quiet (contI 116 #[.pointer (some ⟨bx + 1, 0, none⟩)] (enters_of Try.func116 (by kernel_rfl) rfl) r k1 L (L.length + s1) (outS s) w6 HM1.out (S6.rowE intE 4) (fun i x w7 _ hb => out81 s x (bx + 1) w7 (Below.cellOf hb HX0.out)))).mono ?_
                rintro e w7 ⟨rfl, z7, S7⟩
                have S8 := S7.pick [0, 1, 2]
                have hz8 : bx + 3 ≤ w7.heap.size := by omega
                clear S6 S7 x0 x1 c1 z7 HX0
                cases hany : L.any (outS s) with
                | true =>
                  have HF3 := Lib.hid (show tabF ar cs s tb = (3, (k : Int)) by rw [HF2.out, firstP_hit HNO.out HX.out (by rw [HBT2.out, hany]; simp), HBT2.out, hany]; simp)
                  clear hany
                  obtain ⟨⟨y0, y1⟩, y2, y3⟩ := S8.two 2
                  have hl := S8.lt 2
                  have SB := Lib.hid S8
                  clear S8
                  go_wp2_with fail
                  refine ret_box2 (.int .i64 3) (.int .i64 k) (bx + 2) 29 (box2_set (SB.out.block 2) _ _) (fun w' q0 q1 => by simp [results, Try.results65, go_sem, q0, q1]) rfl ?_
                  have hx := HBX.out
                  exact ⟨by rw [HF3.out]; rfl, (SB.out.bel.setCell (p := ⟨bx + 2, 0, none⟩) (by show w.heap.size ≤ bx + 2; omega) _).setCell (p := ⟨bx + 2, 1, none⟩) (by show w.heap.size ≤ bx + 2; omega) _⟩
                | false =>
                  have HN := Lib.hid (show ∀ (j : Nat) y, j < k + 1 → (ar.zip tb)[j]? = some y → badTb s y = 0 from fun j y hj hy => by
                    rcases Nat.lt_succ_iff_lt_or_eq.1 hj with h | rfl
                    · exact HNO.out j y h hy
                    · rw [HX.out] at hy; obtain rfl := Option.some.inj hy; rw [HBT2.out, hany]; rfl)
                  clear hany
                  go_wp2_with fail
                  go_roundw
                  case rel => exact ⟨k + 1, by omega, by go_num, HN.out, hz8, S8⟩
                  case measure => simp [intOf] <;> omega
              · have hnb : ((L.length : Int) != (PW : Int)) = true := by simp [hne]
                have HBT2 := Lib.hid (show badTb s ((a : Int), L) = 9 by rw [HBT.out, if_pos hne])
                have HF3 := Lib.hid (show tabF ar cs s tb = (9, (k : Int)) by rw [HF2.out, firstP_hit HNO.out HX.out (by rw [HBT2.out]; omega), HBT2.out]; simp)
                clear hne
                obtain ⟨⟨y0, y1⟩, y2, y3⟩ := S6.two 2
                have hl := S6.lt 2
                have SB := Lib.hid S6
                clear S6
                go_wp2_with fail
                refine ret_box2 (.int .i64 9) (.int .i64 k) (bx + 2) 29 (box2_set (SB.out.block 2) _ _) (fun w' q0 q1 => by simp [results, Try.results65, go_sem, q0, q1]) rfl ?_
                have hx := HBX.out
                exact ⟨by rw [HF3.out]; rfl, (SB.out.bel.setCell (p := ⟨bx + 2, 0, none⟩) (by show w.heap.size ≤ bx + 2; omega) _).setCell (p := ⟨bx + 2, 1, none⟩) (by show w.heap.size ≤ bx + 2; omega) _⟩
            · obtain rfl : k = ar.length := by omega
              have HF3 := Lib.hid (show tabF ar cs s tb = (0, 0) by rw [HF2.out, firstP_none (fun j y hj hy => HNO.out j y (by simp at hj; omega) hy)])
              obtain ⟨⟨y0, y1⟩, y2, y3⟩ := S.two 2
              have hl := S.lt 2
              have SB := Lib.hid S
              clear S
              go_wp2_with fail
              refine ret_box2 (.int .i64 0) (.int .i64 0) (bx + 2) 29 (box2_set (SB.out.block 2) _ _) (fun w' q0 q1 => by simp [results, Try.results65, go_sem, q0, q1]) rfl ?_
              have hx := HBX.out
              exact ⟨by rw [HF3.out]; rfl, (SB.out.bel.setCell (p := ⟨bx + 2, 0, none⟩) (by show w.heap.size ≤ bx + 2; omega) _).setCell (p := ⟨bx + 2, 1, none⟩) (by show w.heap.size ≤ bx + 2; omega) _⟩
        · have hlb : ((tb.length : Int) != (ar.length : Int)) = true := by simp; omega
          have HF2 := Lib.hid (show tabF ar cs s tb = (9, -1) by rw [HF.out, if_neg (by omega), if_pos (by simpa using hl)])
          clear hl
          obtain ⟨⟨x0, _⟩, x1, _⟩ := S3.two 1
          obtain ⟨⟨v0, _⟩, v1, _⟩ := S3.two 0
          obtain ⟨⟨y0, y1⟩, y2, y3⟩ := S3.two 2
          have hl := S3.lt 2
          have SB := Lib.hid S3
          clear S3
          go_wp2_with fail
          refine ret_box2 (.int .i64 9) (.int .i64 (-1)) (bx + 2) 29 (box2_set (SB.out.block 2) _ _) (fun w' q0 q1 => by simp [results, Try.results65, go_sem, q0, q1]) rfl ?_
          have hx := HBX.out
          exact ⟨by rw [HF2.out]; rfl, (SB.out.bel.setCell (p := ⟨bx + 2, 0, none⟩) (by show w.heap.size ≤ bx + 2; omega) _).setCell (p := ⟨bx + 2, 1, none⟩) (by show w.heap.size ≤ bx + 2; omega) _⟩
  · have hcb : (C != 0) = true := by simp [hC]
    have HF := Lib.hid (show tabF ar cs sz tb = (C, D) by unfold tabF; rw [if_pos (by rw [HCD.out]; exact hC), HCD.out])
    clear hC
    obtain ⟨⟨y0, y1⟩, y2, y3⟩ := S3.two 2
    have hl := S3.lt 2
    have SB := Lib.hid S3
    clear S3
    go_wp2_with fail
    refine ret_box2 (.int .i64 C) (.int .i64 D) (bx + 2) 29 (box2_set (SB.out.block 2) _ _) (fun w' q0 q1 => by simp [results, Try.results65, go_sem, q0, q1]) rfl ?_
    have hx := HBX.out
    exact ⟨by rw [HF.out]; rfl, (SB.out.bel.setCell (p := ⟨bx + 2, 0, none⟩) (by show w.heap.size ≤ bx + 2; omega) _).setCell (p := ⟨bx + 2, 1, none⟩) (by show w.heap.size ≤ bx + 2; omega) _⟩
end Go.Proofs.Ytlhnfdjidjgfgaa
namespace Go.Proofs.Ytlhnfdjidjgfgaa
open Go.RowKit Go.Shelf
set_option linter.unusedVariables false
set_option maxHeartbeats 400000

theorem mostL_bound {l : List T} (h : ∀ t ∈ l, (treeF t).1 = 0) : 0 ≤ mostL l ∧ mostL l ≤ 8 := by
  refine ⟨mostL_nonneg l, ?_⟩
  induction l with
  | nil => simp [mostL]
  | cons t r ih =>
    simp only [mostL]
    have h1 := ih (fun x hx => h x (List.mem_cons_of_mem _ hx))
    have h2 : t.most ≤ 8 := by
      have h3 := (treeF_ok.1 (h t (List.mem_cons_self ..))).2.2
      have key : ∀ t : T, (∀ x ∈ t.pre, okN x) → t.most ≤ 8 := by
        intro t
        induction t using T.ind with
        | h t ih =>
          intro hh
          rw [T.most_eq]
          have h4 := okN_num (hh t (by obtain ⟨a, b⟩ := t; exact List.mem_cons_self ..))
          have h5 : mostL t.kids ≤ 8 := by
            have key2 : ∀ l : List T, (∀ i, i < l.length → (gK l i).most ≤ 8) → mostL l ≤ 8 := by
              intro l
              induction l with
              | nil => intro _; simp [mostL]
              | cons y r ih2 => intro h6; simp only [mostL]; have h7 := h6 0 (by simp); have h8 := ih2 (fun i hi => h6 (i + 1) (by simpa using hi)); have h9 : y.most ≤ 8 := h7; omega
            exact key2 _ (fun i hi => ih i hi (fun x hx => hh x (by obtain ⟨a, b⟩ := t; exact List.mem_cons_of_mem _ (preL_mem hi hx))))
          split <;> omega
      exact key t h3
    omega

set_option maxRecDepth 100000 in
set_option maxHeartbeats 4000000 in
theorem max112 (fs : List Fc) (p : Nat → Prop) (co : Option Addr) (sp : Nat) (w : World) (h : factE.Row p w co fs) (hn : fs.length ≤ 6) (hok : ∀ t ∈ treesF fs, (treeF t).1 = 0) :
    Calls Try.prog 119 #[.agg #[.slice co fs.length (fs.length + sp)]] w fun e w' => e = .returned (.int .i64 (mostL (treesF fs))) ∧ Below w.heap.size w w' := by
  have HR := Lib.hid h; have HOK := Lib.hid hok
  obtain ⟨bx, hbx⟩ : ∃ b, b = w.heap.size := ⟨_, rfl⟩
  have S1 := (St.start w).box hbx.symm #[.slice co fs.length (fs.length + sp)] 41
  have hsz1 : (w.alloc (.cells #[.slice co fs.length (fs.length + sp)] 41)).heap.size = bx + 1 := by simp [hbx]
  clear h hok
  go_enter Try.func119, Try.ntmps119
  go_wp2_with fail
  rw [← hbx]
  refine S1.genC (z := bx + 1) (by omega) ?_
  intro w1 z1 S
  have HBX := Lib.hid hbx
  clear S1 hbx hsz1
  go_loopw [3, 9] (fun o i wr => ∃ (k : Nat) (M : Int), k ≤ fs.length ∧ i = .int .i64 k ∧ o = .int .i64 M ∧ M = mostL (treesF (fs.take k)) ∧ bx + 1 ≤ wr.heap.size ∧ St w wr [.box bx #[.slice co fs.length (fs.length + sp)] 41]) (fun _ i _ => fs.length - (intOf i).toNat)
  case atStart => exact ⟨0, 0, by omega, rfl, rfl, rfl, z1, S⟩
  case round =>
    clear S
    obtain ⟨k, M, hk, rfl, rfl, hM, z2, S⟩ := hrel
    have HM := Lib.hid hM
    clear hM
    by_cases hlt : k < fs.length
    · have hlti : (k : Int) < (fs.length : Int) := by omega
      obtain ⟨b, off, ka, sa, kb, sb, rfl, hpb, c0, c1, c2, c3, c4, t1, t2⟩ := (HR.out.kept S.bel).fact hlt
      have HMX := Lib.hid (show fs[k].l ∈ treesF fs ∧ fs[k].r ∈ treesF fs from ⟨List.mem_of_getElem? (treesF_pair hlt).1, List.mem_of_getElem? (treesF_pair hlt).2⟩)
      have HTK := Lib.hid (show mostL (treesF (fs.take (k + 1))) = max (mostL (treesF (fs.take k))) (mostL [fs[k].l, fs[k].r]) by rw [treesF_take hlt, mostL_append])
      obtain ⟨X, hX⟩ : ∃ X, X = fs[k].l := ⟨_, rfl⟩
      obtain ⟨Y, hY⟩ : ∃ Y, Y = fs[k].r := ⟨_, rfl⟩
      rw [← hX] at c1 c2 t1 HMX HTK
      rw [← hY] at c3 c4 t2 HMX HTK
      have HOX := Lib.hid (treeF_ok.1 (HOK.out X HMX.out.1)); have HOY := Lib.hid (treeF_ok.1 (HOK.out Y HMX.out.2))
      obtain ⟨bq, hbq⟩ : ∃ b, b = wr.heap.size := ⟨_, rfl⟩
      have S2 := S.add (.treeP p (.agg #[.int .i64 X.head, .slice ka X.kids.length (X.kids.length + sa)]) X) t1
      have S2 := S2.add (.treeP p (.agg #[.int .i64 Y.head, .slice kb Y.kids.length (Y.kids.length + sb)]) Y) t2
      have S3 := (S2.box hbq.symm #[.bool fs[k].neg, .int .i64 X.head, .slice ka X.kids.length (X.kids.length + sa), .int .i64 Y.head, .slice kb Y.kids.length (Y.kids.length + sb)] 62).box (b := bq + 1) (by simp [hbq]) #[.int .i64 X.head, .slice ka X.kids.length (X.kids.length + sa), .int .i64 Y.head, .slice kb Y.kids.length (Y.kids.length + sb)] 38
      have HMB := Lib.hid (mostL_bound (l := [X, Y]) (fun t ht => by
        simp at ht
        rcases ht with rfl | rfl
        · exact HOK.out _ HMX.out.1
        · exact HOK.out _ HMX.out.2))
      clear hX hY S S2 t1 t2
      go_wp2_with fail
      rw [← hbq]
      refine S3.gen (z := bq + 2) (by simp [hbq]) ?_
      intro w4 z4 S
      have HBQ := Lib.hid (show bx + 1 ≤ bq by omega)
      clear S3 hbq c0 c1 c2 c3 c4
      have hra : RowAt w4 (some ⟨bq + 1, 0, none⟩) [X, Y] := by
        intro i hi
        rcases (show i = 0 ∨ i = 1 by simp at hi; omega) with rfl | rfl
        · exact ⟨bq + 1, 0, ka, sa, rfl, (S.cell 4 0 rfl).1, (S.cell 4 1 rfl).1, (S.treeP 1).at⟩
        · exact ⟨bq + 1, 0, kb, sb, rfl, (S.cell 4 2 rfl).1, (S.cell 4 3 rfl).1, (S.treeP 2).at⟩
      refine (S.quiet (max47 [X, Y] (some ⟨bq + 1, 0, none⟩) 2 w4 hra (by simp) (fun i hi => by
        rcases (show i = 0 ∨ i = 1 by simp at hi; omega) with rfl | rfl
        · exact ⟨by have h1 := HOX.out.1; show X.size ≤ _; omega, by have h1 := HOX.out.2.1; show X.deep ≤ _; omega, HOX.out.2.2⟩
        · exact ⟨by have h1 := HOY.out.1; show Y.size ≤ _; omega, by have h1 := HOY.out.2.1; show Y.deep ≤ _; omega, HOY.out.2.2⟩))).mono ?_
      rintro e w5 ⟨rfl, z5, S5⟩
      obtain ⟨V, hV⟩ : ∃ V, V = mostL [X, Y] := ⟨_, rfl⟩
      rw [← hV]
      have hvb := HMB.out
      rw [← hV] at hvb
      have HNX := Lib.hid (show mostL (treesF (fs.take (k + 1))) = max M V by rw [HTK.out, ← HM.out, hV])
      have S6 := S5.pick [0]
      have hz5 : bx + 1 ≤ w5.heap.size := by have := HBQ.out; omega
      clear S S5 hV hra
      by_cases hc : M < V
      · go_wp2_with fail
        all_goals first
          | (exfalso; omega)
          | (go_roundw
             case rel => exact ⟨k + 1, _, by omega, by go_num, rfl, by rw [HNX.out]; omega, hz5, S6⟩
             case measure => simp [intOf] <;> omega)
      · go_wp2_with fail
        all_goals first
          | (exfalso; omega)
          | (go_roundw
             case rel => exact ⟨k + 1, _, by omega, by go_num, rfl, by rw [HNX.out]; omega, hz5, S6⟩
             case measure => simp [intOf] <;> omega)
    · obtain rfl : k = fs.length := by omega
      have HFI := Lib.hid (show M = mostL (treesF fs) by rw [HM.out, List.take_length])
      have SC := Lib.hid S.bel
      clear S
      go_wp2_with fail
      go_ret
      exact ⟨ret_int HFI.out, SC.out⟩
end Go.Proofs.Ytlhnfdjidjgfgaa
namespace Go.Proofs.Ytlhnfdjidjgfgaa
open Go.RowKit Go.Shelf
set_option linter.unusedVariables false
set_option maxHeartbeats 400000

/-- of a claim the number of its variables -/
def varsC (fs : List Fc) : Nat := (mostL (treesF fs)).toNat
theorem varsC_cast {fs : List Fc} : ((varsC fs : Nat) : Int) = mostL (treesF fs) := by
  have := mostL_nonneg (treesF fs)
  unfold varsC; omega
def wideB (s : Nat) (fs : List Fc) : Bool := decide ((4096 : Int) < (powN s 4096 (varsC fs) 1 : Nat))

set_option maxRecDepth 100000 in
set_option maxHeartbeats 4000000 in
theorem wide111 (s : Nat) (fs : List Fc) (p : Nat → Prop) (co : Option Addr) (sp b : Nat) (w : World) (hs : s ≤ 4) (hc : w.cell? ⟨b, 0, none⟩ = some (.int .i64 s)) (h : factE.Row p w co fs) (hn : fs.length ≤ 6) (hok : ∀ t ∈ treesF fs, (treeF t).1 = 0) :
    Calls Try.prog 118 #[.agg #[.slice co fs.length (fs.length + sp)], .pointer (some ⟨b, 0, none⟩)] w fun e w' => e = .returned (.bool (wideB s fs)) ∧ Below w.heap.size w w' := by
  have HR := Lib.hid h; have HOK := Lib.hid hok
  obtain ⟨bx, hbx⟩ : ∃ b, b = w.heap.size := ⟨_, rfl⟩
  have S1 := ((St.start w).add (.cellAt b 0 (.int .i64 s)) hc).box hbx.symm #[.slice co fs.length (fs.length + sp)] 41
  have hv := mostL_bound hok
  rw [← varsC_cast] at hv
  clear h hok hc
  go_enter Try.func118, Try.ntmps118
  go_wp2_with fail
  rw [← hbx]
  refine S1.genC (z := 0) (by omega) ?_
  intro w1 z1 S
  clear S1 hbx
  have x0 := S.cellAt 0
  obtain ⟨y0, _⟩ := S.one 1
  obtain ⟨n, hnn⟩ : ∃ n, n = varsC fs := ⟨_, rfl⟩
  have CA := Lib.hid (fun d os => Calls.regrown_of (max112 fs p co sp (Go.Sort.grow (redrawn w1 d) os) (HR.out.kept (S.regrown d os).bel) hn HOK.out))
  rw [← varsC_cast, ← hnn] at CA
  have CB := Lib.hid (fun d os => Calls.regrown_of ((power80 s n 4096 (Go.Sort.grow (redrawn w1 d) os) (by omega) (by omega) (by omega)).mono (fun e w' ⟨h1, h2⟩ => ⟨h1, by rw [h2]; exact Below.refl _ _⟩)))
  obtain ⟨PW, hPW⟩ : ∃ PW, PW = powN s 4096 n 1 := ⟨_, rfl⟩
  rw [← hPW] at CB
  have HW := Lib.hid (show wideB s fs = decide ((4096 : Int) < (PW : Nat)) by rw [hPW, hnn]; rfl)
  clear hPW hnn
  have r0 := cell_regrown x0; have r1 := cell_regrown y0
  clear x0 y0
  refine wp_region_quiet_below (by kernel_rfl) (by kernel_rfl) ?_
  repeat (go_big_quiet_step (first | exact CA.out _ _ | exact CB.out _ _))
  refine wpQuiet_nil ?_
  intro _ hw'
  obtain ⟨⟨dq, osq⟩, hw''⟩ := hw'
  subst hw''
  have SE := Lib.hid (S.regrown dq osq).bel
  clear r0 r1 CA CB S
  go_wp2_with fail
  go_ret
  exact ⟨ret_bool HW.out.symm, SE.out⟩

set_option maxRecDepth 100000 in
set_option maxHeartbeats 4000000 in
theorem wide77 (ar : List Int) (cs : List (List Fc)) (s : Nat) (p q : Nat → Prop) (ao co : Option Addr) (ca cc : Nat) (w : World) (hs : s ≤ 4) (h : claimE.Row p w co cs) (hn : cs.length ≤ maxLen) (hok : ∀ c ∈ cs, codeF ar c = 0) :
    Calls Try.prog 66 #[.agg #[.slice ao ar.length ca, .slice co cs.length cc], .int .i64 s] w fun e w' => e = .returned (.int .i64 (idxP (wideB s) cs)) ∧ Below w.heap.size w w' := by
  have HR := Lib.hid h; have HOK := Lib.hid hok; have HN := Lib.hid hn
  obtain ⟨bx, hbx⟩ : ∃ b, b = w.heap.size := ⟨_, rfl⟩
  have S1 := ((St.start w).box hbx.symm #[.slice ao ar.length ca, .slice co cs.length cc] 25).box (b := bx + 1) (by simp [hbx]) #[.int .i64 s] 3
  clear h hok hn
  go_enter Try.func66, Try.ntmps66
  go_wp2_with fail
  rw [← hbx]
  refine S1.gen (z := 0) (by omega) ?_
  intro w1 z1 S
  clear S1 hbx
  refine (S.quiet (idxC 118 #[.pointer (some ⟨bx + 1, 0, none⟩)] (enters_of Try.func118 (by kernel_rfl) rfl) p co cs cc (wideB s) w1 HN.out (HR.out.kept S.bel) (fun i x k sp w2 hx hb hr hl => by
    have h0 := codeF_zero.1 (HOK.out x (List.mem_of_getElem? hx))
    exact wide111 s x p k sp (bx + 1) w2 hs (Below.cellOf hb (S.one 1).1) hr h0.1 (fun t ht => (h0.2 t ht).1)))).mono ?_
  rintro e w2 ⟨rfl, z2, S2⟩
  have SE := Lib.hid S2.bel
  clear S S2
  go_wp2_with fail
  go_ret
  exact ⟨rfl, SE.out⟩
end Go.Proofs.Ytlhnfdjidjgfgaa
namespace Go.Proofs.Ytlhnfdjidjgfgaa
open Go.RowKit Go.Shelf
set_option linter.unusedVariables false
set_option maxHeartbeats 400000

/-- the things of try number k -/
def dig (s : Nat) : Nat → Nat → List Int
  | 0, _ => []
  | n + 1, k => ((k % s : Nat) : Int) :: dig s n (k / s)
theorem dig_length {s : Nat} : ∀ (n k : Nat), (dig s n k).length = n
  | 0, _ => rfl
  | n + 1, k => by rw [dig, List.length_cons, dig_length n]
theorem dig_ok {s : Nat} (hs : 1 ≤ s) : ∀ (n k : Nat), ThOK s (dig s n k)
  | 0, _ => fun x hx => by cases hx
  | n + 1, k => fun x hx => by
    rw [dig] at hx
    rcases List.mem_cons.1 hx with rfl | hx
    · have := Nat.mod_lt k (show 0 < s by omega); omega
    · exact dig_ok hs n _ x hx
/-- each row of things comes up -/
theorem dig_all {s : Nat} : ∀ {th : List Int}, ThOK s th → ∃ k, k < s ^ th.length ∧ dig s th.length k = th
  | [], _ => ⟨0, by simp, rfl⟩
  | x :: r, h => by
    obtain ⟨k, hk, he⟩ := dig_all (th := r) (fun y hy => h y (List.mem_cons_of_mem _ hy))
    obtain ⟨h0, h1⟩ := h x (List.mem_cons_self ..)
    have hs : 0 < s := by omega
    refine ⟨x.toNat + s * k, ?_, ?_⟩
    · rw [List.length_cons, Nat.pow_succ, Nat.mul_comm _ s]
      have h2 : s * (k + 1) ≤ s * s ^ r.length := Nat.mul_le_mul_left s hk
      rw [Nat.mul_add, Nat.mul_one] at h2
      omega
    · rw [List.length_cons, dig, Nat.add_mul_mod_self_left, Nat.mod_eq_of_lt (by omega), Nat.add_mul_div_left _ _ hs, Nat.div_eq_of_lt (by omega), Nat.zero_add, he]
      congr 1; omega
noncomputable def factB (s : Nat) (tb : List (List Int)) (th : List Int) (f : Fc) : Bool := (decide (f.l.ev s tb th = f.r.ev s tb th)) != f.neg
noncomputable def trueF (s : Nat) (tb : List (List Int)) (fs : List Fc) : Bool := (List.range (powN s 4096 (varsC fs) 1)).all fun k => fs.any (factB s tb (dig s (varsC fs) k))
def tc (th : List Int) : Array Value := (th.map (Value.int .i64)).toArray
theorem make27 (n : Nat) (hn : n ≤ 1000) (w : World) : (Instr.makeSlice 22 (.int .i64 (n : Int)) (.int .i64 (n : Int))).run Try.prog w = .ok (.slice (some ⟨w.heap.size, 0, none⟩) n n) (w.alloc (.cells (tc (List.replicate n 0)) 3)) := by
  obtain ⟨i3, gi, gz0, gz1, gz2⟩ := info_parts infoI
  have h := run_makeSlice (P := Try.prog) w 22 3 i3 (.int .i64 0) Try.underlying22 gi gz0 .i64 .i64 (n : Int) (n : Int) (by omega) (Int.le_refl _) (by rw [gz1]; simp; omega) (by rw [gz2]; omega) (by omega)
  rw [gz1] at h
  have e : madeCells (Value.int .i64 0).cells (n * 1) = tc (List.replicate n 0) := by
    unfold madeCells tc Value.cells
    apply Array.ext
    · simp
    · intro i h1 h2
      simp [Nat.mod_one]
  rw [← e]
  simpa using h
theorem tc_set {th : List Int} {j : Nat} {x : Int} : (tc th).setIfInBounds j (.int .i64 x) = tc (th.set j x) := by
  unfold tc
  rw [List.setIfInBounds_toArray, List.map_set]
theorem St.setAt {w0 w : World} {l : List Fct} (S : St w0 w l) (i : Nat) {b : Nat} {cs : Array Value} {T : TypeId} (hi : Fct.at l i = Fct.box b cs T) (j : Nat) (u : Value) (h0 : w0.heap.size ≤ b) (hoff : offs b i l) :
    St w0 (w.setCell ⟨b, j, none⟩ u) (fset l i (.box b (cs.setIfInBounds j u) T)) :=
  S.put i hi h0 hoff (fun h => h.setCell (p := ⟨b, j, none⟩) h0 _)
    (fun c hc => Below.heap_setCell _ _ _ _ hc) (fun h => by simp [World.setCell, Array.getElem?_modify, h])
theorem row_tc {p : Nat → Prop} {w : World} {g : Nat} {th : List Int} (hp : p g) (h : w.heap[g]? = some (.cells (tc th) 3 (0, 0))) : intE.Row p w (some ⟨g, 0, none⟩) th := fun i x hi => by
  refine ⟨g, 0, [.int .i64 x], rfl, hp, fun j u hu => ?_, rfl⟩
  rcases j with _ | j
  · simp at hu; subst hu
    simp [World.cell?, h, tc, intE, hi]
  · simp at hu

set_option maxRecDepth 100000 in
set_option maxHeartbeats 4000000 in
theorem true114 (ar : List Int) (s : Nat) (tb : List (List Int)) (th : List Int) (hT : TabOK ar s tb) (hth : ThOK s th) (hl : th.length ≤ 1000000000) (f : Fc) (hs1 : f.l.sig ar) (hs2 : f.r.sig ar) (p q r : Nat → Prop) (k k2 to_ tho : Option Addr) (sp sp2 ct c bt bs : Nat) (w : World)
    (h0 : w.heap[bt]? = some (.cells #[.int .i64 s, .slice to_ tb.length (tb.length + ct)] 55 (0, 0))) (h1 : w.heap[bs]? = some (.cells #[.slice tho th.length c] 22 (0, 0))) (hrow : intsE.Row r w to_ tb) (hthr : intE.Row q w tho th)
    (t1 : TreeP p w (.agg #[.int .i64 f.l.head, .slice k f.l.kids.length (f.l.kids.length + sp)]) f.l) (t2 : TreeP p w (.agg #[.int .i64 f.r.head, .slice k2 f.r.kids.length (f.r.kids.length + sp2)]) f.r) :
    Calls Try.prog 121 #[.agg #[.bool f.neg, .int .i64 f.l.head, .slice k f.l.kids.length (f.l.kids.length + sp), .int .i64 f.r.head, .slice k2 f.r.kids.length (f.r.kids.length + sp2)], .pointer (some ⟨bt, 0, none⟩), .pointer (some ⟨bs, 0, none⟩)] w fun e w' => e = .returned (.bool (factB s tb th f)) ∧ Below w.heap.size w w' := by
  have HR := Lib.hid hrow; have HH := Lib.hid hthr; have T1 := Lib.hid t1; have T2 := Lib.hid t2
  obtain ⟨bx, hbx⟩ : ∃ b, b = w.heap.size := ⟨_, rfl⟩
  have S1 := (((St.start w).add (.box bt #[.int .i64 s, .slice to_ tb.length (tb.length + ct)] 55) h0).add (.box bs #[.slice tho th.length c] 22) h1).box hbx.symm #[.bool f.neg, .int .i64 f.l.head, .slice k f.l.kids.length (f.l.kids.length + sp), .int .i64 f.r.head, .slice k2 f.r.kids.length (f.r.kids.length + sp2)] 62
  clear h0 h1 hrow hthr t1 t2
  go_enter Try.func121, Try.ntmps121
  go_wp2_with fail
  rw [← hbx]
  refine S1.genC (z := 0) (by omega) ?_
  intro w1 z1 S
  clear S1 hbx
  obtain ⟨⟨x0, _⟩, x1, _⟩ := S.two 0
  obtain ⟨y0, _⟩ := S.one 1
  obtain ⟨c0, _⟩ := S.cell 2 0 rfl
  obtain ⟨c1, _⟩ := S.cell 2 1 rfl
  obtain ⟨c2, _⟩ := S.cell 2 2 rfl
  obtain ⟨c3, _⟩ := S.cell 2 3 rfl
  obtain ⟨c4, _⟩ := S.cell 2 4 rfl
  have CA := Lib.hid (fun d os => Calls.regrown_of (eval76 ar s tb th hT hth hl f.l hs1 r q _ to_ tho ct c (Go.Sort.grow (redrawn w1 d) os) (HR.out.kept (S.regrown d os).bel) (HH.out.kept (S.regrown d os).bel) (T1.out.kept (S.regrown d os).bel).at))
  have CB := Lib.hid (fun d os => Calls.regrown_of (eval76 ar s tb th hT hth hl f.r hs2 r q _ to_ tho ct c (Go.Sort.grow (redrawn w1 d) os) (HR.out.kept (S.regrown d os).bel) (HH.out.kept (S.regrown d os).bel) (T2.out.kept (S.regrown d os).bel).at))
  obtain ⟨V, hV⟩ : ∃ V, V = f.l.ev s tb th := ⟨_, rfl⟩
  obtain ⟨U, hU⟩ : ∃ U, U = f.r.ev s tb th := ⟨_, rfl⟩
  rw [← hV] at CA
  rw [← hU] at CB
  have HW := Lib.hid (show factB s tb th f = ((V == U) != f.neg) by unfold factB; rw [hV, hU]; rfl)
  have r0 := cell_regrown x0; have r1 := cell_regrown x1; have r2 := cell_regrown y0
  have e0 := cell_regrown c0; have e1 := cell_regrown c1; have e2 := cell_regrown c2; have e3 := cell_regrown c3; have e4 := cell_regrown c4
  clear x0 x1 y0 c0 c1 c2 c3 c4 hV hU
  refine wp_region_quiet_below (by kernel_rfl) (by kernel_rfl) ?_
  repeat (go_big_quiet_step (first | with_reducible exact CA.out _ _ | with_reducible exact CB.out _ _))
  refine wpQuiet_nil ?_
  intro _ hw'
  obtain ⟨⟨dq, osq⟩, hw''⟩ := hw'
  subst hw''
  have SE := Lib.hid (S.regrown dq osq).bel
  clear r0 r1 r2 e0 e1 e2 e3 e4 CA CB S
  go_wp2_with fail
  go_ret
  exact ⟨ret_bool HW.out.symm, SE.out⟩
end Go.Proofs.Ytlhnfdjidjgfgaa
namespace Go.Proofs.Ytlhnfdjidjgfgaa
open Go.RowKit Go.Shelf
set_option linter.unusedVariables false
set_option maxHeartbeats 400000

theorem dig_get {s : Nat} : ∀ (n k i : Nat), i < n → (dig s n k)[i]? = some ((k / s ^ i % s : Nat) : Int)
  | 0, k, i, h => by omega
  | n + 1, k, 0, _ => by rw [dig]; simp
  | n + 1, k, i + 1, h => by rw [dig, List.getElem?_cons_succ, dig_get n (k / s) i (by omega), Nat.div_div_eq_div_mul, Nat.pow_succ, Nat.mul_comm s]
/-- the things while try number k is written over an older one -/
def mid (s n k : Nat) (th : List Int) (i : Nat) : List Int := (dig s n k).take i ++ th.drop i
theorem mid_set {s n k i : Nat} {th : List Int} (hi : i < n) (hl : th.length = n) : (mid s n k th i).set i ((k / s ^ i % s : Nat) : Int) = mid s n k th (i + 1) := by
  unfold mid
  have hd : (dig s n k).length = n := dig_length n k
  have ht : ((dig s n k).take i).length = i := by simp [hd]; omega
  rw [List.set_append_right _ _ (by omega), ht, Nat.sub_self, List.drop_eq_getElem_cons (by omega), List.set_cons_zero]
  have hg : (dig s n k)[i]'(by omega) = ((k / s ^ i % s : Nat) : Int) := by
    have h := dig_get (s := s) n k i hi
    rw [List.getElem?_eq_getElem (by omega)] at h
    exact Option.some.inj h
  rw [List.take_succ_eq_append_getElem (by omega), hg, List.append_assoc, List.singleton_append]
theorem mid_end {s n k : Nat} {th : List Int} (hl : th.length = n) : mid s n k th n = dig s n k := by
  unfold mid
  rw [List.drop_eq_nil_of_le (by omega), List.append_nil, List.take_of_length_le (by rw [dig_length]; omega)]
theorem mid_length {s n k i : Nat} {th : List Int} (hi : i ≤ n) (hl : th.length = n) : (mid s n k th i).length = n := by
  unfold mid
  simp [dig_length, hl]; omega
theorem trueF_false {s : Nat} {tb : List (List Int)} {fs : List Fc} {k : Nat} (hk : k < powN s 4096 (varsC fs) 1) (h : fs.any (factB s tb (dig s (varsC fs) k)) = false) : trueF s tb fs = false := by
  unfold trueF
  rw [List.all_eq_false]
  exact ⟨k, by simpa using hk, by rw [h]; simp⟩
theorem trueF_true {s : Nat} {tb : List (List Int)} {fs : List Fc} (h : ∀ k, k < powN s 4096 (varsC fs) 1 → fs.any (factB s tb (dig s (varsC fs) k)) = true) : trueF s tb fs = true := by
  unfold trueF
  rw [List.all_eq_true]
  exact fun k hk => h k (by simpa using hk)

set_option maxRecDepth 100000 in
set_option maxHeartbeats 8000000 in
theorem true78 (ar : List Int) (s : Nat) (tb : List (List Int)) (hT : TabOK ar s tb) (fs : List Fc) (hok : codeF ar fs = 0) (p r : Nat → Prop) (to_ co : Option Addr) (ct sp : Nat) (w : World) (hrow : intsE.Row r w to_ tb) (h : factE.Row p w co fs) :
    Calls Try.prog 67 #[.agg #[.int .i64 s, .slice to_ tb.length (tb.length + ct)], .agg #[.slice co fs.length (fs.length + sp)]] w fun e w' => e = .returned (.bool (trueF s tb fs)) ∧ Below w.heap.size w w' := by
  have HC := Lib.hid (codeF_zero.1 hok)
  have HR := Lib.hid hrow; have HF := Lib.hid h; have HT := Lib.hid hT
  have hs14 : 1 ≤ s ∧ s ≤ 4 := ⟨hT.1, hT.2.1⟩
  obtain ⟨n, hnn⟩ : ∃ n, n = varsC fs := ⟨_, rfl⟩
  have hn8 : n ≤ 8 := by
    have := mostL_bound (l := treesF fs) (fun t ht => (HC.out.2 t ht).1)
    rw [← varsC_cast, ← hnn] at this; omega
  have HNV := Lib.hid hnn
  obtain ⟨bx, hbx⟩ : ∃ b, b = w.heap.size := ⟨_, rfl⟩
  have S1 := ((St.start w).box hbx.symm #[.int .i64 s, .slice to_ tb.length (tb.length + ct)] 55).box (b := bx + 1) (by simp [hbx]) #[.slice co fs.length (fs.length + sp)] 41
  have hsz : ((w.alloc (.cells #[.int .i64 s, .slice to_ tb.length (tb.length + ct)] 55)).alloc (.cells #[.slice co fs.length (fs.length + sp)] 41)).heap.size = bx + 2 := by simp [hbx]
  have hmk : ∀ W : World, (Instr.makeSlice 22 (.int .i64 (n : Int)) (.int .i64 (n : Int))).run Try.prog W = .ok (.slice (some ⟨W.heap.size, 0, none⟩) n n) (W.alloc (.cells (tc (List.replicate n 0)) 3)) := fun W => make27 n (by omega) W
  obtain ⟨y0, _⟩ := S1.one 1
  clear hrow h hT hok
  go_enter Try.func67, Try.ntmps67
  go_wp2_with fail
  rw [← hbx]
  refine S1.gen (z := bx + 2) (by omega) ?_
  intro w1 z1 S
  have HBX := Lib.hid hbx
  clear S1 hbx hsz y0
  refine (S.quiet (max112 fs p co sp w1 (HF.out.kept S.bel) HC.out.1 (fun t ht => (HC.out.2 t ht).1))).mono ?_
  rintro e w2 ⟨rfl, z2, S2⟩
  rw [← varsC_cast, ← hnn]
  clear S hnn
  have S3 := (S2.box rfl (tc (List.replicate n 0)) 3).box (b := w2.heap.size + 1) (by simp) #[.slice (some ⟨w2.heap.size, 0, none⟩) n n] 22
  obtain ⟨⟨x0, _⟩, x1, _⟩ := S3.two 0
  obtain ⟨v0, _⟩ := S3.one 3
  clear S2
  go_wp2_with fail
  refine S3.gen (z := w2.heap.size + 2) (by simp) ?_
  intro w4 z4 S
  obtain ⟨g, hg⟩ : ∃ g, g = w2.heap.size := ⟨_, rfl⟩
  have HG := Lib.hid (show bx + 2 ≤ g by omega)
  clear S3 x0 x1 v0 hmk
  rw [← hg] at S z4 ⊢
  clear hg
  refine (power80 s n 4096 w4 (by omega) (by omega) (by omega)).mono ?_
  rintro e w5 ⟨rfl, hw⟩
  have hw := hw.symm
  subst hw
  obtain ⟨PW, hPW⟩ : ∃ PW, PW = powN s 4096 n 1 := ⟨_, rfl⟩
  have hpb : PW ≤ 16384 := by rw [hPW]; exact powN_le hs14.2 (by omega) n 1 (by omega)
  rw [← hPW]
  have HPW := Lib.hid (show powN s 4096 (varsC fs) 1 = PW by rw [← HNV.out, hPW])
  clear hPW
  go_wp2_with fail
  refine S.genC (z := g + 2) z4 ?_
  intro w5 z5 S
  go_loopw [16] (fun i wr => ∃ (k : Nat) (th : List Int), k ≤ PW ∧ i = .int .i64 k ∧ th.length = n ∧ (∀ j, j < k → fs.any (factB s tb (dig s n j)) = true) ∧ g + 2 ≤ wr.heap.size ∧ St w wr [.box bx #[.int .i64 s, .slice to_ tb.length (tb.length + ct)] 55, .box (bx + 1) #[.slice co fs.length (fs.length + sp)] 41, .box g (tc th) 3, .box (g + 1) #[.slice (some ⟨g, 0, none⟩) n n] 22]) (fun i _ => PW - (intOf i).toNat)
  case atStart => exact ⟨0, List.replicate n 0, by omega, rfl, by simp, fun j hj => by omega, z5, S⟩
  case round =>
    clear S z5 w5
    obtain ⟨k, th, hk, rfl, hthl, hno, z6, S⟩ := hrel
    have HNO := Lib.hid hno
    have HTL := Lib.hid hthl
    clear hno hthl
    by_cases hlt : k < PW
    · have hlti : (k : Int) < (PW : Int) := by omega
      obtain ⟨v0, _⟩ := S.one 3
      obtain ⟨wv, hwv⟩ : ∃ W, W = wr := ⟨_, rfl⟩
      go_wp2_with fail
      rw [← hwv]
      rw [← hwv] at S z6 v0
      clear hwv v0
      go_loopw [6, 21] (fun kk i wr => ∃ (m c : Nat), m ≤ n ∧ i = .int .i64 m ∧ kk = .int .i64 c ∧ c = k / s ^ m ∧ g + 2 ≤ wr.heap.size ∧ St w wr [.box bx #[.int .i64 s, .slice to_ tb.length (tb.length + ct)] 55, .box (bx + 1) #[.slice co fs.length (fs.length + sp)] 41, .box g (tc (mid s n k th m)) 3, .box (g + 1) #[.slice (some ⟨g, 0, none⟩) n n] 22]) (fun _ i _ => n - (intOf i).toNat)
      case atStart => exact ⟨0, k, by omega, rfl, rfl, by simp, z6, by show St w _ [.box bx #[.int .i64 s, .slice to_ tb.length (tb.length + ct)] 55, .box (bx + 1) #[.slice co fs.length (fs.length + sp)] 41, .box g (tc (mid s n k th 0)) 3, .box (g + 1) #[.slice (some ⟨g, 0, none⟩) n n] 22]; rw [show mid s n k th 0 = th by simp [mid]]; exact S⟩
      case round =>
        clear S
        obtain ⟨m, c, hm, rfl, rfl, hc, z7, S⟩ := hrel
        by_cases hlt2 : m < n
        · have hlti2 : (m : Int) < (n : Int) := by omega
          have hcb : c ≤ 16384 := by rw [hc]; exact Nat.le_trans (Nat.div_le_self _ _) (by omega)
          have HCQ := Lib.hid hc
          have hs0 : ¬ s = 0 := by omega
          obtain ⟨X, hX⟩ : ∃ X, X = c % s := ⟨_, rfl⟩
          have hrem : Int.tmod (c : Int) (s : Int) = (X : Int) := by rw [hX]; rfl
          have HXV := Lib.hid (show X = k / s ^ m % s by rw [hX, hc])
          have hxs : X ≤ 4 := by have := Nat.mod_lt c (show 0 < s by omega); omega
          clear hc hX
          go_wp2_with fail
          have S := S.drew
          have hgl := S.lt 2
          have hmlt := HTL.out
          have hml := mid_length (s := s) (k := k) hm HTL.out
          obtain ⟨g0, g1⟩ := S.cell 2 m (v := .int .i64 ((mid s n k th m)[m]'(by omega))) (by simp [tc, hml, hlt2]) rfl
          refine wpG_region 7 (fun W => W.cell? ⟨g + 1, 0, none⟩ = some (.slice (some ⟨g, 0, none⟩) n n) ∧ W.cell? ⟨bx, 0, none⟩ = some (.int .i64 s)) (by kernel_rfl) ?_
          have HS := And.intro (S.one 3).1 (S.two 0).1.1
          refine wpG.take (i := 0) (by kernel_rfl) (by kernel_rfl) (by kernel_rfl) (by kernel_rfl) (by kernel_rfl) HS ?_
          intro oi ho
          simp only [List.getElem?_toArray, List.getElem?_cons_zero, Option.some.injEq] at ho
          subst ho
          refine ⟨?_, Or.inl ⟨by rfl, ?_⟩, fun _ _ _ h => h, ?_⟩
          rotate_left 1
          · intro W hW
            try dsimp only at hW
            go_simp
            try with_reducible rfl
          simp only [Act.put, List.setIfInBounds_toArray, List.set_cons_zero, List.set_cons_succ]
          refine wpG.take (i := 1) (by kernel_rfl) (by kernel_rfl) (by kernel_rfl) (by kernel_rfl) (by kernel_rfl) HS ?_
          intro oi ho
          simp only [List.getElem?_toArray, List.getElem?_cons_succ, List.getElem?_cons_zero, Option.some.injEq] at ho
          subst ho
          refine ⟨?_, Or.inl ⟨by rfl, ?_⟩, fun _ _ _ h => h, ?_⟩
          rotate_left 1
          · intro W hW
            try dsimp only at hW
            go_simp
            try with_reducible rfl
          simp only [Act.put, List.setIfInBounds_toArray, List.set_cons_zero, List.set_cons_succ]
          refine wpG.take (i := 2) (by kernel_rfl) (by kernel_rfl) (by kernel_rfl) (by kernel_rfl) (by kernel_rfl) HS ?_
          intro oi ho
          simp only [List.getElem?_toArray, List.getElem?_cons_succ, List.getElem?_cons_zero, Option.some.injEq] at ho
          subst ho
          refine ⟨?_, Or.inl ⟨by rfl, ?_⟩, fun _ _ _ h => h, ?_⟩
          rotate_left 1
          · intro W hW
            try dsimp only at hW
            go_simp
            try with_reducible rfl
          simp only [Act.put, List.setIfInBounds_toArray, List.set_cons_zero, List.set_cons_succ]
          refine wpG.take (i := 3) (by kernel_rfl) (by kernel_rfl) (by kernel_rfl) (by kernel_rfl) (by kernel_rfl) HS ?_
          intro oi ho
          simp only [List.getElem?_toArray, List.getElem?_cons_succ, List.getElem?_cons_zero, Option.some.injEq] at ho
          subst ho
          refine ⟨?_, Or.inl ⟨by rfl, ?_⟩, fun _ _ _ h => h, ?_⟩
          rotate_left 1
          · intro W hW
            try dsimp only at hW
            go_simp
            try with_reducible rfl
          simp only [Act.put, List.setIfInBounds_toArray, List.set_cons_zero, List.set_cons_succ]
          refine wpG.take (i := 4) (by kernel_rfl) (by kernel_rfl) (by kernel_rfl) (by kernel_rfl) (by kernel_rfl) HS ?_
          intro oi ho
          simp only [List.getElem?_toArray, List.getElem?_cons_succ, List.getElem?_cons_zero, Option.some.injEq] at ho
          subst ho
          refine ⟨?_, Or.inl ⟨by rfl, ?_⟩, fun _ _ _ h => h, ?_⟩
          rotate_left 1
          · intro W hW
            try dsimp only at hW
            go_simp
            try with_reducible rfl
          simp only [Act.put, List.setIfInBounds_toArray, List.set_cons_zero, List.set_cons_succ]
          refine wpG.take (i := 5) (by kernel_rfl) (by kernel_rfl) (by kernel_rfl) (by kernel_rfl) (by kernel_rfl) HS ?_
          intro oi ho
          simp only [List.getElem?_toArray, List.getElem?_cons_succ, List.getElem?_cons_zero, Option.some.injEq] at ho
          subst ho
          refine ⟨?_, Or.inl ⟨by rfl, ?_⟩, fun _ _ _ h => h, ?_⟩
          rotate_left 1
          · intro W hW
            try dsimp only at hW
            go_simp
            try with_reducible rfl
          simp only [Act.put, List.setIfInBounds_toArray, List.set_cons_zero, List.set_cons_succ]
          refine wpG.one (i := 6) (by kernel_rfl) ?_
          intro oi ho
          simp only [List.getElem?_toArray, List.getElem?_cons_succ, List.getElem?_cons_zero, Option.some.injEq] at ho
          subst ho
          intro K hK
          have HK := Lib.hid hK
          have HSH := Lib.hid HS
          clear hK HS
          go_simp
          refine HK.out _ _ (fun _ => HSH.out) ?_
          have HS := HSH.out
          try simp only [Act.put, List.setIfInBounds_toArray, List.set_cons_zero, List.set_cons_succ]
          refine wpG.one (i := 7) (by kernel_rfl) ?_
          intro oi ho
          simp only [List.getElem?_toArray, List.getElem?_cons_succ, List.getElem?_cons_zero, Option.some.injEq] at ho
          subst ho
          intro K hK
          have HK := Lib.hid hK
          have HSH := Lib.hid HS
          clear hK HS
          go_simp
          refine HK.out _ _ (fun h => absurd rfl h) ?_
          try simp only [Act.put, List.setIfInBounds_toArray, List.set_cons_zero, List.set_cons_succ]
          refine wpG.done (by kernel_rfl) ?_
          have SN := S.setAt 2 rfl m (.int .i64 (X : Int)) (by have := HG.out; have := HBX.out; omega) (by have := HG.out; simp only [offs, offAll, Fct.box, and_true]; omega)
          have he : (tc (mid s n k th m)).setIfInBounds m (.int .i64 (X : Int)) = tc (mid s n k th (m + 1)) := by rw [tc_set, HXV.out, mid_set hlt2 HTL.out]
          rw [he] at SN
          refine (show St w _ [.box bx #[.int .i64 s, .slice to_ tb.length (tb.length + ct)] 55, .box (bx + 1) #[.slice co fs.length (fs.length + sp)] 41, .box g (tc (mid s n k th (m + 1))) 3, .box (g + 1) #[.slice (some ⟨g, 0, none⟩) n n] 22] from SN).genX (z := g + 2) (by simp; exact z7) ?_
          intro w8 z8 S8
          clear S SN g0 g1 hgl hml
          obtain ⟨⟨x0, _⟩, x1, _⟩ := S8.two 0
          obtain ⟨c2, hc2⟩ : ∃ c2, c2 = c / s := ⟨_, rfl⟩
          have hquo : Int.tdiv (c : Int) (s : Int) = (c2 : Int) := by rw [hc2]; rfl
          have HC2 := Lib.hid (show c2 = k / s ^ (m + 1) by rw [hc2, HCQ.out, Nat.div_div_eq_div_mul, Nat.pow_succ])
          have hc2b : c2 ≤ 16384 := by rw [hc2]; exact Nat.le_trans (Nat.div_le_self _ _) hcb
          clear hc2
          go_wp2_with fail
          go_roundw
          case rel => exact ⟨m + 1, c2, by omega, by go_num, rfl, HC2.out, z8, S8⟩
          case measure => simp [intOf] <;> omega
        · obtain rfl : m = n := by omega
          rw [mid_end HTL.out] at S
          obtain ⟨y0, _⟩ := S.one 1
          clear hc
          go_wp2_with fail
          refine (S.quiet (contF 121 #[.pointer (some ⟨bx, 0, none⟩), .pointer (some ⟨g + 1, 0, none⟩)] (enters_of Try.func121 (by kernel_rfl) rfl) p co fs (fs.length + sp) (factB s tb (dig s m k)) wr (by have := HC.out.1; unfold maxLen; omega) (HF.out.kept S.bel) (fun i x kk q1 k2 q2 w1 hx hb t1 t2 => by
            have hi := (List.getElem?_eq_some_iff.1 hx).1
            have hxe : fs[i] = x := (List.getElem?_eq_some_iff.1 hx).2
            have hp := treesF_pair hi
            rw [hxe] at hp
            exact true114 ar s tb (dig s m k) HT.out (dig_ok hs14.1 m k) (by rw [dig_length]; omega) x (HC.out.2 _ (List.mem_of_getElem? hp.1)).2 (HC.out.2 _ (List.mem_of_getElem? hp.2)).2 p (fun b => b = g) r kk k2 to_ (some ⟨g, 0, none⟩) q1 q2 ct m bx (g + 1) w1
              (Below.heapAt hb (S.block 0)) (by rw [dig_length]; exact Below.heapAt hb (S.block 3)) (HR.out.kept (Below.step S.bel hb)) (row_tc rfl (Below.heapAt hb (S.block 2))) t1 t2))).mono ?_
          rintro e w9 ⟨rfl, z9, S9⟩
          have hz9 : g + 2 ≤ w9.heap.size := by omega
          clear S y0 z9
          cases hany : fs.any (factB s tb (dig s m k)) with
          | true =>
            have HN := Lib.hid (show ∀ j, j < k + 1 → fs.any (factB s tb (dig s m j)) = true from fun j hj => by
              rcases Nat.lt_succ_iff_lt_or_eq.1 hj with h | rfl
              · exact HNO.out j h
              · exact hany)
            have HDL := Lib.hid (dig_length (s := s) m k)
            clear hany
            go_wp2_with fail
            go_roundw
            case rel => exact ⟨k + 1, dig s m k, by omega, by go_num, HDL.out, HN.out, hz9, S9⟩
            case measure => simp [intOf] <;> omega
          | false =>
            have HFI := Lib.hid (show trueF s tb fs = false from trueF_false (k := k) (by rw [HPW.out]; exact hlt) (by rw [← HNV.out]; exact hany))
            have SE := Lib.hid S9.bel
            clear hany S9
            go_wp2_with fail
            go_ret
            exact ⟨ret_bool HFI.out.symm, SE.out⟩
    · obtain rfl : k = PW := by omega
      have HFI := Lib.hid (show trueF s tb fs = true from trueF_true (fun j hj => by rw [HPW.out] at hj; rw [← HNV.out]; exact HNO.out j hj))
      have SE := Lib.hid S.bel
      clear S
      go_wp2_with fail
      go_ret
      exact ⟨ret_bool HFI.out.symm, SE.out⟩
end Go.Proofs.Ytlhnfdjidjgfgaa
namespace Go.Proofs.Ytlhnfdjidjgfgaa
open Go.RowKit Go.Shelf
set_option linter.unusedVariables false
set_option maxHeartbeats 400000

def boolE : Elt Bool where
  ty := 4
  n := 1
  is p w cs a := cs = [.bool a]
  pos := by omega
  len := fun e => by rw [e]; rfl
  one := fun e u hu => by rw [e] at hu; simp at hu; subst hu; rfl
  keep := fun hk e => e
theorem Elt.Row.bool {p : Nat → Prop} {w : World} {ao : Option Addr} {cs : List Bool} (h : boolE.Row p w ao cs) {i : Nat} (hi : i < cs.length) : ∃ b off, ao = some ⟨b, off, none⟩ ∧ p b ∧ w.cell? ⟨b, off + i, none⟩ = some (.bool cs[i]) := by
  obtain ⟨b, off, c, e, hp, hc, rfl⟩ := h i cs[i] (List.getElem?_eq_getElem hi)
  exact ⟨b, off, e, hp, by have := hc 0 _ rfl; simpa [boolE] using this⟩
theorem infoB : (Try.prog.info? 4).map (fun i => (i.zero, i.size, i.bytes)) = some (some (.bool false), 1, 1) := by kernel_rfl
noncomputable def holdsF (ar : List Int) (cs : List (List Fc)) (sz : Int) (tb : List (List Int)) : List Bool × (Int × Int) :=
  if (tabF ar cs sz tb).1 ≠ 0 then ([], tabF ar cs sz tb) else if 0 ≤ idxP (wideB sz.toNat) cs then ([], (10, idxP (wideB sz.toNat) cs)) else (cs.map (trueF sz.toNat tb), (0, 0))
def HoldsP (r : List Bool × (Int × Int)) (w : World) (e : Ending) (w' : World) : Prop :=
  ∃ ro sp, e = .returned (.tuple #[.slice ro r.1.length (r.1.length + sp), FV r.2]) ∧ boolE.Row (fun b => w.heap.size ≤ b) w' ro r.1 ∧ Below w.heap.size w w'
theorem ret_zf {P : Program} {fn : Func} {R : Ending → World → Prop} {a : Act} {w : World} (z p q : Value) (c : Nat) (T' : TypeId) (hc : w.heap[c]? = some (.cells #[p, q] T' (0, 0)))
    (hres : ∀ w' : World, w'.cell? ⟨c, 0, none⟩ = some p → w'.cell? ⟨c, 1, none⟩ = some q → (results fn a.tmps).run P w' = .ok (.tuple #[z, .agg #[p, q]]) w') (hd : a.defers = [])
    (hR : R (.returned (.tuple #[z, .agg #[p, q]])) w) : bodyPost P fn R .ret a w := bodyPost_ret (hres w (box2 hc).1.1 (box2 hc).2.1) hd hR

set_option maxRecDepth 100000 in
set_option maxHeartbeats 8000000 in
theorem holds25 (ar : List Int) (cs : List (List Fc)) (sz : Int) (tb : List (List Int)) (p q r : Nat → Prop) (ao co to_ : Option Addr) (ca cc ct : Nat) (w : World) (ha : intE.Row q w ao ar) (h : claimE.Row p w co cs) (ht : intsE.Row r w to_ tb) (hna : ar.length ≤ maxLen) (hn : cs.length ≤ maxLen) (hnt : tb.length ≤ maxLen) :
    Calls Try.prog 25 #[.agg #[.slice ao ar.length ca, .slice co cs.length cc], .agg #[.int .i64 sz, .slice to_ tb.length (tb.length + ct)]] w (HoldsP (holdsF ar cs sz tb) w) := by
  have HC := Lib.hid h; have HA := Lib.hid ha; have HNA := Lib.hid hna; have HNC := Lib.hid hn; have HT := Lib.hid ht; have HNT := Lib.hid hnt
  obtain ⟨iB, gi, gz0, gz1, gz2⟩ := info_parts infoB
  obtain ⟨bx, hbx⟩ : ∃ b, b = w.heap.size := ⟨_, rfl⟩
  have S1 := (((St.start w).box hbx.symm #[.slice ao ar.length ca, .slice co cs.length cc] 25).box (b := bx + 1) (by simp [hbx]) #[.int .i64 sz, .slice to_ tb.length (tb.length + ct)] 55).box (b := bx + 2) (by simp [hbx]) #[.int .i64 0, .int .i64 0] 29
  have hsz1 : (((w.alloc (.cells #[.slice ao ar.length ca, .slice co cs.length cc] 25)).alloc (.cells #[.int .i64 sz, .slice to_ tb.length (tb.length + ct)] 55)).alloc (.cells #[.int .i64 0, .int .i64 0] 29)).heap.size = bx + 3 := by simp [hbx]
  clear h ha hn hna ht hnt
  obtain ⟨⟨x0, _⟩, x1, _⟩ := S1.two 0
  obtain ⟨⟨y0, _⟩, y1, _⟩ := S1.two 1
  go_enter Try.func25, Try.ntmps25
  go_wp2_with fail
  rw [← hbx]
  refine S1.gen (z := bx + 3) (by omega) ?_
  intro w1 z1 S
  have HBX := Lib.hid hbx
  clear S1 hbx hsz1 x0 x1 y0 y1
  refine (S.faultF (tab26 ar cs sz tb p q r ao co to_ ca cc ct w1 (HA.out.kept S.bel) (HC.out.kept S.bel) (HT.out.kept S.bel) HNA.out HNC.out HNT.out)).mono ?_
  rintro e w2 ⟨C, D, rfl, HCD, z2, S2⟩
  clear S
  obtain ⟨b6, hb6⟩ : ∃ b, b = w2.heap.size := ⟨_, rfl⟩
  have S3 := S2.box hb6.symm #[.int .i64 C, .int .i64 D] 29
  have z3 : b6 + 1 ≤ (w2.alloc (.cells #[.int .i64 C, .int .i64 D] 29)).heap.size := by simp [hb6]
  have HB6 := Lib.hid (show bx + 3 ≤ b6 by omega)
  clear S2
  by_cases hC : C = 0
  · have hcb : (C != 0) = false := by simp [hC]
    have HZ := Lib.hid (tabF_zero (show (tabF ar cs sz tb).1 = 0 by rw [HCD.out]; exact hC))
    obtain ⟨s, hs, hT⟩ := HZ.out.2.2
    subst hs
    have HTT := Lib.hid hT
    have hs4 : s ≤ 4 := hT.2.1
    have HLZ := Lib.hid (loreF_zero HZ.out.2.1)
    have hc60 : cs.length ≤ 60 := HLZ.out.2.2.1
    have HF := Lib.hid (show holdsF ar cs s tb = if 0 ≤ idxP (wideB s) cs then ([], (10, idxP (wideB s) cs)) else (cs.map (trueF s tb), (0, 0)) by unfold holdsF; rw [if_neg (by rw [HCD.out]; simpa using hC)]; rfl)
    obtain ⟨⟨x0, _⟩, x1, _⟩ := S3.two 0
    obtain ⟨⟨y0, _⟩, y1, _⟩ := S3.two 1
    clear hC hT
    go_wp2_with fail
    rw [← hb6]
    refine S3.gen (z := bx + 3) (by have := HB6.out; omega) ?_
    intro w4 z4 S
    clear S3 z3 hb6 x0 x1 y0 y1
    refine (S.quiet (wide77 ar cs s p q ao co ca cc w4 hs4 (HC.out.kept S.bel) HNC.out HLZ.out.2.2.2.2)).mono ?_
    rintro e w5 ⟨rfl, z5, S5⟩
    clear S
    obtain ⟨I, hI⟩ : ∃ I, I = idxP (wideB s) cs := ⟨_, rfl⟩
    rw [← hI]
    rw [← hI] at HF
    clear hI
    by_cases h0 : 0 ≤ I
    · have HF2 := Lib.hid (show holdsF ar cs s tb = ([], (10, I)) by rw [HF.out, if_pos h0])
      obtain ⟨⟨y0, y1⟩, y2, y3⟩ := S5.two 2
      have hl := S5.lt 2
      have SB := Lib.hid S5
      clear S5
      go_wp2_with fail
      refine ret_zf (.slice none 0 0) (.int .i64 10) (.int .i64 I) (bx + 2) 29 (box2_set (SB.out.block 2) _ _) (fun w' q0 q1 => by simp [results, Try.results25, go_sem, q0, q1]) rfl ?_
      have hx := HBX.out
      rw [HF2.out]
      exact ⟨none, 0, rfl, Elt.Row.nil, (SB.out.bel.setCell (p := ⟨bx + 2, 0, none⟩) (by show w.heap.size ≤ bx + 2; omega) _).setCell (p := ⟨bx + 2, 1, none⟩) (by show w.heap.size ≤ bx + 2; omega) _⟩
    · have HF2 := Lib.hid (show holdsF ar cs s tb = (cs.map (trueF s tb), (0, 0)) by rw [HF.out, if_neg h0])
      obtain ⟨⟨x0, _⟩, x1, _⟩ := S5.two 0
      go_wp2_with fail
      refine S5.genC (z := bx + 3) (by omega) ?_
      intro w6 z6 S
      have S := ((S.pick [0, 1, 2]).add (.owns boolE (bx + 3) (fun b => bx + 3 ≤ b) (.slice none 0 0) []) (Elt.Own.nil _ _ _ _))
      clear S5 x0 x1
      go_loopw [8, 29] (fun o i wr => ∃ k : Nat, k ≤ cs.length ∧ i = .int .i64 k ∧ bx + 3 ≤ wr.heap.size ∧ St w wr [.box bx #[.slice ao ar.length ca, .slice co cs.length cc] 25, .box (bx + 1) #[.int .i64 s, .slice to_ tb.length (tb.length + ct)] 55, .box (bx + 2) #[.int .i64 0, .int .i64 0] 29, .owns boolE (bx + 3) (fun b => bx + 3 ≤ b) o ((cs.map (trueF s tb)).take k)]) (fun _ i _ => cs.length - (intOf i).toNat)
      case atStart => exact ⟨0, by omega, rfl, z6, S⟩
      case round =>
        clear S
        obtain ⟨k, hk, rfl, z7, S⟩ := hrel
        by_cases hlt : k < cs.length
        · have hlti : (k : Int) < (cs.length : Int) := by omega
          have HTK := Lib.hid (show (cs.map (trueF s tb)).take (k + 1) = (cs.map (trueF s tb)).take k ++ [trueF s tb cs[k]] by rw [List.take_succ_eq_append_getElem (by simpa using hlt), List.getElem_map])
          have hlk : ((cs.map (trueF s tb)).take k).length = k := by simp; omega
          obtain ⟨b, off, kc, sc, rfl, hpb, c0, h1, h2⟩ := (HC.out.kept S.bel).claim hlt
          have H1 := Lib.hid (h1.kept ((Below.refl _ wr).alloc (Nat.le_refl _) (.cells #[.slice kc cs[k].length (cs[k].length + sc)] 41)))
          have HCO := Lib.hid (HLZ.out.2.2.2.2 cs[k] (List.getElem_mem hlt))
          obtain ⟨bc, hbc⟩ : ∃ b, b = wr.heap.size := ⟨_, rfl⟩
          have S3 := S.box hbc.symm #[.slice kc cs[k].length (cs[k].length + sc)] 41
          have hz : bx + 3 ≤ (wr.alloc (.cells #[.slice kc cs[k].length (cs[k].length + sc)] 41)).heap.size := by simp; omega
          obtain ⟨⟨x0, _⟩, x1, _⟩ := S3.two 1
          clear S h1 h2
          go_wp2_with fail
          rw [← hbc]
          refine (S3.quiet (true78 ar s tb HTT.out cs[k] HCO.out p r to_ kc ct sc _ (HT.out.kept S3.bel) H1.out)).mono ?_
          rintro e w8 ⟨rfl, z8, S8⟩
          have S9 : St w w8 [.box bx #[.slice ao ar.length ca, .slice (some ⟨b, off, none⟩) cs.length cc] 25, .box (bx + 1) #[.int .i64 s, .slice to_ tb.length (tb.length + ct)] 55, .box (bx + 2) #[.int .i64 0, .int .i64 0] 29, .owns boolE (bx + 3) (fun b => bx + 3 ≤ b) _ ((cs.map (trueF s tb)).take k)] := S8.pick [0, 1, 2, 3]
          have hz8 : bx + 3 ≤ w8.heap.size := by omega
          clear S3 S8 x0 x1 c0 hbc z8 H1
          obtain ⟨X, hX⟩ : ∃ X, X = trueF s tb cs[k] := ⟨_, rfl⟩
          rw [← hX]
          rw [← hX] at HTK
          clear hX
          go_wp2_with (at_builtin; refine wpList_app rfl (.tmp 33) (.tmp 37) 56 rfl boolE S9 3 rfl (x := X) (q := fun _ => False) (p' := fun b => bx + 3 ≤ b) rfl Try.underlying56 gi gz0 gz1 gz2 rfl rfl ?v1 ?v2 ?c1 ?c2 ?c3 ?c4 ?c5 ?c6 ?c7 ?_)
          case v1 => rfl
          case v2 => rfl
          case c1 => rw [hlk]; unfold maxLen; omega
          case c2 => rw [hlk]; omega
          case c3 => omega
          case c4 => have := HBX.out; omega
          case c5 => intro b h1 h2; simp only [offs, offAll, Fct.box, and_true]; omega
          case c6 => intro b h1; exact h1.elim
          case c7 => intro b h1; rcases h1 with h1 | h1; exact h1; exact h1.elim
          intro gg cap w9 S10 hs10 hgg _
          rw [← HTK.out] at S10
          have hz10 : bx + 3 ≤ w9.heap.size := by omega
          have S10 : St w w9 [.box bx #[.slice ao ar.length ca, .slice (some ⟨b, off, none⟩) cs.length cc] 25, .box (bx + 1) #[.int .i64 s, .slice to_ tb.length (tb.length + ct)] 55, .box (bx + 2) #[.int .i64 0, .int .i64 0] 29, .owns boolE (bx + 3) (fun b => bx + 3 ≤ b) _ ((cs.map (trueF s tb)).take (k + 1))] := S10
          go_wp2_with fail
          go_roundw
          case rel => exact ⟨k + 1, by omega, by go_num, hz10, S10⟩
          case measure => simp [intOf] <;> omega
        · obtain rfl : k = cs.length := by omega
          have HO := Lib.hid (S.owns boolE 3)
          rw [List.take_of_length_le (by simp)] at HO
          obtain ⟨ro, spo, rfl, hrow, hml⟩ := HO.out.row (fun b h => by omega)
          have HROW := Lib.hid hrow
          obtain ⟨⟨y0, y1⟩, y2, y3⟩ := S.two 2
          have hl := S.lt 2
          have SB := Lib.hid S
          clear S hrow HO
          go_wp2_with fail
          refine ret_zf (.slice ro (cs.map (trueF s tb)).length ((cs.map (trueF s tb)).length + spo)) (.int .i64 0) (.int .i64 0) (bx + 2) 29 (box2_set (SB.out.block 2) _ _) (fun w' q0 q1 => by simp [results, Try.results25, go_sem, q0, q1]) rfl ?_
          have hx := HBX.out
          rw [HF2.out]
          exact ⟨ro, spo, rfl, HROW.out.keep (fun b h1 h2 => ⟨(Below.heap_setCell _ _ _ _ (by show b ≠ bx + 2; omega)).trans (Below.heap_setCell _ _ _ _ (by show b ≠ bx + 2; omega)), by omega⟩), (SB.out.bel.setCell (p := ⟨bx + 2, 0, none⟩) (by show w.heap.size ≤ bx + 2; omega) _).setCell (p := ⟨bx + 2, 1, none⟩) (by show w.heap.size ≤ bx + 2; omega) _⟩
  · have hcb : (C != 0) = true := by simp [hC]
    have HF := Lib.hid (show holdsF ar cs sz tb = ([], (C, D)) by unfold holdsF; rw [if_pos (by rw [HCD.out]; exact hC), HCD.out])
    obtain ⟨⟨x0, _⟩, x1, _⟩ := S3.two 3
    have hl3 := S3.lt 3
    clear hC
    go_wp2_with fail
    rw [← hb6]
    refine S3.genC (z := b6 + 1) z3 ?_
    intro w3 z4 S
    clear S3 x0 x1 hl3 z3 hb6
    obtain ⟨⟨y0, y1⟩, y2, y3⟩ := S.two 2
    have hl2 := S.lt 2
    obtain ⟨⟨x0, _⟩, x1, _⟩ := S.two 3
    have SD := S.drew
    obtain ⟨⟨y4, y5⟩, y6, y7⟩ := SD.two 2
    obtain ⟨⟨x4, _⟩, x5, _⟩ := SD.two 3
    have hl5 := SD.lt 2
    have n1 : ¬ b6 = bx + 2 := by have := HB6.out; omega
    have n3 : ¬ bx + 2 = b6 := by have := HB6.out; omega
    have SB := Lib.hid SD
    clear S SD
    go_region
    all_goals
      go_wp2_with fail
      refine ret_zf (.slice none 0 0) (.int .i64 C) (.int .i64 D) (bx + 2) 29 (box2_set (SB.out.block 2) _ _) (fun w' q0 q1 => by simp [results, Try.results25, go_sem, q0, q1]) rfl ?_
      have hx := HBX.out
      rw [HF.out]
      exact ⟨none, 0, rfl, Elt.Row.nil, (SB.out.bel.setCell (p := ⟨bx + 2, 0, none⟩) (by show w.heap.size ≤ bx + 2; omega) _).setCell (p := ⟨bx + 2, 1, none⟩) (by show w.heap.size ≤ bx + 2; omega) _⟩
end Go.Proofs.Ytlhnfdjidjgfgaa
