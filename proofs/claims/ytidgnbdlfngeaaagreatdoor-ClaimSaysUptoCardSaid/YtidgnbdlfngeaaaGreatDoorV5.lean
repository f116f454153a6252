/-
  Walks: claim.Check.
-/
import Derived.Test.YtidgnbdlfngeaaaGreatDoorProg
import Derived.Test.YtidgnbdlfngeaaaGreatDoorV4
import Derived.RegionTactic
namespace Go.Proofs.YtidgnbdlfngeaaaGreatDoor
open Go.RowKit Go.Shelf
set_option linter.unusedVariables false
set_option maxHeartbeats 400000

def badA (x : Int) : Bool := decide (x < 0) || decide (3 < x)
theorem bad115 (x : Int) (w : World) : Calls Tryz.prog 19 #[.int .i64 x] w fun e w' => e = .returned (.bool (badA x)) ∧ Below w.heap.size w w' := by
  by_cases h : x < 0
  · have HB := Lib.hid (show badA x = true by unfold badA; rw [decide_eq_true h]; rfl)
    go_enter Tryz.func19, Tryz.ntmps19
    go_wp2_with fail
    go_ret
    exact ⟨ret_bool HB.out.symm, Below.refl _ _⟩
  · have HB := Lib.hid (show badA x = decide (3 < x) by unfold badA; rw [decide_eq_false h]; rfl)
    go_enter Tryz.func19, Tryz.ntmps19
    go_wp2_with fail
    go_ret
    exact ⟨ret_bool HB.out.symm, Below.refl _ _⟩
/-- the first of a list with a fault, and where -/
def firstP {α : Type} (f : α → Int) : List α → Int → Int × Int
  | [], _ => (0, 0)
  | x :: r, i => if f x ≠ 0 then (f x, i) else firstP f r (i + 1)
theorem firstP_hit {α : Type} {f : α → Int} : ∀ {l : List α} {k : Nat} {x : α} {a : Int}, (∀ (j : Nat) y, j < k → l[j]? = some y → f y = 0) → l[k]? = some x → f x ≠ 0 → firstP f l a = (f x, a + k)
  | [], k, x, a, _, h, _ => by simp at h
  | y :: r, 0, x, a, _, h, hx => by simp at h; subst h; rw [firstP, if_pos hx]; simp
  | y :: r, k + 1, x, a, hno, h, hx => by
    rw [firstP, if_neg (by simpa using hno 0 y (by omega) rfl), firstP_hit (k := k) (x := x) (fun j z hj hz => hno (j + 1) z (by omega) (by simpa using hz)) (by simpa using h) hx]
    simp only [Prod.mk.injEq, true_and]; omega
theorem firstP_none {α : Type} {f : α → Int} : ∀ {l : List α} {a : Int}, (∀ (j : Nat) y, j < l.length → l[j]? = some y → f y = 0) → firstP f l a = (0, 0)
  | [], a, _ => rfl
  | y :: r, a, h => by rw [firstP, if_neg (by simpa using h 0 y (by simp) rfl)]; exact firstP_none (fun j z hj hz => h (j + 1) z (by simpa using hj) (by simpa using hz))
theorem firstP_zero {α : Type} {f : α → Int} : ∀ {l : List α} {a : Int}, (firstP f l a).1 = 0 → firstP f l a = (0, 0) ∧ ∀ x ∈ l, f x = 0
  | [], a, _ => ⟨rfl, fun x hx => by cases hx⟩
  | y :: r, a, h => by
    rw [firstP] at h ⊢
    by_cases hy : f y ≠ 0
    · rw [if_pos hy] at h; exact absurd h hy
    · rw [if_neg hy] at h ⊢
      have h2 := firstP_zero h
      exact ⟨h2.1, fun x hx => (List.mem_cons.1 hx).elim (fun e => by rw [e]; simpa using hy) (h2.2 x)⟩
def loreF (ar : List Int) (cs : List (List Fc)) : Int × Int :=
  if 12 < ar.length ∨ 60 < cs.length then (2, 0) else if 0 ≤ idxP badA ar then (3, idxP badA ar) else firstP (codeF ar) cs 0
theorem loreF_zero {ar : List Int} {cs : List (List Fc)} (h : (loreF ar cs).1 = 0) : loreF ar cs = (0, 0) ∧ ar.length ≤ 12 ∧ cs.length ≤ 60 ∧ (∀ x ∈ ar, 0 ≤ x ∧ x ≤ 3) ∧ ∀ c ∈ cs, codeF ar c = 0 := by
  unfold loreF at h ⊢
  by_cases h1 : 12 < ar.length ∨ 60 < cs.length
  · rw [if_pos h1] at h; cases h
  · rw [if_neg h1] at h ⊢
    by_cases h2 : 0 ≤ idxP badA ar
    · rw [if_pos h2] at h; cases h
    · rw [if_neg h2] at h ⊢
      have h3 := firstP_zero h
      refine ⟨h3.1, by omega, by omega, fun x hx => ?_, h3.2⟩
      have h4 : ¬ ar.any badA = true := fun e => h2 (idxP_any.2 e)
      have h5 : ¬ badA x = true := fun e => h4 (List.any_eq_true.2 ⟨x, hx, e⟩)
      unfold badA at h5
      simp only [Bool.or_eq_true, decide_eq_true_eq, not_or] at h5
      omega

set_option maxRecDepth 100000 in
set_option maxHeartbeats 4000000 in
theorem lore79 (ar : List Int) (cs : List (List Fc)) (p q : Nat → Prop) (ao co : Option Addr) (ca cc : Nat) (w : World) (ha : intE.Row q w ao ar) (h : claimE.Row p w co cs) (hna : ar.length ≤ maxLen) (hn : cs.length ≤ maxLen) :
    Calls Tryz.prog 6 #[.agg #[.slice ao ar.length ca, .slice co cs.length cc]] w fun e w' => e = .returned (FV (loreF ar cs)) ∧ Below w.heap.size w w' := by
  have HC := Lib.hid h; have HA := Lib.hid ha; have HNA := Lib.hid hna
  have hn' : cs.length ≤ 9223372036854775807 := by unfold maxLen at hn; omega
  have hn2 : ar.length ≤ 9223372036854775807 := by unfold maxLen at hna; omega
  clear h ha hn hna
  by_cases hb : 12 < ar.length ∨ 60 < cs.length
  · have HF := Lib.hid (show loreF ar cs = (2, 0) by unfold loreF; rw [if_pos hb])
    have SB := Lib.hid (((St.start w).box rfl #[.slice ao ar.length ca, .slice co cs.length cc] 25).box (b := w.heap.size + 1) (by simp) #[.int .i64 2, .int .i64 0] 28)
    by_cases h12 : 12 < ar.length
    · have h12i : (12 : Int) < (ar.length : Int) := by omega
      clear hb
      go_enter Tryz.func6, Tryz.ntmps6
      go_wp2_with fail
      refine ret_box2 (.int .i64 2) (.int .i64 0) (w.heap.size + 1) 28 (SB.out.block 1) (fun w' q0 q1 => by simp [results, Tryz.results6, go_sem, q0, q1]) rfl ?_
      exact ⟨by rw [HF.out]; rfl, SB.out.bel⟩
    · have h12i : ¬ (12 : Int) < (ar.length : Int) := by omega
      have h60i : (60 : Int) < (cs.length : Int) := by omega
      clear hb
      go_enter Tryz.func6, Tryz.ntmps6
      go_wp2_with fail
      refine ret_box2 (.int .i64 2) (.int .i64 0) (w.heap.size + 1) 28 (SB.out.block 1) (fun w' q0 q1 => by simp [results, Tryz.results6, go_sem, q0, q1]) rfl ?_
      exact ⟨by rw [HF.out]; rfl, SB.out.bel⟩
  · have h12i : ¬ (12 : Int) < (ar.length : Int) := by omega
    have h60i : ¬ (60 : Int) < (cs.length : Int) := by omega
    have HF := Lib.hid (show loreF ar cs = if 0 ≤ idxP badA ar then (3, idxP badA ar) else firstP (codeF ar) cs 0 by unfold loreF; rw [if_neg hb])
    have HAL := Lib.hid (show ar.length ≤ 12 by omega)
    obtain ⟨bx, hbx⟩ : ∃ b, b = w.heap.size := ⟨_, rfl⟩
    have S1 := ((St.start w).box hbx.symm #[.slice ao ar.length ca, .slice co cs.length cc] 25).box (b := bx + 1) (by simp [hbx]) #[.int .i64 0, .int .i64 0] 28
    have hsz1 : ((w.alloc (.cells #[.slice ao ar.length ca, .slice co cs.length cc] 25)).alloc (.cells #[.int .i64 0, .int .i64 0] 28)).heap.size = bx + 2 := by simp [hbx]
    clear hb
    go_enter Tryz.func6, Tryz.ntmps6
    go_wp2_with fail
    rw [← hbx]
    refine S1.gen (z := bx + 2) (by omega) ?_
    intro w1 z1 S
    have HBX := Lib.hid hbx
    clear S1 hbx hsz1
    refine (S.quiet (idxI 19 #[] (enters_of Tryz.func19 (by kernel_rfl) rfl) q ao ar ca badA w1 HNA.out (HA.out.kept S.bel) (fun i x w2 _ _ => bad115 x w2))).mono ?_
    rintro e w2 ⟨rfl, z2, S2⟩
    clear S
    obtain ⟨I, hI⟩ : ∃ I, I = idxP badA ar := ⟨_, rfl⟩
    rw [← hI]
    rw [← hI] at HF
    clear hI
    by_cases h0 : 0 ≤ I
    · have HF2 := Lib.hid (show loreF ar cs = (3, I) by rw [HF.out, if_pos h0])
      obtain ⟨⟨y0, y1⟩, y2, y3⟩ := S2.two 1
      have hl := S2.lt 1
      have SB := Lib.hid S2
      clear S2
      go_wp2_with fail
      refine ret_box2 (.int .i64 3) (.int .i64 I) (bx + 1) 28 (box2_set (SB.out.block 1) _ _) (fun w' q0 q1 => by simp [results, Tryz.results6, go_sem, q0, q1]) rfl ?_
      have hx := HBX.out
      exact ⟨by rw [HF2.out]; rfl, (SB.out.bel.setCell (p := ⟨bx + 1, 0, none⟩) (by show w.heap.size ≤ bx + 1; omega) _).setCell (p := ⟨bx + 1, 1, none⟩) (by show w.heap.size ≤ bx + 1; omega) _⟩
    · have HF2 := Lib.hid (show loreF ar cs = firstP (codeF ar) cs 0 by rw [HF.out, if_neg h0])
      obtain ⟨⟨x0, _⟩, x1, _⟩ := S2.two 0
      go_wp2_with fail
      refine S2.genC (z := bx + 2) (by omega) ?_
      intro w3 z3 S
      clear S2 x0 x1
      go_loopw [28] (fun i wr => ∃ k : Nat, k ≤ cs.length ∧ i = .int .i64 k ∧ (∀ (j : Nat) y, j < k → cs[j]? = some y → codeF ar y = 0) ∧ bx + 2 ≤ wr.heap.size ∧ St w wr [.box bx #[.slice ao ar.length ca, .slice co cs.length cc] 25, .box (bx + 1) #[.int .i64 0, .int .i64 0] 28]) (fun i _ => cs.length - (intOf i).toNat)
      case atStart => exact ⟨0, by omega, rfl, fun j y hj _ => by omega, z3, S⟩
      case round =>
        clear S
        obtain ⟨k, hk, rfl, hno, z4, S⟩ := hrel
        have HNO := Lib.hid hno
        clear hno
        by_cases hlt : k < cs.length
        · have hlti : (k : Int) < (cs.length : Int) := by omega
          obtain ⟨b, off, kc, sc, rfl, hpb, c0, h1, h2⟩ := (HC.out.kept S.bel).claim hlt
          have HX := Lib.hid (List.getElem?_eq_getElem hlt)
          have H1 := Lib.hid (h1.kept ((Below.refl _ wr).alloc (Nat.le_refl _) (.cells #[.slice kc cs[k].length (cs[k].length + sc)] 42)))
          have H2 := Lib.hid h2
          obtain ⟨bc, hbc⟩ : ∃ b, b = wr.heap.size := ⟨_, rfl⟩
          have S3 := S.box hbc.symm #[.slice kc cs[k].length (cs[k].length + sc)] 42
          have HAK := Lib.hid (HA.out.kept S3.bel)
          have hz : bx + 2 ≤ (wr.alloc (.cells #[.slice kc cs[k].length (cs[k].length + sc)] 42)).heap.size := by simp; omega
          obtain ⟨⟨x0, _⟩, x1, _⟩ := S3.two 0
          clear S h1 h2
          go_wp2_with fail
          rw [← hbc]
          refine (S3.quiet (code73 ar cs[k] p q ao kc ca sc _ HAK.out H1.out (by have := HAL.out; omega) H2.out)).mono ?_
          rintro e w5 ⟨rfl, z5, S5⟩
          have S6 := S5.pick [0, 1]
          have hz5 : bx + 2 ≤ w5.heap.size := by omega
          clear S3 S5 x0 x1 c0 hbc z5 HAK H1
          obtain ⟨C, hC⟩ : ∃ C, C = codeF ar cs[k] := ⟨_, rfl⟩
          rw [← hC]
          by_cases h0c : C = 0
          · have hcb : (C != 0) = false := by simp [h0c]
            have HN := Lib.hid (show ∀ (j : Nat) y, j < k + 1 → cs[j]? = some y → codeF ar y = 0 from fun j y hj hy => by
              rcases Nat.lt_succ_iff_lt_or_eq.1 hj with h | rfl
              · exact HNO.out j y h hy
              · rw [HX.out] at hy; obtain rfl := Option.some.inj hy; rw [← hC]; exact h0c)
            clear hC h0c
            go_wp2_with fail
            go_roundw
            case rel => exact ⟨k + 1, by omega, by go_num, HN.out, hz5, S6⟩
            case measure => simp [intOf] <;> omega
          · have hcb : (C != 0) = true := by simp [h0c]
            have HF3 := Lib.hid (show loreF ar (cs) = (C, (k : Int)) by rw [HF2.out, firstP_hit HNO.out HX.out (by rw [← hC]; exact h0c), ← hC]; simp)
            obtain ⟨⟨y0, y1⟩, y2, y3⟩ := S6.two 1
            have hl := S6.lt 1
            have SB := Lib.hid S6
            clear S6 hC h0c
            go_wp2_with fail
            refine ret_box2 (.int .i64 C) (.int .i64 k) (bx + 1) 28 (box2_set (SB.out.block 1) _ _) (fun w' q0 q1 => by simp [results, Tryz.results6, go_sem, q0, q1]) rfl ?_
            have hx := HBX.out
            exact ⟨by rw [HF3.out]; rfl, (SB.out.bel.setCell (p := ⟨bx + 1, 0, none⟩) (by show w.heap.size ≤ bx + 1; omega) _).setCell (p := ⟨bx + 1, 1, none⟩) (by show w.heap.size ≤ bx + 1; omega) _⟩
        · obtain rfl : k = cs.length := by omega
          have HF3 := Lib.hid (show loreF ar cs = (0, 0) by rw [HF2.out, firstP_none HNO.out])
          obtain ⟨⟨y0, y1⟩, y2, y3⟩ := S.two 1
          have hl := S.lt 1
          have SB := Lib.hid S
          clear S
          go_wp2_with fail
          refine ret_box2 (.int .i64 0) (.int .i64 0) (bx + 1) 28 (box2_set (SB.out.block 1) _ _) (fun w' q0 q1 => by simp [results, Tryz.results6, go_sem, q0, q1]) rfl ?_
          have hx := HBX.out
          exact ⟨by rw [HF3.out]; rfl, (SB.out.bel.setCell (p := ⟨bx + 1, 0, none⟩) (by show w.heap.size ≤ bx + 1; omega) _).setCell (p := ⟨bx + 1, 1, none⟩) (by show w.heap.size ≤ bx + 1; omega) _⟩
end Go.Proofs.YtidgnbdlfngeaaaGreatDoor
