/-
  Walks: top.bits, top.models.
-/
import Derived.Test.YtlpoedjipncbhaaProg
import Derived.Test.YtlpoedjipncbhaaTw4
namespace Go.Proofs.Ytlpoedjipncbhaa
open Go.RowKit Go.Shelf
set_option linter.unusedVariables false
set_option linter.unusedSimpArgs false
set_option maxHeartbeats 400000

/-- the bits of s, the lowest first -/
def bitsL (s n : Nat) : List Bool := (List.range n).map (fun j => s.testBit j)
theorem bitsL_snoc (s j : Nat) : bitsL s (j + 1) = bitsL s j ++ [s.testBit j] := by simp [bitsL, List.range_succ]
theorem bitsL_length (s n : Nat) : (bitsL s n).length = n := by simp [bitsL]
theorem bit_bit : ∀ (k : Fin 32) (j : Fin 5), (bits BinOp.and IntKind.i64 ((k.val : Int) / 2 ^ j.val) 1 == 1) = k.val.testBit j.val := by decide +kernel
set_option maxRecDepth 100000 in
set_option maxHeartbeats 4000000 in
theorem bits13 (k : Nat) (w : World) (hk : k < 32) : Calls Try.prog 13 #[.int .i64 k, .int .i64 5] w fun e w' => ∃ o, e = .returned o ∧ boolE.Own (fun b => w.heap.size ≤ b) w.heap.size w' o (bitsL k 5) ∧ Below w.heap.size w w' := by
  obtain ⟨i4, gi, gz0, gz1, gz2⟩ := info_parts infoB
  have S1 := (St.start w).add (.owns boolE w.heap.size (fun b => w.heap.size ≤ b) (.slice none 0 0) []) (Elt.Own.nil _ _ _ _)
  go_enter Try.func13, Try.ntmps13
  go_wp2_with fail
  go_loopw [5, 6] (fun o i wr => ∃ j : Nat, j ≤ 5 ∧ i = .int .i64 j ∧ St w wr [.owns boolE w.heap.size (fun b => w.heap.size ≤ b) o (bitsL k j)]) (fun _ i _ => 5 - (intOf i).toNat)
  case atStart => exact ⟨0, by omega, rfl, S1⟩
  case round =>
    clear S1
    obtain ⟨j, hj, rfl, S⟩ := hrel
    by_cases hlt : j < 5
    · have hlti : (j : Int) < 5 := by omega
      have HB : Hid ((bits BinOp.and IntKind.i64 ((k : Int) / 2 ^ j) 1 == 1) = k.testBit j) := Lib.hid (bit_bit ⟨k, hk⟩ ⟨j, hlt⟩)
      have HL := bitsL_length k j
      go_upto_region 5 with fail
      go_wp2_with (at_builtin; refine wpList_app rfl (.tmp 12) (.tmp 18) 30 rfl boolE S 0 rfl (x := k.testBit j) (q := fun _ => False) (p' := fun b => w.heap.size ≤ b) (by rw [HB.out]; rfl) Try.underlying30 gi gz0 gz1 gz2 rfl rfl ?v1 ?v2 ?c1 ?c2 ?c3 ?c4 ?c5 ?c6 ?c7 ?_)
      try (case v1 => rfl)
      try (case v2 => first | rfl | (simp; done) | (simp; rfl))
      case c1 => rw [HL]; unfold maxLen; omega
      case c2 => rw [HL]; omega
      case c3 => exact S.size
      try (case c4 => exact Nat.le_refl _)
      try (case c5 => intro bb h1 h2 h3; simp only [offs, offAll])
      try (case c6 => intro bb h; exact h.elim)
      try (case c7 => intro bb h; rcases h with h | h; exact h; exact h.elim)
      intro gg cap2 w3 S3 hs3 hgg hat
      have SB := Lib.hid S3
      clear S S3 hat
      go_wp2_with fail
      go_roundw
      case rel => exact ⟨j + 1, by omega, by go_num, by have := SB.out; rw [← bitsL_snoc] at this; exact this⟩
      case measure => simp [intOf] <;> omega
    · obtain rfl : j = 5 := by omega
      have SB := Lib.hid S
      clear S
      go_wp2_with fail
      go_ret
      exact ⟨_, rfl, SB.out.owns boolE 0 rfl, SB.out.bel⟩

/-- how many of the first n assignments make all hold -/
def cntN (cs : List (List Int)) (n : Nat) : Nat := ((List.range n).filter (fun k => allT (fB (bitsL k 5)) cs)).length
theorem cntN_succ (cs : List (List Int)) (n : Nat) : cntN cs (n + 1) = cntN cs n + (if allT (fB (bitsL n 5)) cs then 1 else 0) := by
  unfold cntN
  rw [List.range_succ, List.filter_append, List.length_append]
  congr 1
  rw [List.filter_cons, List.filter_nil]
  split <;> rfl
theorem cntN_le (cs : List (List Int)) : ∀ n, cntN cs n ≤ n
  | 0 => by simp [cntN]
  | n + 1 => by have := cntN_le cs n; rw [cntN_succ]; split <;> omega
theorem own_bits {B : Nat} {p : Nat → Prop} {w : World} {o : Value} {k : Nat} (h : boolE.Own p B w o (bitsL k 5)) : ∃ ao sp, o = .slice ao 5 (5 + sp) ∧ boolE.Row (fun b => o.ownBlock = some b ∨ p b) w ao (bitsL k 5) := by
  obtain ⟨ao, sp, e, hr, _⟩ := h.rowB
  rw [bitsL_length] at e
  exact ⟨ao, sp, e, hr⟩
set_option maxRecDepth 100000 in
set_option maxHeartbeats 4000000 in
theorem models10 (cs : List (List Int)) (q : Nat → Prop) (ko : Option Addr) (kc : Nat) (w : World) (hG : ∀ c ∈ cs, ∀ l ∈ c, l ≠ 0 ∧ l.natAbs ≤ 5) (hcl : cs.length ≤ maxLen) (hk : intsE.Row q w ko cs) :
    Calls Try.prog 10 #[.agg #[.int .i64 5, .slice ko cs.length kc]] w fun e w' => e = .returned (.int .i64 (cntN cs 32)) ∧ Below w.heap.size w w' := by
  have HCK := Lib.hid (fun (w1 : World) (p : Nat → Prop) (ao : Option Addr) (a : List Bool) (cp : Nat) (hb : Below w.heap.size w w1) (ha : a.length = 5) (hr : boolE.Row p w1 ao a) => holds11 cs p q ko ao a kc cp w1 (by rw [ha]; exact hG) (by omega) hcl (hk.kept hb) hr)
  obtain ⟨n, hn⟩ : ∃ n, n = cs.length := ⟨_, rfl⟩
  rw [← hn] at HCK ⊢
  obtain ⟨bx, hbx⟩ : ∃ b, b = w.heap.size := ⟨_, rfl⟩
  have S1 := (St.start w).box hbx.symm #[.int .i64 5, .slice ko n kc] 25
  clear hG hcl hk hn
  go_enter Try.func10, Try.ntmps10
  go_wp2_with fail
  rw [← hbx]
  refine S1.genC (z := bx + 1) (by simp [hbx]) ?_
  intro w1 z1 S
  clear S1 hbx
  go_loopw [3, 4] (fun ct i wr => ∃ k : Nat, k ≤ 32 ∧ i = .int .i64 k ∧ ct = .int .i64 (cntN cs k) ∧ St w wr [.box bx #[.int .i64 5, .slice ko n kc] 25]) (fun _ i _ => 32 - (intOf i).toNat)
  case atStart => exact ⟨0, by omega, rfl, rfl, S⟩
  case round =>
    clear S
    obtain ⟨k, hk, rfl, rfl, S⟩ := hrel
    have hcl := cntN_le cs k
    obtain ⟨⟨y0, y1⟩, y2, y3⟩ := S.two 0
    by_cases hlt : k < 32
    · have hlti : (k : Int) < 32 := by omega
      have FC := Lib.hid (fun W (hb : Below wr.heap.size wr W) => (show W.cell? ⟨bx, 1, none⟩ = some (.slice ko n kc) ∧ W.cell? ⟨bx, 0, none⟩ = some (.int .i64 5) from ⟨Below.cellOf hb y2, Below.cellOf hb y0⟩))
      have SD := Lib.hid S.drew
      have HST := Lib.hid (cntN_succ cs k)
      go_upto_region 5 with fail
      clear y0 y1 y2 y3 S
      refine wpT_region [] (fun W => W.cell? ⟨bx, 1, none⟩ = some (.slice ko n kc) ∧ W.cell? ⟨bx, 0, none⟩ = some (.int .i64 5)) (by kernel_rfl) ?_
      have HS := FC.out _ (Below.refl _ wr).drew
      try simp only [Act.put, List.setIfInBounds_toArray, List.set_cons_zero, List.set_cons_succ]
      refine wpT.take (i := 0) (by kernel_rfl) (by kernel_rfl) (by kernel_rfl) (by kernel_rfl) (by kernel_rfl) (fun _ => HS) ?_
      intro oi ho
      simp only [List.getElem?_toArray, List.getElem?_cons_succ, List.getElem?_cons_zero, Option.some.injEq] at ho
      subst ho
      refine ⟨?_, Or.inl ⟨by rfl, ?_⟩, fun _ _ _ h => h, ?_⟩
      rotate_left 1
      · intro W hW
        try (subst hW)
        try dsimp only at hW
        go_simp
        try with_reducible rfl
      try simp only [Act.put, List.setIfInBounds_toArray, List.set_cons_zero, List.set_cons_succ]
      refine wpT.take (i := 1) (by kernel_rfl) (by kernel_rfl) (by kernel_rfl) (by kernel_rfl) (by kernel_rfl) (fun _ => HS) ?_
      intro oi ho
      simp only [List.getElem?_toArray, List.getElem?_cons_succ, List.getElem?_cons_zero, Option.some.injEq] at ho
      subst ho
      refine ⟨?_, Or.inl ⟨by rfl, ?_⟩, fun _ _ _ h => h, ?_⟩
      rotate_left 1
      · intro W hW
        try (subst hW)
        try dsimp only at hW
        go_simp
        try with_reducible rfl
      try simp only [Act.put, List.setIfInBounds_toArray, List.set_cons_zero, List.set_cons_succ]
      refine wpT.take (i := 2) (by kernel_rfl) (by kernel_rfl) (by kernel_rfl) (by kernel_rfl) (by kernel_rfl) (fun _ => HS) ?_
      intro oi ho
      simp only [List.getElem?_toArray, List.getElem?_cons_succ, List.getElem?_cons_zero, Option.some.injEq] at ho
      subst ho
      refine ⟨?_, Or.inl ⟨by rfl, ?_⟩, fun _ _ _ h => h, ?_⟩
      rotate_left 1
      · intro W hW
        try (subst hW)
        try dsimp only at hW
        go_simp
        try with_reducible rfl
      try simp only [Act.put, List.setIfInBounds_toArray, List.set_cons_zero, List.set_cons_succ]
      refine wpT.take (i := 3) (by kernel_rfl) (by kernel_rfl) (by kernel_rfl) (by kernel_rfl) (by kernel_rfl) (fun _ => HS) ?_
      intro oi ho
      simp only [List.getElem?_toArray, List.getElem?_cons_succ, List.getElem?_cons_zero, Option.some.injEq] at ho
      subst ho
      refine ⟨?_, Or.inl ⟨by rfl, ?_⟩, fun _ _ _ h => h, ?_⟩
      rotate_left 1
      · intro W hW
        try (subst hW)
        try dsimp only at hW
        go_simp
        try with_reducible rfl
      try simp only [Act.put, List.setIfInBounds_toArray, List.set_cons_zero, List.set_cons_succ]
      refine wpT.take (i := 4) (by kernel_rfl) (by kernel_rfl) (by kernel_rfl) (by kernel_rfl) (by kernel_rfl) (fun _ => HS) ?_
      intro oi ho
      simp only [List.getElem?_toArray, List.getElem?_cons_succ, List.getElem?_cons_zero, Option.some.injEq] at ho
      subst ho
      refine ⟨?_, Or.inl ⟨by rfl, ?_⟩, fun _ _ _ h => h, ?_⟩
      rotate_left 1
      · intro W hW
        try (subst hW)
        try dsimp only at hW
        go_simp
        try with_reducible rfl
      try simp only [Act.put, List.setIfInBounds_toArray, List.set_cons_zero, List.set_cons_succ]
      refine wpT.one (i := 5) (by kernel_rfl) ?_
      intro oi ho
      simp only [List.getElem?_toArray, List.getElem?_cons_succ, List.getElem?_cons_zero, Option.some.injEq] at ho
      subst ho
      intro K' hK
      have HK := Lib.hid hK
      clear hK
      go_simp
      go_at_call 13
      refine (bits13 k _ hlt).mono ?_
      rintro e w5 ⟨o, rfl, hown, hb5⟩
      obtain ⟨ao, sp, rfl, hrow⟩ := own_bits hown
      have HROW := Lib.hid hrow
      have S5 := Lib.hid (SD.out.step hb5)
      have HB5 := Lib.hid (Below.step (Below.refl _ wr).drew hb5)
      clear hown hrow hb5
      refine HK.out _ _ (fun _ => FC.out _ HB5.out) ?_
      try simp only [Act.put, List.setIfInBounds_toArray, List.set_cons_zero, List.set_cons_succ]
      refine wpT.one (i := 6) (by kernel_rfl) ?_
      intro oi ho
      simp only [List.getElem?_toArray, List.getElem?_cons_succ, List.getElem?_cons_zero, Option.some.injEq] at ho
      subst ho
      intro K' hK
      have HK := Lib.hid hK
      clear hK
      go_simp
      go_at_call 11
      have HC := HCK.out w5 _ ao (bitsL k 5) (5 + sp) S5.out.bel (bitsL_length k 5) HROW.out
      rw [bitsL_length] at HC
      refine HC.mono ?_
      clear HC
      rintro e w6 ⟨rfl, hb6⟩
      have S6 := Lib.hid (S5.out.step hb6)
      have HB6 := Lib.hid (Below.step HB5.out hb6)
      clear hb6
      refine HK.out _ _ (fun _ => FC.out _ HB6.out) ?_
      try simp only [Act.put, List.setIfInBounds_toArray, List.set_cons_zero, List.set_cons_succ]
      refine wpT.done (by kernel_rfl) ?_
      obtain ⟨B0, hB0⟩ : ∃ b, b = allT (fB (bitsL k 5)) cs := ⟨_, rfl⟩
      rw [← hB0] at HST ⊢
      clear hB0
      cases B0 with
      | true =>
        go_wp2_with fail
        go_roundw
        case rel => exact ⟨k + 1, by omega, by go_num, by rw [HST.out]; rfl, S6.out⟩
        case measure => simp [intOf] <;> omega
      | false =>
        go_wp2_with fail
        go_roundw
        case rel => exact ⟨k + 1, by omega, by go_num, by rw [HST.out]; rfl, S6.out⟩
        case measure => simp [intOf] <;> omega
    · obtain rfl : k = 32 := by omega
      have SB := Lib.hid S
      clear S
      go_wp2_with fail
      go_ret
      exact ⟨rfl, SB.out.bel⟩
end Go.Proofs.Ytlpoedjipncbhaa
