/-
  Walks: cnf.Check of good clauses; kit.CnfOf.
-/
import Derived.Test.YtlpoedjipncbhaaProg
import Derived.Test.YtlpoedjipncbhaaTd5
import Derived.Deep.CutBlock
import Derived.Test.YtlpoedjipncbhaaG7
import Derived.RegionTactic
import Derived.BigQuiet
import Derived.Deep.DeepCutAuto
namespace Go.Proofs.Ytlpoedjipncbhaa
open Go.RowKit Go.Shelf
set_option linter.unusedVariables false
set_option linter.unusedSimpArgs false
set_option maxHeartbeats 400000

set_option maxRecDepth 100000 in
set_option maxHeartbeats 4000000 in
theorem check21 (p : Nat → Prop) (ao : Option Addr) (cs : List (List Int)) (cp : Nat) (w : World) (hG : ∀ c ∈ cs, GoodC 5 c) (hc : intsE.Row p w ao cs) (hn : cs.length ≤ 16) :
    Calls Try.prog 20 #[.agg #[.int .i64 5, .slice ao cs.length cp]] w fun e w' => e = .returned (.agg #[.int .i64 0, .int .i64 0]) ∧ Below w.heap.size w w' := by
  have HC := Lib.hid hc
  have HG := Lib.hid hG
  obtain ⟨m, hm⟩ : ∃ m, m = cs.length := ⟨_, rfl⟩
  rw [← hm] at hn ⊢
  have HM := Lib.hid hm
  obtain ⟨bx, hbx⟩ : ∃ b, b = w.heap.size := ⟨_, rfl⟩
  have S1 := ((St.start w).box hbx.symm #[.int .i64 5, .slice ao m cp] 25).box (b := bx + 1) (by simp [hbx]) #[.int .i64 0, .int .i64 0] 32
  have HBX := Lib.hid hbx
  clear hc hG hm
  go_enter Try.func20, Try.ntmps20
  go_wp2_with fail
  rw [← hbx]
  refine S1.genC (z := bx + 2) (by simp [hbx]) ?_
  intro w1 z1 S
  clear S1 hbx
  go_wp2_with fail
  go_loopw [26] (fun i wr => ∃ k : Nat, k ≤ m ∧ i = .int .i64 k ∧ St w wr [.box bx #[.int .i64 5, .slice ao m cp] 25, .box (bx + 1) #[.int .i64 0, .int .i64 0] 32]) (fun i _ => m - (intOf i).toNat)
  case atStart => exact ⟨0, Nat.zero_le _, rfl, S⟩
  case round =>
    clear S
    obtain ⟨k, hk, rfl, S⟩ := hrel
    by_cases hlt : k < m
    · have hltc : k < cs.length := by have := HM.out; omega
      obtain ⟨y0, y1⟩ := S.two 0
      obtain ⟨b, off, ko, sp, rfl, hpb, c1, h1, h2⟩ := (HC.out.kept S.bel).ints hltc
      have HGc := Lib.hid (HG.out cs[k] (List.getElem_mem hltc))
      obtain ⟨x, hx⟩ : ∃ x, x = cs[k] := ⟨_, rfl⟩
      rw [← hx] at c1 h1 HGc
      have hl3 := HGc.out.len
      have H1 := Lib.hid h1
      obtain ⟨xl, hxl⟩ : ∃ n, n = x.length := ⟨_, rfl⟩
      have HXL := Lib.hid hxl
      rw [← hxl] at c1 hl3
      clear hx h1 h2 hxl hltc
      go_wp2_with fail
      have HB := bad34 5 p ko x sp wr HGc.out H1.out (by omega)
      rw [← HXL.out] at HB
      refine (S.quiet HB).mono ?_
      clear HB
      rintro e w2 ⟨rfl, z2, S2⟩
      have SB := Lib.hid S2
      clear S S2
      go_wp2_with fail
      go_roundw
      case rel => exact ⟨k + 1, by omega, by go_num, SB.out⟩
      case measure => simp [intOf] <;> omega
    · obtain rfl : k = m := by omega
      have S3 := Lib.hid (S.set2 1 rfl (.int .i64 0) (.int .i64 0) (by have := HBX.out; omega) (by simp only [offs, offAll, Fct.box, and_true]; omega))
      have SB := Lib.hid S
      obtain ⟨⟨y0, y1⟩, y2, y3⟩ := S.two 1
      have hly := S.lt 1
      clear S
      go_wp2_with fail
      refine ret_box2 (.int .i64 0) (.int .i64 0) (bx + 1) 32 (box2_set (SB.out.block 1) _ _) (fun w' q0 q1 => by simp [results, Try.results20, go_sem, q0, q1]) rfl ?_
      exact ⟨rfl, S3.out.bel⟩

/-- what CnfOf makes: at most n good clauses -/
def CnfP (n : Nat) (w : World) (e : Ending) (w' : World) : Prop :=
  ∃ cs lo sp, e = .returned (.agg #[.int .i64 5, .slice lo cs.length (cs.length + sp)]) ∧ cs.length ≤ n ∧ (∀ c ∈ cs, GoodC 5 c) ∧ intsE.Row (fun b => w.heap.size ≤ b) w' lo cs ∧ Below w.heap.size w w'
theorem infoS : (Try.prog.info? 22).map (fun i => (i.zero, i.size, i.bytes)) = some (some (.slice none 0 0), 1, 24) := by kernel_rfl
set_option maxRecDepth 100000 in
set_option maxHeartbeats 8000000 in
theorem cnfOf9 (p : Nat → Prop) (ao : Option Addr) (l : List Int) (lc : Nat) (n : Nat) (w : World) (hl : intE.Row p w ao l) (hln : l.length ≤ maxLen) (hlc : l.length ≤ lc) (hn : n ≤ 16) :
    Calls Try.prog 4 #[.slice ao l.length lc, .int .i64 5, .int .i64 n] w (CnfP n w) := by
  obtain ⟨i3, gi, gz0, gz1, gz2⟩ := info_parts infoS
  have HL := Lib.hid hl
  unfold maxLen at hln
  obtain ⟨m, hm⟩ : ∃ m, m = l.length := ⟨_, rfl⟩
  rw [← hm] at hln hlc ⊢
  have HM := Lib.hid hm
  obtain ⟨bx, hbx⟩ : ∃ b, b = w.heap.size := ⟨_, rfl⟩
  have S1 := (((St.start w).box hbx.symm #[.int .i64 0, .slice none 0 0] 25).box (b := bx + 1) (by simp [hbx]) #[.int .i64 5, .slice none 0 0] 25).add (.owns intsE (bx + 2) (fun b => bx + 2 ≤ b) (.slice none 0 0) []) (Elt.Own.nil _ _ _ _)
  have HBX := Lib.hid hbx
  clear hl hm
  go_enter Try.func4, Try.ntmps4
  go_wp2_with fail
  rw [← hbx]
  refine S1.genC (z := bx + 2) (by simp [hbx]) ?_
  intro w1 z1 S
  clear S1 hbx
  go_loopw [8] (fun i wr => ∃ (k : Nat) (o : Value) (cs : List (List Int)), k ≤ n ∧ k ≤ m ∧ i = .int .i64 k ∧ cs.length = k ∧ Hid (∀ c ∈ cs, GoodC 5 c) ∧ St w wr [.box bx #[.int .i64 0, .slice none 0 0] 25, .box (bx + 1) #[.int .i64 5, o] 25, .owns intsE (bx + 2) (fun b => bx + 2 ≤ b) o cs]) (fun i _ => n - (intOf i).toNat)
  case atStart => exact ⟨0, _, [], by omega, by omega, rfl, rfl, Lib.hid (by simp), S⟩
  case round =>
    clear S
    obtain ⟨k, o, cs, hk, hkm, rfl, hck, HG, S⟩ := hrel
    by_cases g1 : k < m
    · by_cases g2 : k < n
      · have hltc : k < l.length := by have := HM.out; omega
        obtain ⟨b, off, rfl, hpb, c1⟩ := (HL.out.kept S.bel).int hltc
        obtain ⟨x, hx⟩ : ∃ x, x = l[k] := ⟨_, rfl⟩
        rw [← hx] at c1
        have FC := Lib.hid (fun W (hb : Below wr.heap.size wr W) => (show W.cell? ⟨bx + 1, 1, none⟩ = some o ∧ W.cell? ⟨b, off + k, none⟩ = some (.int .i64 x) from ⟨Below.cellOf hb (S.two 1).2.1, Below.cellOf hb c1⟩))
        have SD := Lib.hid S.drew
        have hmi : (k : Int) < (m : Int) := by omega
        have hni : (k : Int) < (n : Int) := by omega
        have HCK := Lib.hid hck
        have hz1 := S.lt 1
        have hoff := S.ownlt intsE 2 rfl
        have HOF := Lib.hid hoff
        have HZ := Lib.hid hz1
        clear hx hltc S c1 hck hoff hz1
        go_upto_region 5 with fail
        refine wpT_region [9, 11] (fun W => W.cell? ⟨bx + 1, 1, none⟩ = some o ∧ W.cell? ⟨b, off + k, none⟩ = some (.int .i64 x)) (by kernel_rfl) ?_
        have HS := FC.out _ (Below.refl _ wr).drew
        try simp only [Act.put, List.setIfInBounds_toArray, List.set_cons_zero, List.set_cons_succ]
        refine wpT.take (i := 0) (by kernel_rfl) (by kernel_rfl) (by kernel_rfl) (by kernel_rfl) (by kernel_rfl) (fun _ => HS) ?_
        intro oi ho
        simp only [List.getElem?_toArray, List.getElem?_cons_succ, List.getElem?_cons_zero, Option.some.injEq] at ho
        subst ho
        refine ⟨?_, Or.inl ⟨by rfl, ?_⟩, fun _ _ _ h => h, ?_⟩
        rotate_left 1
        · intro W hW
          try dsimp only at hW
          go_simp
          try with_reducible rfl
        try simp only [Act.put, List.setIfInBounds_toArray, List.set_cons_zero, List.set_cons_succ]
        refine wpT.take (i := 1) (by kernel_rfl) (by kernel_rfl) (by kernel_rfl) (by kernel_rfl) (by kernel_rfl) (fun _ => HS) ?_
        intro oi ho
        simp only [List.getElem?_toArray, List.getElem?_cons_succ, List.getElem?_cons_zero, Option.some.injEq] at ho
        subst ho
        refine ⟨?_, Or.inl ⟨by rfl, ?_⟩, fun _ _ _ h => h, ?_⟩
        rotate_left 1
        · intro W hW
          try dsimp only at hW
          go_simp
          try with_reducible rfl
        try simp only [Act.put, List.setIfInBounds_toArray, List.set_cons_zero, List.set_cons_succ]
        refine wpT.take (i := 2) (by kernel_rfl) (by kernel_rfl) (by kernel_rfl) (by kernel_rfl) (by kernel_rfl) (fun _ => HS) ?_
        intro oi ho
        simp only [List.getElem?_toArray, List.getElem?_cons_succ, List.getElem?_cons_zero, Option.some.injEq] at ho
        subst ho
        refine ⟨?_, Or.inl ⟨by rfl, ?_⟩, fun _ _ _ h => h, ?_⟩
        rotate_left 1
        · intro W hW
          try dsimp only at hW
          go_simp
          try with_reducible rfl
        try simp only [Act.put, List.setIfInBounds_toArray, List.set_cons_zero, List.set_cons_succ]
        refine wpT.take (i := 3) (by kernel_rfl) (by kernel_rfl) (by kernel_rfl) (by kernel_rfl) (by kernel_rfl) (fun _ => HS) ?_
        intro oi ho
        simp only [List.getElem?_toArray, List.getElem?_cons_succ, List.getElem?_cons_zero, Option.some.injEq] at ho
        subst ho
        refine ⟨?_, Or.inl ⟨by rfl, ?_⟩, fun _ _ _ h => h, ?_⟩
        rotate_left 1
        · intro W hW
          try dsimp only at hW
          go_simp
          try with_reducible rfl
        try simp only [Act.put, List.setIfInBounds_toArray, List.set_cons_zero, List.set_cons_succ]
        refine wpT.take (i := 4) (by kernel_rfl) (by kernel_rfl) (by kernel_rfl) (by kernel_rfl) (by kernel_rfl) (fun _ => HS) ?_
        intro oi ho
        simp only [List.getElem?_toArray, List.getElem?_cons_succ, List.getElem?_cons_zero, Option.some.injEq] at ho
        subst ho
        refine ⟨?_, Or.inl ⟨by rfl, ?_⟩, fun _ _ _ h => h, ?_⟩
        rotate_left 1
        · intro W hW
          try dsimp only at hW
          go_simp
          try with_reducible rfl
        try simp only [Act.put, List.setIfInBounds_toArray, List.set_cons_zero, List.set_cons_succ]
        refine wpT.take (i := 5) (by kernel_rfl) (by kernel_rfl) (by kernel_rfl) (by kernel_rfl) (by kernel_rfl) (fun _ => HS) ?_
        intro oi ho
        simp only [List.getElem?_toArray, List.getElem?_cons_succ, List.getElem?_cons_zero, Option.some.injEq] at ho
        subst ho
        refine ⟨?_, Or.inl ⟨by rfl, ?_⟩, fun _ _ _ h => h, ?_⟩
        rotate_left 1
        · intro W hW
          try dsimp only at hW
          go_simp
          try with_reducible rfl
        try simp only [Act.put, List.setIfInBounds_toArray, List.set_cons_zero, List.set_cons_succ]
        refine wpT.take (i := 6) (by kernel_rfl) (by kernel_rfl) (by kernel_rfl) (by kernel_rfl) (by kernel_rfl) (fun _ => HS) ?_
        intro oi ho
        simp only [List.getElem?_toArray, List.getElem?_cons_succ, List.getElem?_cons_zero, Option.some.injEq] at ho
        subst ho
        refine ⟨?_, Or.inl ⟨by rfl, ?_⟩, fun _ _ _ h => h, ?_⟩
        rotate_left 1
        · intro W hW
          try dsimp only at hW
          go_simp
          try with_reducible rfl
        try simp only [Act.put, List.setIfInBounds_toArray, List.set_cons_zero, List.set_cons_succ]
        refine wpT.one (i := 7) (by kernel_rfl) ?_
        intro oi ho
        simp only [List.getElem?_toArray, List.getElem?_cons_succ, List.getElem?_cons_zero, Option.some.injEq] at ho
        subst ho
        intro K' hK
        have HK := Lib.hid hK
        clear hK
        go_simp
        go_at_call 5
        refine (clause20 x _).mono ?_
        rintro e w5 ⟨c, lo, sp, rfl, hGc, hrow, hb5⟩
        have HGc := Lib.hid hGc
        have HROW := Lib.hid hrow
        have S5 := Lib.hid (SD.out.step hb5)
        have hz5 : wr.heap.size ≤ w5.heap.size := hb5.size
        have HB5 := Lib.hid (Below.step (Below.refl _ wr).drew hb5)
        clear hGc hrow hb5
        refine HK.out _ _ (fun _ => FC.out _ HB5.out) ?_
        have HL3 := Lib.hid (show c.length ≤ maxLen by have := HGc.out.len; unfold maxLen; omega)
        try simp only [Act.put, List.setIfInBounds_toArray, List.set_cons_zero, List.set_cons_succ]
        refine wpT.one (i := 8) (by kernel_rfl) ?_
        intro oi ho
        simp only [List.getElem?_toArray, List.getElem?_cons_succ, List.getElem?_cons_zero, Option.some.injEq] at ho
        subst ho
        intro K' hK
        have HK := Lib.hid hK
        clear hK
        go_simp
        have HBA := Lib.hid (HB5.out.alloc hz5 (.cells #[.slice lo c.length (c.length + sp)] 22))
        refine HK.out _ _ (fun _ => FC.out _ HBA.out) ?_
        try simp only [Act.put, List.setIfInBounds_toArray, List.set_cons_zero, List.set_cons_succ]
        refine wpT.one (i := 9) (by kernel_rfl) ?_
        intro oi ho
        simp only [List.getElem?_toArray, List.getElem?_cons_succ, List.getElem?_cons_zero, Option.some.injEq] at ho
        subst ho
        intro K' hK
        have HK := Lib.hid hK
        clear hK
        have HXJ : Hid (intsE.is (fun b => wr.drew.heap.size ≤ b ∧ b < w5.heap.size) w5 [.slice lo c.length (c.length + sp)] c) := Lib.hid ⟨lo, sp, rfl, HROW.out.keep (fun b h1 h2 => ⟨rfl, h1, h2⟩), HL3.out⟩
        refine step_app (by rfl) (.tmp 23) (.tmp 30) 23 (by rfl) intsE S5.out 2 rfl (x := c) (q := fun b => wr.drew.heap.size ≤ b ∧ b < w5.heap.size) (p' := fun b => bx + 2 ≤ b) HXJ.out Try.underlying23 gi gz0 gz1 gz2 (by rfl) (by rfl) (by rfl) (by rfl) (by have := HCK.out; unfold maxLen; omega) (by have := HCK.out; omega) (by have := HZ.out; omega) (by have := HBX.out; omega) (fun bb h1 h2 h3 => by simp only [offs, offAll, Fct.box, and_true]; omega) (fun bb h e => by have := (HOF.out bb e).2; have h4 : wr.heap.size ≤ bb := h.1; omega) (fun bb h => by rcases h with h | h; exact h; have h4 : wr.heap.size ≤ bb := h.1; have := HZ.out; show bx + 2 ≤ bb; omega) ?_
        intro gg cap w8 S8 hs8 hgg hat8
        have hgg2 : bx + 2 ≤ gg := by
          have h5 := HZ.out
          rcases hat8 with h7 | h7
          · exact (HOF.out _ h7).1
          · omega
        refine HK.out _ _ (fun h => absurd h (by decide)) ?_
        try simp only [Act.put, List.setIfInBounds_toArray, List.set_cons_zero, List.set_cons_succ]
        refine wpT.one (i := 10) (by kernel_rfl) ?_
        intro oi ho
        simp only [List.getElem?_toArray, List.getElem?_cons_succ, List.getElem?_cons_zero, Option.some.injEq] at ho
        subst ho
        intro K' hK
        have HK := Lib.hid hK
        clear hK
        go_simp
        refine HK.out _ _ (fun h => absurd h (by decide)) ?_
        obtain ⟨_, y2, y3⟩ := S8.two 1 rfl
        have hly := S8.lt 1 rfl
        try simp only [Act.put, List.setIfInBounds_toArray, List.set_cons_zero, List.set_cons_succ]
        refine wpT.one (i := 11) (by kernel_rfl) ?_
        intro oi ho
        simp only [List.getElem?_toArray, List.getElem?_cons_succ, List.getElem?_cons_zero, Option.some.injEq] at ho
        subst ho
        intro K' hK
        have HK := Lib.hid hK
        clear hK
        go_simp
        have S9 := Lib.hid (S8.set21 1 rfl (.slice (some ⟨gg, 0, none⟩) (cs.length + 1) cap) (by have := HBX.out; omega) (by simp only [fset, offs, offAll, Fct.box, Fct.owns, and_true]; refine ⟨by omega, fun h => ?_⟩; rcases h with h | h; simp [Value.ownBlock] at h; omega; omega))
        refine HK.out _ _ (fun h => absurd h (by decide)) ?_
        try simp only [Act.put, List.setIfInBounds_toArray, List.set_cons_zero, List.set_cons_succ]
        refine wpT.done (by kernel_rfl) ?_
        have HG2 := Lib.hid (show ∀ c2 ∈ cs ++ [c], GoodC 5 c2 from fun c2 h => by rcases List.mem_append.1 h with h | h; exact HG.out c2 h; rw [List.mem_singleton.1 h]; exact HGc.out)
        clear hat8 S8 HS
        go_wp2_with fail
        go_roundw
        case rel => exact ⟨k + 1, _, cs ++ [c], by omega, by omega, by go_num, by simp; exact HCK.out, HG2, S9.out⟩
        case measure => simp [intOf] <;> omega
      · obtain ⟨lo, sp, rfl, hrow, _⟩ := (S.owns intsE 2).row (fun b h => h)
        have g2i : ¬ (k : Int) < (n : Int) := by omega
        have HCK := Lib.hid hck
        clear hck
        have g1i : (k : Int) < (m : Int) := by omega
        have SB := Lib.hid (S.set2 0 rfl (.int .i64 5) (.slice lo cs.length (cs.length + sp)) (by have := HBX.out; omega) (by have hlt2 := S.ownlt intsE 2 rfl; simp only [offs, offAll, Fct.box, Fct.owns, and_true]; refine ⟨by omega, fun h => ?_⟩; rcases h with h | h; have := (hlt2 bx h).1; omega; omega))
        have HROW := Lib.hid (show intsE.Row (fun b => w.heap.size ≤ b) ((wr.setCell ⟨bx, 0, none⟩ (.int .i64 5)).setCell ⟨bx, 1, none⟩ (.slice lo cs.length (cs.length + sp))) lo cs by
          obtain ⟨lo2, sp2, e2, h2, _⟩ := (SB.out.owns intsE 2 rfl).row (fun b h => h)
          simp only [Value.slice.injEq] at e2
          rw [← e2.1] at h2
          exact h2.mono (fun b h _ => by have h8 : bx + 2 ≤ b := h; have h9 := HBX.out; omega))
        obtain ⟨⟨y0, y1⟩, y2, y3⟩ := S.two 1
        obtain ⟨⟨z0, z1'⟩, z2, z3⟩ := S.two 0
        have hly := S.lt 0
        have SX := Lib.hid S
        clear S hrow
        go_wp2_with fail
        refine ret_box2 (.int .i64 5) (.slice lo cs.length (cs.length + sp)) bx 25 (box2_set (SX.out.block 0) _ _) (fun w' q0 q1 => by simp [results, Try.results4, go_sem, q0, q1]) rfl ?_
        exact ⟨cs, lo, sp, rfl, by have := HCK.out; omega, HG.out, HROW.out, SB.out.bel⟩
    · obtain ⟨lo, sp, rfl, hrow, _⟩ := (S.owns intsE 2).row (fun b h => h)
      have g1i : ¬ (k : Int) < (m : Int) := by omega
      have HCK := Lib.hid hck
      clear hck
      have SB := Lib.hid (S.set2 0 rfl (.int .i64 5) (.slice lo cs.length (cs.length + sp)) (by have := HBX.out; omega) (by have hlt2 := S.ownlt intsE 2 rfl; simp only [offs, offAll, Fct.box, Fct.owns, and_true]; refine ⟨by omega, fun h => ?_⟩; rcases h with h | h; have := (hlt2 bx h).1; omega; omega))
      have HROW := Lib.hid (show intsE.Row (fun b => w.heap.size ≤ b) ((wr.setCell ⟨bx, 0, none⟩ (.int .i64 5)).setCell ⟨bx, 1, none⟩ (.slice lo cs.length (cs.length + sp))) lo cs by
        obtain ⟨lo2, sp2, e2, h2, _⟩ := (SB.out.owns intsE 2 rfl).row (fun b h => h)
        simp only [Value.slice.injEq] at e2
        rw [← e2.1] at h2
        exact h2.mono (fun b h _ => by have h8 : bx + 2 ≤ b := h; have h9 := HBX.out; omega))
      obtain ⟨⟨y0, y1⟩, y2, y3⟩ := S.two 1
      obtain ⟨⟨z0, z1'⟩, z2, z3⟩ := S.two 0
      have hly := S.lt 0
      have SX := Lib.hid S
      clear S hrow
      go_wp2_with fail
      refine ret_box2 (.int .i64 5) (.slice lo cs.length (cs.length + sp)) bx 25 (box2_set (SX.out.block 0) _ _) (fun w' q0 q1 => by simp [results, Try.results4, go_sem, q0, q1]) rfl ?_
      exact ⟨cs, lo, sp, rfl, by have := HCK.out; omega, HG.out, HROW.out, SB.out.bel⟩
end Go.Proofs.Ytlpoedjipncbhaa
