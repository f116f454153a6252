/-
  Walks: vastRules; the document's Rules.
-/
import Derived.Test.YtlhnfdjidjgfgaaProg
import Derived.Test.YtlhnfdjidjgfgaaR2
import Derived.Test.YtlhnfdjidjgfgaaPa2
import Derived.Test.YtlhnfdjidjgfgaaXa
import Derived.Test.YtlhnfdjidjgfgaaXc
import Derived.Test.YtlhnfdjidjgfgaaPa4
namespace Go.Proofs.Ytlhnfdjidjgfgaa
open Go.RowKit Go.Shelf
set_option linter.unusedVariables false
set_option maxHeartbeats 400000

def bigR (f : Ru) : Bool := decide ((200 : Int) < f.1.size) || decide ((200 : Int) < f.2.size)
def vastR (rs : List Ru) : Bool := rs.any bigR || decide (40 < rs.length)

set_option maxRecDepth 100000 in
set_option maxHeartbeats 4000000 in
theorem vastR42 (rs : List Ru) (p : Nat → Prop) (ao : Option Addr) (c : Nat) (w : World) (h : ruleE.Row p w ao rs) (hn : rs.length ≤ 1000000000) (hs : ∀ (i : Nat) f, rs[i]? = some f → f.1.size ≤ 1000000000 ∧ f.2.size ≤ 1000000000) :
    Calls Try.prog 51 #[.slice ao rs.length c] w fun e w' => e = .returned (.bool (vastR rs)) ∧ Below w.heap.size w w' := by
  have HR := Lib.hid h; have HS := Lib.hid hs
  have S := St.start w
  clear h hs
  go_enter Try.func51, Try.ntmps51
  go_wp2_with fail
  go_loopw [3] (fun i wr => ∃ k : Nat, k ≤ rs.length ∧ i = .int .i64 k ∧ (∀ (j : Nat) f, j < k → rs[j]? = some f → bigR f = false) ∧ St w wr []) (fun i _ => rs.length - (intOf i).toNat)
  case atStart => exact ⟨0, by omega, rfl, fun j f hj _ => by omega, S⟩
  case round =>
    clear S
    obtain ⟨k, hk, rfl, hno, S⟩ := hrel
    have HNO := Lib.hid hno
    clear hno
    by_cases hlt : k < rs.length
    · have hlti : (k : Int) < (rs.length : Int) := by omega
      obtain ⟨b, off, ka, sa, kb, sb, rfl, hpb, c0', c1', c2', c3', t1, t2⟩ := HR.out.rule hlt
      have HXY := Lib.hid (List.getElem?_eq_getElem hlt)
      have T1 := Lib.hid t1; have T2 := Lib.hid t2
      have c0 := Below.cellOf S.bel c0'
      have c1 := Below.cellOf S.bel c1'
      clear t1 t2
      go_wp2_with fail
      refine (S.quiet (vast15 rs[k].1 _ _ (HS.out k _ HXY.out).1 (T1.out.kept S.bel).at)).mono ?_
      rintro e w3 ⟨rfl, z4, S3⟩
      clear S c0 c1
      have c2 := Below.cellOf S3.bel c2'
      have c3 := Below.cellOf S3.bel c3'
      cases hv : decide ((200 : Int) < rs[k].1.size) with
      | true =>
        have HVT := Lib.hid (show vastR rs = true by unfold vastR; rw [any_take HXY.out (by unfold bigR; rw [hv]; rfl)]; rfl)
        have SE := Lib.hid S3.bel
        clear S3 hv
        go_wp2_with fail
        go_ret
        exact ⟨ret_bool HVT.out.symm, SE.out⟩
      | false =>
        have HV1 := Lib.hid hv
        clear hv
        go_wp2_with fail
        refine (S3.quiet (vast15 rs[k].2 _ _ (HS.out k _ HXY.out).2 (T2.out.kept S3.bel).at)).mono ?_
        rintro e w5 ⟨rfl, z5, S5⟩
        clear S3 c2 c3
        cases hv : decide ((200 : Int) < rs[k].2.size) with
        | true =>
          have HVT := Lib.hid (show vastR rs = true by unfold vastR; rw [any_take HXY.out (by unfold bigR; rw [hv]; simp)]; rfl)
          have SE := Lib.hid S5.bel
          clear S5 hv
          go_wp2_with fail
          go_ret
          exact ⟨ret_bool HVT.out.symm, SE.out⟩
        | false =>
          have HN2 := Lib.hid (no_step hlt HNO.out (show bigR rs[k] = false by unfold bigR; rw [HV1.out, hv]; rfl))
          clear hv
          go_wp2_with fail
          go_roundw
          case rel => exact ⟨k + 1, by omega, by go_num, HN2.out, S5⟩
          case measure => simp [intOf] <;> omega
    · obtain rfl : k = rs.length := by omega
      have HVT := Lib.hid (show vastR rs = decide ((40 : Int) < (rs.length : Int)) by unfold vastR; rw [any_none HNO.out]; simp <;> omega)
      have SE := Lib.hid S.bel
      clear S
      go_wp2_with fail
      go_ret
      exact ⟨ret_bool HVT.out.symm, SE.out⟩

def hitV (l r : T) (k : Nat) : Bool := decide (0 < r.times (-(k : Int))) && decide (l.times (-(k : Int)) = 0)
theorem cntV_pos {x : Int} : ∀ {l : List T}, 0 < cntV x l ↔ x ∈ heads l
  | [] => by simp [cntV, heads]
  | y :: r => by
    have ih := cntV_pos (x := x) (l := r)
    rw [cntV, show heads (y :: r) = y.head :: heads r from rfl, List.mem_cons, ← ih]
    by_cases h : y.head = x
    · rw [if_pos h]; simp [h] <;> omega
    · rw [if_neg h]
      constructor
      · intro h2; exact .inr (by omega)
      · rintro (h2 | h2)
        · exact absurd h2.symm h
        · omega
theorem times_pos {x : Int} {t : T} : 0 < t.times x ↔ x ∈ heads t.pre := by rw [← cntV_pre]; exact cntV_pos
theorem badV_hit {l r : T} {k : Nat} (hk : 1 ≤ k) (h : hitV l r k = true) : badV (heads l.pre) r.pre = true := by
  unfold hitV at h
  rw [Bool.and_eq_true] at h
  have h1 := times_pos.1 (of_decide_eq_true h.1)
  have h2 : ¬ (-(k : Int)) ∈ heads l.pre := fun hm => by have := times_pos.2 hm; have := of_decide_eq_true h.2; omega
  obtain ⟨x, hx, hxe⟩ := List.mem_map.1 h1
  exact List.any_eq_true.2 ⟨x, hx, by rw [hxe]; simp only [Bool.and_eq_true, Bool.not_eq_true', decide_eq_true_eq, decide_eq_false_iff_not]; exact ⟨by omega, h2⟩⟩
theorem badV_none {l r : T} (hr : (treeF r).1 = 0) (h : ∀ k : Nat, 1 ≤ k → k < 9 → hitV l r k = false) : badV (heads l.pre) r.pre = false := by
  refine List.any_eq_false.2 fun x hx hb => ?_
  rw [Bool.and_eq_true] at hb
  have hneg : x.head < 0 := of_decide_eq_true hb.1
  have hm : ¬ x.head ∈ heads l.pre := by simpa using hb.2
  have hok := (treeF_ok.1 hr).2.2
  have hmx := head_le_most r x hx
  have hml := most_le r hok
  have hk := h (-x.head).toNat (by omega) (by omega)
  unfold hitV at hk
  have he : (-(((-x.head).toNat : Nat) : Int)) = x.head := by omega
  rw [he, decide_eq_true (times_pos.2 (List.mem_map.2 ⟨x, hx, rfl⟩))] at hk
  have h0 : l.times x.head = 0 := by
    by_cases h1 : 0 < l.times x.head
    · exact absurd (times_pos.1 h1) hm
    · omega
  rw [decide_eq_true h0] at hk
  exact absurd hk (by simp)
theorem ruleF_hit {l r : T} {k : Nat} (h1 : (treeF l).1 = 0) (h2 : (treeF r).1 = 0) (hk : 1 ≤ k) (h : hitV l r k = true) : ruleF l r = 5 := by
  unfold ruleF
  rw [if_neg (by simp [h1]), if_neg (by simp [h2]), if_pos (badV_hit hk h)]
  split <;> rfl
theorem ruleF_head {l r : T} (h1 : (treeF l).1 = 0) (h2 : (treeF r).1 = 0) (h : l.head < 0) : ruleF l r = 5 := by
  unfold ruleF
  rw [if_neg (by simp [h1]), if_neg (by simp [h2]), if_pos h]
theorem ruleF_clear {l r : T} (h1 : (treeF l).1 = 0) (h2 : (treeF r).1 = 0) (h3 : ∀ k : Nat, 1 ≤ k → k < 9 → hitV l r k = false) (h : ¬ l.head < 0) : ruleF l r = 0 := by
  unfold ruleF
  rw [if_neg (by simp [h1]), if_neg (by simp [h2]), if_neg h, badV_none h2 h3]; rfl
theorem ruleF_l {l r : T} (h1 : (treeF l).1 ≠ 0) : ruleF l r = (treeF l).1 := by unfold ruleF; rw [if_pos h1]
theorem ruleF_r {l r : T} (h1 : (treeF l).1 = 0) (h2 : (treeF r).1 ≠ 0) : ruleF l r = (treeF r).1 := by unfold ruleF; rw [if_neg (by simp [h1]), if_pos h2]
set_option maxRecDepth 100000 in
set_option maxHeartbeats 4000000 in
theorem rules43 (rs : List Ru) (p : Nat → Prop) (ao : Option Addr) (c : Nat) (w : World) (h : ruleE.Row p w ao rs) (hn : rs.length ≤ 1000000000) (hs : ∀ (i : Nat) f, rs[i]? = some f → f.1.size ≤ 1000000 ∧ f.2.size ≤ 1000000) :
    Calls Try.prog 52 #[.slice ao rs.length c] w fun e w' => e = .returned (FV (rulesF rs)) ∧ Below w.heap.size w w' := by
  have HR := Lib.hid h; have HS := Lib.hid hs
  obtain ⟨bx, hbx⟩ : ∃ b, b = w.heap.size := ⟨_, rfl⟩
  have S1 := (St.start w).box hbx.symm #[.int .i64 0, .int .i64 0] 29
  have hsz : (w.alloc (.cells #[.int .i64 0, .int .i64 0] 29)).heap.size = bx + 1 := by simp [hbx]
  have hfld := field28_0
  clear h hs
  by_cases h30 : 30 < rs.length
  · have HF := Lib.hid (show rulesF rs = (2, 0) by unfold rulesF; rw [if_pos h30])
    have h30i : (30 : Int) < (rs.length : Int) := by omega
    clear h30
    go_enter Try.func52, Try.ntmps52
    go_wp2_with fail
    rw [← hbx]
    refine S1.gen (z := bx + 1) (by omega) ?_
    intro w1 z1 S
    have HBX := Lib.hid hbx
    clear S1 hbx hsz
    refine (S.quiet (fault42 2 0 w1)).mono ?_
    rintro e w2 ⟨rfl, z2, S2⟩
    clear S
    obtain ⟨⟨y0, y1⟩, y2, y3⟩ := S2.two 0
    have hl := S2.lt 0
    have SB := Lib.hid S2
    clear S2
    go_wp2_with fail
    refine ret_box2 (.int .i64 2) (.int .i64 0) bx 29 (box2_set (SB.out.block 0) _ _) (fun w' q0 q1 => by simp [results, Try.results52, go_sem, q0, q1]) rfl ?_
    have hx := HBX.out
    exact ⟨by rw [HF.out]; rfl, (SB.out.bel.setCell (p := ⟨bx, 0, none⟩) (by show w.heap.size ≤ bx; omega) _).setCell (p := ⟨bx, 1, none⟩) (by show w.heap.size ≤ bx; omega) _⟩
  · have HF := Lib.hid (show rulesF rs = firstR rs 0 by unfold rulesF; rw [if_neg h30])
    have h30i : ¬ (30 : Int) < (rs.length : Int) := by omega
    clear h30
    go_enter Try.func52, Try.ntmps52
    go_wp2_with fail
    rw [← hbx]
    refine S1.genC (z := bx + 1) (by omega) ?_
    intro w1 z1 S
    have HBX := Lib.hid hbx
    clear S1 hbx hsz
    go_loopw [3] (fun i wr => ∃ k : Nat, k ≤ rs.length ∧ i = .int .i64 k ∧ (∀ (j : Nat) f, j < k → rs[j]? = some f → ruleF f.1 f.2 = 0) ∧ bx + 1 ≤ wr.heap.size ∧ St w wr [.box bx #[.int .i64 0, .int .i64 0] 29]) (fun i _ => rs.length - (intOf i).toNat)
    case atStart => exact ⟨0, by omega, rfl, fun j f hj _ => by omega, z1, S⟩
    case round =>
      clear S
      obtain ⟨k, hk, rfl, hno, z2, S⟩ := hrel
      have HNO := Lib.hid hno
      clear hno
      by_cases hlt : k < rs.length
      · have hlti : (k : Int) < (rs.length : Int) := by omega
        obtain ⟨b, off, ka, sa, kb, sb, rfl, hpb, c0', c1', c2', c3', t1, t2⟩ := HR.out.rule hlt
        obtain ⟨X, hX⟩ : ∃ X, X = rs[k].1 := ⟨_, rfl⟩
        obtain ⟨Y, hY⟩ : ∃ Y, Y = rs[k].2 := ⟨_, rfl⟩
        have HXY := Lib.hid (show rs[k]? = some (X, Y) by rw [hX, hY]; exact List.getElem?_eq_getElem hlt)
        rw [← hX] at c0' c1' t1
        rw [← hY] at c2' c3' t2
        have T1 := Lib.hid t1; have T2 := Lib.hid t2
        have hXs : X.size ≤ 1000000 := (HS.out k _ HXY.out).1
        have hYs : Y.size ≤ 1000000 := (HS.out k _ HXY.out).2
        have HXS := Lib.hid hXs; have HYS := Lib.hid hYs
        have HC01 := Lib.hid (And.intro c0' c1'); have HC23 := Lib.hid (And.intro c2' c3')
        have c0 := Below.cellOf S.bel c0'
        have c1 := Below.cellOf S.bel c1'
        clear hX hY t1 t2 hXs hYs c0' c1' c2' c3'
        go_wp2_with fail
        refine (S.faultF (tree18 X _ wr HXS.out (T1.out.kept S.bel).at)).mono ?_
        rintro e w3 ⟨xc, xd, rfl, HCX, z3, S3⟩
        clear S c0 c1
        obtain ⟨b9, hb9⟩ : ∃ b, b = w3.heap.size := ⟨_, rfl⟩
        have S4 := S3.box hb9.symm #[.int .i64 xc, .int .i64 xd] 29
        have z5 : b9 + 1 ≤ (w3.alloc (.cells #[.int .i64 xc, .int .i64 xd] 29)).heap.size := by simp [hb9]
        have HB9 := Lib.hid (show bx + 1 ≤ b9 by omega)
        clear S3
        have c2 := Below.cellOf S4.bel HC23.out.1
        have c3 := Below.cellOf S4.bel HC23.out.2
        obtain ⟨⟨u0, u1⟩, u2, u3⟩ := S4.two 1
        have hl9 := S4.lt 1
        by_cases hc : xc = 0
        · have hcb : (xc == 0) = true := by simp [hc]
          have HX0 := Lib.hid (show (treeF X).1 = 0 by rw [HCX.out, hc])
          clear hc
          go_wp2_with fail
          rw [← hb9]
          refine S4.gen (z := b9 + 1) z5 ?_
          intro w4 z6 S
          clear S4 z5 hb9 c2 c3 u0 u1 u2 u3 hl9 hcb
          refine (S.faultF (tree18 Y _ w4 HYS.out (T2.out.kept S.bel).at)).mono ?_
          rintro e w5 ⟨yc, yd, rfl, HCY, z7, S5⟩
          clear S
          obtain ⟨⟨u0, u1⟩, u2, u3⟩ := S5.two 1
          have hl9 := S5.lt 1
          have hx := HBX.out; have h9 := HB9.out
          have S6 := S5.set2 1 rfl (.int .i64 yc) (.int .i64 yd) (by omega) ⟨fun h => by have h : b9 = bx := h; omega, trivial⟩
          have z8 : b9 + 1 ≤ ((w5.setCell ⟨b9, 0, none⟩ (.int .i64 yc)).setCell ⟨b9, 1, none⟩ (.int .i64 yd)).heap.size := by simp; omega
          clear hx h9
          by_cases hc : yc = 0
          · have hcb : (yc != 0) = false := by simp [hc]
            have HY0 := Lib.hid (show (treeF Y).1 = 0 by rw [HCY.out, hc])
            have S7 := S6.pick [0]
            have S7 := Lib.hid S7
            have z9 := Lib.hid (show bx + 1 ≤ ((w5.setCell ⟨b9, 0, none⟩ (.int .i64 yc)).setCell ⟨b9, 1, none⟩ (.int .i64 yd)).heap.size by have := HB9.out; omega)
            clear S5 S6 hc z8
            go_wp2_with fail
            obtain ⟨wv, hwv⟩ : ∃ W, W = wr := ⟨_, rfl⟩
            subst hwv
            go_loopw [5] (fun i wr => ∃ m : Nat, 1 ≤ m ∧ m ≤ 9 ∧ i = .int .i64 m ∧ (∀ j : Nat, 1 ≤ j → j < m → hitV X Y j = false) ∧ bx + 1 ≤ wr.heap.size ∧ St w wr [.box bx #[.int .i64 0, .int .i64 0] 29]) (fun i _ => 9 - (intOf i).toNat)
            case atStart => exact ⟨1, by omega, by omega, rfl, fun j _ _ => by omega, z9.out, S7.out⟩
            case round =>
              clear S7 z9
              obtain ⟨m, hm1, hm9, rfl, hno, z2, S⟩ := hrel
              have HNM := Lib.hid hno
              clear hno
              by_cases hlt2 : m < 9
              · have hlti2 : (m : Int) ≤ 8 := by omega
                have c2 := Below.cellOf S.bel HC23.out.1
                have c3 := Below.cellOf S.bel HC23.out.2
                go_wp2_with fail
                refine (S.quiet (times31 (-(m : Int)) Y _ wr (by have := HYS.out; omega) (T2.out.kept S.bel).at)).mono ?_
                rintro e w6 ⟨rfl, z6, S6⟩
                clear S c2 c3
                have c0 := Below.cellOf S6.bel HC01.out.1
                have c1 := Below.cellOf S6.bel HC01.out.2
                obtain ⟨ny, hny⟩ : ∃ n : Int, n = (Y.times (-(m : Int)) : Int) := ⟨_, rfl⟩
                rw [← hny]
                have HNY := Lib.hid hny
                clear hny
                by_cases h1 : 0 < ny
                · have H1 := Lib.hid h1
                  go_wp2_with fail
                  refine (S6.quiet (times31 (-(m : Int)) X _ w6 (by have := HXS.out; omega) (T1.out.kept S6.bel).at)).mono ?_
                  rintro e w7 ⟨rfl, z7, S7⟩
                  clear S6 c0 c1 h1
                  obtain ⟨nx, hnx⟩ : ∃ n : Int, n = (X.times (-(m : Int)) : Int) := ⟨_, rfl⟩
                  rw [← hnx]
                  have HNX := Lib.hid hnx
                  clear hnx
                  by_cases h2 : nx = 0
                  · have h2b : (nx == 0) = true := by simp [h2]
                    have HHI := Lib.hid (ruleF_hit HX0.out HY0.out hm1 (show hitV X Y m = true by unfold hitV; rw [decide_eq_true (show 0 < Y.times (-(m : Int)) by have := HNY.out; have := H1.out; omega), decide_eq_true (show X.times (-(m : Int)) = 0 by have := HNX.out; omega)]; rfl))
                    have HFI := Lib.hid (show rulesF rs = (5, (k : Int)) by rw [HF.out, firstR_hit HNO.out HXY.out (by rw [HHI.out]; decide), HHI.out]; simp)
                    clear h2
                    go_wp2_with fail
                    refine (S7.quiet (fault42 5 k _)).mono ?_
                    rintro e wq ⟨rfl, zq, SQ⟩
                    clear S7
                    obtain ⟨⟨y0, y1⟩, y2, y3⟩ := SQ.two 0
                    have hl := SQ.lt 0
                    have SB := Lib.hid (SQ.pick [0])
                    clear SQ
                    go_wp2_with fail
                    refine ret_box2 (.int .i64 5) (.int .i64 k) bx 29 (box2_set (SB.out.block 0) _ _) (fun w' q0 q1 => by simp [results, Try.results52, go_sem, q0, q1]) rfl ?_
                    have hx := HBX.out
                    exact ⟨by rw [HFI.out]; rfl, (SB.out.bel.setCell (p := ⟨bx, 0, none⟩) (by show w.heap.size ≤ bx; omega) _).setCell (p := ⟨bx, 1, none⟩) (by show w.heap.size ≤ bx; omega) _⟩
                  · have h2b : (nx == 0) = false := by simp [h2]
                    have HN2 := Lib.hid (show ∀ j : Nat, 1 ≤ j → j < m + 1 → hitV X Y j = false from fun j hj1 hj => by
                      rcases Nat.lt_succ_iff_lt_or_eq.1 hj with h | rfl
                      · exact HNM.out j hj1 h
                      · unfold hitV; rw [decide_eq_false (show ¬ X.times (-(j : Int)) = 0 by have := HNX.out; omega)]; simp)
                    clear h2
                    go_wp2_with fail
                    go_roundw
                    case rel => exact ⟨m + 1, by omega, by omega, by go_num, HN2.out, by omega, S7⟩
                    case measure => simp [intOf] <;> omega
                · have HN2 := Lib.hid (show ∀ j : Nat, 1 ≤ j → j < m + 1 → hitV X Y j = false from fun j hj1 hj => by
                    rcases Nat.lt_succ_iff_lt_or_eq.1 hj with h | rfl
                    · exact HNM.out j hj1 h
                    · unfold hitV; rw [decide_eq_false (show ¬ 0 < Y.times (-(j : Int)) by have := HNY.out; omega)]; simp)
                  go_wp2_with fail
                  go_roundw
                  case rel => exact ⟨m + 1, by omega, by omega, by go_num, HN2.out, by omega, S6⟩
                  case measure => simp [intOf] <;> omega
              · have hlti2 : ¬ (m : Int) ≤ 8 := by omega
                have HALL := Lib.hid (show ∀ j : Nat, 1 ≤ j → j < 9 → hitV X Y j = false from fun j hj1 hj => HNM.out j hj1 (by omega))
                have c0 := Below.cellOf S.bel HC01.out.1
                have c1 := Below.cellOf S.bel HC01.out.2
                by_cases hneg : X.head < 0
                · have HFI := Lib.hid (show rulesF rs = (5, (k : Int)) by rw [HF.out, firstR_hit HNO.out HXY.out (by rw [ruleF_head HX0.out HY0.out hneg]; decide), ruleF_head HX0.out HY0.out hneg]; simp)
                  go_wp2_with fail
                  refine (S.quiet (fault42 5 k _)).mono ?_
                  rintro e wq ⟨rfl, zq, SQ⟩
                  clear S
                  obtain ⟨⟨y0, y1⟩, y2, y3⟩ := SQ.two 0
                  have hl := SQ.lt 0
                  have SB := Lib.hid (SQ.pick [0])
                  clear SQ
                  go_wp2_with fail
                  refine ret_box2 (.int .i64 5) (.int .i64 k) bx 29 (box2_set (SB.out.block 0) _ _) (fun w' q0 q1 => by simp [results, Try.results52, go_sem, q0, q1]) rfl ?_
                  have hx := HBX.out
                  exact ⟨by rw [HFI.out]; rfl, (SB.out.bel.setCell (p := ⟨bx, 0, none⟩) (by show w.heap.size ≤ bx; omega) _).setCell (p := ⟨bx, 1, none⟩) (by show w.heap.size ≤ bx; omega) _⟩
                · have HN := Lib.hid (show ∀ (j : Nat) f, j < k + 1 → rs[j]? = some f → ruleF f.1 f.2 = 0 from fun j f hj hf => by
                    rcases Nat.lt_succ_iff_lt_or_eq.1 hj with h | rfl
                    · exact HNO.out j f h hf
                    · rw [HXY.out] at hf; obtain rfl := Option.some.inj hf
                      exact ruleF_clear HX0.out HY0.out HALL.out hneg)
                  go_wp2_with fail
                  go_roundw
                  case rel => exact ⟨k + 1, by omega, by go_num, HN.out, by omega, S⟩
                  case measure => simp [intOf] <;> omega
          · have hcb : (yc != 0) = true := by simp [hc]
            have HFI := Lib.hid (show rulesF rs = (yc, (k : Int)) by rw [HF.out, firstR_hit HNO.out HXY.out (by rw [ruleF_r HX0.out (by rw [HCY.out]; exact hc), HCY.out]; exact hc), ruleF_r HX0.out (by rw [HCY.out]; exact hc), HCY.out]; simp)
            clear S5 hc
            go_wp2_with fail
            refine (S6.quiet (fault42 yc k _)).mono ?_
            rintro e wq ⟨rfl, zq, SQ⟩
            clear S6
            obtain ⟨⟨y0, y1⟩, y2, y3⟩ := SQ.two 0
            have hl := SQ.lt 0
            have SB := Lib.hid (SQ.pick [0])
            clear SQ
            go_wp2_with fail
            refine ret_box2 (.int .i64 yc) (.int .i64 k) bx 29 (box2_set (SB.out.block 0) _ _) (fun w' q0 q1 => by simp [results, Try.results52, go_sem, q0, q1]) rfl ?_
            have hx := HBX.out
            exact ⟨by rw [HFI.out]; rfl, (SB.out.bel.setCell (p := ⟨bx, 0, none⟩) (by show w.heap.size ≤ bx; omega) _).setCell (p := ⟨bx, 1, none⟩) (by show w.heap.size ≤ bx; omega) _⟩
        · have hcb : (xc == 0) = false := by simp [hc]
          have hcb2 : (xc != 0) = true := by simp [hc]
          have HFI := Lib.hid (show rulesF rs = (xc, (k : Int)) by rw [HF.out, firstR_hit HNO.out HXY.out (by rw [ruleF_l (by rw [HCX.out]; exact hc), HCX.out]; exact hc), ruleF_l (by rw [HCX.out]; exact hc), HCX.out]; simp)
          clear hc
          go_wp2_with fail
          refine (S4.quiet (fault42 xc k _)).mono ?_
          rintro e wq ⟨rfl, zq, SQ⟩
          clear S4
          obtain ⟨⟨y0, y1⟩, y2, y3⟩ := SQ.two 0
          have hl := SQ.lt 0
          have SB := Lib.hid (SQ.pick [0])
          clear SQ
          go_wp2_with fail
          refine ret_box2 (.int .i64 xc) (.int .i64 k) bx 29 (box2_set (SB.out.block 0) _ _) (fun w' q0 q1 => by simp [results, Try.results52, go_sem, q0, q1]) rfl ?_
          have hx := HBX.out
          exact ⟨by rw [HFI.out]; rfl, (SB.out.bel.setCell (p := ⟨bx, 0, none⟩) (by show w.heap.size ≤ bx; omega) _).setCell (p := ⟨bx, 1, none⟩) (by show w.heap.size ≤ bx; omega) _⟩
      · obtain rfl : k = rs.length := by omega
        have HFI := Lib.hid (show rulesF rs = (0, 0) by rw [HF.out, firstR_none HNO.out])
        obtain ⟨⟨y0, y1⟩, y2, y3⟩ := S.two 0
        have hl := S.lt 0
        have SB := Lib.hid S
        clear S
        go_wp2_with fail
        refine ret_box2 (.int .i64 0) (.int .i64 0) bx 29 (box2_set (SB.out.block 0) _ _) (fun w' q0 q1 => by simp [results, Try.results52, go_sem, q0, q1]) rfl ?_
        have hx := HBX.out
        exact ⟨by rw [HFI.out]; rfl, (SB.out.bel.setCell (p := ⟨bx, 0, none⟩) (by show w.heap.size ≤ bx; omega) _).setCell (p := ⟨bx, 1, none⟩) (by show w.heap.size ≤ bx; omega) _⟩
end Go.Proofs.Ytlhnfdjidjgfgaa
