/-
  Plain: what unify.Do answers is what taking out one variable after the other answers.
  Walk: the law UnifySays.
-/
import Derived.Test.YtlhnfdjidjgfgaaUn6
import Derived.Test.YtlhnfdjidjgfgaaMu0
import Derived.Test.YtlhnfdjidjgfgaaUx9
import Derived.Test.YtlhnfdjidjgfgaaProg
import Derived.Test.YtlhnfdjidjgfgaaUx11
import Derived.Deep.DeepCutAuto
namespace Go.Proofs.Ytlhnfdjidjgfgaa
open Go.RowKit Go.Shelf
set_option linter.unusedVariables false
set_option maxHeartbeats 400000

theorem mgu_start {A B : T} (hA : (treeF A).1 = 0) (hB : (treeF B).1 = 0) : MG (uN A B) A B [(A, B)] vT ∧ NZ A B ∧ Sml A B ∧ uN A B ≤ 100 := by
  have jA := treeF_ok.1 hA; have jB := treeF_ok.1 hB
  have oA : OkT A := ⟨jA.2.2, by omega, by omega⟩
  have oB : OkT B := ⟨jB.2.2, by omega, by omega⟩
  have hv := uN_va oA oB
  have h8 := uN_le oA oB
  refine ⟨MG.start hv.1.lv hv.2.lv (fun y hy => has_lt hv.1 hy) (fun y hy => has_lt hv.2 hy), fun q hq => ?_, ⟨jA.1, jB.1, fun q hq => ?_⟩, by omega⟩
  · rcases List.mem_append.1 hq with h | h
    · exact fun e => (jA.2.2 q h).1 (.inl e)
    · exact fun e => (jB.2.2 q h).1 (.inl e)
  · rcases List.mem_append.1 hq with h | h
    · exact Nat.le_of_not_lt fun e => (jA.2.2 q h).2 (.inl e)
    · exact Nat.le_of_not_lt fun e => (jB.2.2 q h).2 (.inl e)
/-- what is wrong with one of two terms -/
def wF (A B : T) : Int × Int := if (treeF A).1 ≠ 0 then treeF A else if (treeF B).1 ≠ 0 then ((treeF B).1, -1) else (0, 0)
theorem wF_bad {A B : T} {L : List T} {ok : Bool} {f : Int × Int} (h : UAns A B L ok f) (hc : (wF A B).1 ≠ 0) : L = [] ∧ ok = false ∧ f = wF A B := by
  unfold wF at hc ⊢
  rcases h with ⟨h1, h2, h3, h4⟩ | ⟨h1, h2, h3, h4, h5⟩ | ⟨h1, h2, h3⟩
  · rw [if_pos h1]; exact ⟨h2, h3, h4⟩
  · rw [if_neg (by omega), if_pos h2]; exact ⟨h3, h4, h5⟩
  · rw [if_neg (by omega), if_neg (by omega)] at hc; exact absurd rfl hc
theorem wF_ok {A B : T} (hc : (wF A B).1 = 0) : (treeF A).1 = 0 ∧ (treeF B).1 = 0 ∧ wF A B = (0, 0) := by
  unfold wF at hc ⊢
  by_cases h1 : (treeF A).1 = 0
  · by_cases h2 : (treeF B).1 = 0
    · exact ⟨h1, h2, by rw [if_neg (by omega), if_neg (by omega)]⟩
    · rw [if_neg (by omega), if_pos h2] at hc; exact absurd hc h2
  · rw [if_pos h1] at hc; exact absurd hc h1
theorem fitN_iff (t : T) : fitN 0 1 t ↔ t.size ≤ 40 ∧ t.deep ≤ 12 := by unfold fitN; omega
theorem mgu_law {A B : T} {L L2 : List T} {ok : Bool} {f : Int × Int} {c : Nat} (hA : (treeF A).1 = 0) (hB : (treeF B).1 = 0) (h : UAns A B L ok f) (k : MguAns A B (uN A B) L2 c) :
    c = 3 ∨ (c = 2 ∧ L = [] ∧ ok = false ∧ f = (10, 0)) ∨ (c = 0 ∧ f = (0, 0) ∧ ok = false ∧ L = L2) ∨ (c = 1 ∧ f = (0, 0) ∧ ok = true ∧ L = L2) := by
  rcases h with ⟨h, _⟩ | ⟨_, h, _⟩ | ⟨_, _, h⟩
  · exact absurd hA h
  · exact absurd hB h
  rcases k with ⟨rfl, rfl, hn⟩ | ⟨rfl, _⟩ | ⟨τ, hm, k⟩
  · rcases h with ⟨h1, h2, h3, _⟩ | ⟨_, _, _, σ, hs⟩ | ⟨σ, hs, _⟩
    · exact .inr (.inr (.inl ⟨rfl, h3, h2, h1⟩))
    · exact absurd hs.can.sol (hn σ)
    · exact absurd hs.can.sol (hn σ)
  · exact .inl rfl
  · have hcan := hm.canon
    rcases h with ⟨_, _, _, hn⟩ | ⟨h1, h2, h3, σ, hs⟩ | ⟨σ, hs, h1, h2, h3⟩
    · exact absurd hcan.sol (hn τ)
    · obtain rfl := hs.can.unique hcan
      rcases k with ⟨_, _, hk⟩ | ⟨rfl, _⟩
      · obtain ⟨x, h4, h5, h6⟩ := hs.big
        exact absurd ((fitN_iff _).2 (hk x h4 h5)) h6
      · exact .inr (.inl ⟨rfl, h1, h2, h3⟩)
    · obtain rfl := hs.can.unique hcan
      rcases k with ⟨rfl, hk, _⟩ | ⟨_, _, x, _, h5, h6⟩
      · exact .inr (.inr (.inr ⟨rfl, h3, h2, by rw [h1, hk]⟩))
      · exact absurd ((fitN_iff _).1 (hs.fit x h5)) h6
theorem binds_self (L : List T) (ao bo : Option Addr) (ca cb : Nat) (w : World) (ha : RowAt w ao L) (hb : RowAt w bo L) (hk : L.length ≤ 8) :
    Calls Try.prog 35 #[.slice ao L.length ca, .slice bo L.length cb] w fun e w' => e = .returned (.bool true) ∧ Below w.heap.size w w' :=
  (binds35 L L ao bo ca cb w ha hb (by omega) (by omega)).mono fun e w' ⟨h1, h2⟩ => ⟨by rw [h1]; simp, h2⟩
end Go.Proofs.Ytlhnfdjidjgfgaa
namespace Go.Proofs.Ytlhnfdjidjgfgaa
open Go.RowKit Go.Shelf
set_option linter.unusedVariables false
set_option maxHeartbeats 400000

set_option maxRecDepth 100000 in
set_option maxHeartbeats 8000000 in
theorem unifySays8 (A B : T) (va vb : Value) (w : World) (hA : TreeAt w va A) (hB : TreeAt w vb B) (hsa : A.size ≤ 1048576) (hsb : B.size ≤ 1048576) :
    Calls Try.prog 8 #[va, vb] w fun e w' => e = .returned (.bool true) ∧ Below w.heap.size w w' := by
  obtain ⟨ka, sa, rfl⟩ := hA.form
  obtain ⟨kb, sb, rfl⟩ := hB.form
  have TA := Lib.hid hA; have TB := Lib.hid hB
  obtain ⟨bx, hbx⟩ : ∃ b, b = w.heap.size := ⟨_, rfl⟩
  have S1 := ((St.start w).box hbx.symm #[.int .i64 A.head, .slice ka A.kids.length (A.kids.length + sa)] 38).box (b := bx + 1) (by simp [hbx]) #[.int .i64 B.head, .slice kb B.kids.length (B.kids.length + sb)] 38
  have hsz2 : ((w.alloc (.cells #[.int .i64 A.head, .slice ka A.kids.length (A.kids.length + sa)] 38)).alloc (.cells #[.int .i64 B.head, .slice kb B.kids.length (B.kids.length + sb)] 38)).heap.size = bx + 2 := by simp [hbx]
  clear hA hB
  obtain ⟨⟨x0, _⟩, x1, _⟩ := S1.two 0
  go_enter Try.func8, Try.ntmps8
  go_wp2_with fail
  rw [← hbx]
  refine S1.gen (z := bx + 2) (by omega) ?_
  intro w1 z1 S
  have HBX := Lib.hid (show w.heap.size ≤ bx ∧ bx ≤ w.heap.size by omega)
  clear S1 hsz2 hbx x0 x1
  refine (S.quiet (vast15 A _ w1 (by omega) (TA.out.kept S.bel))).mono ?_
  rintro e w2 ⟨rfl, z2, S2⟩
  clear S
  by_cases hv : (200 : Int) < A.size
  · rw [show decide ((200 : Int) < A.size) = true from decide_eq_true hv]
    have SE := Lib.hid S2.bel
    clear S2
    go_wp2_with fail
    go_ret
    exact ⟨rfl, SE.out⟩
  rw [show decide ((200 : Int) < A.size) = false from decide_eq_false hv]
  have hsa2 : A.size ≤ 200 := by omega
  clear hv
  obtain ⟨⟨x0, _⟩, x1, _⟩ := S2.two 1
  go_wp2_with fail
  refine (S2.quiet (vast15 B _ w2 (by omega) (TB.out.kept S2.bel))).mono ?_
  rintro e w3 ⟨rfl, z3, S3⟩
  clear S2 x0 x1
  by_cases hv : (200 : Int) < B.size
  · rw [show decide ((200 : Int) < B.size) = true from decide_eq_true hv]
    have SE := Lib.hid S3.bel
    clear S3
    go_wp2_with fail
    go_ret
    exact ⟨rfl, SE.out⟩
  rw [show decide ((200 : Int) < B.size) = false from decide_eq_false hv]
  have hsb2 : B.size ≤ 200 := by omega
  clear hv
  obtain ⟨⟨x0, _⟩, x1, _⟩ := S3.two 0
  go_wp2_with fail
  refine (S3.fault (f := treeF A) (tree18 A _ w3 (by omega) (TA.out.kept S3.bel))).mono ?_
  rintro e w4 ⟨pc, pa, rfl, HPF, z4, S4⟩
  obtain ⟨bw, hbw⟩ : ∃ b, b = w4.heap.size := ⟨_, rfl⟩
  have S5 := S4.box (b := bw) hbw.symm #[.int .i64 pc, .int .i64 pa] 29
  have HCD := Lib.hid (show wF A B = if pc ≠ 0 then (pc, pa) else if (treeF B).1 ≠ 0 then ((treeF B).1, -1) else (0, 0) by unfold wF; rw [HPF.out])
  clear S3 S4 x0 x1
  have hfld := field28_0
  go_upto_region 4 with fail
  rw [← hbw]
  refine S5.genC (z := bw + 1) (by simp [hbw]) ?_
  intro w5 z5 S6
  have HBW := Lib.hid (show bx + 2 ≤ bw by omega)
  clear S5 hbw z4 z3 z2 z1
  change St w w5 [.box bx #[.int .i64 A.head, .slice ka A.kids.length (A.kids.length + sa)] 38, .box (bx + 1) #[.int .i64 B.head, .slice kb B.kids.length (B.kids.length + sb)] 38, .box bw #[.int .i64 pc, .int .i64 pa] 29] at S6
  go_cut [28] (fun s28 wx => bw + 1 ≤ wx.heap.size ∧ s28 = .bool (decide (pc = 0 ∧ (treeF B).1 ≠ 0)) ∧ St w wx [.box bx #[.int .i64 A.head, .slice ka A.kids.length (A.kids.length + sa)] 38, .box (bx + 1) #[.int .i64 B.head, .slice kb B.kids.length (B.kids.length + sb)] 38, .box bw #[.int .i64 pc, .int .i64 pa] 29])
  case first =>
    obtain ⟨⟨x2, _⟩, x3, _⟩ := S6.two 2
    cases hpc : (pc == 0) with
    | true =>
      have HP0 := Lib.hid (show pc = 0 by simpa using hpc)
      obtain ⟨⟨x0, _⟩, x1, _⟩ := S6.two 1
      go_wp2_with fail
      refine (S6.fault (f := treeF B) (tree18 B _ w5 (by omega) (TB.out.kept S6.bel))).mono ?_
      rintro e w6 ⟨tc, ta, rfl, HTF, z6, S7⟩
      go_wp2_with fail
      go_meet
      case rel => exact ⟨by omega, congrArg Value.bool (by rw [HP0.out, HTF.out, Bool.eq_iff_iff]; simp), S7⟩
    | false =>
      have HP0 := Lib.hid (show ¬ pc = 0 by simpa using hpc)
      go_wp2_with fail
      go_meet
      case rel => exact ⟨z5, congrArg Value.bool (decide_eq_false (fun h => HP0.out h.1)).symm, S6⟩
  case rest =>
    clear S6 z5
    obtain ⟨zwc, h28, S7⟩ := hcut
    subst h28
    go_step
    go_cut [] (fun wx => ∃ c d : Int, bw + 1 ≤ wx.heap.size ∧ Hid (wF A B = (c, d)) ∧ St w wx [.box bx #[.int .i64 A.head, .slice ka A.kids.length (A.kids.length + sa)] 38, .box (bx + 1) #[.int .i64 B.head, .slice kb B.kids.length (B.kids.length + sb)] 38, .box bw #[.int .i64 c, .int .i64 d] 29])
    case first =>
      cases hb : decide (pc = 0 ∧ (treeF B).1 ≠ 0) with
      | true =>
        have HB := Lib.hid (of_decide_eq_true hb)
        clear hb
        obtain ⟨⟨x0, _⟩, x1, _⟩ := S7.two 1
        go_wp2_with fail
        refine (S7.fault (f := treeF B) (tree18 B _ wc (by omega) (TB.out.kept S7.bel))).mono ?_
        rintro e w6 ⟨tc, ta, rfl, HTF, z6, S8⟩
        clear x0 x1 S7
        go_wp2_with fail
        refine (S8.quiet (fault20 tc (-1) w6)).mono ?_
        rintro e w7 ⟨rfl, z7, S9⟩
        obtain ⟨⟨x0, x1⟩, x2, x3⟩ := S9.two 2
        have hl2 := S9.lt 2
        have S10 := S9.set2 2 rfl (.int .i64 tc) (.int .i64 (-1)) (by have := HBX.out; have := HBW.out; omega) (by have := HBW.out; simp only [offs, offAll, Fct.box, and_true]; omega)
        have z10 : bw + 1 ≤ ((w7.setCell ⟨bw, 0, none⟩ (.int .i64 tc)).setCell ⟨bw, 1, none⟩ (.int .i64 (-1))).heap.size := by simp; omega
        clear S8 S9
        go_wp2_with fail
        go_meet
        case rel => exact ⟨tc, -1, z10, by rw [HCD.out, if_neg (by simp [HB.out.1]), if_pos HB.out.2, HTF.out] <;> rfl, S10⟩
      | false =>
        have HB := Lib.hid (of_decide_eq_false hb)
        clear hb
        go_wp2_with fail
        go_meet
        case rel => exact ⟨pc, pa, zwc, by
          rw [HCD.out]
          by_cases hp0 : pc = 0
          · rw [if_neg (by simp [hp0]), if_neg (fun h => HB.out ⟨hp0, h⟩)]
            have := treeF_ok0 (t := A) (by rw [HPF.out]; exact hp0)
            rw [HPF.out] at this; exact this.symm
          · rw [if_pos hp0] <;> rfl, S7⟩
    case rest =>
      clear S7 zwc HCD HPF
      obtain ⟨c, d, zwx, hC, S8⟩ := hcut
      have HC := Lib.hid hC
      clear hC
      go_step
      obtain ⟨⟨x0, _⟩, x1, _⟩ := S8.two 0
      obtain ⟨⟨y0, _⟩, y1, _⟩ := S8.two 1
      go_wp2_with fail
      refine (S8.did33 (unify33 A B _ _ wc (TA.out.kept S8.bel) (TB.out.kept S8.bel))).mono ?_
      rintro e w9 ⟨L, ok, f, ro, rc, rfl, HU, z9, S9⟩
      obtain ⟨bf, hbf⟩ : ∃ b, b = w9.heap.size := ⟨_, rfl⟩
      have S10 := S9.box (b := bf) hbf.symm #[.int .i64 f.1, .int .i64 f.2] 29
      clear S8 S9 x0 x1 y0 y1
      go_upto_region 7 with fail
      rw [← hbf]
      refine S10.genC (z := bf + 1) (by simp [hbf]) ?_
      intro w10 z10 S
      have HBF := Lib.hid (show bw + 1 ≤ bf by omega)
      clear S10 hbf z9 zwx
      obtain ⟨⟨u0, _⟩, u1, _⟩ := S.two 2
      obtain ⟨⟨v0, _⟩, v1, _⟩ := S.two 4
      cases hc : (c != 0) with
      | true =>
        obtain ⟨h4, h5, h6⟩ := wF_bad HU.out (by rw [HC.out]; simpa using hc)
        rw [HC.out] at h6
        subst h4 h5 h6
        have SE := Lib.hid S.bel
        clear S HU HC
        go_wp2_with fail
        go_ret
        exact ⟨rfl, SE.out⟩
      | false =>
        have hc0 : c = 0 := by simpa using hc
        obtain ⟨hA0, hB0, hw0⟩ := wF_ok (A := A) (B := B) (by rw [HC.out]; exact hc0)
        have HAB := Lib.hid (And.intro hA0 hB0)
        obtain ⟨N, hN⟩ : ∃ N, N = uN A B := ⟨_, rfl⟩
        have HST := Lib.hid (mgu_start hA0 hB0)
        rw [← hN] at HST
        have HN := Lib.hid hN
        have HLA := Lib.hid (low_of_pre A (treeF_ok.1 hA0).2.2)
        have HLB := Lib.hid (low_of_pre B (treeF_ok.1 hB0).2.2)
        have HMX := Lib.hid (show (N : Int) = max A.most B.most by
          rw [hN, uN_eq]; have h1 := A.most_nonneg; have h2 := B.most_nonneg; simp only [mostL]; omega)
        have hma := most_le A (treeF_ok.1 hA0).2.2
        have hmb := most_le B (treeF_ok.1 hB0).2.2
        have hna := A.most_nonneg
        have hnb := B.most_nonneg
        clear hA0 hB0 hw0 hN hc0 HC
        obtain ⟨⟨x0, _⟩, x1, _⟩ := S.two 0
        go_wp2_with fail
        refine (S.quiet (most30 A _ w10 HLA.out (TA.out.kept S.bel))).mono ?_
        rintro e w11 ⟨rfl, z11, S11⟩
        clear S x0 x1 u0 u1 v0 v1
        obtain ⟨⟨x0, _⟩, x1, _⟩ := S11.two 1
        go_wp2_with fail
        refine (S11.quiet (most30 B _ w11 HLB.out (TB.out.kept S11.bel))).mono ?_
        rintro e w12 ⟨rfl, z12, S12⟩
        clear S11 x0 x1
        by_cases hm : A.most < B.most
        · obtain ⟨⟨x0, _⟩, x1, _⟩ := S12.two 1
          go_wp2_with fail
          refine (S12.quiet (most30 B _ w12 HLB.out (TB.out.kept S12.bel))).mono ?_
          rintro e w13 ⟨rfl, z13, S13⟩
          rw [show B.most = (N : Int) by have := HMX.out; omega]
          clear S12 x0 x1 hm hma hmb hna hnb
          obtain ⟨⟨x0, _⟩, x1, _⟩ := S13.two 0
          obtain ⟨⟨y0, _⟩, y1, _⟩ := S13.two 1
          go_wp2_with fail
          refine (mgu34 A B N _ _ w13 (TA.out.kept S13.bel) (TB.out.kept S13.bel) HST.out.2.2.2 HST.out.1 HST.out.2.1 HST.out.2.2.1).mono ?_
          rintro e w20 ⟨L2, cm, ro2, rc2, rfl, HMA, hrow2, hb20⟩
          have S20 := (S13.step hb20).add (.row 0 w20.heap.size ro2 L2) (hrow2.mono (fun b h _ => ⟨Nat.zero_le _, h⟩))
          have HLAW := Lib.hid (mgu_law HAB.out.1 HAB.out.2 HU.out (HN.out ▸ HMA))
          have HLL := Lib.hid HU.out.len
          clear S13 hb20 hrow2 HMA x0 x1 y0 y1
          obtain ⟨⟨x0, _⟩, x1, _⟩ := S20.two 4
          by_cases h3 : cm = 3
          · subst h3
            have SE := Lib.hid S20.bel
            clear S20
            go_wp2_with fail
            go_ret
            exact ⟨rfl, SE.out⟩
          · by_cases h2 : cm = 2
            · subst h2
              obtain ⟨h4, h5, h6⟩ : L = [] ∧ ok = false ∧ f = (10, 0) := by
                rcases HLAW.out with h | ⟨_, h4, h5, h6⟩ | ⟨h, _⟩ | ⟨h, _⟩
                · omega
                · exact ⟨h4, h5, h6⟩
                · omega
                · omega
              subst h4 h5 h6
              clear HLAW HLL HU h3
              go_upto_region 16 with fail
              have CA := Lib.hid (fun d os => Calls.regrown_of (fault20 10 0 (Go.Sort.grow (redrawn w20 d) os)))
              have r0 := cell_regrown x0; have r1 := cell_regrown x1
              clear x0 x1
              refine wp_region_quiet_below (by kernel_rfl) (by kernel_rfl) ?_
              repeat (go_big_quiet_step (exact CA.out _ _))
              refine wpQuiet_nil ?_
              intro _ hw'
              obtain ⟨⟨dq, osq⟩, hw''⟩ := hw'
              subst hw''
              have SE := Lib.hid (S20.regrown dq osq).bel
              clear r0 r1 CA S20
              go_wp2_with fail
              go_ret
              exact ⟨rfl, SE.out⟩
            · have HC01 := Lib.hid (show (cm = 0 ∧ f = (0, 0) ∧ ok = false ∧ L = L2) ∨ (cm = 1 ∧ f = (0, 0) ∧ ok = true ∧ L = L2) by
                rcases HLAW.out with h | ⟨h, _⟩ | h | h
                · exact absurd h h3
                · exact absurd h h2
                · exact .inl h
                · exact .inr h)
              obtain rfl : L = L2 := by rcases HC01.out with h | h; exact h.2.2.2; exact h.2.2.2
              obtain rfl : f = (0, 0) := by rcases HC01.out with h | h; exact h.2.1; exact h.2.1
              have HBI := Lib.hid (fun W (h1 : RowAt W ro L) (h2 : RowAt W ro2 L) => binds_self L ro ro2 rc rc2 W h1 h2 HLL.out)
              clear HLAW h2 h3 HU
              by_cases h0 : cm = 0
              · subst h0
                obtain rfl : ok = false := by
                  rcases HC01.out with h | h
                  · exact h.2.2.1
                  · omega
                clear HC01
                go_wp2_with fail
                refine (S20.quiet (HBI.out w20 (S20.row 3).at (S20.row 5).at)).mono ?_
                rintro e w21 ⟨rfl, z21, S21⟩
                have SE := Lib.hid S21.bel
                clear S20 S21
                go_wp2_with fail
                go_ret
                exact ⟨rfl, SE.out⟩
              · obtain rfl : cm = 1 := by
                  rcases HC01.out with h | h
                  · exact absurd h.1 h0
                  · exact h.1
                obtain rfl : ok = true := by
                  rcases HC01.out with h | h
                  · omega
                  · exact h.2.2.1
                clear HC01 h0
                go_wp2_with fail
                refine (S20.quiet (HBI.out w20 (S20.row 3).at (S20.row 5).at)).mono ?_
                rintro e w21 ⟨rfl, z21, S21⟩
                have SE := Lib.hid S21.bel
                clear S20 S21
                go_wp2_with fail
                go_ret
                exact ⟨rfl, SE.out⟩
        · have HMA := Lib.hid (show A.most = (N : Int) by have := HMX.out; omega)
          go_upto_region 12 with fail
          rw [HMA.out]
          clear hm hma hmb hna hnb
          obtain ⟨⟨x0, _⟩, x1, _⟩ := S12.two 0
          obtain ⟨⟨y0, _⟩, y1, _⟩ := S12.two 1
          go_wp2_with fail
          refine (mgu34 A B N _ _ w12 (TA.out.kept S12.bel) (TB.out.kept S12.bel) HST.out.2.2.2 HST.out.1 HST.out.2.1 HST.out.2.2.1).mono ?_
          rintro e w20 ⟨L2, cm, ro2, rc2, rfl, HMA, hrow2, hb20⟩
          have S20 := (S12.step hb20).add (.row 0 w20.heap.size ro2 L2) (hrow2.mono (fun b h _ => ⟨Nat.zero_le _, h⟩))
          have HLAW := Lib.hid (mgu_law HAB.out.1 HAB.out.2 HU.out (HN.out ▸ HMA))
          have HLL := Lib.hid HU.out.len
          clear S12 hb20 hrow2 HMA x0 x1 y0 y1
          obtain ⟨⟨x0, _⟩, x1, _⟩ := S20.two 4
          by_cases h3 : cm = 3
          · subst h3
            have SE := Lib.hid S20.bel
            clear S20
            go_wp2_with fail
            go_ret
            exact ⟨rfl, SE.out⟩
          · by_cases h2 : cm = 2
            · subst h2
              obtain ⟨h4, h5, h6⟩ : L = [] ∧ ok = false ∧ f = (10, 0) := by
                rcases HLAW.out with h | ⟨_, h4, h5, h6⟩ | ⟨h, _⟩ | ⟨h, _⟩
                · omega
                · exact ⟨h4, h5, h6⟩
                · omega
                · omega
              subst h4 h5 h6
              clear HLAW HLL HU h3
              go_upto_region 16 with fail
              have CA := Lib.hid (fun d os => Calls.regrown_of (fault20 10 0 (Go.Sort.grow (redrawn w20 d) os)))
              have r0 := cell_regrown x0; have r1 := cell_regrown x1
              clear x0 x1
              refine wp_region_quiet_below (by kernel_rfl) (by kernel_rfl) ?_
              repeat (go_big_quiet_step (exact CA.out _ _))
              refine wpQuiet_nil ?_
              intro _ hw'
              obtain ⟨⟨dq, osq⟩, hw''⟩ := hw'
              subst hw''
              have SE := Lib.hid (S20.regrown dq osq).bel
              clear r0 r1 CA S20
              go_wp2_with fail
              go_ret
              exact ⟨rfl, SE.out⟩
            · have HC01 := Lib.hid (show (cm = 0 ∧ f = (0, 0) ∧ ok = false ∧ L = L2) ∨ (cm = 1 ∧ f = (0, 0) ∧ ok = true ∧ L = L2) by
                rcases HLAW.out with h | ⟨h, _⟩ | h | h
                · exact absurd h h3
                · exact absurd h h2
                · exact .inl h
                · exact .inr h)
              obtain rfl : L = L2 := by rcases HC01.out with h | h; exact h.2.2.2; exact h.2.2.2
              obtain rfl : f = (0, 0) := by rcases HC01.out with h | h; exact h.2.1; exact h.2.1
              have HBI := Lib.hid (fun W (h1 : RowAt W ro L) (h2 : RowAt W ro2 L) => binds_self L ro ro2 rc rc2 W h1 h2 HLL.out)
              clear HLAW h2 h3 HU
              by_cases h0 : cm = 0
              · subst h0
                obtain rfl : ok = false := by
                  rcases HC01.out with h | h
                  · exact h.2.2.1
                  · omega
                clear HC01
                go_wp2_with fail
                refine (S20.quiet (HBI.out w20 (S20.row 3).at (S20.row 5).at)).mono ?_
                rintro e w21 ⟨rfl, z21, S21⟩
                have SE := Lib.hid S21.bel
                clear S20 S21
                go_wp2_with fail
                go_ret
                exact ⟨rfl, SE.out⟩
              · obtain rfl : cm = 1 := by
                  rcases HC01.out with h | h
                  · exact absurd h.1 h0
                  · exact h.1
                obtain rfl : ok = true := by
                  rcases HC01.out with h | h
                  · omega
                  · exact h.2.2.1
                clear HC01 h0
                go_wp2_with fail
                refine (S20.quiet (HBI.out w20 (S20.row 3).at (S20.row 5).at)).mono ?_
                rintro e w21 ⟨rfl, z21, S21⟩
                have SE := Lib.hid S21.bel
                clear S20 S21
                go_wp2_with fail
                go_ret
                exact ⟨rfl, SE.out⟩
end Go.Proofs.Ytlhnfdjidjgfgaa
