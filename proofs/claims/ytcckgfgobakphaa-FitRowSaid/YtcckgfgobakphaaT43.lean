/-
  Walk: the law FitSays.
-/
import Derived.Test.YtcckgfgobakphaaProg
import Derived.Test.YtcckgfgobakphaaBase
import Derived.Test.YtcckgfgobakphaaT40
import Derived.Test.YtcckgfgobakphaaT42
import Derived.Deep.DeepCutAuto
import Derived.Deep.RegionHeld3
namespace Go.Proofs.Ytcckgfgobakphaa
open Go.RowKit Go.Shelf
set_option linter.unusedVariables false
set_option maxHeartbeats 400000

theorem fitD_code (p t : T) : (fitD p t).2.2 = if (treeF p).1 ≠ 0 then treeF p else if (treeF t).1 ≠ 0 then ((treeF t).1, -1) else (0, 0) := by
  unfold fitD
  split
  · rfl
  · split <;> rfl
theorem fitD_bad {p t : T} {L : List T} {ok : Bool} {c d : Int} (h : fitD p t = (L, ok, c, d)) (hc : c ≠ 0) : L = [] ∧ ok = false := by
  unfold fitD at h
  split at h
  · simp at h; simp [h]
  · split at h
    · simp at h; simp [h]
    · simp at h; omega
theorem fitD_ok {p t : T} {L : List T} {ok : Bool} {d : Int} (h : fitD p t = (L, ok, 0, d)) : (treeF p).1 = 0 ∧ (treeF t).1 = 0 ∧ d = 0 ∧ L = fitLst p t ∧ ok = (fitF p t).isSome := by
  unfold fitD at h
  split at h
  · rename_i hp
    have := congrArg (fun x => x.2.2.1) h; simp at this; exact absurd this hp
  · rename_i hp
    split at h
    · rename_i ht
      have := congrArg (fun x => x.2.2.1) h; simp at this; exact absurd this ht
    · rename_i ht
      simp at h
      exact ⟨by simpa using hp, by simpa using ht, h.2.2.symm, h.1.symm, h.2.1.symm⟩

set_option maxRecDepth 100000 in
set_option maxHeartbeats 8000000 in
theorem fitSays8 (p t : T) (v u : Value) (w : World) (hp : TreeAt w v p) (ht : TreeAt w u t) (hps : p.size ≤ 1048576) (hts : t.size ≤ 1048576) :
    Calls Try.prog 8 #[v, u] w fun e w' => e = .returned (.bool true) ∧ Below w.heap.size w w' := by
  obtain ⟨po, psp, rfl⟩ := hp.form
  obtain ⟨tq, tsp, rfl⟩ := ht.form
  have HP := Lib.hid hp; have HT := Lib.hid ht
  clear hp ht
  have S0 := ((St.start w).box rfl #[.int .i64 p.head, .slice po p.kids.length (p.kids.length + psp)] 24).box (b := w.heap.size + 1) (by simp) #[.int .i64 t.head, .slice tq t.kids.length (t.kids.length + tsp)] 24
  obtain ⟨⟨x0, _⟩, x1, _⟩ := S0.two 0
  go_enter Try.func8, Try.ntmps8
  go_wp2_with fail
  refine St.gen S0 (z := w.heap.size + 2) (by simp) ?_
  intro w1 z1 S1
  refine (S1.quiet (vast15 p _ w1 (by omega) (HP.out.kept S1.bel))).mono ?_
  rintro e w2 ⟨rfl, z2, S2⟩
  clear S0 S1 x0 x1
  by_cases hv : (200 : Int) < p.size
  · have hvd : decide ((200 : Int) < p.size) = true := decide_eq_true hv
    rw [hvd]
    go_wp2_with fail
    refine bodyPost_ret (v := .bool true) (by simp [results, Try.results8, go_sem]) rfl ⟨rfl, S2.bel⟩
  have hvd : decide ((200 : Int) < p.size) = false := decide_eq_false hv
  rw [hvd]
  have hps : p.size ≤ 200 := by omega
  clear hv hvd
  obtain ⟨⟨x0, _⟩, x1, _⟩ := S2.two 1
  have hl := S2.lt 1
  go_wp2_with fail
  refine (S2.quiet (vast15 t _ w2 (by omega) (HT.out.kept S2.bel))).mono ?_
  rintro e w3 ⟨rfl, z3, S3⟩
  clear S2 x0 x1 hl
  by_cases hv : (200 : Int) < t.size
  · have hvd : decide ((200 : Int) < t.size) = true := decide_eq_true hv
    rw [hvd]
    go_wp2_with fail
    refine bodyPost_ret (v := .bool true) (by simp [results, Try.results8, go_sem]) rfl ⟨rfl, S3.bel⟩
  have hvd : decide ((200 : Int) < t.size) = false := decide_eq_false hv
  rw [hvd]
  have hts : t.size ≤ 200 := by omega
  clear hv hvd
  obtain ⟨⟨x0, _⟩, x1, _⟩ := S3.two 0
  have hl := S3.lt 0
  go_wp2_with fail
  refine (S3.fault (f := treeF p) (tree18 p _ w3 (by omega) (HP.out.kept S3.bel))).mono ?_
  rintro e w4 ⟨pc, pa, rfl, HPF, z4, S4⟩
  have S5 := S4.box rfl #[.int .i64 pc, .int .i64 pa] 28
  clear S3 S4 x0 x1 hl
  have hfld := field28_0
  -- the fault of either
  have HCD := Lib.hid (show (fitD p t).2.2 = if pc ≠ 0 then (pc, pa) else if (treeF t).1 ≠ 0 then ((treeF t).1, -1) else (0, 0) by rw [fitD_code, HPF.out])
  go_upto_region 4 with fail
  refine S5.genC (z := w4.heap.size + 1) (by simp) ?_
  intro w5 z5 S6
  clear S5
  go_cut [27] (fun s27 wx => w4.heap.size + 1 ≤ wx.heap.size ∧ s27 = .bool (decide (pc = 0 ∧ (treeF t).1 ≠ 0)) ∧ St w wx [.box w.heap.size #[.int .i64 p.head, .slice po p.kids.length (p.kids.length + psp)] 24, .box (w.heap.size + 1) #[.int .i64 t.head, .slice tq t.kids.length (t.kids.length + tsp)] 24, .box w4.heap.size #[.int .i64 pc, .int .i64 pa] 28])
  case first =>
    obtain ⟨⟨x2, _⟩, x3, _⟩ := S6.two 2
    have hl2 := S6.lt 2
    cases hpc : (pc == 0) with
    | true =>
      have hp0 : pc = 0 := by simpa using hpc
      have HP0 := Lib.hid hp0
      clear hp0
      obtain ⟨⟨x0, _⟩, x1, _⟩ := S6.two 1
      have hl1 := S6.lt 1
      go_wp2_with fail
      refine (S6.fault (f := treeF t) (tree18 t _ w5 (by omega) (HT.out.kept S6.bel))).mono ?_
      rintro e w6 ⟨tc, ta, rfl, HTF, z6, S7⟩
      go_wp2_with fail
      go_meet
      refine ⟨by omega, congrArg Value.bool ?_, S7⟩
      rw [HP0.out, HTF.out, Bool.eq_iff_iff]; simp
    | false =>
      have hp0 : ¬ pc = 0 := by simpa using hpc
      have HP0 := Lib.hid hp0
      clear hp0
      go_wp2_with fail
      go_meet
      exact ⟨z5, congrArg Value.bool (decide_eq_false (fun h => HP0.out h.1)).symm, S6⟩
  case rest =>
    obtain ⟨zwc, rfl, S7⟩ := hcut
    obtain ⟨wd, rfl⟩ : ∃ W : World, W = wc := ⟨_, rfl⟩
    clear S6
    go_upto_if 27 with fail
    go_cut [] (fun wx => w4.heap.size + 1 ≤ wx.heap.size ∧ ∃ c d, Hid ((fitD p t).2.2 = (c, d)) ∧ St w wx [.box w.heap.size #[.int .i64 p.head, .slice po p.kids.length (p.kids.length + psp)] 24, .box (w.heap.size + 1) #[.int .i64 t.head, .slice tq t.kids.length (t.kids.length + tsp)] 24, .box w4.heap.size #[.int .i64 c, .int .i64 d] 28])
    case first =>
      cases hb : decide (pc = 0 ∧ (treeF t).1 ≠ 0) with
      | true =>
        have hb' := of_decide_eq_true hb
        have HB := Lib.hid hb'
        clear hb hb'
        obtain ⟨⟨x0, _⟩, x1, _⟩ := S7.two 1
        have hl1 := S7.lt 1
        go_wp2_with fail
        refine (S7.fault (f := treeF t) (tree18 t _ wd (by omega) (HT.out.kept S7.bel))).mono ?_
        rintro e w6 ⟨tc, ta, rfl, HTF, z6, S8⟩
        clear x0 x1 hl1 S7
        go_wp2_with fail
        refine (S8.quiet (fault20 tc (-1) w6)).mono ?_
        rintro e w7 ⟨rfl, z7, S9⟩
        obtain ⟨⟨x0, x1⟩, x2, x3⟩ := S9.two 2
        have hl2 := S9.lt 2
        have S10 := S9.set2 2 rfl (.int .i64 tc) (.int .i64 (-1)) (by omega) (by simp only [offs, offAll, Fct.box, and_true]; omega)
        have z10 : w4.heap.size + 1 ≤ ((w7.setCell ⟨w4.heap.size, 0, none⟩ (.int .i64 tc)).setCell ⟨w4.heap.size, 1, none⟩ (.int .i64 (-1))).heap.size := by simp; omega
        go_wp2_with fail
        go_meet
        exact ⟨z10, tc, -1, by rw [HCD.out, if_neg (by simp [HB.out.1]), if_pos HB.out.2, HTF.out]; rfl, S10⟩
      | false =>
        have hb' := of_decide_eq_false hb
        have HB := Lib.hid hb'
        clear hb hb'
        go_wp2_with fail
        go_meet
        by_cases hp0 : pc = 0
        · have h1 := HB.out
          have h2 : ¬ (treeF t).1 ≠ 0 := fun h => h1 ⟨hp0, h⟩
          exact ⟨zwc, pc, pa, by
            rw [HCD.out, if_neg (by simp [hp0]), if_neg h2]
            have := treeF_ok0 (t := p) (by rw [HPF.out]; exact hp0)
            rw [HPF.out] at this; exact this.symm, S7⟩
        · exact ⟨zwc, pc, pa, by rw [HCD.out, if_pos hp0]; rfl, S7⟩
    case rest =>
      obtain ⟨zwx, c, d, HC, S8⟩ := hcut
      clear S7
      obtain ⟨we, rfl⟩ : ∃ W : World, W = wc := ⟨_, rfl⟩
      obtain ⟨⟨x0, _⟩, x1, _⟩ := S8.two 0
      obtain ⟨⟨x2, _⟩, x3, _⟩ := S8.two 1
      have hl0 := S8.lt 0; have hl1 := S8.lt 1
      go_wp2_with fail
      refine (S8.fitted (do34 p t _ _ we (HP.out.kept S8.bel) (HT.out.kept S8.bel))).mono ?_
      rintro e w9 ⟨L, ok, c', d', ro, rc, rfl, HD, z9, S9⟩
      obtain ⟨rfl, rfl⟩ : c = c' ∧ d = d' := by have h := HC.out; rw [HD.out] at h; simpa using h.symm
      have S10 := S9.box rfl #[.int .i64 c, .int .i64 d] 28
      clear S8 S9 x0 x1 x2 x3 hl0 hl1
      obtain ⟨⟨x0, _⟩, x1, _⟩ := S10.two 2
      have hl2 := S10.lt 2
      cases hc : (c != 0) with
      | true =>
        obtain ⟨rfl, rfl⟩ := fitD_bad HD.out (by simpa using hc)
        go_wp2_with fail
        refine bodyPost_ret (v := .bool true) (by simp [results, Try.results8, go_sem]) rfl ⟨rfl, S10.bel⟩
      | false =>
        obtain rfl : c = 0 := by simpa using hc
        obtain ⟨hpok, htok, rfl, rfl, rfl⟩ := fitD_ok HD.out
        have hp3 := treeF_ok.1 hpok
        have HP3 := Lib.hid hp3.2.2
        have hm8 := most_le p hp3.2.2
        have hm0 := p.most_nonneg
        clear hpok htok hp3
        obtain ⟨N, hN⟩ : ∃ N : Nat, (N : Int) = p.most := ⟨p.most.toNat, by omega⟩
        have HNM := Lib.hid (show p.most.toNat = N by omega)
        have HML := Lib.hid (show p.most ≤ (N : Int) by omega)
        have hN8 : N ≤ 8 := by omega
        have HN := Lib.hid hN
        clear hN hm8 hm0
        go_upto_region 11 with fail
        refine S10.genC (z := w9.heap.size + 1) (by simp) ?_
        intro w10 z10 S11
        clear x0 x1 hl2 S10
        obtain ⟨⟨x0, _⟩, x1, _⟩ := S11.two 0
        obtain ⟨⟨x2, _⟩, x3, _⟩ := S11.two 1
        have HM30 := Lib.hid (fun (W : World) (h : Below w.heap.size w W) => show Calls Try.prog 30 #[.agg #[.int .i64 p.head, .slice po p.kids.length (p.kids.length + psp)]] W fun e w' => e = .returned (.int .i64 (N : Int)) ∧ Below W.heap.size W w' by rw [HN.out]; exact most30 p _ W (low_of_pre p HP3.out) (HP.out.kept h))
        have hmk := make25 N (by omega)
        have SD := Lib.hid S11.drew
        have bal : ∀ (W : World) (o : Obj), Below W.heap.size W (W.alloc o) := fun W o => (Below.refl _ _).alloc (Nat.le_refl _) _
        have BAL := Lib.hid bal
        clear bal S11
        go_region_held3 (fun w' => w'.cell? ⟨w.heap.size, 0, none⟩ = some (.int .i64 p.head) ∧ w'.cell? ⟨w.heap.size, 1, none⟩ = some (.slice po p.kids.length (p.kids.length + psp)) ∧ w'.cell? ⟨w.heap.size + 1, 0, none⟩ = some (.int .i64 t.head) ∧ w'.cell? ⟨w.heap.size + 1, 1, none⟩ = some (.slice tq t.kids.length (t.kids.length + tsp)))
          (first | go_keep | exact ⟨y0, y1, y2, y3⟩ | exact ⟨Below.cellOf (BAL.out _ _) y0, Below.cellOf (BAL.out _ _) y1, Below.cellOf (BAL.out _ _) y2, Below.cellOf (BAL.out _ _) y3⟩ | exact ⟨Below.cellOf hb12 (Below.cellOf (BAL.out _ _) y0), Below.cellOf hb12 (Below.cellOf (BAL.out _ _) y1), Below.cellOf hb12 (Below.cellOf (BAL.out _ _) y2), Below.cellOf hb12 (Below.cellOf (BAL.out _ _) y3)⟩)
          (first
            | (go_at_call 30; refine (HM30.out _ SD.out.bel).mono ?_; rintro e w11 ⟨rfl, hb11⟩; have y0 := Below.cellOf hb11 x0; have y1 := Below.cellOf hb11 x1; have y2 := Below.cellOf hb11 x2; have y3 := Below.cellOf hb11 x3; have S12 := Lib.hid (SD.out.step hb11); clear hb11)
            | (go_at_call 35; refine (fit35 N p t (fun _ => zeroT) (fun b => b < (w11.alloc (.cells (madeCells (Value.agg #[.int .i64 0, .slice none 0 0]).cells (N * 2)) 24)).heap.size) _ _ _ _ _ (fun _ h => h) ((HP.out.kept (S12.out.alloc _).bel).foot) ((HT.out.kept (S12.out.alloc _).bel).foot) (RowP.made (heap_ofAlloc _ _) _ (by simp)) HML.out (by omega)).mono ?_; rintro e w12 ⟨ro2, rc2, rfl, hr2, hb12⟩; have HR2 := Lib.hid hr2; clear hr2))
        have S13 := (S12.out.alloc (.cells (madeCells (Value.agg #[.int .i64 0, .slice none 0 0]).cells (N * 2)) 24)).step hb12
        clear hmk x0 x1 x2 x3 y0 y1 y2 y3
        cases hf : p.fit t (fun _ => zeroT) with
        | none =>
          have hF : fitF p t = none := by rw [fitF, hf]; rfl
          have hL : (((fitLst p t).length : Int) == 0) = true := by rw [fitLst, hF]; rfl
          have hS : (fitF p t).isSome = false := by rw [hF]; rfl
          rw [hS]
          clear hF hf hS
          go_wp2_with fail
          refine bodyPost_ret (v := .bool true) (by simp [results, Try.results8, go_sem]) rfl ⟨rfl, S13.bel⟩
        | some r =>
          have hF : fitF p t = some (listT N r) := by rw [fitF, hf, HNM.out]; rfl
          have HL := Lib.hid (show fitLst p t = listT N r by rw [fitLst, hF]; rfl)
          have hS : (fitF p t).isSome = true := by rw [hF]; rfl
          have hlen : (fitLst p t).length ≤ 1000000 := by rw [HL.out, listT_length]; omega
          have hb := binds36 (fitLst p t) (listT N r) ro ro2 rc rc2 w12 (S13.row 3).at (HR2.out r hf).at hlen (by rw [listT_length]; omega)
          rw [listT_length] at hb
          have HB := Lib.hid hb
          rw [hS]
          clear hF hf hS hb hlen
          go_wp2_with fail
          refine HB.out.mono ?_
          rintro e w14 ⟨rfl, hb14⟩
          have S14 := S13.step hb14
          go_wp2_with fail
          refine bodyPost_ret (v := .bool (decide (fitLst p t = listT N r))) (by simp [results, Try.results8, go_sem]) rfl ⟨ret_bool (decide_eq_true HL.out), S14.bel⟩
end Go.Proofs.Ytcckgfgobakphaa
