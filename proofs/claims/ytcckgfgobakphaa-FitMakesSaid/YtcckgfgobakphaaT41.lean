/-
  Walks: fit.Match, fit.Do.
-/
import Derived.Test.YtcckgfgobakphaaProg
import Derived.Test.YtcckgfgobakphaaBase
import Derived.Test.YtcckgfgobakphaaT39
import Derived.Test.YtcckgfgobakphaaT24
import Derived.Test.YtcckgfgobakphaaT18
import Derived.OwnWalk
import Derived.Deep.DeepCutAuto
namespace Go.Proofs.Ytcckgfgobakphaa
open Go.RowKit Go.Shelf
set_option linter.unusedVariables false
set_option maxHeartbeats 400000

/-- what stands for the variables of a pattern -/
noncomputable def fitF (p t : T) : Option (List T) := (p.fit t (fun _ => zeroT)).map (listT p.most.toNat)
noncomputable def fitLst (p t : T) : List T := (fitF p t).getD []
theorem fitF_isSome (p t : T) : (fitF p t).isSome = (p.fit t (fun _ => zeroT)).isSome := by simp [fitF]
def MadeRow (w w' : World) (ro : Option Addr) (ks : List T) : Prop := RowP (fun b => w.heap.size ≤ b ∧ b < w'.heap.size) w' ro ks
def Match55Post (p t : T) (w : World) (e : Ending) (w' : World) : Prop :=
  ∃ ro rc, e = .returned (.tuple #[.slice ro (fitLst p t).length rc, .bool (fitF p t).isSome]) ∧ MadeRow w w' ro (fitLst p t) ∧ Below w.heap.size w w'

set_option maxRecDepth 100000 in
set_option maxHeartbeats 4000000 in
theorem match55 (p t : T) (v u : Value) (w : World) (hp : TreeAt w v p) (ht : TreeAt w u t) (hpok : ∀ x ∈ p.pre, okN x) (hps : p.size ≤ 1000000) (hpd : p.deep ≤ 100000) (hts : t.size ≤ 100000000) :
    Calls Try.prog 55 #[v, u] w (Match55Post p t w) := by
  obtain ⟨po, psp, rfl⟩ := hp.form
  obtain ⟨tq, tsp, rfl⟩ := ht.form
  have HP := Lib.hid hp; have HT := Lib.hid ht
  have HPOK := Lib.hid hpok
  have hm8 := most_le p hpok
  have hm0 := p.most_nonneg
  clear hp ht hpok
  have S0 := ((St.start w).box rfl #[.int .i64 p.head, .slice po p.kids.length (p.kids.length + psp)] 24).box (b := w.heap.size + 1) (by simp) #[.int .i64 t.head, .slice tq t.kids.length (t.kids.length + tsp)] 24
  obtain ⟨⟨x0, _⟩, x1, _⟩ := S0.two 0
  have hlx := S0.lt 0
  have S1 := S0.box (b := w.heap.size + 1 + 1) (by simp) #[.int .i64 p.head, .slice po p.kids.length (p.kids.length + psp)] 24
  obtain ⟨i24, gi, gz0, gz1, gz2⟩ := info_parts info24
  go_enter Try.func55, Try.ntmps55
  go_wp2_with fail
  refine St.gen S1 (z := w.heap.size + 3) (by simp) ?_
  intro w1 z1 S2
  clear S0 S1 x0 x1 hlx
  have hrow : RowAt w1 (some ⟨w.heap.size + 1 + 1, 0, none⟩) [p] := fun i hi => by
    obtain rfl : i = 0 := by simp at hi; omega
    obtain ⟨⟨y0, _⟩, y1, _⟩ := S2.two 2
    exact ⟨w.heap.size + 1 + 1, 0, po, psp, rfl, by simpa [gK] using y0, by simpa [gK] using y1, by simpa [gK] using HP.out.kept S2.bel⟩
  refine (S2.quiet (max47 [p] (some ⟨w.heap.size + 1 + 1, 0, none⟩) 1 w1 hrow (by simp) (fun i hi => by
    obtain rfl : i = 0 := by simp at hi; omega
    simp only [gK, List.getD_cons_zero]
    exact ⟨hps, hpd, HPOK.out⟩))).mono ?_
  rintro e w2 ⟨rfl, z2, S3⟩
  obtain ⟨N, hN⟩ : ∃ N : Nat, (N : Int) = mostL [p] := ⟨p.most.toNat, by simp only [mostL]; omega⟩
  have hNm : (N : Int) = p.most := by rw [hN]; simp only [mostL]; omega
  have hN8 : N ≤ 8 := by omega
  rw [← hN]
  have HNM := Lib.hid (show p.most.toNat = N by omega)
  have HML := Lib.hid (show p.most ≤ (N : Int) by omega)
  clear hN hNm hrow S2
  go_wp2_with (at_make; refine wpList_make_full _ rfl (.tmp 9) (.tmp 9) 25 rfl w2.heap.size 24 i24 (.agg #[.int .i64 0, .slice none 0 0]) 2 Try.underlying25 gi gz0 gz1 .i64 .i64 _ _ N rfl rfl rfl rfl ?m1 ?m2 ?m3 ?_)
  case m1 => rw [gz2]; omega
  case m2 => unfold maxLen; omega
  case m3 => exact Nat.le_refl _
  intro w3 hown hgrow
  have hb3 : Below w2.heap.size w2 w3 := (Below.refl _ _).grown hgrow (Nat.le_refl _) (fun q hq => by cases hq)
  have z3 := hb3.size
  have S4 := (S3.step hb3).cons (.rset (fun b => False) w2.heap.size w2.heap.size N (fun _ => zeroT)) (RowSet.made (w := w3) hown _)
  have hgl := (S4.rset 0).lt.2
  obtain ⟨⟨x0, _⟩, x1, _⟩ := S4.two 1
  obtain ⟨⟨y0, _⟩, y1, _⟩ := S4.two 2
  have hlx := S4.lt 1
  clear hown hgrow S3
  go_wp2_with fail
  refine (match62 N w2.heap.size w2.heap.size p t (fun _ => zeroT) (fun b => False) (fun b => b < w.heap.size) (fun b => b < w.heap.size) _ _ w w3 _ S4 ⟨show ¬ w2.heap.size = w.heap.size by omega, show ¬ w2.heap.size = w.heap.size + 1 by omega, show ¬ w2.heap.size = w.heap.size + 1 + 1 by omega, trivial⟩ (by omega) (by omega) (fun h => h) (HP.out.foot.kept S4.bel) (HT.out.foot.kept S4.bel) (by show ¬ w2.heap.size < w.heap.size; omega) (by show ¬ w2.heap.size < w.heap.size; omega) HML.out hts).mono ?_
  rintro e w4 ⟨bs', rfl, HB, z4, S5⟩
  have hrow4 := (S5.rset 0).row
  have HROW := Lib.hid hrow4
  clear x0 x1 y0 y1 hlx S4 hrow4
  cases hf : p.fit t (fun _ => zeroT) with
  | none =>
    have HF := Lib.hid (show fitF p t = none by rw [fitF, hf]; rfl)
    clear hf
    go_wp2_with fail
    go_ret2
    exact ⟨none, 0, by rw [fitLst, HF.out]; rfl, (fun i hi => by rw [fitLst, HF.out] at hi; simp at hi), S5.bel⟩
  | some r =>
    obtain rfl := HB.out r hf
    have HF := Lib.hid (show fitF p t = some (listT N r) by rw [fitF, hf, HNM.out]; rfl)
    clear hf
    go_wp2_with fail
    go_ret2
    refine ⟨some ⟨w2.heap.size, 0, none⟩, N, by rw [fitLst, HF.out]; simp [listT_length], ?_, S5.bel⟩
    rw [fitLst, HF.out]
    exact HROW.out.mono (fun b h hlt => ⟨by rcases h with ⟨h | h, _⟩ | h; exact h.elim; omega; omega, hlt⟩)

noncomputable def fitD (p t : T) : List T × Bool × Int × Int := if (treeF p).1 ≠ 0 then ([], false, treeF p) else if (treeF t).1 ≠ 0 then ([], false, (treeF t).1, -1) else (fitLst p t, (fitF p t).isSome, 0, 0)
def Do34Post (p t : T) (w : World) (e : Ending) (w' : World) : Prop :=
  ∃ ro rc, e = .returned (.tuple #[.slice ro (fitD p t).1.length rc, .bool (fitD p t).2.1, .agg #[.int .i64 (fitD p t).2.2.1, .int .i64 (fitD p t).2.2.2]]) ∧ MadeRow w w' ro (fitD p t).1 ∧ Below w.heap.size w w'

set_option maxRecDepth 100000 in
set_option maxHeartbeats 4000000 in
theorem do34 (p t : T) (v u : Value) (w : World) (hp : TreeAt w v p) (ht : TreeAt w u t) : Calls Try.prog 34 #[v, u] w (Do34Post p t w) := by
  obtain ⟨po, psp, rfl⟩ := hp.form
  obtain ⟨tq, tsp, rfl⟩ := ht.form
  have HP := Lib.hid hp; have HT := Lib.hid ht
  clear hp ht
  have S0 := (((St.start w).box rfl #[.int .i64 p.head, .slice po p.kids.length (p.kids.length + psp)] 24).box (b := w.heap.size + 1) (by simp) #[.int .i64 t.head, .slice tq t.kids.length (t.kids.length + tsp)] 24).box (b := w.heap.size + 1 + 1) (by simp) #[.int .i64 0, .int .i64 0] 28
  obtain ⟨⟨x0, _⟩, x1, _⟩ := S0.two 0
  have hlx := S0.lt 0
  go_enter Try.func34, Try.ntmps34
  go_wp2_with fail
  refine St.gen S0 (z := w.heap.size + 3) (by simp) ?_
  intro w1 z1 S1
  clear S0 x0 x1 hlx
  refine (S1.fault (f := treeF p) (check29 p _ w1 (HP.out.kept S1.bel))).mono ?_
  rintro e w2 ⟨pc, pa, rfl, HPF, z2, S2⟩
  have S3 := S2.box rfl #[.int .i64 pc, .int .i64 pa] 28
  clear S1 S2
  cases hpc : (pc != 0) with
  | true =>
    have HD := Lib.hid (show fitD p t = ([], false, pc, pa) by rw [fitD, if_pos (by rw [HPF.out]; simpa using hpc), HPF.out])
    go_upto_region 3 with fail
    refine S3.genC (z := w2.heap.size + 1) (by simp) ?_
    intro w3 z3 S4
    have S5 := S4.drew
    obtain ⟨⟨x0, x1⟩, x2, x3⟩ := S4.two 2
    obtain ⟨⟨x4, x5⟩, x6, x7⟩ := S4.two 3
    obtain ⟨⟨y0, y1⟩, y2, y3⟩ := S5.two 2
    obtain ⟨⟨y4, y5⟩, y6, y7⟩ := S5.two 3
    have hl := S4.lt 2
    have hne : ¬ w.heap.size + 1 + 1 = w2.heap.size := by omega
    have hne2 : ¬ w2.heap.size = w.heap.size + 1 + 1 := by omega
    have SF := Lib.hid (S4.set2 2 rfl (.int .i64 pc) (.int .i64 pa) (by omega) (by simp only [fsnoc, offs, offAll, Fct.box, and_true]; omega)).drew
    clear S3 S4 S5
    go_region
    all_goals
      go_wp2_with fail
      refine bodyPost_ret (v := .tuple #[.slice none 0 0, .bool false, .agg #[.int .i64 pc, .int .i64 pa]]) ?_ rfl ?_
      · obtain ⟨⟨z0, _⟩, z1, _⟩ := SF.out.two 2
        simp [results, Try.results34, go_sem, z0, z1]
      · exact ⟨none, 0, by rw [HD.out]; rfl, (fun i hi => by rw [HD.out] at hi; simp at hi), SF.out.bel⟩
  | false =>
    have hpok : (treeF p).1 = 0 := by rw [HPF.out]; simpa using hpc
    have HPOK := Lib.hid hpok
    clear hpok
    obtain ⟨⟨x0, _⟩, x1, _⟩ := S3.two 1
    have hlx := S3.lt 1
    go_wp2_with fail
    refine St.gen S3 (z := w2.heap.size + 1) (by simp) ?_
    intro w3 z3 S4
    clear S3 x0 x1 hlx
    refine (S4.fault (f := treeF t) (check29 t _ w3 (HT.out.kept S4.bel))).mono ?_
    rintro e w4 ⟨tc, ta, rfl, HTF, z4, S5⟩
    have S6 := S5.box rfl #[.int .i64 tc, .int .i64 ta] 28
    clear S4 S5
    cases htc : (tc != 0) with
    | true =>
      have HD := Lib.hid (show fitD p t = ([], false, tc, -1) by rw [fitD, if_neg (by rw [HPOK.out]; simp), if_pos (by rw [HTF.out]; simpa using htc), HTF.out])
      go_upto_region 6 with fail
      refine S6.genC (z := w4.heap.size + 1) (by simp) ?_
      intro w5 z5 S7
      have S8 := S7.drew
      obtain ⟨⟨x0, x1⟩, x2, x3⟩ := S7.two 2
      obtain ⟨⟨x4, x5⟩, x6, x7⟩ := S7.two 4
      obtain ⟨⟨y0, y1⟩, y2, y3⟩ := S8.two 2
      obtain ⟨⟨y4, y5⟩, y6, y7⟩ := S8.two 4
      have hl := S7.lt 2
      have hne : ¬ w.heap.size + 1 + 1 = w4.heap.size := by omega
      have hne2 : ¬ w4.heap.size = w.heap.size + 1 + 1 := by omega
      have SF := Lib.hid (S7.set2 2 rfl (.int .i64 tc) (.int .i64 (-1)) (by omega) (by simp only [fsnoc, offs, offAll, Fct.box, and_true]; omega)).drew
      clear S6 S7 S8
      go_region
      all_goals
        go_wp2_with fail
        refine bodyPost_ret (v := .tuple #[.slice none 0 0, .bool false, .agg #[.int .i64 tc, .int .i64 (-1)]]) ?_ rfl ?_
        · obtain ⟨⟨z0, _⟩, z1, _⟩ := SF.out.two 2
          simp [results, Try.results34, go_sem, z0, z1]
        · exact ⟨none, 0, by rw [HD.out]; rfl, (fun i hi => by rw [HD.out] at hi; simp at hi), SF.out.bel⟩
    | false =>
      have htok : (treeF t).1 = 0 := by rw [HTF.out]; simpa using htc
      have HD := Lib.hid (show fitD p t = (fitLst p t, (fitF p t).isSome, 0, 0) by rw [fitD, if_neg (by rw [HPOK.out]; simp), if_neg (by rw [htok]; simp)])
      have hp3 := treeF_ok.1 HPOK.out
      have ht3 := treeF_ok.1 htok
      have HP3 := Lib.hid hp3.2.2
      have hp1 : p.size ≤ 1000000 := by have := hp3.1; omega
      have hp2 : p.deep ≤ 100000 := by have := hp3.2.1; omega
      have ht1 : t.size ≤ 100000000 := by have := ht3.1; omega
      clear htok hp3 ht3
      obtain ⟨⟨x0, _⟩, x1, _⟩ := S6.two 0
      obtain ⟨⟨x2, _⟩, x3, _⟩ := S6.two 1
      have hlx := S6.lt 1
      have hlx0 := S6.lt 0
      go_wp2_with fail
      refine St.gen S6 (z := w4.heap.size + 1) (by simp) ?_
      intro w5 z5 S7
      clear S6 x0 x1 x2 x3 hlx hlx0
      refine (match55 p t _ _ w5 (HP.out.kept S7.bel) (HT.out.kept S7.bel) HP3.out hp1 hp2 ht1).mono ?_
      rintro e w6 ⟨ro, rc, rfl, hrow, hb6⟩
      have z6 := hb6.size
      have S8 := (S7.step hb6).add (.row w5.heap.size w6.heap.size ro (fitLst p t)) hrow
      obtain ⟨⟨x0, x1⟩, x2, x3⟩ := S8.two 2
      have hl := S8.lt 2
      have SF := Lib.hid (S8.set2 2 rfl (.int .i64 0) (.int .i64 0) (by omega) (by simp only [fsnoc, offs, offAll, Fct.box, Fct.row, and_true]; omega))
      clear hb6 hrow S7 S8
      go_wp2_with fail
      refine bodyPost_ret (v := .tuple #[.slice ro (fitLst p t).length rc, .bool (fitF p t).isSome, .agg #[.int .i64 0, .int .i64 0]]) ?_ rfl ?_
      · obtain ⟨⟨z0, _⟩, z1, _⟩ := SF.out.two 2
        simp [results, Try.results34, go_sem, z0, z1]
      · have hr := SF.out.get 5
        refine ⟨ro, rc, by rw [HD.out], ?_, SF.out.bel⟩
        rw [HD.out]
        exact RowP.mono hr (fun b h hlt => ⟨by omega, hlt⟩)
end Go.Proofs.Ytcckgfgobakphaa
