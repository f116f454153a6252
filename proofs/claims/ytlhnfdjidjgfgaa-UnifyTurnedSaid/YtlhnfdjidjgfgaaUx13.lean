/-
  Walks: fit.Do.
-/
import Derived.Test.YtlhnfdjidjgfgaaProg
import Derived.Test.YtlhnfdjidjgfgaaXe
import Derived.Test.YtlhnfdjidjgfgaaXd
import Derived.OwnWalk
namespace Go.Proofs.Ytlhnfdjidjgfgaa
open Go.RowKit Go.Shelf
set_option linter.unusedVariables false
set_option maxHeartbeats 400000

set_option maxRecDepth 100000 in
set_option maxHeartbeats 4000000 in
theorem fit41 (p t : T) (v u : Value) (w : World) (hp : TreeAt w v p) (ht : TreeAt w u t) : Calls Try.prog 41 #[v, u] w (Do34Post p t w) := by
  obtain ⟨po, psp, rfl⟩ := hp.form
  obtain ⟨tq, tsp, rfl⟩ := ht.form
  have HP := Lib.hid hp; have HT := Lib.hid ht
  clear hp ht
  have S0 := (((St.start w).box rfl #[.int .i64 p.head, .slice po p.kids.length (p.kids.length + psp)] 38).box (b := w.heap.size + 1) (by simp) #[.int .i64 t.head, .slice tq t.kids.length (t.kids.length + tsp)] 38).box (b := w.heap.size + 1 + 1) (by simp) #[.int .i64 0, .int .i64 0] 29
  obtain ⟨⟨x0, _⟩, x1, _⟩ := S0.two 0
  have hlx := S0.lt 0
  go_enter Try.func41, Try.ntmps41
  go_wp2_with fail
  refine St.gen S0 (z := w.heap.size + 3) (by simp) ?_
  intro w1 z1 S1
  clear S0 x0 x1 hlx
  refine (S1.fault (f := treeF p) (check29 p _ w1 (HP.out.kept S1.bel))).mono ?_
  rintro e w2 ⟨pc, pa, rfl, HPF, z2, S2⟩
  have S3 := S2.box rfl #[.int .i64 pc, .int .i64 pa] 29
  clear S1 S2
  cases hpc : (pc != 0) with
  | true =>
    have HD := Lib.hid (show fitD p t = ([], false, pc, pa) by rw [fitD, if_pos (by rw [HPF.out]; simpa using hpc), HPF.out])
    go_upto_region 3 with fail
    refine S3.genC (z := w2.heap.size + 1) (by simp) ?_
    intro w3 z3 S4
    have S5 := S4.drew
    obtain ⟨⟨x0, x1⟩, x2, x3⟩ := S4.two 2
    obtain ⟨⟨x4, x5⟩, x6, x7⟩ := S4.two 3
    obtain ⟨⟨y0, y1⟩, y2, y3⟩ := S5.two 2
    obtain ⟨⟨y4, y5⟩, y6, y7⟩ := S5.two 3
    have hl := S4.lt 2
    have hne : ¬ w.heap.size + 1 + 1 = w2.heap.size := by omega
    have hne2 : ¬ w2.heap.size = w.heap.size + 1 + 1 := by omega
    have SF := Lib.hid (S4.set2 2 rfl (.int .i64 pc) (.int .i64 pa) (by omega) (by simp only [fsnoc, offs, offAll, Fct.box, and_true]; omega)).drew
    clear S3 S4 S5
    go_region
    all_goals
      go_wp2_with fail
      refine bodyPost_ret (v := .tuple #[.slice none 0 0, .bool false, .agg #[.int .i64 pc, .int .i64 pa]]) ?_ rfl ?_
      · obtain ⟨⟨z0, _⟩, z1, _⟩ := SF.out.two 2
        simp [results, Try.results41, go_sem, z0, z1]
      · exact ⟨none, 0, by rw [HD.out]; rfl, (fun i hi => by rw [HD.out] at hi; simp at hi), SF.out.bel⟩
  | false =>
    have hpok : (treeF p).1 = 0 := by rw [HPF.out]; simpa using hpc
    have HPOK := Lib.hid hpok
    clear hpok
    obtain ⟨⟨x0, _⟩, x1, _⟩ := S3.two 1
    have hlx := S3.lt 1
    go_wp2_with fail
    refine St.gen S3 (z := w2.heap.size + 1) (by simp) ?_
    intro w3 z3 S4
    clear S3 x0 x1 hlx
    refine (S4.fault (f := treeF t) (check29 t _ w3 (HT.out.kept S4.bel))).mono ?_
    rintro e w4 ⟨tc, ta, rfl, HTF, z4, S5⟩
    have S6 := S5.box rfl #[.int .i64 tc, .int .i64 ta] 29
    clear S4 S5
    cases htc : (tc != 0) with
    | true =>
      have HD := Lib.hid (show fitD p t = ([], false, tc, -1) by rw [fitD, if_neg (by rw [HPOK.out]; simp), if_pos (by rw [HTF.out]; simpa using htc), HTF.out])
      go_upto_region 6 with fail
      refine S6.genC (z := w4.heap.size + 1) (by simp) ?_
      intro w5 z5 S7
      have S8 := S7.drew
      obtain ⟨⟨x0, x1⟩, x2, x3⟩ := S7.two 2
      obtain ⟨⟨x4, x5⟩, x6, x7⟩ := S7.two 4
      obtain ⟨⟨y0, y1⟩, y2, y3⟩ := S8.two 2
      obtain ⟨⟨y4, y5⟩, y6, y7⟩ := S8.two 4
      have hl := S7.lt 2
      have hne : ¬ w.heap.size + 1 + 1 = w4.heap.size := by omega
      have hne2 : ¬ w4.heap.size = w.heap.size + 1 + 1 := by omega
      have SF := Lib.hid (S7.set2 2 rfl (.int .i64 tc) (.int .i64 (-1)) (by omega) (by simp only [fsnoc, offs, offAll, Fct.box, and_true]; omega)).drew
      clear S6 S7 S8
      go_region
      all_goals
        go_wp2_with fail
        refine bodyPost_ret (v := .tuple #[.slice none 0 0, .bool false, .agg #[.int .i64 tc, .int .i64 (-1)]]) ?_ rfl ?_
        · obtain ⟨⟨z0, _⟩, z1, _⟩ := SF.out.two 2
          simp [results, Try.results41, go_sem, z0, z1]
        · exact ⟨none, 0, by rw [HD.out]; rfl, (fun i hi => by rw [HD.out] at hi; simp at hi), SF.out.bel⟩
    | false =>
      have htok : (treeF t).1 = 0 := by rw [HTF.out]; simpa using htc
      have HD := Lib.hid (show fitD p t = (fitLst p t, (fitF p t).isSome, 0, 0) by rw [fitD, if_neg (by rw [HPOK.out]; simp), if_neg (by rw [htok]; simp)])
      have hp3 := treeF_ok.1 HPOK.out
      have ht3 := treeF_ok.1 htok
      have HP3 := Lib.hid hp3.2.2
      have hp1 : p.size ≤ 1000000 := by have := hp3.1; omega
      have hp2 : p.deep ≤ 100000 := by have := hp3.2.1; omega
      have ht1 : t.size ≤ 100000000 := by have := ht3.1; omega
      clear htok hp3 ht3
      obtain ⟨⟨x0, _⟩, x1, _⟩ := S6.two 0
      obtain ⟨⟨x2, _⟩, x3, _⟩ := S6.two 1
      have hlx := S6.lt 1
      have hlx0 := S6.lt 0
      go_wp2_with fail
      refine St.gen S6 (z := w4.heap.size + 1) (by simp) ?_
      intro w5 z5 S7
      clear S6 x0 x1 x2 x3 hlx hlx0
      refine (match55 p t _ _ w5 (HP.out.kept S7.bel) (HT.out.kept S7.bel) HP3.out hp1 hp2 ht1).mono ?_
      rintro e w6 ⟨ro, rc, rfl, hrow, hb6⟩
      have z6 := hb6.size
      have S8 := (S7.step hb6).add (.row w5.heap.size w6.heap.size ro (fitLst p t)) hrow
      obtain ⟨⟨x0, x1⟩, x2, x3⟩ := S8.two 2
      have hl := S8.lt 2
      have SF := Lib.hid (S8.set2 2 rfl (.int .i64 0) (.int .i64 0) (by omega) (by simp only [fsnoc, offs, offAll, Fct.box, Fct.row, and_true]; omega))
      clear hb6 hrow S7 S8
      go_wp2_with fail
      refine bodyPost_ret (v := .tuple #[.slice ro (fitLst p t).length rc, .bool (fitF p t).isSome, .agg #[.int .i64 0, .int .i64 0]]) ?_ rfl ?_
      · obtain ⟨⟨z0, _⟩, z1, _⟩ := SF.out.two 2
        simp [results, Try.results41, go_sem, z0, z1]
      · have hr := SF.out.get 5
        refine ⟨ro, rc, by rw [HD.out], ?_, SF.out.bel⟩
        rw [HD.out]
        exact RowP.mono hr (fun b h hlt => ⟨by omega, hlt⟩)
end Go.Proofs.Ytlhnfdjidjgfgaa
