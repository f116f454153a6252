/-
  Walks: unify.Do.
-/
import Derived.Test.YtlhnfdjidjgfgaaProg
import Derived.Test.YtlhnfdjidjgfgaaUx7
import Derived.Test.YtlhnfdjidjgfgaaXd
namespace Go.Proofs.Ytlhnfdjidjgfgaa
open Go.RowKit Go.Shelf
set_option linter.unusedVariables false
set_option maxHeartbeats 400000

/-- how many variables two terms name -/
noncomputable def uN (A B : T) : Nat := (mostL [A, B]).toNat
theorem uN_eq (A B : T) : (uN A B : Int) = mostL [A, B] := by
  have := mostL_nonneg [A, B]
  unfold uN; omega
def NoU (A B : T) : Prop := ∀ θ, A.inst θ ≠ B.inst θ
/-- a most general one, too large -/
structure MuchU (A B : T) (σ : Nat → T) : Prop where
  can : Canon (fun θ => A.inst θ = B.inst θ) σ
  low : ∀ x, uN A B ≤ x → σ x = vT x
  big : ∃ x, x < uN A B ∧ σ x ≠ vT x ∧ ¬ fitN 0 1 (σ x)
/-- a most general one that fits -/
structure FitU (A B : T) (σ : Nat → T) : Prop where
  can : Canon (fun θ => A.inst θ = B.inst θ) σ
  low : ∀ x, uN A B ≤ x → σ x = vT x
  fit : ∀ x, σ x ≠ vT x → fitN 0 1 (σ x)
def UCore (A B : T) (L : List T) (ok sm : Bool) : Prop :=
  (L = [] ∧ ok = false ∧ sm = true ∧ NoU A B) ∨ (L = [] ∧ ok = true ∧ sm = false ∧ ∃ σ, MuchU A B σ) ∨ ∃ σ, FitU A B σ ∧ L = listT (uN A B) (bnd σ) ∧ ok = true ∧ sm = true
/-- what is answered for two good terms -/
def UGood (A B : T) (L : List T) (ok : Bool) (f : Int × Int) : Prop :=
  (L = [] ∧ ok = false ∧ f = (0, 0) ∧ NoU A B) ∨ (L = [] ∧ ok = false ∧ f = (10, 0) ∧ ∃ σ, MuchU A B σ) ∨ ∃ σ, FitU A B σ ∧ L = listT (uN A B) (bnd σ) ∧ ok = true ∧ f = (0, 0)
theorem UCore.much {A B : T} {L : List T} {ok : Bool} (h : UCore A B L ok false) : UGood A B [] false (10, 0) := by
  rcases h with ⟨_, _, h, _⟩ | ⟨_, _, _, h⟩ | ⟨_, _, _, _, h⟩
  · cases h
  · exact .inr (.inl ⟨rfl, rfl, rfl, h⟩)
  · cases h
theorem UCore.small {A B : T} {L : List T} {ok : Bool} (h : UCore A B L ok true) : UGood A B L ok (0, 0) := by
  rcases h with ⟨h1, h2, _, h3⟩ | ⟨_, _, h, _⟩ | ⟨σ, h1, h2, h3, _⟩
  · exact .inl ⟨h1, h2, rfl, h3⟩
  · cases h
  · exact .inr (.inr ⟨σ, h1, h2, h3, rfl⟩)
def UAns (A B : T) (L : List T) (ok : Bool) (f : Int × Int) : Prop :=
  ((treeF A).1 ≠ 0 ∧ L = [] ∧ ok = false ∧ f = treeF A) ∨ ((treeF A).1 = 0 ∧ (treeF B).1 ≠ 0 ∧ L = [] ∧ ok = false ∧ f = ((treeF B).1, -1)) ∨ ((treeF A).1 = 0 ∧ (treeF B).1 = 0 ∧ UGood A B L ok f)
def SolveQ (A B : T) (w : World) (e : Ending) (w' : World) : Prop :=
  ∃ L ok sm ro rc, e = .returned (.tuple #[.slice ro L.length rc, .bool ok, .bool sm]) ∧ UCore A B L ok sm ∧ MadeRow w w' ro L ∧ Below w.heap.size w w'
def Do33Post (A B : T) (w : World) (e : Ending) (w' : World) : Prop :=
  ∃ (L : List T) (ok : Bool) (f : Int × Int) (ro : Option Addr) (rc : Nat), e = .returned (.tuple #[.slice ro L.length rc, .bool ok, .agg #[.int .i64 f.1, .int .i64 f.2]]) ∧ UAns A B L ok f ∧ MadeRow w w' ro L ∧ Below w.heap.size w w'
theorem solveQ (A B : T) (va vb : Value) (w : World) (hA : TreeAt w va A) (hB : TreeAt w vb B) (oA : OkT A) (oB : OkT B) :
    Calls Try.prog 84 #[va, vb] w (SolveQ A B w) :=
  (solve84 (uN A B) A B va vb w hA hB oA oB (uN_eq A B)).mono fun e w' ⟨hb, h⟩ => by
    rcases h with ⟨rfl, h⟩ | ⟨σ, hc, hl, ⟨rfl, h⟩ | ⟨hf, g, rfl, hr⟩⟩
    · exact ⟨[], false, true, none, 0, rfl, .inl ⟨rfl, rfl, rfl, h⟩, (fun i hi => by simp at hi), hb⟩
    · exact ⟨[], true, false, none, 0, rfl, .inr (.inl ⟨rfl, rfl, rfl, σ, hc, hl, h⟩), (fun i hi => by simp at hi), hb⟩
    · exact ⟨listT (uN A B) (bnd σ), true, true, some ⟨g, 0, none⟩, uN A B, by rw [listT_length], .inr (.inr ⟨σ, ⟨hc, hl, hf⟩, rfl, rfl, rfl⟩), hr.mono (fun b h1 h2 => ⟨h1, h2⟩), hb⟩

set_option maxRecDepth 100000 in
set_option maxHeartbeats 4000000 in
theorem unify33 (p t : T) (v u : Value) (w : World) (hp : TreeAt w v p) (ht : TreeAt w u t) : Calls Try.prog 33 #[v, u] w (Do33Post p t w) := by
  obtain ⟨po, psp, rfl⟩ := hp.form
  obtain ⟨tq, tsp, rfl⟩ := ht.form
  have HP := Lib.hid hp; have HT := Lib.hid ht
  clear hp ht
  have S0 := (((St.start w).box rfl #[.int .i64 p.head, .slice po p.kids.length (p.kids.length + psp)] 38).box (b := w.heap.size + 1) (by simp) #[.int .i64 t.head, .slice tq t.kids.length (t.kids.length + tsp)] 38).box (b := w.heap.size + 1 + 1) (by simp) #[.int .i64 0, .int .i64 0] 29
  obtain ⟨⟨x0, _⟩, x1, _⟩ := S0.two 0
  have hlx := S0.lt 0
  go_enter Try.func33, Try.ntmps33
  go_wp2_with fail
  refine St.gen S0 (z := w.heap.size + 3) (by simp) ?_
  intro w1 z1 S1
  clear S0 x0 x1 hlx
  refine (S1.fault (f := treeF p) (check29 p _ w1 (HP.out.kept S1.bel))).mono ?_
  rintro e w2 ⟨pc, pa, rfl, HPF, z2, S2⟩
  have S3 := S2.box rfl #[.int .i64 pc, .int .i64 pa] 29
  clear S1 S2
  cases hpc : (pc != 0) with
  | true =>
    have HD := Lib.hid (show UAns p t [] false (pc, pa) from .inl ⟨by rw [HPF.out]; simpa using hpc, rfl, rfl, HPF.out.symm⟩)
    go_upto_region 3 with fail
    refine S3.genC (z := w2.heap.size + 1) (by simp) ?_
    intro w3 z3 S4
    have S5 := S4.drew
    obtain ⟨⟨x0, x1⟩, x2, x3⟩ := S4.two 2
    obtain ⟨⟨x4, x5⟩, x6, x7⟩ := S4.two 3
    obtain ⟨⟨y0, y1⟩, y2, y3⟩ := S5.two 2
    obtain ⟨⟨y4, y5⟩, y6, y7⟩ := S5.two 3
    have hl := S4.lt 2
    have hne : ¬ w.heap.size + 1 + 1 = w2.heap.size := by omega
    have hne2 : ¬ w2.heap.size = w.heap.size + 1 + 1 := by omega
    have SF := Lib.hid (S4.set2 2 rfl (.int .i64 pc) (.int .i64 pa) (by omega) (by simp only [fsnoc, offs, offAll, Fct.box, and_true]; omega)).drew
    clear S3 S4 S5
    go_region
    all_goals
      go_wp2_with fail
      refine bodyPost_ret (v := .tuple #[.slice none 0 0, .bool false, .agg #[.int .i64 pc, .int .i64 pa]]) ?_ rfl ?_
      · obtain ⟨⟨z0, _⟩, z1, _⟩ := SF.out.two 2
        simp [results, Try.results33, go_sem, z0, z1]
      · exact ⟨[], false, (pc, pa), none, 0, rfl, HD.out, (fun i hi => by simp at hi), SF.out.bel⟩
  | false =>
    have hpok : (treeF p).1 = 0 := by rw [HPF.out]; simpa using hpc
    have HPOK := Lib.hid hpok
    clear hpok
    obtain ⟨⟨x0, _⟩, x1, _⟩ := S3.two 1
    have hlx := S3.lt 1
    go_wp2_with fail
    refine St.gen S3 (z := w2.heap.size + 1) (by simp) ?_
    intro w3 z3 S4
    clear S3 x0 x1 hlx
    refine (S4.fault (f := treeF t) (check29 t _ w3 (HT.out.kept S4.bel))).mono ?_
    rintro e w4 ⟨tc, ta, rfl, HTF, z4, S5⟩
    have S6 := S5.box rfl #[.int .i64 tc, .int .i64 ta] 29
    clear S4 S5
    cases htc : (tc != 0) with
    | true =>
      have HD := Lib.hid (show UAns p t [] false (tc, -1) from .inr (.inl ⟨HPOK.out, by rw [HTF.out]; simpa using htc, rfl, rfl, by rw [HTF.out]⟩))
      go_upto_region 6 with fail
      refine S6.genC (z := w4.heap.size + 1) (by simp) ?_
      intro w5 z5 S7
      have S8 := S7.drew
      obtain ⟨⟨x0, x1⟩, x2, x3⟩ := S7.two 2
      obtain ⟨⟨x4, x5⟩, x6, x7⟩ := S7.two 4
      obtain ⟨⟨y0, y1⟩, y2, y3⟩ := S8.two 2
      obtain ⟨⟨y4, y5⟩, y6, y7⟩ := S8.two 4
      have hl := S7.lt 2
      have hne : ¬ w.heap.size + 1 + 1 = w4.heap.size := by omega
      have hne2 : ¬ w4.heap.size = w.heap.size + 1 + 1 := by omega
      have SF := Lib.hid (S7.set2 2 rfl (.int .i64 tc) (.int .i64 (-1)) (by omega) (by simp only [fsnoc, offs, offAll, Fct.box, and_true]; omega)).drew
      clear S6 S7 S8
      go_region
      all_goals
        go_wp2_with fail
        refine bodyPost_ret (v := .tuple #[.slice none 0 0, .bool false, .agg #[.int .i64 tc, .int .i64 (-1)]]) ?_ rfl ?_
        · obtain ⟨⟨z0, _⟩, z1, _⟩ := SF.out.two 2
          simp [results, Try.results33, go_sem, z0, z1]
        · exact ⟨[], false, (tc, -1), none, 0, rfl, HD.out, (fun i hi => by simp at hi), SF.out.bel⟩
    | false =>
      have htok : (treeF t).1 = 0 := by rw [HTF.out]; simpa using htc
      have HTOK := Lib.hid htok
      have hp3 := treeF_ok.1 HPOK.out
      have ht3 := treeF_ok.1 htok
      have HOP := Lib.hid (show OkT p from ⟨hp3.2.2, by omega, by omega⟩)
      have HOT := Lib.hid (show OkT t from ⟨ht3.2.2, by omega, by omega⟩)
      clear htok hp3 ht3
      obtain ⟨⟨x0, _⟩, x1, _⟩ := S6.two 0
      obtain ⟨⟨x2, _⟩, x3, _⟩ := S6.two 1
      have hlx := S6.lt 1
      have hlx0 := S6.lt 0
      go_wp2_with fail
      refine St.gen S6 (z := w4.heap.size + 1) (by simp) ?_
      intro w5 z5 S7
      clear S6 x0 x1 x2 x3 hlx hlx0
      refine (solveQ p t _ _ w5 (HP.out.kept S7.bel) (HT.out.kept S7.bel) HOP.out HOT.out).mono ?_
      rintro e w6 ⟨L, ok, sm, ro, rc, rfl, hcore, hrow, hb6⟩
      have z6 := hb6.size
      have HC := Lib.hid hcore
      have S8 := (S7.step hb6).add (.row w5.heap.size w6.heap.size ro L) hrow
      obtain ⟨⟨x0, x1⟩, x2, x3⟩ := S8.two 2
      have hl := S8.lt 2
      cases sm with
      | false =>
        have HE := Lib.hid (HC.out.much)
        have SF := Lib.hid (S8.set2 2 rfl (.int .i64 10) (.int .i64 0) (by omega) (by simp only [fsnoc, offs, offAll, Fct.box, Fct.row, and_true]; omega))
        clear hb6 hrow S7 S8 hcore
        go_wp2_with fail
        refine bodyPost_ret (v := .tuple #[.slice none 0 0, .bool false, .agg #[.int .i64 10, .int .i64 0]]) ?_ rfl ?_
        · obtain ⟨⟨z0, _⟩, z1, _⟩ := SF.out.two 2
          simp [results, Try.results33, go_sem, z0, z1]
        · exact ⟨[], false, (10, 0), none, 0, rfl, .inr (.inr ⟨HPOK.out, HTOK.out, HE.out⟩), (fun i hi => by simp at hi), SF.out.bel⟩
      | true =>
        have HE := Lib.hid (HC.out.small)
        have SF := Lib.hid (S8.set2 2 rfl (.int .i64 0) (.int .i64 0) (by omega) (by simp only [fsnoc, offs, offAll, Fct.box, Fct.row, and_true]; omega))
        clear hb6 hrow S7 S8 hcore
        go_wp2_with fail
        refine bodyPost_ret (v := .tuple #[.slice ro L.length rc, .bool ok, .agg #[.int .i64 0, .int .i64 0]]) ?_ rfl ?_
        · obtain ⟨⟨z0, _⟩, z1, _⟩ := SF.out.two 2
          simp [results, Try.results33, go_sem, z0, z1]
        · have hr := SF.out.get 5
          refine ⟨L, ok, (0, 0), ro, rc, rfl, .inr (.inr ⟨HPOK.out, HTOK.out, HE.out⟩), ?_, SF.out.bel⟩
          exact RowP.mono hr (fun b h hlt => ⟨by omega, hlt⟩)
end Go.Proofs.Ytlhnfdjidjgfgaa
