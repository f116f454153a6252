/-
  Walks: fit.Match, fit.Do.
-/
import Derived.Test.YteekoclfpehnpaaProg
import Derived.Test.YteekoclfpehnpaaBase
import Derived.Test.YteekoclfpehnpaaT39
import Derived.Test.YteekoclfpehnpaaT24
import Derived.Test.YteekoclfpehnpaaT18
import Derived.OwnWalk
import Derived.Deep.DeepCutAuto
namespace Go.Proofs.Yteekoclfpehnpaa
open Go.RowKit Go.Shelf
set_option linter.unusedVariables false
set_option maxHeartbeats 400000

/-- what stands for the variables of a pattern -/
noncomputable def fitF (p t : T) : Option (List T) := (p.fit t (fun _ => zeroT)).map (listT p.most.toNat)
noncomputable def fitLst (p t : T) : List T := (fitF p t).getD []
theorem fitF_isSome (p t : T) : (fitF p t).isSome = (p.fit t (fun _ => zeroT)).isSome := by simp [fitF]
def MadeRow (w w' : World) (ro : Option Addr) (ks : List T) : Prop := RowP (fun b => w.heap.size ≤ b ∧ b < w'.heap.size) w' ro ks
def Match55Post (p t : T) (w : World) (e : Ending) (w' : World) : Prop :=
  ∃ ro rc, e = .returned (.tuple #[.slice ro (fitLst p t).length rc, .bool (fitF p t).isSome]) ∧ MadeRow w w' ro (fitLst p t) ∧ Below w.heap.size w w'

set_option maxRecDepth 100000 in
set_option maxHeartbeats 4000000 in
theorem match55 (p t : T) (v u : Value) (w : World) (hp : TreeAt w v p) (ht : TreeAt w u t) (hpok : ∀ x ∈ p.pre, okN x) (hps : p.size ≤ 1000000) (hpd : p.deep ≤ 100000) (hts : t.size ≤ 100000000) :
    Calls Try.prog 116 #[v, u] w (Match55Post p t w) := by
  obtain ⟨po, psp, rfl⟩ := hp.form
  obtain ⟨tq, tsp, rfl⟩ := ht.form
  have HP := Lib.hid hp; have HT := Lib.hid ht
  have HPOK := Lib.hid hpok
  have hm8 := most_le p hpok
  have hm0 := p.most_nonneg
  clear hp ht hpok
  have S0 := ((St.start w).box rfl #[.int .i64 p.head, .slice po p.kids.length (p.kids.length + psp)] 44).box (b := w.heap.size + 1) (by simp) #[.int .i64 t.head, .slice tq t.kids.length (t.kids.length + tsp)] 44
  obtain ⟨⟨x0, _⟩, x1, _⟩ := S0.two 0
  have hlx := S0.lt 0
  have S1 := S0.box (b := w.heap.size + 1 + 1) (by simp) #[.int .i64 p.head, .slice po p.kids.length (p.kids.length + psp)] 44
  obtain ⟨i24, gi, gz0, gz1, gz2⟩ := info_parts info24
  go_enter Try.func116, Try.ntmps116
  go_wp2_with fail
  refine St.gen S1 (z := w.heap.size + 3) (by simp) ?_
  intro w1 z1 S2
  clear S0 S1 x0 x1 hlx
  have hrow : RowAt w1 (some ⟨w.heap.size + 1 + 1, 0, none⟩) [p] := fun i hi => by
    obtain rfl : i = 0 := by simp at hi; omega
    obtain ⟨⟨y0, _⟩, y1, _⟩ := S2.two 2
    exact ⟨w.heap.size + 1 + 1, 0, po, psp, rfl, by simpa [gK] using y0, by simpa [gK] using y1, by simpa [gK] using HP.out.kept S2.bel⟩
  refine (S2.quiet (max47 [p] (some ⟨w.heap.size + 1 + 1, 0, none⟩) 1 w1 hrow (by simp) (fun i hi => by
    obtain rfl : i = 0 := by simp at hi; omega
    simp only [gK, List.getD_cons_zero]
    exact ⟨hps, hpd, HPOK.out⟩))).mono ?_
  rintro e w2 ⟨rfl, z2, S3⟩
  obtain ⟨N, hN⟩ : ∃ N : Nat, (N : Int) = mostL [p] := ⟨p.most.toNat, by simp only [mostL]; omega⟩
  have hNm : (N : Int) = p.most := by rw [hN]; simp only [mostL]; omega
  have hN8 : N ≤ 8 := by omega
  rw [← hN]
  have HNM := Lib.hid (show p.most.toNat = N by omega)
  have HML := Lib.hid (show p.most ≤ (N : Int) by omega)
  clear hN hNm hrow S2
  go_wp2_with (at_make; refine wpList_make_full _ rfl (.tmp 9) (.tmp 9) 62 rfl w2.heap.size 44 i24 (.agg #[.int .i64 0, .slice none 0 0]) 2 Try.underlying62 gi gz0 gz1 .i64 .i64 _ _ N rfl rfl rfl rfl ?m1 ?m2 ?m3 ?_)
  case m1 => rw [gz2]; omega
  case m2 => unfold maxLen; omega
  case m3 => exact Nat.le_refl _
  intro w3 hown hgrow
  have hb3 : Below w2.heap.size w2 w3 := (Below.refl _ _).grown hgrow (Nat.le_refl _) (fun q hq => by cases hq)
  have z3 := hb3.size
  have S4 := (S3.step hb3).cons (.rset (fun b => False) w2.heap.size w2.heap.size N (fun _ => zeroT)) (RowSet.made (w := w3) hown _)
  have hgl := (S4.rset 0).lt.2
  obtain ⟨⟨x0, _⟩, x1, _⟩ := S4.two 1
  obtain ⟨⟨y0, _⟩, y1, _⟩ := S4.two 2
  have hlx := S4.lt 1
  clear hown hgrow S3
  go_wp2_with fail
  refine (match62 N w2.heap.size w2.heap.size p t (fun _ => zeroT) (fun b => False) (fun b => b < w.heap.size) (fun b => b < w.heap.size) _ _ w w3 _ S4 ⟨show ¬ w2.heap.size = w.heap.size by omega, show ¬ w2.heap.size = w.heap.size + 1 by omega, show ¬ w2.heap.size = w.heap.size + 1 + 1 by omega, trivial⟩ (by omega) (by omega) (fun h => h) (HP.out.foot.kept S4.bel) (HT.out.foot.kept S4.bel) (by show ¬ w2.heap.size < w.heap.size; omega) (by show ¬ w2.heap.size < w.heap.size; omega) HML.out hts).mono ?_
  rintro e w4 ⟨bs', rfl, HB, z4, S5⟩
  have hrow4 := (S5.rset 0).row
  have HROW := Lib.hid hrow4
  clear x0 x1 y0 y1 hlx S4 hrow4
  cases hf : p.fit t (fun _ => zeroT) with
  | none =>
    have HF := Lib.hid (show fitF p t = none by rw [fitF, hf]; rfl)
    clear hf
    go_wp2_with fail
    go_ret2
    exact ⟨none, 0, by rw [fitLst, HF.out]; rfl, (fun i hi => by rw [fitLst, HF.out] at hi; simp at hi), S5.bel⟩
  | some r =>
    obtain rfl := HB.out r hf
    have HF := Lib.hid (show fitF p t = some (listT N r) by rw [fitF, hf, HNM.out]; rfl)
    clear hf
    go_wp2_with fail
    go_ret2
    refine ⟨some ⟨w2.heap.size, 0, none⟩, N, by rw [fitLst, HF.out]; simp [listT_length], ?_, S5.bel⟩
    rw [fitLst, HF.out]
    exact HROW.out.mono (fun b h hlt => ⟨by rcases h with ⟨h | h, _⟩ | h; exact h.elim; omega; omega, hlt⟩)

noncomputable def fitD (p t : T) : List T × Bool × Int × Int := if (treeF p).1 ≠ 0 then ([], false, treeF p) else if (treeF t).1 ≠ 0 then ([], false, (treeF t).1, -1) else (fitLst p t, (fitF p t).isSome, 0, 0)
def Do34Post (p t : T) (w : World) (e : Ending) (w' : World) : Prop :=
  ∃ ro rc, e = .returned (.tuple #[.slice ro (fitD p t).1.length rc, .bool (fitD p t).2.1, .agg #[.int .i64 (fitD p t).2.2.1, .int .i64 (fitD p t).2.2.2]]) ∧ MadeRow w w' ro (fitD p t).1 ∧ Below w.heap.size w w'

end Go.Proofs.Yteekoclfpehnpaa
