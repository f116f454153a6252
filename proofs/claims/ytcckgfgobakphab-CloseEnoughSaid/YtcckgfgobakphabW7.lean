/-
  Walks: the reference's Enough.
-/
import Derived.Test.YtcckgfgobakphabProg
import Derived.Test.YtcckgfgobakphabBase
import Derived.Test.YtcckgfgobakphabCmath
import Derived.Test.YtcckgfgobakphabW6
import Derived.StillTailTactics
import Derived.Deep.LoopGhost
namespace Go.Proofs.Ytcckgfgobakphab
open Go.RowKit
set_option linter.unusedVariables false
set_option maxHeartbeats 400000

noncomputable def relD (ts : List Tm) (ps : List (Int × Int)) (a b : Nat) : Bool := gN (classes ts ps) a == gN (classes ts ps) b
def setP (p : Nat → Bool) (i : Nat) (b : Bool) : Nat → Bool := fun j => if j = i then b else p j
def pairsOf (ps : List (Int × Int)) (p : Nat → Bool) (k : Nat) : List (Int × Int) := ((List.range k).filter p).map (gP ps)
noncomputable def whyP (ts : List Tm) (ps : List (Int × Int)) (a b : Nat) : Nat → (Nat → Bool) → (Nat → Bool)
  | 0, p => p
  | i + 1, p => whyP ts ps a b i (if relD ts (pairsOf ps (setP p i false) ps.length) a b then setP p i false else setP (setP p i false) i true)
noncomputable def whyL (ts : List Tm) (ps : List (Int × Int)) (a b : Nat) : List Nat := (List.range ps.length).filter (whyP ts ps a b ps.length (fun _ => true))

def RowB (w : World) (base : Nat) (v : Value) (m : Nat) (p : Nat → Bool) : Prop := w.ownsRow base 4 1 v m ((List.range m).map fun j => .bool (p j))

theorem RowB.cell {w : World} {base g m cap : Nat} {p : Nat → Bool} (h : RowB w base (.slice (some ⟨g, 0, none⟩) m cap) m p) {j : Nat} (hj : j < m) :
    w.cell? ⟨g, j, none⟩ = some (.bool (p j)) ∧ w.frozen? ⟨g, j, none⟩ = false := by
  refine ⟨?_, h.frozenAt j⟩
  rw [h.cellAt j (by omega)]
  simp [hj]
theorem RowB.set {w : World} {base g m cap : Nat} {p : Nat → Bool} (h : RowB w base (.slice (some ⟨g, 0, none⟩) m cap) m p) (j : Nat) (b : Bool) :
    RowB (w.setCell ⟨g, j, none⟩ (.bool b)) base (.slice (some ⟨g, 0, none⟩) m cap) m (setP p j b) := by
  have := (h.stored j (.bool b)).1
  unfold RowB
  have e : ((List.range m).map fun i => Value.bool (p i)).set j (.bool b) = (List.range m).map fun i => Value.bool (setP p j b i) := by
    apply List.ext_getElem (by simp)
    intro i h1 h2
    simp only [List.getElem_set, List.getElem_map, List.getElem_range, setP]
    by_cases hij : j = i
    · subst hij; simp
    · have : ¬ i = j := fun h => hij h.symm
      simp [hij, this]
  rw [e] at this
  exact this
theorem RowB.below {w w' : World} {base g m cap : Nat} {p : Nat → Bool} (h : RowB w base (.slice (some ⟨g, 0, none⟩) m cap) m p) (hb : Below w.heap.size w w') :
    RowB w' base (.slice (some ⟨g, 0, none⟩) m cap) m p :=
  World.ownsRow.kept h (row := none) ⟨hb.os, hb.tape, hb.output, hb.size, fun k hk _ => hb.block k hk⟩ (.inr (by simp [Value.ownBlock]))
theorem RowB.grown {w w' : World} {base g m cap : Nat} {p : Nat → Bool} {row : Option Nat} (h : RowB w base (.slice (some ⟨g, 0, none⟩) m cap) m p) (hg : w.grownBy w' row) (hne : row ≠ some g) :
    RowB w' base (.slice (some ⟨g, 0, none⟩) m cap) m p := World.ownsRow.kept h hg (.inr (by simp only [Value.ownBlock]; exact fun e => hne e.symm))
theorem RowB.alloc {w : World} {base g m cap : Nat} {p : Nat → Bool} (h : RowB w base (.slice (some ⟨g, 0, none⟩) m cap) m p) (o : Obj) :
    RowB (w.alloc o) base (.slice (some ⟨g, 0, none⟩) m cap) m p := World.ownsRow.alloc h o
theorem RowB.lt {w : World} {base g m cap : Nat} {p : Nat → Bool} (h : RowB w base (.slice (some ⟨g, 0, none⟩) m cap) m p) : base ≤ g ∧ g < w.heap.size := World.ownsRow.lt h g rfl

/-- pairs, cell by cell -/
def flatP (l : List (Int × Int)) : List Value := l.flatMap fun x => [.int .i64 x.1, .int .i64 x.2]
theorem flatP_snoc (l : List (Int × Int)) (x : Int × Int) : flatP (l ++ [x]) = flatP l ++ [.int .i64 x.1, .int .i64 x.2] := by simp [flatP]
theorem flatP_get : ∀ (l : List (Int × Int)) (j : Nat), j < l.length → (flatP l)[j * 2]? = some (.int .i64 (gP l j).1) ∧ (flatP l)[j * 2 + 1]? = some (.int .i64 (gP l j).2)
  | [], j, h => by simp at h
  | x :: l, 0, h => by simp [flatP, gP]
  | x :: l, j + 1, h => by
    have := flatP_get l j (by simpa using h)
    have e1 : (j + 1) * 2 = j * 2 + 1 + 1 := by omega
    have e2 : (j + 1) * 2 + 1 = (j * 2 + 1) + 1 + 1 := by omega
    rw [e1]
    constructor
    · simpa [flatP, gP] using this.1
    · have h2 := this.2
      show (flatP (x :: l))[j * 2 + 1 + 1 + 1]? = _
      simpa [flatP, gP] using h2

theorem PairsAt.ofOwn {w : World} {base : Nat} {v : Value} {l : List (Int × Int)} (h : w.ownsRow base 34 2 v l.length (flatP l)) : PairsAt w v l := by
  obtain ⟨_, h2⟩ := h
  rcases h2 with ⟨rfl, hn⟩ | ⟨g, cap, cur, rfl, _, hh, hnc, _, hsz, htk⟩
  · have : l = [] := List.eq_nil_of_length_eq_zero hn
    subst this
    exact ⟨none, 0, rfl, fun j hj => by simp at hj⟩
  · refine ⟨some ⟨g, 0, none⟩, cap, rfl, fun j hj => ⟨g, 0, rfl, ?_, ?_⟩⟩
    · have := (flatP_get l j hj).1
      rw [← htk, List.getElem?_take, if_pos (by omega)] at this
      simp only [World.cell?, hh, Nat.zero_add, Option.isSome_none]
      rw [← Array.getElem?_toList, this]; simp
    · have := (flatP_get l j hj).2
      rw [← htk, List.getElem?_take, if_pos (by omega)] at this
      simp only [World.cell?, hh, Nat.zero_add, Option.isSome_none]
      rw [← Array.getElem?_toList, this]; simp

theorem pairsOf_yes {ps : List (Int × Int)} {p : Nat → Bool} {k : Nat} (h : p k = true) : pairsOf ps p (k + 1) = pairsOf ps p k ++ [gP ps k] := by
  simp [pairsOf, List.range_succ, List.filter_append, h]
theorem pairsOf_no {ps : List (Int × Int)} {p : Nat → Bool} {k : Nat} (h : p k = false) : pairsOf ps p (k + 1) = pairsOf ps p k := by
  simp [pairsOf, List.range_succ, List.filter_append, h]
theorem pairsOf_le (ps : List (Int × Int)) (p : Nat → Bool) (k : Nat) : (pairsOf ps p k).length ≤ k := by
  simp only [pairsOf, List.length_map]; exact Nat.le_trans (List.length_filter_le _ _) (by simp)
theorem pairsOf_in {n : Nat} {ps : List (Int × Int)} (h : pairsIn n ps) {p : Nat → Bool} {k : Nat} (hk : k ≤ ps.length) : pairsIn n (pairsOf ps p k) := by
  intro j hj
  have hm : gP (pairsOf ps p k) j ∈ pairsOf ps p k := by simp [gP, hj]
  simp only [pairsOf, List.mem_map, List.mem_filter, List.mem_range] at hm
  obtain ⟨i, ⟨hi, _⟩, e⟩ := hm
  have := h i (by omega)
  simp only [pairsOf]; rw [← e]; exact this
/-- indexes kept, as a list -/
def idxOf (p : Nat → Bool) (k : Nat) : List Nat := (List.range k).filter p
theorem idxOf_yes {p : Nat → Bool} {k : Nat} (h : p k = true) : idxOf p (k + 1) = idxOf p k ++ [k] := by simp [idxOf, List.range_succ, List.filter_append, h]
theorem idxOf_no {p : Nat → Bool} {k : Nat} (h : p k = false) : idxOf p (k + 1) = idxOf p k := by simp [idxOf, List.range_succ, List.filter_append, h]
theorem idxOf_le (p : Nat → Bool) (k : Nat) : (idxOf p k).length ≤ k := Nat.le_trans (List.length_filter_le _ _) (by simp)
theorem own_push {w : World} {base T : Nat} {v : Value} {l : List Nat} {c : Nat} (h : w.ownsRow base T 1 v (l.length + 1) (l.map vN ++ [.int .i64 (c : Int)])) :
    w.ownsRow base T 1 v (l ++ [c]).length ((l ++ [c]).map vN) := by
  simpa [vN] using h
theorem own_pushP {w : World} {base T : Nat} {v : Value} {l : List (Int × Int)} {x : Int × Int} (h : w.ownsRow base T 2 v (l.length + 1) (flatP l ++ [.int .i64 x.1, .int .i64 x.2])) :
    w.ownsRow base T 2 v (l ++ [x]).length (flatP (l ++ [x])) := by
  rw [flatP_snoc]; simpa using h

set_option maxRecDepth 100000 in
set_option maxHeartbeats 4000000 in
theorem enough_any (ts : List Tm) (ps : List (Int × Int)) (a b : Nat) (tv pv : Value) (w : World) (hn : ts.length ≤ 80) (hm : ps.length ≤ 120) (hk0 : kidsIn ts) (hp0 : pairsIn ts.length ps)
    (ha : a < ts.length) (hb : b < ts.length) (ht : TermsAt w tv ts) (hp : PairsAt w pv ps) :
    Calls Try.prog 13 #[tv, pv, .int .i64 a, .int .i64 b] w fun e w' => ∃ u, e = .returned u ∧ NatsFrom w.heap.size w' u (whyL ts ps a b) ∧ Below w.heap.size w w' := by
  have HTA := Lib.hid ht; have HPA := Lib.hid hp
  obtain ⟨bo, bcap, rfl, hps⟩ := hp
  obtain ⟨i4, ki, kz0, kz1, kz2⟩ := info_parts info4
  obtain ⟨i3, hi, hz0, hz1, hz2⟩ := info_parts info3
  obtain ⟨i34, li, lz0, lz1, lz2⟩ := info_parts info34
  have HP := Lib.hid hps; have HK := Lib.hid hk0; have HPI := Lib.hid hp0; clear hps hk0 hp0 ht
  go_enter Try.func13, Try.ntmps13
  go_wp2_with (at_make; refine wpList_make_full _ rfl (.tmp 18) (.tmp 18) 51 rfl w.heap.size 4 i4 (.bool false) 1 Try.underlying51 ki kz0 kz1 .i64 .i64 _ _ ps.length rfl rfl rfl rfl ?m1 ?m2 ?m3 ?_)
  case m1 => rw [kz2]; omega
  case m2 => unfold maxLen; omega
  case m3 => exact Nat.le_refl _
  intro w1 hown hgrow
  have hrow : RowB w1 w.heap.size (.slice (some ⟨w.heap.size, 0, none⟩) ps.length ps.length) ps.length (fun _ => false) := by
    unfold RowB
    have e : (madeCells (Value.bool false).cells (ps.length * 1)).toList = (List.range ps.length).map fun _ => Value.bool false := by
      rw [Nat.mul_one]
      show (madeCells #[Value.bool false] ps.length).toList = _
      rw [toList_madeCells_one]
      apply List.ext_getElem <;> simp
    have hown' : w1.ownsRow w.heap.size 4 1 (Value.slice (some ⟨w.heap.size, 0, none⟩) ps.length ps.length) ps.length (madeCells (Value.bool false).cells (ps.length * 1)).toList := by
      rw [Nat.mul_one]; exact hown
    rw [e] at hown'; exact hown'
  have hbel : Below w.heap.size w w1 := (Below.refl _ _).grown hgrow (Nat.le_refl _) (fun q hq => by cases hq)
  have HR := Lib.hid hrow; clear hown hgrow hrow
  go_wp2_with fail
  go_loopw [10] (fun i wr => ∃ k : Nat, k ≤ ps.length ∧ i = .int .i64 k ∧ Below w.heap.size w wr ∧ RowB wr w.heap.size (.slice (some ⟨w.heap.size, 0, none⟩) ps.length ps.length) ps.length (fun j => decide (j < k))) (fun i _ => ps.length - (intOf i).toNat)
  case atStart => exact ⟨0, by omega, rfl, hbel, by simpa using HR.out⟩
  case round =>
    obtain ⟨k, hk, rfl, hbel, hrow⟩ := hrel
    by_cases hkl : k < ps.length
    · obtain ⟨c1, f1⟩ := hrow.cell hkl
      have HR1 := Lib.hid (hrow.set k true)
      clear hrow
      go_wp2_with fail
      go_roundw
      case rel => exact ⟨k + 1, by omega, by go_num, hbel.setCell (Nat.le_refl _) _, by
        have e : setP (fun j => decide (j < k)) k true = fun j => decide (j < k + 1) := by
          funext j; simp only [setP]; by_cases h : j = k
          · subst h; simp
          · have : (j < k) ↔ (j < k + 1) := by omega
            simp [h, this]
        rw [← e]; exact HR1.out⟩
      case measure => simp [intOf] <;> omega
    · obtain rfl : k = ps.length := by omega
      have HR := Lib.hid hrow; clear hrow
      have hq0 : (whyP ts ps a b ps.length fun _ => true) = whyP ts ps a b ps.length (fun _ => true) := rfl
      have hrow0 : RowB wr w.heap.size (.slice (some ⟨w.heap.size, 0, none⟩) ps.length ps.length) ps.length (fun _ => true) := by
        have := HR.out
        unfold RowB at this ⊢
        have e : ((List.range ps.length).map fun j => Value.bool (decide (j < ps.length))) = (List.range ps.length).map fun _ => Value.bool true := by
          apply List.map_congr_left; intro j hj; simp at hj; simp [hj]
        rwa [e] at this
      have HR0 := Lib.hid hrow0; have HW0 := Lib.hid hq0; clear hrow0 HR hq0
      go_wp2_with fail
      go_loopw [11, 12, 13, 14] (fun i _ _ _ wr => ∃ (q : Nat) (p : Nat → Bool), q ≤ ps.length ∧ i = .int .i64 ((q : Int) - 1) ∧ Below w.heap.size w wr ∧ RowB wr w.heap.size (.slice (some ⟨w.heap.size, 0, none⟩) ps.length ps.length) ps.length p ∧
          whyP ts ps a b q p = whyP ts ps a b ps.length (fun _ => true)) (fun i _ _ _ _ => (intOf i + 1).toNat)
      case atStart => exact ⟨ps.length, fun _ => true, Nat.le_refl _, rfl, hbel, HR0.out, rfl⟩
      case round =>
        obtain ⟨q, p, hq, rfl, hbel, hrow, hwhy⟩ := hrel
        have HW := Lib.hid hwhy; clear hwhy
        cases q with
        | zero =>
          have HR := Lib.hid hrow; clear hrow
          have e0 : (((0 : Nat) : Int) - 1) = -1 := rfl
          simp only [e0]
          go_wp2_with fail
          go_loopw [15, 16] (fun o i wr => ∃ k : Nat, k ≤ ps.length ∧ i = .int .i64 k ∧ Below w.heap.size w wr ∧ RowB wr w.heap.size (.slice (some ⟨w.heap.size, 0, none⟩) ps.length ps.length) ps.length p ∧
              wr.ownsRow (w.heap.size + 1) 3 1 o (idxOf p k).length ((idxOf p k).map vN)) (fun _ i _ => ps.length - (intOf i).toNat)
          case atStart => exact ⟨0, by omega, rfl, hbel, HR.out, by simpa [idxOf] using World.ownsRow_nil _ _ _ _⟩
          case round =>
            obtain ⟨k, hk, rfl, hbel, hrow, hown⟩ := hrel
            by_cases hkl : k < ps.length
            · obtain ⟨c1, f1⟩ := hrow.cell hkl
              have hg := hrow.lt.2
              have hle := idxOf_le p k
              have HR := Lib.hid hrow; clear hrow
              cases hpk : p k with
              | true =>
                rw [hpk] at c1
                have HI := Lib.hid (idxOf_yes hpk); clear hpk
                go_wp2_with (at_builtin; refine wpList_append_own _ rfl _ _ 24 rfl (w.heap.size + 1) 3 i3 (.int .i64 0) 1 8 Try.underlying24 hi hz0 hz1 hz2 rfl (by decide) _ _ _ rfl (hown.alloc _) ⟨wr.heap.size, 0, none⟩ 1 1 [vN k] rfl rfl ?c1 ?c2 ?c3 ?c4 ?c5 ?_)
                case c1 => exact cell_one_new _ _ _
                case c2 => intro u hu; simp at hu; subst hu; rfl
                case c3 => unfold maxLen; omega
                case c4 => omega
                case c5 => simp; omega
                intro v' w1 hown' hgrow _
                have hb1 : Below w.heap.size w w1 := (hbel.alloc hbel.size _).grown hgrow (by simp; omega) (fun q hq => by have := (hown.lt q hq).1; omega)
                have HR1 := Lib.hid ((HR.out.alloc _).grown hgrow (fun e => by have := (hown.lt _ e).1; omega))
                have HO := Lib.hid (own_push hown')
                clear hown hgrow hown'
                go_wp2_with fail
                go_roundw
                case rel => exact ⟨k + 1, by omega, by go_num, hb1, HR1.out, by rw [HI.out]; exact HO.out⟩
                case measure => simp [intOf] <;> omega
              | false =>
                rw [hpk] at c1
                have HI := Lib.hid (idxOf_no hpk); clear hpk
                go_wp2_with fail
                go_roundw
                case rel => exact ⟨k + 1, by omega, by go_num, hbel, HR.out, by rw [HI.out]; exact hown⟩
                case measure => simp [intOf] <;> omega
            · obtain rfl : k = ps.length := by omega
              have hres : NatsFrom w.heap.size wr u15 (whyL ts ps a b) := by
                have e : whyL ts ps a b = idxOf p ps.length := by
                  have := HW.out
                  simp only [whyP] at this
                  rw [whyL, ← this]; rfl
                rw [e]; exact NatsFrom.ofOwn hown (Nat.le_succ _)
              clear hown hrow
              go_wp2_with fail
              go_ret
              exact ⟨_, rfl, hres, hbel⟩
        | succ q =>
          have hql : q < ps.length := by omega
          obtain ⟨c1, f1⟩ := hrow.cell hql
          have HR := Lib.hid (hrow.set q false)
          have hg := hrow.lt.2
          obtain ⟨p1, hp1⟩ : ∃ p1, p1 = setP p q false := ⟨_, rfl⟩
          rw [← hp1] at HR
          have HP1 := Lib.hid hp1; clear hp1 hrow
          have hq1 : ((q + 1 : Nat) : Int) - 1 = (q : Int) := by omega
          simp only [hq1]
          go_wp2_with fail
          have hbel0 : Below w.heap.size w (wr.setCell ⟨w.heap.size, q, none⟩ (.bool false)) := hbel.setCell (Nat.le_refl _) _
          go_loopw [12, 13] (fun o i wr => ∃ k : Nat, k ≤ ps.length ∧ i = .int .i64 k ∧ Below w.heap.size w wr ∧ RowB wr w.heap.size (.slice (some ⟨w.heap.size, 0, none⟩) ps.length ps.length) ps.length p1 ∧
              wr.ownsRow (w.heap.size + 1) 34 2 o (pairsOf ps p1 k).length (flatP (pairsOf ps p1 k))) (fun _ i _ => ps.length - (intOf i).toNat)
          case atStart => exact ⟨0, by omega, rfl, hbel0, HR.out, by simpa [pairsOf, flatP] using World.ownsRow_nil _ _ _ _⟩
          case round =>
            obtain ⟨k, hk, rfl, hbel, hrow, hown⟩ := hrel
            by_cases hkl : k < ps.length
            · obtain ⟨d1, g1⟩ := hrow.cell hkl
              obtain ⟨pb, po, rfl, x1, x2⟩ := HP.out k hkl
              have y1 := Below.cellOf hbel x1
              have y2 := Below.cellOf hbel x2
              clear x1 x2 c1 f1
              have hg2 := hrow.lt.2
              have hle := pairsOf_le ps p1 k
              have HR := Lib.hid hrow; clear hrow
              cases hpk : p1 k with
              | true =>
                rw [hpk] at d1
                have HI := Lib.hid (pairsOf_yes (ps := ps) hpk); clear hpk
                go_wp2_with (at_builtin; refine wpList_append_own _ rfl _ _ 23 rfl (w.heap.size + 1) 34 i34 (.agg #[.int .i64 0, .int .i64 0]) 2 16 Try.underlying23 li lz0 lz1 lz2 rfl (by decide) _ _ _ rfl (hown.alloc _) ⟨wr.heap.size, 0, none⟩ 1 1 [.int .i64 (gP ps k).1, .int .i64 (gP ps k).2] rfl rfl ?c1 ?c2 ?c3 ?c4 ?c5 ?_)
                case c1 => exact cell_two_new _ _ _ _
                case c2 => intro u hu; simp at hu; rcases hu with rfl | rfl <;> rfl
                case c3 => unfold maxLen; omega
                case c4 => omega
                case c5 => simp; omega
                intro v' w1 hown' hgrow _
                have hb1 : Below w.heap.size w w1 := (hbel.alloc hbel.size _).grown hgrow (by simp; omega) (fun q hq => by have := (hown.lt q hq).1; omega)
                have HR1 := Lib.hid ((HR.out.alloc _).grown hgrow (fun e => by have := (hown.lt _ e).1; omega))
                have HO := Lib.hid (own_pushP hown')
                clear hown hgrow hown'
                go_wp2_with fail
                go_roundw
                case rel => exact ⟨k + 1, by omega, by go_num, hb1, HR1.out, by rw [HI.out]; exact HO.out⟩
                case measure => simp [intOf] <;> omega
              | false =>
                rw [hpk] at d1
                have HI := Lib.hid (pairsOf_no (ps := ps) hpk); clear hpk
                go_wp2_with fail
                go_roundw
                case rel => exact ⟨k + 1, by omega, by go_num, hbel, HR.out, by rw [HI.out]; exact hown⟩
                case measure => simp [intOf] <;> omega
            · obtain rfl : k = ps.length := by omega
              have HL := Lib.hid (PairsAt.ofOwn hown)
              have hle := pairsOf_le ps p1 ps.length
              have hin := pairsOf_in HPI.out (p := p1) (Nat.le_refl _)
              have HR := Lib.hid hrow; have HIN := Lib.hid hin; clear hown hrow hin c1 f1
              go_wp2_with fail
              refine (refClasses_any ts (pairsOf ps p1 ps.length) _ _ _ (by omega) (by omega) HK.out HIN.out (HTA.out.below hbel) HL.out).mono ?_
              rintro e w2 ⟨u, rfl, hcl, hb2⟩
              have hbel2 : Below w.heap.size w w2 := Below.step hbel hb2
              have hrow2 := HR.out.below hb2
              have hgood := classes_good (ts := ts) HIN.out
              have hlen := hgood.len
              obtain ⟨co, cc, rfl, hcc⟩ := hcl.1
              rw [hlen] at hcc ⊢
              obtain ⟨cb, cf, rfl, g1⟩ := hcc.get ha
              obtain ⟨cb', cf', e0, g2⟩ := hcc.get hb
              simp only [Option.some.injEq, Addr.mk.injEq] at e0
              obtain ⟨rfl, rfl, _⟩ := e0
              obtain ⟨z1, z2⟩ := hrow2.cell hql
              have HR2 := Lib.hid hrow2
              have HR3 := Lib.hid (hrow2.set q true)
              clear hcc hrow2 hgood hlen
              have HWS := Lib.hid (show whyP ts ps a b (q + 1) p = whyP ts ps a b q (if relD ts (pairsOf ps (setP p q false) ps.length) a b then setP p q false else setP (setP p q false) q true) from rfl)
              rw [← HP1.out] at HWS
              have HRD := Lib.hid (show relD ts (pairsOf ps p1 ps.length) a b = (gN (classes ts (pairsOf ps p1 ps.length)) a == gN (classes ts (pairsOf ps p1 ps.length)) b) from rfl)
              generalize classes ts (pairsOf ps p1 ps.length) = CL at g1 g2 HRD ⊢
              cases hne : ((gN CL a : Int) != (gN CL b : Int)) with
              | true =>
                have HNE := Lib.hid hne
                go_wp2_with fail
                go_quiet (fail)
                go_wp2_with fail
                go_roundw
                case rel => exact ⟨q, setP p1 q true, by omega, by go_num, (below_drewN hbel2 _).setCell (Nat.le_refl _) _, (HR2.out.below (below_drewN (Below.refl _ _) _)).set q true, by
                  have h' := HNE.out
                  simp at h'
                  have h2 : relD ts (pairsOf ps p1 ps.length) a b = false := by rw [HRD.out]; simp <;> omega
                  rw [← HW.out, HWS.out, h2]; simp⟩
                case measure => simp [intOf] <;> omega
              | false =>
                have HNE := Lib.hid hne
                go_wp2_with fail
                go_quiet (fail)
                go_wp2_with fail
                go_roundw
                case rel => exact ⟨q, p1, by omega, by go_num, below_drewN hbel2 _, HR2.out.below (below_drewN (Below.refl _ _) _), by
                  have h' := HNE.out
                  simp at h'
                  have h2 : relD ts (pairsOf ps p1 ps.length) a b = true := by rw [HRD.out]; simp <;> omega
                  rw [← HW.out, HWS.out, h2]; simp⟩
                case measure => simp [intOf] <;> omega
end Go.Proofs.Ytcckgfgobakphab
