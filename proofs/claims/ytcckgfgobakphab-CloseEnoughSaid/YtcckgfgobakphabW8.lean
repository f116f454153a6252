/-
  Walks: the program's own small functions: term, the test of kids, EqualFunc, join.
-/
import Derived.Test.YtcckgfgobakphabProg
import Derived.Test.YtcckgfgobakphabBase
import Derived.Test.YtcckgfgobakphabCmath
import Derived.Test.YtcckgfgobakphabW7
import Derived.StillTailTactics
import Derived.Deep.LoopGhost
namespace Go.Proofs.Ytcckgfgobakphab
open Go.RowKit
set_option linter.unusedVariables false
set_option maxHeartbeats 400000

theorem term_any (ao : Option Addr) (n cap : Nat) (i : Int) (w : World) (hn : n ≤ 1000000) : Calls Try.prog 26 #[.slice ao n cap, .int .i64 i] w fun e w' => e = .returned (.bool (inN n i)) ∧ w = w' := by
  go_enter Try.func26, Try.ntmps26
  go_wp2
  all_goals (go_ret; exact ⟨ret_bool (by rw [Bool.eq_iff_iff]; simp [inN] <;> omega), rfl⟩)

theorem kid29 (B : Nat) (i : Nat) (k : Int) (w : World) (h : w.cell? ⟨B, 0, none⟩ = some (.int .i64 i)) :
    Calls Try.prog 29 #[.int .i64 k, .pointer (some ⟨B, 0, none⟩)] w fun e w' => e = .returned (.bool (!kidOk i k)) ∧ w = w' := by
  go_enter Try.func29, Try.ntmps29
  go_wp2
  all_goals (go_ret; exact ⟨ret_bool (by rw [Bool.eq_iff_iff]; simp [kidOk] <;> omega), rfl⟩)

theorem equalFunc_any (fn : Nat) (cap : Array Value) (eg : ∀ args w, (callFunc fn args).run Try.prog w = .ok (.enter fn args) w)
    (ao bo : Option Addr) (n m cp cp2 : Nat) (vs us : Nat → Value) (p : Nat → Bool) (w : World) (hn : n ≤ 1000000000) (hm : m ≤ 1000000000) (hc : CellsAt w ao n vs) (hd : CellsAt w bo m us)
    (hf : ∀ i w1, i < n → i < m → Below w.heap.size w w1 → Calls Try.prog fn (#[vs i, us i] ++ cap) w1 fun e w2 => e = .returned (.bool (p i)) ∧ Below w1.heap.size w1 w2) :
    Calls Try.prog 31 #[.slice ao n cp, .slice bo m cp2, .func (.func fn) #[] cap] w fun e w' => e = .returned (.bool (n == m && allB p n)) ∧ Below w.heap.size w w' := by
  have HF := Lib.hid hf
  clear hf
  by_cases hnm : n = m
  · have h1 : ((n : Int) != (m : Int)) = false := by simp [hnm]
    have e0 := Lib.hid (show (n == m && allB p n) = allB p n by simp [hnm])
    have HNM := Lib.hid hnm; clear hnm
    go_enter Try.func31, Try.ntmps31
    go_wp2_with fail
    go_loopw [7, 8, 9, 17] (fun _ _ _ i wr => ∃ k : Nat, k ≤ n ∧ i = .int .i64 k ∧ allB p k = true ∧ Below w.heap.size w wr) (fun _ _ _ i _ => n - (intOf i).toNat)
    case atStart => exact ⟨0, by omega, rfl, rfl, Below.refl _ _⟩
    case round =>
      obtain ⟨k, hk, rfl, hall, hbel⟩ := hrel
      have HA := Lib.hid hall; clear hall
      by_cases hlt : k < n
      · have hlt2 : k < m := by have := HNM.out; omega
        obtain ⟨b, off, rfl, hck⟩ := hc.get hlt
        obtain ⟨b2, off2, rfl, hdk⟩ := hd.get hlt2
        have c1 := Below.cellOf hbel hck
        have c2 := Below.cellOf hbel hdk
        clear hck hdk hc hd
        go_wp2_with fail
        refine (HF.out k _ hlt hlt2 hbel).mono ?_
        rintro e w1 ⟨rfl, hb1⟩
        have hbel1 := Below.step hbel hb1
        cases hp : p k with
        | true =>
          have HP := Lib.hid hp; clear hp
          go_wp2
          go_roundw
          case rel => exact ⟨k + 1, by omega, by go_num, by rw [allB_succ, HA.out, HP.out]; rfl, hbel1⟩
          case measure => simp [intOf] <;> omega
        | false =>
          have HP := Lib.hid hp; clear hp
          go_wp2
          go_ret
          refine ⟨ret_bool ?_, hbel1⟩
          rw [e0.out]
          have : ¬ allB p n = true := by
            rw [allB_iff]; intro h; have := h k hlt; rw [HP.out] at this; cases this
          simpa using this
      · obtain rfl : k = n := by omega
        go_wp2
        go_ret
        exact ⟨ret_bool (by rw [e0.out, HA.out]), hbel⟩
  · have h1 : ((n : Int) != (m : Int)) = true := by simp; omega
    have e0 := Lib.hid (show (n == m && allB p n) = false by simp [hnm])
    clear hnm
    go_enter Try.func31, Try.ntmps31
    go_wp2_with fail
    go_ret
    exact ⟨ret_bool e0.out.symm, Below.refl _ _⟩

/-- a row of the call's own: cell j holds f j -/
def RowV (w : World) (base T : Nat) (v : Value) (m : Nat) (f : Nat → Value) : Prop := w.ownsRow base T 1 v m ((List.range m).map f)
section
variable {w w' : World} {base T g m cap : Nat} {f : Nat → Value}
theorem RowV.cell (h : RowV w base T (.slice (some ⟨g, 0, none⟩) m cap) m f) {j : Nat} (hj : j < m) :
    w.cell? ⟨g, j, none⟩ = some (f j) ∧ w.frozen? ⟨g, j, none⟩ = false := by
  refine ⟨?_, World.ownsRow.frozenAt h j⟩
  rw [World.ownsRow.cellAt h j (by omega)]
  simp [hj]
theorem RowV.set (h : RowV w base T (.slice (some ⟨g, 0, none⟩) m cap) m f) (j : Nat) (x : Value) :
    RowV (w.setCell ⟨g, j, none⟩ x) base T (.slice (some ⟨g, 0, none⟩) m cap) m (fun i => if i = j then x else f i) := by
  have := (World.ownsRow.stored h j x).1
  have e : ((List.range m).map f).set j x = (List.range m).map fun i => if i = j then x else f i := by
    apply List.ext_getElem (by simp)
    intro i h1 h2
    simp only [List.getElem_set, List.getElem_map, List.getElem_range]
    by_cases hij : j = i
    · subst hij; simp
    · have : ¬ i = j := fun h => hij h.symm
      simp [hij, this]
  rw [e] at this
  exact this
theorem RowV.congr {f' : Nat → Value} (h : RowV w base T (.slice (some ⟨g, 0, none⟩) m cap) m f) (hf : ∀ j, j < m → f j = f' j) : RowV w base T (.slice (some ⟨g, 0, none⟩) m cap) m f' := by
  unfold RowV at *
  rw [List.map_congr_left (fun j hj => (hf j (by simpa using hj)).symm)]
  exact h
theorem RowV.grown {row : Option Nat} (h : RowV w base T (.slice (some ⟨g, 0, none⟩) m cap) m f) (hg : w.grownBy w' row) (hne : row ≠ some g) :
    RowV w' base T (.slice (some ⟨g, 0, none⟩) m cap) m f := World.ownsRow.kept h hg (.inr (by simp only [Value.ownBlock]; exact fun e => hne e.symm))
theorem RowV.below (h : RowV w base T (.slice (some ⟨g, 0, none⟩) m cap) m f) (hb : Below w.heap.size w w') :
    RowV w' base T (.slice (some ⟨g, 0, none⟩) m cap) m f := h.grown (row := none) ⟨hb.os, hb.tape, hb.output, hb.size, fun k hk _ => hb.block k hk⟩ (by simp)
theorem RowV.alloc (h : RowV w base T (.slice (some ⟨g, 0, none⟩) m cap) m f) (o : Obj) : RowV (w.alloc o) base T (.slice (some ⟨g, 0, none⟩) m cap) m f := World.ownsRow.alloc h o
theorem RowV.lt (h : RowV w base T (.slice (some ⟨g, 0, none⟩) m cap) m f) : base ≤ g ∧ g < w.heap.size := World.ownsRow.lt h g rfl
theorem RowV.other (h : RowV w base T (.slice (some ⟨g, 0, none⟩) m cap) m f) {a : Addr} (ha : g ≠ a.block) (u : Value) : RowV (w.setCell a u) base T (.slice (some ⟨g, 0, none⟩) m cap) m f :=
  ownsRow_setCell_other h (by simp only [Value.ownBlock]; simpa using ha) u
end

/-- only block g may have changed; new blocks may have come -/
theorem grownBy_trans {w1 w2 w3 : World} {g : Nat} (h1 : w1.grownBy w2 (some g)) (h2 : w2.grownBy w3 (some g)) : w1.grownBy w3 (some g) :=
  ⟨h2.os.trans h1.os, h2.tape.trans h1.tape, h2.output.trans h1.output, Nat.le_trans h1.size h2.size, fun k hk hne => (h2.block k (Nat.lt_of_lt_of_le hk h1.size) hne).trans (h1.block k hk hne)⟩
theorem grownBy_ofBelow {w1 w2 : World} (h : Below w1.heap.size w1 w2) (g : Option Nat) : w1.grownBy w2 g := ⟨h.os, h.tape, h.output, h.size, fun k hk _ => h.block k hk⟩

set_option maxRecDepth 100000 in
set_option maxHeartbeats 1000000 in
theorem join_any (cl : List Nat) (a b g Bc base : Nat) (w : World) (hn : cl.length ≤ 1000) (ha : a < cl.length) (hb : b < cl.length) (hbd : ∀ j, gN cl j ≤ 100000)
    (hB : w.heap[Bc]? = some (.cells #[.slice (some ⟨g, 0, none⟩) cl.length cl.length] 24 (0, 0))) (hne : Bc ≠ g)
    (hr : RowV w base 3 (.slice (some ⟨g, 0, none⟩) cl.length cl.length) cl.length (fun j => vN (gN cl j))) :
    Calls Try.prog 30 #[.int .i64 a, .int .i64 b, .pointer (some ⟨Bc, 0, none⟩)] w fun e w' => e = .returned (.bool (gN cl a != gN cl b)) ∧
      RowV w' base 3 (.slice (some ⟨g, 0, none⟩) cl.length cl.length) cl.length (fun j => vN (gN (merge cl a b) j)) ∧ w.grownBy w' (some g) := by
  obtain ⟨b0, f0⟩ := box1 hB
  have hBlt := heap_lt hB
  have HB := Lib.hid hB; clear hB
  obtain ⟨ca, fa⟩ := hr.cell ha
  obtain ⟨cb, fb⟩ := hr.cell hb
  have HM := Lib.hid (fun j (hj : j < cl.length) => gN_merge (cl := cl) (a := a) (b := b) hj)
  have ba := hbd a
  have bb := hbd b
  have HBD := Lib.hid hbd; have HR := Lib.hid hr; clear hbd hr
  simp only [vN] at ca cb
  generalize hA : gN cl a = A at ca HM ba ⊢
  generalize hC : gN cl b = C at cb HM bb ⊢
  clear hA hC
  go_enter Try.func30, Try.ntmps30
  go_wp2_with fail
  go_quiet (fail)
  go_wp2_with fail
  have hgr0 : w.grownBy (w.drewN nq) (some g) := grownBy_ofBelow (below_drewN (Below.refl _ _) _) _
  have HR0 := Lib.hid (HR.out.below (below_drewN (Below.refl _ _) nq))
  have HB0 := Lib.hid (Below.heapAt (below_drewN (Below.refl _ _) nq) HB.out)
  go_loopw [6, 7, 18] (fun _ _ i wr => ∃ k : Nat, k ≤ cl.length ∧ i = .int .i64 k ∧ w.grownBy wr (some g) ∧
      RowV wr base 3 (.slice (some ⟨g, 0, none⟩) cl.length cl.length) cl.length (fun j => vN (if j < k then mergeW (min A C) (max A C) (gN cl j) else gN cl j)) ∧
      wr.heap[Bc]? = some (.cells #[.slice (some ⟨g, 0, none⟩) cl.length cl.length] 24 (0, 0))) (fun _ _ i _ => cl.length - (intOf i).toNat)
  case atStart => exact ⟨0, by omega, rfl, hgr0, HR0.out.congr (fun j _ => by simp), HB0.out⟩
  case round =>
    obtain ⟨k, hk, rfl, hgr, hrow, hbox⟩ := hrel
    obtain ⟨b1, f1⟩ := box1 hbox
    have HBX := Lib.hid hbox; clear hbox b0 f0 ca fa cb fb
    by_cases hlt : k < cl.length
    · obtain ⟨ck, fk⟩ := hrow.cell hlt
      simp only [vN, Nat.lt_irrefl, if_false] at ck
      have HR1 := Lib.hid hrow; clear hrow
      have bk := HBD.out k
      have HMX := Lib.hid (show ((max A C : Nat) : Int) = max (A : Int) (C : Int) by omega)
      have HMN := Lib.hid (show ((min A C : Nat) : Int) = min (A : Int) (C : Int) by omega)
      by_cases hq : gN cl k = max A C
      · have hq2 : ((gN cl k : Int) == max (A : Int) (C : Int)) = true := by rw [← HMX.out]; simp [hq]
        have HQ := Lib.hid hq; clear hq
        have HRS := Lib.hid (HR1.out.set k (vN (min A C)))
        have hmn : (if C < A then (C : Int) else (A : Int)) = ((min A C : Nat) : Int) := by split <;> omega
        have HMI := Lib.hid hmn; clear hmn
        go_wp2_with fail
        rw [HMI.out]
        go_roundw
        case rel => exact ⟨k + 1, by omega, by go_num, grownBy_trans hgr (World.ownsRow.stored HR1.out k _).2, HRS.out.congr (fun j hj => by
          by_cases e : j = k
          · subst e; simp [mergeW, HQ.out]
          · have : (j < k) ↔ (j < k + 1) := by omega
            simp [this, e]), (Below.heap_setCell _ _ _ _ (by simpa using hne)).trans HBX.out⟩
        case measure => simp [intOf] <;> omega
      · have hq2 : ((gN cl k : Int) == max (A : Int) (C : Int)) = false := by rw [← HMX.out]; simp; omega
        have HQ := Lib.hid hq; clear hq
        go_wp2_with fail
        go_roundw
        case rel => exact ⟨k + 1, by omega, by go_num, hgr, HR1.out.congr (fun j hj => by
          by_cases e : j = k
          · subst e; simp [mergeW, HQ.out]
          · have : (j < k) ↔ (j < k + 1) := by omega
            simp [this]), HBX.out⟩
        case measure => simp [intOf] <;> omega
    · obtain rfl : k = cl.length := by omega
      go_wp2_with fail
      go_ret
      exact ⟨ret_bool (by rw [Bool.eq_iff_iff]; simp <;> omega), hrow.congr (fun j hj => by rw [HM.out j hj, if_pos hj]), hgr⟩
end Go.Proofs.Ytcckgfgobakphab
