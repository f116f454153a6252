/-
  Walks: cnf.True, cnf.Sat, cnf.All; all.Assignment; dia.Made.
-/
import Derived.Test.YtlpoedjipncbhaaProg
import Derived.Test.YtlpoedjipncbhaaTd5
import Derived.RegionTactic
import Derived.BigQuiet
import Derived.Deep.DeepCutAuto
namespace Go.Proofs.Ytlpoedjipncbhaa
open Go.RowKit Go.Shelf
set_option linter.unusedVariables false
set_option linter.unusedSimpArgs false
set_option maxHeartbeats 400000

/-- assignment number k of n variables -/
def asg (n k : Nat) (i : Nat) : Bool := k.testBit (n - 1 - i)
/-- a literal, a clause, all clauses under an assignment -/
def litT (a : Nat → Bool) (l : Int) : Bool := a (l.natAbs - 1) == decide (0 < l)
def satT (a : Nat → Bool) (c : List Int) : Bool := c.any (litT a)
def allT (a : Nat → Bool) (cs : List (List Int)) : Bool := cs.all (satT a)
def boolE : Elt Bool where
  ty := 4
  n := 1
  is p w cs a := cs = [.bool a]
  pos := by omega
  len := fun e => by rw [e]; rfl
  one := fun e u hu => by rw [e] at hu; simp at hu; subst hu; rfl
  keep := fun hk e => e
theorem Elt.Row.bool {p : Nat → Prop} {w : World} {ao : Option Addr} {cs : List Bool} (h : boolE.Row p w ao cs) {i : Nat} (hi : i < cs.length) : ∃ b off, ao = some ⟨b, off, none⟩ ∧ p b ∧ w.cell? ⟨b, off + i, none⟩ = some (.bool cs[i]) := by
  obtain ⟨b, off, c, e, hp, hc, rfl⟩ := h i cs[i] (List.getElem?_eq_getElem hi)
  exact ⟨b, off, e, hp, by have := hc 0 _ rfl; simpa [boolE] using this⟩
/-- a row of bools as an assignment -/
def fB (a : List Bool) (i : Nat) : Bool := a.getD i false
theorem fB_get {a : List Bool} {i : Nat} (h : i < a.length) : fB a i = a[i] := by simp [fB, List.getD_eq_getElem?_getD, h]

set_option maxRecDepth 100000 in
theorem true51 (l : Int) (p : Nat → Prop) (ao : Option Addr) (a : List Bool) (cp : Nat) (w : World) (h0 : l ≠ 0) (hl : l.natAbs ≤ a.length) (hn : a.length ≤ 16) (hr : boolE.Row p w ao a) :
    Calls Try.prog 45 #[.int .i64 l, .slice ao a.length cp] w fun e w' => e = .returned (.bool (litT (fB a) l)) ∧ Below w.heap.size w w' := by
  have hk : l.natAbs - 1 < a.length := by omega
  obtain ⟨b, off, rfl, _, c1⟩ := hr.bool hk
  have HV := Lib.hid (show litT (fB a) l = (a[l.natAbs - 1] == decide (0 < l)) by unfold litT; rw [fB_get hk])
  obtain ⟨X, hX⟩ : ∃ X, X = a[l.natAbs - 1] := ⟨_, rfl⟩
  rw [← hX] at c1 HV
  obtain ⟨k, hkk⟩ : ∃ k, k = l.natAbs - 1 := ⟨_, rfl⟩
  rw [← hkk] at c1 hk
  have hkl : (l.natAbs : Int) - 1 = (k : Int) := by omega
  obtain ⟨m, hm⟩ : ∃ m, m = a.length := ⟨_, rfl⟩
  rw [← hm] at hk ⊢
  have hki : (k : Int) < (m : Int) := by omega
  have HC := Lib.hid (var48 l w (by omega))
  obtain ⟨vi, hvi⟩ : ∃ v, v = (l.natAbs : Int) := ⟨_, rfl⟩
  rw [← hvi] at HC hkl
  have hvi2 : vi = (k : Int) + 1 := by omega
  have hlm : k ≤ 16 := by omega
  subst hvi2
  have HW := Lib.hid (show (X == decide (0 < l)) = litT (fB a) l from HV.out.symm)
  clear hX hkk hm hvi hr hn hl h0 HV
  go_enter Try.func45, Try.ntmps45
  go_wp2_with fail
  refine HC.out.mono ?_
  rintro e w1 ⟨rfl, hw⟩
  replace hw := hw.symm
  subst hw
  go_wp2_with fail
  go_ret
  exact ⟨ret_bool HW.out, Below.refl _ _⟩
set_option maxRecDepth 100000 in
theorem sat50 (l : Int) (p : Nat → Prop) (ao : Option Addr) (a : List Bool) (cp b : Nat) (w : World) (h0 : l ≠ 0) (hl : l.natAbs ≤ a.length) (hn : a.length ≤ 16) (hr : boolE.Row p w ao a) (hb : w.cell? ⟨b, 0, none⟩ = some (.slice ao a.length cp)) :
    Calls Try.prog 44 #[.int .i64 l, .pointer (some ⟨b, 0, none⟩)] w fun e w' => e = .returned (.bool (litT (fB a) l)) ∧ Below w.heap.size w w' := by
  have HC := Lib.hid (true51 l p ao a cp w h0 hl hn hr)
  clear hr hn hl h0
  go_enter Try.func44, Try.ntmps44
  go_wp2_with fail
  refine HC.out.mono ?_
  rintro e w1 ⟨rfl, hb1⟩
  have HB := Lib.hid hb1
  clear hb1
  go_wp2_with fail
  go_ret
  exact ⟨rfl, HB.out⟩
set_option maxRecDepth 100000 in
theorem sat39 (n : Nat) (p q : Nat → Prop) (ko ao : Option Addr) (c : List Int) (a : List Bool) (kp cp : Nat) (w : World) (hG : ∀ l ∈ c, l ≠ 0 ∧ l.natAbs ≤ a.length) (hc : c.length ≤ maxLen) (hn : a.length ≤ 16) (hk : intE.Row q w ko c) (hr : boolE.Row p w ao a) :
    Calls Try.prog 23 #[.slice ko c.length kp, .slice ao a.length cp] w fun e w' => e = .returned (.bool (satT (fB a) c)) ∧ Below w.heap.size w w' := by
  obtain ⟨bx, hbx⟩ : ∃ b, b = w.heap.size := ⟨_, rfl⟩
  have S1 := (St.start w).box hbx.symm #[.slice ao a.length cp] 30
  have HK := Lib.hid hk; have HR := Lib.hid hr; have HG := Lib.hid hG; have HN := Lib.hid hn; have HC := Lib.hid hc
  clear hk hr hG hn hc
  go_enter Try.func23, Try.ntmps23
  go_wp2_with fail
  rw [← hbx]
  refine S1.gen (z := 0) (by omega) ?_
  intro w1 _ S
  clear S1 hbx
  refine (S.quiet (contI46 44 #[.pointer (some ⟨bx, 0, none⟩)] (fun _ _ => rfl) q ko c kp (litT (fB a)) w1 HC.out (HK.out.kept S.bel) (fun i y w2 hy hb2 => by
    obtain ⟨h0, h1⟩ := HG.out y (List.mem_of_getElem? hy)
    exact sat50 y p ao a cp bx w2 h0 h1 HN.out (HR.out.kept (Below.step S.bel hb2)) (Below.cellOf hb2 (S.one 0).1)))).mono ?_
  rintro e w2 ⟨rfl, _, S2⟩
  have SB := Lib.hid S2.bel
  clear S S2
  go_wp2_with fail
  go_ret
  exact ⟨rfl, SB.out⟩
set_option maxRecDepth 100000 in
theorem all38 (p q : Nat → Prop) (ko ao : Option Addr) (c : List Int) (a : List Bool) (kp cp b : Nat) (w : World) (hG : ∀ l ∈ c, l ≠ 0 ∧ l.natAbs ≤ a.length) (hc : c.length ≤ maxLen) (hn : a.length ≤ 16) (hk : intE.Row q w ko c) (hr : boolE.Row p w ao a) (hb : w.cell? ⟨b, 0, none⟩ = some (.slice ao a.length cp)) :
    Calls Try.prog 64 #[.slice ko c.length kp, .pointer (some ⟨b, 0, none⟩)] w fun e w' => e = .returned (.bool (!satT (fB a) c)) ∧ Below w.heap.size w w' := by
  have HC := Lib.hid (sat39 0 p q ko ao c a kp cp w hG hc hn hk hr)
  obtain ⟨X, hX⟩ : ∃ X, X = satT (fB a) c := ⟨_, rfl⟩
  rw [← hX] at HC ⊢
  clear hk hr hG hn hc hX
  go_enter Try.func64, Try.ntmps64
  go_wp2_with fail
  refine HC.out.mono ?_
  rintro e w1 ⟨rfl, hb1⟩
  have HB := Lib.hid hb1
  clear hb1
  go_wp2_with fail
  go_ret
  exact ⟨rfl, HB.out⟩
set_option maxRecDepth 100000 in
theorem all25 (p q : Nat → Prop) (ko ao : Option Addr) (cs : List (List Int)) (a : List Bool) (kp cp : Nat) (w : World) (hG : ∀ c ∈ cs, ∀ l ∈ c, l ≠ 0 ∧ l.natAbs ≤ a.length) (hc : cs.length ≤ maxLen) (hn : a.length ≤ 16) (hk : intsE.Row q w ko cs) (hr : boolE.Row p w ao a) :
    Calls Try.prog 43 #[.slice ko cs.length kp, .slice ao a.length cp] w fun e w' => e = .returned (.bool (allT (fB a) cs)) ∧ Below w.heap.size w w' := by
  obtain ⟨bx, hbx⟩ : ∃ b, b = w.heap.size := ⟨_, rfl⟩
  have S1 := (St.start w).box hbx.symm #[.slice ao a.length cp] 30
  have HK := Lib.hid hk; have HR := Lib.hid hr; have HG := Lib.hid hG; have HN := Lib.hid hn; have HC := Lib.hid hc
  clear hk hr hG hn hc
  go_enter Try.func43, Try.ntmps43
  go_wp2_with fail
  rw [← hbx]
  refine S1.gen (z := 0) (by omega) ?_
  intro w1 _ S
  clear S1 hbx
  have HCC := contR37 64 #[.pointer (some ⟨bx, 0, none⟩)] (fun _ _ => rfl) q ko cs kp (fun c => !satT (fB a) c) w1 HC.out (HK.out.kept S.bel) (fun i y k sp w2 hy hb2 h1 h2 =>
    all38 p q k ao y a _ cp bx w2 (HG.out y (List.mem_of_getElem? hy)) h2 HN.out h1 (HR.out.kept (Below.step S.bel hb2)) (Below.cellOf hb2 (S.one 0).1))
  refine (S.quiet HCC).mono ?_
  clear HCC
  rintro e w2 ⟨rfl, _, S2⟩
  have SB := Lib.hid S2.bel
  have HV := Lib.hid (show (!(cs.any fun c => !satT (fB a) c)) = allT (fB a) cs by unfold allT; rw [List.all_eq_not_any_not])
  obtain ⟨X, hX⟩ : ∃ X, X = cs.any (fun c => !satT (fB a) c) := ⟨_, rfl⟩
  rw [← hX] at HV ⊢
  clear S S2 hX
  go_wp2_with fail
  go_ret
  exact ⟨ret_bool HV.out, SB.out⟩

def cellsF {α : Type} (f : α → Value) (l : List α) : Array Value := (l.map f).toArray
theorem cellsF_set {α : Type} (f : α → Value) {l : List α} {j : Nat} {x : α} : (cellsF f l).setIfInBounds j (f x) = cellsF f (l.set j x) := by
  unfold cellsF
  rw [List.setIfInBounds_toArray, List.map_set]
theorem cellsF_get {α : Type} (f : α → Value) {l : List α} {j : Nat} (hj : j < l.length) : (cellsF f l)[j]? = some (f l[j]) := by
  unfold cellsF; simp [hj]
theorem make_cells {α : Type} (f : α → Value) (z : α) (ts te : TypeId) (ht : Try.prog.underlying ts = some (.slice te)) (hi : (Try.prog.info? te).map (fun i => (i.zero, i.size, i.bytes)) = some (some (f z), 1, 1)) (hz : (f z).cells = #[f z]) (n : Nat) (hn : n ≤ 1000) (w : World) :
    (Instr.makeSlice ts (.int .i64 (n : Int)) (.int .i64 (n : Int))).run Try.prog w = .ok (.slice (some ⟨w.heap.size, 0, none⟩) n n) (w.alloc (.cells (cellsF f (List.replicate n z)) te)) := by
  obtain ⟨i3, gi, gz0, gz1, gz2⟩ := info_parts hi
  have h := run_makeSlice (P := Try.prog) w ts te i3 (f z) ht gi gz0 .i64 .i64 (n : Int) (n : Int) (by omega) (Int.le_refl _) (by rw [gz1]; simp; omega) (by rw [gz2]; omega) (by omega)
  rw [gz1] at h
  have e : madeCells (f z).cells (n * 1) = cellsF f (List.replicate n z) := by
    unfold madeCells cellsF
    rw [hz]
    apply Array.ext
    · simp
    · intro i h1 h2
      simp [Nat.mod_one]
  rw [← e]
  simpa using h
theorem infoB : (Try.prog.info? 4).map (fun i => (i.zero, i.size, i.bytes)) = some (some (.bool false), 1, 1) := by kernel_rfl
theorem make65 (n : Nat) (hn : n ≤ 1000) (w : World) : (Instr.makeSlice 30 (.int .i64 (n : Int)) (.int .i64 (n : Int))).run Try.prog w = .ok (.slice (some ⟨w.heap.size, 0, none⟩) n n) (w.alloc (.cells (cellsF Value.bool (List.replicate n false)) 4)) :=
  make_cells Value.bool false 30 4 Try.underlying30 infoB rfl n hn w
theorem St.setC {w0 w : World} {l : List Fct} (S : St w0 w l) (i : Nat) {b : Nat} {cs : Array Value} {T : TypeId} (hi : Fct.at l i = Fct.box b cs T) (j : Nat) (u : Value) (h0 : w0.heap.size ≤ b) (hoff : offs b i l) :
    St w0 (w.setCell ⟨b, j, none⟩ u) (fset l i (.box b (cs.setIfInBounds j u) T)) :=
  S.put i hi h0 hoff (fun h => h.setCell (p := ⟨b, j, none⟩) h0 _)
    (fun c hc => Below.heap_setCell _ _ _ _ hc) (fun h => by simp [World.setCell, Array.getElem?_modify, h])
theorem row_cellsB {p : Nat → Prop} {w : World} {g : Nat} {l : List Bool} (hp : p g) (h : w.heap[g]? = some (.cells (cellsF Value.bool l) 4 (0, 0))) : boolE.Row p w (some ⟨g, 0, none⟩) l := fun i x hi => by
  refine ⟨g, 0, [.bool x], rfl, hp, fun j u hu => ?_, rfl⟩
  rcases j with _ | j
  · simp at hu; subst hu
    simp [World.cell?, h, cellsF, boolE, hi]
  · simp at hu
/-- the first j of an assignment's values -/
def asgP (k j : Nat) : List Bool := (List.range 5).map (fun i => if i < j then asg 5 k i else false)
def asgL (k : Nat) : List Bool := (List.range 5).map (asg 5 k)
theorem asgP_zero (k : Nat) : asgP k 0 = List.replicate 5 false := rfl
theorem asgP_five (k : Nat) : asgP k 5 = asgL k := by
  unfold asgP asgL
  refine List.map_congr_left fun i hi => ?_
  rw [if_pos (by simpa using hi)]
theorem asgP_step (k j : Nat) (hj : j < 5) : (asgP k j).set j (asg 5 k j) = asgP k (j + 1) := by
  refine List.ext_getElem (by simp [asgP]) fun i h1 h2 => ?_
  simp only [asgP, List.getElem_set, List.getElem_map, List.getElem_range]
  by_cases e : j = i
  · subst e; rw [if_pos rfl, if_pos (by omega)]
  · rw [if_neg e]
    by_cases e2 : i < j
    · rw [if_pos e2, if_pos (by omega)]
    · rw [if_neg e2, if_neg (by omega)]
theorem asgL_length (k : Nat) : (asgL k).length = 5 := by simp [asgL]
theorem asgL_fB (k : Nat) {i : Nat} (hi : i < 5) : fB (asgL k) i = asg 5 k i := by
  rw [fB_get (by rw [asgL_length]; exact hi)]; simp [asgL]
theorem asg_bit : ∀ (k : Fin 32) (j : Fin 5), (bits BinOp.and IntKind.i64 ((k.val : Int) / 2 ^ (4 - j.val)) 1 == 1) = asg 5 k.val j.val := by decide +kernel
def AsgPo (k : Nat) (w : World) (e : Ending) (w' : World) : Prop := ∃ g, e = .returned (.slice (some ⟨g, 0, none⟩) 5 5) ∧ w.heap.size ≤ g ∧ w'.heap[g]? = some (.cells (cellsF Value.bool (asgL k)) 4 (0, 0)) ∧ Below w.heap.size w w'
set_option maxRecDepth 100000 in
theorem assign36 (k : Nat) (w : World) (hk : k < 32) : Calls Try.prog 42 #[.int .i64 5, .int .i64 k] w (AsgPo k w) := by
  have hmk : ∀ W : World, (Instr.makeSlice 30 (.int .i64 5) (.int .i64 5)).run Try.prog W = .ok (.slice (some ⟨W.heap.size, 0, none⟩) 5 5) (W.alloc (.cells (cellsF Value.bool (asgP k 0)) 4)) := fun W => make65 5 (by omega) W
  obtain ⟨bx, hbx⟩ : ∃ b, b = w.heap.size := ⟨_, rfl⟩
  have S1 := (St.start w).box hbx.symm (cellsF Value.bool (asgP k 0)) 4
  have HBX := Lib.hid hbx
  go_enter Try.func42, Try.ntmps42
  go_wp2_with fail
  rw [← hbx]
  refine S1.genC (z := 0) (by omega) ?_
  intro w1 _ S
  clear S1 hbx hmk
  go_loopw [11] (fun i wr => ∃ j : Nat, j ≤ 5 ∧ i = .int .i64 j ∧ St w wr [.box bx (cellsF Value.bool (asgP k j)) 4]) (fun i _ => 5 - (intOf i).toNat)
  case atStart => exact ⟨0, by omega, rfl, S⟩
  case round =>
    clear S
    obtain ⟨j, hj, rfl, S⟩ := hrel
    by_cases hlt : j < 5
    · have h1 : IntKind.i64.wrap ((4 : Int) - (j : Int)) = ((4 - j : Nat) : Int) := by rw [IntWalk.i64_in _ (by omega)]; omega
      obtain ⟨c0, c1⟩ := S.cell 0 j (cellsF_get Value.bool (show j < (asgP k j).length by simp [asgP]; omega))
      have hly := S.lt 0
      have SN := Lib.hid (S.setC 0 rfl j (.bool (asg 5 k j)) (by have := HBX.out; omega) (by simp only [offs, offAll]))
      have HB := Lib.hid (asg_bit ⟨k, hk⟩ ⟨j, hlt⟩)
      clear S
      go_wp2_with fail
      rw [HB.out]
      go_roundw
      case rel => exact ⟨j + 1, by omega, by go_num, by have := SN.out; rw [cellsF_set, asgP_step k j hlt] at this; exact this⟩
      case measure => simp [intOf] <;> omega
    · obtain rfl : j = 5 := by omega
      have SB := Lib.hid S
      clear S
      go_wp2_with fail
      go_ret
      exact ⟨bx, rfl, by have := HBX.out; omega, by rw [← asgP_five]; exact SB.out.block 0, SB.out.bel⟩

end Go.Proofs.Ytlpoedjipncbhaa
