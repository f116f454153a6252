/-
  Walks: dia.level, dia.finished of a diagram that stands in the order of a traversal.
-/
import Derived.Test.YtacaakcpkgipfaaProg
import Derived.Test.YtacaakcpkgipfaaTd8
import Derived.RegionTactic
import Derived.BigQuiet
import Derived.Laws.EntriesVeiled
import Derived.Deep.CutBlock
import Derived.Deep.DeepCutAuto
namespace Go.Proofs.Ytacaakcpkgipfaa
open Go.RowKit Go.Shelf Go.Maps
set_option linter.unusedVariables false
set_option linter.unusedSimpArgs false
set_option maxHeartbeats 400000

/-- the variable of a node, as level tells it -/
def lvl (cs : List Ch) (i : Nat) : Int := if i < 2 then 17 else match cs[i - 2]? with | some c => c.1 | none => 17
theorem lvl_lev {cs : List Ch} {i v : Nat} (h : v < lev 6 cs i) (hv : v ≤ 6) : ¬ lvl cs i ≤ (v : Int) := by
  unfold lev at h
  unfold lvl
  by_cases e : i < 2
  · rw [if_pos e]; omega
  · rw [if_neg e] at h ⊢
    cases hc : cs[i - 2]? with
    | none => simp; omega
    | some c => rw [hc] at h; simp; omega
set_option maxRecDepth 100000 in
theorem level41 (cs : List Ch) (root : Int) (q : Nat → Prop) (co : Option Addr) (cp i : Nat) (w : World) (hi : i < cs.length + 2) (hn : cs.length ≤ 200) (hrow : chE.Row q w co cs) :
    Calls Try.prog 41 #[.agg #[.slice co cs.length cp, .int .i64 root], .int .i64 i] w fun e w' => e = .returned (.int .i64 (lvl cs i)) ∧ Below w.heap.size w w' := by
  have HB := Lib.hid ((Below.refl w.heap.size w).alloc (Nat.le_refl _) (.cells #[.slice co cs.length cp, .int .i64 root] 44))
  by_cases h2 : i < 2
  · have hi2 : (i : Int) < 2 := by omega
    have HL := Lib.hid (show lvl cs i = 17 by unfold lvl; rw [if_pos h2])
    clear hrow
    go_enter Try.func41, Try.ntmps41
    go_wp2_with fail
    go_ret
    exact ⟨ret_int HL.out.symm, HB.out⟩
  · obtain ⟨j, rfl⟩ : ∃ j, i = j + 2 := ⟨i - 2, by omega⟩
    have hj : j < cs.length := by omega
    obtain ⟨b, off, rfl, _, c0, _⟩ := (hrow.kept HB.out).ch hj
    have HL := Lib.hid (show lvl cs (j + 2) = cs[j].1 by unfold lvl; rw [if_neg h2, show j + 2 - 2 = j by omega, List.getElem?_eq_getElem hj])
    obtain ⟨v, hv⟩ : ∃ v, v = cs[j].1 := ⟨_, rfl⟩
    rw [← hv] at HL c0
    have hi2 : ¬ ((j : Int) + 2 < 2) := by omega
    have hjw : IntKind.i64.wrap ((j : Int) + 2 - 2) = (j : Int) := by rw [IntWalk.i64_in _ (by omega)]; omega
    have hji : (j : Int) < (cs.length : Int) := by omega
    have hj2 : (j : Int) + 2 - 2 = (j : Int) := by omega
    obtain ⟨n, hnn⟩ : ∃ n, n = cs.length := ⟨_, rfl⟩
    rw [← hnn] at hn hji HB c0 ⊢
    rw [← hnn] at hj
    clear hrow hv hnn hi
    go_enter Try.func41, Try.ntmps41
    rw [show ((j + 2 : Nat) : Int) = (j : Int) + 2 from rfl]
    go_wp2_with fail
    go_ret
    exact ⟨ret_int HL.out.symm, HB.out⟩
def doneL (n nx : Nat) : List Bool := (List.range (n + 2)).map (fun i => decide (2 ≤ i ∧ i < nx))
theorem doneL_length (n nx : Nat) : (doneL n nx).length = n + 2 := by simp [doneL]
theorem doneL_two (n : Nat) : doneL n 2 = List.replicate (n + 2) false := by
  refine List.ext_getElem (by simp [doneL]) fun i h1 h2 => ?_
  simp [doneL]
theorem doneL_get {n nx i : Nat} (h : i < n + 2) : (doneL n nx)[i]'(by rw [doneL_length]; exact h) = decide (2 ≤ i ∧ i < nx) := by simp [doneL]
theorem doneL_set {n nx : Nat} (h : 2 ≤ nx) : (doneL n nx).set nx true = doneL n (nx + 1) := by
  refine List.ext_getElem (by simp [doneL]) fun i h1 h2 => ?_
  simp only [doneL, List.getElem_set, List.getElem_map, List.getElem_range]
  by_cases e : nx = i
  · subst e; rw [if_pos rfl, eq_comm, decide_eq_true_iff]; omega
  · rw [if_neg e, decide_eq_decide]; omega
theorem doneL_lt {n nx : Nat} (h : n + 2 ≤ nx) : True := trivial
theorem visF_le {cs : List Ch} : ∀ {f i nx nx' : Nat}, visF cs f i nx = some nx' → nx ≤ nx' ∧ (nx ≤ cs.length + 2 → nx' ≤ cs.length + 2)
  | 0, i, nx, nx', h => by
    rw [visF] at h
    by_cases e : i < nx
    · rw [if_pos e] at h; cases h; exact ⟨Nat.le_refl _, id⟩
    · rw [if_neg e] at h; cases h
  | f + 1, i, nx, nx', h => by
    rw [visF] at h
    by_cases e : i < nx
    · rw [if_pos e] at h; cases h; exact ⟨Nat.le_refl _, id⟩
    · rw [if_neg e] at h
      cases hc : cs[i - 2]? with
      | none => rw [hc] at h; cases h
      | some c =>
        rw [hc] at h
        dsimp only at h
        cases h1 : visF cs f c.2.1 nx with
        | none => rw [h1] at h; cases h
        | some n1 =>
          rw [h1] at h
          dsimp only at h
          cases h2 : visF cs f c.2.2 n1 with
          | none => rw [h2] at h; cases h
          | some n2 =>
            rw [h2] at h
            dsimp only at h
            by_cases e2 : i = n2
            · rw [if_pos e2] at h
              cases h
              have a1 := visF_le h1
              have a2 := visF_le h2
              have hl := (List.getElem?_eq_some_iff.1 hc).1
              exact ⟨by omega, fun _ => by omega⟩
            · rw [if_neg e2] at h; cases h
def keepV (bn g : Nat) (w w' : World) : Prop := ∀ b, b < w.heap.size → b ≠ bn → b ≠ g → w'.heap[b]? = w.heap[b]?
def vFacts (bd bn g bdo bv n nx cp : Nat) (co : Option Addr) (root : Int) : List Fct :=
  [.box bn #[.int .i64 nx] 3, .box g (cellsF Value.bool (doneL n nx)) 4, .box bd #[.slice co n cp, .int .i64 root] 44, .box bdo #[.slice (some ⟨g, 0, none⟩) (n + 2) (n + 2)] 65, .box bv #[.func (.func 52) #[] #[.pointer (some ⟨bdo, 0, none⟩), .pointer (some ⟨bd, 0, none⟩), .pointer (some ⟨bv, 0, none⟩), .pointer (some ⟨bn, 0, none⟩)]] 93]
def VisP (w0 : World) (bd bn g bdo bv n nx cp : Nat) (co : Option Addr) (root : Int) (w : World) (e : Ending) (w' : World) : Prop :=
  e = .returned (.bool true) ∧ St w0 w' (vFacts bd bn g bdo bv n nx cp co root) ∧ keepV bn g w w' ∧ w.heap.size ≤ w'.heap.size
theorem keepV.trans {bn g : Nat} {w w1 w2 : World} (h : keepV bn g w w1) (h2 : keepV bn g w1 w2) (hs : w.heap.size ≤ w1.heap.size) : keepV bn g w w2 := fun b hb h3 h4 => (h2 b (by omega) h3 h4).trans (h b hb h3 h4)
theorem keepV.below {bn g : Nat} {w w1 : World} (h : Below w.heap.size w w1) : keepV bn g w w1 := fun b hb _ _ => h.block b hb
def Fct.keepV (bn g : Nat) (w : World) : Fct :=
  ⟨fun b => b < w.heap.size ∧ b ≠ bn ∧ b ≠ g, fun W => Ytacaakcpkgipfaa.keepV bn g w W, fun W W' h ht b h1 h2 h3 => (h b ⟨h1, h2, h3⟩ (by
    have e := ht b h1 h2 h3
    rw [Array.getElem?_eq_getElem h1] at e
    exact (Array.getElem?_eq_some_iff.1 e).1)).trans (ht b h1 h2 h3)⟩
theorem St.keepV {w0 W : World} {l : List Fct} (S : St w0 W l) (i : Nat) {bn g : Nat} {w : World} (h : Fct.at l i = Fct.keepV bn g w := by rfl) : Ytacaakcpkgipfaa.keepV bn g w W := by
  have := S.2 i
  rw [h] at this; exact this
set_option maxRecDepth 100000 in
set_option maxHeartbeats 8000000 in
theorem fin52 (w0 : World) (q : Nat → Prop) (cs : List Ch) (co : Option Addr) (cp : Nat) (root : Int) (bd bn g bdo bv : Nat) (hcs : cs.length ≤ 200) (hrow : chE.Row q w0 co cs) (hok : ∀ (j : Nat) c, cs[j]? = some c → c.2.1 < j + 2 ∧ c.2.2 < j + 2)
    (hd : w0.heap.size ≤ bn ∧ w0.heap.size ≤ g ∧ bn ≠ g ∧ bd ≠ bn ∧ bd ≠ g ∧ bdo ≠ bn ∧ bdo ≠ g ∧ bv ≠ bn ∧ bv ≠ g) :
    ∀ (f i nx nx' : Nat) (w : World), visF cs f i nx = some nx' → i < cs.length + 2 → 2 ≤ nx → nx ≤ cs.length + 2 → St w0 w (vFacts bd bn g bdo bv cs.length nx cp co root) →
      Calls Try.prog 52 #[.int .i64 i, .pointer (some ⟨bdo, 0, none⟩), .pointer (some ⟨bd, 0, none⟩), .pointer (some ⟨bv, 0, none⟩), .pointer (some ⟨bn, 0, none⟩)] w (VisP w0 bd bn g bdo bv cs.length nx' cp co root w) := by
  have HROW := Lib.hid hrow
  have HOK := Lib.hid hok
  clear hrow hok
  obtain ⟨n, hn⟩ : ∃ n, n = cs.length := ⟨_, rfl⟩
  rw [← hn] at hcs ⊢
  have HN := Lib.hid hn
  clear hn
  have early : ∀ (i nx : Nat) (w : World), i < nx → i < n + 2 → St w0 w (vFacts bd bn g bdo bv n nx cp co root) →
      Calls Try.prog 52 #[.int .i64 i, .pointer (some ⟨bdo, 0, none⟩), .pointer (some ⟨bd, 0, none⟩), .pointer (some ⟨bv, 0, none⟩), .pointer (some ⟨bn, 0, none⟩)] w (VisP w0 bd bn g bdo bv n nx cp co root w) := by
    intro i nx w h1 h2 S
    have SB := Lib.hid S
    obtain ⟨y0, _⟩ := S.one 3
    by_cases e : i < 2
    · have hi2 : (i : Int) < 2 := by omega
      clear S y0
      go_enter Try.func52, Try.ntmps52
      go_wp2_with fail
      go_ret
      exact ⟨rfl, SB.out, keepV.below (Below.refl _ _), Nat.le_refl _⟩
    · have hi2 : ¬ (i : Int) < 2 := by omega
      obtain ⟨c0, _⟩ := S.cell 1 i (cellsF_get Value.bool (show i < (doneL n nx).length by rw [doneL_length]; exact h2))
      rw [doneL_get h2, decide_eq_true (by omega : 2 ≤ i ∧ i < nx)] at c0
      have hin : (i : Int) < (n : Int) + 2 := by omega
      clear S
      go_enter Try.func52, Try.ntmps52
      go_wp2_with fail
      go_ret
      exact ⟨rfl, SB.out, keepV.below (Below.refl _ _), Nat.le_refl _⟩
  have HE := Lib.hid early
  clear early
  intro f
  induction f with
  | zero =>
    intro i nx nx' w h hi hn2 hnx S
    rw [visF] at h
    by_cases e : i < nx
    · rw [if_pos e] at h
      cases h
      exact HE.out i nx w e hi S
    · rw [if_neg e] at h; cases h
  | succ f ih =>
    intro i nx nx' w h hi hn2 hnx S
    rw [visF] at h
    by_cases e : i < nx
    · rw [if_pos e] at h
      cases h
      exact HE.out i nx w e hi S
    · rw [if_neg e] at h
      obtain ⟨j, rfl⟩ : ∃ j, i = j + 2 := ⟨i - 2, by omega⟩
      rw [show j + 2 - 2 = j by omega] at h
      have hjc : j < cs.length := by have := HN.out; omega
      rw [List.getElem?_eq_getElem hjc] at h
      dsimp only at h
      obtain ⟨b, off, rfl, _, c0, c1, c2⟩ := (HROW.out.kept S.bel).ch hjc
      obtain ⟨o1, o2⟩ := HOK.out j cs[j] (List.getElem?_eq_getElem hjc)
      obtain ⟨c, hc⟩ : ∃ c, c = cs[j] := ⟨_, rfl⟩
      rw [← hc] at h c0 c1 c2 o1 o2
      obtain ⟨v, lo, hi2⟩ := c
      dsimp only at h c0 c1 c2 o1 o2
      cases h1 : visF cs f lo nx with
      | none => rw [h1] at h; cases h
      | some n1 =>
      rw [h1] at h
      dsimp only at h
      cases h2 : visF cs f hi2 n1 with
      | none => rw [h2] at h; cases h
      | some n2 =>
      rw [h2] at h
      dsimp only at h
      by_cases e2 : j + 2 = n2
      case neg => rw [if_neg e2] at h; cases h
      rw [if_pos e2] at h
      cases h
      have l1 := visF_le h1
      have l2 := visF_le h2
      have hn1 : n1 ≤ n + 2 := by have := HN.out; omega
      have HC1 := Lib.hid (fun W S => ih lo nx n1 W h1 (by omega) hn2 hnx S)
      have HC2 := Lib.hid (fun W S => ih hi2 n1 n2 W h2 (by omega) (by omega) hn1 S)
      have hE2 := Lib.hid e2
      have hin : (j : Int) + 2 < (n : Int) + 2 := by omega
      have hin2 : ¬ (j : Int) + 2 < 2 := by omega
      have hjw : IntKind.i64.wrap ((j : Int) + 2 - 2) = (j : Int) := by rw [IntWalk.i64_in _ (by omega)]; omega
      have hj2 : (j : Int) + 2 - 2 = (j : Int) := by omega
      have hji : (j : Int) < (n : Int) := by omega
      have hjn : j < n := by omega
      have hjn2 : j + 2 < n + 2 := by omega
      obtain ⟨d0, _⟩ := S.cell 1 (j + 2) (cellsF_get Value.bool (show j + 2 < (doneL n nx).length by rw [doneL_length]; exact hi))
      rw [doneL_get hi, decide_eq_false (by omega : ¬ (2 ≤ j + 2 ∧ j + 2 < nx))] at d0
      obtain ⟨y0, _⟩ := S.one 3
      obtain ⟨⟨z0, _⟩, _⟩ := S.two 2
      obtain ⟨bc, hbc⟩ : ∃ b, b = w.heap.size := ⟨_, rfl⟩
      have S1 := (S.add (.keepV bn g w) (keepV.below (Below.refl _ _))).box hbc.symm #[.int .i64 (v : Nat), .int .i64 (lo : Nat), .int .i64 (hi2 : Nat)] 72
      have HBC := Lib.hid (show w.heap.size ≤ bc ∧ g < bc ∧ bn < bc from ⟨by omega, by have := S.lt 1; omega, by have := S.lt 0; omega⟩)
      clear ih h1 h2 hc S e e2
      go_enter Try.func52, Try.ntmps52
      rw [show ((j + 2 : Nat) : Int) = (j : Int) + 2 from rfl]
      go_upto_region 4 with fail
      rw [← hbc]
      refine S1.genC (z := bc + 1) (by simp [hbc]) ?_
      clear S1 hbc y0 z0 d0 c0 c1 c2
      intro w1 z1 S
      obtain ⟨y0, _⟩ := S.one 4
      have x1 := (S.cell 6 1 rfl).1
      have HS := Lib.hid S
      clear S
      go_wp2_with fail
      refine (HC1.out w1 (HS.out.pick [0, 1, 2, 3, 4])).mono ?_
      rintro e w2 ⟨rfl, S2, hk2, hz2⟩
      have hbx := hk2 bc (HS.out.lt 6) (by have := HBC.out; omega) (by have := HBC.out; omega)
      have S3 := (S2.add (.keepV bn g w) (keepV.trans (HS.out.keepV 5) hk2 (by have := HBC.out; omega))).add (.box bc #[.int .i64 (v : Nat), .int .i64 (lo : Nat), .int .i64 (hi2 : Nat)] 72) (hbx.trans (HS.out.block 6))
      clear S2 hk2 hbx y0 x1
      obtain ⟨y0, _⟩ := S3.one 4
      have x2 := (S3.cell 6 2 rfl).1
      have HS3 := Lib.hid S3
      clear S3
      go_wp2_with fail
      refine (HC2.out w2 (HS3.out.pick [0, 1, 2, 3, 4])).mono ?_
      rintro e w3 ⟨rfl, S4, hk3, hz3⟩
      have S5 := S4.add (.keepV bn g w) (keepV.trans (HS3.out.keepV 5) hk3 (by have := HBC.out; omega))
      have hn22 : n2 ≤ 300 := by have := hE2.out; omega
      have hqe : (((j : Int) + 2) != (n2 : Int)) = false := by have := hE2.out; simp; omega
      clear S4 hk3 y0 x2
      obtain ⟨y0, y1⟩ := S5.one 0
      obtain ⟨y2, _⟩ := S5.one 3
      have ly0 := S5.lt 0
      have ly1 := S5.lt 1
      obtain ⟨d0, d1⟩ := S5.cell 1 (j + 2) (cellsF_get Value.bool (show j + 2 < (doneL n n2).length by rw [doneL_length]; exact hi))
      have HS5 := Lib.hid S5
      clear S5
      go_wp2_with fail
      have S6 := (HS5.out.setC 1 rfl (j + 2) (.bool true) hd.2.1 (by simp only [vFacts, fsnoc, offs, offAll, Fct.box, Fct.keepV, and_true]; exact ⟨fun e => hd.2.2.1 e.symm, fun e => hd.2.2.2.2.1 e.symm, fun e => hd.2.2.2.2.2.2.1 e.symm, fun e => hd.2.2.2.2.2.2.2.2 e.symm, fun h => h.2.2 rfl⟩)).setC 0 rfl 0 (.int .i64 ((n2 + 1 : Nat) : Int)) hd.1 (by simp only [vFacts, fsnoc, fset, offs, offAll, Fct.box, Fct.keepV, and_true]; exact ⟨hd.2.2.1, fun e => hd.2.2.2.1 e.symm, fun e => hd.2.2.2.2.2.1 e.symm, fun e => hd.2.2.2.2.2.2.2.1 e.symm, fun h => h.2.1 rfl⟩)
      rw [cellsF_set, hE2.out, doneL_set (by omega)] at S6
      have HS6 := Lib.hid S6
      clear S6
      go_ret
      exact ⟨rfl, by have := HS6.out.pick [0, 1, 2, 3, 4]; rw [← hE2.out] at this ⊢; exact this, by rw [hE2.out]; exact HS6.out.keepV 5, by have := HBC.out; simp; omega⟩

set_option maxRecDepth 100000 in
set_option maxHeartbeats 4000000 in
theorem finished42 (q : Nat → Prop) (cs : List Ch) (co : Option Addr) (cp root : Nat) (w : World) (hcs : cs.length ≤ 200) (hrow : chE.Row q w co cs) (hok : ∀ (j : Nat) c, cs[j]? = some c → c.2.1 < j + 2 ∧ c.2.2 < j + 2) (hr : root < cs.length + 2) (hv : visF cs root root 2 = some (cs.length + 2)) :
    Calls Try.prog 42 #[.agg #[.slice co cs.length cp, .int .i64 root]] w fun e w' => e = .returned (.bool true) ∧ Below w.heap.size w w' := by
  obtain ⟨bx, hbx⟩ : ∃ b, b = w.heap.size := ⟨_, rfl⟩
  have HF := Lib.hid (fun W => fin52 w q cs co cp root bx (bx + 1) (bx + 2) (bx + 3) (bx + 4) hcs hrow hok (by omega) root root 2 (cs.length + 2) W hv hr (by omega) (by omega))
  obtain ⟨n, hn⟩ : ∃ n, n = cs.length := ⟨_, rfl⟩
  rw [← hn] at HF hcs ⊢
  have hmk : ∀ W : World, (Instr.makeSlice 65 (.int .i64 ((n : Int) + 2)) (.int .i64 ((n : Int) + 2))).run Try.prog W = .ok (.slice (some ⟨W.heap.size, 0, none⟩) (n + 2) (n + 2)) (W.alloc (.cells (cellsF Value.bool (doneL n 2)) 4)) := fun W => by rw [doneL_two]; exact make65 (n + 2) (by omega) W
  have S1 := ((((St.start w).box hbx.symm #[.slice co n cp, .int .i64 root] 44).box (b := bx + 1) (by simp [hbx]) #[.int .i64 2] 3).box (b := bx + 2) (by simp [hbx]) (cellsF Value.bool (doneL n 2)) 4).box (b := bx + 3) (by simp [hbx]) #[.slice (some ⟨bx + 2, 0, none⟩) (n + 2) (n + 2)] 65
  have HBX := Lib.hid hbx
  have HZ : Hid ((((((w.alloc (.cells #[.slice co n cp, .int .i64 root] 44)).alloc (.cells #[.int .i64 2] 3)).alloc (.cells (cellsF Value.bool (doneL n 2)) 4)).alloc (.cells #[.slice (some ⟨bx + 2, 0, none⟩) (n + 2) (n + 2)] 65)).heap.size = bx + 4)) := Lib.hid (by simp [hbx])
  clear hrow hok hv hr hn
  go_enter Try.func42, Try.ntmps42
  go_upto_region 3 with fail
  rw [← hbx]
  simp only [Nat.add_assoc, Nat.reduceAdd]
  clear hbx hmk
  generalize (((w.alloc (.cells #[.slice co n cp, .int .i64 root] 44)).alloc (.cells #[.int .i64 2] 3)).alloc (.cells (cellsF Value.bool (doneL n 2)) 4)).alloc (.cells #[.slice (some ⟨bx + 2, 0, none⟩) (n + 2) (n + 2)] 65) = w1 at S1 HZ ⊢
  have S2 := S1.box HZ.out #[.func (.func 52) #[] #[.pointer (some ⟨bx + 3, 0, none⟩), .pointer (some ⟨bx, 0, none⟩), .pointer (some ⟨bx + 4, 0, none⟩), .pointer (some ⟨bx + 1, 0, none⟩)]] 93
  have hz5 : bx + 5 ≤ (w1.alloc (.cells #[.func (.func 52) #[] #[.pointer (some ⟨bx + 3, 0, none⟩), .pointer (some ⟨bx, 0, none⟩), .pointer (some ⟨bx + 4, 0, none⟩), .pointer (some ⟨bx + 1, 0, none⟩)]] 93)).heap.size := by simp [HZ.out]
  clear S1
  go_upto_region 5 with fail
  rw [HZ.out]
  refine S2.genC hz5 ?_
  clear S2 HZ hz5
  intro w3 z3 S
  obtain ⟨y0, _⟩ := S.one 4
  obtain ⟨⟨z0, _⟩, z1, _⟩ := S.two 0
  have HS := Lib.hid (S.pick [1, 2, 0, 3, 4])
  clear S
  go_wp2_with fail
  refine (HF.out w3 HS.out).mono ?_
  rintro e w4 ⟨rfl, S, _, _⟩
  clear y0 z0 z1
  obtain ⟨y0, _⟩ := S.one 0
  obtain ⟨⟨z0, _⟩, z1, _⟩ := S.two 2
  have hq : (((n : Int) + 2) == ((n : Int) + 2)) = true := by simp
  have SB := Lib.hid S.bel
  clear S
  go_wp2_with fail
  go_ret
  exact ⟨rfl, SB.out⟩
end Go.Proofs.Ytacaakcpkgipfaa
