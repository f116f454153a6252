/-
  Walks: dia.value, dia.tableOf; slices.Clone of a table, dia.Combined.
-/
import Derived.Test.YtacaakcpkgipfaaProg
import Derived.Test.YtacaakcpkgipfaaTd8
import Derived.Test.YtacaakcpkgipfaaG7
import Derived.Test.YtacaakcpkgipfaaEk1
import Derived.RegionTactic
import Derived.BigQuiet
import Derived.Deep.CutBlock
import Derived.Deep.DeepCutAuto
namespace Go.Proofs.Ytacaakcpkgipfaa
open Go.RowKit Go.Shelf Go.Maps
set_option linter.unusedVariables false
set_option linter.unusedSimpArgs false
set_option maxHeartbeats 400000

set_option maxRecDepth 100000 in
set_option maxHeartbeats 4000000 in
theorem value45 (cs : List Ch) (root : Nat) (a : List Bool) (p q : Nat → Prop) (co ao : Option Addr) (cp cc : Nat) (w : World) (hn : cs.length ≤ 200) (hroot : root < cs.length + 2) (hok : ∀ (j : Nat) c, cs[j]? = some c → c.2.1 < j + 2 ∧ c.2.2 < j + 2 ∧ 1 ≤ c.1 ∧ c.1 ≤ 6) (ha : a.length = 6) (hrow : chE.Row q w co cs) (hr : boolE.Row p w ao a) :
    Calls Try.prog 45 #[.agg #[.slice co cs.length cp, .int .i64 root], .slice ao 6 cc] w fun e w' => e = .returned (.bool (valN (fB a) cs root == 1)) ∧ Below w.heap.size w w' := by
  have HROW := Lib.hid hrow; have HR := Lib.hid hr; have HOK := Lib.hid hok; have HA := Lib.hid ha
  obtain ⟨n, hnn⟩ : ∃ n, n = cs.length := ⟨_, rfl⟩
  rw [← hnn] at hn hroot ⊢
  have HN := Lib.hid hnn
  obtain ⟨bx, hbx⟩ : ∃ b, b = w.heap.size := ⟨_, rfl⟩
  have S1 := (St.start w).box hbx.symm #[.slice co n cp, .int .i64 root] 44
  clear hrow hr hok ha hnn
  go_enter Try.func45, Try.ntmps45
  go_wp2_with fail
  rw [← hbx]
  refine S1.genC (z := 0) (by omega) ?_
  clear S1 hbx
  intro w1 _ S
  go_loopw [5] (fun i wr => ∃ k : Nat, k < n + 2 ∧ i = .int .i64 k ∧ Hid (valN (fB a) cs k = valN (fB a) cs root) ∧ St w wr [.box bx #[.slice co n cp, .int .i64 root] 44]) (fun i _ => (intOf i).toNat)
  case atStart => exact ⟨root, hroot, rfl, Lib.hid rfl, S⟩
  case round =>
    clear S
    obtain ⟨k, hk, rfl, HV, S⟩ := hrel
    by_cases h2 : 2 ≤ k
    · obtain ⟨j, rfl⟩ : ∃ j, k = j + 2 := ⟨k - 2, by omega⟩
      have hjc : j < cs.length := by have := HN.out; omega
      obtain ⟨b, off, rfl, _, c0, c1, c2⟩ := (HROW.out.kept S.bel).ch hjc
      obtain ⟨o1, o2, o3, o4⟩ := HOK.out j cs[j] (List.getElem?_eq_getElem hjc)
      have HST := Lib.hid (valN_step (fB a) (List.getElem?_eq_getElem hjc) o1 o2)
      obtain ⟨c, hc⟩ : ∃ c, c = cs[j] := ⟨_, rfl⟩
      rw [← hc] at c0 c1 c2 o1 o2 o3 o4 HST
      obtain ⟨v, lo, hi⟩ := c
      dsimp only at c0 c1 c2 o1 o2 o3 o4 HST
      obtain ⟨u, rfl⟩ : ∃ u, v = u + 1 := ⟨v - 1, by omega⟩
      have hul : u < a.length := by have := HA.out; omega
      obtain ⟨ab, aoff, rfl, _, d0⟩ := (HR.out.kept S.bel).bool hul
      have HBV := Lib.hid (show fB a (u + 1 - 1) = a[u] by rw [Nat.add_sub_cancel, fB_get hul])
      obtain ⟨X, hX⟩ : ∃ X, X = a[u] := ⟨_, rfl⟩
      rw [← hX] at d0 HBV
      have hji : (j : Int) < (n : Int) := by omega
      have hj2 : (j : Int) + 2 - 2 = (j : Int) := by omega
      have hjw : IntKind.i64.wrap ((j : Int) + 2 - 2) = (j : Int) := by rw [IntWalk.i64_in _ (by omega)]; omega
      have hge : 2 ≤ (j : Int) + 2 := by omega
      have hu2 : ((u + 1 : Nat) : Int) - 1 = (u : Int) := by omega
      have hu3 : (u : Int) + 1 - 1 = (u : Int) := by omega
      have hu4 : (u : Int) < 6 := by omega
      have hu5 : u < 6 := by omega
      have hjn : j < n := by omega
      obtain ⟨⟨y0, _⟩, y1, _⟩ := S.two 0
      obtain ⟨b6, hb6⟩ : ∃ b, b = wr.heap.size := ⟨_, rfl⟩
      have S1 := S.box hb6.symm #[.int .i64 ((u + 1 : Nat) : Int), .int .i64 (lo : Nat), .int .i64 (hi : Nat)] 72
      have HD0 := Lib.hid (fun W (hb : Below wr.heap.size wr W) => Below.cellOf hb d0)
      have HBB := Lib.hid ((Below.refl wr.heap.size wr).alloc (Nat.le_refl _) (.cells #[.int .i64 ((u + 1 : Nat) : Int), .int .i64 (lo : Nat), .int .i64 (hi : Nat)] 72))
      clear hc hX S h2
      rw [show ((j + 2 : Nat) : Int) = (j : Int) + 2 from rfl]
      go_upto_region 4 with fail
      rw [← hb6]
      have d1 := HD0.out _ HBB.out
      have S2 := S1.add (.none) trivial
      obtain ⟨w2, hw2⟩ : ∃ W, W = wr.alloc (.cells #[.int .i64 ((u + 1 : Nat) : Int), .int .i64 (lo : Nat), .int .i64 (hi : Nat)] 72) := ⟨_, rfl⟩
      rw [← hw2] at d1 S1
      have e2 := hw2.symm
      rw [show ((u + 1 : Nat) : Int) = (u : Int) + 1 from rfl] at e2
      rw [e2]
      clear hb6 hw2 e2 S2 HD0 HBB d0 c0 c1 c2 y0 y1
      have x0 := (S1.cell 1 0 rfl).1
      have x1 := (S1.cell 1 1 rfl).1
      have x2 := (S1.cell 1 2 rfl).1
      have HS1 := Lib.hid S1
      clear S1
      cases X with
      | true =>
        have HV2 := Lib.hid (show valN (fB a) cs hi = valN (fB a) cs root by rw [← HV.out, HST.out, if_pos HBV.out])
        go_wp2_with fail
        go_roundw
        case rel => exact ⟨hi, by omega, rfl, HV2, HS1.out.pick [0]⟩
        case measure => simp [intOf] <;> omega
      | false =>
        have HV2 := Lib.hid (show valN (fB a) cs lo = valN (fB a) cs root by rw [← HV.out, HST.out, if_neg (by rw [HBV.out]; decide)])
        go_wp2_with fail
        go_roundw
        case rel => exact ⟨lo, by omega, rfl, HV2, HS1.out.pick [0]⟩
        case measure => simp [intOf] <;> omega
    · have hge : ¬ 2 ≤ (k : Int) := by omega
      have HVV := Lib.hid (show ((k : Int) == 1) = (valN (fB a) cs root == 1) by
        rw [← HV.out]
        rcases (by omega : k = 0 ∨ k = 1) with rfl | rfl
        · rw [valN_zero]; rfl
        · rw [valN_one]; rfl)
      have SB := Lib.hid S.bel
      clear S
      go_wp2_with fail
      go_ret
      exact ⟨ret_bool HVV.out, SB.out⟩
theorem valN_congr {a b : Nat → Bool} {cs : List Ch} (h : ∀ c ∈ cs, a (c.1 - 1) = b (c.1 - 1)) (i : Nat) : valN a cs i = valN b cs i := by
  unfold valN vals
  have key : ∀ (cs : List Ch) (l : List Nat), (∀ c ∈ cs, a (c.1 - 1) = b (c.1 - 1)) → cs.foldl (fun l c => l ++ [gV l (if a (c.1 - 1) then c.2.2 else c.2.1)]) l = cs.foldl (fun l c => l ++ [gV l (if b (c.1 - 1) then c.2.2 else c.2.1)]) l := by
    intro cs
    induction cs with
    | nil => intro l _; rfl
    | cons c r ih =>
      intro l hc
      rw [List.foldl_cons, List.foldl_cons, hc c (List.mem_cons_self ..)]
      exact ih _ (fun d hd => hc d (List.mem_cons_of_mem _ hd))
  rw [key cs _ h]
def diaF (cs : List Ch) (root k : Nat) : Bool := valN (fB (asgL k)) cs root == 1
theorem dia_tab {cs : List Ch} {root : Nat} (h : ∀ c ∈ cs, 1 ≤ c.1 ∧ c.1 ≤ 6) : tabL (diaF cs root) = tabF 6 (fun a => valN a cs root == 1) := by
  unfold tabL tabF
  refine List.map_congr_left fun k _ => ?_
  unfold diaF
  rw [valN_congr (b := asg 6 k) (fun c hc => asgL_fB k (by have := h c hc; omega))]
set_option maxRecDepth 100000 in
theorem tab44 (cs : List Ch) (root k : Nat) (p q : Nat → Prop) (co : Option Addr) (cp g b : Nat) (w : World) (hn : cs.length ≤ 200) (hroot : root < cs.length + 2) (hok : ∀ (j : Nat) c, cs[j]? = some c → c.2.1 < j + 2 ∧ c.2.2 < j + 2 ∧ 1 ≤ c.1 ∧ c.1 ≤ 6) (hrow : chE.Row q w co cs) (hr : boolE.Row p w (some ⟨g, 0, none⟩) (asgL k)) (hb : w.heap[b]? = some (.cells #[.slice co cs.length cp, .int .i64 root] 44 (0, 0))) :
    Calls Try.prog 44 #[.slice (some ⟨g, 0, none⟩) 6 6, .pointer (some ⟨b, 0, none⟩)] w fun e w' => e = .returned (.bool (diaF cs root k)) ∧ Below w.heap.size w w' := by
  have HC := Lib.hid (value45 cs root (asgL k) p q co (some ⟨g, 0, none⟩) cp 6 w hn hroot hok (asgL_length k) hrow hr)
  obtain ⟨⟨y0, _⟩, y1, _⟩ := box2 hb
  clear hrow hr hok hb
  go_enter Try.func44, Try.ntmps44
  go_wp2_with fail
  refine HC.out.mono ?_
  rintro e w1 ⟨rfl, hb1⟩
  have HB := Lib.hid hb1
  clear hb1 y0 y1
  go_wp2_with fail
  go_ret
  exact ⟨rfl, HB.out⟩
set_option maxRecDepth 100000 in
theorem tableOf28 (T : List Nat) (hT : T.length = 64) (h01 : ∀ x ∈ T, x < 2) (d : List Ch × Nat) (hd : DiaOk 6 T d) (q : Nat → Prop) (co : Option Addr) (cp : Nat) (w : World) (hrow : chE.Row q w co d.1) :
    Calls Try.prog 28 #[.int .i64 6, .agg #[.slice co d.1.length cp, .int .i64 d.2]] w (TabPo T w) := by
  obtain ⟨cs, root⟩ := d
  have hlen : cs.length ≤ 63 := by have := hd.len; simp at this; omega
  have hroot : root < cs.length + 2 := hd.root
  have hok : ∀ (j : Nat) c, cs[j]? = some c → c.2.1 < j + 2 ∧ c.2.2 < j + 2 ∧ 1 ≤ c.1 ∧ c.1 ≤ 6 := fun j c hc => by
    obtain ⟨g1, g2, g3, g4, g5, _⟩ := hd.good.ok j c hc
    exact ⟨g1, g2, g4, g5⟩
  have HTAB := Lib.hid (show tabL (diaF cs root) = T by
    rw [dia_tab (fun c hc => by
      obtain ⟨j, hj, rfl⟩ := List.getElem_of_mem hc
      have := hok j _ (List.getElem?_eq_getElem hj)
      exact ⟨this.2.2.1, this.2.2.2⟩)]
    exact tab_of_reads (by rw [hT]) h01 hd.reads)
  dsimp only at hrow ⊢
  obtain ⟨bx, hbx⟩ : ∃ b, b = w.heap.size := ⟨_, rfl⟩
  have S1 := (St.start w).box hbx.symm #[.slice co cs.length cp, .int .i64 root] 44
  have HROW := Lib.hid hrow; have HOK := Lib.hid hok
  have HBX := Lib.hid hbx
  clear hrow hd hok
  go_enter Try.func28, Try.ntmps28
  go_wp2_with fail
  rw [← hbx]
  refine S1.gen (z := 0) (by omega) ?_
  clear S1 hbx
  intro w1 _ S
  have HC := made23 44 #[.pointer (some ⟨bx, 0, none⟩)] (fun _ _ => rfl) (diaF cs root) w1 (fun k g p w4 hk hb hr =>
    tab44 cs root k p q co cp g bx w4 (by omega) hroot HOK.out (HROW.out.kept (Below.step S.bel hb)) hr ((hb.block bx (S.lt 0)).trans (S.block 0)))
  rw [HTAB.out] at HC
  refine HC.mono ?_
  clear HC
  rintro e w4 ⟨g, rfl, hg, hcell, hb4⟩
  have HX := Lib.hid (show w.heap.size ≤ g ∧ w4.heap[g]? = some (.cells (cellsF byV T) 5 (0, 0)) ∧ Below w.heap.size w w4 from ⟨by have := S.size; omega, hcell, Below.step S.bel hb4⟩)
  clear S hcell hb4 hg
  go_wp2_with fail
  go_ret
  exact ⟨g, rfl, HX.out⟩
end Go.Proofs.Ytacaakcpkgipfaa
