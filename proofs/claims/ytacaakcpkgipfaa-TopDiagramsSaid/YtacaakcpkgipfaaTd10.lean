/-
  Walks: dia.Built; dia.Of of good clauses.
-/
import Derived.Test.YtacaakcpkgipfaaProg
import Derived.Test.YtacaakcpkgipfaaTd9
import Derived.Test.YtacaakcpkgipfaaTd6
import Derived.RegionTactic
import Derived.BigQuiet
import Derived.Carry
namespace Go.Proofs.Ytacaakcpkgipfaa
open Go.RowKit Go.Shelf Go.Maps
set_option linter.unusedVariables false
set_option linter.unusedSimpArgs false
set_option maxHeartbeats 400000

theorem ret_box22 {P : Program} {fn : Func} {R : Ending → World → Prop} {a : Act} {w : World} (x y p q : Value) (b c : Nat) (T T' : TypeId) (hb : w.heap[b]? = some (.cells #[x, y] T (0, 0))) (hc : w.heap[c]? = some (.cells #[p, q] T' (0, 0)))
    (hres : ∀ w' : World, w'.cell? ⟨b, 0, none⟩ = some x → w'.cell? ⟨b, 1, none⟩ = some y → w'.cell? ⟨c, 0, none⟩ = some p → w'.cell? ⟨c, 1, none⟩ = some q → (results fn a.tmps).run P w' = .ok (.tuple #[.agg #[x, y], .agg #[p, q]]) w') (hd : a.defers = [])
    (hR : R (.returned (.tuple #[.agg #[x, y], .agg #[p, q]])) w) : bodyPost P fn R .ret a w := bodyPost_ret (hres w (box2 hb).1.1 (box2 hb).2.1 (box2 hc).1.1 (box2 hc).2.1) hd hR
theorem two22 {w : World} {b c : Nat} {x0 y0 p0 q0 : Value} {T T' : TypeId} (hb : w.heap[b]? = some (.cells #[x0, y0] T (0, 0))) (hc : w.heap[c]? = some (.cells #[p0, q0] T' (0, 0))) (hne : b < c) (x y p q : Value) :
    ((((w.setCell ⟨b, 0, none⟩ x).setCell ⟨b, 1, none⟩ y).setCell ⟨c, 0, none⟩ p).setCell ⟨c, 1, none⟩ q).heap[b]? = some (.cells #[x, y] T (0, 0)) ∧
    ((((w.setCell ⟨b, 0, none⟩ x).setCell ⟨b, 1, none⟩ y).setCell ⟨c, 0, none⟩ p).setCell ⟨c, 1, none⟩ q).heap[c]? = some (.cells #[p, q] T' (0, 0)) :=
  ⟨heap_set_other (heap_set_other (box2_set hb x y) (by simp; omega)) (by simp; omega), box2_set (heap_set_other (heap_set_other hc (by simp; omega)) (by simp; omega)) p q⟩
theorem below22 {w0 w : World} {B b c : Nat} (h : Below B w0 w) (hb : B ≤ b) (hc : B ≤ c) (x y p q : Value) :
    Below B w0 ((((w.setCell ⟨b, 0, none⟩ x).setCell ⟨b, 1, none⟩ y).setCell ⟨c, 0, none⟩ p).setCell ⟨c, 1, none⟩ q) :=
  (((h.setCell (p := ⟨b, 0, none⟩) hb x).setCell (p := ⟨b, 1, none⟩) hb y).setCell (p := ⟨c, 0, none⟩) hc p).setCell (p := ⟨c, 1, none⟩) hc q
/-- a diagram is handed back, with no fault -/
def DiaPo (d : List Ch × Nat) (w : World) (e : Ending) (w' : World) : Prop :=
  ∃ co sp, e = .returned (.tuple #[.agg #[.slice co d.1.length (d.1.length + sp), .int .i64 d.2], .agg #[.int .i64 0, .int .i64 0]]) ∧ chE.Row (fun b => w.heap.size ≤ b) w' co d.1 ∧ Below w.heap.size w w'
set_option maxRecDepth 100000 in
set_option maxHeartbeats 4000000 in
theorem built22 (T : List Nat) (q : Nat → Prop) (ao : Option Addr) (cp : Nat) (w : World) (hT : T.length = 64) (h01 : ∀ x ∈ T, x < 2) (hcp : 64 ≤ cp) (hrow : byteE.Row q w ao T) :
    Calls Try.prog 22 #[.slice ao 64 cp] w (DiaPo (builtD 6 T) w) := by
  have HROW := Lib.hid hrow
  have HOK := Lib.hid (builtD_ok 6 T (by rw [hT]) h01)
  obtain ⟨bx, hbx⟩ : ∃ b, b = w.heap.size := ⟨_, rfl⟩
  have S1 := ((St.start w).box hbx.symm #[.slice none 0 0, .int .i64 0] 44).box (b := bx + 1) (by simp [hbx]) #[.int .i64 0, .int .i64 0] 31
  have HBX := Lib.hid hbx
  have H01 := Lib.hid h01
  have HT := Lib.hid hT
  clear hrow h01 hT
  obtain ⟨wb, hwb⟩ : ∃ W, W = (w.alloc (.cells #[.slice none 0 0, .int .i64 0] 44)).alloc (.cells #[.int .i64 0, .int .i64 0] 31) := ⟨_, rfl⟩
  rw [← hwb] at S1
  have hzb : wb.heap.size = bx + 2 := by rw [hwb]; simp [hbx]
  have HZB := Lib.hid hzb
  have HWB := Lib.hid hwb
  have Sb1 := ((St.start wb).alloc (.map #[] 0)).add (.fmap 72 3 wb.heap.size 0 (fun _ => none)) (FMap.made _ _ _)
  have Sb2 := (Sb1.alloc (.map #[] 0)).add (.fmap 9 3 (wb.alloc (.map #[] 0)).heap.size 0 (fun _ => none)) (FMap.made _ _ _)
  have Sb3 := (Sb2.box (b := bx + 4) (by simp [hzb]) #[.slice none 0 0, .map (some (bx + 2)), .map (some (bx + 3))] 86).add (.owns chE (bx + 5) (fun _ => False) (.slice none 0 0) []) (Elt.Own.nil _ _ _ _)
  rw [hzb, show (wb.alloc (.map #[] 0)).heap.size = bx + 3 by simp [hzb]] at Sb3
  have Sb := Lib.hid (show St wb _ (bFacts (bx + 2) [] (.slice none 0 0) 0 0 (fun _ => none) (fun _ => none)) from Sb3.pick [2, 3, 0, 1])
  have SA := Lib.hid S1
  clear Sb1 Sb2 Sb3 S1 hwb hzb
  go_enter Try.func22, Try.ntmps22
  have hmm := @run_makeMap Try.prog
  go_upto_region 2 with fail
  rw [← hbx, ← HWB.out]
  clear hmm
  simp only [Nat.add_assoc, Nat.reduceAdd]
  generalize ((wb.alloc (.map #[] 0)).alloc (.map #[] 0)).alloc (.cells #[.slice none 0 0, .map (some (bx + 2)), .map (some (bx + 3))] 86) = W at Sb ⊢
  have HC := Lib.hid (node35 wb (bx + 2) q (by have := HZB.out; omega) 6 T 1 ⟨[], []⟩ (.slice none 0 0) 0 0 (fun _ => none) (fun _ => none) ao cp W ⟨⟨fun j c h => by simp at h, List.nodup_nil⟩, fun t i h => by simp at h⟩ (by rw [HT.out]) H01.out (by omega) (by omega) (by rw [HT.out]; omega)
    (HROW.out.kept (by have h := HWB.out; rw [h]; exact ((Below.refl _ w).alloc (Nat.le_refl _) _).alloc (by simp) _)) (by simp) (by simp) (by simp) Sb.out KInv.nil EInv.nil)
  rw [HT.out] at HC
  obtain ⟨d, hd⟩ : ∃ d, d = builtD 6 T := ⟨_, rfl⟩
  obtain ⟨r, hr⟩ : ∃ r, r = nodeB 6 T 1 ⟨[], []⟩ := ⟨_, rfl⟩
  have HD := Lib.hid (show d = (r.2.cs, r.1) by rw [hd, hr]; rfl)
  have HD2 := Lib.hid (show builtD 6 T = (r.2.cs, r.1) by rw [hr]; rfl)
  rw [← hd] at HOK ⊢
  rw [← hr] at HC
  clear hd hr hbx
  go_wp2_with fail
  refine HC.out.mono ?_
  rintro e W2 ⟨o, nk, ns, fk, fs, rfl, hB⟩
  have hlt : r.2.cs.length ≤ 63 := by have h := HOK.out.len; rw [HD.out] at h; simp at h; omega
  obtain ⟨co, sp, rfl, hrow, _⟩ := (show chE.Own (fun b => bx + 5 ≤ b) (bx + 5) W2 o r.2.cs from Elt.Own.mono (p := fun _ => False) (hB.st.owns chE 1) (fun b h => h.elim)).row (fun b h => h)
  have HROW2 := Lib.hid hrow
  have SA2 := SA.out.step hB.st.bel
  have y0 := (hB.st.cell 0 0 rfl).1
  obtain ⟨⟨x0, x1⟩, x2, x3⟩ := SA2.two 0
  obtain ⟨⟨x4, x5⟩, x6, x7⟩ := SA2.two 1
  have l0 := SA2.lt 0
  have l1 := SA2.lt 1
  have SB := Lib.hid SA2
  clear hB SA2 hrow
  go_wp2_with fail
  have HX := Lib.hid (two22 (SB.out.block 0 rfl) (SB.out.block 1 rfl) (by omega) (.slice co r.2.cs.length (r.2.cs.length + sp)) (.int .i64 r.1) (.int .i64 0) (.int .i64 0))
  have HY := Lib.hid (below22 SB.out.bel (b := bx) (c := bx + 1) (by have := HBX.out; omega) (by have := HBX.out; omega) (.slice co r.2.cs.length (r.2.cs.length + sp)) (.int .i64 r.1) (.int .i64 0) (.int .i64 0))
  refine ret_box22 (.slice co r.2.cs.length (r.2.cs.length + sp)) (.int .i64 r.1) (.int .i64 0) (.int .i64 0) bx (bx + 1) 44 31 HX.out.1 HX.out.2 (fun w' q0 q1 q2 q3 => by simp [results, Try.results22, go_sem, q0, q1, q2, q3]) rfl ?_
  rw [HD2.out]
  refine ⟨co, sp, rfl, ?_, HY.out⟩
  refine HROW2.out.keep (fun b h _ => ⟨?_, by have := HBX.out; have h8 : bx + 5 ≤ b := h; omega⟩)
  have h8 : bx + 5 ≤ b := h
  exact (Below.heap_setCell _ _ _ _ (by show b ≠ bx + 1; omega)).trans ((Below.heap_setCell _ _ _ _ (by show b ≠ bx + 1; omega)).trans ((Below.heap_setCell _ _ _ _ (by show b ≠ bx; omega)).trans (Below.heap_setCell _ _ _ _ (by show b ≠ bx; omega))))

/-- what the clauses say of assignment k -/
def cnfF (cs : List (List Int)) (k : Nat) : Bool := allT (fB (asgL k)) cs
theorem cnfF_eq {cs : List (List Int)} (hG : ∀ c ∈ cs, GoodC 6 c) (k : Nat) : cnfF cs k = allT (asg 6 k) cs := by
  unfold cnfF allT satT litT
  rw [Bool.eq_iff_iff, List.all_eq_true, List.all_eq_true]
  refine forall_congr' fun c => forall_congr' fun hc => ?_
  rw [List.any_eq_true, List.any_eq_true]
  refine exists_congr fun l => ?_
  refine and_congr_right fun hl => ?_
  obtain ⟨h0, h1⟩ := (hG c hc).lit l hl
  rw [asgL_fB k (by omega)]
theorem cnf_tab {cs : List (List Int)} (hG : ∀ c ∈ cs, GoodC 6 c) : tabL (cnfF cs) = tabF 6 (fun a => allT a cs) := by
  unfold tabL tabF
  refine List.map_congr_left fun k _ => ?_
  rw [cnfF_eq hG k]
set_option maxRecDepth 100000 in
theorem of24 (cs : List (List Int)) (hG : ∀ c ∈ cs, GoodC 6 c) (hn : cs.length ≤ 16) (q p : Nat → Prop) (ko : Option Addr) (kc b g k : Nat) (w : World) (hrow : intsE.Row q w ko cs) (hb : w.cell? ⟨b, 1, none⟩ = some (.slice ko cs.length kc)) (hr : boolE.Row p w (some ⟨g, 0, none⟩) (asgL k)) :
    Calls Try.prog 24 #[.slice (some ⟨g, 0, none⟩) 6 6, .pointer (some ⟨b, 0, none⟩)] w fun e w' => e = .returned (.bool (cnfF cs k)) ∧ Below w.heap.size w w' := by
  have HC := Lib.hid (all25 p q ko (some ⟨g, 0, none⟩) cs (asgL k) kc 6 w (fun c hc l hl => by rw [asgL_length]; exact (hG c hc).lit l hl) (by unfold maxLen; omega) (by rw [asgL_length]; omega) hrow hr)
  rw [asgL_length] at HC
  clear hrow hr hG
  go_enter Try.func24, Try.ntmps24
  go_wp2_with fail
  refine HC.out.mono ?_
  rintro e w1 ⟨rfl, hb1⟩
  have HB := Lib.hid hb1
  clear hb1
  go_wp2_with fail
  go_ret
  exact ⟨rfl, HB.out⟩
set_option maxRecDepth 100000 in
set_option maxHeartbeats 4000000 in
theorem of10 (cs : List (List Int)) (hG : ∀ c ∈ cs, GoodC 6 c) (hn : cs.length ≤ 16) (q : Nat → Prop) (ko : Option Addr) (kc : Nat) (w : World) (hrow : intsE.Row q w ko cs) :
    Calls Try.prog 10 #[.agg #[.int .i64 6, .slice ko cs.length kc]] w (DiaPo (builtD 6 (tabF 6 (fun a => allT a cs))) w) := by
  have HROW := Lib.hid hrow
  have HG := Lib.hid hG
  obtain ⟨m, hm⟩ : ∃ m, m = cs.length := ⟨_, rfl⟩
  rw [← hm]
  have HM := Lib.hid hm
  obtain ⟨bx, hbx⟩ : ∃ b, b = w.heap.size := ⟨_, rfl⟩
  have S1 := (((St.start w).box hbx.symm #[.int .i64 6, .slice ko m kc] 40).box (b := bx + 1) (by simp [hbx]) #[.slice none 0 0, .int .i64 0] 44).box (b := bx + 2) (by simp [hbx]) #[.int .i64 0, .int .i64 0] 31
  have HBX := Lib.hid hbx
  clear hrow hG hm
  go_enter Try.func10, Try.ntmps10
  go_wp2_with fail
  rw [← hbx]
  refine S1.gen (z := 0) (by omega) ?_
  intro w1 _ S
  clear S1 hbx
  have HC := check21 q ko cs kc w1 HG.out (HROW.out.kept S.bel) (by have := HM.out; omega)
  rw [← HM.out] at HC
  refine (S.quiet HC).mono ?_
  clear HC
  rintro e w2 ⟨rfl, z2, S2⟩
  obtain ⟨b4, hb4⟩ : ∃ b, b = w2.heap.size := ⟨_, rfl⟩
  have S3 := S2.box hb4.symm #[.int .i64 0, .int .i64 0] 31
  have HB4 := Lib.hid (show bx + 2 < b4 by have := S2.lt 2; omega)
  clear S S2
  obtain ⟨⟨y0, _⟩, y1, _⟩ := S3.two 3
  obtain ⟨⟨y2, _⟩, y3, _⟩ := S3.two 0
  go_upto_region 6 with fail
  rw [← hb4]
  clear y0 y1 y2 y3
  refine S3.genC (z := 0) (by omega) ?_
  intro w3 _ S
  clear S3 hb4
  obtain ⟨⟨y2, _⟩, y3, _⟩ := S.two 0
  go_wp2_with fail
  have HCM := Lib.hid (made23 24 #[.pointer (some ⟨bx, 0, none⟩)] (fun _ _ => rfl) (cnfF cs) w3 (fun k g p w4 hk hb hr => by
    exact of24 cs HG.out (by have := HM.out; omega) q p ko kc bx g k w4 (HROW.out.kept (Below.step S.bel hb)) (by rw [← HM.out]; exact Below.cellOf hb (S.two 0).2.1) hr))
  refine HCM.out.mono ?_
  rintro e w4 ⟨g, rfl, hg, hcell, hb4⟩
  have HCE := Lib.hid hcell
  have S4 := S.step hb4
  rw [cnf_tab HG.out] at HCE
  clear S hcell hb4 HCM y2 y3
  go_wp2_with fail
  have HCB := built22 (tabF 6 (fun a => allT a cs)) (fun _ => True) (some ⟨g, 0, none⟩) 64 w4 (tabF_length 6 _) (tabF_bits 6 _) (by omega) (row_cellsU trivial HCE.out)
  refine HCB.mono ?_
  clear HCB
  obtain ⟨d, hd⟩ : ∃ d, d = builtD 6 (tabF 6 (fun a => allT a cs)) := ⟨_, rfl⟩
  rw [← hd]
  have HDD := Lib.hid hd
  rintro e w5 ⟨co, sp, rfl, hrow, hb5⟩
  have HROW2 := Lib.hid hrow
  have S5 := S4.step hb5
  have hz5 : bx + 3 ≤ w4.heap.size := by have := S4.lt 2; omega
  clear hd hrow hb5 S4
  obtain ⟨⟨x0, x1⟩, x2, x3⟩ := S5.two 1
  obtain ⟨⟨x4, x5⟩, x6, x7⟩ := S5.two 2
  have l0 := S5.lt 1
  have l1 := S5.lt 2
  have SB := Lib.hid S5
  clear S5
  go_wp2_with fail
  have HX := Lib.hid (two22 (SB.out.block 1 rfl) (SB.out.block 2 rfl) (by omega) (.slice co d.1.length (d.1.length + sp)) (.int .i64 d.2) (.int .i64 0) (.int .i64 0))
  have HY := Lib.hid (below22 SB.out.bel (b := bx + 1) (c := bx + 2) (by have := HBX.out; omega) (by have := HBX.out; omega) (.slice co d.1.length (d.1.length + sp)) (.int .i64 d.2) (.int .i64 0) (.int .i64 0))
  refine ret_box22 (.slice co d.1.length (d.1.length + sp)) (.int .i64 d.2) (.int .i64 0) (.int .i64 0) (bx + 1) (bx + 2) 44 31 HX.out.1 HX.out.2 (fun w' q0 q1 q2 q3 => by simp [results, Try.results10, go_sem, q0, q1, q2, q3]) rfl ?_
  rw [← HDD.out]
  refine ⟨co, sp, rfl, ?_, HY.out⟩
  refine HROW2.out.keep (fun b h _ => ⟨?_, by have := HBX.out; have h8 : w4.heap.size ≤ b := h; omega⟩)
  have h8 : w4.heap.size ≤ b := h
  exact (Below.heap_setCell _ _ _ _ (by show b ≠ bx + 2; omega)).trans ((Below.heap_setCell _ _ _ _ (by show b ≠ bx + 2; omega)).trans ((Below.heap_setCell _ _ _ _ (by show b ≠ bx + 1; omega)).trans (Below.heap_setCell _ _ _ _ (by show b ≠ bx + 1; omega))))
end Go.Proofs.Ytacaakcpkgipfaa
