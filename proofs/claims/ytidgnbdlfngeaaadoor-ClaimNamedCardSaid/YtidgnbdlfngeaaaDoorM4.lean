/-
  Walks: claim.Renamed, claim.Norm.
-/
import Derived.Test.YtidgnbdlfngeaaaDoorProg
import Derived.Test.YtidgnbdlfngeaaaDoorM3
namespace Go.Proofs.YtidgnbdlfngeaaaDoor
open Go.RowKit Go.Shelf Go.Maps
set_option linter.unusedVariables false
set_option maxHeartbeats 400000

set_option maxRecDepth 100000 in
set_option maxHeartbeats 4000000 in
theorem renamed65 (fs : List Fc) (p : Nat → Prop) (w : World) (ao : Option Addr) (sp : Nat) (hp : ∀ c, p c → c < w.heap.size) (h : factE.Row p w ao fs) (hn : fs.length ≤ 1000)
    (hs : ∀ (i : Nat) t, (treesF fs)[i]? = some t → lowT t ∧ t.size ≤ 10000) :
    Calls Tryd.prog 27 #[.agg #[.slice ao fs.length (fs.length + sp)]] w fun e w' => ∃ ro rsp, e = .returned (.agg #[.slice ro (rnA fs).length ((rnA fs).length + rsp)]) ∧ factE.Row (fun c => w.heap.size ≤ c) w' ro (rnA fs) ∧ Below w.heap.size w w' := by
  have HR := Lib.hid h; have HP := Lib.hid hp; have HS := Lib.hid hs
  have hmm := @run_makeMap Tryd.prog
  obtain ⟨bx, hbx⟩ : ∃ b, b = w.heap.size := ⟨_, rfl⟩
  have S1 := ((St.start w).box hbx.symm #[.slice ao fs.length (fs.length + sp)] 37).box (b := bx + 1) (by simp [hbx]) #[.slice none 0 0] 37
  have hsz1 : ((w.alloc (.cells #[.slice ao fs.length (fs.length + sp)] 37)).alloc (.cells #[.slice none 0 0] 37)).heap.size = bx + 2 := by simp [hbx]
  have hM := MapI.made ((w.alloc (.cells #[.slice ao fs.length (fs.length + sp)] 37)).alloc (.cells #[.slice none 0 0] 37))
  rw [hsz1] at hM
  have S2 := (S1.alloc (.map #[] 0)).add (.mapI (bx + 2) []) hM
  clear h hp hs S1 hM
  go_enter Tryd.func27, Tryd.ntmps27
  go_wp2_with fail
  rw [← hbx]
  refine S2.gen (z := bx + 3) (by simp [hbx]) ?_
  intro w3 z3 S
  have HBX := Lib.hid hbx
  clear S2 hbx hsz1
  refine (map104 fs p w w3 (bx + 2) ao sp HP.out (by have := HBX.out; omega) HR.out (S.pick [2]) hn HS.out).mono ?_
  rintro e w4 ⟨ro, rsp, rfl, hrow, hk, hz, hb⟩
  have HT := Lib.hid hrow
  have hb1 := (hk (bx + 1) (by omega) (by omega)).trans (S.block 1)
  obtain ⟨y0, y1⟩ := box1 hb1
  have hl1 := heap_lt hb1
  have HBL := Lib.hid hb
  clear S hk hb hrow
  go_wp2_with fail
  refine ret_box1 (.slice ro (rnA fs).length ((rnA fs).length + rsp)) (bx + 1) 37 (box1_set' hb1 _ rfl) (fun w' q0 => by simp [results, Tryd.results27, go_sem, q0]) rfl ?_
  have hx1 := HBX.out
  refine ⟨_, _, rfl, HT.out.keep (fun b h1 h2 => ⟨Below.heap_setCell _ _ _ _ (by show b ≠ bx + 1; omega), by omega⟩), HBL.out.setCell (p := ⟨bx + 1, 0, none⟩) (by show w.heap.size ≤ bx + 1; omega) _⟩

/-- of well formed claims all that Renamer wants -/
theorem formF_ok {fs : List Fc} (h : formF fs = 0) : fs.length ≤ 6 ∧ ∀ (i : Nat) t, (treesF fs)[i]? = some t → (treeF t).1 = 0 := by
  unfold formF at h
  by_cases h6 : 6 < fs.length
  · rw [if_pos h6] at h; omega
  · rw [if_neg h6] at h
    refine ⟨by omega, ?_⟩
    have key : ∀ ts : List T, firstC ts = 0 → ∀ (i : Nat) t, ts[i]? = some t → (treeF t).1 = 0 := by
      intro ts
      induction ts with
      | nil => intro _ i t ht; simp at ht
      | cons x r ih =>
        intro hx i t ht
        rw [firstC] at hx
        by_cases hc : (treeF x).1 = 0
        · rw [if_neg (by simpa using hc)] at hx
          cases i with
          | zero => simp at ht; rw [← ht]; exact hc
          | succ i => exact ih hx i t (by simpa using ht)
        · rw [if_pos hc] at hx; exact absurd hx hc
    exact key _ h
theorem low_of_ok {t : T} (h : (treeF t).1 = 0) : lowT t ∧ t.size ≤ 10000 ∧ ∀ x ∈ t.pre, x.head < 0 → x.kids = [] := by
  obtain ⟨h1, _, h3⟩ := treeF_ok.1 h
  refine ⟨fun x hx => ?_, by omega, fun x hx hn => ?_⟩
  · have := (h3 x hx).1; unfold badHead at this; omega
  · have := (h3 x hx).2; unfold badKids at this
    exact List.eq_nil_of_length_eq_zero (by omega)
/-- Renamed is the document's Norm -/
theorem rnA_norm {fs : List Fc} (h : ∀ (i : Nat) t, (treesF fs)[i]? = some t → (treeF t).1 = 0) : rnA fs = normF fs := by
  obtain ⟨L, hL⟩ : ∃ L, L = orderL (treesF fs) [] := ⟨_, rfl⟩
  have hneg : ∀ x ∈ L, x < 0 := by rw [hL]; exact orderL_neg _ _ (fun x hx => by simp at hx)
  have hcov : covL L (treesF fs) := by rw [hL]; exact (orderL_ext _ _).2
  unfold rnA normF
  rw [← hL]
  clear hL
  induction fs with
  | nil => rfl
  | cons f r ih =>
    have hc : f.l.cov L ∧ f.r.cov L ∧ covL L (treesF r) := hcov
    simp only [List.map_cons]
    rw [ih (fun i t ht => h (i + 2) t (by simpa [treesF] using ht)) hc.2.2]
    simp only [rnF, reFc]
    rw [T.ren_renum hneg hc.1 (low_of_ok (h 0 f.l rfl)).2.2, T.ren_renum hneg hc.2.1 (low_of_ok (h 1 f.r rfl)).2.2]

def normO (fs : List Fc) : List Fc := if formF fs = 0 then normF fs else []
theorem ret_box12 {P : Program} {fn : Func} {R : Ending → World → Prop} {a : Act} {w : World} (x p q : Value) (b c : Nat) (T T' : TypeId) (hb : w.heap[b]? = some (.cells #[x] T (0, 0))) (hc : w.heap[c]? = some (.cells #[p, q] T' (0, 0)))
    (hres : ∀ w' : World, w'.cell? ⟨b, 0, none⟩ = some x → w'.cell? ⟨c, 0, none⟩ = some p → w'.cell? ⟨c, 1, none⟩ = some q → (results fn a.tmps).run P w' = .ok (.tuple #[.agg #[x], .agg #[p, q]]) w') (hd : a.defers = [])
    (hR : R (.returned (.tuple #[.agg #[x], .agg #[p, q]])) w) : bodyPost P fn R .ret a w := bodyPost_ret (hres w (box1 hb).1 (box2 hc).1.1 (box2 hc).2.1) hd hR

set_option maxRecDepth 100000 in
set_option maxHeartbeats 4000000 in
theorem norm17 (fs : List Fc) (p : Nat → Prop) (w : World) (ao : Option Addr) (sp : Nat) (hp : ∀ c, p c → c < w.heap.size) (h : factE.Row p w ao fs) (hn : fs.length ≤ 1000000) :
    Calls Tryd.prog 9 #[.agg #[.slice ao fs.length (fs.length + sp)]] w fun e w' => ∃ ro rsp, e = .returned (.tuple #[.agg #[.slice ro (normO fs).length ((normO fs).length + rsp)], .agg #[.int .i64 (formF fs), .int .i64 0]]) ∧
      factE.Row (fun c => w.heap.size ≤ c) w' ro (normO fs) ∧ Below w.heap.size w w' := by
  have HR := Lib.hid h; have HP := Lib.hid hp
  obtain ⟨bx, hbx⟩ : ∃ b, b = w.heap.size := ⟨_, rfl⟩
  have S1 := (((St.start w).box hbx.symm #[.slice ao fs.length (fs.length + sp)] 37).box (b := bx + 1) (by simp [hbx]) #[.slice none 0 0] 37).box (b := bx + 2) (by simp [hbx]) #[.int .i64 0, .int .i64 0] 28
  have hsz1 : (((w.alloc (.cells #[.slice ao fs.length (fs.length + sp)] 37)).alloc (.cells #[.slice none 0 0] 37)).alloc (.cells #[.int .i64 0, .int .i64 0] 28)).heap.size = bx + 3 := by simp [hbx]
  clear h hp
  go_enter Tryd.func9, Tryd.ntmps9
  go_wp2_with fail
  rw [← hbx]
  refine S1.gen (z := bx + 3) (by omega) ?_
  intro w3 z3 S
  have HBX := Lib.hid hbx
  clear S1 hbx hsz1
  refine (S.quiet (form18 fs p ao sp w3 (HR.out.kept S.bel) hn)).mono ?_
  rintro e w4 ⟨rfl, z4, S4⟩
  clear S
  obtain ⟨c, hc⟩ : ∃ c, c = formF fs := ⟨_, rfl⟩
  by_cases h0 : c = 0
  · have hcb : (c != 0) = false := by simp [h0]
    have HF := Lib.hid (formF_ok (by rw [← hc]; exact h0))
    have HC := Lib.hid hc
    have HE := Lib.hid (show normO fs = rnA fs by unfold normO; rw [if_pos (by rw [← hc]; exact h0), rnA_norm HF.out.2])
    rw [← hc]
    have H0 := Lib.hid h0
    clear hc h0
    obtain ⟨x0, _⟩ := S4.one 0
    go_wp2_with fail
    refine (renamed65 fs p w4 ao sp (fun b hb => by have := HP.out b hb; have := HBX.out; omega) (HR.out.kept S4.bel) (by have := HF.out.1; omega) (fun i t ht => ⟨(low_of_ok (HF.out.2 i t ht)).1, (low_of_ok (HF.out.2 i t ht)).2.1⟩)).mono ?_
    rintro e w5 ⟨ro, rsp, rfl, hrow, hb⟩
    have S5 := S4.step hb
    have HT := Lib.hid hrow
    have z5 := hb.size
    clear hrow hb x0 S4
    obtain ⟨y0, y1⟩ := S5.one 1
    obtain ⟨⟨q0, q1⟩, q2, q3⟩ := S5.two 2
    have hl1 := S5.lt 1
    have hl2 := S5.lt 2
    have SB := Lib.hid S5
    clear S5
    go_wp2_with fail
    have hx1 := HBX.out
    have SF := (SB.out.set1 1 rfl (.slice ro (rnA fs).length ((rnA fs).length + rsp)) (by omega) (by simp only [fsnoc, offs, offAll, Fct.box, and_true]; omega)).set2 2 rfl (.int .i64 0) (.int .i64 0) (by omega) (by simp only [fset, fsnoc, offs, offAll, Fct.box, and_true]; omega)
    refine ret_box12 (.slice ro (rnA fs).length ((rnA fs).length + rsp)) (.int .i64 0) (.int .i64 0) (bx + 1) (bx + 2) 37 28 (SF.block 1) (SF.block 2) (fun w' q0 q1 q2 => by simp [results, Tryd.results9, go_sem, q0, q1, q2]) rfl ?_
    rw [HE.out, ← HC.out, H0.out]
    refine ⟨_, _, rfl, HT.out.keep (fun b h1 h2 => ⟨(Below.heap_setCell _ _ _ _ (by show b ≠ bx + 2; omega)).trans ((Below.heap_setCell _ _ _ _ (by show b ≠ bx + 2; omega)).trans (Below.heap_setCell _ _ _ _ (by show b ≠ bx + 1; omega))), by omega⟩), SF.bel⟩
  · have hcb : (c != 0) = true := by simp [h0]
    have HC := Lib.hid hc
    have HE := Lib.hid (show normO fs = [] by unfold normO; rw [if_neg (by rw [← hc]; exact h0)])
    rw [← hc]
    clear hc h0
    obtain ⟨y0, y1⟩ := S4.one 1
    obtain ⟨⟨q0, q1⟩, q2, q3⟩ := S4.two 2
    have hl1 := S4.lt 1
    have hl2 := S4.lt 2
    have SB := Lib.hid S4
    clear S4
    go_wp2_with fail
    have hx1 := HBX.out
    have SF := (SB.out.set1 1 rfl (.slice none 0 0) (by omega) (by simp only [fsnoc, offs, offAll, Fct.box, and_true]; omega)).set2 2 rfl (.int .i64 c) (.int .i64 0) (by omega) (by simp only [fset, fsnoc, offs, offAll, Fct.box, and_true]; omega)
    refine ret_box12 (.slice none 0 0) (.int .i64 c) (.int .i64 0) (bx + 1) (bx + 2) 37 28 (SF.block 1) (SF.block 2) (fun w' q0 q1 q2 => by simp [results, Tryd.results9, go_sem, q0, q1, q2]) rfl ?_
    rw [HE.out, ← HC.out]
    refine ⟨_, 0, rfl, Elt.Row.nil, SF.bel⟩
end Go.Proofs.YtidgnbdlfngeaaaDoor
