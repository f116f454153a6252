/-
  Walks: a tree whose variables have greater numbers (the document's Moved, tree.Shift).
-/
import Derived.Test.YtidgnbdlfngeaaaDoorProg
import Derived.Test.YtidgnbdlfngeaaaDoorE7
import Derived.Test.YtidgnbdlfngeaaaDoorXb
import Derived.Deep.RegionLaw
import Derived.RegionTactic
import Derived.Deep.DeepCutAuto
namespace Go.Proofs.YtidgnbdlfngeaaaDoor
open Go.RowKit Go.Shelf
set_option linter.unusedVariables false
set_option maxHeartbeats 400000

/-- no node has a thousand kids -/
def T.thin (t : T) : Prop := ∀ z ∈ t.pre, z.kids.length ≤ 1000
theorem T.thin.kid {t : T} (h : t.thin) {i : Nat} (hi : i < t.kids.length) : (gK t.kids i).thin := fun z hz => h z (by rw [T.pre_eq]; exact List.mem_cons_of_mem _ (kid_pre_mem hi hz))
theorem T.thin.self {t : T} (h : t.thin) : t.kids.length ≤ 1000 := h t (by rw [T.pre_eq]; simp)


mutual
def shT (by' : Int) : T → T
  | .node h ks => .node (if h < 0 then h - by' else h) (shL by' ks)
def shL (by' : Int) : List T → List T
  | [] => []
  | t :: r => shT by' t :: shL by' r
end
theorem shL_append (x : Int) : ∀ (a b : List T), shL x (a ++ b) = shL x a ++ shL x b
  | [], b => rfl
  | t :: r, b => by simp [shL, shL_append x r b]
theorem shL_take (x : Int) {ks : List T} {k : Nat} (h : k < ks.length) : shL x (ks.take (k + 1)) = shL x (ks.take k) ++ [shT x (gK ks k)] := by
  rw [take_gK h, shL_append]; rfl
theorem shL_length (x : Int) : ∀ (ks : List T), (shL x ks).length = ks.length
  | [] => rfl
  | t :: r => by simp [shL, shL_length x r]
theorem shT_eq (x : Int) (t : T) : shT x t = .node (if t.head < 0 then t.head - x else t.head) (shL x t.kids) := by cases t; rw [shT]; rfl

set_option maxRecDepth 100000 in
set_option maxHeartbeats 4000000 in
theorem moved13 (x : Int) (hx0 : 0 ≤ x) (hx1 : x ≤ 1000) (t : T) : ∀ (v : Value) (w : World), TreeAt w v t → t.low → t.thin →
    Calls Tryd.prog 13 #[v, .int .i64 x] w fun e w' => ∃ u, e = .returned u ∧ TreeP (fun b => w.heap.size ≤ b) w' u (shT x t) ∧ Below w.heap.size w w' := by
  induction t using T.ind with
  | h t ih =>
  intro v w ht hlo hth
  obtain ⟨ao, sp, rfl, hr, hml⟩ := ht.open
  have hml : t.kids.length ≤ 9223372036854775807 := hml
  have HR := Lib.hid hr; have IH := Lib.hid ih; have HTH := Lib.hid hth; have HLO := Lib.hid hlo
  have HTR := Lib.hid (shT_eq x t)
  have hh1 : -1000 ≤ t.head := ((T.low_eq t).1 hlo).1
  clear ht hr ih hth hlo
  obtain ⟨i44, gi, gz0, gz1, gz2⟩ := info_parts info44
  obtain ⟨bx, hbx⟩ : ∃ b, b = w.heap.size := ⟨_, rfl⟩
  have S1 := (((St.start w).box hbx.symm #[.int .i64 t.head, .slice ao t.kids.length (t.kids.length + sp)] 45).box (b := bx + 1) (by simp [hbx]) #[.int .i64 0, .slice none 0 0] 45).box (b := bx + 2) (by simp [hbx]) #[.int .i64 t.head, .slice none 0 0] 45
  have hsz1 : (((w.alloc (.cells #[.int .i64 t.head, .slice ao t.kids.length (t.kids.length + sp)] 45)).alloc (.cells #[.int .i64 0, .slice none 0 0] 45)).alloc (.cells #[.int .i64 t.head, .slice none 0 0] 45)).heap.size = bx + 3 := by simp [hbx]
  go_enter Tryd.func13, Tryd.ntmps13
  go_upto_region 2 with fail
  rw [← hbx]
  refine S1.genC (z := bx + 3) (by omega) ?_
  intro w1 z1 S
  have HBX := Lib.hid hbx
  clear S1 hbx hsz1
  obtain ⟨H, hH⟩ : ∃ H, H = if t.head < 0 then t.head - x else t.head := ⟨_, rfl⟩
  rw [← hH] at HTR
  have HH := Lib.hid hH
  clear hH
  change St w w1 [.box bx #[.int .i64 t.head, .slice ao t.kids.length (t.kids.length + sp)] 45, .box (bx + 1) #[.int .i64 0, .slice none 0 0] 45, .box (bx + 2) #[.int .i64 t.head, .slice none 0 0] 45] at S
  obtain ⟨⟨x0, _⟩, x1, _⟩ := S.two 0
  obtain ⟨⟨y0, y1⟩, y2, y3⟩ := S.two 2
  have hl2 := S.lt 2
  go_cut [12] (fun tc W => tc = .bool (decide (t.head < 0)) ∧ bx + 3 ≤ W.heap.size ∧ St w W [.box bx #[.int .i64 t.head, .slice ao t.kids.length (t.kids.length + sp)] 45, .box (bx + 1) #[.int .i64 0, .slice none 0 0] 45, .box (bx + 2) #[.int .i64 t.head, .slice none 0 0] 45])
  case first =>
    go_wp2_with fail
    go_meet
    case rel => exact ⟨rfl, z1, S⟩
  case rest =>
  clear S x0 x1 y0 y1 y2 y3 hl2 z1
  obtain ⟨htc, z1, S⟩ := hcut
  subst htc
  go_step
  go_cut [] (fun W => bx + 3 ≤ W.heap.size ∧ St w W [.box bx #[.int .i64 t.head, .slice ao t.kids.length (t.kids.length + sp)] 45, .box (bx + 1) #[.int .i64 0, .slice none 0 0] 45, .box (bx + 2) #[.int .i64 H, .slice none 0 0] 45])
  case first =>
    obtain ⟨⟨x0, _⟩, x1, _⟩ := S.two 0
    obtain ⟨⟨y0, y1⟩, y2, y3⟩ := S.two 2
    have hl2 := S.lt 2
    by_cases hn : t.head < 0
    · have HE := Lib.hid (show H = t.head - x by rw [HH.out, if_pos hn])
      have S3 := Lib.hid (S.set20 2 rfl (.int .i64 (t.head - x)) (by have := HBX.out; omega) (by simp only [offs, offAll, Fct.box, and_true]; omega))
      have z3 : bx + 3 ≤ (wc.setCell ⟨bx + 2, 0, none⟩ (.int .i64 (t.head - x))).heap.size := by simpa using z1
      clear S
      go_wp2_with fail
      go_meet
      case rel => exact ⟨z3, by rw [HE.out]; exact S3.out⟩
    · have HE := Lib.hid (show H = t.head by rw [HH.out, if_neg hn])
      go_wp2_with fail
      go_meet
      case rel => exact ⟨z1, by rw [HE.out]; exact S⟩
  case rest =>
  clear S z1 hh1
  obtain ⟨z1, S⟩ := hcut
  have S := S.add (.owns treeE (bx + 3) (fun b => bx + 3 ≤ b) (.slice none 0 0) []) (Elt.Own.nil _ _ _ _)
  change St w wc [.box bx #[.int .i64 t.head, .slice ao t.kids.length (t.kids.length + sp)] 45, .box (bx + 1) #[.int .i64 0, .slice none 0 0] 45, .box (bx + 2) #[.int .i64 H, .slice none 0 0] 45, .owns treeE (bx + 3) (fun b => bx + 3 ≤ b) (.slice none 0 0) []] at S
  obtain ⟨⟨x0, _⟩, x1, _⟩ := S.two 0
  go_step
  go_wp2_with fail
  clear x0 x1
  go_loopw [6] (fun i wr => ∃ (k : Nat) (o : Value), k ≤ t.kids.length ∧ i = .int .i64 k ∧ bx + 3 ≤ wr.heap.size ∧ St w wr [.box bx #[.int .i64 t.head, .slice ao t.kids.length (t.kids.length + sp)] 45, .box (bx + 1) #[.int .i64 0, .slice none 0 0] 45, .box (bx + 2) #[.int .i64 H, o] 45, .owns treeE (bx + 3) (fun b => bx + 3 ≤ b) o (shL x (t.kids.take k))]) (fun i _ => t.kids.length - (intOf i).toNat)
  case atStart => exact ⟨0, _, by omega, rfl, z1, S⟩
  case round =>
    clear S
    obtain ⟨k, o, hk, rfl, z3, S⟩ := hrel
    by_cases hlt2 : k < t.kids.length
    · have hlti2 : (k : Int) < (t.kids.length : Int) := by omega
      obtain ⟨b, off, ko, ksp, rfl, c0, c1, c2⟩ := (HR.out.below S.bel) k hlt2
      have hkm : k ≤ 1000 := by have := HTH.out.self; omega
      have HKS := Lib.hid (HTH.out.kid hlt2)
      have HKL := Lib.hid (((T.low_eq t).1 HLO.out).2 k hlt2)
      have HTT := Lib.hid (shL_take x hlt2)
      have hlk : (shL x (t.kids.take k)).length = k := by rw [shL_length]; simp; omega
      obtain ⟨⟨x0, _⟩, x1, _⟩ := S.two 0
      have SD := Lib.hid S.drew
      have HTK := Lib.hid (c2.kept (w' := wr.drew) (Below.refl _ _).drew)
      go_wp2_with fail
      obtain ⟨⟨y0, _⟩, y1, _⟩ := SD.out.two 2
      obtain ⟨⟨v0, _⟩, v1, _⟩ := SD.out.two 0
      have d0 : wr.drew.cell? ⟨b, off + k * 2, none⟩ = some (.int .i64 (gK t.kids k).head) := c0
      have d1 : wr.drew.cell? ⟨b, off + k * 2 + 1, none⟩ = some (.slice ko (gK t.kids k).kids.length ((gK t.kids k).kids.length + ksp)) := c1
      clear c0 c1 c2 x0 x1 S
      go_region_law (first
        | (refine step_app (by rfl) (.tmp 26) (.tmp 34) 43 (by rfl) treeE S2 3 rfl (x := shT x (gK t.kids k)) (q := fun b => wr.heap.size ≤ b ∧ b < w2.heap.size) (p' := fun b => bx + 3 ≤ b) ⟨ka2, sa2, rfl, S2.tree 4⟩ Tryd.underlying43 gi gz0 gz1 gz2 (by rfl) (by rfl) (by rfl) (by rfl) (by unfold maxLen; omega) (by omega) (by omega) (by have := HBX.out; omega)
            (fun bb h1 h2 h3 => by have h4 := (SD.out.ownlt treeE 3 rfl bb h1).2; have h4 : bb < wr.heap.size := h4; have h6 : wr.drew.heap.size = wr.heap.size := rfl; simp only [fsnoc, offs, offAll, Fct.box, Fct.tree, and_true]; omega) (fun bb h1 h2 => by have h4 : bb < wr.heap.size := (SD.out.ownlt treeE 3 rfl bb h2).2; have h5 := h1.1; omega) (fun bb h1 => by rcases h1 with h1 | h1; exact h1; have h5 := h1.1; omega) ?_; intro gg cap w3 S3 hs3 hgg hat3; obtain ⟨⟨u0, u1⟩, u2, u3⟩ := S3.two 2; have hl3 := S3.lt 2)
        | (go_simp; go_at_call 13; refine (SD.out.made (IH.out k hlt2 _ _ HTK.out HKL.out HKS.out)).mono ?_; rintro e w2 ⟨ka2, sa2, rfl, hz2, S2⟩; have hz2 : wr.heap.size ≤ w2.heap.size := hz2; have hlo2 := S2.lt 2; have hlo0 := S2.lt 0; obtain ⟨⟨z0, _⟩, z1, _⟩ := S2.two 2; obtain ⟨⟨q0, _⟩, q1, _⟩ := S2.two 0))
      all_goals
        have S4 := (S3.set21 2 rfl (.slice (some ⟨gg, 0, none⟩) ((shL x (t.kids.take k)).length + 1) cap) (by have := HBX.out; omega) (by simp only [fset, fsnoc, offs, offAll, Fct.box, Fct.tree, and_true]; have := S3.ownlt treeE 3; have h7 : w2.heap.size ≤ w3.heap.size := hs3; have h6 : wr.drew.heap.size = wr.heap.size := rfl; refine ⟨by omega, by omega, fun e => ?_, by omega⟩; rcases e with e | e; have h8 := (S3.ownlt treeE 3 rfl (bx + 2) e).1; omega; omega)).pick [0, 1, 2, 3]
        rw [← HTT.out, hlk] at S4
        have S5 := Lib.hid S4
        clear S4 S3 S2 y0 y1 v0 v1 d0 d1 z0 z1 q0 q1
        go_wp2_with fail
        go_roundw
        case rel => exact ⟨k + 1, _, by omega, by go_num, by simp; omega, S5.out⟩
        case measure => simp [intOf] <;> omega
    · obtain rfl : k = t.kids.length := by omega
      rw [List.take_length] at S
      obtain ⟨ro, rsp, rfl, hrow, hml2⟩ := (S.owns treeE 3).row (fun b h => h)
      have HT := Lib.hid hrow
      have SB := Lib.hid S
      obtain ⟨⟨x0, _⟩, x1, _⟩ := S.two 0
      obtain ⟨⟨y0, y1⟩, y2, y3⟩ := S.two 1
      obtain ⟨⟨v0, _⟩, v1, _⟩ := S.two 2
      have hl1 := S.lt 1
      clear hrow S
      go_wp2_with fail
      refine ret_box2 (.int .i64 H) (.slice ro (shL x t.kids).length ((shL x t.kids).length + rsp)) (bx + 1) 45 (box2_set (SB.out.block 1) _ _) (fun w' q0 q1 => by simp [results, Tryd.results13, go_sem, q0, q1]) rfl ?_
      refine ⟨_, rfl, ?_, ((SB.out.bel.setCell (p := ⟨bx + 1, 0, none⟩) (by have := HBX.out; show w.heap.size ≤ bx + 1; omega) _).setCell (p := ⟨bx + 1, 1, none⟩) (by have := HBX.out; show w.heap.size ≤ bx + 1; omega) _)⟩
      rw [HTR.out]
      have h8 := TreeP.close (h := H) (sp := rsp) HT.out.rowP hml2
      exact ((h8.setCell (a := ⟨bx + 1, 0, none⟩) (by simp) _).setCell (a := ⟨bx + 1, 1, none⟩) (by simp) _).mono (fun b h _ => by have := HBX.out; omega)

end Go.Proofs.YtidgnbdlfngeaaaDoor
