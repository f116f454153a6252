/-
  Walks: a tree whose variables are numbered by a list.
-/
import Derived.Test.YtlhnfdjidjgfgaaProg
import Derived.Test.YtlhnfdjidjgfgaaE6
import Derived.Test.YtlhnfdjidjgfgaaXb
import Derived.Deep.RegionLaw
import Derived.RegionTactic
namespace Go.Proofs.Ytlhnfdjidjgfgaa
open Go.RowKit Go.Shelf
set_option linter.unusedVariables false
set_option maxHeartbeats 400000

def renH (l : List Int) (h : Int) : Nat → Int
  | 0 => h
  | n + 1 => if gI l n = h then -(n : Int) - 1 else renH l h n
mutual
def T.renum (l : List Int) : T → T
  | .node h ks => .node (renH l h l.length) (renumL l ks)
def renumL (l : List Int) : List T → List T
  | [] => []
  | t :: r => t.renum l :: renumL l r
end
theorem renumL_append (l : List Int) : ∀ (a b : List T), renumL l (a ++ b) = renumL l a ++ renumL l b
  | [], b => rfl
  | t :: r, b => by simp [renumL, renumL_append l r b]
theorem renumL_take (l : List Int) {ks : List T} {k : Nat} (h : k < ks.length) : renumL l (ks.take (k + 1)) = renumL l (ks.take k) ++ [(gK ks k).renum l] := by
  rw [take_gK h, renumL_append]; rfl
theorem renumL_length (l : List Int) : ∀ (ks : List T), (renumL l ks).length = ks.length
  | [] => rfl
  | t :: r => by simp [renumL, renumL_length l r]
theorem T.renum_eq (l : List Int) (t : T) : t.renum l = .node (renH l t.head l.length) (renumL l t.kids) := by cases t; rfl

theorem Elt.Row.rowP {p : Nat → Prop} {w : World} {ao : Option Addr} {ks : List T} (h : treeE.Row p w ao ks) : RowP p w ao ks := fun i hi => by
  obtain ⟨b, off, k, sp, e, hp, h1, h2, h3⟩ := h.tree hi
  rw [gK_get hi]
  exact ⟨b, off, k, sp, e, hp, h1, h2, h3⟩
theorem RowP.elt {p : Nat → Prop} {w : World} {ao : Option Addr} {ks : List T} (h : RowP p w ao ks) : treeE.Row p w ao ks := fun i x hx => by
  obtain ⟨hi, rfl⟩ := List.getElem?_eq_some_iff.1 hx
  obtain ⟨b, off, k, sp, e, hp, h1, h2, h3⟩ := h i hi
  rw [gK_get hi] at h1 h2 h3
  refine ⟨b, off, _, e, hp, fun j u hu => ?_, k, sp, rfl, h3⟩
  match j with
  | 0 => simp at hu; subst hu; exact h1
  | 1 => simp at hu; subst hu; exact h2
  | j + 2 => simp at hu

set_option maxRecDepth 100000 in
set_option maxHeartbeats 4000000 in
theorem renumbered69 (l : List Int) (hl : l.length ≤ 100000000) (t : T) : ∀ (p q : Nat → Prop) (w : World) (v : Value) (lo : Option Addr) (lc : Nat), TreeP p w v t → intE.Row q w lo l → t.size ≤ 100000000 →
    Calls Try.prog 98 #[v, .slice lo l.length lc] w fun e w' => ∃ u, e = .returned u ∧ TreeP (fun b => w.heap.size ≤ b) w' u (t.renum l) ∧ Below w.heap.size w w' := by
  induction t using T.ind with
  | h t ih =>
  intro p q w v lo lc ht hil hsz
  obtain ⟨ao, sp, rfl, hr, hml⟩ := ht.open
  have hml : t.kids.length ≤ 9223372036854775807 := hml
  have HR := Lib.hid hr; have IH := Lib.hid ih; have HI := Lib.hid hil; have HSZ := Lib.hid hsz
  have HTR := Lib.hid (t.renum_eq l)
  clear ht hr ih hil hsz
  obtain ⟨i44, gi, gz0, gz1, gz2⟩ := info_parts info44
  obtain ⟨bx, hbx⟩ : ∃ b, b = w.heap.size := ⟨_, rfl⟩
  have S1 := (((St.start w).box hbx.symm #[.int .i64 t.head, .slice ao t.kids.length (t.kids.length + sp)] 38).box (b := bx + 1) (by simp [hbx]) #[.int .i64 0, .slice none 0 0] 38).box (b := bx + 2) (by simp [hbx]) #[.int .i64 t.head, .slice none 0 0] 38
  have hsz1 : (((w.alloc (.cells #[.int .i64 t.head, .slice ao t.kids.length (t.kids.length + sp)] 38)).alloc (.cells #[.int .i64 0, .slice none 0 0] 38)).alloc (.cells #[.int .i64 t.head, .slice none 0 0] 38)).heap.size = bx + 3 := by simp [hbx]
  go_enter Try.func98, Try.ntmps98
  go_wp2_with fail
  rw [← hbx]
  refine S1.genC (z := bx + 3) (by omega) ?_
  intro w1 z1 S
  have HBX := Lib.hid hbx
  clear S1 hbx hsz1
  change St w w1 [.box bx _ 38, .box (bx + 1) _ 38, .box (bx + 2) #[.int .i64 t.head, .slice none 0 0] 38] at S
  go_loopw [6] (fun i wr => ∃ k : Nat, k ≤ l.length ∧ i = .int .i64 k ∧ bx + 3 ≤ wr.heap.size ∧ St w wr [.box bx #[.int .i64 t.head, .slice ao t.kids.length (t.kids.length + sp)] 38, .box (bx + 1) #[.int .i64 0, .slice none 0 0] 38, .box (bx + 2) #[.int .i64 (renH l t.head k), .slice none 0 0] 38]) (fun i _ => l.length - (intOf i).toNat)
  case atStart => exact ⟨0, by omega, rfl, z1, S⟩
  case round =>
    clear S
    obtain ⟨k, hk, rfl, z2, S⟩ := hrel
    by_cases hlt : k < l.length
    · have hlti : (k : Int) < (l.length : Int) := by omega
      obtain ⟨⟨x0, _⟩, x1, _⟩ := S.two 0
      obtain ⟨b, off, rfl, _, c0⟩ := (HI.out.kept S.bel).int hlt
      have r0 := cell_regrown x0; have r1 := cell_regrown c0
      go_wp2_with fail
      refine wp_region_quiet_below (by kernel_rfl) (by kernel_rfl) ?_
      repeat (go_big_quiet_step (fail))
      refine wpQuiet_nil ?_
      intro _ hw'
      obtain ⟨⟨dq, osq⟩, hw''⟩ := hw'
      subst hw''
      refine (S.regrown dq osq).genX (z := bx + 3) (Nat.le_trans z2 (below_regrown wr dq osq).size) ?_
      intro w2 z3 S2
      clear r0 r1 S x0 x1 c0
      by_cases he : l[k] = t.head
      · have heb : (l[k] == t.head) = true := by simp [he]
        have S3 := Lib.hid (S2.set20 2 rfl (.int .i64 (-(k : Int) - 1)) (by have := HBX.out; omega) (by simp only [offs, offAll, Fct.box, and_true]; omega))
        have HN := Lib.hid (show renH l t.head (k + 1) = -(k : Int) - 1 by rw [renH, if_pos (by rw [gI_get hlt]; exact he)])
        obtain ⟨⟨y0, y1⟩, y2, y3⟩ := S2.two 2
        have hl2 := S2.lt 2
        clear S2 he
        go_wp2_with fail
        go_roundw
        case rel => exact ⟨k + 1, by omega, by go_num, by simpa using z3, by rw [HN.out]; exact S3.out⟩
        case measure => simp [intOf] <;> omega
      · have heb : (l[k] == t.head) = false := by simp [he]
        have HN := Lib.hid (show renH l t.head (k + 1) = renH l t.head k by rw [renH, if_neg (by rw [gI_get hlt]; exact he)])
        clear he
        go_wp2_with fail
        go_roundw
        case rel => exact ⟨k + 1, by omega, by go_num, z3, by rw [HN.out]; exact S2⟩
        case measure => simp [intOf] <;> omega
    · obtain rfl : k = l.length := by omega
      obtain ⟨H, hH⟩ : ∃ H, H = renH l t.head l.length := ⟨_, rfl⟩
      rw [← hH] at S HTR
      clear hH
      have S := S.add (.owns treeE (bx + 3) (fun b => bx + 3 ≤ b) (.slice none 0 0) []) (Elt.Own.nil _ _ _ _)
      change St w wr [.box bx _ 38, .box (bx + 1) _ 38, .box (bx + 2) _ 38, .owns treeE (bx + 3) (fun b => bx + 3 ≤ b) (.slice none 0 0) []] at S
      go_wp2_with fail
      go_loopw [7] (fun i wr => ∃ (k : Nat) (o : Value), k ≤ t.kids.length ∧ i = .int .i64 k ∧ bx + 3 ≤ wr.heap.size ∧ St w wr [.box bx #[.int .i64 t.head, .slice ao t.kids.length (t.kids.length + sp)] 38, .box (bx + 1) #[.int .i64 0, .slice none 0 0] 38, .box (bx + 2) #[.int .i64 H, o] 38, .owns treeE (bx + 3) (fun b => bx + 3 ≤ b) o (renumL l (t.kids.take k))]) (fun i _ => t.kids.length - (intOf i).toNat)
      case atStart => exact ⟨0, _, by omega, rfl, z2, S⟩
      case round =>
        clear S
        obtain ⟨k, o, hk, rfl, z3, S⟩ := hrel
        by_cases hlt2 : k < t.kids.length
        · have hlti2 : (k : Int) < (t.kids.length : Int) := by omega
          obtain ⟨b, off, ko, ksp, rfl, _, c0, c1, c2⟩ := (HR.out.kept S.bel) k hlt2
          have hkm : k ≤ 100000000 := by have h1 := length_le_sizeL t.kids; have h2 := HSZ.out; rw [T.size_eq] at h2; omega
          have HKS := Lib.hid (show (gK t.kids k).size ≤ 100000000 by have h1 := kid_size hlt2; have h2 := HSZ.out; rw [T.size_eq] at h2; omega)
          have HTT := Lib.hid (renumL_take l hlt2)
          have hlk : (renumL l (t.kids.take k)).length = k := by rw [renumL_length]; simp; omega
          have SD := Lib.hid S.drew
          have HTK := Lib.hid (c2.kept (w' := wr.drew) (Below.refl _ _).drew)
          have HIR := Lib.hid (HI.out.kept SD.out.bel)
          obtain ⟨⟨x0, _⟩, x1, _⟩ := S.two 0
          go_wp2_with fail
          obtain ⟨⟨y0, _⟩, y1, _⟩ := SD.out.two 2
          obtain ⟨⟨v0, _⟩, v1, _⟩ := SD.out.two 0
          have d0 : wr.drew.cell? ⟨b, off + k * 2, none⟩ = some (.int .i64 (gK t.kids k).head) := c0
          have d1 : wr.drew.cell? ⟨b, off + k * 2 + 1, none⟩ = some (.slice ko (gK t.kids k).kids.length ((gK t.kids k).kids.length + ksp)) := c1
          clear c0 c1 c2 x0 x1 S
          go_region_law (first
            | (refine step_app (by rfl) (.tmp 36) (.tmp 44) 32 (by rfl) treeE S2 3 rfl (x := (gK t.kids k).renum l) (q := fun b => wr.heap.size ≤ b ∧ b < w2.heap.size) (p' := fun b => bx + 3 ≤ b) ⟨ka2, sa2, rfl, S2.tree 4⟩ Try.underlying32 gi gz0 gz1 gz2 (by rfl) (by rfl) (by rfl) (by rfl) (by unfold maxLen; omega) (by omega) (by omega) (by have := HBX.out; omega)
                (fun bb h1 h2 h3 => by have h4 := (SD.out.ownlt treeE 3 rfl bb h1).2; have h4 : bb < wr.heap.size := h4; have h6 : wr.drew.heap.size = wr.heap.size := rfl; simp only [fsnoc, offs, offAll, Fct.box, Fct.tree, and_true]; omega) (fun bb h1 h2 => by have h4 : bb < wr.heap.size := (SD.out.ownlt treeE 3 rfl bb h2).2; have h5 := h1.1; omega) (fun bb h1 => by rcases h1 with h1 | h1; exact h1; have h5 := h1.1; omega) ?_; intro gg cap w3 S3 hs3 hgg hat3; obtain ⟨⟨u0, u1⟩, u2, u3⟩ := S3.two 2; have hl3 := S3.lt 2)
            | (go_simp; go_at_call 98; refine (SD.out.made (IH.out k hlt2 p q _ _ lo lc HTK.out HIR.out HKS.out)).mono ?_; rintro e w2 ⟨ka2, sa2, rfl, hz2, S2⟩; have hz2 : wr.heap.size ≤ w2.heap.size := hz2; have hlo2 := S2.lt 2; have hlo0 := S2.lt 0; obtain ⟨⟨z0, _⟩, z1, _⟩ := S2.two 2; obtain ⟨⟨q0, _⟩, q1, _⟩ := S2.two 0))
          all_goals
            have S4 := (S3.set21 2 rfl (.slice (some ⟨gg, 0, none⟩) ((renumL l (t.kids.take k)).length + 1) cap) (by have := HBX.out; omega) (by simp only [fset, fsnoc, offs, offAll, Fct.box, Fct.tree, and_true]; have := S3.ownlt treeE 3; have h7 : w2.heap.size ≤ w3.heap.size := hs3; have h6 : wr.drew.heap.size = wr.heap.size := rfl; refine ⟨by omega, by omega, fun e => ?_, by omega⟩; rcases e with e | e; have h8 := (S3.ownlt treeE 3 rfl (bx + 2) e).1; omega; omega)).pick [0, 1, 2, 3]
            rw [← HTT.out, hlk] at S4
            have S5 := Lib.hid S4
            clear S4 S3 S2 y0 y1 v0 v1 d0 d1 z0 z1 q0 q1
            go_wp2_with fail
            go_roundw
            case rel => exact ⟨k + 1, _, by omega, by go_num, by simp; omega, S5.out⟩
            case measure => simp [intOf] <;> omega
        · obtain rfl : k = t.kids.length := by omega
          rw [List.take_length] at S
          obtain ⟨ro, rsp, rfl, hrow, hml2⟩ := (S.owns treeE 3).row (fun b h => h)
          have HT := Lib.hid hrow
          have SB := Lib.hid S
          obtain ⟨⟨x0, _⟩, x1, _⟩ := S.two 0
          obtain ⟨⟨y0, y1⟩, y2, y3⟩ := S.two 1
          obtain ⟨⟨v0, _⟩, v1, _⟩ := S.two 2
          have hl1 := S.lt 1
          clear hrow S
          go_wp2_with fail
          refine ret_box2 (.int .i64 H) (.slice ro (renumL l t.kids).length ((renumL l t.kids).length + rsp)) (bx + 1) 38 (box2_set (SB.out.block 1) _ _) (fun w' q0 q1 => by simp [results, Try.results98, go_sem, q0, q1]) rfl ?_
          refine ⟨_, rfl, ?_, ((SB.out.bel.setCell (p := ⟨bx + 1, 0, none⟩) (by have := HBX.out; show w.heap.size ≤ bx + 1; omega) _).setCell (p := ⟨bx + 1, 1, none⟩) (by have := HBX.out; show w.heap.size ≤ bx + 1; omega) _)⟩
          rw [HTR.out]
          have h8 := TreeP.close (h := H) (sp := rsp) HT.out.rowP hml2
          exact ((h8.setCell (a := ⟨bx + 1, 0, none⟩) (by simp) _).setCell (a := ⟨bx + 1, 1, none⟩) (by simp) _).mono (fun b h _ => by have := HBX.out; omega)
end Go.Proofs.Ytlhnfdjidjgfgaa
