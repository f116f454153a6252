/-
  Rows of rows of integers; slices.IndexFunc and ContainsFunc over integers, claims and facts; table.Power.
  Walks: a tree whose variables are numbered by a list.
  Plain: numbers of variables by first showing; a tree renumbered with its own order is the document's renumbered one.
  A map of the call's own from variables to numbers, as a fact of a walk's state.
  Walks: Renamer.Term.
-/
import Derived.Test.YtlhnfdjidjgfgaaProg
import Derived.Test.YtlhnfdjidjgfgaaT25
import Derived.Test.YtlhnfdjidjgfgaaPa4
import Derived.Test.YtlhnfdjidjgfgaaXb
import Derived.Test.YtlhnfdjidjgfgaaXc
import Derived.Test.YtlhnfdjidjgfgaaSt3
import Derived.RegionTactic
import Derived.IntWalk
import Derived.Lib.QuietBelow
import Derived.Deep.RegionLaw
import Derived.Maps.OwnSet
import Derived.Maps.Views
import Derived.Maps.OwnOps
import Derived.Maps.Keyed
namespace Go.Proofs.Ytlhnfdjidjgfgaa
open Go.RowKit Go.Shelf
set_option linter.unusedVariables false
set_option maxHeartbeats 400000

/-- a row of integers as an element -/
def intsE : Elt (List Int) where
  ty := 22
  n := 1
  is p w cs a := ∃ k sp, cs = [.slice k a.length (a.length + sp)] ∧ intE.Row p w k a ∧ a.length ≤ maxLen
  pos := by omega
  len := fun ⟨k, sp, e, _⟩ => by rw [e]; rfl
  one := fun ⟨k, sp, e, _⟩ u hu => by rw [e] at hu; simp at hu; subst hu; rfl
  keep := fun hk ⟨k, sp, e, h, h2⟩ => ⟨k, sp, e, h.keep hk, h2⟩
theorem Elt.Row.ints {p : Nat → Prop} {w : World} {ao : Option Addr} {cs : List (List Int)} (h : intsE.Row p w ao cs) {i : Nat} (hi : i < cs.length) : ∃ b off k sp, ao = some ⟨b, off, none⟩ ∧ p b ∧
    w.cell? ⟨b, off + i, none⟩ = some (.slice k cs[i].length (cs[i].length + sp)) ∧ intE.Row p w k cs[i] ∧ cs[i].length ≤ maxLen := by
  obtain ⟨b, off, c, e, hp, hc, k, sp, rfl, h1, h2⟩ := h i cs[i] (List.getElem?_eq_getElem hi)
  exact ⟨b, off, k, sp, e, hp, by have := hc 0 _ rfl; simpa [intsE] using this, h1, h2⟩
end Go.Proofs.Ytlhnfdjidjgfgaa
namespace Go.Proofs.Ytlhnfdjidjgfgaa
open Go.RowKit Go.Shelf
set_option linter.unusedVariables false
set_option maxHeartbeats 400000

def renH (l : List Int) (h : Int) : Nat → Int
  | 0 => h
  | n + 1 => if gI l n = h then -(n : Int) - 1 else renH l h n
mutual
def T.renum (l : List Int) : T → T
  | .node h ks => .node (renH l h l.length) (renumL l ks)
def renumL (l : List Int) : List T → List T
  | [] => []
  | t :: r => t.renum l :: renumL l r
end
theorem renumL_append (l : List Int) : ∀ (a b : List T), renumL l (a ++ b) = renumL l a ++ renumL l b
  | [], b => rfl
  | t :: r, b => by simp [renumL, renumL_append l r b]
theorem renumL_take (l : List Int) {ks : List T} {k : Nat} (h : k < ks.length) : renumL l (ks.take (k + 1)) = renumL l (ks.take k) ++ [(gK ks k).renum l] := by
  rw [take_gK h, renumL_append]; rfl
theorem renumL_length (l : List Int) : ∀ (ks : List T), (renumL l ks).length = ks.length
  | [] => rfl
  | t :: r => by simp [renumL, renumL_length l r]
theorem T.renum_eq (l : List Int) (t : T) : t.renum l = .node (renH l t.head l.length) (renumL l t.kids) := by cases t; rfl

theorem Elt.Row.rowP {p : Nat → Prop} {w : World} {ao : Option Addr} {ks : List T} (h : treeE.Row p w ao ks) : RowP p w ao ks := fun i hi => by
  obtain ⟨b, off, k, sp, e, hp, h1, h2, h3⟩ := h.tree hi
  rw [gK_get hi]
  exact ⟨b, off, k, sp, e, hp, h1, h2, h3⟩
theorem RowP.elt {p : Nat → Prop} {w : World} {ao : Option Addr} {ks : List T} (h : RowP p w ao ks) : treeE.Row p w ao ks := fun i x hx => by
  obtain ⟨hi, rfl⟩ := List.getElem?_eq_some_iff.1 hx
  obtain ⟨b, off, k, sp, e, hp, h1, h2, h3⟩ := h i hi
  rw [gK_get hi] at h1 h2 h3
  refine ⟨b, off, _, e, hp, fun j u hu => ?_, k, sp, rfl, h3⟩
  match j with
  | 0 => simp at hu; subst hu; exact h1
  | 1 => simp at hu; subst hu; exact h2
  | j + 2 => simp at hu

set_option maxRecDepth 100000 in
set_option maxHeartbeats 4000000 in
theorem renumbered69 (l : List Int) (hl : l.length ≤ 100000000) (t : T) : ∀ (p q : Nat → Prop) (w : World) (v : Value) (lo : Option Addr) (lc : Nat), TreeP p w v t → intE.Row q w lo l → t.size ≤ 100000000 →
    Calls Try.prog 98 #[v, .slice lo l.length lc] w fun e w' => ∃ u, e = .returned u ∧ TreeP (fun b => w.heap.size ≤ b) w' u (t.renum l) ∧ Below w.heap.size w w' := by
  induction t using T.ind with
  | h t ih =>
  intro p q w v lo lc ht hil hsz
  obtain ⟨ao, sp, rfl, hr, hml⟩ := ht.open
  have hml : t.kids.length ≤ 9223372036854775807 := hml
  have HR := Lib.hid hr; have IH := Lib.hid ih; have HI := Lib.hid hil; have HSZ := Lib.hid hsz
  have HTR := Lib.hid (t.renum_eq l)
  clear ht hr ih hil hsz
  obtain ⟨i44, gi, gz0, gz1, gz2⟩ := info_parts info44
  obtain ⟨bx, hbx⟩ : ∃ b, b = w.heap.size := ⟨_, rfl⟩
  have S1 := (((St.start w).box hbx.symm #[.int .i64 t.head, .slice ao t.kids.length (t.kids.length + sp)] 38).box (b := bx + 1) (by simp [hbx]) #[.int .i64 0, .slice none 0 0] 38).box (b := bx + 2) (by simp [hbx]) #[.int .i64 t.head, .slice none 0 0] 38
  have hsz1 : (((w.alloc (.cells #[.int .i64 t.head, .slice ao t.kids.length (t.kids.length + sp)] 38)).alloc (.cells #[.int .i64 0, .slice none 0 0] 38)).alloc (.cells #[.int .i64 t.head, .slice none 0 0] 38)).heap.size = bx + 3 := by simp [hbx]
  go_enter Try.func98, Try.ntmps98
  go_wp2_with fail
  rw [← hbx]
  refine S1.genC (z := bx + 3) (by omega) ?_
  intro w1 z1 S
  have HBX := Lib.hid hbx
  clear S1 hbx hsz1
  change St w w1 [.box bx _ 38, .box (bx + 1) _ 38, .box (bx + 2) #[.int .i64 t.head, .slice none 0 0] 38] at S
  go_loopw [6] (fun i wr => ∃ k : Nat, k ≤ l.length ∧ i = .int .i64 k ∧ bx + 3 ≤ wr.heap.size ∧ St w wr [.box bx #[.int .i64 t.head, .slice ao t.kids.length (t.kids.length + sp)] 38, .box (bx + 1) #[.int .i64 0, .slice none 0 0] 38, .box (bx + 2) #[.int .i64 (renH l t.head k), .slice none 0 0] 38]) (fun i _ => l.length - (intOf i).toNat)
  case atStart => exact ⟨0, by omega, rfl, z1, S⟩
  case round =>
    clear S
    obtain ⟨k, hk, rfl, z2, S⟩ := hrel
    by_cases hlt : k < l.length
    · have hlti : (k : Int) < (l.length : Int) := by omega
      obtain ⟨⟨x0, _⟩, x1, _⟩ := S.two 0
      obtain ⟨b, off, rfl, _, c0⟩ := (HI.out.kept S.bel).int hlt
      have r0 := cell_regrown x0; have r1 := cell_regrown c0
      go_wp2_with fail
      refine wp_region_quiet_below (by kernel_rfl) (by kernel_rfl) ?_
      repeat (go_big_quiet_step (fail))
      refine wpQuiet_nil ?_
      intro _ hw'
      obtain ⟨⟨dq, osq⟩, hw''⟩ := hw'
      subst hw''
      refine (S.regrown dq osq).genX (z := bx + 3) (Nat.le_trans z2 (below_regrown wr dq osq).size) ?_
      intro w2 z3 S2
      clear r0 r1 S x0 x1 c0
      by_cases he : l[k] = t.head
      · have heb : (l[k] == t.head) = true := by simp [he]
        have S3 := Lib.hid (S2.set20 2 rfl (.int .i64 (-(k : Int) - 1)) (by have := HBX.out; omega) (by simp only [offs, offAll, Fct.box, and_true]; omega))
        have HN := Lib.hid (show renH l t.head (k + 1) = -(k : Int) - 1 by rw [renH, if_pos (by rw [gI_get hlt]; exact he)])
        obtain ⟨⟨y0, y1⟩, y2, y3⟩ := S2.two 2
        have hl2 := S2.lt 2
        clear S2 he
        go_wp2_with fail
        go_roundw
        case rel => exact ⟨k + 1, by omega, by go_num, by simpa using z3, by rw [HN.out]; exact S3.out⟩
        case measure => simp [intOf] <;> omega
      · have heb : (l[k] == t.head) = false := by simp [he]
        have HN := Lib.hid (show renH l t.head (k + 1) = renH l t.head k by rw [renH, if_neg (by rw [gI_get hlt]; exact he)])
        clear he
        go_wp2_with fail
        go_roundw
        case rel => exact ⟨k + 1, by omega, by go_num, z3, by rw [HN.out]; exact S2⟩
        case measure => simp [intOf] <;> omega
    · obtain rfl : k = l.length := by omega
      obtain ⟨H, hH⟩ : ∃ H, H = renH l t.head l.length := ⟨_, rfl⟩
      rw [← hH] at S HTR
      clear hH
      have S := S.add (.owns treeE (bx + 3) (fun b => bx + 3 ≤ b) (.slice none 0 0) []) (Elt.Own.nil _ _ _ _)
      change St w wr [.box bx _ 38, .box (bx + 1) _ 38, .box (bx + 2) _ 38, .owns treeE (bx + 3) (fun b => bx + 3 ≤ b) (.slice none 0 0) []] at S
      go_wp2_with fail
      go_loopw [7] (fun i wr => ∃ (k : Nat) (o : Value), k ≤ t.kids.length ∧ i = .int .i64 k ∧ bx + 3 ≤ wr.heap.size ∧ St w wr [.box bx #[.int .i64 t.head, .slice ao t.kids.length (t.kids.length + sp)] 38, .box (bx + 1) #[.int .i64 0, .slice none 0 0] 38, .box (bx + 2) #[.int .i64 H, o] 38, .owns treeE (bx + 3) (fun b => bx + 3 ≤ b) o (renumL l (t.kids.take k))]) (fun i _ => t.kids.length - (intOf i).toNat)
      case atStart => exact ⟨0, _, by omega, rfl, z2, S⟩
      case round =>
        clear S
        obtain ⟨k, o, hk, rfl, z3, S⟩ := hrel
        by_cases hlt2 : k < t.kids.length
        · have hlti2 : (k : Int) < (t.kids.length : Int) := by omega
          obtain ⟨b, off, ko, ksp, rfl, _, c0, c1, c2⟩ := (HR.out.kept S.bel) k hlt2
          have hkm : k ≤ 100000000 := by have h1 := length_le_sizeL t.kids; have h2 := HSZ.out; rw [T.size_eq] at h2; omega
          have HKS := Lib.hid (show (gK t.kids k).size ≤ 100000000 by have h1 := kid_size hlt2; have h2 := HSZ.out; rw [T.size_eq] at h2; omega)
          have HTT := Lib.hid (renumL_take l hlt2)
          have hlk : (renumL l (t.kids.take k)).length = k := by rw [renumL_length]; simp; omega
          have SD := Lib.hid S.drew
          have HTK := Lib.hid (c2.kept (w' := wr.drew) (Below.refl _ _).drew)
          have HIR := Lib.hid (HI.out.kept SD.out.bel)
          obtain ⟨⟨x0, _⟩, x1, _⟩ := S.two 0
          go_wp2_with fail
          obtain ⟨⟨y0, _⟩, y1, _⟩ := SD.out.two 2
          obtain ⟨⟨v0, _⟩, v1, _⟩ := SD.out.two 0
          have d0 : wr.drew.cell? ⟨b, off + k * 2, none⟩ = some (.int .i64 (gK t.kids k).head) := c0
          have d1 : wr.drew.cell? ⟨b, off + k * 2 + 1, none⟩ = some (.slice ko (gK t.kids k).kids.length ((gK t.kids k).kids.length + ksp)) := c1
          clear c0 c1 c2 x0 x1 S
          go_region_law (first
            | (refine step_app (by rfl) (.tmp 36) (.tmp 44) 32 (by rfl) treeE S2 3 rfl (x := (gK t.kids k).renum l) (q := fun b => wr.heap.size ≤ b ∧ b < w2.heap.size) (p' := fun b => bx + 3 ≤ b) ⟨ka2, sa2, rfl, S2.tree 4⟩ Try.underlying32 gi gz0 gz1 gz2 (by rfl) (by rfl) (by rfl) (by rfl) (by unfold maxLen; omega) (by omega) (by omega) (by have := HBX.out; omega)
                (fun bb h1 h2 h3 => by have h4 := (SD.out.ownlt treeE 3 rfl bb h1).2; have h4 : bb < wr.heap.size := h4; have h6 : wr.drew.heap.size = wr.heap.size := rfl; simp only [fsnoc, offs, offAll, Fct.box, Fct.tree, and_true]; omega) (fun bb h1 h2 => by have h4 : bb < wr.heap.size := (SD.out.ownlt treeE 3 rfl bb h2).2; have h5 := h1.1; omega) (fun bb h1 => by rcases h1 with h1 | h1; exact h1; have h5 := h1.1; omega) ?_; intro gg cap w3 S3 hs3 hgg hat3; obtain ⟨⟨u0, u1⟩, u2, u3⟩ := S3.two 2; have hl3 := S3.lt 2)
            | (go_simp; go_at_call 98; refine (SD.out.made (IH.out k hlt2 p q _ _ lo lc HTK.out HIR.out HKS.out)).mono ?_; rintro e w2 ⟨ka2, sa2, rfl, hz2, S2⟩; have hz2 : wr.heap.size ≤ w2.heap.size := hz2; have hlo2 := S2.lt 2; have hlo0 := S2.lt 0; obtain ⟨⟨z0, _⟩, z1, _⟩ := S2.two 2; obtain ⟨⟨q0, _⟩, q1, _⟩ := S2.two 0))
          all_goals
            have S4 := (S3.set21 2 rfl (.slice (some ⟨gg, 0, none⟩) ((renumL l (t.kids.take k)).length + 1) cap) (by have := HBX.out; omega) (by simp only [fset, fsnoc, offs, offAll, Fct.box, Fct.tree, and_true]; have := S3.ownlt treeE 3; have h7 : w2.heap.size ≤ w3.heap.size := hs3; have h6 : wr.drew.heap.size = wr.heap.size := rfl; refine ⟨by omega, by omega, fun e => ?_, by omega⟩; rcases e with e | e; have h8 := (S3.ownlt treeE 3 rfl (bx + 2) e).1; omega; omega)).pick [0, 1, 2, 3]
            rw [← HTT.out, hlk] at S4
            have S5 := Lib.hid S4
            clear S4 S3 S2 y0 y1 v0 v1 d0 d1 z0 z1 q0 q1
            go_wp2_with fail
            go_roundw
            case rel => exact ⟨k + 1, _, by omega, by go_num, by simp; omega, S5.out⟩
            case measure => simp [intOf] <;> omega
        · obtain rfl : k = t.kids.length := by omega
          rw [List.take_length] at S
          obtain ⟨ro, rsp, rfl, hrow, hml2⟩ := (S.owns treeE 3).row (fun b h => h)
          have HT := Lib.hid hrow
          have SB := Lib.hid S
          obtain ⟨⟨x0, _⟩, x1, _⟩ := S.two 0
          obtain ⟨⟨y0, y1⟩, y2, y3⟩ := S.two 1
          obtain ⟨⟨v0, _⟩, v1, _⟩ := S.two 2
          have hl1 := S.lt 1
          clear hrow S
          go_wp2_with fail
          refine ret_box2 (.int .i64 H) (.slice ro (renumL l t.kids).length ((renumL l t.kids).length + rsp)) (bx + 1) 38 (box2_set (SB.out.block 1) _ _) (fun w' q0 q1 => by simp [results, Try.results98, go_sem, q0, q1]) rfl ?_
          refine ⟨_, rfl, ?_, ((SB.out.bel.setCell (p := ⟨bx + 1, 0, none⟩) (by have := HBX.out; show w.heap.size ≤ bx + 1; omega) _).setCell (p := ⟨bx + 1, 1, none⟩) (by have := HBX.out; show w.heap.size ≤ bx + 1; omega) _)⟩
          rw [HTR.out]
          have h8 := TreeP.close (h := H) (sp := rsp) HT.out.rowP hml2
          exact ((h8.setCell (a := ⟨bx + 1, 0, none⟩) (by simp) _).setCell (a := ⟨bx + 1, 1, none⟩) (by simp) _).mono (fun b h _ => by have := HBX.out; omega)
end Go.Proofs.Ytlhnfdjidjgfgaa
namespace Go.Proofs.Ytlhnfdjidjgfgaa
open Go.RowKit Go.Shelf
set_option linter.unusedVariables false

def numZ (l : List Int) (h : Int) : Nat → Int
  | 0 => 0
  | n + 1 => if gI l n = h then -(n : Int) - 1 else numZ l h n
def numL (l : List Int) (h : Int) : Int := numZ l h l.length
theorem numZ_range (l : List Int) (h : Int) : ∀ n : Nat, numZ l h n ≤ 0 ∧ -(n : Int) ≤ numZ l h n
  | 0 => by simp [numZ]
  | n + 1 => by
    have := numZ_range l h n
    rw [numZ]; split <;> omega
theorem numZ_zero (l : List Int) (h : Int) : ∀ n : Nat, numZ l h n = 0 ↔ ∀ j, j < n → gI l j ≠ h
  | 0 => by simp [numZ]
  | n + 1 => by
    have ih := numZ_zero l h n
    rw [numZ]
    split
    · rename_i e
      refine ⟨fun h1 => by omega, fun h1 => absurd e (h1 n (by omega))⟩
    · rename_i e
      rw [ih]
      refine ⟨fun h1 j hj => ?_, fun h1 j hj => h1 j (by omega)⟩
      rcases Nat.lt_succ_iff_lt_or_eq.1 hj with h2 | rfl
      · exact h1 j h2
      · exact e
theorem numL_zero (l : List Int) (h : Int) : numL l h = 0 ↔ h ∉ l := by
  unfold numL
  rw [numZ_zero]
  refine ⟨fun h1 hm => ?_, fun h1 j hj e => h1 (by rw [← e, gI_get hj]; exact List.getElem_mem hj)⟩
  obtain ⟨j, hj, e⟩ := List.getElem_of_mem hm
  exact h1 j hj (by rw [gI_get hj, e])
theorem numZ_append (l m : List Int) (h : Int) : ∀ n : Nat, n ≤ l.length → numZ (l ++ m) h n = numZ l h n
  | 0, _ => rfl
  | n + 1, hn => by
    rw [numZ, numZ, numZ_append l m h n (by omega)]
    have e : gI (l ++ m) n = gI l n := by simp [gI, List.getElem?_append_left (show n < l.length by omega)]
    rw [e]
theorem numL_snoc (l : List Int) (x h : Int) : numL (l ++ [x]) h = if x = h then -(l.length : Int) - 1 else numL l h := by
  unfold numL
  rw [List.length_append]
  show numZ (l ++ [x]) h (l.length + 1) = _
  rw [numZ, numZ_append _ _ _ _ (Nat.le_refl _)]
  have e : gI (l ++ [x]) l.length = x := by simp [gI]
  rw [e]
theorem renH_numZ (l : List Int) (h : Int) : ∀ n : Nat, renH l h n = if numZ l h n = 0 then h else numZ l h n
  | 0 => by simp [renH, numZ]
  | n + 1 => by
    rw [renH, numZ]
    by_cases e : gI l n = h
    · rw [if_pos e, if_pos e, if_neg (by omega)]
    · rw [if_neg e, if_neg e]; exact renH_numZ l h n
/-- more variables behind, none of them old -/
def Ext (l m : List Int) : Prop := ∃ r, m = l ++ r ∧ ∀ x ∈ r, x ∉ l
theorem Ext.refl (l : List Int) : Ext l l := ⟨[], by simp, fun x h => by simp at h⟩
theorem Ext.trans {a b c : List Int} (h1 : Ext a b) (h2 : Ext b c) : Ext a c := by
  obtain ⟨r, rfl, hr⟩ := h1
  obtain ⟨s, rfl, hs⟩ := h2
  refine ⟨r ++ s, by simp, fun x hx => ?_⟩
  rcases List.mem_append.1 hx with h | h
  · exact hr x h
  · exact fun e => hs x h (List.mem_append_left _ e)
theorem Ext.mem {a b : List Int} (h : Ext a b) {x : Int} (hx : x ∈ a) : x ∈ b := by
  obtain ⟨r, rfl, _⟩ := h
  exact List.mem_append_left _ hx
theorem numL_ext_aux : ∀ (r l : List Int) (h : Int), h ∉ r → numL (l ++ r) h = numL l h
  | [], l, h, _ => by simp
  | x :: r, l, h, hh => by
    have e : l ++ x :: r = (l ++ [x]) ++ r := by simp
    rw [e, numL_ext_aux r (l ++ [x]) h (fun hm => hh (List.mem_cons_of_mem _ hm)), numL_snoc, if_neg (fun e => hh (by rw [e]; simp))]
theorem Ext.num {a b : List Int} (h : Ext a b) {x : Int} (hx : x ∈ a) : numL b x = numL a x := by
  obtain ⟨r, rfl, hr⟩ := h
  exact numL_ext_aux r a x (fun hm => hr x hm hx)

mutual
/-- a tree with its variables' numbers, its variables' kids dropped -/
def T.ren (l : List Int) : T → T
  | .node h ks => if h < 0 then .node (numL l h) [] else .node h (renL l ks)
def renL (l : List Int) : List T → List T
  | [] => []
  | t :: r => t.ren l :: renL l r
end
theorem renL_append (l : List Int) : ∀ (a b : List T), renL l (a ++ b) = renL l a ++ renL l b
  | [], b => rfl
  | t :: r, b => by simp [renL, renL_append l r b]
theorem renL_length (l : List Int) : ∀ (ks : List T), (renL l ks).length = ks.length
  | [] => rfl
  | t :: r => by simp [renL, renL_length l r]
theorem T.ren_neg {l : List Int} {t : T} (h : t.head < 0) : t.ren l = .node (numL l t.head) [] := by
  cases t with | node h ks => simp only [T.ren]; exact if_pos h
theorem T.ren_pos {l : List Int} {t : T} (h : ¬ t.head < 0) : t.ren l = .node t.head (renL l t.kids) := by
  cases t with | node h ks => simp only [T.ren]; exact if_neg h

mutual
/-- all variables that order looks at are in the list -/
def T.cov (l : List Int) : T → Prop
  | .node h ks => (h < 0 → h ∈ l) ∧ (¬ h < 0 → covL l ks)
def covL (l : List Int) : List T → Prop
  | [] => True
  | t :: r => t.cov l ∧ covL l r
end
mutual
theorem T.cov_ext {a b : List Int} (h : Ext a b) : ∀ {t : T}, t.cov a → t.cov b ∧ t.ren b = t.ren a
  | .node hd ks, hc => by
    rw [T.cov] at hc
    by_cases hn : hd < 0
    · refine ⟨by rw [T.cov]; exact ⟨fun _ => h.mem (hc.1 hn), fun e => absurd hn e⟩, ?_⟩
      simp only [T.ren, if_pos hn]
      rw [h.num (hc.1 hn)]
    · have h1 := covL_ext h (hc.2 hn)
      refine ⟨by rw [T.cov]; exact ⟨fun e => absurd e hn, fun _ => h1.1⟩, ?_⟩
      simp only [T.ren, if_neg hn]
      rw [h1.2]
theorem covL_ext {a b : List Int} (h : Ext a b) : ∀ {ks : List T}, covL a ks → covL b ks ∧ renL b ks = renL a ks
  | [], _ => ⟨trivial, rfl⟩
  | t :: r, hc => by
    have h1 := T.cov_ext h hc.1
    have h2 := covL_ext h hc.2
    exact ⟨⟨h1.1, h2.1⟩, by simp only [renL]; rw [h1.2, h2.2]⟩
end
mutual
theorem T.order_ext : ∀ (t : T) (had : List Int), Ext had (t.order had) ∧ t.cov (t.order had)
  | .node h ks, had => by
    simp only [T.order, T.cov]
    by_cases hn : h < 0
    · rw [if_pos hn]
      by_cases hm : h ∈ had
      · rw [if_pos hm]
        exact ⟨Ext.refl _, fun _ => hm, fun e => absurd hn e⟩
      · rw [if_neg hm]
        exact ⟨⟨[h], rfl, fun x hx => by simp at hx; subst hx; exact hm⟩, fun _ => by simp, fun e => absurd hn e⟩
    · rw [if_neg hn]
      have := orderL_ext ks had
      exact ⟨this.1, fun e => absurd e hn, fun _ => this.2⟩
theorem orderL_ext : ∀ (l : List T) (had : List Int), Ext had (orderL l had) ∧ covL (orderL l had) l
  | [], had => ⟨Ext.refl _, trivial⟩
  | t :: r, had => by
    have h1 := T.order_ext t had
    have h2 := orderL_ext r (t.order had)
    simp only [orderL]
    exact ⟨h1.1.trans h2.1, (T.cov_ext h2.1 h1.2).1, h2.2⟩
end
theorem renL_orderL_take {l : List T} {i : Nat} (h : i < l.length) (had : List Int) :
    renL (orderL (l.take (i + 1)) had) (l.take (i + 1)) = renL (orderL (l.take i) had) (l.take i) ++ [(gK l i).ren ((gK l i).order (orderL (l.take i) had))] := by
  have e := orderL_take h had
  have h1 := T.order_ext (gK l i) (orderL (l.take i) had)
  have h2 := (orderL_ext (l.take i) had).2
  rw [e, take_gK h, renL_append, (covL_ext h1.1 h2).2]
  rfl
mutual
/-- where variables have no kids, and every variable is in the list, the document's renumbered is the same -/
theorem T.ren_renum {l : List Int} (hl : ∀ x ∈ l, x < 0) : ∀ {t : T}, t.cov l → (∀ x ∈ t.pre, x.head < 0 → x.kids = []) → t.ren l = t.renum l
  | .node h ks, hc, hk => by
    rw [T.cov] at hc
    simp only [T.ren, T.renum]
    by_cases hn : h < 0
    · have h1 : ks = [] := hk (.node h ks) (by rw [T.pre]; simp) hn
      subst h1
      rw [if_pos hn, renH_numZ]
      have h2 : numL l h ≠ 0 := fun e => (numL_zero l h).1 e (hc.1 hn)
      have h2 : ¬ numZ l h l.length = 0 := h2
      rw [if_neg h2]; rfl
    · rw [if_neg hn, renH_numZ]
      have h2 : numZ l h l.length = 0 := (numL_zero l h).2 (fun e => hn (hl h e))
      rw [if_pos h2, renL_renumL hl (hc.2 hn) (fun x hx => hk x (by rw [T.pre]; exact List.mem_cons_of_mem _ hx))]
theorem renL_renumL {l : List Int} (hl : ∀ x ∈ l, x < 0) : ∀ {ks : List T}, covL l ks → (∀ x ∈ preL ks, x.head < 0 → x.kids = []) → renL l ks = renumL l ks
  | [], _, _ => rfl
  | t :: r, hc, hk => by
    simp only [renL, renumL]
    rw [T.ren_renum hl hc.1 (fun x hx => hk x (by simp [preL, hx])), renL_renumL hl hc.2 (fun x hx => hk x (by simp [preL, hx]))]
end
mutual
theorem T.order_neg : ∀ (t : T) (had : List Int), (∀ x ∈ had, x < 0) → ∀ x ∈ t.order had, x < 0
  | .node h ks, had, hh => by
    simp only [T.order]
    by_cases hn : h < 0
    · rw [if_pos hn]
      by_cases hm : h ∈ had
      · rw [if_pos hm]; exact hh
      · rw [if_neg hm]; intro x hx
        rcases List.mem_append.1 hx with h1 | h1
        · exact hh x h1
        · simp at h1; subst h1; exact hn
    · rw [if_neg hn]; exact orderL_neg ks had hh
theorem orderL_neg : ∀ (l : List T) (had : List Int), (∀ x ∈ had, x < 0) → ∀ x ∈ orderL l had, x < 0
  | [], had, hh => hh
  | t :: r, had, hh => by simp only [orderL]; exact orderL_neg r _ (T.order_neg t had hh)
end
end Go.Proofs.Ytlhnfdjidjgfgaa
namespace Go.Proofs.Ytlhnfdjidjgfgaa
open Go.RowKit Go.Shelf Go.Maps
set_option linter.unusedVariables false

theorem law3 : Keyed Try.prog 3 := int_keyed Try.underlying3
theorem zero3 (w : World) : (zeroValue 3).run Try.prog w = .ok (.int .i64 0) w := by kernel_rfl

/-- block b is a map that holds the numbers of the list's variables -/
def MapI (b : Nat) (L : List Int) (w : World) : Prop :=
  ∃ D : DataW Unit, w.ownsMap Try.prog 3 (plainElem Try.prog 3) b L.length D ∧ Maps.Tidy D ∧ Maps.size D = L.length ∧ (∀ z : Int, D.atKey (.int .i64 z) (.lit (.int .i64 0)) = .lit (.int .i64 (numL L z))) ∧ ∀ z : Int, (Maps.has D (.int .i64 z) = true ↔ z ∈ L)
theorem MapI.made (w : World) : MapI w.heap.size [] (w.alloc (.map #[] 0)) :=
  ⟨.map [], World.ownsMap_made _ _ _ _, tidy_empty, rfl, fun z => rfl, fun z => by simp [Maps.has]⟩
theorem MapI.put {b : Nat} {L : List Int} {w1 : World} {D : DataW Unit} {z : Int} (hz : z ∉ L) (ht : Maps.Tidy D) (hs : Maps.size D = L.length) (ha : ∀ z : Int, D.atKey (.int .i64 z) (.lit (.int .i64 0)) = .lit (.int .i64 (numL L z))) (hh : ∀ z : Int, (Maps.has D (.int .i64 z) = true ↔ z ∈ L))
    (ho : w1.ownsMap Try.prog 3 (plainElem Try.prog 3) b (L.length + 1) (D.put (.int .i64 z) (.lit (.int .i64 (-(L.length : Int) - 1))))) : MapI b (L ++ [z]) w1 := by
  have hk : WideAt.IsKeyLit (.int .i64 z) := by simp [WideAt.IsKeyLit]
  have hne : ∀ y, y ≠ z → (Lit.int .i64 y) ≠ .int .i64 z := fun y h e => h (by injection e)
  refine ⟨_, by simpa using ho, ht.put hk _, ?_, fun y => ?_, fun y => ?_⟩
  · rw [size_put ht, if_neg (by rw [hh]; exact hz), hs]; simp
  · rw [numL_snoc]
    by_cases e : z = y
    · subst e; rw [if_pos rfl, atKey_put_same ht.isMap hk]
    · rw [if_neg e, atKey_put_other (hne y (fun h => e h.symm)), ha]
  · by_cases e : y = z
    · subst e; simp [has_put_same ht.isMap hk]
    · rw [has_put_other (hne y e), hh]; simp [e]

def Fct.mapI (b : Nat) (L : List Int) : Fct :=
  ⟨fun c => c = b, MapI b L, fun w w' h hm => by
    obtain ⟨D, ⟨es, clock, hb, r⟩, r2⟩ := hm
    exact ⟨D, ⟨es, clock, (h b rfl (Array.getElem?_eq_some_iff.1 hb).1).trans hb, r⟩, r2⟩⟩
theorem St.mapI {w0 w : World} {l : List Fct} (S : St w0 w l) (i : Nat) {b : Nat} {L : List Int} (h : Fct.at l i = Fct.mapI b L := by rfl) : MapI b L w := by
  have := S.2 i
  rw [h] at this; exact this
theorem MapI.lt {b : Nat} {L : List Int} {w : World} (h : MapI b L w) : b < w.heap.size := by
  obtain ⟨D, h1, _⟩ := h
  exact h1.lt
/-- a variable's number has been laid -/
theorem St.mapPut {w0 w w1 : World} {l : List Fct} (S : St w0 w l) (i : Nat) {b : Nat} {L M : List Int} (hi : Fct.at l i = Fct.mapI b L) (hm : MapI b M w1) (hg : w.grownBy w1 (some b)) (h0 : w0.heap.size ≤ b) (hoff : offs b i l) : St w0 w1 (fset l i (.mapI b M)) := by
  refine ⟨S.bel.grown hg S.size (fun c hc => by cases hc; exact h0), fun j => ?_⟩
  by_cases hj : j = i
  · subst hj
    rcases at_fset_same (.mapI b M) l j with h | h
    · rw [h]; exact hm
    · rw [h]; trivial
  · rw [at_fset_other _ _ _ _ hj]
    exact (Fct.at l j).stable w w1 (fun c hc hl => hg.block c hl (fun e => by cases e; exact offs_at hoff j hj hc)) (S.2 j)
end Go.Proofs.Ytlhnfdjidjgfgaa
namespace Go.Proofs.Ytlhnfdjidjgfgaa
open Go.RowKit Go.Shelf Go.Maps
set_option linter.unusedVariables false
set_option maxHeartbeats 400000

/-- all blocks of w but b are as they were -/
def Fct.kept (w : World) (b : Nat) : Fct :=
  ⟨fun c => c < w.heap.size ∧ c ≠ b, fun W => ∀ c, c < w.heap.size → c ≠ b → W.heap[c]? = w.heap[c]?, fun W W' h hh c h1 h2 => by
    by_cases hc : c < W.heap.size
    · exact (h c ⟨h1, h2⟩ hc).trans (hh c h1 h2)
    · have := hh c h1 h2
      rw [Array.getElem?_eq_none (by omega), eq_comm, Array.getElem?_eq_none_iff] at this
      omega⟩
theorem St.kept {w0 w : World} {l : List Fct} (S : St w0 w l) (i : Nat) {W : World} {b : Nat} (h : Fct.at l i = Fct.kept W b := by rfl) : ∀ c, c < W.heap.size → c ≠ b → w.heap[c]? = W.heap[c]? := by
  have := S.2 i
  rw [h] at this; exact this
theorem St.madeM {P : Program} {n : Nat} {a : Array Value} {w0 w : World} {l : List Fct} (S : St w0 w l) (i : Nat) {b : Nat} {L M : List Int} {R : T} (hi : Fct.at l i = .mapI b L) (hoff : offs b i l)
    (h : Calls P n a w fun e w' => ∃ u, e = .returned u ∧ TreeP (fun c => w.heap.size ≤ c) w' u R ∧ MapI b M w' ∧ (∀ c, c < w.heap.size → c ≠ b → w'.heap[c]? = w.heap[c]?) ∧ w.heap.size ≤ w'.heap.size ∧ Below w0.heap.size w0 w') :
    Calls P n a w fun e w' => ∃ k sp, e = .returned (.agg #[.int .i64 R.head, .slice k R.kids.length (R.kids.length + sp)]) ∧ w.heap.size ≤ w'.heap.size ∧
      St w0 w' (fsnoc (fset l i (.mapI b M)) (.tree w.heap.size w'.heap.size (.agg #[.int .i64 R.head, .slice k R.kids.length (R.kids.length + sp)]) R)) :=
  h.mono fun e w' ⟨u, h1, h2, h3, h4, h5, h6⟩ => by
    obtain ⟨k, sp, rfl⟩ := h2.at.form
    have S2 : St w0 w' (fset l i (.mapI b M)) := by
      refine ⟨h6, fun j => ?_⟩
      by_cases hj : j = i
      · subst hj
        rcases at_fset_same (.mapI b M) l j with h | h
        · rw [h]; exact h3
        · rw [h]; trivial
      · rw [at_fset_other _ _ _ _ hj]
        exact (Fct.at l j).stable w w' (fun c hc hl => h4 c hl (fun e => offs_at hoff j hj (e ▸ hc))) (S.2 j)
    exact ⟨k, sp, h1, h5, S2.add (.tree _ _ _ _) (h2.upto (w0 := w0))⟩
theorem MapI.look {b : Nat} {L : List Int} {w : World} (h : MapI b L w) : ∃ D : DataW Unit, w.ownsMap Try.prog 3 (plainElem Try.prog 3) b L.length D ∧ Hid (Maps.size D = L.length) ∧ (∀ z c : Int, D.atKey (.int .i64 z) (.lit (.int .i64 0)) = .lit (.int .i64 c) → c = numL L z) ∧
    ∀ (z : Int) (w1 : World), z ∉ L → w1.ownsMap Try.prog 3 (plainElem Try.prog 3) b (L.length + 1) (D.put (.int .i64 z) (.lit (.int .i64 (-(L.length : Int) - 1)))) → MapI b (L ++ [z]) w1 := by
  obtain ⟨D, h1, h2, h3, h4, h5⟩ := h
  exact ⟨D, h1, h3, fun z c hc => by rw [h4] at hc; injection hc with hc; injection hc with _ hc; exact hc.symm, fun z w1 hz ho => MapI.put hz h2 h3 h4 h5 ho⟩
def lowT (t : T) : Prop := ∀ x ∈ t.pre, -1000 ≤ x.head
theorem lowT.self {t : T} (h : lowT t) : -1000 ≤ t.head := h t (by rw [T.pre_eq]; simp)
theorem preL_mem {ks : List T} {i : Nat} (hi : i < ks.length) {x : T} (hx : x ∈ (gK ks i).pre) : x ∈ preL ks := by
  have h1 : x ∈ preL (ks.take (i + 1)) := by rw [preL_take hi]; exact List.mem_append_right _ hx
  exact (preL_take_prefix ks (i + 1)).subset h1
theorem lowT.kid {t : T} (h : lowT t) {i : Nat} (hi : i < t.kids.length) : lowT (gK t.kids i) := fun x hx => h x (by rw [T.pre_eq]; exact List.mem_cons_of_mem _ (preL_mem hi hx))
theorem wf64 {z : Int} (h1 : -9223372036854775808 ≤ z) (h2 : z ≤ 9223372036854775807) : (Lit.int .i64 z).wf = true := by
  simp only [Lit.wf, IntKind.min, IntKind.max, IntKind.signed, IntKind.bits, Bool.and_eq_true, decide_eq_true_eq, if_true]
  omega

end Go.Proofs.Ytlhnfdjidjgfgaa
