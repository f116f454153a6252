/-
  Walks: one variable out of a tree, another tree in its place.
-/
import Derived.Test.YtlhnfdjidjgfgaaProg
import Derived.Test.YtlhnfdjidjgfgaaM2
import Derived.Test.YtlhnfdjidjgfgaaXb
import Derived.Deep.RegionLaw
import Derived.RegionTactic
namespace Go.Proofs.Ytlhnfdjidjgfgaa
open Go.RowKit Go.Shelf
set_option linter.unusedVariables false
set_option maxHeartbeats 400000

mutual
def outT (x : Int) (s : T) : T → T
  | .node h ks => if h = x then s else .node h (outL x s ks)
def outL (x : Int) (s : T) : List T → List T
  | [] => []
  | t :: r => outT x s t :: outL x s r
end
theorem outL_append (x : Int) (s : T) : ∀ (a b : List T), outL x s (a ++ b) = outL x s a ++ outL x s b
  | [], b => rfl
  | t :: r, b => by simp [outL, outL_append x s r b]
theorem outL_take (x : Int) (s : T) {ks : List T} {k : Nat} (h : k < ks.length) : outL x s (ks.take (k + 1)) = outL x s (ks.take k) ++ [outT x s (gK ks k)] := by
  rw [take_gK h, outL_append]; rfl
theorem outL_length (x : Int) (s : T) : ∀ (ks : List T), (outL x s ks).length = ks.length
  | [] => rfl
  | t :: r => by simp [outL, outL_length x s r]
theorem outT_eq (x : Int) (s : T) (t : T) : outT x s t = if t.head = x then s else .node t.head (outL x s t.kids) := by cases t; rw [outT]; rfl
/-- no node has a thousand kids -/
def T.thin (t : T) : Prop := ∀ z ∈ t.pre, z.kids.length ≤ 1000
theorem T.thin.kid {t : T} (h : t.thin) {i : Nat} (hi : i < t.kids.length) : (gK t.kids i).thin := fun z hz => h z (by rw [T.pre_eq]; exact List.mem_cons_of_mem _ (kid_pre_mem hi hz))
theorem T.thin.self {t : T} (h : t.thin) : t.kids.length ≤ 1000 := h t (by rw [T.pre_eq]; simp)

set_option maxRecDepth 100000 in
set_option maxHeartbeats 4000000 in
theorem out86 (x : Int) (s : T) (p0 : Nat → Prop) (t : T) : ∀ (v sv : Value) (w : World), (∀ b, p0 b → b < w.heap.size) → TreeP p0 w v t → TreeP p0 w sv s → t.thin →
    Calls Try.prog 86 #[v, .int .i64 x, sv] w fun e w' => ∃ u, e = .returned u ∧ TreeP (fun b => p0 b ∨ w.heap.size ≤ b) w' u (outT x s t) ∧ Below w.heap.size w w' := by
  induction t using T.ind with
  | h t ih =>
  intro v sv w hp0 ht hs hth
  obtain ⟨ao, sp, rfl, hr, hml⟩ := ht.open
  obtain ⟨so, ssp, rfl⟩ := hs.at.form
  have hml : t.kids.length ≤ 9223372036854775807 := hml
  have HR := Lib.hid hr; have IH := Lib.hid ih; have HS := Lib.hid hs; have HP0 := Lib.hid hp0; have HTH := Lib.hid hth
  have HTR := Lib.hid (outT_eq x s t)
  clear ht hr ih hs hp0 hth
  obtain ⟨i44, gi, gz0, gz1, gz2⟩ := info_parts info44
  obtain ⟨bx, hbx⟩ : ∃ b, b = w.heap.size := ⟨_, rfl⟩
  have S0 := ((St.start w).box hbx.symm #[.int .i64 t.head, .slice ao t.kids.length (t.kids.length + sp)] 38).box (b := bx + 1) (by simp [hbx]) #[.int .i64 s.head, .slice so s.kids.length (s.kids.length + ssp)] 38
  cases hh : (t.head == x) with
  | true =>
    have HH := Lib.hid (show t.head = x by simpa using hh)
    obtain ⟨⟨x0, _⟩, x1, _⟩ := S0.two 1
    have S1 := S0.box (b := bx + 2) (by simp [hbx]) #[.int .i64 s.head, .slice so s.kids.length (s.kids.length + ssp)] 38
    have hbx2 := hbx
    subst hbx2
    clear hbx
    go_enter Try.func86, Try.ntmps86
    go_wp2_with fail
    refine ret_box2 (.int .i64 s.head) (.slice so s.kids.length (s.kids.length + ssp)) (w.heap.size + 2) 38 (S1.block 2) (fun w' q0 q1 => by simp [results, Try.results86, go_sem, q0, q1]) rfl ⟨_, rfl, ?_, S1.bel⟩
    rw [HTR.out, if_pos HH.out]
    exact (HS.out.mono (fun b h _ => .inl h)).kept S1.bel
  | false =>
    have HH := Lib.hid (show ¬ t.head = x by simpa using hh)
    have S1 := (S0.box (b := bx + 2) (by simp [hbx]) #[.int .i64 0, .slice none 0 0] 38).box (b := bx + 3) (by simp [hbx]) #[.int .i64 t.head, .slice none 0 0] 38
    have hsz1 : ((((w.alloc (.cells #[.int .i64 t.head, .slice ao t.kids.length (t.kids.length + sp)] 38)).alloc (.cells #[.int .i64 s.head, .slice so s.kids.length (s.kids.length + ssp)] 38)).alloc (.cells #[.int .i64 0, .slice none 0 0] 38)).alloc (.cells #[.int .i64 t.head, .slice none 0 0] 38)).heap.size = bx + 4 := by simp [hbx]
    obtain ⟨⟨x0, _⟩, x1, _⟩ := S0.two 0
    go_enter Try.func86, Try.ntmps86
    go_wp2_with fail
    rw [← hbx]
    refine S1.genC (z := bx + 4) (by omega) ?_
    intro w1 z1 S
    have HBX := Lib.hid hbx
    clear S0 S1 hbx hsz1 x0 x1 hh
    have S := S.add (.owns treeE (bx + 4) (fun b => p0 b ∨ bx + 4 ≤ b) (.slice none 0 0) []) (Elt.Own.nil _ _ _ _)
    change St w w1 [.box bx _ 38, .box (bx + 1) _ 38, .box (bx + 2) _ 38, .box (bx + 3) _ 38, .owns treeE (bx + 4) (fun b => p0 b ∨ bx + 4 ≤ b) (.slice none 0 0) []] at S
    go_loopw [8] (fun i wr => ∃ (k : Nat) (o : Value), k ≤ t.kids.length ∧ i = .int .i64 k ∧ bx + 4 ≤ wr.heap.size ∧ St w wr [.box bx #[.int .i64 t.head, .slice ao t.kids.length (t.kids.length + sp)] 38, .box (bx + 1) #[.int .i64 s.head, .slice so s.kids.length (s.kids.length + ssp)] 38, .box (bx + 2) #[.int .i64 0, .slice none 0 0] 38, .box (bx + 3) #[.int .i64 t.head, o] 38, .owns treeE (bx + 4) (fun b => p0 b ∨ bx + 4 ≤ b) o (outL x s (t.kids.take k))]) (fun i _ => t.kids.length - (intOf i).toNat)
    case atStart => exact ⟨0, _, by omega, rfl, z1, S⟩
    case round =>
      clear S
      obtain ⟨k, o, hk, rfl, z3, S⟩ := hrel
      by_cases hlt2 : k < t.kids.length
      · have hlti2 : (k : Int) < (t.kids.length : Int) := by omega
        obtain ⟨b, off, ko, ksp, rfl, _, c0, c1, c2⟩ := (HR.out.kept S.bel) k hlt2
        have hkm : k ≤ 1000 := by have := HTH.out.self; omega
        have HKS := Lib.hid (HTH.out.kid hlt2)
        have HTT := Lib.hid (outL_take x s hlt2)
        have hlk : (outL x s (t.kids.take k)).length = k := by rw [outL_length]; simp; omega
        have SD := Lib.hid S.drew
        have HTK := Lib.hid (c2.kept (w' := wr.drew) (Below.refl _ _).drew)
        have HSK := Lib.hid (HS.out.kept SD.out.bel)
        have HPK := Lib.hid (show ∀ b, p0 b → b < wr.drew.heap.size from fun b h => by have h1 := HP0.out b h; have h2 := HBX.out; have h3 : wr.drew.heap.size = wr.heap.size := rfl; omega)
        obtain ⟨⟨x0, _⟩, x1, _⟩ := S.two 0
        go_wp2_with fail
        obtain ⟨⟨y0, _⟩, y1, _⟩ := SD.out.two 3
        obtain ⟨⟨v0, _⟩, v1, _⟩ := SD.out.two 0
        obtain ⟨⟨s0, _⟩, s1, _⟩ := SD.out.two 1
        have d0 : wr.drew.cell? ⟨b, off + k * 2, none⟩ = some (.int .i64 (gK t.kids k).head) := c0
        have d1 : wr.drew.cell? ⟨b, off + k * 2 + 1, none⟩ = some (.slice ko (gK t.kids k).kids.length ((gK t.kids k).kids.length + ksp)) := c1
        clear c0 c1 c2 x0 x1 S
        go_region_law (first
          | (refine step_app (by rfl) (.tmp 25) (.tmp 34) 32 (by rfl) treeE S2 4 rfl (x := outT x s (gK t.kids k)) (q := fun b => p0 b ∨ (wr.heap.size ≤ b ∧ b < w2.heap.size)) (p' := fun b => p0 b ∨ bx + 4 ≤ b) ⟨ka2, sa2, rfl, S2.treeP 5⟩ Try.underlying32 gi gz0 gz1 gz2 (by rfl) (by rfl) (by rfl) (by rfl) (by unfold maxLen; omega) (by omega) (by omega) (by have := HBX.out; omega)
              (fun bb h1 h2 h3 => by have h4 := (SD.out.ownlt treeE 4 rfl bb h1).2; have h4 : bb < wr.heap.size := h4; have h6 : wr.drew.heap.size = wr.heap.size := rfl; have h7 := HBX.out; simp only [fsnoc, offs, offAll, Fct.box, Fct.treeP, and_true]; refine ⟨by omega, by omega, by omega, by omega, fun hc => ?_⟩; rcases hc with hc | hc; have := HP0.out bb hc; omega; omega) (fun bb h1 h2 => by have h4 := SD.out.ownlt treeE 4 rfl bb h2; have h5 : bb < wr.heap.size := h4.2; have h6 := h4.1; have h7 := HBX.out; rcases h1 with h1 | h1; have := HP0.out bb h1; omega; omega) (fun bb h1 => by rcases h1 with h1 | h1 | h1; exact h1; exact .inl h1; right; omega) ?_; intro gg cap w3 S3 hs3 hgg hat3; obtain ⟨⟨u0, u1⟩, u2, u3⟩ := S3.two 3; have hl3 := S3.lt 3)
          | (go_simp; go_at_call 86; refine (IH.out k hlt2 _ _ _ HPK.out HTK.out HSK.out HKS.out).mono ?_; rintro e w2 ⟨u, rfl, hu, hb2⟩; obtain ⟨ka2, sa2, rfl⟩ := hu.at.form; have hz2 : wr.heap.size ≤ w2.heap.size := hb2.size
             have S2 := (SD.out.step hb2).add (.treeP (fun b => p0 b ∨ (wr.heap.size ≤ b ∧ b < w2.heap.size)) (.agg #[.int .i64 (outT x s (gK t.kids k)).head, .slice ka2 (outT x s (gK t.kids k)).kids.length ((outT x s (gK t.kids k)).kids.length + sa2)]) (outT x s (gK t.kids k))) (hu.mono (fun b h1 h2 => by rcases h1 with h1 | h1; exact .inl h1; exact .inr ⟨h1, h2⟩))
             clear hu hb2; have hlo2 := S2.lt 3; have hlo0 := S2.lt 0; obtain ⟨⟨z0, _⟩, z1, _⟩ := S2.two 3; obtain ⟨⟨q0, _⟩, q1, _⟩ := S2.two 0))
        all_goals
          have S4 := (S3.set21 3 rfl (.slice (some ⟨gg, 0, none⟩) ((outL x s (t.kids.take k)).length + 1) cap) (by have := HBX.out; omega) (by simp only [fset, fsnoc, offs, offAll, Fct.box, Fct.treeP, Fct.owns, and_true]; have h7 : w2.heap.size ≤ w3.heap.size := hs3; have h6 : wr.drew.heap.size = wr.heap.size := rfl; have h9 := HBX.out; refine ⟨by omega, by omega, by omega, fun e => ?_, fun hc => ?_⟩; rcases e with e | e | e; have h8 := (S3.ownlt treeE 4 rfl (bx + 3) e).1; omega; have := HP0.out _ e; omega; omega; rcases hc with hc | hc; have := HP0.out _ hc; omega; omega)).pick [0, 1, 2, 3, 4]
          rw [← HTT.out, hlk] at S4
          have S5 := Lib.hid S4
          clear S4 S3 S2 y0 y1 v0 v1 s0 s1 d0 d1 z0 z1 q0 q1
          go_wp2_with fail
          go_roundw
          case rel => exact ⟨k + 1, _, by omega, by go_num, by simp; omega, S5.out⟩
          case measure => simp [intOf] <;> omega
      · obtain rfl : k = t.kids.length := by omega
        rw [List.take_length] at S
        obtain ⟨ro, rsp, rfl, hrow, hml2⟩ := (S.owns treeE 4).row (fun b h => Or.inr h)
        have HT := Lib.hid hrow
        have SB := Lib.hid S
        obtain ⟨⟨x0, _⟩, x1, _⟩ := S.two 0
        obtain ⟨⟨y0, y1⟩, y2, y3⟩ := S.two 2
        obtain ⟨⟨v0, _⟩, v1, _⟩ := S.two 3
        have hl1 := S.lt 2
        clear hrow S
        go_wp2_with fail
        refine ret_box2 (.int .i64 t.head) (.slice ro (outL x s t.kids).length ((outL x s t.kids).length + rsp)) (bx + 2) 38 (box2_set (SB.out.block 2) _ _) (fun w' q0 q1 => by simp [results, Try.results86, go_sem, q0, q1]) rfl ?_
        refine ⟨_, rfl, ?_, ((SB.out.bel.setCell (p := ⟨bx + 2, 0, none⟩) (by have := HBX.out; show w.heap.size ≤ bx + 2; omega) _).setCell (p := ⟨bx + 2, 1, none⟩) (by have := HBX.out; show w.heap.size ≤ bx + 2; omega) _)⟩
        rw [HTR.out, if_neg HH.out]
        have h8 := TreeP.close (h := t.head) (sp := rsp) HT.out.rowP hml2
        exact ((h8.setCell (a := ⟨bx + 2, 0, none⟩) (by simp; intro hc; have := HP0.out _ hc; have := HBX.out; omega) _).setCell (a := ⟨bx + 2, 1, none⟩) (by simp; intro hc; have := HP0.out _ hc; have := HBX.out; omega) _).mono (fun b h _ => by have := HBX.out; rcases h with h | h; exact .inl h; right; omega)
end Go.Proofs.Ytlhnfdjidjgfgaa
