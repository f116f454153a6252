/-
  Walks: turn.Check, turn.check: rules and a tree.
  Walks: turn.Step.
  Walks: turn.Normal.
  Plain: what matching says; rewriting keeps the value of a tree.
  Plain: places in trees.
-/
import Derived.Test.YtlhnfdjidjgfgaaProg
import Derived.Test.YtlhnfdjidjgfgaaR1
import Derived.Test.YtlhnfdjidjgfgaaXe
import Derived.Test.YtlhnfdjidjgfgaaXd
import Derived.Test.YtlhnfdjidjgfgaaMp
import Derived.Test.YtlhnfdjidjgfgaaE7
import Derived.Test.YtlhnfdjidjgfgaaT29
import Derived.RegionTactic
import Derived.Test.YtlhnfdjidjgfgaaV17
import Derived.Test.YtlhnfdjidjgfgaaXc
import Derived.Test.YtlhnfdjidjgfgaaT31
namespace Go.Proofs.Ytlhnfdjidjgfgaa
open Go.RowKit Go.Shelf
set_option linter.unusedVariables false
set_option maxHeartbeats 400000

abbrev Ru := T × T
/-- a rule -/
def ruleE : Elt Ru where
  ty := 134
  n := 4
  is p w cs f := ∃ k sp k2 sp2, cs = [.int .i64 f.1.head, .slice k f.1.kids.length (f.1.kids.length + sp), .int .i64 f.2.head, .slice k2 f.2.kids.length (f.2.kids.length + sp2)] ∧
    TreeP p w (.agg #[.int .i64 f.1.head, .slice k f.1.kids.length (f.1.kids.length + sp)]) f.1 ∧ TreeP p w (.agg #[.int .i64 f.2.head, .slice k2 f.2.kids.length (f.2.kids.length + sp2)]) f.2
  pos := by omega
  len := fun ⟨k, sp, k2, sp2, e, _⟩ => by rw [e]; rfl
  one := fun ⟨k, sp, k2, sp2, e, _⟩ u hu => by rw [e] at hu; simp at hu; rcases hu with rfl | rfl | rfl | rfl <;> rfl
  keep := fun hk ⟨k, sp, k2, sp2, e, h, h2⟩ => ⟨k, sp, k2, sp2, e, h.keep hk, h2.keep hk⟩
theorem Elt.Row.rule {p : Nat → Prop} {w : World} {ao : Option Addr} {rs : List Ru} (h : ruleE.Row p w ao rs) {i : Nat} (hi : i < rs.length) : ∃ b off k sp k2 sp2, ao = some ⟨b, off, none⟩ ∧ p b ∧
    w.cell? ⟨b, off + i * 4, none⟩ = some (.int .i64 rs[i].1.head) ∧ w.cell? ⟨b, off + i * 4 + 1, none⟩ = some (.slice k rs[i].1.kids.length (rs[i].1.kids.length + sp)) ∧
    w.cell? ⟨b, off + i * 4 + 2, none⟩ = some (.int .i64 rs[i].2.head) ∧ w.cell? ⟨b, off + i * 4 + 3, none⟩ = some (.slice k2 rs[i].2.kids.length (rs[i].2.kids.length + sp2)) ∧
    TreeP p w (.agg #[.int .i64 rs[i].1.head, .slice k rs[i].1.kids.length (rs[i].1.kids.length + sp)]) rs[i].1 ∧ TreeP p w (.agg #[.int .i64 rs[i].2.head, .slice k2 rs[i].2.kids.length (rs[i].2.kids.length + sp2)]) rs[i].2 := by
  obtain ⟨b, off, cs, e, hp, hc, k, sp, k2, sp2, rfl, h1, h2⟩ := h i rs[i] (List.getElem?_eq_getElem hi)
  exact ⟨b, off, k, sp, k2, sp2, e, hp, hc 0 _ rfl, hc 1 _ rfl, hc 2 _ rfl, hc 3 _ rfl, h1, h2⟩

def firstR : List Ru → Int → Int × Int
  | [], _ => (0, 0)
  | f :: r, i => if ruleF f.1 f.2 ≠ 0 then (ruleF f.1 f.2, i) else firstR r (i + 1)
def rulesF (rs : List Ru) : Int × Int := if 30 < rs.length then (2, 0) else firstR rs 0
def checkF (rs : List Ru) (t : T) : Int × Int := if (rulesF rs).1 ≠ 0 then rulesF rs else if (treeF t).1 ≠ 0 then ((treeF t).1, -1) else (0, 0)
theorem firstR_hit : ∀ {rs : List Ru} {k : Nat} {f : Ru} {a : Int}, (∀ (j : Nat) f, j < k → rs[j]? = some f → ruleF f.1 f.2 = 0) → rs[k]? = some f → ruleF f.1 f.2 ≠ 0 → firstR rs a = (ruleF f.1 f.2, a + k)
  | [], k, f, a, _, h, _ => by simp at h
  | x :: r, 0, f, a, _, h, hc => by simp at h; subst h; simp [firstR, hc]
  | x :: r, k + 1, f, a, hno, h, hc => by
    have h0 := hno 0 x (by omega) rfl
    rw [firstR, if_neg (by simp [h0]), firstR_hit (k := k) (fun j t hj ht => hno (j + 1) t (by omega) (by simpa using ht)) (by simpa using h) hc]
    congr 1; push_cast; omega
theorem firstR_none : ∀ {rs : List Ru} {a : Int}, (∀ (j : Nat) f, j < rs.length → rs[j]? = some f → ruleF f.1 f.2 = 0) → firstR rs a = (0, 0)
  | [], _, _ => rfl
  | x :: r, a, hno => by
    have h0 := hno 0 x (by rw [List.length_cons]; omega) rfl
    rw [firstR, if_neg (by simp [h0])]
    exact firstR_none (fun j t hj ht => hno (j + 1) t (by simpa using hj) (by simpa using ht))

set_option maxRecDepth 100000 in
set_option maxHeartbeats 4000000 in
theorem rules44 (rs : List Ru) (p : Nat → Prop) (ao : Option Addr) (c : Nat) (w : World) (h : ruleE.Row p w ao rs) (hn : rs.length ≤ 1000000000) :
    Calls Try.prog 99 #[.slice ao rs.length c] w fun e w' => e = .returned (FV (rulesF rs)) ∧ Below w.heap.size w w' := by
  have HR := Lib.hid h
  obtain ⟨bx, hbx⟩ : ∃ b, b = w.heap.size := ⟨_, rfl⟩
  have S1 := (St.start w).box hbx.symm #[.int .i64 0, .int .i64 0] 29
  have hsz : (w.alloc (.cells #[.int .i64 0, .int .i64 0] 29)).heap.size = bx + 1 := by simp [hbx]
  clear h
  by_cases h30 : 30 < rs.length
  · have HF := Lib.hid (show rulesF rs = (2, 0) by unfold rulesF; rw [if_pos h30])
    have h30i : (30 : Int) < (rs.length : Int) := by omega
    have SB := Lib.hid S1
    have HBX := Lib.hid hbx
    subst hbx
    clear S1 hsz h30
    go_enter Try.func99, Try.ntmps99
    go_wp2_with fail
    have SF := (St.start w).box rfl #[.int .i64 2, .int .i64 0] 29
    refine ret_box2 (.int .i64 2) (.int .i64 0) w.heap.size 29 (SF.block 0) (fun w' q0 q1 => by simp [results, Try.results99, go_sem, q0, q1]) rfl ?_
    exact ⟨by rw [HF.out]; rfl, SF.bel⟩
  · have HF := Lib.hid (show rulesF rs = firstR rs 0 by unfold rulesF; rw [if_neg h30])
    have h30i : ¬ (30 : Int) < (rs.length : Int) := by omega
    go_enter Try.func99, Try.ntmps99
    go_wp2_with fail
    rw [← hbx]
    refine S1.genC (z := bx + 1) (by omega) ?_
    intro w1 z1 S
    have HBX := Lib.hid hbx
    clear S1 hbx hsz
    go_loopw [3, 12] (fun _ i wr => ∃ k : Nat, k ≤ rs.length ∧ i = .int .i64 k ∧ (∀ (j : Nat) f, j < k → rs[j]? = some f → ruleF f.1 f.2 = 0) ∧ bx + 1 ≤ wr.heap.size ∧ St w wr [.box bx #[.int .i64 0, .int .i64 0] 29]) (fun _ i _ => rs.length - (intOf i).toNat)
    case atStart => exact ⟨0, by omega, rfl, fun j f hj _ => by omega, z1, S⟩
    case round =>
      clear S
      obtain ⟨k, hk, rfl, hno, z2, S⟩ := hrel
      have HNO := Lib.hid hno
      clear hno
      by_cases hlt : k < rs.length
      · have hlti : (k : Int) < (rs.length : Int) := by omega
        obtain ⟨b, off, ka, sa, kb, sb, rfl, hpb, c0, c1, c2, c3, t1, t2⟩ := (HR.out.kept S.bel).rule hlt
        obtain ⟨X, hX⟩ : ∃ X, X = rs[k].1 := ⟨_, rfl⟩
        obtain ⟨Y, hY⟩ : ∃ Y, Y = rs[k].2 := ⟨_, rfl⟩
        have HXY := Lib.hid (show rs[k]? = some (X, Y) by rw [hX, hY]; exact List.getElem?_eq_getElem hlt)
        rw [← hX] at c0 c1 t1
        rw [← hY] at c2 c3 t2
        obtain ⟨bk, hbk⟩ : ∃ b, b = wr.heap.size := ⟨_, rfl⟩
        have S2 := (S.box hbk.symm #[.int .i64 X.head, .slice ka X.kids.length (X.kids.length + sa), .int .i64 Y.head, .slice kb Y.kids.length (Y.kids.length + sb)] 134)
        have T1 := Lib.hid (t1.kept ((Below.refl _ wr).alloc (Nat.le_refl _) (.cells #[.int .i64 X.head, .slice ka X.kids.length (X.kids.length + sa), .int .i64 Y.head, .slice kb Y.kids.length (Y.kids.length + sb)] 134)))
        have T2 := Lib.hid (t2.kept ((Below.refl _ wr).alloc (Nat.le_refl _) (.cells #[.int .i64 X.head, .slice ka X.kids.length (X.kids.length + sa), .int .i64 Y.head, .slice kb Y.kids.length (Y.kids.length + sb)] 134)))
        have hz2 : bx + 1 ≤ (wr.alloc (.cells #[.int .i64 X.head, .slice ka X.kids.length (X.kids.length + sa), .int .i64 Y.head, .slice kb Y.kids.length (Y.kids.length + sb)] 134)).heap.size := by simp; omega
        clear hX hY t1 t2 S hbk
        go_wp2_with fail
        refine (S2.quiet (rule90 X Y ka kb sa sb _ T1.out.at T2.out.at)).mono ?_
        rintro e w3 ⟨rfl, z3, S3⟩
        clear S2 c0 c1 c2 c3
        obtain ⟨cc, hcc⟩ : ∃ c, c = ruleF X Y := ⟨_, rfl⟩
        rw [← hcc]
        have HCC := Lib.hid hcc
        clear hcc
        by_cases hc : cc = 0
        · have hcb : (cc != 0) = false := by simp [hc]
          have HN := Lib.hid (show ∀ (j : Nat) f, j < k + 1 → rs[j]? = some f → ruleF f.1 f.2 = 0 from fun j f hj hf => by
            rcases Nat.lt_succ_iff_lt_or_eq.1 hj with h | rfl
            · exact HNO.out j f h hf
            · rw [HXY.out] at hf; obtain rfl := Option.some.inj hf
              exact HCC.out.symm.trans hc)
          have S4 := S3.pick [0]
          clear S3 hc
          go_wp2_with fail
          go_roundw
          case rel => exact ⟨k + 1, by omega, by go_num, HN.out, by omega, S4⟩
          case measure => simp [intOf] <;> omega
        · have hcb : (cc != 0) = true := by simp [hc]
          have HFI := Lib.hid (show rulesF rs = (cc, (k : Int)) by rw [HF.out, firstR_hit HNO.out HXY.out (by rw [← HCC.out]; exact hc), HCC.out]; simp)
          obtain ⟨⟨y0, y1⟩, y2, y3⟩ := S3.two 0
          have hl := S3.lt 0
          have SB := Lib.hid S3
          clear S3 hc
          go_wp2_with fail
          refine ret_box2 (.int .i64 cc) (.int .i64 k) bx 29 (box2_set (SB.out.block 0) _ _) (fun w' q0 q1 => by simp [results, Try.results99, go_sem, q0, q1]) rfl ?_
          have hx := HBX.out
          exact ⟨by rw [HFI.out]; rfl, (SB.out.bel.setCell (p := ⟨bx, 0, none⟩) (by show w.heap.size ≤ bx; omega) _).setCell (p := ⟨bx, 1, none⟩) (by show w.heap.size ≤ bx; omega) _⟩
      · obtain rfl : k = rs.length := by omega
        have HFI := Lib.hid (show rulesF rs = (0, 0) by rw [HF.out, firstR_none HNO.out])
        obtain ⟨⟨y0, y1⟩, y2, y3⟩ := S.two 0
        have hl := S.lt 0
        have SB := Lib.hid S
        clear S
        go_wp2_with fail
        refine ret_box2 (.int .i64 0) (.int .i64 0) bx 29 (box2_set (SB.out.block 0) _ _) (fun w' q0 q1 => by simp [results, Try.results99, go_sem, q0, q1]) rfl ?_
        have hx := HBX.out
        exact ⟨by rw [HFI.out]; rfl, (SB.out.bel.setCell (p := ⟨bx, 0, none⟩) (by show w.heap.size ≤ bx; omega) _).setCell (p := ⟨bx, 1, none⟩) (by show w.heap.size ≤ bx; omega) _⟩

end Go.Proofs.Ytlhnfdjidjgfgaa
namespace Go.Proofs.Ytlhnfdjidjgfgaa
open Go.RowKit Go.Shelf
set_option linter.unusedVariables false
set_option maxHeartbeats 400000

noncomputable def rootS : List Ru → T → Option T
  | [], _ => none
  | f :: r, t => match fitF f.1 t with | some b => some (f.2.sub b) | none => rootS r t
mutual
/-- one step, within first -/
noncomputable def T.step (rs : List Ru) : T → Option T
  | .node h ks => match stepL rs ks with | some l => some (.node h l) | none => rootS rs (.node h ks)
noncomputable def stepL (rs : List Ru) : List T → Option (List T)
  | [] => none
  | k :: r => match k.step rs with | some x => some (x :: r) | none => (match stepL rs r with | some l => some (k :: l) | none => none)
end
theorem T.step_eq (rs : List Ru) (t : T) : t.step rs = match stepL rs t.kids with | some l => some (.node t.head l) | none => rootS rs t := by cases t; rw [T.step]; rfl
theorem stepL_hit {rs : List Ru} : ∀ {ks : List T} {k : Nat} {x : T}, k < ks.length → (∀ j, j < k → (gK ks j).step rs = none) → (gK ks k).step rs = some x → stepL rs ks = some (ks.set k x)
  | [], k, x, h, _, _ => by simp at h
  | y :: r, 0, x, _, _, hx => by
    have hx : y.step rs = some x := by simpa [gK] using hx
    rw [stepL, hx]; rfl
  | y :: r, k + 1, x, h, hno, hx => by
    have h0 : y.step rs = none := by have := hno 0 (by omega); simpa [gK] using this
    have ih := stepL_hit (ks := r) (k := k) (x := x) (by simpa using h) (fun j hj => by have := hno (j + 1) (by omega); simpa [gK] using this) (by simpa [gK] using hx)
    rw [stepL, h0, ih]; rfl
theorem stepL_none {rs : List Ru} : ∀ {ks : List T}, (∀ j, j < ks.length → (gK ks j).step rs = none) → stepL rs ks = none
  | [], _ => by rw [stepL]
  | y :: r, hno => by
    have h0 : y.step rs = none := by have := hno 0 (by simp); simpa [gK] using this
    have ih := stepL_none (ks := r) (fun j hj => by have := hno (j + 1) (by simpa using hj); simpa [gK] using this)
    rw [stepL, h0, ih]
theorem rootS_hit {t : T} : ∀ {rs : List Ru} {k : Nat} {f : Ru} {b : List T}, (∀ (j : Nat) f, j < k → rs[j]? = some f → fitF f.1 t = none) → rs[k]? = some f → fitF f.1 t = some b → rootS rs t = some (f.2.sub b)
  | [], k, f, b, _, h, _ => by simp at h
  | x :: r, 0, f, b, _, h, hc => by simp at h; subst h; rw [rootS, hc]
  | x :: r, k + 1, f, b, hno, h, hc => by
    rw [rootS, hno 0 x (by omega) rfl]
    exact rootS_hit (k := k) (fun j f hj hf => hno (j + 1) f (by omega) (by simpa using hf)) (by simpa using h) hc
theorem rootS_none {t : T} : ∀ {rs : List Ru}, (∀ (j : Nat) f, j < rs.length → rs[j]? = some f → fitF f.1 t = none) → rootS rs t = none
  | [], _ => rfl
  | x :: r, hno => by
    rw [rootS, hno 0 x (by simp) rfl]
    exact rootS_none (fun j f hj hf => hno (j + 1) f (by simpa using hj) (by simpa using hf))
mutual
theorem T.fit_size {N : Nat} : ∀ {p t : T} {bs bs' : Nat → T}, p.fit t bs = some bs' → t.size ≤ N → (∀ i, (bs i).size ≤ N) → ∀ i, (bs' i).size ≤ N
  | .node h ks, t, bs, bs', hf, ht, hb => by
    rw [T.fit] at hf
    split at hf
    · split at hf
      · obtain rfl := Option.some.inj hf
        intro i; unfold setT; split
        · exact ht
        · exact hb i
      · split at hf
        · obtain rfl := Option.some.inj hf; exact hb
        · cases hf
    · split at hf
      · exact fitL_size hf (by have := t.size_eq; omega) hb
      · cases hf
theorem fitL_size {N : Nat} : ∀ {ks ts : List T} {bs bs' : Nat → T}, fitL ks ts bs = some bs' → sizeL ts ≤ N → (∀ i, (bs i).size ≤ N) → ∀ i, (bs' i).size ≤ N
  | [], ts, bs, bs', hf, ht, hb => by rw [fitL] at hf; obtain rfl := Option.some.inj hf; exact hb
  | k :: r, [], bs, bs', hf, ht, hb => by rw [fitL] at hf; cases hf
  | k :: r, u :: us, bs, bs', hf, ht, hb => by
    rw [fitL] at hf
    rw [sizeL] at ht
    split at hf
    · cases hf
    · rename_i b hb1
      exact fitL_size hf (by omega) (T.fit_size hb1 (by omega) hb)
end
theorem fitF_length {p t : T} {b : List T} (h : fitF p t = some b) : b.length = p.most.toNat := by
  unfold fitF at h
  obtain ⟨f, _, rfl⟩ := Option.map_eq_some_iff.1 h
  exact listT_length _ _
theorem fitLst_size {p t : T} {i : Nat} {N : Nat} (ht : t.size ≤ N) (hN : 1 ≤ N) : (gK (fitLst p t) i).size ≤ N := by
  unfold fitLst fitF
  cases hf : p.fit t (fun _ => zeroT) with
  | none => simp [gK]; exact hN
  | some bs =>
    simp only [Option.map_some, Option.getD_some]
    have h1 := T.fit_size hf ht (fun _ => hN)
    by_cases hi : i < p.most.toNat
    · rw [listT_gK hi]; exact h1 i
    · rw [show gK (listT p.most.toNat bs) i = default by simp [gK, listT, hi]]; exact hN
mutual
theorem T.sub_size {bs : List T} {N : Nat} (hN : 1 ≤ N) (hb : ∀ i, (gK bs i).size ≤ N) : ∀ t : T, (t.sub bs).size ≤ t.size * N
  | .node h ks => by
    have h0 := subL_size hN hb ks
    rw [T.sub]
    split
    · split
      · have := hb (-h - 1).toNat
        simp only [T.size]; rw [Nat.add_mul]; omega
      · have := sizeL_le_mul hN ks
        simp only [T.size]; rw [Nat.add_mul]; omega
    · simp only [T.size]; rw [Nat.add_mul]; omega
theorem subL_size {bs : List T} {N : Nat} (hN : 1 ≤ N) (hb : ∀ i, (gK bs i).size ≤ N) : ∀ ks : List T, sizeL (subL bs ks) ≤ sizeL ks * N
  | [] => by simp [subL, sizeL]
  | t :: r => by
    have h1 := T.sub_size hN hb t
    have h2 := subL_size hN hb r
    simp only [subL, sizeL]; rw [Nat.add_mul]; omega
theorem sizeL_le_mul {N : Nat} (hN : 1 ≤ N) (ks : List T) : sizeL ks ≤ sizeL ks * N := Nat.le_mul_of_pos_right _ (by omega)
end
theorem rootS_size {t x : T} : ∀ {rs : List Ru}, (∀ (i : Nat) f, rs[i]? = some f → f.2.size ≤ 40) → rootS rs t = some x → x.size ≤ 40 * t.size
  | [], _, h => by cases h
  | f :: r, hs, h => by
    rw [rootS] at h
    split at h
    · rename_i b hb
      obtain rfl := Option.some.inj h
      have h1 := T.sub_size (bs := b) (N := t.size) t.size_pos (fun i => by
        have := fitLst_size (p := f.1) (t := t) (i := i) (Nat.le_refl _) t.size_pos
        unfold fitLst at this; rw [hb] at this; exact this) f.2
      have h2 := hs 0 f rfl
      exact Nat.le_trans h1 (Nat.mul_le_mul_right _ h2)
    · exact rootS_size (fun i f hf => hs (i + 1) f (by simpa using hf)) h
mutual
theorem T.step_size {rs : List Ru} (hs : ∀ (i : Nat) f, rs[i]? = some f → f.2.size ≤ 40) : ∀ {t x : T}, t.step rs = some x → x.size ≤ 40 * t.size
  | .node h ks, x, hx => by
    rw [T.step] at hx
    split at hx
    · rename_i l hl
      obtain rfl := Option.some.inj hx
      have := stepL_size hs hl
      simp only [T.size]; omega
    · exact rootS_size hs hx
theorem stepL_size {rs : List Ru} (hs : ∀ (i : Nat) f, rs[i]? = some f → f.2.size ≤ 40) : ∀ {ks l : List T}, stepL rs ks = some l → sizeL l ≤ 40 * sizeL ks
  | [], l, h => by rw [stepL] at h; cases h
  | k :: r, l, h => by
    rw [stepL] at h
    split at h
    · rename_i x hx
      obtain rfl := Option.some.inj h
      have := T.step_size hs hx
      simp only [sizeL]; omega
    · split at h
      · rename_i l' hl
        obtain rfl := Option.some.inj h
        have := stepL_size hs hl
        simp only [sizeL]; omega
      · cases h
end
/-- what a step hands back -/
def RStepP (p0 : Nat → Prop) (R : T) (ok : Bool) (w : World) (e : Ending) (w' : World) : Prop :=
  ∃ u, e = .returned (.tuple #[u, .bool ok]) ∧ TreeP (fun b => p0 b ∨ w.heap.size ≤ b) w' u R ∧ Below w.heap.size w w'
theorem St.stepped {P : Program} {n : Nat} {a : Array Value} {w0 w : World} {l : List Fct} (S : St w0 w l) {p0 : Nat → Prop} {R : T} {ok : Bool} (h : Calls P n a w (RStepP p0 R ok w)) :
    Calls P n a w fun e w' => ∃ k sp, e = .returned (.tuple #[.agg #[.int .i64 R.head, .slice k R.kids.length (R.kids.length + sp)], .bool ok]) ∧ w.heap.size ≤ w'.heap.size ∧
      St w0 w' (fsnoc l (.treeP (fun b => (p0 b ∨ w.heap.size ≤ b) ∧ b < w'.heap.size) (.agg #[.int .i64 R.head, .slice k R.kids.length (R.kids.length + sp)]) R)) :=
  h.mono fun e w' ⟨u, h1, h2, h3⟩ => by
    obtain ⟨k, sp, rfl⟩ := h2.at.form
    exact ⟨k, sp, h1, h3.size, (S.step h3).add (.treeP _ _ _) (h2.mono fun b hb hl => ⟨hb, hl⟩)⟩
theorem take_set_at {ks : List T} {k j : Nat} {x : T} (hj : j < ks.length) : (ks.set k x).take (j + 1) = (ks.set k x).take j ++ [(ks.set k x)[j]'(by simpa using hj)] := List.take_succ_eq_append_getElem (by simpa using hj)
theorem ret_box2b {P : Program} {fn : Func} {R : Ending → World → Prop} {a : Act} {w : World} (x y z : Value) (b : Nat) (T : TypeId) (hb : w.heap[b]? = some (.cells #[x, y] T (0, 0)))
    (hres : ∀ w' : World, w'.cell? ⟨b, 0, none⟩ = some x → w'.cell? ⟨b, 1, none⟩ = some y → (results fn a.tmps).run P w' = .ok (.tuple #[.agg #[x, y], z]) w') (hd : a.defers = [])
    (hR : R (.returned (.tuple #[.agg #[x, y], z])) w) : bodyPost P fn R .ret a w := bodyPost_ret (hres w (box2 hb).1.1 (box2 hb).2.1) hd hR

end Go.Proofs.Ytlhnfdjidjgfgaa
namespace Go.Proofs.Ytlhnfdjidjgfgaa
open Go.RowKit Go.Shelf
set_option linter.unusedVariables false
set_option maxHeartbeats 400000

noncomputable def normN (rs : List Ru) : Nat → T → Int × T
  | 0, t => match t.step rs with | some _ => (3, t) | none => (1, t)
  | n + 1, t => match t.step rs with | none => (1, t) | some x => if (treeF x).1 ≠ 0 then (0, zeroT) else normN rs n x
theorem ret_box2c {P : Program} {fn : Func} {R : Ending → World → Prop} {a : Act} {w : World} (z x y : Value) (b : Nat) (T : TypeId) (hb : w.heap[b]? = some (.cells #[x, y] T (0, 0)))
    (hres : ∀ w' : World, w'.cell? ⟨b, 0, none⟩ = some x → w'.cell? ⟨b, 1, none⟩ = some y → (results fn a.tmps).run P w' = .ok (.tuple #[z, .agg #[x, y]]) w') (hd : a.defers = [])
    (hR : R (.returned (.tuple #[z, .agg #[x, y]])) w) : bodyPost P fn R .ret a w := bodyPost_ret (hres w (box2 hb).1.1 (box2 hb).2.1) hd hR
def NormP (p0 : Nat → Prop) (r : Int × T) (w : World) (e : Ending) (w' : World) : Prop :=
  ∃ u, e = .returned (.tuple #[.int .i64 r.1, u]) ∧ TreeP (fun b => p0 b ∨ w.heap.size ≤ b) w' u r.2 ∧ Below w.heap.size w w'

end Go.Proofs.Ytlhnfdjidjgfgaa
namespace Go.Proofs.Ytlhnfdjidjgfgaa
open Go.RowKit
set_option linter.unusedVariables false

theorem var_leaf {t : T} (h : ∀ x ∈ t.pre, okN x) (hn : t.head < 0) : t = .node t.head [] := by
  have := okN_leaf h hn
  cases t with
  | node hd ks => simp only [T.kids] at this; rw [this]; rfl
theorem T.node_eta (t : T) : T.node t.head t.kids = t := by cases t; rfl
mutual
def T.inst (σ : Nat → T) : T → T
  | .node h ks => if h < 0 then σ (-h - 1).toNat else .node h (instL σ ks)
def instL (σ : Nat → T) : List T → List T
  | [] => []
  | k :: r => k.inst σ :: instL σ r
end
theorem T.inst_eq (σ : Nat → T) (t : T) : t.inst σ = if t.head < 0 then σ (-t.head - 1).toNat else .node t.head (instL σ t.kids) := by cases t; rw [T.inst]; rfl
theorem instL_length (σ : Nat → T) : ∀ l : List T, (instL σ l).length = l.length
  | [] => rfl
  | k :: r => by simp [instL, instL_length σ r]
/-- variable i stands in a tree -/
def T.has (t : T) (i : Nat) : Prop := 0 < t.times (-(i : Int) - 1)
theorem has_var {t : T} (h : t.head < 0) : t.has (-t.head - 1).toNat := by
  unfold T.has; rw [T.times_eq, if_pos (by omega)]; omega
theorem timesL_kid (x : Int) : ∀ {l : List T} {i : Nat}, i < l.length → (gK l i).times x ≤ timesL x l
  | [], i, h => by simp at h
  | k :: r, 0, _ => by simp only [gK, List.getD_cons_zero, timesL]; omega
  | k :: r, i + 1, h => by have := timesL_kid x (l := r) (i := i) (by simpa using h); simp only [gK, List.getD_cons_succ, timesL] at this ⊢; omega
theorem has_kid {t : T} {i j : Nat} (hj : j < t.kids.length) (h : (gK t.kids j).has i) : t.has i := by
  unfold T.has at h ⊢
  have := timesL_kid (-(i : Int) - 1) hj
  rw [T.times_eq]; omega
def hasL (l : List T) (i : Nat) : Prop := 0 < timesL (-(i : Int) - 1) l
theorem hasL_cons {k : T} {r : List T} {i : Nat} : hasL (k :: r) i ↔ k.has i ∨ hasL r i := by unfold hasL T.has; simp only [timesL]; omega
theorem has_cases {t : T} {i : Nat} (h : t.has i) : t.head = -(i : Int) - 1 ∨ hasL t.kids i := by
  unfold T.has at h; unfold hasL; rw [T.times_eq] at h
  by_cases e : t.head = -(i : Int) - 1
  · exact .inl e
  · rw [if_neg e] at h; right; omega
theorem hasL_has {t : T} {i : Nat} (h : hasL t.kids i) : t.has i := by
  unfold T.has; unfold hasL at h; rw [T.times_eq]; omega

theorem instL_congr {σ τ : Nat → T} : ∀ {l : List T}, (∀ j, j < l.length → (gK l j).inst σ = (gK l j).inst τ) → instL σ l = instL τ l
  | [], _ => rfl
  | k :: r, h => by
    have h0 := h 0 (by simp)
    simp only [gK, List.getD_cons_zero] at h0
    rw [instL, instL, h0, instL_congr (l := r) (fun j hj => by have := h (j + 1) (by simpa using hj); simpa only [gK, List.getD_cons_succ] using this)]
theorem inst_congr {σ τ : Nat → T} (t : T) (h : ∀ i, t.has i → σ i = τ i) : t.inst σ = t.inst τ := by
  induction t using T.ind with
  | h t ih =>
    rw [T.inst_eq, T.inst_eq]
    by_cases hn : t.head < 0
    · rw [if_pos hn, if_pos hn]; exact h _ (has_var hn)
    · rw [if_neg hn, if_neg hn, instL_congr (fun j hj => ih j hj (fun i hi => h i (has_kid hj hi)))]

def okA (t : T) : Prop := ∀ x ∈ t.pre, okN x
def nzA (t : T) : Prop := ∀ x ∈ t.pre, x.head ≠ 0
theorem okA.nz {t : T} (h : okA t) : nzA t := fun x hx e => (h x hx).1 (by unfold badHead; omega)
theorem okA.kid {t : T} (h : okA t) {i : Nat} (hi : i < t.kids.length) : okA (gK t.kids i) := okN_kid h hi
theorem nzA.kid {t : T} (h : nzA t) {i : Nat} (hi : i < t.kids.length) : nzA (gK t.kids i) := fun x hx => h x (by rw [T.pre_eq]; exact List.mem_cons_of_mem _ (kid_pre_mem hi hx))
theorem self_pre (t : T) : t ∈ t.pre := by rw [T.pre_eq]; simp
theorem nzA.head {t : T} (h : nzA t) : t.head ≠ 0 := h t (self_pre t)

def FitSound (p : T) : Prop := ∀ (t : T) (bs r : Nat → T), okA p → nzA t → p.fit t bs = some r →
  p.inst r = t ∧ (∀ i, (bs i).head ≠ 0 → r i = bs i) ∧ (∀ i, p.has i → (r i).head ≠ 0) ∧ ∀ i, (r i).head ≠ 0 → (bs i).head ≠ 0 ∨ (p.has i ∧ r i ∈ t.pre)
theorem fitL_sound : ∀ (ks ts : List T), (∀ i, i < ks.length → FitSound (gK ks i)) → ∀ (bs r : Nat → T), ks.length = ts.length → (∀ i, i < ks.length → okA (gK ks i)) → (∀ i, i < ts.length → nzA (gK ts i)) → fitL ks ts bs = some r →
    instL r ks = ts ∧ (∀ i, (bs i).head ≠ 0 → r i = bs i) ∧ (∀ i, hasL ks i → (r i).head ≠ 0) ∧ ∀ i, (r i).head ≠ 0 → (bs i).head ≠ 0 ∨ (hasL ks i ∧ r i ∈ preL ts)
  | [], [], _, bs, r, _, _, _, h => by
    rw [fitL] at h
    obtain rfl := Option.some.inj h
    exact ⟨rfl, fun i _ => rfl, fun i hi => by simp [hasL, timesL] at hi, fun i hi => .inl hi⟩
  | [], _ :: _, _, _, _, hl, _, _, _ => by simp at hl
  | _ :: _, [], _, _, _, hl, _, _, _ => by simp at hl
  | k :: kr, u :: ur, hP, bs, r, hl, hok, hnz, h => by
    rw [fitL] at h
    cases hk : k.fit u bs with
    | none => rw [hk] at h; simp at h
    | some b =>
      rw [hk] at h
      simp only at h
      have h0 := hP 0 (by simp); have o0 := hok 0 (by simp); have n0 := hnz 0 (by simp)
      simp only [gK, List.getD_cons_zero] at h0 o0 n0
      obtain ⟨a1, a2, a3, a4⟩ := h0 u bs b o0 n0 hk
      obtain ⟨b1, b2, b3, b4⟩ := fitL_sound kr ur (fun i hi => by have := hP (i + 1) (by simpa using hi); simpa only [gK, List.getD_cons_succ] using this) b r (by simpa using hl)
        (fun i hi => by have := hok (i + 1) (by simpa using hi); simpa only [gK, List.getD_cons_succ] using this) (fun i hi => by have := hnz (i + 1) (by simpa using hi); simpa only [gK, List.getD_cons_succ] using this) h
      have e1 : k.inst r = u := by rw [← a1]; exact inst_congr k (fun i hi => b2 i (a3 i hi))
      refine ⟨by rw [instL, e1, b1], fun i hi => ?_, fun i hi => ?_, fun i hi => ?_⟩
      · have := a2 i hi
        rw [b2 i (by rw [this]; exact hi), this]
      · rcases hasL_cons.1 hi with h1 | h1
        · rw [b2 i (a3 i h1)]; exact a3 i h1
        · exact b3 i h1
      · rcases b4 i hi with h1 | ⟨h1, h2⟩
        · have e := b2 i h1
          rcases a4 i h1 with h2 | ⟨h2, h3⟩
          · exact .inl h2
          · exact .inr ⟨hasL_cons.2 (.inl h2), by rw [e, preL]; exact List.mem_append_left _ h3⟩
        · exact .inr ⟨hasL_cons.2 (.inr h1), by rw [preL]; exact List.mem_append_right _ h2⟩
theorem fit_sound (p : T) : FitSound p := by
  induction p using T.ind with
  | h p ih =>
    intro t bs r hok hnz h
    rw [T.fit_eq] at h
    by_cases hn : p.head < 0
    · rw [if_pos hn] at h
      have hbad := (hok p (self_pre p)).1
      have e : ∀ i, p.has i → i = (-p.head - 1).toNat := fun i hi => by
        rcases has_cases hi with h1 | h1
        · omega
        · have := var_leaf hok hn
          rw [this] at h1; simp [hasL, T.kids, timesL] at h1
      by_cases hz : (bs (-p.head - 1).toNat).head = 0
      · rw [if_pos hz] at h
        obtain rfl := Option.some.inj h
        refine ⟨by rw [T.inst_eq, if_pos hn]; simp [setT], fun i hi => ?_, fun i hi => ?_, fun i hi => ?_⟩
        · unfold setT
          by_cases h1 : i = (-p.head - 1).toNat
          · rw [h1] at hi; exact absurd hz hi
          · rw [if_neg h1]
        · rw [e i hi]; simp [setT]; exact hnz.head
        · by_cases h1 : i = (-p.head - 1).toNat
          · right; subst h1; exact ⟨has_var hn, by simp [setT]; exact self_pre t⟩
          · left; have hi2 := hi; simp only [setT, if_neg h1] at hi2; exact hi2
      · rw [if_neg hz] at h
        by_cases hb : bs (-p.head - 1).toNat = t
        · rw [if_pos hb] at h
          obtain rfl := Option.some.inj h
          exact ⟨by rw [T.inst_eq, if_pos hn, hb], fun i _ => rfl, fun i hi => by rw [e i hi]; exact hz, fun i hi => .inl hi⟩
        · rw [if_neg hb] at h; cases h
    · rw [if_neg hn] at h
      by_cases hc : p.head = t.head ∧ p.kids.length = t.kids.length
      · rw [if_pos hc] at h
        obtain ⟨a1, a2, a3, a4⟩ := fitL_sound p.kids t.kids ih bs r hc.2 (fun i hi => hok.kid hi) (fun i hi => hnz.kid hi) h
        refine ⟨by rw [T.inst_eq, if_neg hn, a1, hc.1, T.node_eta], a2, fun i hi => ?_, fun i hi => ?_⟩
        · rcases has_cases hi with h1 | h1
          · omega
          · exact a3 i h1
        · rcases a4 i hi with h1 | ⟨h1, h2⟩
          · exact .inl h1
          · exact .inr ⟨hasL_has h1, by rw [T.pre_eq]; exact List.mem_cons_of_mem _ h2⟩
      · rw [if_neg hc] at h; cases h


theorem pre_sub {t : T} : ∀ {x : T}, x ∈ t.pre → ∀ y ∈ x.pre, y ∈ t.pre := by
  induction t using T.ind with
  | h t ih =>
    intro x hx y hy
    rw [T.pre_eq] at hx
    rcases List.mem_cons.1 hx with rfl | hx
    · exact hy
    · obtain ⟨i, hi, hx⟩ := mem_preL hx
      rw [T.pre_eq]; exact List.mem_cons_of_mem _ (kid_pre_mem hi (ih i hi hx y hy))
theorem T.sig.sub {ar : List Int} {t x : T} (h : t.sig ar) (hx : x ∈ t.pre) : x.sig ar := ⟨fun y hy => h.all y (pre_sub hx y hy)⟩
theorem T.sig.ok {ar : List Int} {t : T} (h : t.sig ar) : okA t := fun x hx => (h.all x hx).1
/-- the value of an instance, by what stands for the variables that occur -/
theorem ev_inst {s : Nat} {tb : List (List Int)} {th th' : List Int} {σ : Nat → T} (hl : th'.length = 8) (p : T) : okA p → (∀ i, p.has i → (σ i).ev s tb th = gI th' i) → (p.inst σ).ev s tb th = p.ev s tb th' := by
  induction p using T.ind with
  | h p ih =>
    intro hok h
    have hn := okN_num (okN_self hok)
    rw [T.inst_eq]
    by_cases hneg : p.head < 0
    · rw [if_pos hneg, T.ev_eq (th := th'), if_pos hneg, if_neg (by omega)]
      exact h _ (has_var hneg)
    · rw [if_neg hneg, T.ev_eq, T.ev_eq (th := th')]
      show (if p.head < 0 then _ else _) = _
      rw [if_neg hneg, if_neg hneg]
      have key : ∀ (l : List T) (a : Int), (∀ i, i < l.length → ((gK l i).inst σ).ev s tb th = (gK l i).ev s tb th') → evL s tb th (instL σ l) a = evL s tb th' l a := by
        intro l
        induction l with
        | nil => intro a _; rfl
        | cons x r ihl =>
          intro a h
          have hx : (x.inst σ).ev s tb th = x.ev s tb th' := h 0 (by simp)
          simp only [instL, evL]
          rw [hx]
          exact ihl _ (fun i hi => h (i + 1) (by simpa using hi))
      show gI _ (evL s tb th (instL σ p.kids) 0).toNat = _
      rw [key p.kids 0 (fun i hi => ih i hi (okN_kid hok hi) (fun j hj => h j (has_kid hi hj)))]
      rfl
theorem has_most {p : T} : ∀ {i : Nat}, p.has i → i < p.most.toNat := by
  induction p using T.ind with
  | h p ih =>
    intro i h
    rcases has_cases h with h1 | h1
    · have := head_most p; omega
    · have key : ∀ l : List T, hasL l i → ∃ j, j < l.length ∧ (gK l j).has i := by
        intro l
        induction l with
        | nil => intro h; simp [hasL, timesL] at h
        | cons x r ihl =>
          intro h
          rcases hasL_cons.1 h with h | h
          · exact ⟨0, by simp, h⟩
          · obtain ⟨j, hj, h2⟩ := ihl h
            exact ⟨j + 1, by simpa using hj, h2⟩
      obtain ⟨j, hj, h2⟩ := key _ h1
      have h3 := ih j hj h2
      have h4 := kid_most hj
      omega
theorem sig_sub_of {ar : List Int} {bs : List T} (hb : ∀ k, boundB bs k = true → (gK bs k).sig ar) (t : T) : t.sig ar → (t.sub bs).sig ar := by
  induction t using T.ind with
  | h t ih =>
    intro hs
    by_cases hneg : t.head < 0
    · cases hbb : boundB bs (-t.head - 1).toNat with
      | true => rw [T.sub_var hneg hbb]; exact hb _ hbb
      | false => rw [T.sub_free hneg hbb]; exact hs
    · rw [T.sub_pos hneg]
      have h1 := hs.self
      refine T.sig.of ?_ ⟨h1.2.1, fun h => ?_⟩ (fun i hi => ?_)
      · have h2 := h1.1
        unfold okN at h2 ⊢
        simpa [T.kids, T.head] using h2
      · have h2 := h1.2.2 h
        simpa [T.kids, T.head] using h2
      · have hi2 : i < t.kids.length := by simpa [T.kids] using hi
        have e : gK (T.node t.head (t.kids.map (T.sub bs))).kids i = (gK t.kids i).sub bs := gK_map hi2
        rw [e]
        exact ih i hi2 (hs.kid hi2)
/-- a rule that fits the signs and holds as an equation -/
def RuleOK (ar : List Int) (s : Nat) (tb : List (List Int)) (f : Ru) : Prop := f.1.sig ar ∧ f.2.sig ar ∧ ∀ th, ThOK s th → th.length = 8 → f.1.ev s tb th = f.2.ev s tb th
theorem root_ev {ar : List Int} {s : Nat} {tb : List (List Int)} (hT : TabOK ar s tb) : ∀ {rs : List Ru}, (∀ f ∈ rs, RuleOK ar s tb f) → ∀ {t x : T}, rootS rs t = some x → t.sig ar → x.sig ar ∧ ∀ th, ThOK s th → x.ev s tb th = t.ev s tb th
  | [], _, t, x, h, _ => by cases h
  | f :: r, hr, t, x, h, ht => by
    rw [rootS] at h
    cases hf : fitF f.1 t with
    | none => rw [hf] at h; exact root_ev hT (fun g hg => hr g (List.mem_cons_of_mem _ hg)) h ht
    | some b =>
      rw [hf] at h
      obtain rfl := Option.some.inj h
      obtain ⟨h1, h2, h3⟩ := hr f (List.mem_cons_self ..)
      unfold fitF at hf
      obtain ⟨σ, hσ, rfl⟩ := Option.map_eq_some_iff.1 hf
      obtain ⟨a1, _, a3, a4⟩ := fit_sound f.1 t _ σ h1.ok ht.ok.nz hσ
      have hbd : ∀ k, boundB (listT f.1.most.toNat σ) k = true → k < f.1.most.toNat ∧ (σ k).head ≠ 0 := fun k hk => by
        unfold boundB at hk
        rw [Bool.and_eq_true] at hk
        have hk1 : k < f.1.most.toNat := by have := of_decide_eq_true hk.1; rwa [listT_length] at this
        rw [listT_gK hk1] at hk
        exact ⟨hk1, by simpa using hk.2⟩
      have hbs : ∀ k, boundB (listT f.1.most.toNat σ) k = true → (gK (listT f.1.most.toNat σ) k).sig ar := fun k hk => by
        obtain ⟨hk1, hk2⟩ := hbd k hk
        rw [listT_gK hk1]
        rcases a4 k hk2 with h5 | ⟨_, h5⟩
        · exact absurd rfl h5
        · exact ht.sub h5
      refine ⟨sig_sub_of hbs f.2 h2, fun th hth => ?_⟩
      rw [ev_sub f.2 h2.ok, ← h3 _ (ofF_ok hT hth (fun k _ hk => hbs k hk)) (by simp [ofF]), ← ev_inst (σ := σ) (th := th) (by simp [ofF]) f.1 h1.ok (fun i hi => ?_), a1]
      have hi1 := has_most hi
      have hi8 : i < 8 := by
        have hm : f.1.most ≤ 8 := by
          have key : ∀ t : T, okA t → t.most ≤ 8 := by
            intro t
            induction t using T.ind with
            | h t ih =>
              intro hh
              rw [T.most_eq]
              have h4 := okN_num (okN_self hh)
              have key2 : ∀ l : List T, (∀ i, i < l.length → (gK l i).most ≤ 8) → mostL l ≤ 8 := by
                intro l
                induction l with
                | nil => intro _; simp [mostL]
                | cons y r ih2 => intro h6; simp only [mostL]; have h7 : y.most ≤ 8 := h6 0 (by simp); have h8 := ih2 (fun i hi => h6 (i + 1) (by simpa using hi)); omega
              have h5 := key2 t.kids (fun i hi => ih i hi (okN_kid hh hi))
              split <;> omega
          exact key _ h1.ok
        omega
      rw [gI_ofF hi8]
      unfold ofK
      have hbb : boundB (listT f.1.most.toNat σ) i = true := by
        unfold boundB
        rw [listT_length, decide_eq_true hi1, listT_gK hi1]
        simpa using a3 i hi
      rw [if_pos hbb, listT_gK hi1]
theorem step_ev {ar : List Int} {s : Nat} {tb : List (List Int)} (hT : TabOK ar s tb) {rs : List Ru} (hr : ∀ f ∈ rs, RuleOK ar s tb f) (t : T) : ∀ {x : T}, t.step rs = some x → t.sig ar → x.sig ar ∧ ∀ th, ThOK s th → x.ev s tb th = t.ev s tb th := by
  induction t using T.ind with
  | h t ih =>
    intro x h ht
    rw [T.step_eq] at h
    have key : ∀ (l m : List T), (∀ i, i < l.length → (gK l i).sig ar) → (∀ i, i < l.length → ∀ {x : T}, (gK l i).step rs = some x → (gK l i).sig ar → x.sig ar ∧ ∀ th, ThOK s th → x.ev s tb th = (gK l i).ev s tb th) → stepL rs l = some m →
        m.length = l.length ∧ (∀ i, i < m.length → (gK m i).sig ar) ∧ ∀ th, ThOK s th → ∀ a, evL s tb th m a = evL s tb th l a := by
      intro l
      induction l with
      | nil => intro m _ _ h; cases h
      | cons y r ihl =>
        intro m hsg hst h
        rw [stepL] at h
        have hys : y.sig ar := hsg 0 (by simp)
        cases hstep : y.step rs with
        | some z =>
          rw [hstep] at h
          obtain rfl := Option.some.inj h
          obtain ⟨h1, h2⟩ : z.sig ar ∧ ∀ th, ThOK s th → z.ev s tb th = y.ev s tb th := hst 0 (by simp) (x := z) hstep hys
          refine ⟨rfl, fun i hi => ?_, fun th hth a => ?_⟩
          · rcases i with _ | i
            · exact h1
            · exact hsg (i + 1) (by simpa using hi)
          · simp only [evL]
            rw [h2 th hth]
        | none =>
          rw [hstep] at h
          cases hl : stepL rs r with
          | none => rw [hl] at h; cases h
          | some l' =>
            rw [hl] at h
            obtain rfl := Option.some.inj h
            obtain ⟨h1, h2, h3⟩ := ihl l' (fun i hi => hsg (i + 1) (by simpa using hi)) (fun i hi => hst (i + 1) (by simpa using hi)) hl
            refine ⟨by simp [h1], fun i hi => ?_, fun th hth a => ?_⟩
            · rcases i with _ | i
              · exact hys
              · exact h2 i (by simpa using hi)
            · simp only [evL]
              exact h3 th hth _
    cases hl : stepL rs t.kids with
    | none => rw [hl] at h; exact root_ev hT hr h ht
    | some l =>
      rw [hl] at h
      obtain rfl := Option.some.inj h
      obtain ⟨h1, h2, h3⟩ := key t.kids l (fun i hi => ht.kid hi) (fun i hi => ih i hi) hl
      have hself := ht.self
      refine ⟨T.sig.of ?_ ⟨hself.2.1, fun h => ?_⟩ (fun i hi => h2 i hi), fun th hth => ?_⟩
      · have h4 := hself.1
        unfold okN at h4 ⊢
        show ¬ badHead t.head ∧ ¬ badKids t.head l.length
        rw [h1]; exact h4
      · show (l.length : Int) = _
        rw [h1]; exact hself.2.2 h
      · rw [T.ev_eq, T.ev_eq (t := t)]
        show (if t.head < 0 then (if (th.length : Int) < -t.head then 0 else gI th (-t.head - 1).toNat) else gI (tb.getD (t.head - 1).toNat []) (evL s tb th l 0).toNat) = _
        rw [h3 th hth]
theorem norm_ev {ar : List Int} {s : Nat} {tb : List (List Int)} (hT : TabOK ar s tb) {rs : List Ru} (hr : ∀ f ∈ rs, RuleOK ar s tb f) : ∀ (n : Nat) (t : T), t.sig ar → (treeF t).1 = 0 → (normN rs n t).1 ≠ 0 →
    (treeF (normN rs n t).2).1 = 0 ∧ (normN rs n t).2.sig ar ∧ ∀ th, ThOK s th → (normN rs n t).2.ev s tb th = t.ev s tb th
  | 0, t, ht, hk, _ => by rw [normN]; cases t.step rs <;> exact ⟨hk, ht, fun th _ => rfl⟩
  | n + 1, t, ht, hk, h => by
    rw [normN] at h ⊢
    cases hs : t.step rs with
    | none => rw [hs] at h; exact ⟨hk, ht, fun th _ => rfl⟩
    | some x =>
      rw [hs] at h
      dsimp only at h ⊢
      by_cases hx : (treeF x).1 ≠ 0
      · rw [if_pos hx] at h; exact absurd rfl h
      · rw [if_neg hx] at h ⊢
        obtain ⟨h1, h2⟩ := step_ev hT hr t hs ht
        obtain ⟨h3, h4, h5⟩ := norm_ev hT hr n x h1 (by simpa using hx) h
        exact ⟨h3, h4, fun th hth => (h5 th hth).trans (h2 th hth)⟩
end Go.Proofs.Ytlhnfdjidjgfgaa
namespace Go.Proofs.Ytlhnfdjidjgfgaa
open Go.RowKit Go.Shelf
set_option linter.unusedVariables false

theorem T.get_nil (t : T) (i : Int) : t.get [] i = (t, -1) := by rw [T.get]
theorem T.get_cons (t : T) (z : Int) (ps : List Int) (i : Int) : t.get (z :: ps) i = if z < 1 ∨ (t.kids.length : Int) < z then (zeroT, i) else (gK t.kids (z - 1).toNat).get ps (i + 1) := by rw [T.get]
theorem get_found : ∀ (p : List Int) (t : T) (i j : Int), 0 ≤ i → 0 ≤ j → (t.get p i).1 = (t.get p j).1 ∧ ((t.get p i).2 < 0 ↔ (t.get p j).2 < 0)
  | [], t, i, j, _, _ => by rw [T.get_nil, T.get_nil]; simp
  | z :: ps, t, i, j, hi, hj => by
    rw [T.get_cons, T.get_cons]
    by_cases h : z < 1 ∨ (t.kids.length : Int) < z
    · rw [if_pos h, if_pos h]; simp; omega
    · rw [if_neg h, if_neg h]; exact get_found ps _ _ _ (by omega) (by omega)
theorem get_zero : ∀ (p : List Int) (t : T) (i : Int), 0 ≤ i → 0 ≤ (t.get p i).2 → (t.get p i).1 = zeroT
  | [], t, i, _, h => by rw [T.get_nil] at h; simp at h
  | z :: ps, t, i, hi, h => by
    rw [T.get_cons] at h ⊢
    by_cases hz : z < 1 ∨ (t.kids.length : Int) < z
    · rw [if_pos hz]
    · rw [if_neg hz] at h ⊢; exact get_zero ps _ _ (by omega) h
theorem get_append : ∀ (p q : List Int) (t : T) (i : Int), 0 ≤ i → (t.get p i).2 < 0 → t.get (p ++ q) i = (t.get p i).1.get q (i + p.length)
  | [], q, t, i, _, _ => by rw [T.get_nil]; simp
  | z :: ps, q, t, i, hi, h => by
    rw [List.cons_append, T.get_cons] at *
    rw [T.get_cons]
    by_cases hz : z < 1 ∨ (t.kids.length : Int) < z
    · rw [if_pos hz] at h; simp only at h; omega
    · rw [if_neg hz] at h
      rw [if_neg hz, if_neg hz, get_append ps q _ (i + 1) (by omega) h]
      congr 1; simp only [List.length_cons]; omega
theorem withAt_cons (p : Int) (ps : List Int) (t s : T) : T.withAt (p :: ps) t s = .node t.head (t.kids.mapIdx fun i k => if (i : Int) + 1 = p then T.withAt ps k s else k) := by rw [T.withAt]
theorem withAt_same : ∀ (p : List Int) (t : T) (i : Int), 0 ≤ i → (t.get p i).2 < 0 → T.withAt p t (t.get p i).1 = t
  | [], t, i, _, _ => by rw [T.get_nil]; rfl
  | z :: ps, t, i, hi, h => by
    rw [T.get_cons] at h ⊢
    by_cases hz : z < 1 ∨ (t.kids.length : Int) < z
    · rw [if_pos hz] at h; simp only at h; omega
    · rw [if_neg hz] at h ⊢
      have ih := withAt_same ps (gK t.kids (z - 1).toNat) (i + 1) (by omega) h
      generalize ((gK t.kids (z - 1).toNat).get ps (i + 1)).1 = A at ih ⊢
      rw [withAt_cons]
      conv => rhs; rw [← T.node_eta t]
      congr 1
      apply List.ext_getElem (by simp)
      intro j h1 h2
      simp only [List.getElem_mapIdx]
      by_cases e : (j : Int) + 1 = z
      · rw [if_pos e]
        have ej : (z - 1).toNat = j := by omega
        rw [ej, gK_get h2] at ih
        exact ih
      · rw [if_neg e]
theorem get_withAt : ∀ (p : List Int) (t s : T) (i j : Int), 0 ≤ i → 0 ≤ j → (t.get p i).2 < 0 → (T.withAt p t s).get p j = (s, -1)
  | [], t, s, i, j, _, _, _ => by rw [T.get_nil]; rfl
  | z :: ps, t, s, i, j, hi, hj, h => by
    rw [T.get_cons] at h
    by_cases hz : z < 1 ∨ (t.kids.length : Int) < z
    · rw [if_pos hz] at h; simp only at h; omega
    · rw [if_neg hz] at h
      rw [T.get_cons, withAt_cons]
      show (if z < 1 ∨ ((t.kids.mapIdx _).length : Int) < z then _ else (gK (t.kids.mapIdx _) _).get ps _) = _
      rw [if_neg (by simpa using hz), gK_mapIdx _ _ (by omega), if_pos (by omega)]
      exact get_withAt ps _ s (i + 1) _ (by omega) (by omega) h
theorem get_pre : ∀ (p : List Int) (t : T) (i : Int), 0 ≤ i → (t.get p i).2 < 0 → ∀ x ∈ (t.get p i).1.pre, x ∈ t.pre
  | [], t, i, _, _ => by rw [T.get_nil]; exact fun x h => h
  | z :: ps, t, i, hi, h => by
    rw [T.get_cons] at h ⊢
    by_cases hz : z < 1 ∨ (t.kids.length : Int) < z
    · rw [if_pos hz] at h; simp only at h; omega
    · rw [if_neg hz] at h ⊢
      intro x hx
      have := get_pre ps _ (i + 1) (by omega) h x hx
      rw [T.pre_eq]; exact List.mem_cons_of_mem _ (kid_pre_mem (by omega) this)
theorem kid_deepL : ∀ {l : List T} {i : Nat}, i < l.length → (gK l i).deep ≤ deepL l
  | [], i, h => by simp at h
  | x :: r, 0, _ => by simp only [gK, List.getD_cons_zero, deepL]; omega
  | x :: r, i + 1, h => by have := kid_deepL (l := r) (i := i) (by simpa using h); simp only [gK, List.getD_cons_succ, deepL] at this ⊢; omega
theorem get_deep : ∀ (p : List Int) (t : T) (i : Int), 0 ≤ i → (t.get p i).2 < 0 → (t.get p i).1.deep ≤ t.deep
  | [], t, i, _, _ => by rw [T.get_nil]; exact Nat.le_refl _
  | z :: ps, t, i, hi, h => by
    rw [T.get_cons] at h ⊢
    by_cases hz : z < 1 ∨ (t.kids.length : Int) < z
    · rw [if_pos hz] at h; simp only at h; omega
    · rw [if_neg hz] at h ⊢
      have := get_deep ps _ (i + 1) (by omega) h
      have h2 : (gK t.kids (z - 1).toNat).deep ≤ t.deep := by rw [T.deep_eq t]; have := kid_deepL (l := t.kids) (i := (z - 1).toNat) (by omega); omega
      omega
end Go.Proofs.Ytlhnfdjidjgfgaa
