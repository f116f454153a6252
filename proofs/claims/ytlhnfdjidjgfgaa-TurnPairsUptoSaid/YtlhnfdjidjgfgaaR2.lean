/-
  Walks: turn.Check, turn.check: rules and a tree.
-/
import Derived.Test.YtlhnfdjidjgfgaaProg
import Derived.Test.YtlhnfdjidjgfgaaR1
namespace Go.Proofs.Ytlhnfdjidjgfgaa
open Go.RowKit Go.Shelf
set_option linter.unusedVariables false
set_option maxHeartbeats 400000

abbrev Ru := T × T
/-- a rule -/
def ruleE : Elt Ru where
  ty := 134
  n := 4
  is p w cs f := ∃ k sp k2 sp2, cs = [.int .i64 f.1.head, .slice k f.1.kids.length (f.1.kids.length + sp), .int .i64 f.2.head, .slice k2 f.2.kids.length (f.2.kids.length + sp2)] ∧
    TreeP p w (.agg #[.int .i64 f.1.head, .slice k f.1.kids.length (f.1.kids.length + sp)]) f.1 ∧ TreeP p w (.agg #[.int .i64 f.2.head, .slice k2 f.2.kids.length (f.2.kids.length + sp2)]) f.2
  pos := by omega
  len := fun ⟨k, sp, k2, sp2, e, _⟩ => by rw [e]; rfl
  one := fun ⟨k, sp, k2, sp2, e, _⟩ u hu => by rw [e] at hu; simp at hu; rcases hu with rfl | rfl | rfl | rfl <;> rfl
  keep := fun hk ⟨k, sp, k2, sp2, e, h, h2⟩ => ⟨k, sp, k2, sp2, e, h.keep hk, h2.keep hk⟩
theorem Elt.Row.rule {p : Nat → Prop} {w : World} {ao : Option Addr} {rs : List Ru} (h : ruleE.Row p w ao rs) {i : Nat} (hi : i < rs.length) : ∃ b off k sp k2 sp2, ao = some ⟨b, off, none⟩ ∧ p b ∧
    w.cell? ⟨b, off + i * 4, none⟩ = some (.int .i64 rs[i].1.head) ∧ w.cell? ⟨b, off + i * 4 + 1, none⟩ = some (.slice k rs[i].1.kids.length (rs[i].1.kids.length + sp)) ∧
    w.cell? ⟨b, off + i * 4 + 2, none⟩ = some (.int .i64 rs[i].2.head) ∧ w.cell? ⟨b, off + i * 4 + 3, none⟩ = some (.slice k2 rs[i].2.kids.length (rs[i].2.kids.length + sp2)) ∧
    TreeP p w (.agg #[.int .i64 rs[i].1.head, .slice k rs[i].1.kids.length (rs[i].1.kids.length + sp)]) rs[i].1 ∧ TreeP p w (.agg #[.int .i64 rs[i].2.head, .slice k2 rs[i].2.kids.length (rs[i].2.kids.length + sp2)]) rs[i].2 := by
  obtain ⟨b, off, cs, e, hp, hc, k, sp, k2, sp2, rfl, h1, h2⟩ := h i rs[i] (List.getElem?_eq_getElem hi)
  exact ⟨b, off, k, sp, k2, sp2, e, hp, hc 0 _ rfl, hc 1 _ rfl, hc 2 _ rfl, hc 3 _ rfl, h1, h2⟩

def firstR : List Ru → Int → Int × Int
  | [], _ => (0, 0)
  | f :: r, i => if ruleF f.1 f.2 ≠ 0 then (ruleF f.1 f.2, i) else firstR r (i + 1)
def rulesF (rs : List Ru) : Int × Int := if 30 < rs.length then (2, 0) else firstR rs 0
theorem firstR_hit : ∀ {rs : List Ru} {k : Nat} {f : Ru} {a : Int}, (∀ (j : Nat) f, j < k → rs[j]? = some f → ruleF f.1 f.2 = 0) → rs[k]? = some f → ruleF f.1 f.2 ≠ 0 → firstR rs a = (ruleF f.1 f.2, a + k)
  | [], k, f, a, _, h, _ => by simp at h
  | x :: r, 0, f, a, _, h, hc => by simp at h; subst h; simp [firstR, hc]
  | x :: r, k + 1, f, a, hno, h, hc => by
    have h0 := hno 0 x (by omega) rfl
    rw [firstR, if_neg (by simp [h0]), firstR_hit (k := k) (fun j t hj ht => hno (j + 1) t (by omega) (by simpa using ht)) (by simpa using h) hc]
    congr 1; push_cast; omega
theorem firstR_none : ∀ {rs : List Ru} {a : Int}, (∀ (j : Nat) f, j < rs.length → rs[j]? = some f → ruleF f.1 f.2 = 0) → firstR rs a = (0, 0)
  | [], _, _ => rfl
  | x :: r, a, hno => by
    have h0 := hno 0 x (by rw [List.length_cons]; omega) rfl
    rw [firstR, if_neg (by simp [h0])]
    exact firstR_none (fun j t hj ht => hno (j + 1) t (by simpa using hj) (by simpa using ht))

set_option maxRecDepth 100000 in
set_option maxHeartbeats 4000000 in
theorem rules44 (rs : List Ru) (p : Nat → Prop) (ao : Option Addr) (c : Nat) (w : World) (h : ruleE.Row p w ao rs) (hn : rs.length ≤ 1000000000) :
    Calls Try.prog 99 #[.slice ao rs.length c] w fun e w' => e = .returned (FV (rulesF rs)) ∧ Below w.heap.size w w' := by
  have HR := Lib.hid h
  obtain ⟨bx, hbx⟩ : ∃ b, b = w.heap.size := ⟨_, rfl⟩
  have S1 := (St.start w).box hbx.symm #[.int .i64 0, .int .i64 0] 29
  have hsz : (w.alloc (.cells #[.int .i64 0, .int .i64 0] 29)).heap.size = bx + 1 := by simp [hbx]
  clear h
  by_cases h30 : 30 < rs.length
  · have HF := Lib.hid (show rulesF rs = (2, 0) by unfold rulesF; rw [if_pos h30])
    have h30i : (30 : Int) < (rs.length : Int) := by omega
    have SB := Lib.hid S1
    have HBX := Lib.hid hbx
    subst hbx
    clear S1 hsz h30
    go_enter Try.func99, Try.ntmps99
    go_wp2_with fail
    have SF := (St.start w).box rfl #[.int .i64 2, .int .i64 0] 29
    refine ret_box2 (.int .i64 2) (.int .i64 0) w.heap.size 29 (SF.block 0) (fun w' q0 q1 => by simp [results, Try.results99, go_sem, q0, q1]) rfl ?_
    exact ⟨by rw [HF.out]; rfl, SF.bel⟩
  · have HF := Lib.hid (show rulesF rs = firstR rs 0 by unfold rulesF; rw [if_neg h30])
    have h30i : ¬ (30 : Int) < (rs.length : Int) := by omega
    go_enter Try.func99, Try.ntmps99
    go_wp2_with fail
    rw [← hbx]
    refine S1.genC (z := bx + 1) (by omega) ?_
    intro w1 z1 S
    have HBX := Lib.hid hbx
    clear S1 hbx hsz
    go_loopw [3, 12] (fun _ i wr => ∃ k : Nat, k ≤ rs.length ∧ i = .int .i64 k ∧ (∀ (j : Nat) f, j < k → rs[j]? = some f → ruleF f.1 f.2 = 0) ∧ bx + 1 ≤ wr.heap.size ∧ St w wr [.box bx #[.int .i64 0, .int .i64 0] 29]) (fun _ i _ => rs.length - (intOf i).toNat)
    case atStart => exact ⟨0, by omega, rfl, fun j f hj _ => by omega, z1, S⟩
    case round =>
      clear S
      obtain ⟨k, hk, rfl, hno, z2, S⟩ := hrel
      have HNO := Lib.hid hno
      clear hno
      by_cases hlt : k < rs.length
      · have hlti : (k : Int) < (rs.length : Int) := by omega
        obtain ⟨b, off, ka, sa, kb, sb, rfl, hpb, c0, c1, c2, c3, t1, t2⟩ := (HR.out.kept S.bel).rule hlt
        obtain ⟨X, hX⟩ : ∃ X, X = rs[k].1 := ⟨_, rfl⟩
        obtain ⟨Y, hY⟩ : ∃ Y, Y = rs[k].2 := ⟨_, rfl⟩
        have HXY := Lib.hid (show rs[k]? = some (X, Y) by rw [hX, hY]; exact List.getElem?_eq_getElem hlt)
        rw [← hX] at c0 c1 t1
        rw [← hY] at c2 c3 t2
        obtain ⟨bk, hbk⟩ : ∃ b, b = wr.heap.size := ⟨_, rfl⟩
        have S2 := (S.box hbk.symm #[.int .i64 X.head, .slice ka X.kids.length (X.kids.length + sa), .int .i64 Y.head, .slice kb Y.kids.length (Y.kids.length + sb)] 134)
        have T1 := Lib.hid (t1.kept ((Below.refl _ wr).alloc (Nat.le_refl _) (.cells #[.int .i64 X.head, .slice ka X.kids.length (X.kids.length + sa), .int .i64 Y.head, .slice kb Y.kids.length (Y.kids.length + sb)] 134)))
        have T2 := Lib.hid (t2.kept ((Below.refl _ wr).alloc (Nat.le_refl _) (.cells #[.int .i64 X.head, .slice ka X.kids.length (X.kids.length + sa), .int .i64 Y.head, .slice kb Y.kids.length (Y.kids.length + sb)] 134)))
        have hz2 : bx + 1 ≤ (wr.alloc (.cells #[.int .i64 X.head, .slice ka X.kids.length (X.kids.length + sa), .int .i64 Y.head, .slice kb Y.kids.length (Y.kids.length + sb)] 134)).heap.size := by simp; omega
        clear hX hY t1 t2 S hbk
        go_wp2_with fail
        refine (S2.quiet (rule90 X Y ka kb sa sb _ T1.out.at T2.out.at)).mono ?_
        rintro e w3 ⟨rfl, z3, S3⟩
        clear S2 c0 c1 c2 c3
        obtain ⟨cc, hcc⟩ : ∃ c, c = ruleF X Y := ⟨_, rfl⟩
        rw [← hcc]
        have HCC := Lib.hid hcc
        clear hcc
        by_cases hc : cc = 0
        · have hcb : (cc != 0) = false := by simp [hc]
          have HN := Lib.hid (show ∀ (j : Nat) f, j < k + 1 → rs[j]? = some f → ruleF f.1 f.2 = 0 from fun j f hj hf => by
            rcases Nat.lt_succ_iff_lt_or_eq.1 hj with h | rfl
            · exact HNO.out j f h hf
            · rw [HXY.out] at hf; obtain rfl := Option.some.inj hf
              exact HCC.out.symm.trans hc)
          have S4 := S3.pick [0]
          clear S3 hc
          go_wp2_with fail
          go_roundw
          case rel => exact ⟨k + 1, by omega, by go_num, HN.out, by omega, S4⟩
          case measure => simp [intOf] <;> omega
        · have hcb : (cc != 0) = true := by simp [hc]
          have HFI := Lib.hid (show rulesF rs = (cc, (k : Int)) by rw [HF.out, firstR_hit HNO.out HXY.out (by rw [← HCC.out]; exact hc), HCC.out]; simp)
          obtain ⟨⟨y0, y1⟩, y2, y3⟩ := S3.two 0
          have hl := S3.lt 0
          have SB := Lib.hid S3
          clear S3 hc
          go_wp2_with fail
          refine ret_box2 (.int .i64 cc) (.int .i64 k) bx 29 (box2_set (SB.out.block 0) _ _) (fun w' q0 q1 => by simp [results, Try.results99, go_sem, q0, q1]) rfl ?_
          have hx := HBX.out
          exact ⟨by rw [HFI.out]; rfl, (SB.out.bel.setCell (p := ⟨bx, 0, none⟩) (by show w.heap.size ≤ bx; omega) _).setCell (p := ⟨bx, 1, none⟩) (by show w.heap.size ≤ bx; omega) _⟩
      · obtain rfl : k = rs.length := by omega
        have HFI := Lib.hid (show rulesF rs = (0, 0) by rw [HF.out, firstR_none HNO.out])
        obtain ⟨⟨y0, y1⟩, y2, y3⟩ := S.two 0
        have hl := S.lt 0
        have SB := Lib.hid S
        clear S
        go_wp2_with fail
        refine ret_box2 (.int .i64 0) (.int .i64 0) bx 29 (box2_set (SB.out.block 0) _ _) (fun w' q0 q1 => by simp [results, Try.results99, go_sem, q0, q1]) rfl ?_
        have hx := HBX.out
        exact ⟨by rw [HFI.out]; rfl, (SB.out.bel.setCell (p := ⟨bx, 0, none⟩) (by show w.heap.size ≤ bx; omega) _).setCell (p := ⟨bx, 1, none⟩) (by show w.heap.size ≤ bx; omega) _⟩

end Go.Proofs.Ytlhnfdjidjgfgaa
