/-
  Walks: claim.Max, table.Wide.
-/
import Derived.Test.YtlhnfdjidjgfgaaProg
import Derived.Test.YtlhnfdjidjgfgaaV6
import Derived.Test.YtlhnfdjidjgfgaaSt3
import Derived.RegionTactic
import Derived.Lib.QuietBelow
import Derived.BigQuiet
namespace Go.Proofs.Ytlhnfdjidjgfgaa
open Go.RowKit Go.Shelf
set_option linter.unusedVariables false
set_option maxHeartbeats 400000

theorem mostL_bound {l : List T} (h : ∀ t ∈ l, (treeF t).1 = 0) : 0 ≤ mostL l ∧ mostL l ≤ 8 := by
  refine ⟨mostL_nonneg l, ?_⟩
  induction l with
  | nil => simp [mostL]
  | cons t r ih =>
    simp only [mostL]
    have h1 := ih (fun x hx => h x (List.mem_cons_of_mem _ hx))
    have h2 : t.most ≤ 8 := by
      have h3 := (treeF_ok.1 (h t (List.mem_cons_self ..))).2.2
      have key : ∀ t : T, (∀ x ∈ t.pre, okN x) → t.most ≤ 8 := by
        intro t
        induction t using T.ind with
        | h t ih =>
          intro hh
          rw [T.most_eq]
          have h4 := okN_num (hh t (by obtain ⟨a, b⟩ := t; exact List.mem_cons_self ..))
          have h5 : mostL t.kids ≤ 8 := by
            have key2 : ∀ l : List T, (∀ i, i < l.length → (gK l i).most ≤ 8) → mostL l ≤ 8 := by
              intro l
              induction l with
              | nil => intro _; simp [mostL]
              | cons y r ih2 => intro h6; simp only [mostL]; have h7 := h6 0 (by simp); have h8 := ih2 (fun i hi => h6 (i + 1) (by simpa using hi)); have h9 : y.most ≤ 8 := h7; omega
            exact key2 _ (fun i hi => ih i hi (fun x hx => hh x (by obtain ⟨a, b⟩ := t; exact List.mem_cons_of_mem _ (preL_mem hi hx))))
          split <;> omega
      exact key t h3
    omega

set_option maxRecDepth 100000 in
set_option maxHeartbeats 4000000 in
theorem max112 (fs : List Fc) (p : Nat → Prop) (co : Option Addr) (sp : Nat) (w : World) (h : factE.Row p w co fs) (hn : fs.length ≤ 6) (hok : ∀ t ∈ treesF fs, (treeF t).1 = 0) :
    Calls Try.prog 119 #[.agg #[.slice co fs.length (fs.length + sp)]] w fun e w' => e = .returned (.int .i64 (mostL (treesF fs))) ∧ Below w.heap.size w w' := by
  have HR := Lib.hid h; have HOK := Lib.hid hok
  obtain ⟨bx, hbx⟩ : ∃ b, b = w.heap.size := ⟨_, rfl⟩
  have S1 := (St.start w).box hbx.symm #[.slice co fs.length (fs.length + sp)] 41
  have hsz1 : (w.alloc (.cells #[.slice co fs.length (fs.length + sp)] 41)).heap.size = bx + 1 := by simp [hbx]
  clear h hok
  go_enter Try.func119, Try.ntmps119
  go_wp2_with fail
  rw [← hbx]
  refine S1.genC (z := bx + 1) (by omega) ?_
  intro w1 z1 S
  have HBX := Lib.hid hbx
  clear S1 hbx hsz1
  go_loopw [3, 9] (fun o i wr => ∃ (k : Nat) (M : Int), k ≤ fs.length ∧ i = .int .i64 k ∧ o = .int .i64 M ∧ M = mostL (treesF (fs.take k)) ∧ bx + 1 ≤ wr.heap.size ∧ St w wr [.box bx #[.slice co fs.length (fs.length + sp)] 41]) (fun _ i _ => fs.length - (intOf i).toNat)
  case atStart => exact ⟨0, 0, by omega, rfl, rfl, rfl, z1, S⟩
  case round =>
    clear S
    obtain ⟨k, M, hk, rfl, rfl, hM, z2, S⟩ := hrel
    have HM := Lib.hid hM
    clear hM
    by_cases hlt : k < fs.length
    · have hlti : (k : Int) < (fs.length : Int) := by omega
      obtain ⟨b, off, ka, sa, kb, sb, rfl, hpb, c0, c1, c2, c3, c4, t1, t2⟩ := (HR.out.kept S.bel).fact hlt
      have HMX := Lib.hid (show fs[k].l ∈ treesF fs ∧ fs[k].r ∈ treesF fs from ⟨List.mem_of_getElem? (treesF_pair hlt).1, List.mem_of_getElem? (treesF_pair hlt).2⟩)
      have HTK := Lib.hid (show mostL (treesF (fs.take (k + 1))) = max (mostL (treesF (fs.take k))) (mostL [fs[k].l, fs[k].r]) by rw [treesF_take hlt, mostL_append])
      obtain ⟨X, hX⟩ : ∃ X, X = fs[k].l := ⟨_, rfl⟩
      obtain ⟨Y, hY⟩ : ∃ Y, Y = fs[k].r := ⟨_, rfl⟩
      rw [← hX] at c1 c2 t1 HMX HTK
      rw [← hY] at c3 c4 t2 HMX HTK
      have HOX := Lib.hid (treeF_ok.1 (HOK.out X HMX.out.1)); have HOY := Lib.hid (treeF_ok.1 (HOK.out Y HMX.out.2))
      obtain ⟨bq, hbq⟩ : ∃ b, b = wr.heap.size := ⟨_, rfl⟩
      have S2 := S.add (.treeP p (.agg #[.int .i64 X.head, .slice ka X.kids.length (X.kids.length + sa)]) X) t1
      have S2 := S2.add (.treeP p (.agg #[.int .i64 Y.head, .slice kb Y.kids.length (Y.kids.length + sb)]) Y) t2
      have S3 := (S2.box hbq.symm #[.bool fs[k].neg, .int .i64 X.head, .slice ka X.kids.length (X.kids.length + sa), .int .i64 Y.head, .slice kb Y.kids.length (Y.kids.length + sb)] 62).box (b := bq + 1) (by simp [hbq]) #[.int .i64 X.head, .slice ka X.kids.length (X.kids.length + sa), .int .i64 Y.head, .slice kb Y.kids.length (Y.kids.length + sb)] 38
      have HMB := Lib.hid (mostL_bound (l := [X, Y]) (fun t ht => by
        simp at ht
        rcases ht with rfl | rfl
        · exact HOK.out _ HMX.out.1
        · exact HOK.out _ HMX.out.2))
      clear hX hY S S2 t1 t2
      go_wp2_with fail
      rw [← hbq]
      refine S3.gen (z := bq + 2) (by simp [hbq]) ?_
      intro w4 z4 S
      have HBQ := Lib.hid (show bx + 1 ≤ bq by omega)
      clear S3 hbq c0 c1 c2 c3 c4
      have hra : RowAt w4 (some ⟨bq + 1, 0, none⟩) [X, Y] := by
        intro i hi
        rcases (show i = 0 ∨ i = 1 by simp at hi; omega) with rfl | rfl
        · exact ⟨bq + 1, 0, ka, sa, rfl, (S.cell 4 0 rfl).1, (S.cell 4 1 rfl).1, (S.treeP 1).at⟩
        · exact ⟨bq + 1, 0, kb, sb, rfl, (S.cell 4 2 rfl).1, (S.cell 4 3 rfl).1, (S.treeP 2).at⟩
      refine (S.quiet (max47 [X, Y] (some ⟨bq + 1, 0, none⟩) 2 w4 hra (by simp) (fun i hi => by
        rcases (show i = 0 ∨ i = 1 by simp at hi; omega) with rfl | rfl
        · exact ⟨by have h1 := HOX.out.1; show X.size ≤ _; omega, by have h1 := HOX.out.2.1; show X.deep ≤ _; omega, HOX.out.2.2⟩
        · exact ⟨by have h1 := HOY.out.1; show Y.size ≤ _; omega, by have h1 := HOY.out.2.1; show Y.deep ≤ _; omega, HOY.out.2.2⟩))).mono ?_
      rintro e w5 ⟨rfl, z5, S5⟩
      obtain ⟨V, hV⟩ : ∃ V, V = mostL [X, Y] := ⟨_, rfl⟩
      rw [← hV]
      have hvb := HMB.out
      rw [← hV] at hvb
      have HNX := Lib.hid (show mostL (treesF (fs.take (k + 1))) = max M V by rw [HTK.out, ← HM.out, hV])
      have S6 := S5.pick [0]
      have hz5 : bx + 1 ≤ w5.heap.size := by have := HBQ.out; omega
      clear S S5 hV hra
      by_cases hc : M < V
      · go_wp2_with fail
        all_goals first
          | (exfalso; omega)
          | (go_roundw
             case rel => exact ⟨k + 1, _, by omega, by go_num, rfl, by rw [HNX.out]; omega, hz5, S6⟩
             case measure => simp [intOf] <;> omega)
      · go_wp2_with fail
        all_goals first
          | (exfalso; omega)
          | (go_roundw
             case rel => exact ⟨k + 1, _, by omega, by go_num, rfl, by rw [HNX.out]; omega, hz5, S6⟩
             case measure => simp [intOf] <;> omega)
    · obtain rfl : k = fs.length := by omega
      have HFI := Lib.hid (show M = mostL (treesF fs) by rw [HM.out, List.take_length])
      have SC := Lib.hid S.bel
      clear S
      go_wp2_with fail
      go_ret
      exact ⟨ret_int HFI.out, SC.out⟩
end Go.Proofs.Ytlhnfdjidjgfgaa
