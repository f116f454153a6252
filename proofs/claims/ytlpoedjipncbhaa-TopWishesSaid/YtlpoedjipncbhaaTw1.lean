/-
  Walks: all.Each: an iterator over the assignments under which all clauses hold.
-/
import Derived.Test.YtlpoedjipncbhaaProg
import Derived.Test.YtlpoedjipncbhaaTd7
import Derived.Test.YtlpoedjipncbhaaRs
import Derived.IntWalk
namespace Go.Proofs.Ytlpoedjipncbhaa
open Go.RowKit Go.Shelf
set_option linter.unusedVariables false
set_option linter.unusedSimpArgs false
set_option maxHeartbeats 400000
attribute [local go_sem] Oper.semAt_some

theorem abides_below {β : Type} {B : Nat} {J : β → World → Prop} (h : AbidesFrom B J) {s : β} {W W' : World} (hs : J s W) (hb : Below W.heap.size W W') : J s W' :=
  h s W W' none hs ⟨hb.os, hb.tape, hb.output, hb.size, fun k hk _ => hb.block k hk⟩ (fun r e => by cases e)
/-- what is yielded: assignment number k, in block g -/
structure AX where
  k : Nat
  g : Nat
def AX.encs (x : AX) : Array Value := #[.slice (some ⟨x.g, 0, none⟩) 5 5]
def AX.says (cs : List (List Int)) (m₀ : Nat) (W : World) (x : AX) : Prop := W.heap[x.g]? = some (.cells (cellsF Value.bool (asgL x.k)) 4 (0, 0)) ∧ m₀ ≤ x.g ∧ x.k < 32 ∧ allT (fB (asgL x.k)) cs = true
/-- a round may turn what lies from n₀ on, but for these two blocks -/
def KpE (n₀ b1 b2 : Nat) (A B : World) : Prop := Below n₀ A B ∧ B.heap[b1]? = A.heap[b1]? ∧ B.heap[b2]? = A.heap[b2]?
theorem KpE.trans {n₀ b1 b2 : Nat} {A B C : World} (h : KpE n₀ b1 b2 A B) (k : KpE n₀ b1 b2 B C) : KpE n₀ b1 b2 A C := ⟨h.1.trans k.1, k.2.1.trans h.2.1, k.2.2.trans h.2.2⟩
theorem KpE.below {n₀ b1 b2 : Nat} {A B : World} (h : Below A.heap.size A B) (hn : n₀ ≤ A.heap.size) (h1 : b1 < A.heap.size) (h2 : b2 < A.heap.size) : KpE n₀ b1 b2 A B := ⟨h.mono hn, h.block b1 h1, h.block b2 h2⟩
/-- the assignments, below n, under which all hold -/
def satsN (cs : List (List Int)) (n : Nat) : List Nat := (List.range n).filter (fun k => allT (fB (asgL k)) cs)
theorem satsN_succ (cs : List (List Int)) (n : Nat) : satsN cs (n + 1) = satsN cs n ++ (if allT (fB (asgL n)) cs then [n] else []) := by
  unfold satsN
  rw [List.range_succ, List.filter_append]
  congr 1
  rw [List.filter_cons, List.filter_nil]
theorem satsN_len (cs : List (List Int)) (k : Nat) : (satsN cs k).length ≤ k := by
  unfold satsN
  have h := List.length_filter_le (fun k => allT (fB (asgL k)) cs) (List.range k)
  rw [List.length_range] at h
  exact h
theorem satsN_prefix (cs : List (List Int)) {a b : Nat} (h : a ≤ b) : satsN cs a <+: satsN cs b := by
  obtain ⟨c, rfl⟩ : ∃ c, b = a + c := ⟨b - a, by omega⟩
  clear h
  induction c with
  | zero => exact List.prefix_rfl
  | succ c ih => rw [show a + (c + 1) = a + c + 1 by omega, satsN_succ]; exact ih.trans (List.prefix_append _ _)
set_option maxRecDepth 100000 in
set_option maxHeartbeats 4000000 in
theorem each_says (cs : List (List Int)) (q : Nat → Prop) (ko : Option Addr) (kc n₀ b1 b2 : Nat) (v0 : World) (hG : ∀ c ∈ cs, ∀ l ∈ c, l ≠ 0 ∧ l.natAbs ≤ 5) (hcl : cs.length ≤ maxLen) (hrow : intsE.Row q v0 ko cs) (hq : ∀ b, q b → b < n₀) (hn0 : n₀ ≤ v0.heap.size)
    (h1 : v0.heap[b1]? = some (.cells #[.int .i64 5] 3 (0, 0))) (h2 : v0.heap[b2]? = some (.cells #[.slice ko cs.length kc] 23 (0, 0))) :
    SeqSays 41 #[.pointer (some ⟨b1, 0, none⟩), .pointer (some ⟨b2, 0, none⟩)] AX.encs (AX.says cs v0.heap.size) (KpE n₀ b1 b2) (fun xs => xs.map (·.k) = satsN cs 32) (fun xs => xs.map (·.k) <+: satsN cs 32) 32 v0 := by
  intro l J Jx W hW hJ hJx hY h0
  have HY := Lib.hid hY; have HJ := Lib.hid hJ; have H0 := Lib.hid h0; have HR := Lib.hid hrow; have HG := Lib.hid hG; have HQ := Lib.hid hq; have HC := Lib.hid hcl
  have hlb1 := heap_lt h1
  have hlb2 := heap_lt h2
  have HB1 := Lib.hid ((hW.block b1 hlb1).trans h1)
  have HB2 := Lib.hid ((hW.block b2 hlb2).trans h2)
  have hsW := hW.size
  have HW := Lib.hid hW
  obtain ⟨x0, _⟩ := box1 HB1.out
  clear hY hJ hJx h0 hrow hG hq hcl h1 h2 hW
  refine callsIn_wide.2 ?_
  go_enter Try.func41, Try.ntmps41
  go_wp2_with fail
  go_loopw [8] (fun i wr => ∃ (k : Nat) (ys : List AX), k ≤ 32 ∧ i = .int .i64 k ∧ ys.map (·.k) = satsN cs k ∧ J ys wr ∧ KpE n₀ b1 b2 W wr) (fun i _ => 32 - (intOf i).toNat)
  case atStart => exact ⟨0, [], by omega, rfl, rfl, H0.out, ⟨Below.refl _ _, rfl, rfl⟩⟩
  case round =>
    clear x0
    obtain ⟨k, ys, hk, rfl, hys, hjk, hkp⟩ := hrel
    have HYS := Lib.hid hys; have HJK := Lib.hid hjk; have HKP := Lib.hid hkp
    by_cases hlt : k < 32
    · have hlti : (k : Int) < 32 := by omega
      obtain ⟨x0, _⟩ := box1 (hkp.2.1.trans HB1.out)
      have hws : W.heap.size ≤ wr.heap.size := hkp.1.size
      clear hys hjk hkp
      go_wp2_with fail
      refine (assign36 k wr hlt).mono ?_
      rintro e w2 ⟨g, rfl, hgw, hra, hb2⟩
      have HB := Lib.hid hb2
      have HRA := Lib.hid hra
      have hws2 := hb2.size
      obtain ⟨x2, _⟩ := box1 ((HKP.out.2.2.trans HB2.out))
      have y2 := Below.cellOf hb2 x2
      have HRO : Hid (intsE.Row q w2 ko cs) := Lib.hid ((HR.out.keep (q := q) (w' := W) (fun b hb hl => ⟨HW.out.block b hl, hb⟩)).keep (fun b hb hl => ⟨((hb2.block b (by omega)).trans (HKP.out.1.block b (HQ.out b hb))), hb⟩))
      have HAL := Lib.hid (all25 (fun b => wr.heap.size ≤ b) q ko (some ⟨g, 0, none⟩) cs (asgL k) kc 5 w2 (fun c hc l hl => by rw [asgL_length]; exact HG.out c hc l hl) HC.out (by rw [asgL_length]; omega) HRO.out (row_cellsB hgw hra))
      rw [asgL_length] at HAL
      clear hb2 hra x0 x2
      go_upto_region 4 with fail
      refine (wpIn_wide (n := 3)).1 ?_
      gi_wp2_with fail
      refine ⟨trivial, ?_⟩
      refine (callsIn_wide.2 HAL.out).mono ?_
      rintro e w3 ⟨rfl, hb3⟩
      have HB3 := Lib.hid (Below.step HB.out hb3)
      have HRA3 := Lib.hid ((hb3.block g (heap_lt HRA.out)).trans HRA.out)
      clear hb3 y2
      have HJ3 := Lib.hid (abides_below HJ.out HJK.out HB3.out)
      cases hA : allT (fB (asgL k)) cs with
      | false =>
        have HS := Lib.hid (show satsN cs (k + 1) = satsN cs k by rw [satsN_succ, hA]; simp)
        clear hA
        gi_wp2_with fail
        refine ⟨fun _ _ => trivial, ?_⟩
        iterate 2 (go_wp2_with fail; refine ⟨fun _ _ => trivial, ?_⟩)
        go_simp
        gi_step
        go_wp2_with fail
        go_roundw
        case rel => exact ⟨k + 1, ys, by omega, by go_num, by rw [HS.out]; exact HYS.out, HJ3.out, HKP.out.trans (KpE.below HB3.out (by omega) (by omega) (by omega))⟩
        case measure => simp [intOf] <;> omega
      | true =>
        have HS := Lib.hid (show satsN cs (k + 1) = satsN cs k ++ [k] by rw [satsN_succ, hA]; simp)
        have HYL := Lib.hid (HY.out ys ⟨k, g⟩ w3 HJ3.out (by have h1 := congrArg List.length HYS.out; rw [List.length_map] at h1; have h2 := satsN_len cs k; omega) ⟨HRA3.out, by show v0.heap.size ≤ g; omega, hlt, hA⟩)
        clear hA
        obtain ⟨fn, tmps, assign, body, hy, hR⟩ := HYL.out
        dsimp only [AX.encs] at hy
        have HRR := Lib.hid hR
        clear hR
        gi_wp2_with fail
        refine HRR.out.mono ?_
        clear hy
        rintro e W2 (⟨rfl, hJ4, hK4⟩ | ⟨rfl, hX4⟩)
        · have HJ4 := Lib.hid hJ4
          have HK4 := Lib.hid ((HKP.out.trans (KpE.below HB3.out (by omega) (by omega) (by omega))).trans hK4)
          clear hJ4 hK4
          iterate 2 (go_wp2_with fail; refine ⟨fun _ _ => trivial, ?_⟩)
          go_simp
          gi_step
          go_wp2_with fail
          go_roundw
          case rel => exact ⟨k + 1, ys ++ [⟨k, g⟩], by omega, by go_num, by rw [HS.out, List.map_append, HYS.out]; rfl, HJ4.out, HK4.out⟩
          case measure => simp [intOf] <;> omega
        · have HX4 := Lib.hid hX4
          clear hX4
          iterate 2 (go_wp2_with fail; refine ⟨fun _ _ => trivial, ?_⟩)
          go_simp
          gi_step
          go_wp2_with fail
          refine bodyPost_ret (v := .tuple #[]) (by simp [results, Try.results41, go_sem]) rfl ?_
          exact ⟨⟨_, rfl⟩, .inr ⟨_, by rw [List.map_append, HYS.out]; show satsN cs k ++ [k] <+: _; rw [← HS.out]; exact satsN_prefix cs (by omega), HX4.out⟩⟩
    · obtain rfl : k = 32 := by omega
      obtain ⟨x0, _⟩ := box1 (hkp.2.1.trans HB1.out)
      clear hys hjk hkp
      go_wp2_with fail
      go_end0
      exact ⟨⟨_, rfl⟩, .inl ⟨ys, HYS.out, HJK.out⟩⟩
set_option maxRecDepth 100000 in
theorem each22 (ko : Option Addr) (kn kc : Nat) (n : Int) (w : World) : Calls Try.prog 22 #[.slice ko kn kc, .int .i64 n] w fun e w' => e = .returned (.func (.func 41) #[] #[.pointer (some ⟨w.heap.size + 1, 0, none⟩), .pointer (some ⟨w.heap.size, 0, none⟩)]) ∧ w' = (w.alloc (.cells #[.slice ko kn kc] 23)).alloc (.cells #[.int .i64 n] 3) := by
  go_enter Try.func22, Try.ntmps22
  go_wp2_with fail
  go_ret
  exact ⟨rfl, by first | rfl | trivial⟩
end Go.Proofs.Ytlpoedjipncbhaa
