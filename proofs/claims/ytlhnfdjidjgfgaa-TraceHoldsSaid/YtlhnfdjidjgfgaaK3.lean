/-
  Walks: slices.Grow of nothing, slices.Concat of facts.
-/
import Derived.Test.YtlhnfdjidjgfgaaProg
import Derived.Test.YtlhnfdjidjgfgaaK2
import Derived.Deep.DeepCutAuto
import Derived.Deep.Upon
namespace Go.Proofs.Ytlhnfdjidjgfgaa
open Go.RowKit Go.Shelf
set_option linter.unusedVariables false
set_option maxHeartbeats 400000

set_option maxRecDepth 100000 in
set_option maxHeartbeats 4000000 in
theorem grow155 (n : Nat) (p : Nat → Prop) (w : World) (h0 : 0 < n) (hn : n ≤ 1000) :
    Calls Try.prog 155 #[.slice none 0 0, .int .i64 n] w fun e w' => ∃ g cap, e = .returned (.slice (some ⟨g, 0, none⟩) 0 cap) ∧ factE.Own p w.heap.size w' (.slice (some ⟨g, 0, none⟩) 0 cap) [] ∧ Below w.heap.size w w' := by
  obtain ⟨iI, gi, gz0, gz1, gz2⟩ := info_parts infoFc
  have hr := fun ty => Lib.run_append_nil_zeros (P := Try.prog) w 39 3 ty 62 iI _ .i64 .i64 Try.underlying39 Try.underlying3 gi gz0 n h0 (by rw [gz1]; omega) (by omega) (by rw [gz2]; omega)
  have hge := grownCap_ge w n 0 62
  have hcm := grownCap_le_maxLen w n 0 62 (by unfold maxLen; omega)
  obtain ⟨cap, hcap⟩ : ∃ cap, cap = grownCap w n 0 62 := ⟨_, rfl⟩
  rw [← hcap] at hge hcm
  have hr' := hr
  simp only [← hcap] at hr'
  have hcm' : cap ≤ 9223372036854775807 := hcm
  have hni : ¬ (n : Int) < 0 := by omega
  have hnp : (0 : Int) < (n : Int) := by omega
  have HR := Lib.hid hr'
  obtain ⟨W1, hW1⟩ : ∃ W1, W1 = w.drew.alloc (.cells (Builtin.zeroCells (Value.agg #[.bool false, .int .i64 0, .slice none 0 0, .int .i64 0, .slice none 0 0]).cells n ++ Builtin.zeroCells (Value.agg #[.bool false, .int .i64 0, .slice none 0 0, .int .i64 0, .slice none 0 0]).cells (cap - n)) 62) := ⟨_, rfl⟩
  rw [← hW1] at HR
  have HO := Lib.hid (show factE.Own p w.heap.size W1 (.slice (some ⟨w.heap.size, 0, none⟩) 0 cap) [] by
    refine ⟨[], rfl, ⟨by simp, .inr ⟨w.heap.size, cap, _, rfl, Nat.le_refl _, by rw [hW1]; exact heap_alloc_new w.drew _, by simp, hcm, ?_, by simp⟩⟩, fun i cs x h => by simp at h⟩
    simp only [Array.size_append, Builtin.zeroCells, Array.size_map, Array.size_range]
    show n * 5 + (cap - n) * 5 = cap * 5
    omega)
  have HB := Lib.hid (show Below w.heap.size w W1 by rw [hW1]; exact (Below.refl _ w).drew.alloc (Nat.le_refl _) _)
  clear hr hr' hcap hW1
  go_enter Try.func155, Try.ntmps155
  go_wp2_with (at_builtin; refine Lib.wpList_append_run _ rfl (.tmp 20) (.tmp 21) 39 3 rfl (.slice none 0 0) (.int .i64 n) rfl rfl (.slice (some ⟨w.heap.size, 0, none⟩) n cap) W1 (HR.out _) ?_)
  go_ret
  exact ⟨_, cap, rfl, HO.out, HB.out⟩

def flatP (prt : Nat → List Fc) : Nat → List Fc
  | 0 => []
  | k + 1 => flatP prt k ++ prt k
theorem flatP_le (prt : Nat → List Fc) {k n : Nat} (h : k ≤ n) : (flatP prt k).length ≤ (flatP prt n).length := by
  induction n with
  | zero => have : k = 0 := by omega
            subst this; exact Nat.le_refl _
  | succ n ih =>
    by_cases e : k = n + 1
    · subst e; exact Nat.le_refl _
    · have := ih (by omega)
      simp only [flatP, List.length_append]; omega
theorem src_none {P : Program} {w : World} {t e : TypeId} (ht : P.underlying t = some (.slice e)) (size : Nat) (ad : Addr) (c : Nat) : Src P size t (.slice (some ad) 0 c) 0 [] w where
  kind := .inl ⟨e, ht⟩
  len := fun w' => by simp [Builtin.lenOf]
  cells := by
    have h := run_firstCells_some (P := P) w size 0 ad 0 c [] (by simp) (fun j u h => by simp at h)
    simpa using h
  cellsD := by
    have h := run_firstCells_some (P := P) w.drew size 0 ad 0 c [] (by simp) (fun j u h => by simp at h)
    simpa using h
  newsLen := by simp
  one := fun u h => by simp at h

set_option maxRecDepth 100000 in
set_option maxHeartbeats 4000000 in
theorem concat141 (n : Nat) (prt : Nat → List Fc) (pad : Nat → Addr) (pcp : Nat → Nat) (bt ot c : Nat) (q : Nat → Prop) (w : World) (hcells : ∀ k, k < n → w.cell? ⟨bt, ot + k, none⟩ = some (.slice (some (pad k)) (prt k).length (pcp k))) (hrow : ∀ k, k < n → factE.Row q w (some (pad k)) (prt k)) (hq : ∀ b, q b → b < w.heap.size) (hn : n ≤ 100) (ht : (flatP prt n).length ≤ 1000) (h0 : 0 < (flatP prt n).length) :
    Calls Try.prog 141 #[.slice (some ⟨bt, ot, none⟩) n c] w fun e w' => ∃ g cap, e = .returned (.slice (some ⟨g, 0, none⟩) (flatP prt n).length cap) ∧ factE.Own q w.heap.size w' (.slice (some ⟨g, 0, none⟩) (flatP prt n).length cap) (flatP prt n) ∧ Below w.heap.size w w' := by
  have HC := Lib.hid hcells; have HR := Lib.hid hrow; have HQ := Lib.hid hq
  clear hcells hrow hq
  obtain ⟨iI, gi, gz0, gz1, gz2⟩ := info_parts infoFc
  go_enter Try.func141, Try.ntmps141
  go_wp2_with fail
  go_loopw [3, 11] (fun s i wr => ∃ k : Nat, k ≤ n ∧ s = .int .i64 (flatP prt k).length ∧ i = .int .i64 k ∧ wr = w) (fun _ i _ => n - (intOf i).toNat)
  case atStart => exact ⟨0, by omega, rfl, rfl, rfl⟩
  case round =>
    obtain ⟨k, hk, rfl, rfl, rfl⟩ := hrel
    by_cases hlt : k < n
    · have hlti : (k : Int) < (n : Int) := by omega
      have c0 := HC.out k hlt
      have hle := flatP_le prt (show k + 1 ≤ n by omega)
      have hsum : ((flatP prt k).length : Int) + ((prt k).length : Int) = ((flatP prt (k + 1)).length : Int) := by simp only [flatP, List.length_append]; omega
      have hsn : ¬ ((flatP prt (k + 1)).length : Int) < 0 := by omega
      have hw64 : wrap64 (((flatP prt k).length : Int) + ((prt k).length : Int)) = ((flatP prt (k + 1)).length : Int) := by rw [hsum]; unfold wrap64; omega
      have HSUM := Lib.hid hsum
      have HW64 := Lib.hid hw64
      clear hsum
      go_wp2_with fail
      go_roundw
      case rel => exact ⟨k + 1, by omega, by rw [HW64.out], by go_num, trivial⟩
      case measure => simp [intOf] <;> omega
    · obtain rfl : k = n := by omega
      obtain ⟨N, hN⟩ : ∃ N, N = flatP prt k := ⟨_, rfl⟩
      obtain ⟨w0, hw0⟩ : ∃ W, W = wr := ⟨_, rfl⟩
      subst hw0
      go_wp2_with fail
      refine (grow155 (flatP prt k).length q w0 h0 ht).mono ?_
      rintro e w1 ⟨g, cap, rfl, ho, hb⟩
      have S : St w0 w1 [.owns factE w0.heap.size q (.slice (some ⟨g, 0, none⟩) 0 cap) (flatP prt 0)] := ((St.start w0).step hb).add (.owns factE w0.heap.size q (.slice (some ⟨g, 0, none⟩) 0 cap) []) ho
      have hz1 := hb.size
      clear ho hb
      go_wp2_with fail
      go_loopw [6, 27] (fun o i wr => ∃ (j g cap : Nat), j ≤ k ∧ o = .slice (some ⟨g, 0, none⟩) (flatP prt j).length cap ∧ i = .int .i64 j ∧ w0.heap.size ≤ wr.heap.size ∧ St w0 wr [.owns factE w0.heap.size q (.slice (some ⟨g, 0, none⟩) (flatP prt j).length cap) (flatP prt j)]) (fun _ i _ => k - (intOf i).toNat)
      case atStart => exact ⟨0, g, cap, by omega, rfl, rfl, hz1, S⟩
      case round =>
        clear S hz1
        obtain ⟨j, g, cap, hj, rfl, rfl, hz1, S⟩ := hrel
        by_cases hlt2 : j < k
        · have hlti : (j : Int) < (k : Int) := by omega
          have c0 := Below.cellOf S.bel (HC.out j hlt2)
          have hle := flatP_le prt (show j + 1 ≤ k by omega)
          have hll : (flatP prt j).length + (prt j).length ≤ 1000 := by have : (flatP prt (j + 1)).length = (flatP prt j).length + (prt j).length := by simp [flatP]
                                                                        omega
          by_cases hm : 0 < (prt j).length
          · go_wp2_with (at_builtin; refine wpList_appRow rfl (.tmp 31) (.tmp 32) 39 rfl factE S 0 rfl (q := q) (p' := q) (ad := pad j) (c := pcp j) ((HR.out j hlt2).kept S.bel) hm Try.underlying39 gi gz0 gz1 gz2 rfl rfl ?v1 ?v2 ?c1 ?c2 ?c3 ?c4 ?c5 ?c6 ?c7 ?_)
            case v1 => rfl
            case v2 => rfl
            case c1 => unfold maxLen; omega
            case c2 => omega
            case c3 => exact hz1
            case c4 => exact Nat.le_refl _
            case c5 => intro b h1 h2 h3; simp only [offs, offAll]
            case c6 => intro b h1 h2; have h3 := HQ.out b h1; have h4 := (S.ownlt factE 0 rfl b h2).1; omega
            case c7 => intro b h1; rcases h1 with h1 | h1 <;> exact h1
            intro gg cap2 w3 S2 hs3 hgg hat
            have hlen : (flatP prt j).length + (prt j).length = (flatP prt (j + 1)).length := by simp [flatP]
            rw [hlen] at S2 ⊢
            have S3 := Lib.hid S2
            have hz3 : w0.heap.size ≤ w3.heap.size := by omega
            clear S S2 hat c0 hlen
            go_wp2_with fail
            go_roundw
            case rel => exact ⟨j + 1, gg, cap2, by omega, rfl, by go_num, hz3, S3.out⟩
            case measure => simp [intOf] <;> omega
          · have he : prt j = [] := List.eq_nil_of_length_eq_zero (by omega)
            have hl0 : (prt j).length = 0 := by omega
            have hfl : flatP prt (j + 1) = flatP prt j := by simp [flatP, he]
            have hcap : (flatP prt j).length ≤ cap := by
              obtain ⟨css, _, ho, _⟩ := S.owns factE 0
              obtain ⟨_, _, _, h, _⟩ := ownsRow_cell ho
              exact h
            have HRUN := Lib.hid (fun ty => run_append_nothing (P := Try.prog) wr 39 39 ty 62 iI Try.underlying39 gi (some ⟨g, 0, none⟩) (flatP prt j).length cap hcap _ (src_none Try.underlying39 iI.size (pad j) (pcp j)))
            have S3 := Lib.hid S
            rw [hl0] at c0
            clear S hl0 he
            go_wp2_with (at_builtin; refine Lib.wpList_append_run _ rfl (.tmp 31) (.tmp 32) 39 39 rfl (.slice (some ⟨g, 0, none⟩) (flatP prt j).length cap) (.slice (some (pad j)) 0 (pcp j)) rfl rfl _ _ (HRUN.out _) ?_)
            go_roundw
            case rel => exact ⟨j + 1, g, cap, by omega, by rw [hfl], by go_num, hz1, by rw [hfl]; exact S3.out⟩
            case measure => simp [intOf] <;> omega
        · obtain rfl : j = k := by omega
          have SO := Lib.hid (S.owns factE 0)
          have SE := Lib.hid S.bel
          clear S
          go_wp2_with fail
          go_ret
          exact ⟨g, cap, rfl, SO.out, SE.out⟩
end Go.Proofs.Ytlhnfdjidjgfgaa
