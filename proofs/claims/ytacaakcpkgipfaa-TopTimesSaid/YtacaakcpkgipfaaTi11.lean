/-
  The law TopTimes: for any raw numbers it answers true.
-/
import Derived.Test.YtacaakcpkgipfaaProg
import Derived.Test.YtacaakcpkgipfaaTi10
import Derived.Test.YtacaakcpkgipfaaG4
import Derived.RegionTactic
import Derived.BigQuiet
import Derived.Deep.DeepCutAuto
namespace Go.Proofs.Ytacaakcpkgipfaa
open Go.RowKit Go.Shelf
set_option linter.unusedVariables false
set_option maxHeartbeats 400000

theorem spanL_app {js : List Jb} {s : List Int} {x : Int} : ∀ {n : Nat}, n ≤ s.length → spanL js (s ++ [x]) n = spanL js s n
  | 0, _ => rfl
  | n + 1, h => by
    rw [spanL, spanL, spanL_app (n := n) (by omega), gT_get (show n < (s ++ [x]).length by simp; omega), gT_get (show n < s.length by omega), List.getElem_append_left (by omega)]
theorem Elt.Row.cellsAt {p : Nat → Prop} {w : World} {ao : Option Addr} {cs : List Int} (h : intE.Row p w ao cs) : CellsAt w ao cs.length (fun j => .int .i64 (gI cs j)) := fun j hj => by
  obtain ⟨b, off, e, _, hc⟩ := h.int hj
  exact ⟨b, off, e, by show _ = some (Value.int .i64 (gI cs j)); rw [gI_get hj]; exact hc⟩
theorem valid_nil : Valid [] [] [] := ⟨⟨rfl, fun i hi => by simp [froms] at hi, fun w hw => by simp at hw⟩, fun i k h1 h2 => by simp at h2⟩
theorem okJ.snoc {js : List Jb} {x : Jb} (h : okJ js) (h1 : 0 ≤ x.long ∧ x.long ≤ 4 ∧ 0 ≤ x.from_ ∧ x.from_ ≤ 3 ∧ 0 ≤ x.mach ∧ x.mach ≤ 1) : okJ (js ++ [x]) := fun i hi => by
  by_cases hlt : i < js.length
  · rw [List.getElem_append_left hlt]; exact h i hlt
  · rw [List.getElem_append_right (by omega)]
    simp only [List.getElem_singleton]
    exact h1
theorem okS.snoc {s : List Int} {x : Int} (h : okS s) (h1 : 0 ≤ x ∧ x ≤ 1000) : okS (s ++ [x]) := fun i hi => by
  by_cases hlt : i < s.length
  · rw [List.getElem_append_left hlt]; exact h i hlt
  · rw [List.getElem_append_right (by omega)]
    simp only [List.getElem_singleton]
    exact h1
theorem own_rowT {α : Type} {E : Elt α} {B : Nat} {w : World} {o : Value} {xs : List α} (h : E.Own (fun _ => False) B w o xs) : ∃ ao sp, o = .slice ao xs.length (xs.length + sp) ∧ E.Row (fun b => b < w.heap.size) w ao xs ∧ (xs ≠ [] → ∃ g, ao = some ⟨g, 0, none⟩) := by
  obtain ⟨ao, sp, rfl, hr, _⟩ := (show E.Own (fun b => B ≤ b) B w o xs from Elt.Own.mono (p := fun _ => False) h (fun b h => False.elim h)).row (fun b h => h)
  refine ⟨ao, sp, rfl, hr.mono (fun b h h2 => h2), fun hne => ?_⟩
  obtain ⟨_, _, ho, _⟩ := h
  rcases ho.2 with ⟨_, hn⟩ | ⟨g, cap, cur, e, _⟩
  · exact absurd (List.eq_nil_of_length_eq_zero hn) hne
  · simp only [Value.slice.injEq] at e
    exact ⟨g, e.1⟩

set_option maxRecDepth 100000 in
set_option maxHeartbeats 8000000 in
theorem topTimes3 (raw was bes : List Int) (ro wo bo : Option Addr) (rc wc_ bc : Nat) (w : World) (hr : intE.Row (fun b => b < w.heap.size) w ro raw) (hw : intE.Row (fun b => b < w.heap.size) w wo was) (hb : intE.Row (fun b => b < w.heap.size) w bo bes) (hrn : raw.length ≤ maxLen) (hwn : was.length ≤ maxLen) (hbn : bes.length ≤ maxLen) :
    Calls Try.prog 3 #[.slice ro raw.length rc, .slice wo was.length wc_, .slice bo bes.length bc] w fun e w' => e = .returned (.bool true) ∧ Below w.heap.size w w' := by
  have HR := Lib.hid hr; have HW := Lib.hid hw; have HBE := Lib.hid hb; have HBN := Lib.hid hbn
  unfold maxLen at hrn hwn
  obtain ⟨iJ, gi, gz0, gz1, gz2⟩ := info_parts infoJ
  obtain ⟨iW, gj, gy0, gy1, gy2⟩ := info_parts infoW
  obtain ⟨iI, gk, gx0, gx1, gx2⟩ := info_parts infoI
  have S := (St.start w).add (.owns jobE w.heap.size (fun _ => False) (.slice none 0 0) []) (Elt.Own.nil _ _ _ _)
  clear hr hw hb hbn
  go_enter Try.func3, Try.ntmps3
  go_wp2_with fail
  go_loopw [7, 8] (fun o i wr => ∃ (k : Nat) (js : List Jb), k ≤ raw.length ∧ k ≤ 3 ∧ i = .int .i64 k ∧ w.heap.size ≤ wr.heap.size ∧ St w wr [.owns jobE w.heap.size (fun _ => False) o js] ∧ Hid (js.length = k ∧ okJ js)) (fun _ i _ => 3 - (intOf i).toNat)
  case atStart => exact ⟨0, [], by omega, by omega, rfl, Nat.le_refl _, S, Lib.hid ⟨rfl, fun i hi => by simp at hi⟩⟩
  case round =>
    clear S
    obtain ⟨k, js, hk, hk3, rfl, hz, S, HJS⟩ := hrel
    go_upto_region 3 with fail
    go_cut [35] (fun tt W => tt = .bool (decide (k < raw.length ∧ k < 3)) ∧ W = wr)
    case first =>
      by_cases g1 : (k : Int) < (raw.length : Int)
      · by_cases g2 : (k : Int) < 3
        · skip
          have HD := Lib.hid (show true = decide (k < raw.length ∧ k < 3) from (decide_eq_true ⟨by omega, by omega⟩).symm)
          go_wp2_with fail
          go_meet
          case rel => exact ⟨congrArg Value.bool HD.out, rfl⟩
        · skip
          have HD := Lib.hid (show false = decide (k < raw.length ∧ k < 3) from (decide_eq_false (fun h => g2 (by omega))).symm)
          go_wp2_with fail
          go_meet
          case rel => exact ⟨congrArg Value.bool HD.out, rfl⟩
      · skip
        have HD := Lib.hid (show false = decide (k < raw.length ∧ k < 3) from (decide_eq_false (fun h => g1 (by omega))).symm)
        go_wp2_with fail
        go_meet
        case rel => exact ⟨congrArg Value.bool HD.out, rfl⟩
    case rest =>
    obtain ⟨htt, hw⟩ := hcut
    replace hw := hw.symm
    subst hw
    subst htt
    by_cases hlt : k < raw.length ∧ k < 3
    · rw [decide_eq_true hlt]
      obtain ⟨hl1, hl2⟩ := hlt
      have hl1i : (k : Int) < (raw.length : Int) := by omega
      have hl2i : (k : Int) < 3 := by omega
      obtain ⟨rb, roff, rfl, _, c0⟩ := (HR.out.kept S.bel).int hl1
      generalize raw[k] = R at c0
      have hjl : js.length ≤ 3 := by rw [HJS.out.1]; omega
      go_wp2_with fail
      have FC := Lib.hid (fun W (hb : Below wr.heap.size wr W) => (Below.cellOf hb c0 : (fun W => W.cell? ⟨rb, roff + k, none⟩ = some (.int .i64 R)) W))
      have SD := S.drew
      have HZ := Lib.hid hz
      clear S c0 hz
      refine wpH_region [20, 21] (fun W => W.cell? ⟨rb, roff + k, none⟩ = some (.int .i64 R)) (by kernel_rfl) ?_
      have HS := FC.out _ (Below.refl _ wr).drew
      refine wpH.take (i := 0) (by kernel_rfl) (by kernel_rfl) (by kernel_rfl) (by kernel_rfl) (by kernel_rfl) HS ?_
      intro oi ho
      simp only [List.getElem?_toArray, List.getElem?_cons_zero, Option.some.injEq] at ho
      subst ho
      refine ⟨?_, Or.inl ⟨by rfl, ?_⟩, fun _ _ _ h => h, ?_⟩
      rotate_left 1
      · intro W hW
        try dsimp only at hW
        go_simp
        try with_reducible rfl
      simp only [Act.put, List.setIfInBounds_toArray, List.set_cons_zero, List.set_cons_succ]
      refine wpH.take (i := 1) (by kernel_rfl) (by kernel_rfl) (by kernel_rfl) (by kernel_rfl) (by kernel_rfl) HS ?_
      intro oi ho
      simp only [List.getElem?_toArray, List.getElem?_cons_succ, List.getElem?_cons_zero, Option.some.injEq] at ho
      subst ho
      refine ⟨?_, Or.inl ⟨by rfl, ?_⟩, fun _ _ _ h => h, ?_⟩
      rotate_left 1
      · intro W hW
        try dsimp only at hW
        go_simp
        try with_reducible rfl
      simp only [Act.put, List.setIfInBounds_toArray, List.set_cons_zero, List.set_cons_succ]
      refine wpH.take (i := 2) (by kernel_rfl) (by kernel_rfl) (by kernel_rfl) (by kernel_rfl) (by kernel_rfl) HS ?_
      intro oi ho
      simp only [List.getElem?_toArray, List.getElem?_cons_succ, List.getElem?_cons_zero, Option.some.injEq] at ho
      subst ho
      refine ⟨?_, Or.inl ⟨by rfl, ?_⟩, fun _ _ _ h => h, ?_⟩
      rotate_left 1
      · intro W hW
        try dsimp only at hW
        go_simp
        try with_reducible rfl
      simp only [Act.put, List.setIfInBounds_toArray, List.set_cons_zero, List.set_cons_succ]
      refine wpH.take (i := 3) (by kernel_rfl) (by kernel_rfl) (by kernel_rfl) (by kernel_rfl) (by kernel_rfl) HS ?_
      intro oi ho
      simp only [List.getElem?_toArray, List.getElem?_cons_succ, List.getElem?_cons_zero, Option.some.injEq] at ho
      subst ho
      refine ⟨?_, Or.inl ⟨by rfl, ?_⟩, fun _ _ _ h => h, ?_⟩
      rotate_left 1
      · intro W hW
        try dsimp only at hW
        go_simp
        try with_reducible rfl
      simp only [Act.put, List.setIfInBounds_toArray, List.set_cons_zero, List.set_cons_succ]
      refine wpH.take (i := 4) (by kernel_rfl) (by kernel_rfl) (by kernel_rfl) (by kernel_rfl) (by kernel_rfl) HS ?_
      intro oi ho
      simp only [List.getElem?_toArray, List.getElem?_cons_succ, List.getElem?_cons_zero, Option.some.injEq] at ho
      subst ho
      refine ⟨?_, Or.inl ⟨by rfl, ?_⟩, fun _ _ _ h => h, ?_⟩
      rotate_left 1
      · intro W hW
        try dsimp only at hW
        go_simp
        try with_reducible rfl
      simp only [Act.put, List.setIfInBounds_toArray, List.set_cons_zero, List.set_cons_succ]
      refine wpH.take (i := 6) (by kernel_rfl) (by kernel_rfl) (by kernel_rfl) (by kernel_rfl) (by kernel_rfl) HS ?_
      intro oi ho
      simp only [List.getElem?_toArray, List.getElem?_cons_succ, List.getElem?_cons_zero, Option.some.injEq] at ho
      subst ho
      refine ⟨?_, Or.inl ⟨by rfl, ?_⟩, fun _ _ _ h => h, ?_⟩
      rotate_left 1
      · intro W hW
        try dsimp only at hW
        go_simp
        try with_reducible rfl
      simp only [Act.put, List.setIfInBounds_toArray, List.set_cons_zero, List.set_cons_succ]
      refine wpH.take (i := 7) (by kernel_rfl) (by kernel_rfl) (by kernel_rfl) (by kernel_rfl) (by kernel_rfl) HS ?_
      intro oi ho
      simp only [List.getElem?_toArray, List.getElem?_cons_succ, List.getElem?_cons_zero, Option.some.injEq] at ho
      subst ho
      refine ⟨?_, Or.inl ⟨by rfl, ?_⟩, fun _ _ _ h => h, ?_⟩
      rotate_left 1
      · intro W hW
        try dsimp only at hW
        go_simp
        try with_reducible rfl
      simp only [Act.put, List.setIfInBounds_toArray, List.set_cons_zero, List.set_cons_succ]
      refine wpH.take (i := 8) (by kernel_rfl) (by kernel_rfl) (by kernel_rfl) (by kernel_rfl) (by kernel_rfl) HS ?_
      intro oi ho
      simp only [List.getElem?_toArray, List.getElem?_cons_succ, List.getElem?_cons_zero, Option.some.injEq] at ho
      subst ho
      refine ⟨?_, Or.inl ⟨by rfl, ?_⟩, fun _ _ _ h => h, ?_⟩
      rotate_left 1
      · intro W hW
        try dsimp only at hW
        go_simp
        try with_reducible rfl
      simp only [Act.put, List.setIfInBounds_toArray, List.set_cons_zero, List.set_cons_succ]
      refine wpH.take (i := 9) (by kernel_rfl) (by kernel_rfl) (by kernel_rfl) (by kernel_rfl) (by kernel_rfl) HS ?_
      intro oi ho
      simp only [List.getElem?_toArray, List.getElem?_cons_succ, List.getElem?_cons_zero, Option.some.injEq] at ho
      subst ho
      refine ⟨?_, Or.inl ⟨by rfl, ?_⟩, fun _ _ _ h => h, ?_⟩
      rotate_left 1
      · intro W hW
        try dsimp only at hW
        go_simp
        try with_reducible rfl
      simp only [Act.put, List.setIfInBounds_toArray, List.set_cons_zero, List.set_cons_succ]
      refine wpH.take (i := 10) (by kernel_rfl) (by kernel_rfl) (by kernel_rfl) (by kernel_rfl) (by kernel_rfl) HS ?_
      intro oi ho
      simp only [List.getElem?_toArray, List.getElem?_cons_succ, List.getElem?_cons_zero, Option.some.injEq] at ho
      subst ho
      refine ⟨?_, Or.inl ⟨by rfl, ?_⟩, fun _ _ _ h => h, ?_⟩
      rotate_left 1
      · intro W hW
        try dsimp only at hW
        go_simp
        try with_reducible rfl
      simp only [Act.put, List.setIfInBounds_toArray, List.set_cons_zero, List.set_cons_succ]
      refine wpH.take (i := 12) (by kernel_rfl) (by kernel_rfl) (by kernel_rfl) (by kernel_rfl) (by kernel_rfl) HS ?_
      intro oi ho
      simp only [List.getElem?_toArray, List.getElem?_cons_succ, List.getElem?_cons_zero, Option.some.injEq] at ho
      subst ho
      refine ⟨?_, Or.inl ⟨by rfl, ?_⟩, fun _ _ _ h => h, ?_⟩
      rotate_left 1
      · intro W hW
        try dsimp only at hW
        go_simp
        try with_reducible rfl
      simp only [Act.put, List.setIfInBounds_toArray, List.set_cons_zero, List.set_cons_succ]
      refine wpH.take (i := 13) (by kernel_rfl) (by kernel_rfl) (by kernel_rfl) (by kernel_rfl) (by kernel_rfl) HS ?_
      intro oi ho
      simp only [List.getElem?_toArray, List.getElem?_cons_succ, List.getElem?_cons_zero, Option.some.injEq] at ho
      subst ho
      refine ⟨?_, Or.inl ⟨by rfl, ?_⟩, fun _ _ _ h => h, ?_⟩
      rotate_left 1
      · intro W hW
        try dsimp only at hW
        go_simp
        try with_reducible rfl
      simp only [Act.put, List.setIfInBounds_toArray, List.set_cons_zero, List.set_cons_succ]
      refine wpH.take (i := 14) (by kernel_rfl) (by kernel_rfl) (by kernel_rfl) (by kernel_rfl) (by kernel_rfl) HS ?_
      intro oi ho
      simp only [List.getElem?_toArray, List.getElem?_cons_succ, List.getElem?_cons_zero, Option.some.injEq] at ho
      subst ho
      refine ⟨?_, Or.inl ⟨by rfl, ?_⟩, fun _ _ _ h => h, ?_⟩
      rotate_left 1
      · intro W hW
        try dsimp only at hW
        go_simp
        try with_reducible rfl
      simp only [Act.put, List.setIfInBounds_toArray, List.set_cons_zero, List.set_cons_succ]
      refine wpH.take (i := 15) (by kernel_rfl) (by kernel_rfl) (by kernel_rfl) (by kernel_rfl) (by kernel_rfl) HS ?_
      intro oi ho
      simp only [List.getElem?_toArray, List.getElem?_cons_succ, List.getElem?_cons_zero, Option.some.injEq] at ho
      subst ho
      refine ⟨?_, Or.inl ⟨by rfl, ?_⟩, fun _ _ _ h => h, ?_⟩
      rotate_left 1
      · intro W hW
        try dsimp only at hW
        go_simp
        try with_reducible rfl
      simp only [Act.put, List.setIfInBounds_toArray, List.set_cons_zero, List.set_cons_succ]
      refine wpH.take (i := 16) (by kernel_rfl) (by kernel_rfl) (by kernel_rfl) (by kernel_rfl) (by kernel_rfl) HS ?_
      intro oi ho
      simp only [List.getElem?_toArray, List.getElem?_cons_succ, List.getElem?_cons_zero, Option.some.injEq] at ho
      subst ho
      refine ⟨?_, Or.inl ⟨by rfl, ?_⟩, fun _ _ _ h => h, ?_⟩
      rotate_left 1
      · intro W hW
        try dsimp only at hW
        go_simp
        try with_reducible rfl
      simp only [Act.put, List.setIfInBounds_toArray, List.set_cons_zero, List.set_cons_succ]
      refine wpH.one (i := 5) (by kernel_rfl) ?_
      intro oi ho
      simp only [List.getElem?_toArray, List.getElem?_cons_succ, List.getElem?_cons_zero, Option.some.injEq] at ho
      subst ho
      intro K' hK
      have HK := Lib.hid hK
      clear hK
      go_simp
      go_at_call 5
      refine (picked5 _ _ _ (by omega) (by omega)).mono ?_
      rintro e W ⟨r0, rfl, h0, h0', hW⟩
      replace hW := hW.symm
      subst hW
      dsimp only
      refine HK.out _ _ (fun _ => FC.out _ (Below.refl _ wr).drew) ?_
      have HS := FC.out _ (Below.refl _ wr).drew
      try simp only [Act.put, List.setIfInBounds_toArray, List.set_cons_zero, List.set_cons_succ]
      refine wpH.one (i := 11) (by kernel_rfl) ?_
      intro oi ho
      simp only [List.getElem?_toArray, List.getElem?_cons_succ, List.getElem?_cons_zero, Option.some.injEq] at ho
      subst ho
      intro K' hK
      have HK := Lib.hid hK
      clear hK
      go_simp
      go_at_call 5
      refine (picked5 _ _ _ (by omega) (by omega)).mono ?_
      rintro e W ⟨r1, rfl, h1, h1', hW⟩
      replace hW := hW.symm
      subst hW
      dsimp only
      refine HK.out _ _ (fun _ => FC.out _ (Below.refl _ wr).drew) ?_
      have HS := FC.out _ (Below.refl _ wr).drew
      try simp only [Act.put, List.setIfInBounds_toArray, List.set_cons_zero, List.set_cons_succ]
      refine wpH.one (i := 17) (by kernel_rfl) ?_
      intro oi ho
      simp only [List.getElem?_toArray, List.getElem?_cons_succ, List.getElem?_cons_zero, Option.some.injEq] at ho
      subst ho
      intro K' hK
      have HK := Lib.hid hK
      clear hK
      go_simp
      go_at_call 5
      refine (picked5 _ _ _ (by omega) (by omega)).mono ?_
      rintro e W ⟨r2, rfl, h2, h2', hW⟩
      replace hW := hW.symm
      subst hW
      dsimp only
      refine HK.out _ _ (fun _ => FC.out _ (Below.refl _ wr).drew) ?_
      have HS := FC.out _ (Below.refl _ wr).drew
      try simp only [Act.put, List.setIfInBounds_toArray, List.set_cons_zero, List.set_cons_succ]
      refine wpH.take (i := 18) (by kernel_rfl) (by kernel_rfl) (by kernel_rfl) (by kernel_rfl) (by kernel_rfl) HS ?_
      intro oi ho
      simp only [List.getElem?_toArray, List.getElem?_cons_succ, List.getElem?_cons_zero, Option.some.injEq] at ho
      subst ho
      refine ⟨?_, Or.inl ⟨by rfl, ?_⟩, fun _ _ _ h => h, ?_⟩
      rotate_left 1
      · intro W hW
        try dsimp only at hW
        go_simp
        try with_reducible rfl
      simp only [Act.put, List.setIfInBounds_toArray, List.set_cons_zero, List.set_cons_succ]
      refine wpH.one (i := 19) (by kernel_rfl) ?_
      intro oi ho
      simp only [List.getElem?_toArray, List.getElem?_cons_succ, List.getElem?_cons_zero, Option.some.injEq] at ho
      subst ho
      intro K' hK
      have HK := Lib.hid hK
      clear hK
      go_simp
      have HBA : Hid (Below wr.heap.size wr (wr.drew.alloc (.cells #[.int .i64 r0, .int .i64 r1, .int .i64 r2] 26))) := Lib.hid ((Below.refl _ wr).drew.alloc (Nat.le_refl _) _)
      refine HK.out _ _ (fun _ => FC.out _ HBA.out) ?_
      have HS := FC.out _ HBA.out
      try simp only [Act.put, List.setIfInBounds_toArray, List.set_cons_zero, List.set_cons_succ]
      refine wpH.one (i := 20) (by kernel_rfl) ?_
      intro oi ho
      simp only [List.getElem?_toArray, List.getElem?_cons_succ, List.getElem?_cons_zero, Option.some.injEq] at ho
      subst ho
      intro K' hK
      have HK := Lib.hid hK
      clear hK
      have HXJ : Hid (jobE.is (fun _ => False) wr.drew [.int .i64 r0, .int .i64 r1, .int .i64 r2] (⟨r0, r1, r2⟩ : Jb)) := Lib.hid (by rfl)
      refine step_app (by rfl) (.tmp 38) (.tmp 57) 23 (by rfl) jobE SD 0 rfl (x := (⟨r0, r1, r2⟩ : Jb)) (q := fun _ => False) (p' := fun _ => False) HXJ.out Try.underlying23 gi gz0 gz1 gz2 (by rfl) (by rfl) (by rfl) (by rfl) (by unfold maxLen; omega) (by omega) (by have := HZ.out; simp; omega) (Nat.le_refl _) (fun bb h1 h2 h3 => by simp only [offs, offAll]) (fun bb h => False.elim h) (fun bb h => h.elim id id) ?_
      intro gg cap w8 S8 hs8 hgg hat8
      refine HK.out _ _ (fun h => absurd h (by decide)) ?_
      try simp only [Act.put, List.setIfInBounds_toArray, List.set_cons_zero, List.set_cons_succ]
      refine wpH.one (i := 21) (by kernel_rfl) ?_
      intro oi ho
      simp only [List.getElem?_toArray, List.getElem?_cons_succ, List.getElem?_cons_zero, Option.some.injEq] at ho
      subst ho
      intro K' hK
      have HK := Lib.hid hK
      clear hK
      go_simp
      refine HK.out _ _ (fun h => absurd h (by decide)) ?_
      try simp only [Act.put, List.setIfInBounds_toArray, List.set_cons_zero, List.set_cons_succ]
      refine wpH.done (by kernel_rfl) ?_
      have SB := Lib.hid S8
      have HJ2 := Lib.hid (show (js ++ [(⟨r0, r1, r2⟩ : Jb)]).length = k + 1 ∧ okJ (js ++ [(⟨r0, r1, r2⟩ : Jb)]) from ⟨by rw [List.length_append, HJS.out.1]; rfl, HJS.out.2.snoc ⟨h0, by show r0 ≤ 4; omega, h2, by show r2 ≤ 3; omega, h1, by show r1 ≤ 1; omega⟩⟩)
      have hz8 : w.heap.size ≤ w8.heap.size := by have := HZ.out; simp at hs8; omega
      have hjk := HJS.out.1
      clear S8 SD HS FC hat8 hs8 hgg
      try go_wp2_with fail
      go_roundw
      case rel => exact ⟨k + 1, js ++ [(⟨r0, r1, r2⟩ : Jb)], by omega, by omega, by go_num, hz8, SB.out, HJ2⟩
      case measure => simp [intOf] <;> omega
    · rw [decide_eq_false hlt]
      have hjl := HJS.out.1
      have HOKJ := Lib.hid HJS.out.2
      have hjn : js.length ≤ 3 := by omega
      obtain ⟨jo, jsp, rfl, hjr, _⟩ := own_rowT (S.owns jobE 0)
      clear hjr
      have S2 := S.add (.owns waitE w.heap.size (fun _ => False) (.slice none 0 0) []) (Elt.Own.nil _ _ _ _)
      have hji : (js.length : Int) ≤ 3 := by omega
      clear S hlt hjl HJS
      go_wp2_with fail
      go_loopw [9, 10] (fun o i wr => ∃ (k : Nat) (ws : List Wt), k ≤ was.length ∧ k ≤ 3 ∧ i = .int .i64 k ∧ w.heap.size ≤ wr.heap.size ∧ St w wr [.owns jobE w.heap.size (fun _ => False) (.slice jo js.length (js.length + jsp)) js, .owns waitE w.heap.size (fun _ => False) o ws] ∧ Hid (ws.length = k ∧ okW js.length ws ∧ (ws = [] → o = .slice none 0 0) ∧ (∀ b, o.ownBlock = some b → (.slice jo js.length (js.length + jsp) : Value).ownBlock ≠ some b))) (fun _ i _ => 3 - (intOf i).toNat)
      case atStart => exact ⟨0, [], by omega, by omega, rfl, hz, S2, Lib.hid ⟨rfl, fun i hi => by simp at hi, fun _ => rfl, fun b h => by simp [Value.ownBlock] at h⟩⟩
      case round =>
        clear S2 hz
        obtain ⟨k, ws, hk, hk3, rfl, hz, S, HX⟩ := hrel
        go_upto_region 8 with fail
        go_cut [71] (fun tt W => tt = .bool (decide (k < was.length ∧ k < 3 ∧ 0 < js.length)) ∧ W = wr)
        case first =>
          by_cases g1 : (k : Int) < (was.length : Int)
          · by_cases g2 : (k : Int) < 3
            · by_cases g3 : 0 < js.length
              · skip
                have HD := Lib.hid (show true = decide (k < was.length ∧ k < 3 ∧ 0 < js.length) from (decide_eq_true ⟨by omega, by omega, by omega⟩).symm)
                go_wp2_with fail
                go_meet
                case rel => exact ⟨congrArg Value.bool HD.out, rfl⟩
              · skip
                have HD := Lib.hid (show false = decide (k < was.length ∧ k < 3 ∧ 0 < js.length) from (decide_eq_false (fun h => g3 (by omega))).symm)
                go_wp2_with fail
                go_meet
                case rel => exact ⟨congrArg Value.bool HD.out, rfl⟩
            · skip
              have HD := Lib.hid (show false = decide (k < was.length ∧ k < 3 ∧ 0 < js.length) from (decide_eq_false (fun h => g2 (by omega))).symm)
              go_wp2_with fail
              go_meet
              case rel => exact ⟨congrArg Value.bool HD.out, rfl⟩
          · skip
            have HD := Lib.hid (show false = decide (k < was.length ∧ k < 3 ∧ 0 < js.length) from (decide_eq_false (fun h => g1 (by omega))).symm)
            go_wp2_with fail
            go_meet
            case rel => exact ⟨congrArg Value.bool HD.out, rfl⟩
        case rest =>
        obtain ⟨htt, hw⟩ := hcut
        replace hw := hw.symm
        subst hw
        subst htt
        by_cases hlt : k < was.length ∧ k < 3 ∧ 0 < js.length
        · rw [decide_eq_true hlt]
          obtain ⟨hl1, hl2, hl3⟩ := hlt
          have hl1i : (k : Int) < (was.length : Int) := by omega
          have hl3i : (0 : Int) < (js.length : Int) := by omega
          obtain ⟨rb, roff, rfl, _, c0⟩ := (HW.out.kept S.bel).int hl1
          generalize was[k] = R at c0
          have hwl : ws.length ≤ 3 := by rw [HX.out.1]; omega
          go_wp2_with fail
          have FC := Lib.hid (fun W (hb : Below wr.heap.size wr W) => (Below.cellOf hb c0 : (fun W => W.cell? ⟨rb, roff + k, none⟩ = some (.int .i64 R)) W))
          have SD := S.drew
          have HZ := Lib.hid hz
          have HOO := Lib.hid (fun bb (h1 : Value.ownBlock u9 = some bb) => show offs bb 1 [.owns jobE w.heap.size (fun _ => False) (.slice jo js.length (js.length + jsp)) js, .owns waitE w.heap.size (fun _ => False) u9 ws] from by
            simp only [offs, offAll, Fct.owns, and_true]
            exact fun e => e.elim (fun e => HX.out.2.2.2 bb h1 e) id)
          have HJO := Lib.hid (fun b (e : (.slice jo js.length (js.length + jsp) : Value).ownBlock = some b) => (S.ownlt jobE 0 rfl b e).2)
          clear S c0 hz
          refine wpH_region [25, 26] (fun W => W.cell? ⟨rb, roff + k, none⟩ = some (.int .i64 R)) (by kernel_rfl) ?_
          have HS := FC.out _ (Below.refl _ wr).drew
          refine wpH.take (i := 0) (by kernel_rfl) (by kernel_rfl) (by kernel_rfl) (by kernel_rfl) (by kernel_rfl) HS ?_
          intro oi ho
          simp only [List.getElem?_toArray, List.getElem?_cons_zero, Option.some.injEq] at ho
          subst ho
          refine ⟨?_, Or.inl ⟨by rfl, ?_⟩, fun _ _ _ h => h, ?_⟩
          rotate_left 1
          · intro W hW
            try dsimp only at hW
            go_simp
            try with_reducible rfl
          simp only [Act.put, List.setIfInBounds_toArray, List.set_cons_zero, List.set_cons_succ]
          refine wpH.take (i := 1) (by kernel_rfl) (by kernel_rfl) (by kernel_rfl) (by kernel_rfl) (by kernel_rfl) HS ?_
          intro oi ho
          simp only [List.getElem?_toArray, List.getElem?_cons_succ, List.getElem?_cons_zero, Option.some.injEq] at ho
          subst ho
          refine ⟨?_, Or.inl ⟨by rfl, ?_⟩, fun _ _ _ h => h, ?_⟩
          rotate_left 1
          · intro W hW
            try dsimp only at hW
            go_simp
            try with_reducible rfl
          simp only [Act.put, List.setIfInBounds_toArray, List.set_cons_zero, List.set_cons_succ]
          refine wpH.take (i := 2) (by kernel_rfl) (by kernel_rfl) (by kernel_rfl) (by kernel_rfl) (by kernel_rfl) HS ?_
          intro oi ho
          simp only [List.getElem?_toArray, List.getElem?_cons_succ, List.getElem?_cons_zero, Option.some.injEq] at ho
          subst ho
          refine ⟨?_, Or.inl ⟨by rfl, ?_⟩, fun _ _ _ h => h, ?_⟩
          rotate_left 1
          · intro W hW
            try dsimp only at hW
            go_simp
            try with_reducible rfl
          simp only [Act.put, List.setIfInBounds_toArray, List.set_cons_zero, List.set_cons_succ]
          refine wpH.take (i := 3) (by kernel_rfl) (by kernel_rfl) (by kernel_rfl) (by kernel_rfl) (by kernel_rfl) HS ?_
          intro oi ho
          simp only [List.getElem?_toArray, List.getElem?_cons_succ, List.getElem?_cons_zero, Option.some.injEq] at ho
          subst ho
          refine ⟨?_, Or.inl ⟨by rfl, ?_⟩, fun _ _ _ h => h, ?_⟩
          rotate_left 1
          · intro W hW
            try dsimp only at hW
            go_simp
            try with_reducible rfl
          simp only [Act.put, List.setIfInBounds_toArray, List.set_cons_zero, List.set_cons_succ]
          refine wpH.take (i := 4) (by kernel_rfl) (by kernel_rfl) (by kernel_rfl) (by kernel_rfl) (by kernel_rfl) HS ?_
          intro oi ho
          simp only [List.getElem?_toArray, List.getElem?_cons_succ, List.getElem?_cons_zero, Option.some.injEq] at ho
          subst ho
          refine ⟨?_, Or.inl ⟨by rfl, ?_⟩, fun _ _ _ h => h, ?_⟩
          rotate_left 1
          · intro W hW
            try dsimp only at hW
            go_simp
            try with_reducible rfl
          simp only [Act.put, List.setIfInBounds_toArray, List.set_cons_zero, List.set_cons_succ]
          refine wpH.take (i := 5) (by kernel_rfl) (by kernel_rfl) (by kernel_rfl) (by kernel_rfl) (by kernel_rfl) HS ?_
          intro oi ho
          simp only [List.getElem?_toArray, List.getElem?_cons_succ, List.getElem?_cons_zero, Option.some.injEq] at ho
          subst ho
          refine ⟨?_, Or.inl ⟨by rfl, ?_⟩, fun _ _ _ h => h, ?_⟩
          rotate_left 1
          · intro W hW
            try dsimp only at hW
            go_simp
            try with_reducible rfl
          simp only [Act.put, List.setIfInBounds_toArray, List.set_cons_zero, List.set_cons_succ]
          refine wpH.take (i := 6) (by kernel_rfl) (by kernel_rfl) (by kernel_rfl) (by kernel_rfl) (by kernel_rfl) HS ?_
          intro oi ho
          simp only [List.getElem?_toArray, List.getElem?_cons_succ, List.getElem?_cons_zero, Option.some.injEq] at ho
          subst ho
          refine ⟨?_, Or.inl ⟨by rfl, ?_⟩, fun _ _ _ h => h, ?_⟩
          rotate_left 1
          · intro W hW
            try dsimp only at hW
            go_simp
            try with_reducible rfl
          simp only [Act.put, List.setIfInBounds_toArray, List.set_cons_zero, List.set_cons_succ]
          refine wpH.take (i := 8) (by kernel_rfl) (by kernel_rfl) (by kernel_rfl) (by kernel_rfl) (by kernel_rfl) HS ?_
          intro oi ho
          simp only [List.getElem?_toArray, List.getElem?_cons_succ, List.getElem?_cons_zero, Option.some.injEq] at ho
          subst ho
          refine ⟨?_, Or.inl ⟨by rfl, ?_⟩, fun _ _ _ h => h, ?_⟩
          rotate_left 1
          · intro W hW
            try dsimp only at hW
            go_simp
            try with_reducible rfl
          simp only [Act.put, List.setIfInBounds_toArray, List.set_cons_zero, List.set_cons_succ]
          refine wpH.take (i := 9) (by kernel_rfl) (by kernel_rfl) (by kernel_rfl) (by kernel_rfl) (by kernel_rfl) HS ?_
          intro oi ho
          simp only [List.getElem?_toArray, List.getElem?_cons_succ, List.getElem?_cons_zero, Option.some.injEq] at ho
          subst ho
          refine ⟨?_, Or.inl ⟨by rfl, ?_⟩, fun _ _ _ h => h, ?_⟩
          rotate_left 1
          · intro W hW
            try dsimp only at hW
            go_simp
            try with_reducible rfl
          simp only [Act.put, List.setIfInBounds_toArray, List.set_cons_zero, List.set_cons_succ]
          refine wpH.take (i := 10) (by kernel_rfl) (by kernel_rfl) (by kernel_rfl) (by kernel_rfl) (by kernel_rfl) HS ?_
          intro oi ho
          simp only [List.getElem?_toArray, List.getElem?_cons_succ, List.getElem?_cons_zero, Option.some.injEq] at ho
          subst ho
          refine ⟨?_, Or.inl ⟨by rfl, ?_⟩, fun _ _ _ h => h, ?_⟩
          rotate_left 1
          · intro W hW
            try dsimp only at hW
            go_simp
            try with_reducible rfl
          simp only [Act.put, List.setIfInBounds_toArray, List.set_cons_zero, List.set_cons_succ]
          refine wpH.take (i := 11) (by kernel_rfl) (by kernel_rfl) (by kernel_rfl) (by kernel_rfl) (by kernel_rfl) HS ?_
          intro oi ho
          simp only [List.getElem?_toArray, List.getElem?_cons_succ, List.getElem?_cons_zero, Option.some.injEq] at ho
          subst ho
          refine ⟨?_, Or.inl ⟨by rfl, ?_⟩, fun _ _ _ h => h, ?_⟩
          rotate_left 1
          · intro W hW
            try dsimp only at hW
            go_simp
            try with_reducible rfl
          simp only [Act.put, List.setIfInBounds_toArray, List.set_cons_zero, List.set_cons_succ]
          refine wpH.take (i := 12) (by kernel_rfl) (by kernel_rfl) (by kernel_rfl) (by kernel_rfl) (by kernel_rfl) HS ?_
          intro oi ho
          simp only [List.getElem?_toArray, List.getElem?_cons_succ, List.getElem?_cons_zero, Option.some.injEq] at ho
          subst ho
          refine ⟨?_, Or.inl ⟨by rfl, ?_⟩, fun _ _ _ h => h, ?_⟩
          rotate_left 1
          · intro W hW
            try dsimp only at hW
            go_simp
            try with_reducible rfl
          simp only [Act.put, List.setIfInBounds_toArray, List.set_cons_zero, List.set_cons_succ]
          refine wpH.take (i := 13) (by kernel_rfl) (by kernel_rfl) (by kernel_rfl) (by kernel_rfl) (by kernel_rfl) HS ?_
          intro oi ho
          simp only [List.getElem?_toArray, List.getElem?_cons_succ, List.getElem?_cons_zero, Option.some.injEq] at ho
          subst ho
          refine ⟨?_, Or.inl ⟨by rfl, ?_⟩, fun _ _ _ h => h, ?_⟩
          rotate_left 1
          · intro W hW
            try dsimp only at hW
            go_simp
            try with_reducible rfl
          simp only [Act.put, List.setIfInBounds_toArray, List.set_cons_zero, List.set_cons_succ]
          refine wpH.take (i := 14) (by kernel_rfl) (by kernel_rfl) (by kernel_rfl) (by kernel_rfl) (by kernel_rfl) HS ?_
          intro oi ho
          simp only [List.getElem?_toArray, List.getElem?_cons_succ, List.getElem?_cons_zero, Option.some.injEq] at ho
          subst ho
          refine ⟨?_, Or.inl ⟨by rfl, ?_⟩, fun _ _ _ h => h, ?_⟩
          rotate_left 1
          · intro W hW
            try dsimp only at hW
            go_simp
            try with_reducible rfl
          simp only [Act.put, List.setIfInBounds_toArray, List.set_cons_zero, List.set_cons_succ]
          refine wpH.take (i := 16) (by kernel_rfl) (by kernel_rfl) (by kernel_rfl) (by kernel_rfl) (by kernel_rfl) HS ?_
          intro oi ho
          simp only [List.getElem?_toArray, List.getElem?_cons_succ, List.getElem?_cons_zero, Option.some.injEq] at ho
          subst ho
          refine ⟨?_, Or.inl ⟨by rfl, ?_⟩, fun _ _ _ h => h, ?_⟩
          rotate_left 1
          · intro W hW
            try dsimp only at hW
            go_simp
            try with_reducible rfl
          simp only [Act.put, List.setIfInBounds_toArray, List.set_cons_zero, List.set_cons_succ]
          refine wpH.take (i := 17) (by kernel_rfl) (by kernel_rfl) (by kernel_rfl) (by kernel_rfl) (by kernel_rfl) HS ?_
          intro oi ho
          simp only [List.getElem?_toArray, List.getElem?_cons_succ, List.getElem?_cons_zero, Option.some.injEq] at ho
          subst ho
          refine ⟨?_, Or.inl ⟨by rfl, ?_⟩, fun _ _ _ h => h, ?_⟩
          rotate_left 1
          · intro W hW
            try dsimp only at hW
            go_simp
            try with_reducible rfl
          simp only [Act.put, List.setIfInBounds_toArray, List.set_cons_zero, List.set_cons_succ]
          refine wpH.take (i := 18) (by kernel_rfl) (by kernel_rfl) (by kernel_rfl) (by kernel_rfl) (by kernel_rfl) HS ?_
          intro oi ho
          simp only [List.getElem?_toArray, List.getElem?_cons_succ, List.getElem?_cons_zero, Option.some.injEq] at ho
          subst ho
          refine ⟨?_, Or.inl ⟨by rfl, ?_⟩, fun _ _ _ h => h, ?_⟩
          rotate_left 1
          · intro W hW
            try dsimp only at hW
            go_simp
            try with_reducible rfl
          simp only [Act.put, List.setIfInBounds_toArray, List.set_cons_zero, List.set_cons_succ]
          refine wpH.take (i := 19) (by kernel_rfl) (by kernel_rfl) (by kernel_rfl) (by kernel_rfl) (by kernel_rfl) HS ?_
          intro oi ho
          simp only [List.getElem?_toArray, List.getElem?_cons_succ, List.getElem?_cons_zero, Option.some.injEq] at ho
          subst ho
          refine ⟨?_, Or.inl ⟨by rfl, ?_⟩, fun _ _ _ h => h, ?_⟩
          rotate_left 1
          · intro W hW
            try dsimp only at hW
            go_simp
            try with_reducible rfl
          simp only [Act.put, List.setIfInBounds_toArray, List.set_cons_zero, List.set_cons_succ]
          refine wpH.take (i := 20) (by kernel_rfl) (by kernel_rfl) (by kernel_rfl) (by kernel_rfl) (by kernel_rfl) HS ?_
          intro oi ho
          simp only [List.getElem?_toArray, List.getElem?_cons_succ, List.getElem?_cons_zero, Option.some.injEq] at ho
          subst ho
          refine ⟨?_, Or.inl ⟨by rfl, ?_⟩, fun _ _ _ h => h, ?_⟩
          rotate_left 1
          · intro W hW
            try dsimp only at hW
            go_simp
            try with_reducible rfl
          simp only [Act.put, List.setIfInBounds_toArray, List.set_cons_zero, List.set_cons_succ]
          refine wpH.one (i := 7) (by kernel_rfl) ?_
          intro oi ho
          simp only [List.getElem?_toArray, List.getElem?_cons_succ, List.getElem?_cons_zero, Option.some.injEq] at ho
          subst ho
          intro K' hK
          have HK := Lib.hid hK
          clear hK
          go_simp
          go_at_call 5
          refine (picked5 _ _ _ (by omega) (by omega)).mono ?_
          rintro e W ⟨r0, rfl, h0, h0', hW⟩
          replace hW := hW.symm
          subst hW
          dsimp only
          refine HK.out _ _ (fun _ => FC.out _ (Below.refl _ wr).drew) ?_
          have HS := FC.out _ (Below.refl _ wr).drew
          try simp only [Act.put, List.setIfInBounds_toArray, List.set_cons_zero, List.set_cons_succ]
          refine wpH.one (i := 15) (by kernel_rfl) ?_
          intro oi ho
          simp only [List.getElem?_toArray, List.getElem?_cons_succ, List.getElem?_cons_zero, Option.some.injEq] at ho
          subst ho
          intro K' hK
          have HK := Lib.hid hK
          clear hK
          go_simp
          go_at_call 5
          refine (picked5 _ _ _ (by omega) (by omega)).mono ?_
          rintro e W ⟨r1, rfl, h1, h1', hW⟩
          replace hW := hW.symm
          subst hW
          dsimp only
          refine HK.out _ _ (fun _ => FC.out _ (Below.refl _ wr).drew) ?_
          have HS := FC.out _ (Below.refl _ wr).drew
          try simp only [Act.put, List.setIfInBounds_toArray, List.set_cons_zero, List.set_cons_succ]
          refine wpH.one (i := 21) (by kernel_rfl) ?_
          intro oi ho
          simp only [List.getElem?_toArray, List.getElem?_cons_succ, List.getElem?_cons_zero, Option.some.injEq] at ho
          subst ho
          intro K' hK
          have HK := Lib.hid hK
          clear hK
          go_simp
          go_at_call 5
          refine (picked5 _ _ _ (by omega) (by omega)).mono ?_
          rintro e W ⟨r2, rfl, h2, h2', hW⟩
          replace hW := hW.symm
          subst hW
          dsimp only
          refine HK.out _ _ (fun _ => FC.out _ (Below.refl _ wr).drew) ?_
          have HS := FC.out _ (Below.refl _ wr).drew
          try simp only [Act.put, List.setIfInBounds_toArray, List.set_cons_zero, List.set_cons_succ]
          have hwr3 : IntKind.i64.wrap (r2 - 3) = r2 - 3 := IntWalk.i64_in _ (by omega)
          refine wpH.take (i := 22) (by kernel_rfl) (by kernel_rfl) (by kernel_rfl) (by kernel_rfl) (by kernel_rfl) HS ?_
          intro oi ho
          simp only [List.getElem?_toArray, List.getElem?_cons_succ, List.getElem?_cons_zero, Option.some.injEq] at ho
          subst ho
          refine ⟨?_, Or.inl ⟨by rfl, ?_⟩, fun _ _ _ h => h, ?_⟩
          rotate_left 1
          · intro W hW
            try dsimp only at hW
            go_simp
            try with_reducible rfl
          simp only [Act.put, List.setIfInBounds_toArray, List.set_cons_zero, List.set_cons_succ]
          refine wpH.take (i := 23) (by kernel_rfl) (by kernel_rfl) (by kernel_rfl) (by kernel_rfl) (by kernel_rfl) HS ?_
          intro oi ho
          simp only [List.getElem?_toArray, List.getElem?_cons_succ, List.getElem?_cons_zero, Option.some.injEq] at ho
          subst ho
          refine ⟨?_, Or.inl ⟨by rfl, ?_⟩, fun _ _ _ h => h, ?_⟩
          rotate_left 1
          · intro W hW
            try dsimp only at hW
            go_simp
            try with_reducible rfl
          simp only [Act.put, List.setIfInBounds_toArray, List.set_cons_zero, List.set_cons_succ]
          refine wpH.one (i := 24) (by kernel_rfl) ?_
          intro oi ho
          simp only [List.getElem?_toArray, List.getElem?_cons_succ, List.getElem?_cons_zero, Option.some.injEq] at ho
          subst ho
          intro K' hK
          have HK := Lib.hid hK
          clear hK
          go_simp
          have HBA : Hid (Below wr.heap.size wr (wr.drew.alloc (.cells #[.int .i64 r0, .int .i64 r1, .int .i64 (r2 - 3)] 29))) := Lib.hid ((Below.refl _ wr).drew.alloc (Nat.le_refl _) _)
          refine HK.out _ _ (fun _ => FC.out _ HBA.out) ?_
          have HS := FC.out _ HBA.out
          try simp only [Act.put, List.setIfInBounds_toArray, List.set_cons_zero, List.set_cons_succ]
          refine wpH.one (i := 25) (by kernel_rfl) ?_
          intro oi ho
          simp only [List.getElem?_toArray, List.getElem?_cons_succ, List.getElem?_cons_zero, Option.some.injEq] at ho
          subst ho
          intro K' hK
          have HK := Lib.hid hK
          clear hK
          obtain ⟨A, hA⟩ : ∃ A : Nat, (A : Int) = r0 := ⟨r0.toNat, by omega⟩
          obtain ⟨B, hB⟩ : ∃ B : Nat, (B : Int) = r1 := ⟨r1.toNat, by omega⟩
          have HXW : Hid (waitE.is (fun _ => False) wr.drew [.int .i64 r0, .int .i64 r1, .int .i64 (r2 - 3)] (⟨A, B, r2 - 3⟩ : Wt)) := Lib.hid (by rw [← hA, ← hB]; rfl)
          refine step_app (by rfl) (.tmp 74) (.tmp 98) 27 (by rfl) waitE SD 1 rfl (x := (⟨A, B, r2 - 3⟩ : Wt)) (q := fun _ => False) (p' := fun _ => False) HXW.out Try.underlying27 gj gy0 gy1 gy2 (by rfl) (by rfl) (by rfl) (by rfl) (by unfold maxLen; omega) (by omega) (by have := HZ.out; simp; omega) (Nat.le_refl _) (fun bb h1 h2 h3 => HOO.out bb h1) (fun bb h => False.elim h) (fun bb h => h.elim id id) ?_
          intro gg cap w8 S8 hs8 hgg hat8
          refine HK.out _ _ (fun h => absurd h (by decide)) ?_
          try simp only [Act.put, List.setIfInBounds_toArray, List.set_cons_zero, List.set_cons_succ]
          refine wpH.one (i := 26) (by kernel_rfl) ?_
          intro oi ho
          simp only [List.getElem?_toArray, List.getElem?_cons_succ, List.getElem?_cons_zero, Option.some.injEq] at ho
          subst ho
          intro K' hK
          have HK := Lib.hid hK
          clear hK
          go_simp
          refine HK.out _ _ (fun h => absurd h (by decide)) ?_
          try simp only [Act.put, List.setIfInBounds_toArray, List.set_cons_zero, List.set_cons_succ]
          refine wpH.done (by kernel_rfl) ?_
          have SB := Lib.hid S8
          have HX2 := Lib.hid (show (ws ++ [(⟨A, B, r2 - 3⟩ : Wt)]).length = k + 1 ∧ okW js.length (ws ++ [(⟨A, B, r2 - 3⟩ : Wt)]) ∧ (ws ++ [(⟨A, B, r2 - 3⟩ : Wt)] = [] → (.slice (some ⟨gg, 0, none⟩) (ws.length + 1) cap : Value) = .slice none 0 0) ∧ (∀ b, (.slice (some ⟨gg, 0, none⟩) (ws.length + 1) cap : Value).ownBlock = some b → (.slice jo js.length (js.length + jsp) : Value).ownBlock ≠ some b) from ⟨by rw [List.length_append, HX.out.1]; rfl, HX.out.2.1.snoc (by show A < _; omega) (by show B < _; omega) (by show -4 ≤ r2 - 3; omega) (by show r2 - 3 ≤ 4; omega), fun h => by simp at h, fun b e => by
            have e' : gg = b := by simpa [Value.ownBlock] using e
            subst e'
            rcases hat8 with h | h
            · exact HX.out.2.2.2 gg h
            · intro e2
              have := HJO.out gg e2
              simp at h
              omega⟩)
          have hz8 : w.heap.size ≤ w8.heap.size := by have := HZ.out; simp at hs8; omega
          have hwk := HX.out.1
          clear S8 SD HS FC hat8 hs8 hgg hA hB
          try go_wp2_with fail
          go_roundw
          case rel => exact ⟨k + 1, ws ++ [(⟨A, B, r2 - 3⟩ : Wt)], by omega, by omega, by go_num, hz8, SB.out, HX2⟩
          case measure => simp [intOf] <;> omega
        · rw [decide_eq_false hlt]
          have hws3 : ws.length ≤ 3 := by rw [HX.out.1]; omega
          have HXW := Lib.hid HX.out.2.1
          obtain ⟨wq, wsp, rfl, hwr, hwne⟩ := own_rowT (S.owns waitE 1)
          obtain ⟨jo2, jsp2, he, hjr, _⟩ := own_rowT (S.owns jobE 0)
          simp only [Value.slice.injEq] at he
          obtain ⟨rfl, _, hj2⟩ := he
          have hj3 : jsp = jsp2 := by omega
          subst hj3
          clear hj2
          have hcc : (wq = none ∧ ws = [] ∧ ws.length + wsp = 0) ∨ (∃ ad, wq = some ad ∧ 0 < ws.length) := by
            by_cases hn : ws = []
            · have h1 := HX.out.2.2.1 hn
              simp only [Value.slice.injEq] at h1
              exact .inl ⟨h1.1, hn, h1.2.2⟩
            · obtain ⟨g, hg⟩ := hwne hn
              exact .inr ⟨_, hg, by have : ws.length ≠ 0 := fun h => hn (List.eq_nil_of_length_eq_zero h); omega⟩
          have HDO := Lib.hid (do6 js ws (fun b => b < wr.heap.size) (fun b => b < wr.heap.size) jo wq (js.length + jsp) (ws.length + wsp) wr hjr hwr (fun b h => h) HOKJ.out HXW.out hjn (by omega) hws3 hcc)
          have hwsi : (ws.length : Int) ≤ 3 := by omega
          clear hwr hwne hjr hcc hlt HX
          go_wp2_with fail
          refine HDO.out.mono ?_
          rintro e w3 ⟨st, l, so, SS, sc, rfl, hrow, hb3, hos, hcase⟩
          have S3 := ((S.step hb3).add (.rowE intE (fun b => b < w3.heap.size) so SS) (hrow.mono (fun b _ h => h))).box rfl #[.int .i64 0, .int .i64 0] 31
          have HOSS := Lib.hid hos
          have HCASE := Lib.hid hcase
          have hz3 : w.heap.size ≤ w3.heap.size := by have := hb3.size; omega
          clear S hrow hb3 hos hcase hz
          go_wp2_with fail
          refine S3.gen (z := w.heap.size) (by simp; omega) ?_
          clear S3 hz3
          intro w4 hz4 S
          have HD2 := Lib.hid (show Calls Try.prog 6 #[.slice none 0 0, .slice none 0 0, .int .i64 2000] w4 (DoP [] [] w4) from do6 [] [] (fun _ => False) (fun _ => False) none none 0 0 w4 Elt.Row.nil Elt.Row.nil (fun b h => False.elim h) (fun i hi => by simp at hi) (fun i hi => by simp at hi) (by simp) (by simp) (by simp) (.inl ⟨rfl, rfl, rfl⟩))
          refine HD2.out.mono ?_
          rintro e w5 ⟨st2, l2, so2, SS2, sc2, rfl, _, hb5, _, hcase2⟩
          have h2 : st2 = 1 ∧ l2 = 0 := by
            rcases hcase2 with ⟨_, _, _, h⟩ | ⟨h1, _, h2, _⟩
            · exact absurd valid_nil (h [])
            · exact ⟨h1, by rw [h2]; rfl⟩
          obtain ⟨rfl, rfl⟩ := h2
          have S5 := (S.step hb5).box rfl #[.int .i64 0, .int .i64 0] 31
          have hz5 : w.heap.size ≤ (w5.alloc (.cells #[.int .i64 0, .int .i64 0] 31)).heap.size := by have := hb5.size; simp; omega
          have HST := Lib.hid (show st = 2 ∨ st = 1 from by rcases HCASE.out with h | h; exact .inl h.1; exact .inr h.1)
          have hst3 : (st == 3) = false := by rcases HST.out with h | h <;> simp [h]
          obtain ⟨⟨y0, _⟩, _⟩ := S5.two 3
          clear S hb5 hcase2 HD2
          go_wp2_with fail
          have hcd : (w5.alloc (.cells #[.int .i64 0, .int .i64 0] 31)).heap.size = (w5.alloc (.cells #[.int .i64 0, .int .i64 0] 31)).heap.size := rfl
          refine (S5.pick [0, 1, 2]).genC (z := w.heap.size) hz5 ?_
          clear S5 y0 hz5 hcd
          intro w6 hz6 S
          have HJO := Lib.hid (fun b (e : (.slice jo js.length (js.length + jsp) : Value).ownBlock = some b) => (S.ownlt jobE 0 rfl b e).2)
          have HWO := Lib.hid (fun b (e : (.slice wq ws.length (ws.length + wsp) : Value).ownBlock = some b) => (S.ownlt waitE 1 rfl b e).2)
          have S6 : St w w6 [.owns jobE w.heap.size (fun _ => False) (.slice jo js.length (js.length + jsp)) js, .owns waitE w.heap.size (fun _ => False) (.slice wq ws.length (ws.length + wsp)) ws, .rowE intE (fun b => b < w6.heap.size) so SS, .owns intE w6.heap.size (fun _ => False) (.slice none 0 0) []] := ((S.pick [0, 1]).add (.rowE intE (fun b => b < w6.heap.size) so SS) ((S.rowE intE 2).mono (fun b h h2 => h2))).add (.owns intE w6.heap.size (fun _ => False) (.slice none 0 0) []) (Elt.Own.nil _ _ _ _)
          clear S
          go_loopw [19, 20, 21] (fun o t i wr => ∃ (k : Nat) (os : List Int), k ≤ js.length ∧ t = .int .i64 (spanL js os k) ∧ i = .int .i64 k ∧ w6.heap.size ≤ wr.heap.size ∧ St w wr [.owns jobE w.heap.size (fun _ => False) (.slice jo js.length (js.length + jsp)) js, .owns waitE w.heap.size (fun _ => False) (.slice wq ws.length (ws.length + wsp)) ws, .rowE intE (fun b => b < w6.heap.size) so SS, .owns intE w6.heap.size (fun _ => False) o os] ∧ Hid (os.length = k ∧ okS os ∧ 0 ≤ spanL js os k ∧ spanL js os k ≤ 1100)) (fun _ _ i _ => js.length - (intOf i).toNat)
          case atStart => exact ⟨0, [], by omega, rfl, rfl, Nat.le_refl _, S6, Lib.hid ⟨rfl, fun i hi => by simp at hi, by simp [spanL], by simp [spanL]⟩⟩
          case round =>
            clear S6
            obtain ⟨k, os, hk, rfl, rfl, hz, S, HO⟩ := hrel
            by_cases hlt : k < js.length
            · have hlti : (k : Int) < (js.length : Int) := by omega
              go_wp2_with fail
              refine (at7 bes k bo bc wr ((HBE.out.kept S.bel).cellsAt) HBN.out).mono ?_
              rintro e W ⟨r, rfl, hW⟩
              replace hW := hW.symm
              subst hW
              go_wp2_with fail
              refine (picked5 r 12 wr (by omega) (by omega)).mono ?_
              rintro e W ⟨x, rfl, hx0, hx1, hW⟩
              replace hW := hW.symm
              subst hW
              have hol : os.length ≤ 3 := by rw [HO.out.1]; omega
              go_wp2_with (at_builtin; refine wpList_app rfl (.tmp 140) (.tmp 145) 22 rfl intE S 3 rfl (x := x) (q := (fun _ => False)) (p' := (fun _ => False)) rfl Try.underlying22 gk gx0 gx1 gx2 rfl rfl ?v1 ?v2 ?c1 ?c2 ?c3 ?c4 ?c5 ?c6 ?c7 ?_)
              try (case v1 => rfl)
              try (case v2 => rfl)
              case c1 => unfold maxLen; omega
              case c2 => omega
              case c3 => exact hz
              case c4 => exact hz6
              case c5 =>
                intro bb h1 h2 h3
                simp only [offs, offAll, Fct.owns, Fct.rowE, and_true]
                exact ⟨fun e => e.elim (fun e => by have := HJO.out bb e; omega) id, fun e => e.elim (fun e => by have := HWO.out bb e; omega) id, by omega⟩
              case c6 => intro bb h; exact False.elim h
              case c7 => intro bb h; exact h.elim id id
              intro gg cap w8 S8 hs8 hgg hat8
              have hkl : k < (os ++ [x]).length := by rw [List.length_append, HO.out.1]; simp
              obtain ⟨g2, he, _, _, hgl, d0, _⟩ := own_getI (S8.owns intE 3) hkl
              simp only [Option.some.injEq, Addr.mk.injEq, and_true] at he
              subst he
              have hgk : (os ++ [x])[k] = x := by
                rw [List.getElem_append_right (by rw [HO.out.1]; exact Nat.le_refl _)]
                simp
              rw [hgk] at d0
              obtain ⟨jo2, jsp2, he, hjr, _⟩ := own_rowT (S8.owns jobE 0)
              simp only [Value.slice.injEq] at he
              obtain ⟨rfl, _, hj2⟩ := he
              clear hj2
              obtain ⟨jb, joff, rfl, _, c0, _, _⟩ := hjr.job hlt
              obtain ⟨j1, j2, _, _, _, _⟩ := HOKJ.out k hlt
              obtain ⟨A, hA⟩ : ∃ z, z = js[k].long := ⟨_, rfl⟩
              have HSP := Lib.hid (show spanL js (os ++ [x]) (k + 1) = max (spanL js os k) (x + A) by
                rw [spanL, spanL_app (by rw [HO.out.1]; exact Nat.le_refl _), gT_get hkl, hgk, gJ_get hlt, hA])
              rw [← hA] at c0 j1 j2
              have HO2 := Lib.hid (show (os ++ [x]).length = k + 1 ∧ okS (os ++ [x]) from ⟨by rw [List.length_append, HO.out.1]; rfl, HO.out.2.1.snoc ⟨hx0, by omega⟩⟩)
              have hp0 := HO.out.2.2.1
              have hp1 := HO.out.2.2.2
              obtain ⟨P, hP⟩ : ∃ z, z = spanL js os k := ⟨_, rfl⟩
              rw [← hP] at HSP hp0 hp1 ⊢
              have hkoi : (k : Int) < (os.length : Int) + 1 := by rw [HO.out.1]; omega
              clear hgl hgk hA hP hjr hkl HO hat8 S
              go_wp2_with fail
              have qa := cell_regrown c0; have qb := cell_regrown d0
              clear c0 d0
              refine wp_region_quiet_below (by kernel_rfl) (by kernel_rfl) ?_
              repeat (go_big_quiet_step (fail))
              refine wpQuiet_nil ?_
              intro _ hw'
              obtain ⟨⟨dq, osq⟩, hw''⟩ := hw'
              subst hw''
              have S9 := S8.regrown dq osq
              have hz9 : w6.heap.size ≤ (Go.Sort.grow (redrawn w8 dq) osq).heap.size := Nat.le_trans (by omega) (below_regrown w8 dq osq).size
              have SB := Lib.hid S9
              clear qa qb S8 S9
              go_wp2_with fail
              go_roundw
              case rel => exact ⟨k + 1, os ++ [x], by omega, by rw [HSP.out]; congr 1; split <;> omega, by go_num, hz9, SB.out, Lib.hid ⟨HO2.out.1, HO2.out.2, by rw [HSP.out]; omega, by rw [HSP.out]; omega⟩⟩
              case measure => simp [intOf] <;> omega
            · obtain rfl : k = js.length := by omega
              obtain ⟨oo, osp, rfl, hor, _⟩ := own_rowT (S.owns intE 3)
              obtain ⟨jo2, jsp2, he, hjr, _⟩ := own_rowT (S.owns jobE 0)
              simp only [Value.slice.injEq] at he
              obtain ⟨rfl, _, hj2⟩ := he
              clear hj2
              obtain ⟨wq2, wsp2, he, hwr, _⟩ := own_rowT (S.owns waitE 1)
              simp only [Value.slice.injEq] at he
              obtain ⟨rfl, _, hj2⟩ := he
              clear hj2
              have HRT := Lib.hid (right8 js ws os (fun b => b < wr.heap.size) (fun b => b < wr.heap.size) (fun b => b < wr.heap.size) jo wq oo (js.length + jsp) (ws.length + wsp) (os.length + osp) wr hjr hwr hor HOKJ.out HXW.out HO.out.2.1 hjn (by omega) (by omega) HO.out.1)
              clear hjr hwr hor hlt
              go_wp2_with fail
              refine (S.quiet HRT.out).mono ?_
              rintro e w9 ⟨rfl, z9, S9⟩
              have S10 := (S9.box rfl #[.int .i64 0, .int .i64 0] 31).pick [0, 1, 2, 4]
              obtain ⟨y0, _⟩ := S10.cell 3 0 rfl
              have HLT := Lib.hid (show st = 2 → decide (Valid js ws os) = false from fun h => by
                rcases HCASE.out with h1 | h1
                · exact decide_eq_false (h1.2.2.2 os)
                · omega)
              have HLE := Lib.hid (show decide (Valid js ws os) = true → st = 1 ∧ ¬ spanL js os js.length < l from fun h => by
                have hv := of_decide_eq_true h
                rcases HCASE.out with h1 | h1
                · exact absurd hv (h1.2.2.2 os)
                · exact ⟨h1.1, by have := h1.2.2.2 os hv; unfold span at this; omega⟩)
              obtain ⟨VV, hVV⟩ : ∃ b, b = decide (Valid js ws os) := ⟨_, rfl⟩
              rw [← hVV] at HLT HLE ⊢
              clear hVV S S9 HRT HO
              go_upto_region 23 with fail
              refine S10.genC (z := w.heap.size) (by simp; omega) ?_
              clear S10 y0 z9 hz
              intro w10 hz10 S
              obtain ⟨y0, _⟩ := S.cell 3 0 rfl
              go_cut [180] (fun tt W => tt = .bool false ∧ W = w10)
              case first =>
                cases VV with
                | true =>
                  obtain ⟨hs1, hs2⟩ := HLE.out rfl
                  have hs3 : (st == 2) = false := by simp [hs1]
                  clear hs1
                  go_wp2_with fail
                  go_meet
                  case rel => exact ⟨congrArg Value.bool (decide_eq_false (by omega)), rfl⟩
                | false =>
                  go_wp2_with fail
                  go_meet
                  case rel => exact ⟨rfl, rfl⟩
              case rest =>
              obtain ⟨htt, hw⟩ := hcut
              replace hw := hw.symm
              subst hw
              subst htt
              rcases HCASE.out with h1 | h1
              · have hs3 : (st != 1) = true := by simp [h1.1]
                have SE := Lib.hid S.bel
                clear h1 S y0
                go_wp2_with fail
                go_ret
                exact ⟨rfl, SE.out⟩
              · have hs3 : (st != 1) = false := by simp [h1.1]
                have HV := Lib.hid h1.2.1
                have HL := Lib.hid h1.2.2.1
                have hsl : SS.length = js.length := by have := h1.2.1.1.1; rw [froms_length] at this; exact this
                have HSL := Lib.hid hsl
                obtain ⟨jo2, jsp2, he, hjr, _⟩ := own_rowT (S.owns jobE 0)
                simp only [Value.slice.injEq] at he
                obtain ⟨rfl, _, hj2⟩ := he
                clear hj2
                obtain ⟨wq2, wsp2, he, hwr, _⟩ := own_rowT (S.owns waitE 1)
                simp only [Value.slice.injEq] at he
                obtain ⟨rfl, _, hj2⟩ := he
                clear hj2
                have HRT := Lib.hid (right8 js ws SS (fun b => b < w10.heap.size) (fun b => b < w10.heap.size) (fun b => b < w6.heap.size) jo wq so (js.length + jsp) (ws.length + wsp) (SS.length + sc) w10 hjr hwr (S.rowE intE 2) HOKJ.out HXW.out HOSS.out hjn (by omega) (by omega) hsl)
                rw [decide_eq_true HV.out] at HRT
                have hssi : (SS.length : Int) ≤ 3 := by omega
                clear hjr hwr h1 y0 hsl
                go_wp2_with fail
                refine (S.quiet HRT.out).mono ?_
                rintro e w11 ⟨rfl, z11, S11⟩
                have S12 := (S11.box rfl #[.int .i64 0, .int .i64 0] 31).pick [0, 1, 2, 4]
                clear S S11
                go_wp2_with fail
                refine S12.genC (z := w.heap.size) (by simp; omega) ?_
                clear S12 z11
                intro w12 hz12 S
                obtain ⟨bz, hbz⟩ : ∃ b, b = w11.heap.size := ⟨_, rfl⟩
                rw [← hbz] at S ⊢
                clear hbz
                go_loopw [26, 27] (fun a i wr => ∃ k : Nat, k ≤ js.length ∧ a = .int .i64 (spanL js SS k) ∧ i = .int .i64 k ∧ 0 ≤ spanL js SS k ∧ spanL js SS k ≤ 1100 ∧ St w wr [.owns jobE w.heap.size (fun _ => False) (.slice jo js.length (js.length + jsp)) js, .owns waitE w.heap.size (fun _ => False) (.slice wq ws.length (ws.length + wsp)) ws, .rowE intE (fun b => b < w6.heap.size) so SS, .box bz #[.int .i64 0, .int .i64 0] 31]) (fun _ i _ => js.length - (intOf i).toNat)
                case atStart => exact ⟨0, by omega, rfl, rfl, by simp [spanL], by simp [spanL], S⟩
                case round =>
                  clear S
                  obtain ⟨k, hk, rfl, rfl, hp0, hp1, S⟩ := hrel
                  by_cases hlt : k < js.length
                  · have hlti : (k : Int) < (js.length : Int) := by omega
                    have hks : k < SS.length := by rw [HSL.out]; exact hlt
                    have hksi : (k : Int) < (SS.length : Int) := by omega
                    obtain ⟨jo2, jsp2, he, hjr, _⟩ := own_rowT (S.owns jobE 0)
                    simp only [Value.slice.injEq] at he
                    obtain ⟨rfl, _, hj2⟩ := he
                    clear hj2
                    obtain ⟨jb, joff, rfl, _, c0, _, _⟩ := hjr.job hlt
                    obtain ⟨sb, soff, rfl, _, d0⟩ := (S.rowE intE 2).int hks
                    obtain ⟨j1, j2, _, _, _, _⟩ := HOKJ.out k hlt
                    obtain ⟨s1, s2⟩ := HOSS.out k hks
                    obtain ⟨A, hA⟩ : ∃ z, z = js[k].long := ⟨_, rfl⟩
                    obtain ⟨x, hx⟩ : ∃ z, z = SS[k] := ⟨_, rfl⟩
                    have HSP := Lib.hid (show spanL js SS (k + 1) = max (spanL js SS k) (x + A) by
                      rw [spanL, gT_get hks, gJ_get hlt, hA, hx])
                    rw [← hA] at c0 j1 j2
                    rw [← hx] at d0 s1 s2
                    obtain ⟨P, hP⟩ : ∃ z, z = spanL js SS k := ⟨_, rfl⟩
                    rw [← hP] at HSP hp0 hp1 ⊢
                    clear hA hP hx hjr
                    go_wp2_with fail
                    have qa := cell_regrown c0; have qb := cell_regrown d0
                    clear c0 d0
                    refine wp_region_quiet_below (by kernel_rfl) (by kernel_rfl) ?_
                    repeat (go_big_quiet_step (fail))
                    refine wpQuiet_nil ?_
                    intro _ hw'
                    obtain ⟨⟨dq, osq⟩, hw''⟩ := hw'
                    subst hw''
                    have SB := Lib.hid (S.regrown dq osq)
                    clear qa qb S
                    go_wp2_with fail
                    go_roundw
                    case rel => exact ⟨k + 1, by omega, by rw [HSP.out]; congr 1; split <;> omega, by go_num, by rw [HSP.out]; omega, by rw [HSP.out]; omega, SB.out⟩
                    case measure => simp [intOf] <;> omega
                  · obtain rfl : k = js.length := by omega
                    have hlb : (spanL js SS js.length == l) = true := by rw [HL.out]; unfold span; simp
                    have hsb : ((SS.length : Int) == (js.length : Int)) = true := by rw [HSL.out]; simp
                    have hks : ¬ (js.length : Int) < (SS.length : Int) := by rw [HSL.out]; omega
                    obtain ⟨y0, _⟩ := S.cell 3 0 rfl
                    have SE := Lib.hid S.bel
                    clear S
                    go_wp2_with fail
                    go_ret
                    exact ⟨rfl, SE.out⟩
end Go.Proofs.Ytacaakcpkgipfaa
