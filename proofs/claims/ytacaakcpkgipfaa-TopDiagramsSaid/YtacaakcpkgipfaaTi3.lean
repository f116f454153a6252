/-
  Walks: a raw number that is picked; whether two jobs are rivals; jobs and waits in memory.
-/
import Derived.Test.YtacaakcpkgipfaaProg
import Derived.Test.YtacaakcpkgipfaaS0
import Derived.Test.YtacaakcpkgipfaaTi2
import Derived.RegionTactic
namespace Go.Proofs.Ytacaakcpkgipfaa
open Go.RowKit Go.Shelf
set_option linter.unusedVariables false
set_option maxHeartbeats 400000

def jobE : Elt Jb where
  ty := 26
  n := 3
  is p w cs j := cs = [.int .i64 j.long, .int .i64 j.mach, .int .i64 j.from_]
  pos := by omega
  len := fun e => by rw [e]; rfl
  one := fun e u hu => by rw [e] at hu; simp at hu; rcases hu with rfl | rfl | rfl <;> rfl
  keep := fun hk e => e
def waitE : Elt Wt where
  ty := 29
  n := 3
  is p w cs j := cs = [.int .i64 j.a, .int .i64 j.b, .int .i64 j.by_]
  pos := by omega
  len := fun e => by rw [e]; rfl
  one := fun e u hu => by rw [e] at hu; simp at hu; rcases hu with rfl | rfl | rfl <;> rfl
  keep := fun hk e => e
theorem Elt.Row.job {p : Nat → Prop} {w : World} {ao : Option Addr} {js : List Jb} (h : jobE.Row p w ao js) {i : Nat} (hi : i < js.length) : ∃ b off, ao = some ⟨b, off, none⟩ ∧ p b ∧
    w.cell? ⟨b, off + i * 3, none⟩ = some (.int .i64 js[i].long) ∧ w.cell? ⟨b, off + i * 3 + 1, none⟩ = some (.int .i64 js[i].mach) ∧ w.cell? ⟨b, off + i * 3 + 2, none⟩ = some (.int .i64 js[i].from_) := by
  obtain ⟨b, off, cs, e, hp, hc, rfl⟩ := h i js[i] (List.getElem?_eq_getElem hi)
  exact ⟨b, off, e, hp, hc 0 _ rfl, hc 1 _ rfl, hc 2 _ rfl⟩
theorem Elt.Row.wait {p : Nat → Prop} {w : World} {ao : Option Addr} {ws : List Wt} (h : waitE.Row p w ao ws) {i : Nat} (hi : i < ws.length) : ∃ b off, ao = some ⟨b, off, none⟩ ∧ p b ∧
    w.cell? ⟨b, off + i * 3, none⟩ = some (.int .i64 ws[i].a) ∧ w.cell? ⟨b, off + i * 3 + 1, none⟩ = some (.int .i64 ws[i].b) ∧ w.cell? ⟨b, off + i * 3 + 2, none⟩ = some (.int .i64 ws[i].by_) := by
  obtain ⟨b, off, cs, e, hp, hc, rfl⟩ := h i ws[i] (List.getElem?_eq_getElem hi)
  exact ⟨b, off, e, hp, hc 0 _ rfl, hc 1 _ rfl, hc 2 _ rfl⟩
theorem infoJ : (Try.prog.info? 26).map (fun i => (i.zero, i.size, i.bytes)) = some (some (.agg #[.int .i64 0, .int .i64 0, .int .i64 0]), 3, 24) := by kernel_rfl
theorem infoW : (Try.prog.info? 29).map (fun i => (i.zero, i.size, i.bytes)) = some (some (.agg #[.int .i64 0, .int .i64 0, .int .i64 0]), 3, 24) := by kernel_rfl

theorem rivals17 (x y : Jb) (w : World) : Calls Try.prog 17 #[.agg #[.int .i64 x.long, .int .i64 x.mach, .int .i64 x.from_], .agg #[.int .i64 y.long, .int .i64 y.mach, .int .i64 y.from_]] w
    fun e w' => e = .returned (.bool (decide (Rival x y))) ∧ Below w.heap.size w w' := by
  have hb := ((Below.refl w.heap.size w).alloc (Nat.le_refl _) (.cells #[.int .i64 x.long, .int .i64 x.mach, .int .i64 x.from_] 26)).alloc (by simp) (.cells #[.int .i64 y.long, .int .i64 y.mach, .int .i64 y.from_] 26)
  have HB := Lib.hid hb
  clear hb
  by_cases h1 : x.mach = y.mach
  · have hb1 : (x.mach == y.mach) = true := by simp [h1]
    by_cases h2 : 0 < x.long
    · by_cases h3 : 0 < y.long
      · have HD := Lib.hid (show true = decide (Rival x y) from (decide_eq_true ⟨h1, h2, h3⟩).symm)
        clear h1
        go_enter Try.func17, Try.ntmps17
        go_wp2_with fail
        go_ret
        exact ⟨ret_bool HD.out, HB.out⟩
      · have HD := Lib.hid (show false = decide (Rival x y) from (decide_eq_false (fun h => h3 h.2.2)).symm)
        clear h1
        go_enter Try.func17, Try.ntmps17
        go_wp2_with fail
        go_ret
        exact ⟨ret_bool HD.out, HB.out⟩
    · have HD := Lib.hid (show false = decide (Rival x y) from (decide_eq_false (fun h => h2 h.2.1)).symm)
      clear h1
      go_enter Try.func17, Try.ntmps17
      go_wp2_with fail
      go_ret
      exact ⟨ret_bool HD.out, HB.out⟩
  · have hb1 : (x.mach == y.mach) = false := by simp [h1]
    have HD := Lib.hid (show false = decide (Rival x y) from (decide_eq_false (fun h => h1 h.1)).symm)
    clear h1
    go_enter Try.func17, Try.ntmps17
    go_wp2_with fail
    go_ret
    exact ⟨ret_bool HD.out, HB.out⟩

theorem picked5 (a n : Int) (w : World) (hn : 0 < n) (hn2 : n ≤ 1000) : Calls Try.prog 5 #[.int .i64 a, .int .i64 n] w fun e w' => ∃ r, e = .returned (.int .i64 r) ∧ 0 ≤ r ∧ r < n ∧ w' = w := by
  go_enter Try.func5, Try.ntmps5
  have h1 : -n < a.tmod n := by
    have := Int.lt_tmod_of_pos a hn
    omega
  have h2 : a.tmod n < n := Int.tmod_lt_of_pos a hn
  go_wp2
  · rename_i hlt
    refine bodyPost_ret (v := .int .i64 (a.tmod n + n)) (by simp [results, Try.results5, go_sem]) rfl ⟨_, rfl, by omega, by omega, rfl⟩
  · rename_i hlt
    refine bodyPost_ret (v := .int .i64 (a.tmod n)) (by simp [results, Try.results5, go_sem]) rfl ⟨_, rfl, by omega, by omega, rfl⟩
theorem at7 (l : List Int) (i : Int) (ao : Option Addr) (c : Nat) (w : World) (h : CellsAt w ao l.length (fun j => .int .i64 (gI l j))) (hl : l.length ≤ maxLen) : Calls Try.prog 7 #[.slice ao l.length c, .int .i64 i] w fun e w' => ∃ r, e = .returned (.int .i64 r) ∧ w' = w := by
  unfold maxLen at hl
  by_cases h1 : 0 ≤ i
  · by_cases h2 : i < (l.length : Int)
    · obtain ⟨k, rfl⟩ : ∃ k : Nat, i = (k : Int) := ⟨i.toNat, by omega⟩
      obtain ⟨b, off, rfl, hc⟩ := h k (by omega)
      go_enter Try.func7, Try.ntmps7
      go_wp2
      refine bodyPost_ret (v := .int .i64 (gI l k)) (by simp [results, Try.results7, go_sem]) rfl ⟨⟨_, rfl⟩, rfl⟩
    · go_enter Try.func7, Try.ntmps7
      go_wp2
      refine bodyPost_ret (v := .int .i64 0) (by simp [results, Try.results7, go_sem]) rfl ⟨⟨_, rfl⟩, rfl⟩
  · go_enter Try.func7, Try.ntmps7
    go_wp2
    refine bodyPost_ret (v := .int .i64 0) (by simp [results, Try.results7, go_sem]) rfl ⟨⟨_, rfl⟩, rfl⟩
end Go.Proofs.Ytacaakcpkgipfaa
