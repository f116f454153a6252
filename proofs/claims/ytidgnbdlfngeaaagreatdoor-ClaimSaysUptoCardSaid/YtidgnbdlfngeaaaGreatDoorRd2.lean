/-
  Walks: the reader of a line: numbers.
-/
import Derived.Test.YtidgnbdlfngeaaaGreatDoorRd1
namespace Go.Proofs.YtidgnbdlfngeaaaGreatDoor
open Go.RowKit Go.Shelf
set_option linter.unusedVariables false
set_option maxHeartbeats 400000

/-- what the library's variables hold: an int, two errors -/
def GV (w : World) : Prop := (∃ m, w.cell? ⟨1, 0, none⟩ = some (.int .i64 m)) ∧ (∃ ev, w.cell? ⟨4, 0, none⟩ = some ev ∧ (ev = .nilIface ∨ ∃ te pe, ev = .iface te pe)) ∧ (∃ ev, w.cell? ⟨5, 0, none⟩ = some ev ∧ (ev = .nilIface ∨ ∃ te pe, ev = .iface te pe))
theorem GV.kept {w w' : World} (h : GV w) (hb : Below w.heap.size w w') : GV w' := by
  obtain ⟨⟨m, h1⟩, ⟨e1, h2, h3⟩, ⟨e2, h4, h5⟩⟩ := h
  exact ⟨⟨m, Below.cellOf hb h1⟩, ⟨e1, Below.cellOf hb h2, h3⟩, ⟨e2, Below.cellOf hb h4, h5⟩⟩

theorem parse_ok : ∀ (l : Bs) (acc : Nat), (∀ x ∈ l, isDig x = true) → (acc + 1) * 10 ^ l.length ≤ 10 ^ 18 → Lib.parseUint10 acc l = .ok (l.foldl (fun n b => n * 10 + (b.toNat - 48)) acc)
  | [], acc, _, _ => rfl
  | c :: r, acc, h, hb => by
    have hc := h c (by simp)
    unfold isDig at hc
    simp only [Bool.and_eq_true, decide_eq_true_eq] at hc
    have hp : 1 ≤ 10 ^ r.length := Nat.one_le_pow _ _ (by decide)
    rw [List.length_cons, Nat.pow_succ] at hb
    have h3 : (acc + 1) * 10 ≤ 10 ^ 18 := Nat.le_trans (Nat.le_mul_of_pos_right _ hp) (by rw [Nat.mul_assoc, Nat.mul_comm 10]; exact hb)
    have h4 : (acc * 10 + (c.toNat - 48) + 1) * 10 ^ r.length ≤ 10 ^ 18 := by
      refine Nat.le_trans (Nat.mul_le_mul_right _ (show acc * 10 + (c.toNat - 48) + 1 ≤ (acc + 1) * 10 by omega)) ?_
      rw [Nat.mul_assoc, Nat.mul_comm 10]; exact hb
    rw [Lib.parseUint10, if_pos hc, if_neg (by omega), if_neg (by omega), parse_ok r _ (fun x hx => h x (by simp [hx])) h4]
    rfl
theorem atoi_val {ds : Bs} (h : ∀ x ∈ ds, isDig x = true) (h1 : 1 ≤ ds.length) (h3 : ds.length ≤ 3) : Lib.atoiAll ds = .ok (valD ds : Int) := by
  match ds, h, h1, h3 with
  | c :: r, h, h1, h3 =>
    have hc := h c (by simp)
    unfold isDig at hc
    simp only [Bool.and_eq_true, decide_eq_true_eq] at hc
    have hp : Lib.parseUint10 0 (c :: r) = .ok (valD (c :: r)) := parse_ok _ _ h (by
      rw [Nat.zero_add, Nat.one_mul]
      exact Nat.pow_le_pow_right (by decide) (by omega))
    have hlt := Lib.parseUint10_lt _ _ _ (by decide) hp
    have hsm : valD (c :: r) < 9223372036854775808 := by
      have hd : ∀ (l : Bs) (a : Nat), (∀ x ∈ l, isDig x = true) → l.foldl (fun n b => n * 10 + (b.toNat - 48)) a + 1 ≤ (a + 1) * 10 ^ l.length := by
        intro l
        induction l with
        | nil => intro a _; simp
        | cons b l ih =>
          intro a ha
          have hb := ha b (by simp)
          unfold isDig at hb
          simp only [Bool.and_eq_true, decide_eq_true_eq] at hb
          have := ih (a * 10 + (b.toNat - 48)) (fun x hx => ha x (by simp [hx]))
          rw [List.foldl_cons, List.length_cons, Nat.pow_succ, Nat.mul_comm (10 ^ l.length), ← Nat.mul_assoc]
          exact Nat.le_trans this (Nat.mul_le_mul_right _ (by omega))
      have h5 := hd (c :: r) 0 h
      have h6 : 10 ^ (c :: r).length ≤ 10 ^ 3 := Nat.pow_le_pow_right (by decide) h3
      unfold valD; omega
    unfold Lib.atoiAll Lib.parseMag
    simp only []
    rw [if_neg (by omega : ¬ (c.toNat = 43 ∨ c.toNat = 45)), if_neg (by simp), hp]
    simp only []
    rw [if_neg (by omega), if_neg (by omega), if_neg (by omega)]

theorem atoi51 (s : Bs) (hs : s.length ≤ 100000) (w : World) (hg : GV w) : Calls Tryz.prog 62 #[sV s] w fun e w' => ∃ x ev, e = .returned (.tuple #[.int .i64 x, ev]) ∧ (ev = .nilIface ∨ ∃ t p, ev = .iface t p) ∧ (∀ v, Lib.atoiAll s = .ok v → x = v) ∧ Below w.heap.size w w' := by
  obtain ⟨⟨m, h1⟩, ⟨e1, h2, h3⟩, ⟨e2, h4, h5⟩⟩ := hg
  have hz : (⟨s.toArray⟩ : ByteArray).size = s.length := by simp [ByteArray.size]
  cases hx : Lib.atoiAll s with
  | ok v =>
    refine (Tryz.strconv_Atoi_ok ⟨s.toArray⟩ (by rw [hz]; omega) v (by simpa using hx) w).mono ?_
    rintro e w' ⟨rfl, h⟩
    refine ⟨v, .nilIface, rfl, .inl rfl, fun y hy => by injection hy, ?_⟩
    rcases h with rfl | ⟨t, rfl⟩
    · exact Below.refl _ _
    · exact Lib.bytesWorld_below _ _ _
  | «syntax» =>
    refine (Tryz.strconv_Atoi_syntax ⟨s.toArray⟩ (by rw [hz]; omega) (by simpa using hx) e1 w h2 h3).mono ?_
    rintro e w' ⟨N, rfl, _, _, hb⟩
    exact ⟨0, _, rfl, .inr ⟨_, _, rfl⟩, (fun y hy => by cases hy), hb⟩
  | range =>
    refine (Tryz.strconv_Atoi_range ⟨s.toArray⟩ (by rw [hz]; omega) (by simpa using hx) e2 w h4 h5).mono ?_
    rintro e w' ⟨N, rfl, _, _, hb⟩
    exact ⟨_, _, rfl, .inr ⟨_, _, rfl⟩, (fun y hy => by cases hy), hb⟩

theorem index_sV {P : Program} (w : World) (t : TypeId) (s : Bs) (k : Nat) (h : P.underlying t = some .string) (hk : k < s.length) : (Instr.index t (sV s) (.int .i64 (k : Int))).run P w = .ok (.int .u8 ((s.getD k 0).toNat : Int)) w := by
  have h2 : 0 ≤ (k : Int) ∧ (k : Int) < (⟨s.toArray⟩ : ByteArray).size := by simp [ByteArray.size]; exact hk
  rw [run_index_string w t _ _ _ h, dif_pos h2]
  congr 3
  simp [ByteArray.getElem_eq_getElem_data, List.getD, hk]
theorem sliceR_sV {P : Program} (w : World) (t : TypeId) (s : Bs) (k : Nat) (h : P.underlying t = some .string) (hk : k ≤ s.length) : (Instr.slice t (sV s) (some (.int .i64 (k : Int))) none none).run P w = .ok (sV (s.drop k)) w := by
  have h2 : (k : Int) ≤ (⟨s.toArray⟩ : ByteArray).size := by simp [ByteArray.size]; omega
  rw [run_slice_string_l w t _ h _ _ (by omega) h2]
  congr 2
  refine ByteArray.ext ?_
  simp [ByteArray.size]
  exact List.take_of_length_le (by simp)
theorem sliceL_sV {P : Program} (w : World) (t : TypeId) (s : Bs) (k : Nat) (h : P.underlying t = some .string) (hk : k ≤ s.length) : (Instr.slice t (sV s) none (some (.int .i64 (k : Int))) none).run P w = .ok (sV (s.take k)) w := by
  have h2 : (k : Int) ≤ (⟨s.toArray⟩ : ByteArray).size := by simp [ByteArray.size]; omega
  rw [run_slice_string_h w t _ h _ _ (by omega) h2]
  congr 2
  refine ByteArray.ext ?_
  simp
end Go.Proofs.YtidgnbdlfngeaaaGreatDoor
