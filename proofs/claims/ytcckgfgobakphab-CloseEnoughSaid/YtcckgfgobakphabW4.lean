/-
  Walks: merged, alike (the reference's).
-/
import Derived.Test.YtcckgfgobakphabProg
import Derived.Test.YtcckgfgobakphabBase
import Derived.Test.YtcckgfgobakphabW3
namespace Go.Proofs.Ytcckgfgobakphab
open Go.RowKit
set_option linter.unusedVariables false
set_option maxHeartbeats 400000

theorem info3 : (Try.prog.info? 3).map (fun i => (i.zero, i.size, i.bytes)) = some (some (.int .i64 0), 1, 8) := by kernel_rfl
theorem info4 : (Try.prog.info? 4).map (fun i => (i.zero, i.size, i.bytes)) = some (some (.bool false), 1, 1) := by kernel_rfl
theorem info34 : (Try.prog.info? 34).map (fun i => (i.zero, i.size, i.bytes)) = some (some (.agg #[.int .i64 0, .int .i64 0]), 2, 16) := by kernel_rfl

def vN (n : Nat) : Value := .int .i64 (n : Int)

/-- a slice of integers reads as this list of naturals -/
def NatsAt (w : World) (v : Value) (l : List Nat) : Prop :=
  ∃ ao cap, v = .slice ao l.length cap ∧ CellsAt w ao l.length (fun j => .int .i64 (gN l j : Nat))

theorem NatsAt.below {w w' : World} (hb : Below w.heap.size w w') {v : Value} {l : List Nat} (h : NatsAt w v l) : NatsAt w' v l := by
  obtain ⟨ao, cap, e, hc⟩ := h
  exact ⟨ao, cap, e, hc.below hb⟩

theorem gI_map (l : List Nat) (j : Nat) : gI (l.map Int.ofNat) j = (gN l j : Int) := by
  by_cases h : j < l.length
  · rw [gI_get (by simpa using h), gN_get h]; simp
  · simp [gI, gN, Nat.not_lt.1 h]

theorem NatsAt.ints {w : World} {v : Value} {l : List Nat} (h : NatsAt w v l) : IntsAt w v (l.map Int.ofNat) := by
  obtain ⟨ao, cap, e, hc⟩ := h
  refine ⟨ao, cap, by simpa using e, ?_⟩
  intro j hj
  obtain ⟨b, off, e, hc⟩ := hc j (by simpa using hj)
  exact ⟨b, off, e, by simpa [gI_map] using hc⟩

theorem NatsAt.ofOwn {w : World} {base : Nat} {v : Value} {l : List Nat} (h : w.ownsRow base 3 1 v l.length (l.map vN)) : NatsAt w v l := by
  have h' : w.ownsRow base 3 1 v (l.map Int.ofNat).length ((l.map Int.ofNat).map (Value.int .i64)) := by
    have e : (l.map Int.ofNat).map (Value.int .i64) = l.map vN := by rw [List.map_map]; rfl
    rw [e, List.length_map]; exact h
  obtain ⟨ao, cap, e, hc⟩ := IntsAt.ofOwn h'
  refine ⟨ao, cap, by simpa using e, ?_⟩
  intro j hj
  obtain ⟨b, off, e, hc⟩ := hc j (by simpa using hj)
  exact ⟨b, off, e, by simpa [gI_map] using hc⟩

/-- .. and it lies in blocks from B on -/
def NatsFrom (B : Nat) (w : World) (v : Value) (l : List Nat) : Prop := NatsAt w v l ∧ ∀ a n c, v = .slice (some a) n c → B ≤ a.block
theorem NatsFrom.below {B : Nat} {w w' : World} {v : Value} {l : List Nat} (h : NatsFrom B w v l) (hb : Below w.heap.size w w') : NatsFrom B w' v l := ⟨h.1.below hb, h.2⟩
theorem NatsFrom.nil (B : Nat) (w : World) : NatsFrom B w (.slice none 0 0) [] := ⟨⟨none, 0, rfl, fun j hj => by simp at hj⟩, fun a n c e => by simp at e⟩
theorem NatsFrom.mono {B B' : Nat} {w : World} {v : Value} {l : List Nat} (h : NatsFrom B w v l) (hB : B' ≤ B) : NatsFrom B' w v l := ⟨h.1, fun a n c e => Nat.le_trans hB (h.2 a n c e)⟩
theorem NatsFrom.ofOwn {B base : Nat} {w : World} {v : Value} {l : List Nat} (h : w.ownsRow base 3 1 v l.length (l.map vN)) (hB : B ≤ base) : NatsFrom B w v l :=
  ⟨NatsAt.ofOwn h, fun a n c e => by subst e; exact Nat.le_trans hB (World.ownsRow.lt h a.block rfl).1⟩
theorem cell?_setCell_ne {w : World} {a b : Addr} {u v : Value} (h : w.cell? b = some v) (hne : b.block ≠ a.block) : (w.setCell a u).cell? b = some v := by
  rw [World.cell?_of_block (w := w) (Below.heap_setCell w a u b.block hne)]; exact h
theorem NatsFrom.setCell {B : Nat} {w : World} {v : Value} {l : List Nat} (h : NatsFrom B w v l) {a : Addr} (ha : a.block < B) (u : Value) : NatsFrom B (w.setCell a u) v l := by
  obtain ⟨⟨ao, cap, rfl, hc⟩, h2⟩ := h
  refine ⟨⟨ao, cap, rfl, fun j hj => ?_⟩, h2⟩
  obtain ⟨b, off, rfl, hcell⟩ := hc j hj
  have := h2 _ _ _ rfl
  exact ⟨b, off, rfl, cell?_setCell_ne hcell (by simp only at this ⊢; omega)⟩

/-- one class for two: the lesser number X stands for the greater, Y, too -/
def mergeW (X Y : Nat) (c : Nat) : Nat := if c = Y then X else c
def merge (cl : List Nat) (a b : Nat) : List Nat := cl.map (mergeW (min (gN cl a) (gN cl b)) (max (gN cl a) (gN cl b)))

theorem merge_length (cl : List Nat) (a b : Nat) : (merge cl a b).length = cl.length := by simp [merge]
theorem gN_map {f : Nat → Nat} {l : List Nat} {j : Nat} (h : j < l.length) : gN (l.map f) j = f (gN l j) := by
  rw [gN_get (by simpa using h), gN_get h]; simp

/-- what has been gathered after k rounds -/
def mergeTo (cl : List Nat) (x y : Nat) (k : Nat) : List Nat := (cl.take k).map (mergeW x y)
theorem mergeTo_length {cl : List Nat} {x y k : Nat} (h : k ≤ cl.length) : (mergeTo cl x y k).length = k := by simp [mergeTo]; omega
theorem mergeTo_succ {cl : List Nat} {x y k : Nat} (h : k < cl.length) : mergeTo cl x y (k + 1) = mergeTo cl x y k ++ [mergeW x y (gN cl k)] := by
  rw [mergeTo, List.take_succ_eq_append_getElem h, List.map_append, gN_get h]; rfl

theorem own_snoc {w : World} {base T sz : Nat} {v : Value} {n : Nat} {l : List Nat} {c d : Nat} (h : w.ownsRow base T sz v n (l.map vN ++ [.int .i64 (c : Int)])) (e : d = c) :
    w.ownsRow base T sz v n ((l ++ [d]).map vN) := by
  subst e; simpa [vN] using h

set_option maxRecDepth 100000 in
set_option maxHeartbeats 1000000 in
theorem merged_core (cl : List Nat) (a b A C X Y : Nat) (ao : Option Addr) (cap : Nat) (w : World) (hn : cl.length ≤ 1000) (hbd : ∀ j, gN cl j ≤ 100000) (ha : a < cl.length) (hb : b < cl.length)
    (hA : gN cl a = A) (hB : gN cl b = C)
    (hc : CellsAt w ao cl.length (fun j => .int .i64 (gN cl j : Nat))) (hs : (C < A ∧ X = C ∧ Y = A) ∨ (¬ C < A ∧ X = A ∧ Y = C)) :
    Calls Try.prog 24 #[.slice ao cl.length cap, .int .i64 a, .int .i64 b] w fun e w' => ∃ u, e = .returned u ∧ NatsFrom w.heap.size w' u (mergeTo cl X Y cl.length) ∧ Below w.heap.size w w' := by
  obtain ⟨i0, hi, hz0, hz1, hz2⟩ := info_parts info3
  obtain ⟨b0, off, rfl, ca⟩ := hc.get ha
  obtain ⟨b0', off', e0, cb⟩ := hc.get hb
  simp only [Option.some.injEq, Addr.mk.injEq] at e0
  obtain ⟨rfl, rfl, _⟩ := e0
  have ba := hbd a
  have bb := hbd b
  simp only [hA] at ca ba
  simp only [hB] at cb bb
  clear hA hB
  have HB := Lib.hid hbd; clear hbd
  rcases hs with ⟨hlt, rfl, rfl⟩ | ⟨hlt, rfl, rfl⟩
  all_goals
    go_enter Try.func24, Try.ntmps24
    go_wp2_with fail
    go_loopw [9, 10] (fun o i wr => ∃ k : Nat, k ≤ cl.length ∧ i = .int .i64 k ∧ Below w.heap.size w wr ∧ wr.ownsRow w.heap.size 3 1 o k ((mergeTo cl X Y k).map vN)) (fun _ i _ => cl.length - (intOf i).toNat)
    case atStart => exact ⟨0, by omega, rfl, Below.refl _ _, by simpa [mergeTo] using World.ownsRow_nil _ _ _ _⟩
    case round =>
      obtain ⟨k, hk, rfl, hbel, hown⟩ := hrel
      by_cases hkl : k < cl.length
      · obtain ⟨b0', off', e0, ck⟩ := hc.get hkl
        simp only [Option.some.injEq, Addr.mk.injEq] at e0
        obtain ⟨rfl, rfl, _⟩ := e0
        have c1 := Below.cellOf hbel ck
        clear ck
        have hbk := HB.out k
        have hsz := hbel.size
        have HS := Lib.hid (mergeTo_succ (x := X) (y := Y) hkl)
        by_cases hY : gN cl k = Y
        · have hT : ((gN cl k : Int) == (Y : Int)) = true := by simp; omega
          have HY := Lib.hid hY; clear hY
          go_wp2_with (at_builtin; refine wpList_append_own _ rfl _ _ 24 rfl w.heap.size 3 i0 (.int .i64 0) 1 8 Try.underlying24 hi hz0 hz1 hz2 rfl (by decide) _ _ _ rfl (hown.alloc _) ⟨wr.heap.size, 0, none⟩ 1 1 [.int .i64 (X : Nat)] rfl rfl ?c1 ?c2 ?c3 ?c4 ?c5 ?_)
          case c1 => exact cell_one_new _ _ _
          case c2 => intro u hu; simp at hu; subst hu; rfl
          case c3 => unfold maxLen; omega
          case c4 => omega
          case c5 => simp; omega
          intro v' w1 hown' hgrow _
          have hb1 : Below w.heap.size w w1 := (hbel.alloc hsz _).grown hgrow (by simp; omega) (fun q hq => (hown.lt q hq).1)
          clear hown hgrow
          go_wp2_with fail
          go_roundw
          case rel => exact ⟨k + 1, by omega, by go_num, hb1, by rw [HS.out]; exact own_snoc hown' (by simp [mergeW, HY.out])⟩
          case measure => simp [intOf]; omega
        · have hT : ((gN cl k : Int) == (Y : Int)) = false := by simp; omega
          have HY := Lib.hid hY; clear hY
          go_wp2_with (at_builtin; refine wpList_append_own _ rfl _ _ 24 rfl w.heap.size 3 i0 (.int .i64 0) 1 8 Try.underlying24 hi hz0 hz1 hz2 rfl (by decide) _ _ _ rfl (hown.alloc _) ⟨wr.heap.size, 0, none⟩ 1 1 [.int .i64 (gN cl k : Nat)] rfl rfl ?d1 ?d2 ?d3 ?d4 ?d5 ?_)
          case d1 => exact cell_one_new _ _ _
          case d2 => intro u hu; simp at hu; subst hu; rfl
          case d3 => unfold maxLen; omega
          case d4 => omega
          case d5 => simp; omega
          intro v' w1 hown' hgrow _
          have hb1 : Below w.heap.size w w1 := (hbel.alloc hsz _).grown hgrow (by simp; omega) (fun q hq => (hown.lt q hq).1)
          clear hown hgrow
          go_wp2_with fail
          go_roundw
          case rel => exact ⟨k + 1, by omega, by go_num, hb1, by rw [HS.out]; exact own_snoc hown' (by simp [mergeW, HY.out])⟩
          case measure => simp [intOf]; omega
      · obtain rfl : k = cl.length := by omega
        go_wp2_with fail
        go_ret
        exact ⟨_, rfl, NatsFrom.ofOwn (base := w.heap.size) (by rw [mergeTo_length (Nat.le_refl _)]; exact hown) (Nat.le_refl _), hbel⟩

theorem merged_any (cl : List Nat) (a b : Nat) (v : Value) (w : World) (hn : cl.length ≤ 1000) (hbd : ∀ j, gN cl j ≤ 100000) (ha : a < cl.length) (hb : b < cl.length) (h : NatsAt w v cl) :
    Calls Try.prog 24 #[v, .int .i64 a, .int .i64 b] w fun e w' => ∃ u, e = .returned u ∧ NatsFrom w.heap.size w' u (merge cl a b) ∧ Below w.heap.size w w' := by
  obtain ⟨ao, cap, rfl, hc⟩ := h
  have e : merge cl a b = mergeTo cl (min (gN cl a) (gN cl b)) (max (gN cl a) (gN cl b)) cl.length := by simp [merge, mergeTo]
  rw [e]
  exact merged_core cl a b _ _ _ _ ao cap w hn hbd ha hb rfl rfl hc (by omega)
end Go.Proofs.Ytcckgfgobakphab
