/-
  Walks: positions as rows of the call's own; slices.Clone, slices.Clip over them.
-/
import Derived.Test.YteekoclfpehnpaaProg
import Derived.Test.YteekoclfpehnpaaBase
import Derived.Test.YteekoclfpehnpaaXa
import Derived.Deep.RegionLawGrows
import Derived.ArgAppend
import Derived.Outline
namespace Go.Proofs.Yteekoclfpehnpaa
open Go.RowKit Go.Shelf
set_option linter.unusedVariables false
set_option maxHeartbeats 400000

theorem info3 : (Try.prog.info? 3).map (fun i => (i.zero, i.size, i.bytes)) = some (some (.int .i64 0), 1, 8) := by kernel_rfl

/-- a position: a row of integers at the head of a block -/
def PlaceAt (B : Nat) (w : World) (v : Value) (l : List Int) : Prop := w.ownsRow B 3 1 v l.length (l.map (Value.int .i64)) ∧ (l = [] → v = .slice none 0 0)
theorem PlaceAt.nil (B : Nat) (w : World) : PlaceAt B w (.slice none 0 0) [] := ⟨World.ownsRow_nil _ _ _ _, fun _ => rfl⟩
theorem PlaceAt.kept {B : Nat} {w w' : World} {v : Value} {l : List Int} (h : PlaceAt B w v l) (hb : Below w.heap.size w w') : PlaceAt B w' v l := ⟨own_below h.1 hb, h.2⟩
theorem PlaceAt.ints {B : Nat} {w : World} {v : Value} {l : List Int} (h : PlaceAt B w v l) : IntsAt w v l := IntsAt.ofOwn h.1
theorem PlaceAt.cells {B : Nat} {w : World} {v : Value} {l : List Int} (h : PlaceAt B w v l) : (v = .slice none 0 0 ∧ l = []) ∨ ∃ g cap, v = .slice (some ⟨g, 0, none⟩) l.length cap ∧ B ≤ g ∧ 0 < l.length ∧ l.length ≤ cap ∧ cap ≤ maxLen ∧ ∀ j u, (l.map (Value.int .i64))[j]? = some u → w.cell? ⟨g, 0 + j, none⟩ = some u := by
  obtain ⟨⟨_, h2⟩, h3⟩ := h
  rcases h2 with ⟨rfl, hn⟩ | ⟨g, cap, cur, rfl, hB, hh, hnc, hm, hsz, htk⟩
  · exact .inl ⟨rfl, List.eq_nil_of_length_eq_zero hn⟩
  · refine .inr ⟨g, cap, rfl, hB, ?_, hnc, hm, fun j u hj => ?_⟩
    · cases l with
      | nil => have := h3 rfl; simp at this
      | cons x r => simp
    · rw [← htk, List.getElem?_take] at hj
      split at hj
      · simp only [World.cell?, hh, Nat.zero_add, Option.isSome_none]
        rw [← Array.getElem?_toList]; simpa using hj
      · cases hj
theorem PlaceAt.of {B : Nat} {w : World} {v : Value} {l : List Int} {n : Nat} {xs : List Value} (h : w.ownsRow B 3 1 v n xs) (hn : n = l.length) (hx : xs = l.map (Value.int .i64)) (hl : 0 < l.length) : PlaceAt B w v l := by
  subst hn hx
  exact ⟨h, fun e => by rw [e] at hl; simp at hl⟩

theorem ownsRow_low {w : World} {B B' : Nat} {e : TypeId} {size : Nat} {v : Value} {n : Nat} {xs : List Value} (h : w.ownsRow B e size v n xs) (hb : B' ≤ B) : w.ownsRow B' e size v n xs := by
  obtain ⟨h1, h2⟩ := h
  refine ⟨h1, h2.imp id ?_⟩
  rintro ⟨g, cap, cur, e1, e2, e3⟩
  exact ⟨g, cap, cur, e1, by omega, e3⟩
def ClonePost (l : List Int) (w : World) (e : Ending) (w' : World) : Prop := (∃ u, e = .returned u ∧ PlaceAt w.heap.size w' u l) ∧ Below w.heap.size w w'

theorem PlaceAt.form {B : Nat} {w : World} {v : Value} {l : List Int} (h : PlaceAt B w v l) : ∃ ao cap, v = .slice ao l.length cap := by
  rcases h.cells with ⟨rfl, rfl⟩ | ⟨g, cap, rfl, _⟩
  · exact ⟨none, 0, rfl⟩
  · exact ⟨_, _, rfl⟩
theorem PlaceAt.at {B : Nat} {w : World} {ao : Option Addr} {cap : Nat} {l : List Int} (h : PlaceAt B w (.slice ao l.length cap) l) : (ao = none → l.length = 0 ∧ l.length = 0) ∧ ∀ b, ao = some b → ∀ j u, (l.map (Value.int .i64))[j]? = some u → w.cell? (b.add j) = some u := by
  rcases h.cells with ⟨h1, rfl⟩ | ⟨g, cap', h1, _, _, _, _, hc⟩
  · exact ⟨fun _ => ⟨rfl, rfl⟩, fun b _ j u hj => by simp at hj⟩
  · simp at h1
    obtain ⟨rfl, rfl⟩ := h1
    exact ⟨(fun h => by cases h), (fun b hb j u hj => by cases hb; rw [Addr.add_lit]; exact hc j u hj)⟩
theorem clip66s (B : Nat) (l : List Int) (ao : Option Addr) (cap : Nat) (w : World) (h : PlaceAt B w (.slice ao l.length cap) l) : Calls Try.prog 132 #[.slice ao l.length cap] w fun e w' => e = .returned (.slice ao l.length l.length) ∧ w' = w := by
  rcases h.cells with ⟨h1, rfl⟩ | ⟨g, cap', h1, _, hl0, hlc, hml, hc⟩
  · simp at h1
    obtain ⟨rfl, rfl⟩ := h1
    clear h
    go_enter Try.func132, Try.ntmps132
    go_wp2_with fail
    go_ret
    exact ⟨rfl, rfl⟩
  · simp at h1
    obtain ⟨rfl, rfl⟩ := h1
    have hml : cap ≤ 9223372036854775807 := hml
    clear h hc
    have h1 : (l.length : Int) ≤ cap := by omega
    go_enter Try.func132, Try.ntmps132
    go_wp2_with fail
    go_ret
    exact ⟨rfl, rfl⟩
theorem clone65 (B : Nat) (l : List Int) (v : Value) (w : World) (h : PlaceAt B w v l) (hl : l.length ≤ 100000000) : Calls Try.prog 131 #[v] w (ClonePost l w) := by
  have hnil := fun (w : World) a n c => Lib.run_eql_slice_nil (P := Try.prog) w 27 3 a n c 0 0 Try.underlying27
  rcases h.cells with ⟨rfl, rfl⟩ | ⟨g, cap, rfl, hg, hl0, hlc, hml, hc⟩
  · clear h
    go_enter Try.func131, Try.ntmps131
    go_wp2_with fail
    go_ret
    exact ⟨⟨_, rfl, PlaceAt.nil _ _⟩, Below.refl _ _⟩
  · have hml : cap ≤ 9223372036854775807 := hml
    have HC := Lib.hid hc
    have HH := Lib.hid h
    clear h hc
    obtain ⟨i3, gi, gz0, gz1, gz2⟩ := info_parts info3
    go_enter Try.func131, Try.ntmps131
    go_wp2_with (at_builtin; refine wpList_append_grows _ rfl (.tmp 5) (.tmp 6) 27 rfl 3 i3 (.int .i64 0) 1 8 Try.underlying27 gi gz0 gz1 gz2 rfl (by decide) (some ⟨w.heap.size, 0, none⟩) 0 0 [] rfl (fun h => by cases h) rfl (fun b hb j u hj => by simp at hj) ⟨g, 0, none⟩ l.length cap (l.map (Value.int .i64)) rfl (by simp) ?c1 ?c2 ?c3 ?c4 ?c5 ?_)
    case c1 => exact fun j u hj => by rw [Addr.add_lit]; exact Below.cellOf ((Below.refl w.heap.size w).alloc (Nat.le_refl _) _) (HC.out j u hj)
    case c2 => intro u hu; simp at hu; obtain ⟨x, _, rfl⟩ := hu; rfl
    case c3 => omega
    case c4 => unfold maxLen; omega
    case c5 => omega
    intro v' w1 hown hgrow
    have HO := Lib.hid hown; have HG := Lib.hid hgrow
    clear hown hgrow
    go_wp2_with fail
    go_ret
    have hz := World.size_alloc w (.cells #[] 3)
    refine ⟨⟨_, rfl, PlaceAt.of (ownsRow_low HO.out (show w.heap.size ≤ _ by simp)) (by omega) (by simp) hl0⟩, ?_⟩
    exact ((Below.refl w.heap.size w).alloc (Nat.le_refl _) _).grown HG.out (by simp) (fun q hq => by cases hq)
end Go.Proofs.Yteekoclfpehnpaa
