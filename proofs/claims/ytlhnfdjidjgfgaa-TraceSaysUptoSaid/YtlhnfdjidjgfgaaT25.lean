/-
  Walks: tree.Get.
-/
import Derived.Test.YtlhnfdjidjgfgaaProg
import Derived.Test.YtlhnfdjidjgfgaaBase
import Derived.Test.YtlhnfdjidjgfgaaT29
namespace Go.Proofs.Ytlhnfdjidjgfgaa
open Go.RowKit Go.Shelf
set_option linter.unusedVariables false
set_option maxHeartbeats 400000

/-- down a place: the tree there, -1; or none, and where the place fails -/
def T.get : T → List Int → Int → T × Int
  | t, [], _ => (t, -1)
  | t, k :: r, i => if k < 1 ∨ (t.kids.length : Int) < k then (zeroT, i) else (gK t.kids (k - 1).toNat).get r (i + 1)
theorem T.get_lt : ∀ (p : List Int) (t : T) (i : Int), 0 ≤ i → (t.get p i).2 = -1 ∨ 0 ≤ (t.get p i).2
  | [], t, i, h => .inl rfl
  | k :: r, t, i, h => by
    rw [T.get]
    by_cases hb : k < 1 ∨ (t.kids.length : Int) < k
    · rw [if_pos hb]; exact .inr h
    · rw [if_neg hb]; exact T.get_lt r _ (i + 1) (by omega)
def GetPost (r : T × Int) (w : World) (e : Ending) (w' : World) : Prop := ∃ u, e = .returned (.tuple #[u, .int .i64 r.2]) ∧ TreeAt w' u r.1 ∧ Below w.heap.size w w'
theorem drop_gI {l : List Int} {i : Nat} (h : i < l.length) : l.drop i = gI l i :: l.drop (i + 1) := by rw [List.drop_eq_getElem_cons h, gI_get h]

theorem TreeAt.row {w : World} {h0 : Int} {ao : Option Addr} {n c : Nat} {x : T} (h : TreeAt w (.agg #[.int .i64 h0, .slice ao n c]) x) : RowAt w ao x.kids ∧ x.kids.length ≤ maxLen := by
  obtain ⟨ao', sp', e, h1, h2⟩ := h.open
  simp at e
  rw [e.2.1]; exact ⟨h1, h2⟩

set_option maxRecDepth 100000 in
set_option maxHeartbeats 4000000 in
theorem get49 (t : T) (place : List Int) (v : Value) (po : Option Addr) (pc : Nat) (w : World) (ht : TreeAt w v t) (hp : CellsAt w po place.length (fun j => .int .i64 (gI place j))) (hpl : place.length ≤ 9223372036854775807) :
    Calls Try.prog 140 #[v, .slice po place.length pc] w (GetPost (t.get place 0) w) := by
  obtain ⟨k, sp, rfl⟩ := ht.form
  have HT := Lib.hid ht; have HP := Lib.hid hp; clear ht hp
  have hX := heap_alloc_old (o' := .cells #[.int .i64 0, .slice none 0 0] 38) (heap_ofAlloc w (.cells #[.int .i64 t.head, .slice k t.kids.length (t.kids.length + sp)] 38))
  have hA := heap_ofAlloc (w.alloc (.cells #[.int .i64 t.head, .slice k t.kids.length (t.kids.length + sp)] 38)) (.cells #[.int .i64 0, .slice none 0 0] 38)
  rw [World.size_alloc] at hA
  have hb0 := below_two w (.cells #[.int .i64 t.head, .slice k t.kids.length (t.kids.length + sp)] 38) (.cells #[.int .i64 0, .slice none 0 0] 38)
  go_enter Try.func140, Try.ntmps140
  go_wp2_with fail
  generalize (w.alloc (.cells #[.int .i64 t.head, .slice k t.kids.length (t.kids.length + sp)] 38)).alloc (.cells #[.int .i64 0, .slice none 0 0] 38) = w0 at hX hA hb0 ⊢
  obtain ⟨bx, hbx⟩ : ∃ b, b = w.heap.size := ⟨_, rfl⟩
  obtain ⟨br, hbr⟩ : ∃ b, b = w.heap.size + 1 := ⟨_, rfl⟩
  rw [← hbr] at hA ⊢
  rw [← hbx] at hX ⊢
  have g1 : w.heap.size ≤ bx := by omega
  have g2 : w.heap.size ≤ br := by omega
  have g3 : bx ≠ br := by omega
  clear hbx hbr
  go_loopw [6, 7, 10] (fun _ _ i wr => ∃ (q : Nat) (x : T) (xo : Option Addr) (xsp : Nat), q ≤ place.length ∧ i = .int .i64 q ∧ x.get (place.drop q) q = t.get place 0 ∧
    wr.heap[bx]? = some (.cells #[.int .i64 x.head, .slice xo x.kids.length (x.kids.length + xsp)] 38 (0, 0)) ∧ TreeAt w (.agg #[.int .i64 x.head, .slice xo x.kids.length (x.kids.length + xsp)]) x ∧
    wr.heap[br]? = some (.cells #[.int .i64 0, .slice none 0 0] 38 (0, 0)) ∧ Below w.heap.size w wr) (fun _ _ i _ => place.length - (intOf i).toNat)
  case atStart => exact ⟨0, t, k, sp, by omega, rfl, by simp, hX, HT.out, hA, hb0⟩
  case round =>
    obtain ⟨q, x, xo, xsp, hq, rfl, hg, hbx, htx, hbr, hb⟩ := hrel
    have HG := Lib.hid hg; have HTX := Lib.hid htx
    obtain ⟨hrow, hxm⟩ := htx.row
    have HROW := Lib.hid hrow
    have hxm : x.kids.length ≤ 9223372036854775807 := hxm
    have HBX := Lib.hid hbx; have HBR := Lib.hid hbr
    obtain ⟨⟨x0, x1⟩, x2, x3⟩ := box2 hbx
    obtain ⟨⟨y0, y1⟩, y2, y3⟩ := box2 hbr
    clear hg htx hrow hbx hbr
    by_cases hlt : q < place.length
    · obtain ⟨pb, poff, rfl, c0⟩ := HP.out.get hlt
      have d0 := Below.cellOf hb c0
      have HD := Lib.hid (show x.get (place.drop q) q = if gI place q < 1 ∨ (x.kids.length : Int) < gI place q then (zeroT, (q : Int)) else (gK x.kids (gI place q - 1).toNat).get (place.drop (q + 1)) (q + 1) by rw [drop_gI hlt, T.get])
      clear c0
      generalize gI place q = z at d0 HD ⊢
      by_cases h1 : z < 1
      · have HR := Lib.hid (show t.get place 0 = (zeroT, (q : Int)) by rw [← HG.out, HD.out, if_pos (.inl h1)])
        go_wp2_with fail
        refine bodyPost_ret (v := .tuple #[.agg #[.int .i64 0, .slice none 0 0], .int .i64 q]) ?_ rfl ?_
        · obtain ⟨⟨z0, _⟩, z1, _⟩ := box2 (box2_set HBR.out (.int .i64 0) (.slice none 0 0))
          simp [results, Try.results140, go_sem, z0, z1]
        · exact ⟨_, by rw [HR.out], by rw [HR.out]; exact TreeAt.zero _, (hb.setCell (p := ⟨br, 0, none⟩) g2 _).setCell (p := ⟨br, 1, none⟩) g2 _⟩
      · by_cases h2 : (x.kids.length : Int) < z
        · have HR := Lib.hid (show t.get place 0 = (zeroT, (q : Int)) by rw [← HG.out, HD.out, if_pos (.inr h2)])
          go_wp2_with fail
          refine bodyPost_ret (v := .tuple #[.agg #[.int .i64 0, .slice none 0 0], .int .i64 q]) ?_ rfl ?_
          · obtain ⟨⟨z0, _⟩, z1, _⟩ := box2 (box2_set HBR.out (.int .i64 0) (.slice none 0 0))
            simp [results, Try.results140, go_sem, z0, z1]
          · exact ⟨_, by rw [HR.out], by rw [HR.out]; exact TreeAt.zero _, (hb.setCell (p := ⟨br, 0, none⟩) g2 _).setCell (p := ⟨br, 1, none⟩) g2 _⟩
        · obtain ⟨j, rfl⟩ : ∃ j : Nat, z = (j : Int) + 1 := ⟨(z - 1).toNat, by omega⟩
          have hjl : j < x.kids.length := by omega
          obtain ⟨b, off, ko, ksp, rfl, c1, c2, c3⟩ := HROW.out j hjl
          have HC3 := Lib.hid c3
          have d1 := Below.cellOf hb c1; have d2 := Below.cellOf hb c2
          have HN := Lib.hid (show (gK x.kids j).get (place.drop (q + 1)) ((q + 1 : Nat) : Int) = t.get place 0 by
            have h := HG.out
            rw [HD.out, if_neg (by omega)] at h
            have e : ((j : Int) + 1 - 1).toNat = j := by omega
            rw [e] at h; simpa using h)
          have hsub : (j : Int) + 1 - 1 = (j : Int) := by omega
          clear c1 c2 c3
          go_wp2_with fail
          go_roundw
          case rel => exact ⟨q + 1, gK x.kids j, ko, ksp, by omega, by go_num, HN.out, box2_set HBX.out _ _, HC3.out, heap_set_other (heap_set_other HBR.out (by simp; omega)) (by simp; omega), (hb.setCell (p := ⟨bx, 0, none⟩) g1 _).setCell (p := ⟨bx, 1, none⟩) g1 _⟩
          case measure => simp [intOf] <;> omega
    · obtain rfl : q = place.length := by omega
      have HR := Lib.hid (show t.get place 0 = (x, -1) by rw [← HG.out, List.drop_length, T.get])
      go_wp2_with fail
      have hbf := (hb.setCell (p := ⟨br, 0, none⟩) g2 (.int .i64 x.head)).setCell (p := ⟨br, 1, none⟩) g2 (.slice xo x.kids.length (x.kids.length + xsp))
      refine bodyPost_ret (v := .tuple #[.agg #[.int .i64 x.head, .slice xo x.kids.length (x.kids.length + xsp)], .int .i64 (-1)]) ?_ rfl ?_
      · obtain ⟨⟨z0, _⟩, z1, _⟩ := box2 (box2_set HBR.out (.int .i64 x.head) (.slice xo x.kids.length (x.kids.length + xsp)))
        simp [results, Try.results140, go_sem, z0, z1]
      · exact ⟨_, by rw [HR.out], by rw [HR.out]; exact HTX.out.kept hbf, hbf⟩
end Go.Proofs.Ytlhnfdjidjgfgaa
