/-
  Walks: unify.solved, unify.Can.
-/
import Derived.Test.YtlhnfdjidjgfgaaProg
import Derived.Test.YtlhnfdjidjgfgaaUx4
namespace Go.Proofs.Ytlhnfdjidjgfgaa
open Go.RowKit Go.Shelf Go.Maps
set_option linter.unusedVariables false
set_option maxHeartbeats 400000

/-- what stands behind solved -/
structure SolvedR (N : Nat) (p : Nat → Prop) (A B : T) (w0 : World) (bs b : Nat) (M : PM) (r : Bool) (w' : World) : Prop where
  box : w'.heap[bs]? = some (.cells #[.map (some b)] 165 (0, 0))
  map : MapT N p b M w'
  good : GoodM N M
  yes : r = true → Acyc M ∧ ∀ θ, Sol M θ ↔ A.inst θ = B.inst θ
  no : r = false → ∀ θ, A.inst θ ≠ B.inst θ
  hbs : w0.heap.size ≤ bs
  hb : w0.heap.size ≤ b
  bel : Below w0.heap.size w0 w'
def SolvedP (N : Nat) (A B : T) (w : World) (e : Ending) (w' : World) : Prop := ∃ (bs b : Nat) (M : PM) (r : Bool), e = .returned (.tuple #[.pointer (some ⟨bs, 0, none⟩), .bool r]) ∧ SolvedR N (fun c => c < w.heap.size) A B w bs b M r w'

set_option maxRecDepth 100000 in
set_option maxHeartbeats 8000000 in
theorem solved134 (N : Nat) (A B : T) (va vb : Value) (w : World) (hA : TreeAt w va A) (hB : TreeAt w vb B) (hvA : VA N A) (hvB : VA N B) (hN : N ≤ 1000) :
    Calls Try.prog 134 #[va, vb] w (SolvedP N A B w) := by
  have hmm := @run_makeMap Try.prog
  obtain ⟨ka, sa, rfl⟩ := hA.form
  obtain ⟨kb, sb, rfl⟩ := hB.form
  have TA := Lib.hid hA; have TB := Lib.hid hB; have HVA := Lib.hid hvA; have HVB := Lib.hid hvB; have HN := Lib.hid hN
  obtain ⟨bx, hbx⟩ : ∃ b, b = w.heap.size := ⟨_, rfl⟩
  have S1 := (((St.start w).box hbx.symm #[.int .i64 A.head, .slice ka A.kids.length (A.kids.length + sa)] 38).box (b := bx + 1) (by simp [hbx]) #[.int .i64 B.head, .slice kb B.kids.length (B.kids.length + sb)] 38).alloc (.map #[] 0)
  have hsz2 : ((w.alloc (.cells #[.int .i64 A.head, .slice ka A.kids.length (A.kids.length + sa)] 38)).alloc (.cells #[.int .i64 B.head, .slice kb B.kids.length (B.kids.length + sb)] 38)).heap.size = bx + 2 := by simp [hbx]
  have hM := MapT.made N (fun c => c < w.heap.size) ((w.alloc (.cells #[.int .i64 A.head, .slice ka A.kids.length (A.kids.length + sa)] 38)).alloc (.cells #[.int .i64 B.head, .slice kb B.kids.length (B.kids.length + sb)] 38))
  rw [hsz2] at hM
  have S2 := (S1.add (.mapT N (fun c => c < w.heap.size) (bx + 2) (fun _ => none)) hM).box (b := bx + 3) (by simp [hbx]) #[.map (some (bx + 2))] 165
  have hsz4 : ((((w.alloc (.cells #[.int .i64 A.head, .slice ka A.kids.length (A.kids.length + sa)] 38)).alloc (.cells #[.int .i64 B.head, .slice kb B.kids.length (B.kids.length + sb)] 38)).alloc (.map #[] 0)).alloc (.cells #[.map (some (bx + 2))] 165)).heap.size = bx + 4 := by simp [hbx]
  clear S1 hM hA hB hvA hvB hN hsz2
  go_enter Try.func134, Try.ntmps134
  go_wp2_with fail
  rw [← hbx]
  refine S2.gen (z := bx + 4) (by omega) ?_
  intro w1 z1 S
  have HBX := Lib.hid (show w.heap.size ≤ bx ∧ bx ≤ w.heap.size by omega)
  clear S2 hsz4 hbx hmm
  obtain ⟨σ, hσ⟩ := mgs_of acyc_empty
  refine (S.unified 2 rfl (by simp only [fsnoc, offs, offAll, Fct.box, and_true]; omega) (unify_all N (fun c => c < w.heap.size) (bx + 2) (bx + 3) w (by have := HBX.out; omega) (by have := HBX.out; omega) (fun c h => h) HN.out N _ (fun _ => none) A B _ _ w1 (by rw [unb_empty]; omega) ⟨σ, hσ.sol, Nat.le_refl _⟩ (S.pick [2, 3]) (good_empty N) acyc_empty (TA.out.foot.kept S.bel) (TB.out.foot.kept S.bel) HVA.out HVB.out)).mono ?_
  rintro e w2 ⟨r, M, rfl, HU, z2, S2⟩
  clear S hσ
  have SH := Lib.hid S2
  cases r with
  | false =>
    have HNO := Lib.hid (show ∀ θ, A.inst θ ≠ B.inst θ from fun θ => HU.out.no rfl θ (fun x t h => by cases h))
    clear S2
    go_wp2_with fail
    go_ret2
    exact ⟨bx + 3, bx + 2, M, false, rfl, ⟨SH.out.block 3, SH.out.mapT 2, HU.out.good, (fun h => by cases h), (fun _ => HNO.out), by have := HBX.out; omega, by have := HBX.out; omega, SH.out.bel⟩⟩
  | true =>
    clear S2
    go_wp2_with fail
    refine (roundOK N (fun c => c < w.heap.size) (bx + 2) (bx + 3) M w2 (SH.out.mapT 2) (SH.out.block 3) HU.out.good HN.out (fun c hc => Nat.lt_of_lt_of_le hc SH.out.bel.size)).mono ?_
    rintro e w3 ⟨r2, rfl, h1, h2, hb3⟩
    have H1 := Lib.hid h1; have H2 := Lib.hid h2
    have S3 := Lib.hid (SH.out.step hb3)
    clear h1 h2 hb3
    have HSOL := Lib.hid (show ∀ θ, Sol M θ ↔ A.inst θ = B.inst θ from fun θ => (HU.out.yes rfl θ).trans ⟨fun h => h.2, fun h => ⟨(fun x t h => by cases h), h⟩⟩)
    cases r2 with
    | true =>
      have HNO := Lib.hid (show ∀ θ, A.inst θ ≠ B.inst θ from fun θ h => H1.out rfl θ ((HSOL.out θ).2 h))
      go_wp2_with fail
      go_ret2
      exact ⟨bx + 3, bx + 2, M, false, rfl, ⟨S3.out.block 3, S3.out.mapT 2, HU.out.good, (fun h => by cases h), (fun _ => HNO.out), by have := HBX.out; omega, by have := HBX.out; omega, S3.out.bel⟩⟩
    | false =>
      have HAC := Lib.hid (H2.out rfl)
      go_wp2_with fail
      go_ret2
      exact ⟨bx + 3, bx + 2, M, true, rfl, ⟨S3.out.block 3, S3.out.mapT 2, HU.out.good, (fun _ => ⟨HAC.out, HSOL.out⟩), (fun h => by cases h), by have := HBX.out; omega, by have := HBX.out; omega, S3.out.bel⟩⟩
end Go.Proofs.Ytlhnfdjidjgfgaa
