/-
  Walks: claimFact, ClaimBack.
-/
import Derived.Test.YtidgnbdlfngeaaaDoorTx1
import Derived.Test.YtidgnbdlfngeaaaDoorRd8
import Derived.Test.YtidgnbdlfngeaaaDoorSl1
namespace Go.Proofs.YtidgnbdlfngeaaaDoor
open Go.RowKit Go.Shelf
set_option linter.unusedVariables false
set_option linter.unusedSimpArgs false
set_option maxHeartbeats 400000

def ar0 : List Int := [0, 1]
def tl0 : T := .node 1 []
def tr0 : T := .node 2 [.node (-1) []]
def cs0 : List (List Fc) := [[⟨true, tl0, tr0⟩]]
def txt0 : Bs := [115, 105, 103, 110, 115, 32, 48, 32, 49, 10, 99, 108, 97, 105, 109, 32, 115, 49, 33, 61, 115, 50, 40, 120, 49, 41, 10]
theorem lore0 : loreF ar0 cs0 = (0, 0) := by decide
theorem loreTxt0 : loreTxt ar0 cs0 = txt0 := by
  simp only [loreTxt, ar0, cs0, tl0, tr0, txt0, sgTxt, clsTxt, clTxt, fsTxt, fcTxt, T.txt, kidsTxt, restTxt, negT, sSigns, sClaim]
  rw [show (0 : Int).toNat = 0 from rfl, show (1 : Int).toNat = 1 from rfl, show (2 : Int).toNat = 2 from rfl, show (-(-1) : Int).toNat = 1 from rfl, dig_lt (show 0 < 10 by omega), dig_lt (show 1 < 10 by omega), dig_lt (show 2 < 10 by omega)]
  decide
theorem text0 : textR ar0 cs0 = ((0, 0), txt0) := by
  unfold textR
  rw [lore0, loreTxt0]
  decide
theorem read0 : readR txt0 = ((0, 0), ar0, cs0) := by
  have h := text_read (ar := ar0) (cs := cs0) (by rw [text0])
  rw [text0] at h
  exact h

theorem rows0 {W : World} {p : Nat → Prop} {g1 g : Nat} (hp1 : p g1) (hp2 : p g) (hp3 : p (g + 1)) (hp4 : p (g + 2)) (h1 : W.heap[g1]? = some (.cells #[.int .i64 0, .int .i64 1] 3 (0, 0))) (h2 : W.heap[g]? = some (.cells #[.int .i64 (-1), .slice none 0 0] 45 (0, 0)))
    (h3 : W.heap[g + 1]? = some (.cells #[.bool true, .int .i64 1, .slice none 0 0, .int .i64 2, .slice (some ⟨g, 0, none⟩) 1 1] 47 (0, 0))) (h4 : W.heap[g + 2]? = some (.cells #[.slice (some ⟨g + 1, 0, none⟩) 1 1] 37 (0, 0))) :
    intE.Row p W (some ⟨g1, 0, none⟩) ar0 ∧ claimE.Row p W (some ⟨g + 2, 0, none⟩) cs0 := by
  have hT : TreeP p W (.agg #[.int .i64 2, .slice (some ⟨g, 0, none⟩) 1 (1 + 0)]) tr0 := by
    refine TreeP.close (h := 2) (ks := [.node (-1) []]) (sp := 0) (fun i hi => ?_) (by show 1 ≤ maxLen; unfold maxLen; omega)
    have hi0 : i = 0 := by simpa using hi
    subst hi0
    exact ⟨g, 0, none, 0, rfl, hp2, by simp [World.cell?, h2, gK, T.head], by simp [World.cell?, h2, gK, T.kids], TreeP.leaf _ _ _⟩
  have hF : factE.Row p W (some ⟨g + 1, 0, none⟩) [⟨true, tl0, tr0⟩] := by
    intro i x hi
    rcases i with _ | i
    · obtain rfl : (⟨true, tl0, tr0⟩ : Fc) = x := by simpa using hi
      refine ⟨g + 1, 0, [.bool true, .int .i64 1, .slice none 0 0, .int .i64 2, .slice (some ⟨g, 0, none⟩) 1 1], rfl, hp3, fun j u hu => ?_, none, 0, some ⟨g, 0, none⟩, 0, rfl, TreeP.leaf _ _ _, hT⟩
      simpa [World.cell?, h3] using hu
    · simp at hi
  refine ⟨fun i x hi => ?_, fun i x hi => ?_⟩
  · rcases i with _ | i
    · obtain rfl : (0 : Int) = x := by simpa [ar0] using hi
      refine ⟨g1, 0, [.int .i64 0], rfl, hp1, fun j u hu => ?_, rfl⟩
      rcases j with _ | j
      · simp at hu; subst hu; simp [World.cell?, h1]
      · simp at hu
    · rcases i with _ | i
      · obtain rfl : (1 : Int) = x := by simpa [ar0] using hi
        refine ⟨g1, 0, [.int .i64 1], rfl, hp1, fun j u hu => ?_, rfl⟩
        rcases j with _ | j
        · simp at hu; subst hu; simp [World.cell?, h1, intE]
        · simp at hu
      · simp [ar0] at hi
  · rcases i with _ | i
    · obtain rfl : ([⟨true, tl0, tr0⟩] : List Fc) = x := by simpa [cs0] using hi
      refine ⟨g + 2, 0, [.slice (some ⟨g + 1, 0, none⟩) 1 1], rfl, hp4, fun j u hu => ?_, some ⟨g + 1, 0, none⟩, 0, rfl, hF, by show 1 ≤ maxLen; unfold maxLen; omega⟩
      rcases j with _ | j
      · simp at hu; subst hu; simp [World.cell?, h4, claimE]
      · simp at hu
    · simp [cs0] at hi

set_option maxRecDepth 100000 in
set_option maxHeartbeats 8000000 in
theorem fact5 (w : World) (hg : GV w) : Calls Tryd.prog 5 #[] w fun e w' => e = .returned (.bool true) ∧ Below w.heap.size w w' := by
  have HG := Lib.hid hg
  have S1 := (St.start w).box rfl #[.int .i64 0, .int .i64 1] 3
  have HBX := Lib.hid (rfl : w.heap.size = w.heap.size)
  clear hg
  go_enter Tryd.func5, Tryd.ntmps5
  go_wp2_with fail
  refine (S1.quiet (leaf25 1 _)).mono ?_
  rintro e w1 ⟨rfl, z1, S2⟩
  clear S1
  go_wp2_with fail
  refine (S2.quiet (leaf25 (-1) _)).mono ?_
  rintro e w2 ⟨rfl, z2, S3⟩
  clear S2
  obtain ⟨g, hg⟩ : ∃ b, b = w2.heap.size := ⟨_, rfl⟩
  obtain ⟨g1, hg1⟩ : ∃ b, b = w.heap.size := ⟨_, rfl⟩
  have hgg : g1 < g := by rw [hg, hg1]; simp at z1; omega
  have S4 := (((S3.box hg.symm #[.int .i64 (-1), .slice none 0 0] 45).box (b := g + 1) (by simp [hg]) #[.bool true, .int .i64 1, .slice none 0 0, .int .i64 2, .slice (some ⟨g, 0, none⟩) 1 1] 47).box (b := g + 1 + 1) (by simp [hg]) #[.slice (some ⟨g + 1, 0, none⟩) 1 1] 37).box (b := g + 1 + 1 + 1) (by simp [hg]) #[.slice (some ⟨g1, 0, none⟩) 2 2, .slice (some ⟨g + 1 + 1, 0, none⟩) 1 1] 25
  rw [← hg1] at S4
  have hz4 : ((((w2.alloc (.cells #[.int .i64 (-1), .slice none 0 0] 45)).alloc (.cells #[.bool true, .int .i64 1, .slice none 0 0, .int .i64 2, .slice (some ⟨g, 0, none⟩) 1 1] 47)).alloc (.cells #[.slice (some ⟨g + 1, 0, none⟩) 1 1] 37)).alloc (.cells #[.slice (some ⟨g1, 0, none⟩) 2 2, .slice (some ⟨g + 1 + 1, 0, none⟩) 1 1] 25)).heap.size = g + 4 := by simp [hg]
  go_upto_region 2 with fail
  rw [← hg, ← hg1]
  refine S4.genC (z := g + 4) (by omega) ?_
  have HG1 := Lib.hid hg1
  clear S3 S4 hz4 hg z1 z2 hg1
  intro w3 z3 S
  obtain ⟨RA, RC⟩ := rows0 (W := w3) (g1 := g1) (g := g) (p := fun c => c < w3.heap.size) (by omega) (by omega) (by omega) (by omega) (S.block 0 rfl) (S.block 1 rfl) (S.block 2 rfl) (S.block 3 rfl)
  obtain ⟨⟨y0, _⟩, y2, _⟩ := S.two 4
  have HTX : Hid (Calls Tryd.prog 6 #[.agg #[.slice (some ⟨g1, 0, none⟩) 2 2, .slice (some ⟨g + 1 + 1, 0, none⟩) 1 1]] w3 fun e w' => e = .returned (.tuple #[sV txt0, .agg #[.int .i64 0, .int .i64 0]]) ∧ Below w3.heap.size w3 w') := by
    have h := text6 ar0 cs0 _ _ (some ⟨g1, 0, none⟩) (some ⟨g + 1 + 1, 0, none⟩) 2 1 w3 RA RC (fun c h => h) (fun c h => h) (by show 2 ≤ maxLen; unfold maxLen; omega) (by show 1 ≤ maxLen; unfold maxLen; omega)
    rw [text0] at h
    exact Lib.hid h
  have HRA := Lib.hid RA; have HRC := Lib.hid RC
  have HS := Lib.hid ((S.add (.rowE intE (fun c => c < w3.heap.size) (some ⟨g1, 0, none⟩) ar0) RA).add (.rowE claimE (fun c => c < w3.heap.size) (some ⟨g + 1 + 1, 0, none⟩) cs0) RC)
  clear S RA RC
  go_wp2_with fail
  refine (HTX.out).mono ?_
  rintro e w4 ⟨rfl, hb4⟩
  have S5 := HS.out.step hb4
  obtain ⟨g3, hg3⟩ : ∃ b, b = w4.heap.size := ⟨_, rfl⟩
  have S6 := S5.box hg3.symm #[.int .i64 0, .int .i64 0] 28
  have hz6 : (w4.alloc (.cells #[.int .i64 0, .int .i64 0] 28)).heap.size = g3 + 1 := by simp [hg3]
  have HB4 := Lib.hid hb4
  have HRD : Hid (∀ W, GV W → Calls Tryd.prog 7 #[sV txt0] W fun e w' => ∃ (ao co : Option Addr) (sa sc : Nat), e = .returned (.tuple #[.agg #[.slice ao 2 (2 + sa), .slice co 1 (1 + sc)], .agg #[.int .i64 0, .int .i64 0]]) ∧
      intE.Row (fun b => W.heap.size ≤ b) w' ao ar0 ∧ claimE.Row (fun b => W.heap.size ≤ b) w' co cs0 ∧ Below W.heap.size W w') := by
    refine Lib.hid (fun W hW => (read7 txt0 W hW (by decide)).mono ?_)
    rintro e w' ⟨ao, co, sa, sc, rfl, h1, h2, h3⟩
    rw [read0] at h1 h2
    exact ⟨ao, co, sa, sc, by rw [read0]; rfl, h1, h2, h3⟩
  go_upto_region 3 with fail
  rw [← hg3]
  refine S6.genC (z := g3 + 1) (by omega) ?_
  have HG3 := Lib.hid (show w3.heap.size ≤ g3 from by rw [hg3]; exact hb4.size)
  clear S5 S6 hz6 hg3 hb4
  intro w5 z5 S
  have HS5 := Lib.hid S
  go_wp2_with fail
  refine (HRD.out _ (HG.out.kept HS5.out.bel)).mono ?_
  rintro e w6 ⟨ao, co, sa, sc, rfl, hra, hrc, hb6⟩
  have S7 := ((HS5.out.step hb6).add (.rowE intE (fun b => w5.heap.size ≤ b) ao ar0) hra).add (.rowE claimE (fun b => w5.heap.size ≤ b) co cs0) hrc
  obtain ⟨g4, hg4⟩ : ∃ b, b = w6.heap.size := ⟨_, rfl⟩
  have S8 := (S7.box hg4.symm #[.slice ao 2 (2 + sa), .slice co 1 (1 + sc)] 25).box (b := g4 + 1) (by simp [hg4]) #[.int .i64 0, .int .i64 0] 28
  have hz8 : ((w6.alloc (.cells #[.slice ao 2 (2 + sa), .slice co 1 (1 + sc)] 25)).alloc (.cells #[.int .i64 0, .int .i64 0] 28)).heap.size = g4 + 2 := by simp [hg4]
  go_upto_region 4 with fail
  rw [← hg4]
  refine S8.genC (z := g4 + 2) (by omega) ?_
  clear S7 S8 hz8 hg4 hb6 hra hrc HRD HS5 HS HRA HRC
  intro w7 z7 S
  have HSL : Hid (Calls Tryd.prog 8 #[.agg #[.slice (some ⟨g1, 0, none⟩) 2 2, .slice (some ⟨g + 1 + 1, 0, none⟩) 1 1], .agg #[.slice ao 2 (2 + sa), .slice co 1 (1 + sc)]] w7 fun e w' => e = .returned (.bool true) ∧ Below w7.heap.size w7 w') :=
    Lib.hid (sameLore8 ar0 cs0 _ _ _ _ (some ⟨g1, 0, none⟩) (some ⟨g + 1 + 1, 0, none⟩) ao co 2 1 (2 + sa) (1 + sc) w7 (S.rowE intE 5 rfl) (S.rowE claimE 6 rfl) (S.rowE intE 8 rfl) (S.rowE claimE 9 rfl) (by decide) (by decide) (by decide))
  obtain ⟨⟨t0, _⟩, t2, _⟩ := S.two 4
  obtain ⟨⟨u0, _⟩, u2, _⟩ := S.two 7
  obtain ⟨⟨v0, _⟩, v2, _⟩ := S.two 10
  obtain ⟨⟨x0, _⟩, x2, _⟩ := S.two 11
  have HS := Lib.hid S.bel
  clear S
  go_wp2_with fail
  · refine (HSL.out).mono ?_
    rintro e w8 ⟨rfl, hb8⟩
    go_wp2_with fail
    go_ret
    exact ⟨rfl, Below.step HS.out hb8⟩
end Go.Proofs.YtidgnbdlfngeaaaDoor
