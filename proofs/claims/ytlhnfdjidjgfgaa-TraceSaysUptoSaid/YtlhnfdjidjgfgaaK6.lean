/-
  Walk: trace.right.
-/
import Derived.Test.YtlhnfdjidjgfgaaProg
import Derived.Test.YtlhnfdjidjgfgaaTr0
import Derived.Test.YtlhnfdjidjgfgaaK3
import Derived.Test.YtlhnfdjidjgfgaaK4
import Derived.Test.YtlhnfdjidjgfgaaK61
import Derived.Test.YtlhnfdjidjgfgaaG5
import Derived.Test.YtlhnfdjidjgfgaaMp
import Derived.Deep.DeepCutAuto
namespace Go.Proofs.Ytlhnfdjidjgfgaa
open Go.RowKit Go.Shelf
set_option linter.unusedVariables false
set_option maxHeartbeats 400000

def RightP (A B : List Fc) (g : Gt) (p : Nat → Prop) (w : World) (e : Ending) (w' : World) : Prop :=
  ∃ ro rsp, e = .returned (.tuple #[.agg #[.slice ro (rightF A B g).1.length ((rightF A B g).1.length + rsp)], .int .i64 (rightF A B g).2]) ∧ factE.Row (fun c => p c ∨ w.heap.size ≤ c) w' ro (rightF A B g).1 ∧ Below w.heap.size w w'
theorem RightP.bad {A B : List Fc} {g : Gt} {p : Nat → Prop} {w w' : World} {c : Int} (h : rightF A B g = ([], c)) (hb : Below w.heap.size w w') : RightP A B g p w (.returned (.tuple #[.agg #[.slice none 0 0], .int .i64 c])) w' := by
  unfold RightP
  rw [h]
  exact ⟨none, 0, rfl, Elt.Row.nil, hb⟩

theorem cells_tail {W : World} {pb poff pc : Nat} {l : List Int} (h : CellsAt W (some ⟨pb, poff, none⟩) l.length (fun j => .int .i64 (gI l j))) (hc : l.length ≤ pc) : CellsAt W (if pc = 1 then some ⟨pb, poff, none⟩ else some ⟨pb, poff + 1, none⟩) l.tail.length (fun j => .int .i64 (gI l.tail j)) := fun j hj => by
  have hj' : j + 1 < l.length := by simp at hj; omega
  rw [if_neg (by omega)]
  obtain ⟨b, off, e, hcc⟩ := h (j + 1) hj'
  simp only [Option.some.injEq, Addr.mk.injEq] at e
  obtain ⟨rfl, rfl, _⟩ := e
  refine ⟨_, _, rfl, ?_⟩
  rw [Nat.add_assoc, Nat.add_comm 1 j, hcc]
  cases l with
  | nil => simp at hj'
  | cons x r => rfl
set_option maxRecDepth 100000 in
set_option maxHeartbeats 8000000 in
theorem right111 (A B : List Fc) (g : Gt) (p : Nat → Prop) (ao co po bo : Option Addr) (sa sb pc bc : Nat) (w : World) (hp : ∀ c, p c → c < w.heap.size) (hA : factE.Row p w ao A) (hB : factE.Row p w co B) (hpl : CellsAt w po g.pl.length (fun j => .int .i64 (gI g.pl j))) (hplc : g.pl.length ≤ pc) (hpc : pc ≤ 9223372036854775807)
    (hnA : A.length ≤ 100) (hnB : B.length ≤ 100) (hsA : ∀ t, t ∈ treesF A → t.size ≤ 1000) (hsB : ∀ t, t ∈ treesF B → t.size ≤ 1000) :
    Calls Try.prog 111 #[.agg #[.slice ao A.length (A.length + sa)], .agg #[.slice co B.length (B.length + sb)], .agg #[.int .i64 g.kind, .int .i64 g.a, .int .i64 g.b, .int .i64 g.i, .int .i64 g.j, .bool g.turn, .slice po g.pl.length pc, .slice bo g.bs.length bc]] w (RightP A B g p w) := by
  obtain ⟨tb, htb⟩ : ∃ tb, tb = g.turn := ⟨_, rfl⟩
  rw [← htb]
  have HTB := Lib.hid htb
  clear htb
  have HA := Lib.hid hA; have HB := Lib.hid hB; have HP := Lib.hid hp; have HPL := Lib.hid hpl
  obtain ⟨bx, hbx⟩ : ∃ b, b = w.heap.size := ⟨_, rfl⟩
  have S1 := ((((St.start w).box hbx.symm #[.slice ao A.length (A.length + sa)] 41).box (b := bx + 1) (by simp [hbx]) #[.slice co B.length (B.length + sb)] 41).box (b := bx + 2) (by simp [hbx]) #[.int .i64 g.kind, .int .i64 g.a, .int .i64 g.b, .int .i64 g.i, .int .i64 g.j, .bool tb, .slice po g.pl.length pc, .slice bo g.bs.length bc] 35).box (b := bx + 3) (by simp [hbx]) #[.slice none 0 0] 41
  have HBX := Lib.hid hbx
  clear hA hB hp hpl
  go_enter Try.func111, Try.ntmps111
  go_upto_region 1 with fail
  rw [← hbx]
  refine S1.genC (z := bx + 4) (by simp [hbx]) ?_
  intro w1 z1 S
  clear S1 hbx
  change St w w1 [.box bx #[.slice ao A.length (A.length + sa)] 41, .box (bx + 1) #[.slice co B.length (B.length + sb)] 41, .box (bx + 2) #[.int .i64 g.kind, .int .i64 g.a, .int .i64 g.b, .int .i64 g.i, .int .i64 g.j, .bool tb, .slice po g.pl.length pc, .slice bo g.bs.length bc] 35, .box (bx + 3) #[.slice none 0 0] 41] at S
  obtain ⟨a0, _⟩ := S.one 0
  obtain ⟨b0, _⟩ := S.one 1
  obtain ⟨g3, _⟩ := S.cell 2 3 rfl
  obtain ⟨g4, _⟩ := S.cell 2 4 rfl
  obtain ⟨g5, _⟩ := S.cell 2 5 rfl
  obtain ⟨g6, _⟩ := S.cell 2 6 rfl
  go_cut [14] (fun t14 W => t14 = .bool (decide (¬ (inL g.i A.length ∧ inL g.j B.length))) ∧ W = w1)
  case first =>
    by_cases h1 : g.i < 0
    · have HD := Lib.hid (show decide (¬ (inL g.i A.length ∧ inL g.j B.length)) = true from decide_eq_true (fun h => by have := h.1.1; omega))
      go_wp2_with fail
      go_meet
      case rel => exact ⟨congrArg Value.bool HD.out.symm, rfl⟩
    · by_cases h2 : (A.length : Int) ≤ g.i
      · have HD := Lib.hid (show decide (¬ (inL g.i A.length ∧ inL g.j B.length)) = true from decide_eq_true (fun h => by have := h.1.2; omega))
        go_wp2_with fail
        go_meet
        case rel => exact ⟨congrArg Value.bool HD.out.symm, rfl⟩
      · by_cases h3 : g.j < 0
        · have HD := Lib.hid (show decide (¬ (inL g.i A.length ∧ inL g.j B.length)) = true from decide_eq_true (fun h => by have := h.2.1; omega))
          go_wp2_with fail
          go_meet
          case rel => exact ⟨congrArg Value.bool HD.out.symm, rfl⟩
        · by_cases h4 : (B.length : Int) ≤ g.j
          · have HD := Lib.hid (show decide (¬ (inL g.i A.length ∧ inL g.j B.length)) = true from decide_eq_true (fun h => by have := h.2.2; omega))
            go_wp2_with fail
            go_meet
            case rel => exact ⟨congrArg Value.bool HD.out.symm, rfl⟩
          · have HD := Lib.hid (show decide (¬ (inL g.i A.length ∧ inL g.j B.length)) = false from decide_eq_false (fun h => h ⟨⟨by omega, by omega⟩, ⟨by omega, by omega⟩⟩))
            go_wp2_with fail
            go_meet
            case rel => exact ⟨congrArg Value.bool HD.out.symm, rfl⟩
  case rest =>
  obtain ⟨ht14, hw⟩ := hcut
  replace hw := hw.symm
  subst hw
  subst ht14
  by_cases hin : ¬ (inL g.i A.length ∧ inL g.j B.length)
  · have HD := Lib.hid (show rightF A B g = ([], 3) by rw [rightF, if_pos hin])
    have hd : decide (¬ (inL g.i A.length ∧ inL g.j B.length)) = true := decide_eq_true hin
    rw [hd]
    obtain ⟨r0, r1⟩ := S.one 3
    have SG := Lib.hid (S.set1 3 rfl (.slice none 0 0) (by have := HBX.out; omega) (by simp only [offs, offAll, Fct.box, and_true]; omega))
    have hl3 := S.lt 3
    clear S
    go_wp2_with fail
    refine bodyPost_ret (v := .tuple #[.agg #[.slice none 0 0], .int .i64 3]) ?_ rfl ?_
    · obtain ⟨q0, _⟩ := SG.out.one 3
      simp [results, Try.results111, go_sem, q0]
    · exact RightP.bad HD.out SG.out.bel
  have hd : decide (¬ (inL g.i A.length ∧ inL g.j B.length)) = false := decide_eq_false hin
  rw [hd]
  have hin := Decidable.not_not.1 hin
  have HIN := Lib.hid hin
  obtain ⟨⟨hi0, hi1⟩, ⟨hj0, hj1⟩⟩ := hin
  obtain ⟨I, hI⟩ : ∃ I : Nat, (I : Int) = g.i := ⟨g.i.toNat, by omega⟩
  obtain ⟨J, hJ⟩ : ∃ J : Nat, (J : Int) = g.j := ⟨g.j.toNat, by omega⟩
  have hIA : I < A.length := by omega
  have hJB : J < B.length := by omega
  have hfa : gF A g.i = A[I] := by unfold gF; rw [show g.i.toNat = I by omega, List.getD_eq_getElem?_getD, List.getElem?_eq_getElem hIA]; rfl
  have hfb : gF B g.j = B[J] := by unfold gF; rw [show g.j.toNat = J by omega, List.getD_eq_getElem?_getD, List.getElem?_eq_getElem hJB]; rfl
  obtain ⟨ab, aoff, ka, sa1, kb, sb1, rfl, hpa, c0, c1, c2, c3, c4, tx, ty⟩ := HA.out.fact hIA
  obtain ⟨cb, coff, kc, sc1, kd, sd1, rfl, hpb, d0, d1, d2, d3, d4, tu, tv⟩ := HB.out.fact hJB
  obtain ⟨fa, hfa2⟩ : ∃ f, f = A[I] := ⟨_, rfl⟩
  obtain ⟨fb, hfb2⟩ : ∃ f, f = B[J] := ⟨_, rfl⟩
  have hmA := treesF_mem2 hIA
  have hmB := treesF_mem2 hJB
  rw [← hfa2] at hfa c0 c1 c2 c3 c4 tx ty hmA
  rw [← hfb2] at hfb d0 d1 d2 d3 d4 tu tv hmB
  have HR1 := Lib.hid (show rightF A B g = (if fa.neg = true then ([], 5) else if g.pl = [] ∨ (gI g.pl 0 ≠ 1 ∧ gI g.pl 0 ≠ 2) then ([], 6)
    else if 0 ≤ ((sideF g fb).get g.pl.tail 0).2 then ([], 6) else if ((sideF g fb).get g.pl.tail 0).1 ≠ fromF g fa then ([], 11)
    else (A.eraseIdx I ++ B.eraseIdx J ++ [lastF g fb (T.withAt g.pl.tail (sideF g fb) (toF g fa))], 0)) by
    rw [rightF, if_neg (fun h => h HIN.out), hfa, hfb, show g.i.toNat = I by omega, show g.j.toNat = J by omega])
  have hs1 := hsA _ hmA.1
  have hs2 := hsA _ hmA.2
  have hs3 := hsB _ hmB.1
  have hs4 := hsB _ hmB.2
  have TX := Lib.hid tx; have TY := Lib.hid ty; have TU := Lib.hid tu; have TV := Lib.hid tv
  rw [← hI] at g3
  rw [← hJ] at g4
  have HI := Lib.hid hI; have HJ := Lib.hid hJ
  have HDC := Lib.hid (And.intro d0 (And.intro d1 (And.intro d2 (And.intro d3 d4))))
  replace c0 := Below.cellOf S.bel c0
  replace c1 := Below.cellOf S.bel c1
  replace c2 := Below.cellOf S.bel c2
  replace c3 := Below.cellOf S.bel c3
  replace c4 := Below.cellOf S.bel c4
  clear d0 d1 d2 d3 d4
  clear hI hJ hfa hfb hfa2 hfb2 tx ty tu tv hmA hmB hin hd hi0 hi1 hj0 hj1 hsA hsB
  have hIi : (I : Int) < (A.length : Int) := by omega
  have hJi : (J : Int) < (B.length : Int) := by omega
  go_step
  cases hna : fa.neg with
  | true =>
    have HD := Lib.hid (show rightF A B g = ([], 5) by rw [HR1.out, if_pos hna])
    rw [hna] at c0
    clear hna
    obtain ⟨r0, r1⟩ := S.one 3
    have SG := Lib.hid (S.set1 3 rfl (.slice none 0 0) (by have := HBX.out; omega) (by simp only [offs, offAll, Fct.box, and_true]; omega))
    have hl3 := S.lt 3
    clear S
    go_wp2_with fail
    refine bodyPost_ret (v := .tuple #[.agg #[.slice none 0 0], .int .i64 5]) ?_ rfl ?_
    · obtain ⟨q0, _⟩ := SG.out.one 3
      simp [results, Try.results111, go_sem, q0]
    · exact RightP.bad HD.out SG.out.bel
  | false =>
  have HR2 := Lib.hid (HR1.out.trans (if_neg (by rw [hna]; decide)))
  rw [hna] at c0
  clear hna
  go_upto_region 5 with fail
  go_cut [49] (fun t49 W => t49 = .bool (decide (g.pl = [] ∨ (gI g.pl 0 ≠ 1 ∧ gI g.pl 0 ≠ 2))) ∧ W = w1)
  case first =>
    by_cases h0 : g.pl = []
    · have HD := Lib.hid (show decide (g.pl = [] ∨ (gI g.pl 0 ≠ 1 ∧ gI g.pl 0 ≠ 2)) = true from decide_eq_true (.inl h0))
      have hl : g.pl.length = 0 := by rw [h0]; rfl
      clear h0
      go_wp2_with fail
      go_meet
      case rel => exact ⟨congrArg Value.bool HD.out.symm, rfl⟩
    · have hl : 0 < g.pl.length := List.length_pos_iff.2 h0
      have hlb : ((g.pl.length : Int) == 0) = false := by simp; exact h0
      obtain ⟨pb, poff, rfl, q0⟩ := HPL.out 0 hl
      have q1 : w1.cell? ⟨pb, poff, none⟩ = some (.int .i64 (gI g.pl 0)) := Below.cellOf S.bel q0
      obtain ⟨V, hV⟩ : ∃ V, V = gI g.pl 0 := ⟨_, rfl⟩
      rw [← hV] at q1
      have HV := Lib.hid hV
      clear q0 hV
      by_cases h1 : V = 1
      · have HD := Lib.hid (show decide (g.pl = [] ∨ (gI g.pl 0 ≠ 1 ∧ gI g.pl 0 ≠ 2)) = false from decide_eq_false (fun h => h.elim h0 (fun h => h.1 (by rw [← HV.out]; exact h1))))
        subst h1
        clear h0
        go_wp2_with fail
        go_meet
        case rel => exact ⟨congrArg Value.bool HD.out.symm, rfl⟩
      · have h1b : (V != 1) = true := by simpa using h1
        by_cases h2 : V = 2
        · have HD := Lib.hid (show decide (g.pl = [] ∨ (gI g.pl 0 ≠ 1 ∧ gI g.pl 0 ≠ 2)) = false from decide_eq_false (fun h => h.elim h0 (fun h => h.2 (by rw [← HV.out]; exact h2))))
          subst h2
          clear h0 h1 h1b
          go_wp2_with fail
          go_meet
          case rel => exact ⟨congrArg Value.bool HD.out.symm, rfl⟩
        · have HD := Lib.hid (show decide (g.pl = [] ∨ (gI g.pl 0 ≠ 1 ∧ gI g.pl 0 ≠ 2)) = true from decide_eq_true (.inr ⟨by rw [← HV.out]; exact h1, by rw [← HV.out]; exact h2⟩))
          have h2b : (V != 2) = true := by simpa using h2
          clear h0 h1 h2
          go_wp2_with fail
          go_meet
          case rel => exact ⟨congrArg Value.bool HD.out.symm, rfl⟩
  case rest =>
  obtain ⟨ht49, hw⟩ := hcut
  replace hw := hw.symm
  subst hw
  subst ht49
  go_step
  by_cases hpl : g.pl = [] ∨ (gI g.pl 0 ≠ 1 ∧ gI g.pl 0 ≠ 2)
  · have HD := Lib.hid (show rightF A B g = ([], 6) by rw [HR2.out, if_pos hpl])
    have hd : decide (g.pl = [] ∨ (gI g.pl 0 ≠ 1 ∧ gI g.pl 0 ≠ 2)) = true := decide_eq_true hpl
    rw [hd]
    clear hd hpl
    obtain ⟨r0, r1⟩ := S.one 3
    have SG := Lib.hid (S.set1 3 rfl (.slice none 0 0) (by have := HBX.out; omega) (by simp only [offs, offAll, Fct.box, and_true]; omega))
    have hl3 := S.lt 3
    clear S
    go_wp2_with fail
    refine bodyPost_ret (v := .tuple #[.agg #[.slice none 0 0], .int .i64 6]) ?_ rfl ?_
    · obtain ⟨q0, _⟩ := SG.out.one 3
      simp [results, Try.results111, go_sem, q0]
    · exact RightP.bad HD.out SG.out.bel
  have hd : decide (g.pl = [] ∨ (gI g.pl 0 ≠ 1 ∧ gI g.pl 0 ≠ 2)) = false := decide_eq_false hpl
  rw [hd]
  have HR3 := Lib.hid (HR2.out.trans (if_neg hpl))
  clear hd
  go_upto_region 7 with fail
  go_cut [8, 9] (fun t8 t9 W => ∃ b8 b9 : Nat, t8 = .pointer (some ⟨b8, 0, none⟩) ∧ t9 = .pointer (some ⟨b9, 0, none⟩) ∧ Below w1.heap.size w1 W ∧ w1.heap.size ≤ b8 ∧ w1.heap.size ≤ b9 ∧ b8 ≠ b9 ∧ St w W [.box bx #[.slice (some ⟨ab, aoff, none⟩) A.length (A.length + sa)] 41, .box (bx + 1) #[.slice (some ⟨cb, coff, none⟩) B.length (B.length + sb)] 41, .box (bx + 2) #[.int .i64 g.kind, .int .i64 g.a, .int .i64 g.b, .int .i64 g.i, .int .i64 g.j, .bool tb, .slice po g.pl.length pc, .slice bo g.bs.length bc] 35, .box (bx + 3) #[.slice none 0 0] 41, .box b8 #[.int .i64 fa.l.head, .slice ka fa.l.kids.length (fa.l.kids.length + sa1)] 38, .box b9 #[.int .i64 fa.r.head, .slice kb fa.r.kids.length (fa.r.kids.length + sb1)] 38])
  case first =>
    have SD : St w w1.drew [.box bx #[.slice (some ⟨ab, aoff, none⟩) A.length (A.length + sa)] 41, .box (bx + 1) #[.slice (some ⟨cb, coff, none⟩) B.length (B.length + sb)] 41, .box (bx + 2) #[.int .i64 g.kind, .int .i64 g.a, .int .i64 g.b, .int .i64 g.i, .int .i64 g.j, .bool tb, .slice po g.pl.length pc, .slice bo g.bs.length bc] 35, .box (bx + 3) #[.slice none 0 0] 41] := S.drew
    have FC := Lib.hid (fun W (hb : Below w1.heap.size w1 W) => (⟨Below.cellOf hb a0, Below.cellOf hb g3, Below.cellOf hb c1, Below.cellOf hb c2, Below.cellOf hb c3, Below.cellOf hb c4⟩ : _ ∧ _ ∧ _ ∧ _ ∧ _ ∧ _))
    clear S a0 b0 g3 g4 g5 g6 c0 c1 c2 c3 c4
    refine wpH_region [17] (fun W => W.cell? ⟨bx, 0, none⟩ = some (.slice (some ⟨ab, aoff, none⟩) A.length (A.length + sa)) ∧ W.cell? ⟨bx + 2, 3, none⟩ = some (.int .i64 (I : Int)) ∧ W.cell? ⟨ab, aoff + I * 5 + 1, none⟩ = some (.int .i64 fa.l.head) ∧ W.cell? ⟨ab, aoff + I * 5 + 2, none⟩ = some (.slice ka fa.l.kids.length (fa.l.kids.length + sa1)) ∧ W.cell? ⟨ab, aoff + I * 5 + 3, none⟩ = some (.int .i64 fa.r.head) ∧ W.cell? ⟨ab, aoff + I * 5 + 4, none⟩ = some (.slice kb fa.r.kids.length (fa.r.kids.length + sb1))) (by kernel_rfl) ?_
    have HS := FC.out _ (Below.refl _ w1).drew
    refine wpH.take (i := 0) (by kernel_rfl) (by kernel_rfl) (by kernel_rfl) (by kernel_rfl) (by kernel_rfl) HS ?_
    intro oi ho
    simp only [List.getElem?_toArray, List.getElem?_cons_zero, Option.some.injEq] at ho
    subst ho
    refine ⟨?_, Or.inl ⟨by rfl, ?_⟩, fun _ _ _ h => h, ?_⟩
    rotate_left 1
    · intro W hW
      try dsimp only at hW
      go_simp
      try with_reducible rfl
    simp only [Act.put, List.setIfInBounds_toArray, List.set_cons_zero, List.set_cons_succ]
    refine wpH.take (i := 1) (by kernel_rfl) (by kernel_rfl) (by kernel_rfl) (by kernel_rfl) (by kernel_rfl) HS ?_
    intro oi ho
    simp only [List.getElem?_toArray, List.getElem?_cons_succ, List.getElem?_cons_zero, Option.some.injEq] at ho
    subst ho
    refine ⟨?_, Or.inl ⟨by rfl, ?_⟩, fun _ _ _ h => h, ?_⟩
    rotate_left 1
    · intro W hW
      try dsimp only at hW
      go_simp
      try with_reducible rfl
    simp only [Act.put, List.setIfInBounds_toArray, List.set_cons_zero, List.set_cons_succ]
    refine wpH.take (i := 2) (by kernel_rfl) (by kernel_rfl) (by kernel_rfl) (by kernel_rfl) (by kernel_rfl) HS ?_
    intro oi ho
    simp only [List.getElem?_toArray, List.getElem?_cons_succ, List.getElem?_cons_zero, Option.some.injEq] at ho
    subst ho
    refine ⟨?_, Or.inl ⟨by rfl, ?_⟩, fun _ _ _ h => h, ?_⟩
    rotate_left 1
    · intro W hW
      try dsimp only at hW
      go_simp
      try with_reducible rfl
    simp only [Act.put, List.setIfInBounds_toArray, List.set_cons_zero, List.set_cons_succ]
    refine wpH.take (i := 3) (by kernel_rfl) (by kernel_rfl) (by kernel_rfl) (by kernel_rfl) (by kernel_rfl) HS ?_
    intro oi ho
    simp only [List.getElem?_toArray, List.getElem?_cons_succ, List.getElem?_cons_zero, Option.some.injEq] at ho
    subst ho
    refine ⟨?_, Or.inl ⟨by rfl, ?_⟩, fun _ _ _ h => h, ?_⟩
    rotate_left 1
    · intro W hW
      try dsimp only at hW
      go_simp
      try with_reducible rfl
    simp only [Act.put, List.setIfInBounds_toArray, List.set_cons_zero, List.set_cons_succ]
    refine wpH.take (i := 4) (by kernel_rfl) (by kernel_rfl) (by kernel_rfl) (by kernel_rfl) (by kernel_rfl) HS ?_
    intro oi ho
    simp only [List.getElem?_toArray, List.getElem?_cons_succ, List.getElem?_cons_zero, Option.some.injEq] at ho
    subst ho
    refine ⟨?_, Or.inl ⟨by rfl, ?_⟩, fun _ _ _ h => h, ?_⟩
    rotate_left 1
    · intro W hW
      try dsimp only at hW
      go_simp
      try with_reducible rfl
    simp only [Act.put, List.setIfInBounds_toArray, List.set_cons_zero, List.set_cons_succ]
    refine wpH.take (i := 5) (by kernel_rfl) (by kernel_rfl) (by kernel_rfl) (by kernel_rfl) (by kernel_rfl) HS ?_
    intro oi ho
    simp only [List.getElem?_toArray, List.getElem?_cons_succ, List.getElem?_cons_zero, Option.some.injEq] at ho
    subst ho
    refine ⟨?_, Or.inl ⟨by rfl, ?_⟩, fun _ _ _ h => h, ?_⟩
    rotate_left 1
    · intro W hW
      try dsimp only at hW
      go_simp
      try with_reducible rfl
    simp only [Act.put, List.setIfInBounds_toArray, List.set_cons_zero, List.set_cons_succ]
    refine wpH.take (i := 6) (by kernel_rfl) (by kernel_rfl) (by kernel_rfl) (by kernel_rfl) (by kernel_rfl) HS ?_
    intro oi ho
    simp only [List.getElem?_toArray, List.getElem?_cons_succ, List.getElem?_cons_zero, Option.some.injEq] at ho
    subst ho
    refine ⟨?_, Or.inl ⟨by rfl, ?_⟩, fun _ _ _ h => h, ?_⟩
    rotate_left 1
    · intro W hW
      try dsimp only at hW
      go_simp
      try with_reducible rfl
    simp only [Act.put, List.setIfInBounds_toArray, List.set_cons_zero, List.set_cons_succ]
    refine wpH.take (i := 7) (by kernel_rfl) (by kernel_rfl) (by kernel_rfl) (by kernel_rfl) (by kernel_rfl) HS ?_
    intro oi ho
    simp only [List.getElem?_toArray, List.getElem?_cons_succ, List.getElem?_cons_zero, Option.some.injEq] at ho
    subst ho
    refine ⟨?_, Or.inl ⟨by rfl, ?_⟩, fun _ _ _ h => h, ?_⟩
    rotate_left 1
    · intro W hW
      try dsimp only at hW
      go_simp
      try with_reducible rfl
    simp only [Act.put, List.setIfInBounds_toArray, List.set_cons_zero, List.set_cons_succ]
    refine wpH.take (i := 8) (by kernel_rfl) (by kernel_rfl) (by kernel_rfl) (by kernel_rfl) (by kernel_rfl) HS ?_
    intro oi ho
    simp only [List.getElem?_toArray, List.getElem?_cons_succ, List.getElem?_cons_zero, Option.some.injEq] at ho
    subst ho
    refine ⟨?_, Or.inl ⟨by rfl, ?_⟩, fun _ _ _ h => h, ?_⟩
    rotate_left 1
    · intro W hW
      try dsimp only at hW
      go_simp
      try with_reducible rfl
    simp only [Act.put, List.setIfInBounds_toArray, List.set_cons_zero, List.set_cons_succ]
    refine wpH.take (i := 9) (by kernel_rfl) (by kernel_rfl) (by kernel_rfl) (by kernel_rfl) (by kernel_rfl) HS ?_
    intro oi ho
    simp only [List.getElem?_toArray, List.getElem?_cons_succ, List.getElem?_cons_zero, Option.some.injEq] at ho
    subst ho
    refine ⟨?_, Or.inl ⟨by rfl, ?_⟩, fun _ _ _ h => h, ?_⟩
    rotate_left 1
    · intro W hW
      try dsimp only at hW
      go_simp
      try with_reducible rfl
    simp only [Act.put, List.setIfInBounds_toArray, List.set_cons_zero, List.set_cons_succ]
    refine wpH.take (i := 10) (by kernel_rfl) (by kernel_rfl) (by kernel_rfl) (by kernel_rfl) (by kernel_rfl) HS ?_
    intro oi ho
    simp only [List.getElem?_toArray, List.getElem?_cons_succ, List.getElem?_cons_zero, Option.some.injEq] at ho
    subst ho
    refine ⟨?_, Or.inl ⟨by rfl, ?_⟩, fun _ _ _ h => h, ?_⟩
    rotate_left 1
    · intro W hW
      try dsimp only at hW
      go_simp
      try with_reducible rfl
    simp only [Act.put, List.setIfInBounds_toArray, List.set_cons_zero, List.set_cons_succ]
    refine wpH.take (i := 11) (by kernel_rfl) (by kernel_rfl) (by kernel_rfl) (by kernel_rfl) (by kernel_rfl) HS ?_
    intro oi ho
    simp only [List.getElem?_toArray, List.getElem?_cons_succ, List.getElem?_cons_zero, Option.some.injEq] at ho
    subst ho
    refine ⟨?_, Or.inl ⟨by rfl, ?_⟩, fun _ _ _ h => h, ?_⟩
    rotate_left 1
    · intro W hW
      try dsimp only at hW
      go_simp
      try with_reducible rfl
    simp only [Act.put, List.setIfInBounds_toArray, List.set_cons_zero, List.set_cons_succ]
    refine wpH.take (i := 12) (by kernel_rfl) (by kernel_rfl) (by kernel_rfl) (by kernel_rfl) (by kernel_rfl) HS ?_
    intro oi ho
    simp only [List.getElem?_toArray, List.getElem?_cons_succ, List.getElem?_cons_zero, Option.some.injEq] at ho
    subst ho
    refine ⟨?_, Or.inl ⟨by rfl, ?_⟩, fun _ _ _ h => h, ?_⟩
    rotate_left 1
    · intro W hW
      try dsimp only at hW
      go_simp
      try with_reducible rfl
    simp only [Act.put, List.setIfInBounds_toArray, List.set_cons_zero, List.set_cons_succ]
    refine wpH.take (i := 13) (by kernel_rfl) (by kernel_rfl) (by kernel_rfl) (by kernel_rfl) (by kernel_rfl) HS ?_
    intro oi ho
    simp only [List.getElem?_toArray, List.getElem?_cons_succ, List.getElem?_cons_zero, Option.some.injEq] at ho
    subst ho
    refine ⟨?_, Or.inl ⟨by rfl, ?_⟩, fun _ _ _ h => h, ?_⟩
    rotate_left 1
    · intro W hW
      try dsimp only at hW
      go_simp
      try with_reducible rfl
    simp only [Act.put, List.setIfInBounds_toArray, List.set_cons_zero, List.set_cons_succ]
    refine wpH.two (i := 14) (j := 15) (by kernel_rfl) ?_ ?_
    · intro oi ho
      simp only [List.getElem?_toArray, List.getElem?_cons_succ, List.getElem?_cons_zero, Option.some.injEq] at ho
      subst ho
      intro K hK
      have HK := Lib.hid hK
      clear hK
      go_simp
      have S2 := SD.box (b := w1.heap.size) rfl #[.int .i64 0, .slice none 0 0] 38
      have HB2 := Lib.hid ((Below.refl _ w1).drew.alloc (by show w1.heap.size ≤ _; simp) (.cells #[.int .i64 0, .slice none 0 0] 38))
      refine HK.out _ _ (fun _ => FC.out _ HB2.out) ?_
      have HS := FC.out _ HB2.out
      try simp only [Act.put, List.setIfInBounds_toArray, List.set_cons_zero, List.set_cons_succ]
      refine wpH.one (i := 15) (by kernel_rfl) ?_
      intro oi ho
      simp only [List.getElem?_toArray, List.getElem?_cons_succ, List.getElem?_cons_zero, Option.some.injEq] at ho
      subst ho
      intro K hK
      have HK := Lib.hid hK
      clear hK
      go_simp
      have S3 := S2.box (b := w1.heap.size + 1) (by simp) #[.int .i64 0, .slice none 0 0] 38
      have HB3 := Lib.hid (HB2.out.alloc (HB2.out.size) (.cells #[.int .i64 0, .slice none 0 0] 38))
      refine HK.out _ _ (fun _ => FC.out _ HB3.out) ?_
      have HS := FC.out _ HB3.out
      try simp only [Act.put, List.setIfInBounds_toArray, List.set_cons_zero, List.set_cons_succ]
      replace S3 : St w (((w1.alloc (.cells #[.int .i64 0, .slice none 0 0] 38)).alloc (.cells #[.int .i64 0, .slice none 0 0] 38)).drew) _ := S3
      replace HB3 : Hid (Below w1.heap.size w1 (((w1.alloc (.cells #[.int .i64 0, .slice none 0 0] 38)).alloc (.cells #[.int .i64 0, .slice none 0 0] 38)).drew)) := HB3
      clear HS S2
      generalize ((w1.alloc (.cells #[.int .i64 0, .slice none 0 0] 38)).alloc (.cells #[.int .i64 0, .slice none 0 0] 38)).drew = W2 at S3 HB3 ⊢
      have HS := FC.out _ HB3.out
      refine wpH.one (i := 16) (by kernel_rfl) ?_
      intro oi ho
      simp only [List.getElem?_toArray, List.getElem?_cons_succ, List.getElem?_cons_zero, Option.some.injEq] at ho
      subst ho
      intro K hK
      have HK := Lib.hid hK
      clear hK
      obtain ⟨⟨e0, e1⟩, e2, e3⟩ := S3.two 4
      have hlb := S3.lt 4
      go_simp
      have S4 := S3.set2 4 rfl (.int .i64 fa.l.head) (.slice ka fa.l.kids.length (fa.l.kids.length + sa1)) (by have := HBX.out; omega) (by have := HBX.out; simp only [fsnoc, offs, offAll, Fct.box, and_true]; omega)
      have HB4 := Lib.hid ((HB3.out.setCell (p := ⟨w1.heap.size, 0, none⟩) (by show w1.heap.size ≤ w1.heap.size; omega) (.int .i64 fa.l.head)).setCell (p := ⟨w1.heap.size, 1, none⟩) (by show w1.heap.size ≤ w1.heap.size; omega) (.slice ka fa.l.kids.length (fa.l.kids.length + sa1)))
      clear e0 e1 e2 e3
      refine HK.out _ _ (fun _ => FC.out _ HB4.out) ?_
      have HS := FC.out _ HB4.out
      try simp only [Act.put, List.setIfInBounds_toArray, List.set_cons_zero, List.set_cons_succ]
      refine wpH.one (i := 17) (by kernel_rfl) ?_
      intro oi ho
      simp only [List.getElem?_toArray, List.getElem?_cons_succ, List.getElem?_cons_zero, Option.some.injEq] at ho
      subst ho
      intro K hK
      have HK := Lib.hid hK
      clear hK
      obtain ⟨⟨e0, e1⟩, e2, e3⟩ := S4.two 5
      have hlb := S4.lt 5
      go_simp
      have S5 := S4.set2 5 rfl (.int .i64 fa.r.head) (.slice kb fa.r.kids.length (fa.r.kids.length + sb1)) (by have := HBX.out; omega) (by have := HBX.out; simp only [fsnoc, fset, offs, offAll, Fct.box, and_true]; omega)
      have HB5 := Lib.hid ((HB4.out.setCell (p := ⟨(w1.heap.size + 1), 0, none⟩) (by show w1.heap.size ≤ (w1.heap.size + 1); omega) (.int .i64 fa.r.head)).setCell (p := ⟨(w1.heap.size + 1), 1, none⟩) (by show w1.heap.size ≤ (w1.heap.size + 1); omega) (.slice kb fa.r.kids.length (fa.r.kids.length + sb1)))
      clear e0 e1 e2 e3
      refine HK.out _ _ (fun h => absurd (by decide) h) ?_
      try simp only [Act.put, List.setIfInBounds_toArray, List.set_cons_zero, List.set_cons_succ]
      refine wpH.done (by kernel_rfl) ?_
      have SH := Lib.hid (S5.pick [0, 1, 2, 3, 4, 5])
      clear S3 S4 S5 HS
      try go_wp2_with fail
      go_meet
      case rel => exact ⟨w1.heap.size, (w1.heap.size + 1), rfl, rfl, HB5.out, by omega, by omega, by omega, by have h := SH.out; first | exact h | (rw [World.setCell_alloc_at _ _ _ _ _ rfl] at h; exact h)⟩
    · intro oi ho
      simp only [List.getElem?_toArray, List.getElem?_cons_succ, List.getElem?_cons_zero, Option.some.injEq] at ho
      subst ho
      intro K hK
      have HK := Lib.hid hK
      clear hK
      go_simp
      have S2 := SD.box (b := w1.heap.size) rfl #[.int .i64 0, .slice none 0 0] 38
      have HB2 := Lib.hid ((Below.refl _ w1).drew.alloc (by show w1.heap.size ≤ _; simp) (.cells #[.int .i64 0, .slice none 0 0] 38))
      refine HK.out _ _ (fun _ => FC.out _ HB2.out) ?_
      have HS := FC.out _ HB2.out
      try simp only [Act.put, List.setIfInBounds_toArray, List.set_cons_zero, List.set_cons_succ]
      refine wpH.one (i := 14) (by kernel_rfl) ?_
      intro oi ho
      simp only [List.getElem?_toArray, List.getElem?_cons_succ, List.getElem?_cons_zero, Option.some.injEq] at ho
      subst ho
      intro K hK
      have HK := Lib.hid hK
      clear hK
      go_simp
      have S3 := S2.box (b := w1.heap.size + 1) (by simp) #[.int .i64 0, .slice none 0 0] 38
      have HB3 := Lib.hid (HB2.out.alloc (HB2.out.size) (.cells #[.int .i64 0, .slice none 0 0] 38))
      refine HK.out _ _ (fun _ => FC.out _ HB3.out) ?_
      have HS := FC.out _ HB3.out
      try simp only [Act.put, List.setIfInBounds_toArray, List.set_cons_zero, List.set_cons_succ]
      replace S3 : St w (((w1.alloc (.cells #[.int .i64 0, .slice none 0 0] 38)).alloc (.cells #[.int .i64 0, .slice none 0 0] 38)).drew) _ := S3
      replace HB3 : Hid (Below w1.heap.size w1 (((w1.alloc (.cells #[.int .i64 0, .slice none 0 0] 38)).alloc (.cells #[.int .i64 0, .slice none 0 0] 38)).drew)) := HB3
      clear HS S2
      generalize ((w1.alloc (.cells #[.int .i64 0, .slice none 0 0] 38)).alloc (.cells #[.int .i64 0, .slice none 0 0] 38)).drew = W2 at S3 HB3 ⊢
      have HS := FC.out _ HB3.out
      refine wpH.one (i := 16) (by kernel_rfl) ?_
      intro oi ho
      simp only [List.getElem?_toArray, List.getElem?_cons_succ, List.getElem?_cons_zero, Option.some.injEq] at ho
      subst ho
      intro K hK
      have HK := Lib.hid hK
      clear hK
      obtain ⟨⟨e0, e1⟩, e2, e3⟩ := S3.two 5
      have hlb := S3.lt 5
      go_simp
      have S4 := S3.set2 5 rfl (.int .i64 fa.l.head) (.slice ka fa.l.kids.length (fa.l.kids.length + sa1)) (by have := HBX.out; omega) (by have := HBX.out; simp only [fsnoc, offs, offAll, Fct.box, and_true]; omega)
      have HB4 := Lib.hid ((HB3.out.setCell (p := ⟨(w1.heap.size + 1), 0, none⟩) (by show w1.heap.size ≤ (w1.heap.size + 1); omega) (.int .i64 fa.l.head)).setCell (p := ⟨(w1.heap.size + 1), 1, none⟩) (by show w1.heap.size ≤ (w1.heap.size + 1); omega) (.slice ka fa.l.kids.length (fa.l.kids.length + sa1)))
      clear e0 e1 e2 e3
      refine HK.out _ _ (fun _ => FC.out _ HB4.out) ?_
      have HS := FC.out _ HB4.out
      try simp only [Act.put, List.setIfInBounds_toArray, List.set_cons_zero, List.set_cons_succ]
      refine wpH.one (i := 17) (by kernel_rfl) ?_
      intro oi ho
      simp only [List.getElem?_toArray, List.getElem?_cons_succ, List.getElem?_cons_zero, Option.some.injEq] at ho
      subst ho
      intro K hK
      have HK := Lib.hid hK
      clear hK
      obtain ⟨⟨e0, e1⟩, e2, e3⟩ := S4.two 4
      have hlb := S4.lt 4
      go_simp
      have S5 := S4.set2 4 rfl (.int .i64 fa.r.head) (.slice kb fa.r.kids.length (fa.r.kids.length + sb1)) (by have := HBX.out; omega) (by have := HBX.out; simp only [fsnoc, fset, offs, offAll, Fct.box, and_true]; omega)
      have HB5 := Lib.hid ((HB4.out.setCell (p := ⟨w1.heap.size, 0, none⟩) (by show w1.heap.size ≤ w1.heap.size; omega) (.int .i64 fa.r.head)).setCell (p := ⟨w1.heap.size, 1, none⟩) (by show w1.heap.size ≤ w1.heap.size; omega) (.slice kb fa.r.kids.length (fa.r.kids.length + sb1)))
      clear e0 e1 e2 e3
      refine HK.out _ _ (fun h => absurd (by decide) h) ?_
      try simp only [Act.put, List.setIfInBounds_toArray, List.set_cons_zero, List.set_cons_succ]
      refine wpH.done (by kernel_rfl) ?_
      have SH := Lib.hid (S5.pick [0, 1, 2, 3, 5, 4])
      clear S3 S4 S5 HS
      try go_wp2_with fail
      go_meet
      case rel => exact ⟨(w1.heap.size + 1), w1.heap.size, rfl, rfl, HB5.out, by omega, by omega, by omega, by have h := SH.out; first | exact h | (rw [World.setCell_alloc_at _ _ _ _ _ rfl] at h; exact h)⟩
  case rest =>
  clear S
  obtain ⟨b8, b9, hw8, hw9, hb7, hz8', hz9', hne, S⟩ := hcut
  have HZ := Lib.hid (And.intro hz8' hz9')
  have hz8 : bx + 4 ≤ b8 := by omega
  have hz9 : bx + 4 ≤ b9 := by omega
  clear hz8' hz9'
  subst hw8 hw9
  go_step
  obtain ⟨g5', _⟩ := S.cell 2 5 rfl
  go_upto_if 84 with fail
  go_cut [] (fun W => ∃ (kf kt : Option Addr) (sf st : Nat), Hid (TreeP p w (.agg #[.int .i64 (fromF g fa).head, .slice kf (fromF g fa).kids.length ((fromF g fa).kids.length + sf)]) (fromF g fa)) ∧ Hid (TreeP p w (.agg #[.int .i64 (toF g fa).head, .slice kt (toF g fa).kids.length ((toF g fa).kids.length + st)]) (toF g fa)) ∧ St w W [.box bx #[.slice (some ⟨ab, aoff, none⟩) A.length (A.length + sa)] 41, .box (bx + 1) #[.slice (some ⟨cb, coff, none⟩) B.length (B.length + sb)] 41, .box (bx + 2) #[.int .i64 g.kind, .int .i64 g.a, .int .i64 g.b, .int .i64 g.i, .int .i64 g.j, .bool tb, .slice po g.pl.length pc, .slice bo g.bs.length bc] 35, .box (bx + 3) #[.slice none 0 0] 41, .box b8 #[.int .i64 (fromF g fa).head, .slice kf (fromF g fa).kids.length ((fromF g fa).kids.length + sf)] 38, .box b9 #[.int .i64 (toF g fa).head, .slice kt (toF g fa).kids.length ((toF g fa).kids.length + st)] 38])
  case first =>
    obtain ⟨⟨e0, e1⟩, e2, e3⟩ := S.two 4
    obtain ⟨⟨f0, f1⟩, f2, f3⟩ := S.two 5
    have hl8 := S.lt 4
    have hl9 := S.lt 5
    cases tb with
    | false =>
      have hf : fromF g fa = fa.l := by unfold fromF; rw [if_neg (by rw [← HTB.out]; decide)]
      have ht : toF g fa = fa.r := by unfold toF; rw [if_neg (by rw [← HTB.out]; decide)]
      have HF := Lib.hid hf; have HT := Lib.hid ht
      clear hf ht
      go_wp2_with fail
      go_meet
      case rel => exact ⟨ka, kb, sa1, sb1, by rw [HF.out]; exact TX, by rw [HT.out]; exact TY, by rw [HF.out, HT.out]; exact S⟩
    | true =>
      have hf : fromF g fa = fa.r := by unfold fromF; rw [if_pos HTB.out.symm]
      have ht : toF g fa = fa.l := by unfold toF; rw [if_pos HTB.out.symm]
      have S2 := (S.set2 4 rfl (.int .i64 fa.r.head) (.slice kb fa.r.kids.length (fa.r.kids.length + sb1)) (by have := HBX.out; omega) (by simp only [offs, offAll, Fct.box, and_true]; omega)).set2 5 rfl (.int .i64 fa.l.head) (.slice ka fa.l.kids.length (fa.l.kids.length + sa1)) (by have := HBX.out; omega) (by simp only [fset, offs, offAll, Fct.box, and_true]; omega)
      have HF := Lib.hid hf; have HT := Lib.hid ht
      have S3 := Lib.hid S2
      clear hf ht S S2
      go_wp2_with fail
      go_meet
      case rel => exact ⟨kb, ka, sb1, sa1, by rw [HF.out]; exact TY, by rw [HT.out]; exact TX, by rw [HF.out, HT.out]; exact S3.out⟩
  case rest =>
  clear S g5'
  obtain ⟨kf, kt, sf, st, TF, TT, S⟩ := hcut
  go_step
  obtain ⟨b0, _⟩ := S.one 1
  obtain ⟨g4, _⟩ := S.cell 2 4 rfl
  rw [← HJ.out] at g4
  obtain ⟨d0, d1, d2, d3, d4⟩ := HDC.out
  replace d0 := Below.cellOf S.bel d0
  replace d1 := Below.cellOf S.bel d1
  replace d2 := Below.cellOf S.bel d2
  replace d3 := Below.cellOf S.bel d3
  replace d4 := Below.cellOf S.bel d4
  obtain ⟨b10, hb10⟩ : ∃ b, b = wc.heap.size := ⟨_, rfl⟩
  have S2 := S.box (b := b10) hb10.symm #[.bool fb.neg, .int .i64 fb.l.head, .slice kc fb.l.kids.length (fb.l.kids.length + sc1), .int .i64 fb.r.head, .slice kd fb.r.kids.length (fb.r.kids.length + sd1)] 62
  have hl8 := S.lt 4
  have hl9 := S.lt 5
  have hl3 := S.lt 3
  have hz10 : bx + 4 ≤ b10 ∧ b8 < b10 ∧ b9 < b10 := by omega
  clear S
  go_upto_region 11 with fail
  rw [← hb10]
  refine S2.genC (z := b10 + 1) (by simp [hb10]) ?_
  intro w2 z2 S
  clear S2 hb10 d0 d1 d2 d3 d4 b0 g4 hl8 hl9 hl3
  have hl0 : 0 < g.pl.length := List.length_pos_iff.2 (fun h => hpl (.inl h))
  obtain ⟨pb, poff, rfl, q0⟩ := HPL.out 0 hl0
  have q1 : w2.cell? ⟨pb, poff, none⟩ = some (.int .i64 (gI g.pl 0)) := Below.cellOf S.bel q0
  have hV : gI g.pl 0 = 1 ∨ gI g.pl 0 = 2 := Classical.byContradiction fun h => hpl (.inr ⟨fun e => h (.inl e), fun e => h (.inr e)⟩)
  obtain ⟨V, hVV⟩ : ∃ V, V = gI g.pl 0 := ⟨_, rfl⟩
  rw [← hVV] at q1 hV
  have HVV := Lib.hid hVV
  clear q0 hpl hVV
  have hl0b : (0 : Int) < (g.pl.length : Int) := by omega
  obtain ⟨g6, _⟩ := S.cell 2 6 rfl
  go_upto_if 98 with fail
  go_cut [11] (fun t11 W => ∃ (so : Nat) (ks : Option Addr) (ss : Nat), t11 = .pointer (some ⟨b10, so, none⟩) ∧ W = w2 ∧ Hid ((so = 1 ∧ gI g.pl 0 ≠ 2) ∨ (so = 3 ∧ gI g.pl 0 = 2)) ∧ Hid (TreeP p w (.agg #[.int .i64 (sideF g fb).head, .slice ks (sideF g fb).kids.length ((sideF g fb).kids.length + ss)]) (sideF g fb)) ∧ w2.cell? ⟨b10, so, none⟩ = some (.int .i64 (sideF g fb).head) ∧ w2.cell? ⟨b10, so + 1, none⟩ = some (.slice ks (sideF g fb).kids.length ((sideF g fb).kids.length + ss)))
  case first =>
    obtain ⟨y0, y1, y2, y3, y4⟩ := boxF5 (S.block 6)
    by_cases h1 : V = 2
    · subst h1
      have HS := Lib.hid (show sideF g fb = fb.r by unfold sideF; rw [if_pos HVV.out.symm])
      go_wp2_with fail
      go_meet
      case rel => exact ⟨3, kd, sd1, rfl, rfl, .inr ⟨rfl, HVV.out.symm⟩, by rw [HS.out]; exact TV, by rw [HS.out]; exact y3, by rw [HS.out]; exact y4⟩
    · obtain rfl : V = 1 := hV.elim id (fun h => absurd h h1)
      have HS := Lib.hid (show sideF g fb = fb.l by unfold sideF; rw [if_neg (by rw [← HVV.out]; decide)])
      go_wp2_with fail
      go_meet
      case rel => exact ⟨1, kc, sc1, rfl, rfl, .inl ⟨rfl, by rw [← HVV.out]; decide⟩, by rw [HS.out]; exact TU, by rw [HS.out]; exact y1, by rw [HS.out]; exact y2⟩
  case rest =>
  obtain ⟨so, ks, ss, ht11, hw, HSO, TS, u0, u1⟩ := hcut
  replace hw := hw.symm
  subst hw
  subst ht11
  clear q1 hV
  go_step
  obtain ⟨GX, GN, hG⟩ : ∃ GX GN, (sideF g fb).get g.pl.tail 0 = (GX, GN) := ⟨_, _, rfl⟩
  have HG := Lib.hid hG
  have hl1 : 1 ≤ g.pl.length := by omega
  have hl1i : (1 : Int) ≤ (g.pl.length : Int) := by omega
  have HTAIL := Lib.hid (fun (W : World) (hW : CellsAt W (some ⟨pb, poff, none⟩) g.pl.length (fun j => .int .i64 (gI g.pl j))) => show CellsAt W (if pc = 1 then some ⟨pb, poff, none⟩ else some ⟨pb, poff + 1, none⟩) g.pl.tail.length (fun j => .int .i64 (gI g.pl.tail j)) from cells_tail hW hplc)
  clear hG
  go_upto_region 14 with fail
  go_cut [12, 13] (fun t12 t13 W => ∃ (b12 : Nat) (ku : Option Addr) (su : Nat), t12 = .pointer (some ⟨b12, 0, none⟩) ∧ t13 = .int .i64 GN ∧ b10 < b12 ∧ Below w2.heap.size w2 W ∧ Hid (TreeP p w (.agg #[.int .i64 GX.head, .slice ku GX.kids.length (GX.kids.length + su)]) GX) ∧ St w W [.box bx #[.slice (some ⟨ab, aoff, none⟩) A.length (A.length + sa)] 41, .box (bx + 1) #[.slice (some ⟨cb, coff, none⟩) B.length (B.length + sb)] 41, .box (bx + 2) #[.int .i64 g.kind, .int .i64 g.a, .int .i64 g.b, .int .i64 g.i, .int .i64 g.j, .bool tb, .slice (some ⟨pb, poff, none⟩) g.pl.length pc, .slice bo g.bs.length bc] 35, .box (bx + 3) #[.slice none 0 0] 41, .box b8 #[.int .i64 (fromF g fa).head, .slice kf (fromF g fa).kids.length ((fromF g fa).kids.length + sf)] 38, .box b9 #[.int .i64 (toF g fa).head, .slice kt (toF g fa).kids.length ((toF g fa).kids.length + st)] 38, .box b10 #[.bool fb.neg, .int .i64 fb.l.head, .slice kc fb.l.kids.length (fb.l.kids.length + sc1), .int .i64 fb.r.head, .slice kd fb.r.kids.length (fb.r.kids.length + sd1)] 62, .box b12 #[.int .i64 GX.head, .slice ku GX.kids.length (GX.kids.length + su)] 38])
  case first =>
    have SD : St w w2.drew [.box bx #[.slice (some ⟨ab, aoff, none⟩) A.length (A.length + sa)] 41, .box (bx + 1) #[.slice (some ⟨cb, coff, none⟩) B.length (B.length + sb)] 41, .box (bx + 2) #[.int .i64 g.kind, .int .i64 g.a, .int .i64 g.b, .int .i64 g.i, .int .i64 g.j, .bool tb, .slice (some ⟨pb, poff, none⟩) g.pl.length pc, .slice bo g.bs.length bc] 35, .box (bx + 3) #[.slice none 0 0] 41, .box b8 #[.int .i64 (fromF g fa).head, .slice kf (fromF g fa).kids.length ((fromF g fa).kids.length + sf)] 38, .box b9 #[.int .i64 (toF g fa).head, .slice kt (toF g fa).kids.length ((toF g fa).kids.length + st)] 38, .box b10 #[.bool fb.neg, .int .i64 fb.l.head, .slice kc fb.l.kids.length (fb.l.kids.length + sc1), .int .i64 fb.r.head, .slice kd fb.r.kids.length (fb.r.kids.length + sd1)] 62] := S.drew
    have FC := Lib.hid (fun W (hb : Below w2.heap.size w2 W) => (⟨Below.cellOf hb u0, Below.cellOf hb u1, Below.cellOf hb g6⟩ : _ ∧ _ ∧ _))
    clear S u0 u1 g6
    refine wpH_region [12] (fun W => W.cell? ⟨b10, so, none⟩ = some (.int .i64 (sideF g fb).head) ∧ W.cell? ⟨b10, so + 1, none⟩ = some (.slice ks (sideF g fb).kids.length ((sideF g fb).kids.length + ss)) ∧ W.cell? ⟨bx + 2, 6, none⟩ = some (.slice (some ⟨pb, poff, none⟩) g.pl.length pc)) (by kernel_rfl) ?_
    have HS := FC.out _ (Below.refl _ w2).drew
    refine wpH.take (i := 0) (by kernel_rfl) (by kernel_rfl) (by kernel_rfl) (by kernel_rfl) (by kernel_rfl) HS ?_
    intro oi ho
    simp only [List.getElem?_toArray, List.getElem?_cons_zero, Option.some.injEq] at ho
    subst ho
    refine ⟨?_, Or.inl ⟨by rfl, ?_⟩, fun _ _ _ h => h, ?_⟩
    rotate_left 1
    · intro W hW
      try dsimp only at hW
      go_simp
      try with_reducible rfl
    simp only [Act.put, List.setIfInBounds_toArray, List.set_cons_zero, List.set_cons_succ]
    refine wpH.take (i := 1) (by kernel_rfl) (by kernel_rfl) (by kernel_rfl) (by kernel_rfl) (by kernel_rfl) HS ?_
    intro oi ho
    simp only [List.getElem?_toArray, List.getElem?_cons_succ, List.getElem?_cons_zero, Option.some.injEq] at ho
    subst ho
    refine ⟨?_, Or.inl ⟨by rfl, ?_⟩, fun _ _ _ h => h, ?_⟩
    rotate_left 1
    · intro W hW
      try dsimp only at hW
      go_simp
      try with_reducible rfl
    simp only [Act.put, List.setIfInBounds_toArray, List.set_cons_zero, List.set_cons_succ]
    refine wpH.take (i := 2) (by kernel_rfl) (by kernel_rfl) (by kernel_rfl) (by kernel_rfl) (by kernel_rfl) HS ?_
    intro oi ho
    simp only [List.getElem?_toArray, List.getElem?_cons_succ, List.getElem?_cons_zero, Option.some.injEq] at ho
    subst ho
    refine ⟨?_, Or.inl ⟨by rfl, ?_⟩, fun _ _ _ h => h, ?_⟩
    rotate_left 1
    · intro W hW
      try dsimp only at hW
      go_simp
      try with_reducible rfl
    simp only [Act.put, List.setIfInBounds_toArray, List.set_cons_zero, List.set_cons_succ]
    refine wpH.take (i := 3) (by kernel_rfl) (by kernel_rfl) (by kernel_rfl) (by kernel_rfl) (by kernel_rfl) HS ?_
    intro oi ho
    simp only [List.getElem?_toArray, List.getElem?_cons_succ, List.getElem?_cons_zero, Option.some.injEq] at ho
    subst ho
    refine ⟨?_, Or.inl ⟨by rfl, ?_⟩, fun _ _ _ h => h, ?_⟩
    rotate_left 1
    · intro W hW
      try dsimp only at hW
      go_simp
      try with_reducible rfl
    simp only [Act.put, List.setIfInBounds_toArray, List.set_cons_zero, List.set_cons_succ]
    refine wpH.take (i := 4) (by kernel_rfl) (by kernel_rfl) (by kernel_rfl) (by kernel_rfl) (by kernel_rfl) HS ?_
    intro oi ho
    simp only [List.getElem?_toArray, List.getElem?_cons_succ, List.getElem?_cons_zero, Option.some.injEq] at ho
    subst ho
    refine ⟨?_, Or.inl ⟨by rfl, ?_⟩, fun _ _ _ h => h, ?_⟩
    rotate_left 1
    · intro W hW
      try dsimp only at hW
      go_simp
      try with_reducible rfl
    simp only [Act.put, List.setIfInBounds_toArray, List.set_cons_zero, List.set_cons_succ]
    refine wpH.take (i := 5) (by kernel_rfl) (by kernel_rfl) (by kernel_rfl) (by kernel_rfl) (by kernel_rfl) HS ?_
    intro oi ho
    simp only [List.getElem?_toArray, List.getElem?_cons_succ, List.getElem?_cons_zero, Option.some.injEq] at ho
    subst ho
    refine ⟨?_, Or.inl ⟨by rfl, ?_⟩, fun _ _ _ h => h, ?_⟩
    rotate_left 1
    · intro W hW
      try dsimp only at hW
      go_simp
      try with_reducible rfl
    simp only [Act.put, List.setIfInBounds_toArray, List.set_cons_zero, List.set_cons_succ]
    refine wpH.two (i := 6) (j := 10) (by kernel_rfl) ?_ ?_
    · intro oi ho
      simp only [List.getElem?_toArray, List.getElem?_cons_succ, List.getElem?_cons_zero, Option.some.injEq] at ho
      subst ho
      intro K hK
      have HK := Lib.hid hK
      clear hK
      go_simp
      go_at_call 140
      rw [show g.pl.length - 1 = g.pl.tail.length by simp]
      refine (getP49 (sideF g fb) p g.pl.tail _ _ _ _ (TS.out.kept SD.bel) (HTAIL.out _ (HPL.out.below SD.bel)) (by simp; omega)).mono ?_
      rintro e wn ⟨u, rfl, hu, hbn⟩
      rw [HG.out] at hu ⊢
      obtain ⟨ku, su, rfl⟩ := hu.at.form
      have GT := Lib.hid (TreeP.carry (w' := w) (fun b hb _ => ((SD.step hbn).bel.block b (HP.out b hb)).symm) hu)
      have S9 := SD.step hbn
      have HB9 := Lib.hid (Below.step (Below.refl _ w2).drew hbn)
      have zn := hbn.size
      clear hbn hu
      dsimp only
      refine HK.out _ _ (fun _ => FC.out _ HB9.out) ?_
      have HS := FC.out _ HB9.out
      try simp only [Act.put, List.setIfInBounds_toArray, List.set_cons_zero, List.set_cons_succ]
      refine wpH.take (i := 7) (by kernel_rfl) (by kernel_rfl) (by kernel_rfl) (by kernel_rfl) (by kernel_rfl) HS ?_
      intro oi ho
      simp only [List.getElem?_toArray, List.getElem?_cons_succ, List.getElem?_cons_zero, Option.some.injEq] at ho
      subst ho
      refine ⟨?_, Or.inl ⟨by rfl, ?_⟩, fun _ _ _ h => h, ?_⟩
      rotate_left 1
      · intro W hW
        try dsimp only at hW
        go_simp
        try with_reducible rfl
      simp only [Act.put, List.setIfInBounds_toArray, List.set_cons_zero, List.set_cons_succ]
      refine wpH.take (i := 8) (by kernel_rfl) (by kernel_rfl) (by kernel_rfl) (by kernel_rfl) (by kernel_rfl) HS ?_
      intro oi ho
      simp only [List.getElem?_toArray, List.getElem?_cons_succ, List.getElem?_cons_zero, Option.some.injEq] at ho
      subst ho
      refine ⟨?_, Or.inl ⟨by rfl, ?_⟩, fun _ _ _ h => h, ?_⟩
      rotate_left 1
      · intro W hW
        try dsimp only at hW
        go_simp
        try with_reducible rfl
      simp only [Act.put, List.setIfInBounds_toArray, List.set_cons_zero, List.set_cons_succ]
      refine wpH.take (i := 9) (by kernel_rfl) (by kernel_rfl) (by kernel_rfl) (by kernel_rfl) (by kernel_rfl) HS ?_
      intro oi ho
      simp only [List.getElem?_toArray, List.getElem?_cons_succ, List.getElem?_cons_zero, Option.some.injEq] at ho
      subst ho
      refine ⟨?_, Or.inl ⟨by rfl, ?_⟩, fun _ _ _ h => h, ?_⟩
      rotate_left 1
      · intro W hW
        try dsimp only at hW
        go_simp
        try with_reducible rfl
      simp only [Act.put, List.setIfInBounds_toArray, List.set_cons_zero, List.set_cons_succ]
      refine wpH.one (i := 10) (by kernel_rfl) ?_
      intro oi ho
      simp only [List.getElem?_toArray, List.getElem?_cons_succ, List.getElem?_cons_zero, Option.some.injEq] at ho
      subst ho
      intro K hK
      have HK := Lib.hid hK
      clear hK
      go_simp
      have S10 := S9.box (b := wn.heap.size) rfl #[.int .i64 0, .slice none 0 0] 38
      have HB10 := Lib.hid (HB9.out.alloc (HB9.out.size) (.cells #[.int .i64 0, .slice none 0 0] 38))
      refine HK.out _ _ (fun _ => FC.out _ HB10.out) ?_
      have HS := FC.out _ HB10.out
      try simp only [Act.put, List.setIfInBounds_toArray, List.set_cons_zero, List.set_cons_succ]
      generalize hW3 : wn.alloc (.cells #[.int .i64 0, .slice none 0 0] 38) = W3 at S10 HB10 HS ⊢
      clear hW3
      refine wpH.one (i := 11) (by kernel_rfl) ?_
      intro oi ho
      simp only [List.getElem?_toArray, List.getElem?_cons_succ, List.getElem?_cons_zero, Option.some.injEq] at ho
      subst ho
      intro K hK
      have HK := Lib.hid hK
      clear hK
      obtain ⟨⟨e0, e1⟩, e2, e3⟩ := S10.two 7
      have hlb := S10.lt 7
      have hw12 : w2.heap.size ≤ wn.heap.size := by first | exact Nat.le_refl _ | (have h := zn; (try simp at h); omega)
      go_simp
      have SF := S10.set2 7 rfl (.int .i64 GX.head) (.slice ku GX.kids.length (GX.kids.length + su)) (by have := HBX.out; omega) (by have := HBX.out; simp only [fsnoc, offs, offAll, Fct.box, and_true]; omega)
      have HBF := Lib.hid ((HB10.out.setCell (p := ⟨wn.heap.size, 0, none⟩) (by show w2.heap.size ≤ wn.heap.size; omega) (.int .i64 GX.head)).setCell (p := ⟨wn.heap.size, 1, none⟩) (by show w2.heap.size ≤ wn.heap.size; omega) (.slice ku GX.kids.length (GX.kids.length + su)))
      clear e0 e1 e2 e3
      refine HK.out _ _ (fun _ => FC.out _ HBF.out) ?_
      have HS := FC.out _ HBF.out
      try simp only [Act.put, List.setIfInBounds_toArray, List.set_cons_zero, List.set_cons_succ]
      refine wpH.one (i := 12) (by kernel_rfl) ?_
      intro oi ho
      simp only [List.getElem?_toArray, List.getElem?_cons_succ, List.getElem?_cons_zero, Option.some.injEq] at ho
      subst ho
      intro K hK
      have HK := Lib.hid hK
      clear hK
      go_simp
      refine HK.out _ _ (fun h => absurd (by decide) h) ?_
      try simp only [Act.put, List.setIfInBounds_toArray, List.set_cons_zero, List.set_cons_succ]
      refine wpH.done (by kernel_rfl) ?_
      have SH := Lib.hid (SF.pick [0, 1, 2, 3, 4, 5, 6, 7])
      clear SF HS
      generalize (if pc = 1 then (some ⟨pb, poff, none⟩ : Option Addr) else some ⟨pb, poff + 1, none⟩) = tlv
      try go_wp2_with fail
      go_meet
      case rel => exact ⟨wn.heap.size, ku, su, rfl, rfl, by omega, HBF.out, GT, SH.out⟩
    · intro oi ho
      simp only [List.getElem?_toArray, List.getElem?_cons_succ, List.getElem?_cons_zero, Option.some.injEq] at ho
      subst ho
      intro K hK
      have HK := Lib.hid hK
      clear hK
      go_simp
      have S9 := SD.box (b := w2.heap.size) rfl #[.int .i64 0, .slice none 0 0] 38
      have HB9 := Lib.hid ((Below.refl _ w2).drew.alloc (by show w2.heap.size ≤ _; simp) (.cells #[.int .i64 0, .slice none 0 0] 38))
      refine HK.out _ _ (fun _ => FC.out _ HB9.out) ?_
      have HS := FC.out _ HB9.out
      try simp only [Act.put, List.setIfInBounds_toArray, List.set_cons_zero, List.set_cons_succ]
      refine wpH.one (i := 6) (by kernel_rfl) ?_
      intro oi ho
      simp only [List.getElem?_toArray, List.getElem?_cons_succ, List.getElem?_cons_zero, Option.some.injEq] at ho
      subst ho
      intro K hK
      have HK := Lib.hid hK
      clear hK
      go_simp
      go_at_call 140
      rw [show g.pl.length - 1 = g.pl.tail.length by simp]
      refine (getP49 (sideF g fb) p g.pl.tail _ _ _ _ (TS.out.kept S9.bel) (HTAIL.out _ (HPL.out.below S9.bel)) (by simp; omega)).mono ?_
      rintro e wn ⟨u, rfl, hu, hbn⟩
      rw [HG.out] at hu ⊢
      obtain ⟨ku, su, rfl⟩ := hu.at.form
      have GT := Lib.hid (TreeP.carry (w' := w) (fun b hb _ => ((S9.step hbn).bel.block b (HP.out b hb)).symm) hu)
      have S10 := S9.step hbn
      have HB10 := Lib.hid (Below.step HB9.out hbn)
      have zn := hbn.size
      clear hbn hu
      dsimp only
      refine HK.out _ _ (fun _ => FC.out _ HB10.out) ?_
      have HS := FC.out _ HB10.out
      try simp only [Act.put, List.setIfInBounds_toArray, List.set_cons_zero, List.set_cons_succ]
      refine wpH.take (i := 7) (by kernel_rfl) (by kernel_rfl) (by kernel_rfl) (by kernel_rfl) (by kernel_rfl) HS ?_
      intro oi ho
      simp only [List.getElem?_toArray, List.getElem?_cons_succ, List.getElem?_cons_zero, Option.some.injEq] at ho
      subst ho
      refine ⟨?_, Or.inl ⟨by rfl, ?_⟩, fun _ _ _ h => h, ?_⟩
      rotate_left 1
      · intro W hW
        try dsimp only at hW
        go_simp
        try with_reducible rfl
      simp only [Act.put, List.setIfInBounds_toArray, List.set_cons_zero, List.set_cons_succ]
      refine wpH.take (i := 8) (by kernel_rfl) (by kernel_rfl) (by kernel_rfl) (by kernel_rfl) (by kernel_rfl) HS ?_
      intro oi ho
      simp only [List.getElem?_toArray, List.getElem?_cons_succ, List.getElem?_cons_zero, Option.some.injEq] at ho
      subst ho
      refine ⟨?_, Or.inl ⟨by rfl, ?_⟩, fun _ _ _ h => h, ?_⟩
      rotate_left 1
      · intro W hW
        try dsimp only at hW
        go_simp
        try with_reducible rfl
      simp only [Act.put, List.setIfInBounds_toArray, List.set_cons_zero, List.set_cons_succ]
      refine wpH.take (i := 9) (by kernel_rfl) (by kernel_rfl) (by kernel_rfl) (by kernel_rfl) (by kernel_rfl) HS ?_
      intro oi ho
      simp only [List.getElem?_toArray, List.getElem?_cons_succ, List.getElem?_cons_zero, Option.some.injEq] at ho
      subst ho
      refine ⟨?_, Or.inl ⟨by rfl, ?_⟩, fun _ _ _ h => h, ?_⟩
      rotate_left 1
      · intro W hW
        try dsimp only at hW
        go_simp
        try with_reducible rfl
      simp only [Act.put, List.setIfInBounds_toArray, List.set_cons_zero, List.set_cons_succ]
      refine wpH.one (i := 11) (by kernel_rfl) ?_
      intro oi ho
      simp only [List.getElem?_toArray, List.getElem?_cons_succ, List.getElem?_cons_zero, Option.some.injEq] at ho
      subst ho
      intro K hK
      have HK := Lib.hid hK
      clear hK
      obtain ⟨⟨e0, e1⟩, e2, e3⟩ := S10.two 7
      have hlb := S10.lt 7
      have hw12 : w2.heap.size ≤ w2.heap.size := by first | exact Nat.le_refl _ | (have h := zn; (try simp at h); omega)
      go_simp
      have SF := S10.set2 7 rfl (.int .i64 GX.head) (.slice ku GX.kids.length (GX.kids.length + su)) (by have := HBX.out; omega) (by have := HBX.out; simp only [fsnoc, offs, offAll, Fct.box, and_true]; omega)
      have HBF := Lib.hid ((HB10.out.setCell (p := ⟨w2.heap.size, 0, none⟩) (by show w2.heap.size ≤ w2.heap.size; omega) (.int .i64 GX.head)).setCell (p := ⟨w2.heap.size, 1, none⟩) (by show w2.heap.size ≤ w2.heap.size; omega) (.slice ku GX.kids.length (GX.kids.length + su)))
      clear e0 e1 e2 e3
      refine HK.out _ _ (fun _ => FC.out _ HBF.out) ?_
      have HS := FC.out _ HBF.out
      try simp only [Act.put, List.setIfInBounds_toArray, List.set_cons_zero, List.set_cons_succ]
      refine wpH.one (i := 12) (by kernel_rfl) ?_
      intro oi ho
      simp only [List.getElem?_toArray, List.getElem?_cons_succ, List.getElem?_cons_zero, Option.some.injEq] at ho
      subst ho
      intro K hK
      have HK := Lib.hid hK
      clear hK
      go_simp
      refine HK.out _ _ (fun h => absurd (by decide) h) ?_
      try simp only [Act.put, List.setIfInBounds_toArray, List.set_cons_zero, List.set_cons_succ]
      refine wpH.done (by kernel_rfl) ?_
      have SH := Lib.hid (SF.pick [0, 1, 2, 3, 4, 5, 6, 7])
      clear SF HS
      generalize (if pc = 1 then (some ⟨pb, poff, none⟩ : Option Addr) else some ⟨pb, poff + 1, none⟩) = tlv
      try go_wp2_with fail
      go_meet
      case rel => exact ⟨w2.heap.size, ku, su, rfl, rfl, by omega, HBF.out, GT, SH.out⟩
  case rest =>
  have U0 := Lib.hid u0; have U1 := Lib.hid u1
  clear S z2 g6 u0 u1
  obtain ⟨b12, ku, su, ht12, ht13, hz12, hb14, GT, S⟩ := hcut
  subst ht12 ht13
  go_step
  by_cases hgn : 0 ≤ GN
  · have HD := Lib.hid (show rightF A B g = ([], 6) by rw [HR3.out, if_pos (by rw [HG.out]; exact hgn)])
    clear GT HR3
    obtain ⟨r0, r1⟩ := S.one 3
    have SG := Lib.hid (S.set1 3 rfl (.slice none 0 0) (by have := HBX.out; omega) (by simp only [offs, offAll, Fct.box, and_true]; omega))
    have hl3 := S.lt 3
    clear S
    go_wp2_with fail
    refine bodyPost_ret (v := .tuple #[.agg #[.slice none 0 0], .int .i64 6]) ?_ rfl ?_
    · obtain ⟨q0, _⟩ := SG.out.one 3
      simp [results, Try.results111, go_sem, q0]
    · exact RightP.bad HD.out SG.out.bel
  have HR4 := Lib.hid (HR3.out.trans (if_neg (by rw [HG.out]; exact hgn)))
  clear HR3
  obtain ⟨⟨v0, _⟩, v1, _⟩ := S.two 7
  obtain ⟨⟨y0, _⟩, y1, _⟩ := S.two 4
  go_wp2_with fail
  refine (same68 GX (fromF g fa) _ _ wc ((GT.out.kept S.bel).at) ((TF.out.kept S.bel).at)).mono ?_
  rintro e w3 ⟨rfl, hbw3⟩
  have S3 := S.step hbw3
  have HB3 := Lib.hid (Below.step hb14 hbw3)
  clear S v0 v1 y0 y1 hbw3 hb14
  cases hsm : decide (GX = fromF g fa) with
  | false =>
    have HD := Lib.hid (show rightF A B g = ([], 11) by rw [HR4.out, if_pos (by rw [HG.out]; exact of_decide_eq_false hsm)])
    clear hsm HR4 GT TF TT
    obtain ⟨r0, r1⟩ := S3.one 3
    have SG := Lib.hid (S3.set1 3 rfl (.slice none 0 0) (by have := HBX.out; omega) (by simp only [offs, offAll, Fct.box, and_true]; omega))
    have hl3 := S3.lt 3
    clear S3
    go_wp2_with fail
    refine bodyPost_ret (v := .tuple #[.agg #[.slice none 0 0], .int .i64 11]) ?_ rfl ?_
    · obtain ⟨q0, _⟩ := SG.out.one 3
      simp [results, Try.results111, go_sem, q0]
    · exact RightP.bad HD.out SG.out.bel
  | true =>
  have HR5 := Lib.hid (HR4.out.trans (if_neg (by rw [HG.out]; exact fun h => h (of_decide_eq_true hsm))))
  clear hsm HR4 hgn
  obtain ⟨NT, hNT⟩ : ∃ N, N = T.withAt g.pl.tail (sideF g fb) (toF g fa) := ⟨_, rfl⟩
  have HNT := Lib.hid hNT
  have hss : (sideF g fb).size ≤ 1000 := by unfold sideF; split; exact hs4; exact hs3
  have hst : (toF g fa).size ≤ 1000 := by unfold toF; split; exact hs1; exact hs2
  rw [← hNT] at HR5
  clear hNT
  go_upto_region 19 with fail
  go_cut [] (fun W => ∃ (k1 k2 : Option Addr) (s1 s2 : Nat), Hid (TreeP (fun c => p c ∨ b12 < c) W (.agg #[.int .i64 (lastF g fb NT).l.head, .slice k1 (lastF g fb NT).l.kids.length ((lastF g fb NT).l.kids.length + s1)]) (lastF g fb NT).l) ∧ Hid (TreeP (fun c => p c ∨ b12 < c) W (.agg #[.int .i64 (lastF g fb NT).r.head, .slice k2 (lastF g fb NT).r.kids.length ((lastF g fb NT).r.kids.length + s2)]) (lastF g fb NT).r) ∧ b12 + 1 ≤ W.heap.size ∧ St w W [.box bx #[.slice (some ⟨ab, aoff, none⟩) A.length (A.length + sa)] 41, .box (bx + 1) #[.slice (some ⟨cb, coff, none⟩) B.length (B.length + sb)] 41, .box (bx + 2) #[.int .i64 g.kind, .int .i64 g.a, .int .i64 g.b, .int .i64 g.i, .int .i64 g.j, .bool tb, .slice (some ⟨pb, poff, none⟩) g.pl.length pc, .slice bo g.bs.length bc] 35, .box (bx + 3) #[.slice none 0 0] 41, .box b8 #[.int .i64 (fromF g fa).head, .slice kf (fromF g fa).kids.length ((fromF g fa).kids.length + sf)] 38, .box b9 #[.int .i64 (toF g fa).head, .slice kt (toF g fa).kids.length ((toF g fa).kids.length + st)] 38, .box b10 #[.bool (lastF g fb NT).neg, .int .i64 (lastF g fb NT).l.head, .slice k1 (lastF g fb NT).l.kids.length ((lastF g fb NT).l.kids.length + s1), .int .i64 (lastF g fb NT).r.head, .slice k2 (lastF g fb NT).r.kids.length ((lastF g fb NT).r.kids.length + s2)] 62])
  case first =>
    have hl12 := S3.lt 7
    obtain ⟨g6, _⟩ := S3.cell 2 6 rfl
    obtain ⟨⟨x0, _⟩, x1, _⟩ := S3.two 5
    obtain ⟨y0, y1, y2, y3, y4⟩ := boxF5 (S3.block 6)
    rcases HSO.out with ⟨rfl, hV⟩ | ⟨rfl, hV⟩
    · have u0 : w3.cell? ⟨b10, 1, none⟩ = some (.int .i64 (sideF g fb).head) := Below.cellOf HB3.out U0.out
      have u1 : w3.cell? ⟨b10, 2, none⟩ = some (.slice ks (sideF g fb).kids.length ((sideF g fb).kids.length + ss)) := Below.cellOf HB3.out U1.out
      have FC := Lib.hid (fun W (hb : Below w3.heap.size w3 W) => (⟨Below.cellOf hb u0, Below.cellOf hb u1, Below.cellOf hb g6, Below.cellOf hb x0, Below.cellOf hb x1⟩ : _ ∧ _ ∧ _ ∧ _ ∧ _))
      have HLS := Lib.hid (show lastF g fb NT = ⟨fb.neg, NT, fb.r⟩ by unfold lastF; rw [if_neg hV])
      have SD : St w w3.drew [.box bx #[.slice (some ⟨ab, aoff, none⟩) A.length (A.length + sa)] 41, .box (bx + 1) #[.slice (some ⟨cb, coff, none⟩) B.length (B.length + sb)] 41, .box (bx + 2) #[.int .i64 g.kind, .int .i64 g.a, .int .i64 g.b, .int .i64 g.i, .int .i64 g.j, .bool tb, .slice (some ⟨pb, poff, none⟩) g.pl.length pc, .slice bo g.bs.length bc] 35, .box (bx + 3) #[.slice none 0 0] 41, .box b8 #[.int .i64 (fromF g fa).head, .slice kf (fromF g fa).kids.length ((fromF g fa).kids.length + sf)] 38, .box b9 #[.int .i64 (toF g fa).head, .slice kt (toF g fa).kids.length ((toF g fa).kids.length + st)] 38, .box b10 #[.bool fb.neg, .int .i64 fb.l.head, .slice kc fb.l.kids.length (fb.l.kids.length + sc1), .int .i64 fb.r.head, .slice kd fb.r.kids.length (fb.r.kids.length + sd1)] 62, .box b12 #[.int .i64 GX.head, .slice ku GX.kids.length (GX.kids.length + su)] 38] := S3.drew
      clear S3 u0 u1 g6 x0 x1 y0 y1 y2 y3 y4 hV
      refine wpH_region [10] (fun W => W.cell? ⟨b10, 1, none⟩ = some (.int .i64 (sideF g fb).head) ∧ W.cell? ⟨b10, 2, none⟩ = some (.slice ks (sideF g fb).kids.length ((sideF g fb).kids.length + ss)) ∧ W.cell? ⟨bx + 2, 6, none⟩ = some (.slice (some ⟨pb, poff, none⟩) g.pl.length pc) ∧ W.cell? ⟨b9, 0, none⟩ = some (.int .i64 (toF g fa).head) ∧ W.cell? ⟨b9, 1, none⟩ = some (.slice kt (toF g fa).kids.length ((toF g fa).kids.length + st))) (by kernel_rfl) ?_
      have HS := FC.out _ (Below.refl _ w3).drew
      refine wpH.take (i := 0) (by kernel_rfl) (by kernel_rfl) (by kernel_rfl) (by kernel_rfl) (by kernel_rfl) HS ?_
      intro oi ho
      simp only [List.getElem?_toArray, List.getElem?_cons_zero, Option.some.injEq] at ho
      subst ho
      refine ⟨?_, Or.inl ⟨by rfl, ?_⟩, fun _ _ _ h => h, ?_⟩
      rotate_left 1
      · intro W hW
        try dsimp only at hW
        go_simp
        try with_reducible rfl
      simp only [Act.put, List.setIfInBounds_toArray, List.set_cons_zero, List.set_cons_succ]
      refine wpH.take (i := 1) (by kernel_rfl) (by kernel_rfl) (by kernel_rfl) (by kernel_rfl) (by kernel_rfl) HS ?_
      intro oi ho
      simp only [List.getElem?_toArray, List.getElem?_cons_succ, List.getElem?_cons_zero, Option.some.injEq] at ho
      subst ho
      refine ⟨?_, Or.inl ⟨by rfl, ?_⟩, fun _ _ _ h => h, ?_⟩
      rotate_left 1
      · intro W hW
        try dsimp only at hW
        go_simp
        try with_reducible rfl
      simp only [Act.put, List.setIfInBounds_toArray, List.set_cons_zero, List.set_cons_succ]
      refine wpH.take (i := 2) (by kernel_rfl) (by kernel_rfl) (by kernel_rfl) (by kernel_rfl) (by kernel_rfl) HS ?_
      intro oi ho
      simp only [List.getElem?_toArray, List.getElem?_cons_succ, List.getElem?_cons_zero, Option.some.injEq] at ho
      subst ho
      refine ⟨?_, Or.inl ⟨by rfl, ?_⟩, fun _ _ _ h => h, ?_⟩
      rotate_left 1
      · intro W hW
        try dsimp only at hW
        go_simp
        try with_reducible rfl
      simp only [Act.put, List.setIfInBounds_toArray, List.set_cons_zero, List.set_cons_succ]
      refine wpH.take (i := 3) (by kernel_rfl) (by kernel_rfl) (by kernel_rfl) (by kernel_rfl) (by kernel_rfl) HS ?_
      intro oi ho
      simp only [List.getElem?_toArray, List.getElem?_cons_succ, List.getElem?_cons_zero, Option.some.injEq] at ho
      subst ho
      refine ⟨?_, Or.inl ⟨by rfl, ?_⟩, fun _ _ _ h => h, ?_⟩
      rotate_left 1
      · intro W hW
        try dsimp only at hW
        go_simp
        try with_reducible rfl
      simp only [Act.put, List.setIfInBounds_toArray, List.set_cons_zero, List.set_cons_succ]
      refine wpH.take (i := 4) (by kernel_rfl) (by kernel_rfl) (by kernel_rfl) (by kernel_rfl) (by kernel_rfl) HS ?_
      intro oi ho
      simp only [List.getElem?_toArray, List.getElem?_cons_succ, List.getElem?_cons_zero, Option.some.injEq] at ho
      subst ho
      refine ⟨?_, Or.inl ⟨by rfl, ?_⟩, fun _ _ _ h => h, ?_⟩
      rotate_left 1
      · intro W hW
        try dsimp only at hW
        go_simp
        try with_reducible rfl
      simp only [Act.put, List.setIfInBounds_toArray, List.set_cons_zero, List.set_cons_succ]
      refine wpH.take (i := 5) (by kernel_rfl) (by kernel_rfl) (by kernel_rfl) (by kernel_rfl) (by kernel_rfl) HS ?_
      intro oi ho
      simp only [List.getElem?_toArray, List.getElem?_cons_succ, List.getElem?_cons_zero, Option.some.injEq] at ho
      subst ho
      refine ⟨?_, Or.inl ⟨by rfl, ?_⟩, fun _ _ _ h => h, ?_⟩
      rotate_left 1
      · intro W hW
        try dsimp only at hW
        go_simp
        try with_reducible rfl
      simp only [Act.put, List.setIfInBounds_toArray, List.set_cons_zero, List.set_cons_succ]
      refine wpH.take (i := 6) (by kernel_rfl) (by kernel_rfl) (by kernel_rfl) (by kernel_rfl) (by kernel_rfl) HS ?_
      intro oi ho
      simp only [List.getElem?_toArray, List.getElem?_cons_succ, List.getElem?_cons_zero, Option.some.injEq] at ho
      subst ho
      refine ⟨?_, Or.inl ⟨by rfl, ?_⟩, fun _ _ _ h => h, ?_⟩
      rotate_left 1
      · intro W hW
        try dsimp only at hW
        go_simp
        try with_reducible rfl
      simp only [Act.put, List.setIfInBounds_toArray, List.set_cons_zero, List.set_cons_succ]
      refine wpH.take (i := 7) (by kernel_rfl) (by kernel_rfl) (by kernel_rfl) (by kernel_rfl) (by kernel_rfl) HS ?_
      intro oi ho
      simp only [List.getElem?_toArray, List.getElem?_cons_succ, List.getElem?_cons_zero, Option.some.injEq] at ho
      subst ho
      refine ⟨?_, Or.inl ⟨by rfl, ?_⟩, fun _ _ _ h => h, ?_⟩
      rotate_left 1
      · intro W hW
        try dsimp only at hW
        go_simp
        try with_reducible rfl
      simp only [Act.put, List.setIfInBounds_toArray, List.set_cons_zero, List.set_cons_succ]
      refine wpH.one (i := 8) (by kernel_rfl) ?_
      intro oi ho
      simp only [List.getElem?_toArray, List.getElem?_cons_succ, List.getElem?_cons_zero, Option.some.injEq] at ho
      subst ho
      intro K hK
      have HK := Lib.hid hK
      clear hK
      go_simp
      go_at_call 139
      rw [show g.pl.length - 1 = g.pl.tail.length by simp]
      refine (with51 (toF g fa) g.pl.tail (sideF g fb) _ _ _ _ _ ((TS.out.kept SD.bel).at) ((TT.out.kept SD.bel).at) (HTAIL.out _ (HPL.out.below SD.bel)) (by simp; omega) (by omega) (by omega) (by omega)).mono ?_
      rintro e wn ⟨u, rfl, hu, hbn⟩
      rw [← HNT.out] at hu
      obtain ⟨kn, sn, rfl⟩ := hu.at.form
      have UT := Lib.hid hu
      have S9 := SD.step hbn
      have HB9 := Lib.hid (Below.step (Below.refl _ w3).drew hbn)
      have zn : w3.heap.size ≤ wn.heap.size := hbn.size
      clear hbn hu
      dsimp only
      refine HK.out _ _ (fun _ => FC.out _ HB9.out) ?_
      have HS := FC.out _ HB9.out
      try simp only [Act.put, List.setIfInBounds_toArray, List.set_cons_zero, List.set_cons_succ]
      refine wpH.take (i := 9) (by kernel_rfl) (by kernel_rfl) (by kernel_rfl) (by kernel_rfl) (by kernel_rfl) HS ?_
      intro oi ho
      simp only [List.getElem?_toArray, List.getElem?_cons_succ, List.getElem?_cons_zero, Option.some.injEq] at ho
      subst ho
      refine ⟨?_, Or.inl ⟨by rfl, ?_⟩, fun _ _ _ h => h, ?_⟩
      rotate_left 1
      · intro W hW
        try dsimp only at hW
        go_simp
        try with_reducible rfl
      simp only [Act.put, List.setIfInBounds_toArray, List.set_cons_zero, List.set_cons_succ]
      refine wpH.one (i := 10) (by kernel_rfl) ?_
      intro oi ho
      simp only [List.getElem?_toArray, List.getElem?_cons_succ, List.getElem?_cons_zero, Option.some.injEq] at ho
      subst ho
      intro K hK
      have HK := Lib.hid hK
      clear hK
      obtain ⟨e0, e1⟩ := S9.cell 6 1 rfl
      obtain ⟨e2, e3⟩ := S9.cell 6 2 rfl
      have hlb := S9.lt 6
      go_simp
      have SF := S9.put 6 (b := b10) (cs' := #[.bool fb.neg, .int .i64 NT.head, .slice kn NT.kids.length (NT.kids.length + sn), .int .i64 fb.r.head, .slice kd fb.r.kids.length (fb.r.kids.length + sd1)]) rfl (by have := HBX.out; omega) (by have := HBX.out; simp only [offs, offAll, Fct.box, and_true]; omega) (w' := (wn.setCell ⟨b10, 1, none⟩ (.int .i64 NT.head)).setCell ⟨b10, 2, none⟩ (.slice kn NT.kids.length (NT.kids.length + sn))) (fun h => (h.setCell (p := ⟨b10, 1, none⟩) (by have := HBX.out; show w.heap.size ≤ b10; omega) _).setCell (p := ⟨b10, 2, none⟩) (by have := HBX.out; show w.heap.size ≤ b10; omega) _) (fun c hc => (Below.heap_setCell _ _ _ _ hc).trans (Below.heap_setCell _ _ _ _ hc)) (fun h => by simp [World.setCell, Array.getElem?_modify, h])
      clear e0 e1 e2 e3
      refine HK.out _ _ (fun h => absurd (by decide) h) ?_
      try simp only [Act.put, List.setIfInBounds_toArray, List.set_cons_zero, List.set_cons_succ]
      refine wpH.done (by kernel_rfl) ?_
      generalize (if pc = 1 then (some ⟨pb, poff, none⟩ : Option Addr) else some ⟨pb, poff + 1, none⟩) = tlv
      have SH := Lib.hid (SF.pick [0, 1, 2, 3, 4, 5, 6])
      have UT2 := Lib.hid (show TreeP (fun c => p c ∨ b12 < c) ((wn.setCell ⟨b10, 1, none⟩ (.int .i64 NT.head)).setCell ⟨b10, 2, none⟩ (.slice kn NT.kids.length (NT.kids.length + sn))) (.agg #[.int .i64 NT.head, .slice kn NT.kids.length (NT.kids.length + sn)]) NT from ((UT.out.setCell (a := ⟨b10, 1, none⟩) (by show ¬ w3.heap.size ≤ b10; omega) _).setCell (a := ⟨b10, 2, none⟩) (by show ¬ w3.heap.size ≤ b10; omega) _).mono (fun b h _ => .inr (by have h2 : w3.heap.size ≤ b := h; omega)))
      have hz19 : b12 + 1 ≤ ((wn.setCell ⟨b10, 1, none⟩ (.int .i64 NT.head)).setCell ⟨b10, 2, none⟩ (.slice kn NT.kids.length (NT.kids.length + sn))).heap.size := by simp; omega
      have OT := Lib.hid (((TV.out.kept SF.bel)).mono (q := (fun c => p c ∨ b12 < c)) (by intro b h _; exact .inl h))
      clear SF HS S9 HB9
      try go_wp2_with fail
      go_meet
      case rel => exact ⟨kn, kd, sn, sd1, by rw [HLS.out]; exact UT2, by rw [HLS.out]; exact OT, hz19, by rw [HLS.out]; exact SH.out⟩
    · have u0 : w3.cell? ⟨b10, 3, none⟩ = some (.int .i64 (sideF g fb).head) := Below.cellOf HB3.out U0.out
      have u1 : w3.cell? ⟨b10, 4, none⟩ = some (.slice ks (sideF g fb).kids.length ((sideF g fb).kids.length + ss)) := Below.cellOf HB3.out U1.out
      have FC := Lib.hid (fun W (hb : Below w3.heap.size w3 W) => (⟨Below.cellOf hb u0, Below.cellOf hb u1, Below.cellOf hb g6, Below.cellOf hb x0, Below.cellOf hb x1⟩ : _ ∧ _ ∧ _ ∧ _ ∧ _))
      have HLS := Lib.hid (show lastF g fb NT = ⟨fb.neg, fb.l, NT⟩ by unfold lastF; rw [if_pos hV])
      have SD : St w w3.drew [.box bx #[.slice (some ⟨ab, aoff, none⟩) A.length (A.length + sa)] 41, .box (bx + 1) #[.slice (some ⟨cb, coff, none⟩) B.length (B.length + sb)] 41, .box (bx + 2) #[.int .i64 g.kind, .int .i64 g.a, .int .i64 g.b, .int .i64 g.i, .int .i64 g.j, .bool tb, .slice (some ⟨pb, poff, none⟩) g.pl.length pc, .slice bo g.bs.length bc] 35, .box (bx + 3) #[.slice none 0 0] 41, .box b8 #[.int .i64 (fromF g fa).head, .slice kf (fromF g fa).kids.length ((fromF g fa).kids.length + sf)] 38, .box b9 #[.int .i64 (toF g fa).head, .slice kt (toF g fa).kids.length ((toF g fa).kids.length + st)] 38, .box b10 #[.bool fb.neg, .int .i64 fb.l.head, .slice kc fb.l.kids.length (fb.l.kids.length + sc1), .int .i64 fb.r.head, .slice kd fb.r.kids.length (fb.r.kids.length + sd1)] 62, .box b12 #[.int .i64 GX.head, .slice ku GX.kids.length (GX.kids.length + su)] 38] := S3.drew
      clear S3 u0 u1 g6 x0 x1 y0 y1 y2 y3 y4 hV
      refine wpH_region [10] (fun W => W.cell? ⟨b10, 3, none⟩ = some (.int .i64 (sideF g fb).head) ∧ W.cell? ⟨b10, 4, none⟩ = some (.slice ks (sideF g fb).kids.length ((sideF g fb).kids.length + ss)) ∧ W.cell? ⟨bx + 2, 6, none⟩ = some (.slice (some ⟨pb, poff, none⟩) g.pl.length pc) ∧ W.cell? ⟨b9, 0, none⟩ = some (.int .i64 (toF g fa).head) ∧ W.cell? ⟨b9, 1, none⟩ = some (.slice kt (toF g fa).kids.length ((toF g fa).kids.length + st))) (by kernel_rfl) ?_
      have HS := FC.out _ (Below.refl _ w3).drew
      refine wpH.take (i := 0) (by kernel_rfl) (by kernel_rfl) (by kernel_rfl) (by kernel_rfl) (by kernel_rfl) HS ?_
      intro oi ho
      simp only [List.getElem?_toArray, List.getElem?_cons_zero, Option.some.injEq] at ho
      subst ho
      refine ⟨?_, Or.inl ⟨by rfl, ?_⟩, fun _ _ _ h => h, ?_⟩
      rotate_left 1
      · intro W hW
        try dsimp only at hW
        go_simp
        try with_reducible rfl
      simp only [Act.put, List.setIfInBounds_toArray, List.set_cons_zero, List.set_cons_succ]
      refine wpH.take (i := 1) (by kernel_rfl) (by kernel_rfl) (by kernel_rfl) (by kernel_rfl) (by kernel_rfl) HS ?_
      intro oi ho
      simp only [List.getElem?_toArray, List.getElem?_cons_succ, List.getElem?_cons_zero, Option.some.injEq] at ho
      subst ho
      refine ⟨?_, Or.inl ⟨by rfl, ?_⟩, fun _ _ _ h => h, ?_⟩
      rotate_left 1
      · intro W hW
        try dsimp only at hW
        go_simp
        try with_reducible rfl
      simp only [Act.put, List.setIfInBounds_toArray, List.set_cons_zero, List.set_cons_succ]
      refine wpH.take (i := 2) (by kernel_rfl) (by kernel_rfl) (by kernel_rfl) (by kernel_rfl) (by kernel_rfl) HS ?_
      intro oi ho
      simp only [List.getElem?_toArray, List.getElem?_cons_succ, List.getElem?_cons_zero, Option.some.injEq] at ho
      subst ho
      refine ⟨?_, Or.inl ⟨by rfl, ?_⟩, fun _ _ _ h => h, ?_⟩
      rotate_left 1
      · intro W hW
        try dsimp only at hW
        go_simp
        try with_reducible rfl
      simp only [Act.put, List.setIfInBounds_toArray, List.set_cons_zero, List.set_cons_succ]
      refine wpH.take (i := 3) (by kernel_rfl) (by kernel_rfl) (by kernel_rfl) (by kernel_rfl) (by kernel_rfl) HS ?_
      intro oi ho
      simp only [List.getElem?_toArray, List.getElem?_cons_succ, List.getElem?_cons_zero, Option.some.injEq] at ho
      subst ho
      refine ⟨?_, Or.inl ⟨by rfl, ?_⟩, fun _ _ _ h => h, ?_⟩
      rotate_left 1
      · intro W hW
        try dsimp only at hW
        go_simp
        try with_reducible rfl
      simp only [Act.put, List.setIfInBounds_toArray, List.set_cons_zero, List.set_cons_succ]
      refine wpH.take (i := 4) (by kernel_rfl) (by kernel_rfl) (by kernel_rfl) (by kernel_rfl) (by kernel_rfl) HS ?_
      intro oi ho
      simp only [List.getElem?_toArray, List.getElem?_cons_succ, List.getElem?_cons_zero, Option.some.injEq] at ho
      subst ho
      refine ⟨?_, Or.inl ⟨by rfl, ?_⟩, fun _ _ _ h => h, ?_⟩
      rotate_left 1
      · intro W hW
        try dsimp only at hW
        go_simp
        try with_reducible rfl
      simp only [Act.put, List.setIfInBounds_toArray, List.set_cons_zero, List.set_cons_succ]
      refine wpH.take (i := 5) (by kernel_rfl) (by kernel_rfl) (by kernel_rfl) (by kernel_rfl) (by kernel_rfl) HS ?_
      intro oi ho
      simp only [List.getElem?_toArray, List.getElem?_cons_succ, List.getElem?_cons_zero, Option.some.injEq] at ho
      subst ho
      refine ⟨?_, Or.inl ⟨by rfl, ?_⟩, fun _ _ _ h => h, ?_⟩
      rotate_left 1
      · intro W hW
        try dsimp only at hW
        go_simp
        try with_reducible rfl
      simp only [Act.put, List.setIfInBounds_toArray, List.set_cons_zero, List.set_cons_succ]
      refine wpH.take (i := 6) (by kernel_rfl) (by kernel_rfl) (by kernel_rfl) (by kernel_rfl) (by kernel_rfl) HS ?_
      intro oi ho
      simp only [List.getElem?_toArray, List.getElem?_cons_succ, List.getElem?_cons_zero, Option.some.injEq] at ho
      subst ho
      refine ⟨?_, Or.inl ⟨by rfl, ?_⟩, fun _ _ _ h => h, ?_⟩
      rotate_left 1
      · intro W hW
        try dsimp only at hW
        go_simp
        try with_reducible rfl
      simp only [Act.put, List.setIfInBounds_toArray, List.set_cons_zero, List.set_cons_succ]
      refine wpH.take (i := 7) (by kernel_rfl) (by kernel_rfl) (by kernel_rfl) (by kernel_rfl) (by kernel_rfl) HS ?_
      intro oi ho
      simp only [List.getElem?_toArray, List.getElem?_cons_succ, List.getElem?_cons_zero, Option.some.injEq] at ho
      subst ho
      refine ⟨?_, Or.inl ⟨by rfl, ?_⟩, fun _ _ _ h => h, ?_⟩
      rotate_left 1
      · intro W hW
        try dsimp only at hW
        go_simp
        try with_reducible rfl
      simp only [Act.put, List.setIfInBounds_toArray, List.set_cons_zero, List.set_cons_succ]
      refine wpH.one (i := 8) (by kernel_rfl) ?_
      intro oi ho
      simp only [List.getElem?_toArray, List.getElem?_cons_succ, List.getElem?_cons_zero, Option.some.injEq] at ho
      subst ho
      intro K hK
      have HK := Lib.hid hK
      clear hK
      go_simp
      go_at_call 139
      rw [show g.pl.length - 1 = g.pl.tail.length by simp]
      refine (with51 (toF g fa) g.pl.tail (sideF g fb) _ _ _ _ _ ((TS.out.kept SD.bel).at) ((TT.out.kept SD.bel).at) (HTAIL.out _ (HPL.out.below SD.bel)) (by simp; omega) (by omega) (by omega) (by omega)).mono ?_
      rintro e wn ⟨u, rfl, hu, hbn⟩
      rw [← HNT.out] at hu
      obtain ⟨kn, sn, rfl⟩ := hu.at.form
      have UT := Lib.hid hu
      have S9 := SD.step hbn
      have HB9 := Lib.hid (Below.step (Below.refl _ w3).drew hbn)
      have zn : w3.heap.size ≤ wn.heap.size := hbn.size
      clear hbn hu
      dsimp only
      refine HK.out _ _ (fun _ => FC.out _ HB9.out) ?_
      have HS := FC.out _ HB9.out
      try simp only [Act.put, List.setIfInBounds_toArray, List.set_cons_zero, List.set_cons_succ]
      refine wpH.take (i := 9) (by kernel_rfl) (by kernel_rfl) (by kernel_rfl) (by kernel_rfl) (by kernel_rfl) HS ?_
      intro oi ho
      simp only [List.getElem?_toArray, List.getElem?_cons_succ, List.getElem?_cons_zero, Option.some.injEq] at ho
      subst ho
      refine ⟨?_, Or.inl ⟨by rfl, ?_⟩, fun _ _ _ h => h, ?_⟩
      rotate_left 1
      · intro W hW
        try dsimp only at hW
        go_simp
        try with_reducible rfl
      simp only [Act.put, List.setIfInBounds_toArray, List.set_cons_zero, List.set_cons_succ]
      refine wpH.one (i := 10) (by kernel_rfl) ?_
      intro oi ho
      simp only [List.getElem?_toArray, List.getElem?_cons_succ, List.getElem?_cons_zero, Option.some.injEq] at ho
      subst ho
      intro K hK
      have HK := Lib.hid hK
      clear hK
      obtain ⟨e0, e1⟩ := S9.cell 6 3 rfl
      obtain ⟨e2, e3⟩ := S9.cell 6 4 rfl
      have hlb := S9.lt 6
      go_simp
      have SF := S9.put 6 (b := b10) (cs' := #[.bool fb.neg, .int .i64 fb.l.head, .slice kc fb.l.kids.length (fb.l.kids.length + sc1), .int .i64 NT.head, .slice kn NT.kids.length (NT.kids.length + sn)]) rfl (by have := HBX.out; omega) (by have := HBX.out; simp only [offs, offAll, Fct.box, and_true]; omega) (w' := (wn.setCell ⟨b10, 3, none⟩ (.int .i64 NT.head)).setCell ⟨b10, 4, none⟩ (.slice kn NT.kids.length (NT.kids.length + sn))) (fun h => (h.setCell (p := ⟨b10, 3, none⟩) (by have := HBX.out; show w.heap.size ≤ b10; omega) _).setCell (p := ⟨b10, 4, none⟩) (by have := HBX.out; show w.heap.size ≤ b10; omega) _) (fun c hc => (Below.heap_setCell _ _ _ _ hc).trans (Below.heap_setCell _ _ _ _ hc)) (fun h => by simp [World.setCell, Array.getElem?_modify, h])
      clear e0 e1 e2 e3
      refine HK.out _ _ (fun h => absurd (by decide) h) ?_
      try simp only [Act.put, List.setIfInBounds_toArray, List.set_cons_zero, List.set_cons_succ]
      refine wpH.done (by kernel_rfl) ?_
      generalize (if pc = 1 then (some ⟨pb, poff, none⟩ : Option Addr) else some ⟨pb, poff + 1, none⟩) = tlv
      have SH := Lib.hid (SF.pick [0, 1, 2, 3, 4, 5, 6])
      have UT2 := Lib.hid (show TreeP (fun c => p c ∨ b12 < c) ((wn.setCell ⟨b10, 3, none⟩ (.int .i64 NT.head)).setCell ⟨b10, 4, none⟩ (.slice kn NT.kids.length (NT.kids.length + sn))) (.agg #[.int .i64 NT.head, .slice kn NT.kids.length (NT.kids.length + sn)]) NT from ((UT.out.setCell (a := ⟨b10, 3, none⟩) (by show ¬ w3.heap.size ≤ b10; omega) _).setCell (a := ⟨b10, 4, none⟩) (by show ¬ w3.heap.size ≤ b10; omega) _).mono (fun b h _ => .inr (by have h2 : w3.heap.size ≤ b := h; omega)))
      have hz19 : b12 + 1 ≤ ((wn.setCell ⟨b10, 3, none⟩ (.int .i64 NT.head)).setCell ⟨b10, 4, none⟩ (.slice kn NT.kids.length (NT.kids.length + sn))).heap.size := by simp; omega
      have OT := Lib.hid (((TU.out.kept SF.bel)).mono (q := (fun c => p c ∨ b12 < c)) (by intro b h _; exact .inl h))
      clear SF HS S9 HB9
      try go_wp2_with fail
      go_meet
      case rel => exact ⟨kc, kn, sc1, sn, by rw [HLS.out]; exact OT, by rw [HLS.out]; exact UT2, hz19, by rw [HLS.out]; exact SH.out⟩
  case rest =>
  clear S3
  obtain ⟨k1, k2, s1, s2, LT, LV, hz19, S⟩ := hcut
  go_step
  obtain ⟨L, hL⟩ : ∃ L, L = lastF g fb NT := ⟨_, rfl⟩
  rw [← hL] at HR5 LT LV S
  clear hL
  have HRF := Lib.hid (show rightF A B g = (A.eraseIdx I ++ B.eraseIdx J ++ [L], 0) from HR5.out)
  obtain ⟨a0, _⟩ := S.one 0
  obtain ⟨b0, _⟩ := S.one 1
  obtain ⟨g3, _⟩ := S.cell 2 3 rfl
  obtain ⟨g4, _⟩ := S.cell 2 4 rfl
  rw [← HI.out] at g3
  rw [← HJ.out] at g4
  have hyy := boxF5 (S.block 6)
  have hl10 := S.lt 6
  have FC := Lib.hid (fun W (hb : Below wc.heap.size wc W) => (⟨Below.cellOf hb a0, Below.cellOf hb b0, Below.cellOf hb g3, Below.cellOf hb g4, Below.cellOf hb hyy.1, Below.cellOf hb hyy.2.1, Below.cellOf hb hyy.2.2.1, Below.cellOf hb hyy.2.2.2.1, Below.cellOf hb hyy.2.2.2.2⟩ : _ ∧ _ ∧ _ ∧ _ ∧ _ ∧ _ ∧ _ ∧ _ ∧ _))
  have HZ9 := Lib.hid (show bx + 4 ≤ b10 ∧ b10 < b12 ∧ b12 + 1 ≤ wc.heap.size by omega)
  have SD := Lib.hid (S.pick [3]).drew
  clear S a0 b0 g3 g4 hyy HR5
  change Hid (St w wc.drew [.box (bx + 3) #[.slice none 0 0] 41]) at SD
  go_upto_region 20 with fail
  refine wpH_region [15, 16] (fun W => W.cell? ⟨bx, 0, none⟩ = some (.slice (some ⟨ab, aoff, none⟩) A.length (A.length + sa)) ∧ W.cell? ⟨bx + 1, 0, none⟩ = some (.slice (some ⟨cb, coff, none⟩) B.length (B.length + sb)) ∧ W.cell? ⟨bx + 2, 3, none⟩ = some (.int .i64 (I : Int)) ∧ W.cell? ⟨bx + 2, 4, none⟩ = some (.int .i64 (J : Int)) ∧ W.cell? ⟨b10, 0, none⟩ = some (.bool L.neg) ∧ W.cell? ⟨b10, 1, none⟩ = some (.int .i64 L.l.head) ∧ W.cell? ⟨b10, 2, none⟩ = some (.slice k1 L.l.kids.length (L.l.kids.length + s1)) ∧ W.cell? ⟨b10, 3, none⟩ = some (.int .i64 L.r.head) ∧ W.cell? ⟨b10, 4, none⟩ = some (.slice k2 L.r.kids.length (L.r.kids.length + s2))) (by kernel_rfl) ?_
  have HS := FC.out _ (Below.refl _ wc).drew
  have B0 := Lib.hid ((Below.refl wc.heap.size wc).drew)
  have hIA' := hIA
  have hJB' := hJB
  refine wpH.take (i := 0) (by kernel_rfl) (by kernel_rfl) (by kernel_rfl) (by kernel_rfl) (by kernel_rfl) HS ?_
  intro oi ho
  simp only [List.getElem?_toArray, List.getElem?_cons_zero, Option.some.injEq] at ho
  subst ho
  refine ⟨?_, Or.inl ⟨by rfl, ?_⟩, fun _ _ _ h => h, ?_⟩
  rotate_left 1
  · intro W hW
    try dsimp only at hW
    go_simp
    try with_reducible rfl
  simp only [Act.put, List.setIfInBounds_toArray, List.set_cons_zero, List.set_cons_succ]
  refine wpH.take (i := 1) (by kernel_rfl) (by kernel_rfl) (by kernel_rfl) (by kernel_rfl) (by kernel_rfl) HS ?_
  intro oi ho
  simp only [List.getElem?_toArray, List.getElem?_cons_succ, List.getElem?_cons_zero, Option.some.injEq] at ho
  subst ho
  refine ⟨?_, Or.inl ⟨by rfl, ?_⟩, fun _ _ _ h => h, ?_⟩
  rotate_left 1
  · intro W hW
    try dsimp only at hW
    go_simp
    try with_reducible rfl
  simp only [Act.put, List.setIfInBounds_toArray, List.set_cons_zero, List.set_cons_succ]
  refine wpH.take (i := 2) (by kernel_rfl) (by kernel_rfl) (by kernel_rfl) (by kernel_rfl) (by kernel_rfl) HS ?_
  intro oi ho
  simp only [List.getElem?_toArray, List.getElem?_cons_succ, List.getElem?_cons_zero, Option.some.injEq] at ho
  subst ho
  refine ⟨?_, Or.inl ⟨by rfl, ?_⟩, fun _ _ _ h => h, ?_⟩
  rotate_left 1
  · intro W hW
    try dsimp only at hW
    go_simp
    try with_reducible rfl
  simp only [Act.put, List.setIfInBounds_toArray, List.set_cons_zero, List.set_cons_succ]
  refine wpH.take (i := 3) (by kernel_rfl) (by kernel_rfl) (by kernel_rfl) (by kernel_rfl) (by kernel_rfl) HS ?_
  intro oi ho
  simp only [List.getElem?_toArray, List.getElem?_cons_succ, List.getElem?_cons_zero, Option.some.injEq] at ho
  subst ho
  refine ⟨?_, Or.inl ⟨by rfl, ?_⟩, fun _ _ _ h => h, ?_⟩
  rotate_left 1
  · intro W hW
    try dsimp only at hW
    go_simp
    try with_reducible rfl
  simp only [Act.put, List.setIfInBounds_toArray, List.set_cons_zero, List.set_cons_succ]
  refine wpH.take (i := 5) (by kernel_rfl) (by kernel_rfl) (by kernel_rfl) (by kernel_rfl) (by kernel_rfl) HS ?_
  intro oi ho
  simp only [List.getElem?_toArray, List.getElem?_cons_succ, List.getElem?_cons_zero, Option.some.injEq] at ho
  subst ho
  refine ⟨?_, Or.inl ⟨by rfl, ?_⟩, fun _ _ _ h => h, ?_⟩
  rotate_left 1
  · intro W hW
    try dsimp only at hW
    go_simp
    try with_reducible rfl
  simp only [Act.put, List.setIfInBounds_toArray, List.set_cons_zero, List.set_cons_succ]
  refine wpH.take (i := 6) (by kernel_rfl) (by kernel_rfl) (by kernel_rfl) (by kernel_rfl) (by kernel_rfl) HS ?_
  intro oi ho
  simp only [List.getElem?_toArray, List.getElem?_cons_succ, List.getElem?_cons_zero, Option.some.injEq] at ho
  subst ho
  refine ⟨?_, Or.inl ⟨by rfl, ?_⟩, fun _ _ _ h => h, ?_⟩
  rotate_left 1
  · intro W hW
    try dsimp only at hW
    go_simp
    try with_reducible rfl
  simp only [Act.put, List.setIfInBounds_toArray, List.set_cons_zero, List.set_cons_succ]
  refine wpH.take (i := 7) (by kernel_rfl) (by kernel_rfl) (by kernel_rfl) (by kernel_rfl) (by kernel_rfl) HS ?_
  intro oi ho
  simp only [List.getElem?_toArray, List.getElem?_cons_succ, List.getElem?_cons_zero, Option.some.injEq] at ho
  subst ho
  refine ⟨?_, Or.inl ⟨by rfl, ?_⟩, fun _ _ _ h => h, ?_⟩
  rotate_left 1
  · intro W hW
    try dsimp only at hW
    go_simp
    try with_reducible rfl
  simp only [Act.put, List.setIfInBounds_toArray, List.set_cons_zero, List.set_cons_succ]
  refine wpH.take (i := 8) (by kernel_rfl) (by kernel_rfl) (by kernel_rfl) (by kernel_rfl) (by kernel_rfl) HS ?_
  intro oi ho
  simp only [List.getElem?_toArray, List.getElem?_cons_succ, List.getElem?_cons_zero, Option.some.injEq] at ho
  subst ho
  refine ⟨?_, Or.inl ⟨by rfl, ?_⟩, fun _ _ _ h => h, ?_⟩
  rotate_left 1
  · intro W hW
    try dsimp only at hW
    go_simp
    try with_reducible rfl
  simp only [Act.put, List.setIfInBounds_toArray, List.set_cons_zero, List.set_cons_succ]
  refine wpH.take (i := 10) (by kernel_rfl) (by kernel_rfl) (by kernel_rfl) (by kernel_rfl) (by kernel_rfl) HS ?_
  intro oi ho
  simp only [List.getElem?_toArray, List.getElem?_cons_succ, List.getElem?_cons_zero, Option.some.injEq] at ho
  subst ho
  refine ⟨?_, Or.inl ⟨by rfl, ?_⟩, fun _ _ _ h => h, ?_⟩
  rotate_left 1
  · intro W hW
    try dsimp only at hW
    go_simp
    try with_reducible rfl
  simp only [Act.put, List.setIfInBounds_toArray, List.set_cons_zero, List.set_cons_succ]
  refine wpH.two (i := 4) (j := 11) (by kernel_rfl) ?_ ?_
  · intro oi ho
    simp only [List.getElem?_toArray, List.getElem?_cons_succ, List.getElem?_cons_zero, Option.some.injEq] at ho
    subst ho
    intro K hK
    have HK := Lib.hid hK
    clear hK
    go_simp
    go_at_call 142
    refine (without142 A p _ _ I _ (HA.out.kept SD.out.bel) (fun b hb => Nat.lt_of_lt_of_le (HP.out b hb) SD.out.bel.size) hIA' (by omega)).mono ?_
    rintro e wa ⟨gA, cA, rfl, oA, hbA⟩
    have SA := Lib.hid ((SD.out.step hbA).add (.owns factE _ p (.slice (some ⟨gA, 0, none⟩) (A.length - 1) cA) (A.eraseIdx I)) oA)
    have BA := Lib.hid (Below.step B0.out hbA)
    have HDA := Lib.hid (Nat.le_trans HZ9.out.2.2 B0.out.size)
    clear oA hbA
    dsimp only
    refine HK.out _ _ (fun _ => FC.out _ BA.out) ?_
    have HS := FC.out _ BA.out
    try simp only [Act.put, List.setIfInBounds_toArray, List.set_cons_zero, List.set_cons_succ]
    refine wpH.two (i := 9) (j := 11) (by kernel_rfl) ?_ ?_
    · intro oi ho
      simp only [List.getElem?_toArray, List.getElem?_cons_succ, List.getElem?_cons_zero, Option.some.injEq] at ho
      subst ho
      intro K hK
      have HK := Lib.hid hK
      clear hK
      go_simp
      go_at_call 142
      refine (without142 B p _ _ J _ (HB.out.kept SA.out.bel) (fun b hb => Nat.lt_of_lt_of_le (HP.out b hb) SA.out.bel.size) hJB' (by omega)).mono ?_
      rintro e wb ⟨gB, cB, rfl, oB, hbB⟩
      have SBq := Lib.hid ((SA.out.step hbB).add (.owns factE _ p (.slice (some ⟨gB, 0, none⟩) (B.length - 1) cB) (B.eraseIdx J)) oB)
      have BBq := Lib.hid (Below.step BA.out hbB)
      have HDB := Lib.hid (Nat.le_trans HZ9.out.2.2 BA.out.size)
      clear oB hbB
      dsimp only
      refine HK.out _ _ (fun _ => FC.out _ BBq.out) ?_
      have HS := FC.out _ BBq.out
      try simp only [Act.put, List.setIfInBounds_toArray, List.set_cons_zero, List.set_cons_succ]
      refine wpH.one (i := 11) (by kernel_rfl) ?_
      intro oi ho
      simp only [List.getElem?_toArray, List.getElem?_cons_succ, List.getElem?_cons_zero, Option.some.injEq] at ho
      subst ho
      intro K hK
      have HK := Lib.hid hK
      clear hK
      go_simp
      have SS := Lib.hid (SBq.out.box (b := wb.heap.size) rfl #[.bool L.neg, .int .i64 L.l.head, .slice k1 L.l.kids.length (L.l.kids.length + s1), .int .i64 L.r.head, .slice k2 L.r.kids.length (L.r.kids.length + s2)] 62)
      have BS := Lib.hid (BBq.out.alloc (BBq.out.size) (.cells #[.bool L.neg, .int .i64 L.l.head, .slice k1 L.l.kids.length (L.l.kids.length + s1), .int .i64 L.r.head, .slice k2 L.r.kids.length (L.r.kids.length + s2)] 62))
      refine HK.out _ _ (fun _ => FC.out _ BS.out) ?_
      have HS := FC.out _ BS.out
      try simp only [Act.put, List.setIfInBounds_toArray, List.set_cons_zero, List.set_cons_succ]
      obtain ⟨bs, hbs⟩ : ∃ b, b = wb.heap.size := ⟨_, rfl⟩
      rw [← hbs] at SS ⊢
      have HBS := Lib.hid (show b12 + 1 ≤ bs by rw [hbs]; exact Nat.le_trans HZ9.out.2.2 BBq.out.size)
      clear HS
      generalize wb.alloc (.cells #[.bool L.neg, .int .i64 L.l.head, .slice k1 L.l.kids.length (L.l.kids.length + s1), .int .i64 L.r.head, .slice k2 L.r.kids.length (L.r.kids.length + s2)] 62) = WS at SS BS ⊢
      have HS := FC.out _ BS.out
      clear hbs
      refine wpH.one (i := 12) (by kernel_rfl) ?_
      intro oi ho
      simp only [List.getElem?_toArray, List.getElem?_cons_succ, List.getElem?_cons_zero, Option.some.injEq] at ho
      subst ho
      intro K hK
      have HK := Lib.hid hK
      clear hK
      go_simp
      have S12 := Lib.hid (SS.out.box (b := WS.heap.size) rfl #[.slice (some ⟨gA, 0, none⟩) (A.length - 1) cA, .slice (some ⟨gB, 0, none⟩) (B.length - 1) cB, .slice (some ⟨bs, 0, none⟩) 1 1] 39)
      have B12 := Lib.hid (BS.out.alloc (BS.out.size) (.cells #[.slice (some ⟨gA, 0, none⟩) (A.length - 1) cA, .slice (some ⟨gB, 0, none⟩) (B.length - 1) cB, .slice (some ⟨bs, 0, none⟩) 1 1] 39))
      refine HK.out _ _ (fun _ => FC.out _ B12.out) ?_
      have HS := FC.out _ B12.out
      try simp only [Act.put, List.setIfInBounds_toArray, List.set_cons_zero, List.set_cons_succ]
      refine wpH.one (i := 13) (by kernel_rfl) ?_
      intro oi ho
      simp only [List.getElem?_toArray, List.getElem?_cons_succ, List.getElem?_cons_zero, Option.some.injEq] at ho
      subst ho
      intro K hK
      have HK := Lib.hid hK
      clear hK
      go_simp
      go_at_call 141
      have hoA := own_rowQ (S12.out.owns factE 1) HDA.out
      have hoB := own_rowQ (S12.out.owns factE 2) HDB.out
      refine (concat3 (A.eraseIdx I) (B.eraseIdx J) L gA gB bs _ _ cA cB _ _ _ hoA.2.1 hoB.2.1 (S12.out.block 4) hoA.1 hoB.1 (fact_row5 (S12.out.block 3) (.inr ⟨HBS.out, S12.out.lt 3⟩) ((LT.out.kept B12.out).mono (fun b h h2 => h.elim .inl (fun h => .inr ⟨h, h2⟩))) ((LV.out.kept B12.out).mono (fun b h h2 => h.elim .inl (fun h => .inr ⟨h, h2⟩)))) (fun c h => h.elim (fun h => Nat.lt_of_lt_of_le (HP.out c h) S12.out.bel.size) (fun h => h.2)) (by rw [List.length_eraseIdx_of_lt hIA]; omega) (by rw [List.length_eraseIdx_of_lt hJB]; omega)).mono ?_
      rintro e wf ⟨gf, cf, rfl, of, hbf⟩
      obtain ⟨LEN, hLEN⟩ : ∃ n, n = (A.eraseIdx I ++ B.eraseIdx J ++ [L]).length := ⟨_, rfl⟩
      rw [← hLEN] at of ⊢
      have hof := own_rowQ of (s := b12 + 1) (Nat.le_trans HZ9.out.2.2 B12.out.size)
      have S13 := Lib.hid ((S12.out.step hbf).pick [0])
      have B13 := Lib.hid (Below.step B12.out hbf)
      have HOF := Lib.hid hof
      clear of hbf hoA hoB hof hLEN
      dsimp only
      refine HK.out _ _ (fun _ => FC.out _ B13.out) ?_
      have HS := FC.out _ B13.out
      try simp only [Act.put, List.setIfInBounds_toArray, List.set_cons_zero, List.set_cons_succ]
      refine wpH.one (i := 14) (by kernel_rfl) ?_
      intro oi ho
      simp only [List.getElem?_toArray, List.getElem?_cons_succ, List.getElem?_cons_zero, Option.some.injEq] at ho
      subst ho
      intro K hK
      have HK := Lib.hid hK
      clear hK
      go_simp
      refine HK.out _ _ (fun _ => FC.out _ B13.out) ?_
      have HS := FC.out _ B13.out
      try simp only [Act.put, List.setIfInBounds_toArray, List.set_cons_zero, List.set_cons_succ]
      refine wpH.one (i := 15) (by kernel_rfl) ?_
      intro oi ho
      simp only [List.getElem?_toArray, List.getElem?_cons_succ, List.getElem?_cons_zero, Option.some.injEq] at ho
      subst ho
      intro K hK
      have HK := Lib.hid hK
      clear hK
      obtain ⟨e0, e1⟩ := S13.out.one 0
      have hl3 := S13.out.lt 0
      go_simp
      refine HK.out _ _ (fun h => absurd (by decide) h) ?_
      try simp only [Act.put, List.setIfInBounds_toArray, List.set_cons_zero, List.set_cons_succ]
      refine wpH.one (i := 16) (by kernel_rfl) ?_
      intro oi ho
      simp only [List.getElem?_toArray, List.getElem?_cons_succ, List.getElem?_cons_zero, Option.some.injEq] at ho
      subst ho
      intro K hK
      have HK := Lib.hid hK
      clear hK
      go_simp
      refine HK.out _ _ (fun h => absurd (by decide) h) ?_
      try simp only [Act.put, List.setIfInBounds_toArray, List.set_cons_zero, List.set_cons_succ]
      refine wpH.done (by kernel_rfl) ?_
      have SG := Lib.hid (S13.out.set1 0 rfl (.slice (some ⟨gf, 0, none⟩) LEN cf) (by have := HBX.out; omega) (by simp only [offs, offAll, List.map]))
      clear HS e0 e1
      go_wp2_with fail
      refine bodyPost_ret (v := .tuple #[.agg #[.slice (some ⟨gf, 0, none⟩) LEN cf], .int .i64 0]) ?_ rfl ?_
      · obtain ⟨q0, _⟩ := SG.out.one 0
        simp [results, Try.results111, go_sem, q0]
      · unfold RightP
        rw [HRF.out]
        refine ⟨some ⟨gf, 0, none⟩, cf - (A.eraseIdx I ++ B.eraseIdx J ++ [L]).length, by show Ending.returned (Value.tuple #[.agg #[.slice _ LEN cf], _]) = Ending.returned (Value.tuple #[.agg #[.slice _ (A.eraseIdx I ++ B.eraseIdx J ++ [L]).length ((A.eraseIdx I ++ B.eraseIdx J ++ [L]).length + (cf - (A.eraseIdx I ++ B.eraseIdx J ++ [L]).length))], _]); rw [Nat.add_sub_cancel' HOF.out.2.2, ← HOF.out.2.1], HOF.out.1.keep (fun b h1 h2 => ⟨Below.heap_setCell _ _ _ _ (by show b ≠ bx + 3; intro e; have hz := HZ9.out; have hb := HBX.out; rcases h1 with (h1 | h1) | h1; have := HP.out b h1; omega; omega; omega), by have hz := HZ9.out; have hb := HBX.out; rcases h1 with (h1 | h1) | h1; exact .inl h1; exact .inr (by omega); exact .inr (by omega)⟩), SG.out.bel⟩
    · intro oi ho
      simp only [List.getElem?_toArray, List.getElem?_cons_succ, List.getElem?_cons_zero, Option.some.injEq] at ho
      subst ho
      intro K hK
      have HK := Lib.hid hK
      clear hK
      go_simp
      have SS := Lib.hid (SA.out.box (b := wa.heap.size) rfl #[.bool L.neg, .int .i64 L.l.head, .slice k1 L.l.kids.length (L.l.kids.length + s1), .int .i64 L.r.head, .slice k2 L.r.kids.length (L.r.kids.length + s2)] 62)
      have BS := Lib.hid (BA.out.alloc (BA.out.size) (.cells #[.bool L.neg, .int .i64 L.l.head, .slice k1 L.l.kids.length (L.l.kids.length + s1), .int .i64 L.r.head, .slice k2 L.r.kids.length (L.r.kids.length + s2)] 62))
      refine HK.out _ _ (fun _ => FC.out _ BS.out) ?_
      have HS := FC.out _ BS.out
      try simp only [Act.put, List.setIfInBounds_toArray, List.set_cons_zero, List.set_cons_succ]
      obtain ⟨bs, hbs⟩ : ∃ b, b = wa.heap.size := ⟨_, rfl⟩
      rw [← hbs] at SS ⊢
      have HBS := Lib.hid (show b12 + 1 ≤ bs by rw [hbs]; exact Nat.le_trans HZ9.out.2.2 BA.out.size)
      clear HS
      generalize wa.alloc (.cells #[.bool L.neg, .int .i64 L.l.head, .slice k1 L.l.kids.length (L.l.kids.length + s1), .int .i64 L.r.head, .slice k2 L.r.kids.length (L.r.kids.length + s2)] 62) = WS at SS BS ⊢
      have HS := FC.out _ BS.out
      clear hbs
      refine wpH.one (i := 9) (by kernel_rfl) ?_
      intro oi ho
      simp only [List.getElem?_toArray, List.getElem?_cons_succ, List.getElem?_cons_zero, Option.some.injEq] at ho
      subst ho
      intro K hK
      have HK := Lib.hid hK
      clear hK
      go_simp
      go_at_call 142
      refine (without142 B p _ _ J _ (HB.out.kept SS.out.bel) (fun b hb => Nat.lt_of_lt_of_le (HP.out b hb) SS.out.bel.size) hJB' (by omega)).mono ?_
      rintro e wb ⟨gB, cB, rfl, oB, hbB⟩
      have SBq := Lib.hid ((SS.out.step hbB).add (.owns factE _ p (.slice (some ⟨gB, 0, none⟩) (B.length - 1) cB) (B.eraseIdx J)) oB)
      have BBq := Lib.hid (Below.step BS.out hbB)
      have HDB := Lib.hid (Nat.le_trans HZ9.out.2.2 BS.out.size)
      clear oB hbB
      dsimp only
      refine HK.out _ _ (fun _ => FC.out _ BBq.out) ?_
      have HS := FC.out _ BBq.out
      try simp only [Act.put, List.setIfInBounds_toArray, List.set_cons_zero, List.set_cons_succ]
      refine wpH.one (i := 12) (by kernel_rfl) ?_
      intro oi ho
      simp only [List.getElem?_toArray, List.getElem?_cons_succ, List.getElem?_cons_zero, Option.some.injEq] at ho
      subst ho
      intro K hK
      have HK := Lib.hid hK
      clear hK
      go_simp
      have S12 := Lib.hid (SBq.out.box (b := wb.heap.size) rfl #[.slice (some ⟨gA, 0, none⟩) (A.length - 1) cA, .slice (some ⟨gB, 0, none⟩) (B.length - 1) cB, .slice (some ⟨bs, 0, none⟩) 1 1] 39)
      have B12 := Lib.hid (BBq.out.alloc (BBq.out.size) (.cells #[.slice (some ⟨gA, 0, none⟩) (A.length - 1) cA, .slice (some ⟨gB, 0, none⟩) (B.length - 1) cB, .slice (some ⟨bs, 0, none⟩) 1 1] 39))
      refine HK.out _ _ (fun _ => FC.out _ B12.out) ?_
      have HS := FC.out _ B12.out
      try simp only [Act.put, List.setIfInBounds_toArray, List.set_cons_zero, List.set_cons_succ]
      refine wpH.one (i := 13) (by kernel_rfl) ?_
      intro oi ho
      simp only [List.getElem?_toArray, List.getElem?_cons_succ, List.getElem?_cons_zero, Option.some.injEq] at ho
      subst ho
      intro K hK
      have HK := Lib.hid hK
      clear hK
      go_simp
      go_at_call 141
      have hoA := own_rowQ (S12.out.owns factE 1) HDA.out
      have hoB := own_rowQ (S12.out.owns factE 3) HDB.out
      refine (concat3 (A.eraseIdx I) (B.eraseIdx J) L gA gB bs _ _ cA cB _ _ _ hoA.2.1 hoB.2.1 (S12.out.block 4) hoA.1 hoB.1 (fact_row5 (S12.out.block 2) (.inr ⟨HBS.out, S12.out.lt 2⟩) ((LT.out.kept B12.out).mono (fun b h h2 => h.elim .inl (fun h => .inr ⟨h, h2⟩))) ((LV.out.kept B12.out).mono (fun b h h2 => h.elim .inl (fun h => .inr ⟨h, h2⟩)))) (fun c h => h.elim (fun h => Nat.lt_of_lt_of_le (HP.out c h) S12.out.bel.size) (fun h => h.2)) (by rw [List.length_eraseIdx_of_lt hIA]; omega) (by rw [List.length_eraseIdx_of_lt hJB]; omega)).mono ?_
      rintro e wf ⟨gf, cf, rfl, of, hbf⟩
      obtain ⟨LEN, hLEN⟩ : ∃ n, n = (A.eraseIdx I ++ B.eraseIdx J ++ [L]).length := ⟨_, rfl⟩
      rw [← hLEN] at of ⊢
      have hof := own_rowQ of (s := b12 + 1) (Nat.le_trans HZ9.out.2.2 B12.out.size)
      have S13 := Lib.hid ((S12.out.step hbf).pick [0])
      have B13 := Lib.hid (Below.step B12.out hbf)
      have HOF := Lib.hid hof
      clear of hbf hoA hoB hof hLEN
      dsimp only
      refine HK.out _ _ (fun _ => FC.out _ B13.out) ?_
      have HS := FC.out _ B13.out
      try simp only [Act.put, List.setIfInBounds_toArray, List.set_cons_zero, List.set_cons_succ]
      refine wpH.one (i := 14) (by kernel_rfl) ?_
      intro oi ho
      simp only [List.getElem?_toArray, List.getElem?_cons_succ, List.getElem?_cons_zero, Option.some.injEq] at ho
      subst ho
      intro K hK
      have HK := Lib.hid hK
      clear hK
      go_simp
      refine HK.out _ _ (fun _ => FC.out _ B13.out) ?_
      have HS := FC.out _ B13.out
      try simp only [Act.put, List.setIfInBounds_toArray, List.set_cons_zero, List.set_cons_succ]
      refine wpH.one (i := 15) (by kernel_rfl) ?_
      intro oi ho
      simp only [List.getElem?_toArray, List.getElem?_cons_succ, List.getElem?_cons_zero, Option.some.injEq] at ho
      subst ho
      intro K hK
      have HK := Lib.hid hK
      clear hK
      obtain ⟨e0, e1⟩ := S13.out.one 0
      have hl3 := S13.out.lt 0
      go_simp
      refine HK.out _ _ (fun h => absurd (by decide) h) ?_
      try simp only [Act.put, List.setIfInBounds_toArray, List.set_cons_zero, List.set_cons_succ]
      refine wpH.one (i := 16) (by kernel_rfl) ?_
      intro oi ho
      simp only [List.getElem?_toArray, List.getElem?_cons_succ, List.getElem?_cons_zero, Option.some.injEq] at ho
      subst ho
      intro K hK
      have HK := Lib.hid hK
      clear hK
      go_simp
      refine HK.out _ _ (fun h => absurd (by decide) h) ?_
      try simp only [Act.put, List.setIfInBounds_toArray, List.set_cons_zero, List.set_cons_succ]
      refine wpH.done (by kernel_rfl) ?_
      have SG := Lib.hid (S13.out.set1 0 rfl (.slice (some ⟨gf, 0, none⟩) LEN cf) (by have := HBX.out; omega) (by simp only [offs, offAll, List.map]))
      clear HS e0 e1
      go_wp2_with fail
      refine bodyPost_ret (v := .tuple #[.agg #[.slice (some ⟨gf, 0, none⟩) LEN cf], .int .i64 0]) ?_ rfl ?_
      · obtain ⟨q0, _⟩ := SG.out.one 0
        simp [results, Try.results111, go_sem, q0]
      · unfold RightP
        rw [HRF.out]
        refine ⟨some ⟨gf, 0, none⟩, cf - (A.eraseIdx I ++ B.eraseIdx J ++ [L]).length, by show Ending.returned (Value.tuple #[.agg #[.slice _ LEN cf], _]) = Ending.returned (Value.tuple #[.agg #[.slice _ (A.eraseIdx I ++ B.eraseIdx J ++ [L]).length ((A.eraseIdx I ++ B.eraseIdx J ++ [L]).length + (cf - (A.eraseIdx I ++ B.eraseIdx J ++ [L]).length))], _]); rw [Nat.add_sub_cancel' HOF.out.2.2, ← HOF.out.2.1], HOF.out.1.keep (fun b h1 h2 => ⟨Below.heap_setCell _ _ _ _ (by show b ≠ bx + 3; intro e; have hz := HZ9.out; have hb := HBX.out; rcases h1 with (h1 | h1) | h1; have := HP.out b h1; omega; omega; omega), by have hz := HZ9.out; have hb := HBX.out; rcases h1 with (h1 | h1) | h1; exact .inl h1; exact .inr (by omega); exact .inr (by omega)⟩), SG.out.bel⟩
  · intro oi ho
    simp only [List.getElem?_toArray, List.getElem?_cons_succ, List.getElem?_cons_zero, Option.some.injEq] at ho
    subst ho
    intro K hK
    have HK := Lib.hid hK
    clear hK
    go_simp
    have SS := Lib.hid (SD.out.box (b := wc.heap.size) rfl #[.bool L.neg, .int .i64 L.l.head, .slice k1 L.l.kids.length (L.l.kids.length + s1), .int .i64 L.r.head, .slice k2 L.r.kids.length (L.r.kids.length + s2)] 62)
    have BS := Lib.hid (B0.out.alloc (B0.out.size) (.cells #[.bool L.neg, .int .i64 L.l.head, .slice k1 L.l.kids.length (L.l.kids.length + s1), .int .i64 L.r.head, .slice k2 L.r.kids.length (L.r.kids.length + s2)] 62))
    refine HK.out _ _ (fun _ => FC.out _ BS.out) ?_
    have HS := FC.out _ BS.out
    try simp only [Act.put, List.setIfInBounds_toArray, List.set_cons_zero, List.set_cons_succ]
    obtain ⟨bs, hbs⟩ : ∃ b, b = wc.heap.size := ⟨_, rfl⟩
    rw [← hbs] at SS ⊢
    have SS' := SS.out
    clear SS
    have SS : St w ((wc.alloc (.cells #[.bool L.neg, .int .i64 L.l.head, .slice k1 L.l.kids.length (L.l.kids.length + s1), .int .i64 L.r.head, .slice k2 L.r.kids.length (L.r.kids.length + s2)] 62)).drew) _ := SS'
    replace SS := Lib.hid SS
    clear SS'
    replace BS : Hid (Below wc.heap.size wc ((wc.alloc (.cells #[.bool L.neg, .int .i64 L.l.head, .slice k1 L.l.kids.length (L.l.kids.length + s1), .int .i64 L.r.head, .slice k2 L.r.kids.length (L.r.kids.length + s2)] 62)).drew)) := BS
    have HBS := Lib.hid (show b12 + 1 ≤ bs by rw [hbs]; exact Nat.le_trans HZ9.out.2.2 B0.out.size)
    clear HS
    generalize (wc.alloc (.cells #[.bool L.neg, .int .i64 L.l.head, .slice k1 L.l.kids.length (L.l.kids.length + s1), .int .i64 L.r.head, .slice k2 L.r.kids.length (L.r.kids.length + s2)] 62)).drew = WS at SS BS ⊢
    have HS := FC.out _ BS.out
    clear hbs
    refine wpH.one (i := 4) (by kernel_rfl) ?_
    intro oi ho
    simp only [List.getElem?_toArray, List.getElem?_cons_succ, List.getElem?_cons_zero, Option.some.injEq] at ho
    subst ho
    intro K hK
    have HK := Lib.hid hK
    clear hK
    go_simp
    go_at_call 142
    refine (without142 A p _ _ I _ (HA.out.kept SS.out.bel) (fun b hb => Nat.lt_of_lt_of_le (HP.out b hb) SS.out.bel.size) hIA' (by omega)).mono ?_
    rintro e wa ⟨gA, cA, rfl, oA, hbA⟩
    have SA := Lib.hid ((SS.out.step hbA).add (.owns factE _ p (.slice (some ⟨gA, 0, none⟩) (A.length - 1) cA) (A.eraseIdx I)) oA)
    have BA := Lib.hid (Below.step BS.out hbA)
    have HDA := Lib.hid (Nat.le_trans HZ9.out.2.2 BS.out.size)
    clear oA hbA
    dsimp only
    refine HK.out _ _ (fun _ => FC.out _ BA.out) ?_
    have HS := FC.out _ BA.out
    try simp only [Act.put, List.setIfInBounds_toArray, List.set_cons_zero, List.set_cons_succ]
    refine wpH.one (i := 9) (by kernel_rfl) ?_
    intro oi ho
    simp only [List.getElem?_toArray, List.getElem?_cons_succ, List.getElem?_cons_zero, Option.some.injEq] at ho
    subst ho
    intro K hK
    have HK := Lib.hid hK
    clear hK
    go_simp
    go_at_call 142
    refine (without142 B p _ _ J _ (HB.out.kept SA.out.bel) (fun b hb => Nat.lt_of_lt_of_le (HP.out b hb) SA.out.bel.size) hJB' (by omega)).mono ?_
    rintro e wb ⟨gB, cB, rfl, oB, hbB⟩
    have SBq := Lib.hid ((SA.out.step hbB).add (.owns factE _ p (.slice (some ⟨gB, 0, none⟩) (B.length - 1) cB) (B.eraseIdx J)) oB)
    have BBq := Lib.hid (Below.step BA.out hbB)
    have HDB := Lib.hid (Nat.le_trans HZ9.out.2.2 BA.out.size)
    clear oB hbB
    dsimp only
    refine HK.out _ _ (fun _ => FC.out _ BBq.out) ?_
    have HS := FC.out _ BBq.out
    try simp only [Act.put, List.setIfInBounds_toArray, List.set_cons_zero, List.set_cons_succ]
    refine wpH.one (i := 12) (by kernel_rfl) ?_
    intro oi ho
    simp only [List.getElem?_toArray, List.getElem?_cons_succ, List.getElem?_cons_zero, Option.some.injEq] at ho
    subst ho
    intro K hK
    have HK := Lib.hid hK
    clear hK
    go_simp
    have S12 := Lib.hid (SBq.out.box (b := wb.heap.size) rfl #[.slice (some ⟨gA, 0, none⟩) (A.length - 1) cA, .slice (some ⟨gB, 0, none⟩) (B.length - 1) cB, .slice (some ⟨bs, 0, none⟩) 1 1] 39)
    have B12 := Lib.hid (BBq.out.alloc (BBq.out.size) (.cells #[.slice (some ⟨gA, 0, none⟩) (A.length - 1) cA, .slice (some ⟨gB, 0, none⟩) (B.length - 1) cB, .slice (some ⟨bs, 0, none⟩) 1 1] 39))
    refine HK.out _ _ (fun _ => FC.out _ B12.out) ?_
    have HS := FC.out _ B12.out
    try simp only [Act.put, List.setIfInBounds_toArray, List.set_cons_zero, List.set_cons_succ]
    refine wpH.one (i := 13) (by kernel_rfl) ?_
    intro oi ho
    simp only [List.getElem?_toArray, List.getElem?_cons_succ, List.getElem?_cons_zero, Option.some.injEq] at ho
    subst ho
    intro K hK
    have HK := Lib.hid hK
    clear hK
    go_simp
    go_at_call 141
    have hoA := own_rowQ (S12.out.owns factE 2) HDA.out
    have hoB := own_rowQ (S12.out.owns factE 3) HDB.out
    refine (concat3 (A.eraseIdx I) (B.eraseIdx J) L gA gB bs _ _ cA cB _ _ _ hoA.2.1 hoB.2.1 (S12.out.block 4) hoA.1 hoB.1 (fact_row5 (S12.out.block 1) (.inr ⟨HBS.out, S12.out.lt 1⟩) ((LT.out.kept B12.out).mono (fun b h h2 => h.elim .inl (fun h => .inr ⟨h, h2⟩))) ((LV.out.kept B12.out).mono (fun b h h2 => h.elim .inl (fun h => .inr ⟨h, h2⟩)))) (fun c h => h.elim (fun h => Nat.lt_of_lt_of_le (HP.out c h) S12.out.bel.size) (fun h => h.2)) (by rw [List.length_eraseIdx_of_lt hIA]; omega) (by rw [List.length_eraseIdx_of_lt hJB]; omega)).mono ?_
    rintro e wf ⟨gf, cf, rfl, of, hbf⟩
    obtain ⟨LEN, hLEN⟩ : ∃ n, n = (A.eraseIdx I ++ B.eraseIdx J ++ [L]).length := ⟨_, rfl⟩
    rw [← hLEN] at of ⊢
    have hof := own_rowQ of (s := b12 + 1) (Nat.le_trans HZ9.out.2.2 B12.out.size)
    have S13 := Lib.hid ((S12.out.step hbf).pick [0])
    have B13 := Lib.hid (Below.step B12.out hbf)
    have HOF := Lib.hid hof
    clear of hbf hoA hoB hof hLEN
    dsimp only
    refine HK.out _ _ (fun _ => FC.out _ B13.out) ?_
    have HS := FC.out _ B13.out
    try simp only [Act.put, List.setIfInBounds_toArray, List.set_cons_zero, List.set_cons_succ]
    refine wpH.one (i := 14) (by kernel_rfl) ?_
    intro oi ho
    simp only [List.getElem?_toArray, List.getElem?_cons_succ, List.getElem?_cons_zero, Option.some.injEq] at ho
    subst ho
    intro K hK
    have HK := Lib.hid hK
    clear hK
    go_simp
    refine HK.out _ _ (fun _ => FC.out _ B13.out) ?_
    have HS := FC.out _ B13.out
    try simp only [Act.put, List.setIfInBounds_toArray, List.set_cons_zero, List.set_cons_succ]
    refine wpH.one (i := 15) (by kernel_rfl) ?_
    intro oi ho
    simp only [List.getElem?_toArray, List.getElem?_cons_succ, List.getElem?_cons_zero, Option.some.injEq] at ho
    subst ho
    intro K hK
    have HK := Lib.hid hK
    clear hK
    obtain ⟨e0, e1⟩ := S13.out.one 0
    have hl3 := S13.out.lt 0
    go_simp
    refine HK.out _ _ (fun h => absurd (by decide) h) ?_
    try simp only [Act.put, List.setIfInBounds_toArray, List.set_cons_zero, List.set_cons_succ]
    refine wpH.one (i := 16) (by kernel_rfl) ?_
    intro oi ho
    simp only [List.getElem?_toArray, List.getElem?_cons_succ, List.getElem?_cons_zero, Option.some.injEq] at ho
    subst ho
    intro K hK
    have HK := Lib.hid hK
    clear hK
    go_simp
    refine HK.out _ _ (fun h => absurd (by decide) h) ?_
    try simp only [Act.put, List.setIfInBounds_toArray, List.set_cons_zero, List.set_cons_succ]
    refine wpH.done (by kernel_rfl) ?_
    have SG := Lib.hid (S13.out.set1 0 rfl (.slice (some ⟨gf, 0, none⟩) LEN cf) (by have := HBX.out; omega) (by simp only [offs, offAll, List.map]))
    clear HS e0 e1
    go_wp2_with fail
    refine bodyPost_ret (v := .tuple #[.agg #[.slice (some ⟨gf, 0, none⟩) LEN cf], .int .i64 0]) ?_ rfl ?_
    · obtain ⟨q0, _⟩ := SG.out.one 0
      simp [results, Try.results111, go_sem, q0]
    · unfold RightP
      rw [HRF.out]
      refine ⟨some ⟨gf, 0, none⟩, cf - (A.eraseIdx I ++ B.eraseIdx J ++ [L]).length, by show Ending.returned (Value.tuple #[.agg #[.slice _ LEN cf], _]) = Ending.returned (Value.tuple #[.agg #[.slice _ (A.eraseIdx I ++ B.eraseIdx J ++ [L]).length ((A.eraseIdx I ++ B.eraseIdx J ++ [L]).length + (cf - (A.eraseIdx I ++ B.eraseIdx J ++ [L]).length))], _]); rw [Nat.add_sub_cancel' HOF.out.2.2, ← HOF.out.2.1], HOF.out.1.keep (fun b h1 h2 => ⟨Below.heap_setCell _ _ _ _ (by show b ≠ bx + 3; intro e; have hz := HZ9.out; have hb := HBX.out; rcases h1 with (h1 | h1) | h1; have := HP.out b h1; omega; omega; omega), by have hz := HZ9.out; have hb := HBX.out; rcases h1 with (h1 | h1) | h1; exact .inl h1; exact .inr (by omega); exact .inr (by omega)⟩), SG.out.bel⟩
end Go.Proofs.Ytlhnfdjidjgfgaa
