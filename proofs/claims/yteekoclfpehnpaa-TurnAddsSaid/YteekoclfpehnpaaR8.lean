/-
  Walks: the law TurnAdds.
-/
import Derived.Test.YteekoclfpehnpaaProg
import Derived.Test.YteekoclfpehnpaaR7
import Derived.Test.YteekoclfpehnpaaT3
namespace Go.Proofs.Yteekoclfpehnpaa
open Go.RowKit Go.Shelf
set_option linter.unusedVariables false
set_option maxHeartbeats 400000

theorem evAll (a b : Nat) (ha : a ≤ 5) (hb : b ≤ 5) : doR addRs (plusT a b) 100 = (1, numT (a + b), (0, 0)) := by
  rcases (show a = 0 ∨ a = 1 ∨ a = 2 ∨ a = 3 ∨ a = 4 ∨ a = 5 by omega) with rfl | rfl | rfl | rfl | rfl | rfl <;>
    rcases (show b = 0 ∨ b = 1 ∨ b = 2 ∨ b = 3 ∨ b = 4 ∨ b = 5 by omega) with rfl | rfl | rfl | rfl | rfl | rfl <;> kernel_rfl
theorem St.ruled {P : Program} {n : Nat} {a : Array Value} {w0 w : World} {l : List Fct} (S : St w0 w l) {B : Nat} (hB : B ≤ w.heap.size) {rs : List Ru} (h : Calls P n a w fun e w' => ∃ ro, e = .returned (.slice ro rs.length rs.length) ∧ ruleE.Row (fun b => w.heap.size ≤ b) w' ro rs ∧ Below w.heap.size w w') :
    Calls P n a w fun e w' => ∃ ro, e = .returned (.slice ro rs.length rs.length) ∧ w.heap.size ≤ w'.heap.size ∧ St w0 w' (fsnoc l (.rowE ruleE (fun b => B ≤ b) ro rs)) :=
  h.mono fun e w' ⟨ro, h1, h2, h3⟩ => ⟨ro, h1, h3.size, (S.step h3).add (.rowE ruleE _ ro rs) (h2.mono (fun b h _ => Nat.le_trans hB h))⟩

set_option maxRecDepth 100000 in
set_option maxHeartbeats 4000000 in
theorem turnAdds7 (a b : Int) (w : World) : Calls Try.prog 7 #[.int .i64 a, .int .i64 b] w fun e w' => e = .returned (.bool true) ∧ Below w.heap.size w w' := by
  obtain ⟨rs, hrs⟩ : ∃ r, r = addRs := ⟨_, rfl⟩
  have HAD : ∀ W, Calls Try.prog 38 #[] W fun e w' => ∃ ro, e = .returned (.slice ro rs.length rs.length) ∧ ruleE.Row (fun b => W.heap.size ≤ b) w' ro rs ∧ Below W.heap.size W w' := fun W => by rw [hrs]; exact adding38 W
  have hrl : rs.length ≤ 1000000 := by rw [hrs]; decide
  obtain ⟨N1, hN1⟩ : ∃ r, r = numT 1 := ⟨_, rfl⟩
  have HN1 : ∀ W, Calls Try.prog 40 #[.int .i64 1] W (OneP (fun _ => False) N1 W) := fun W => by rw [hN1]; exact number40 1 (by omega) W
  obtain ⟨R, hR⟩ : ∃ r, r = numT 2 := ⟨_, rfl⟩
  have HN2 : ∀ W, Calls Try.prog 40 #[.int .i64 2] W (OneP (fun _ => False) R W) := fun W => by rw [hR]; exact number40 2 (by omega) W
  obtain ⟨P1, hP1⟩ : ∃ r, r = plusT 1 1 := ⟨_, rfl⟩
  have HT1 : ∀ W p0 v u, (∀ b, p0 b → b < W.heap.size) → TreeP p0 W v N1 → TreeP p0 W u N1 → Calls Try.prog 39 #[.int .i64 3, v, u] W (OneP p0 P1 W) := fun W p0 v u hp h1 h2 => by rw [hP1]; unfold plusT; rw [← hN1]; exact two39 p0 3 N1 N1 v u W hp h1 h2
  have HD1 : ∀ W p0 v ao, (∀ b, p0 b → b < W.heap.size) → ruleE.Row p0 W ao rs → TreeP p0 W v P1 → Calls Try.prog 37 #[.slice ao rs.length rs.length, v, .int .i64 50] W (DoRP (1, R, (0, 0)) W) := fun W p0 v ao hp hr ht => by
    have h := do37 rs P1 50 p0 v ao rs.length W hp hr ht hrl
    rw [show doR rs P1 50 = (1, R, (0, 0)) by rw [hrs, hP1, hR]; exact ev11] at h
    exact h
  have HRS := Lib.hid hrs
  clear hN1 hR hP1
  obtain ⟨Rc, hRc⟩ : ∃ r, r = R := ⟨_, rfl⟩
  have HN2 : ∀ W, Calls Try.prog 40 #[.int .i64 2] W (OneP (fun _ => False) Rc W) := fun W => by rw [hRc]; exact HN2 W
  have HEQR := Lib.hid (show decide (R = Rc) = true by rw [hRc]; simp)
  clear hRc hrs
  have S0 := St.start w
  go_enter Try.func7, Try.ntmps7
  go_wp2_with fail
  refine (S0.ruled (B := w.heap.size) S0.bel.size (HAD w)).mono ?_
  rintro e ca ⟨cro, rfl, cza, cSa⟩
  go_wp2_with fail
  refine (cSa.oned (B := w.heap.size) cSa.bel.size (fun b h => h.elim) (HN1 ca)).mono ?_
  rintro e cb ⟨ck1, cs1, rfl, czb, cSb⟩
  go_wp2_with fail
  refine (cSb.oned (B := w.heap.size) cSb.bel.size (fun b h => h.elim) (HN1 cb)).mono ?_
  rintro e cc ⟨ck2, cs2, rfl, czc, cSc⟩
  go_wp2_with fail
  refine (cSc.oned (B := w.heap.size) cSc.bel.size (fun b h => h.1) (HT1 cc (fun b => w.heap.size ≤ b ∧ b < cc.heap.size) _ _ (fun b h => h.2) ((St.treeP cSc 1 (p := fun b => w.heap.size ≤ b) rfl).mono (fun b h hl => ⟨h, hl⟩)) ((St.treeP cSc 2 (p := fun b => w.heap.size ≤ b) rfl).mono (fun b h hl => ⟨h, hl⟩)))).mono ?_
  rintro e cd ⟨ck3, cs3, rfl, czd, cSd⟩
  go_wp2_with fail
  refine (HD1 cd (fun b => w.heap.size ≤ b ∧ b < cd.heap.size) _ cro (fun b h => h.2) ((cSd.rowE ruleE 0 (p := fun b => w.heap.size ≤ b) rfl).mono (fun b h hl => ⟨h, hl⟩)) ((St.treeP cSd 3 (p := fun b => w.heap.size ≤ b) rfl).mono (fun b h hl => ⟨h, hl⟩))).mono ?_
  rintro e ce ⟨cu, rfl, chu, chb⟩
  obtain ⟨cuk, cus, rfl⟩ := chu.at.form
  simp only [FV]
  have czf := chb.size
  have cSe := (cSd.step chb).add (.treeP (fun b => w.heap.size ≤ b) (.agg #[.int .i64 R.head, .slice cuk R.kids.length (R.kids.length + cus)]) R) (chu.mono (fun b h _ => by have h : cd.heap.size ≤ b := h; omega))
  clear chu chb
  obtain ⟨b6, hb6⟩ : ∃ b, b = ce.heap.size := ⟨_, rfl⟩
  have S : St w ((ce.alloc (.cells #[.int .i64 R.head, .slice cuk R.kids.length (R.kids.length + cus)] 44)).alloc (.cells #[.int .i64 0, .int .i64 0] 32)) [.box b6 #[.int .i64 R.head, .slice cuk R.kids.length (R.kids.length + cus)] 44, .box (b6 + 1) #[.int .i64 0, .int .i64 0] 32, .treeP (fun b => w.heap.size ≤ b) (.agg #[.int .i64 R.head, .slice cuk R.kids.length (R.kids.length + cus)]) R] := ((cSe.box hb6.symm #[.int .i64 R.head, .slice cuk R.kids.length (R.kids.length + cus)] 44).box (b := b6 + 1) (by simp [hb6]) #[.int .i64 0, .int .i64 0] 32).pick [5, 6, 4]
  have hz6 : b6 + 2 ≤ ((ce.alloc (.cells #[.int .i64 R.head, .slice cuk R.kids.length (R.kids.length + cus)] 44)).alloc (.cells #[.int .i64 0, .int .i64 0] 32)).heap.size := by simp [hb6]
  have HB6 := Lib.hid (show w.heap.size ≤ b6 by have := cSe.bel.size; omega)
  clear cSe cSd cSc cSb cSa S0
  go_wp2_with fail
  rw [← hb6]
  refine S.genC (z := b6 + 2) hz6 ?_
  intro v0 vz0 S
  clear hz6 hb6
  have SD := S.drew
  clear S
  refine wpG_region 12 (fun W => W.cell? ⟨b6, 0, none⟩ = some (.int .i64 R.head) ∧ W.cell? ⟨b6, 1, none⟩ = some (.slice cuk R.kids.length (R.kids.length + cus)) ∧ W.cell? ⟨b6 + 1, 0, none⟩ = some (.int .i64 0)) (by kernel_rfl) ?_
  have HS := And.intro (SD.two 0).1.1 (And.intro (SD.two 0).2.1 (SD.two 1).1.1)
  refine wpG.take (i := 0) (by kernel_rfl) (by kernel_rfl) (by kernel_rfl) (by kernel_rfl) (by kernel_rfl) HS ?_
  intro oi ho
  simp only [List.getElem?_toArray, List.getElem?_cons_zero, Option.some.injEq] at ho
  subst ho
  refine ⟨?_, Or.inl ⟨by rfl, ?_⟩, fun _ _ _ h => h, ?_⟩
  rotate_left 1
  · intro W hW
    try dsimp only at hW
    go_simp
    try with_reducible rfl
  simp only [Act.put, List.setIfInBounds_toArray, List.set_cons_zero, List.set_cons_succ]
  refine wpG.take (i := 1) (by kernel_rfl) (by kernel_rfl) (by kernel_rfl) (by kernel_rfl) (by kernel_rfl) HS ?_
  intro oi ho
  simp only [List.getElem?_toArray, List.getElem?_cons_succ, List.getElem?_cons_zero, Option.some.injEq] at ho
  subst ho
  refine ⟨?_, Or.inl ⟨by rfl, ?_⟩, fun _ _ _ h => h, ?_⟩
  rotate_left 1
  · intro W hW
    try dsimp only at hW
    go_simp
    try with_reducible rfl
  simp only [Act.put, List.setIfInBounds_toArray, List.set_cons_zero, List.set_cons_succ]
  refine wpG.take (i := 2) (by kernel_rfl) (by kernel_rfl) (by kernel_rfl) (by kernel_rfl) (by kernel_rfl) HS ?_
  intro oi ho
  simp only [List.getElem?_toArray, List.getElem?_cons_succ, List.getElem?_cons_zero, Option.some.injEq] at ho
  subst ho
  refine ⟨?_, Or.inl ⟨by rfl, ?_⟩, fun _ _ _ h => h, ?_⟩
  rotate_left 1
  · intro W hW
    try dsimp only at hW
    go_simp
    try with_reducible rfl
  simp only [Act.put, List.setIfInBounds_toArray, List.set_cons_zero, List.set_cons_succ]
  refine wpG.take (i := 3) (by kernel_rfl) (by kernel_rfl) (by kernel_rfl) (by kernel_rfl) (by kernel_rfl) HS ?_
  intro oi ho
  simp only [List.getElem?_toArray, List.getElem?_cons_succ, List.getElem?_cons_zero, Option.some.injEq] at ho
  subst ho
  refine ⟨?_, Or.inl ⟨by rfl, ?_⟩, fun _ _ _ h => h, ?_⟩
  rotate_left 1
  · intro W hW
    try dsimp only at hW
    go_simp
    try with_reducible rfl
  simp only [Act.put, List.setIfInBounds_toArray, List.set_cons_zero, List.set_cons_succ]
  refine wpG.take (i := 4) (by kernel_rfl) (by kernel_rfl) (by kernel_rfl) (by kernel_rfl) (by kernel_rfl) HS ?_
  intro oi ho
  simp only [List.getElem?_toArray, List.getElem?_cons_succ, List.getElem?_cons_zero, Option.some.injEq] at ho
  subst ho
  refine ⟨?_, Or.inl ⟨by rfl, ?_⟩, fun _ _ _ h => h, ?_⟩
  rotate_left 1
  · intro W hW
    try dsimp only at hW
    go_simp
    try with_reducible rfl
  simp only [Act.put, List.setIfInBounds_toArray, List.set_cons_zero, List.set_cons_succ]
  refine wpG.take (i := 5) (by kernel_rfl) (by kernel_rfl) (by kernel_rfl) (by kernel_rfl) (by kernel_rfl) HS ?_
  intro oi ho
  simp only [List.getElem?_toArray, List.getElem?_cons_succ, List.getElem?_cons_zero, Option.some.injEq] at ho
  subst ho
  refine ⟨?_, Or.inl ⟨by rfl, ?_⟩, fun _ _ _ h => h, ?_⟩
  rotate_left 1
  · intro W hW
    try dsimp only at hW
    go_simp
    try with_reducible rfl
  simp only [Act.put, List.setIfInBounds_toArray, List.set_cons_zero, List.set_cons_succ]
  refine wpG.take (i := 6) (by kernel_rfl) (by kernel_rfl) (by kernel_rfl) (by kernel_rfl) (by kernel_rfl) HS ?_
  intro oi ho
  simp only [List.getElem?_toArray, List.getElem?_cons_succ, List.getElem?_cons_zero, Option.some.injEq] at ho
  subst ho
  refine ⟨?_, Or.inl ⟨by rfl, ?_⟩, fun _ _ _ h => h, ?_⟩
  rotate_left 1
  · intro W hW
    try dsimp only at hW
    go_simp
    try with_reducible rfl
  simp only [Act.put, List.setIfInBounds_toArray, List.set_cons_zero, List.set_cons_succ]
  refine wpG.take (i := 7) (by kernel_rfl) (by kernel_rfl) (by kernel_rfl) (by kernel_rfl) (by kernel_rfl) HS ?_
  intro oi ho
  simp only [List.getElem?_toArray, List.getElem?_cons_succ, List.getElem?_cons_zero, Option.some.injEq] at ho
  subst ho
  refine ⟨?_, Or.inl ⟨by rfl, ?_⟩, fun _ _ _ h => h, ?_⟩
  rotate_left 1
  · intro W hW
    try dsimp only at hW
    go_simp
    try with_reducible rfl
  simp only [Act.put, List.setIfInBounds_toArray, List.set_cons_zero, List.set_cons_succ]
  refine wpG.take (i := 8) (by kernel_rfl) (by kernel_rfl) (by kernel_rfl) (by kernel_rfl) (by kernel_rfl) HS ?_
  intro oi ho
  simp only [List.getElem?_toArray, List.getElem?_cons_succ, List.getElem?_cons_zero, Option.some.injEq] at ho
  subst ho
  refine ⟨?_, Or.inl ⟨by rfl, ?_⟩, fun _ _ _ h => h, ?_⟩
  rotate_left 1
  · intro W hW
    try dsimp only at hW
    go_simp
    try with_reducible rfl
  simp only [Act.put, List.setIfInBounds_toArray, List.set_cons_zero, List.set_cons_succ]
  refine wpG.one (i := 9) (by kernel_rfl) ?_
  intro oi ho
  simp only [List.getElem?_toArray, List.getElem?_cons_succ, List.getElem?_cons_zero, Option.some.injEq] at ho
  subst ho
  intro K hK
  have HK := Lib.hid hK
  have HSH := Lib.hid HS
  clear hK HS
  go_simp
  go_at_call 40
  refine (SD.oned (B := w.heap.size) SD.bel.size (fun b h => h.elim) (HN2 _)).mono ?_
  rintro e d1 ⟨dnk, dns, rfl, dz1, dS1⟩
  dsimp only
  refine HK.out _ _ (fun _ => And.intro (dS1.two 0).1.1 (And.intro (dS1.two 0).2.1 (dS1.two 1).1.1)) ?_
  have HS := And.intro (dS1.two 0).1.1 (And.intro (dS1.two 0).2.1 (dS1.two 1).1.1)
  try simp only [Act.put, List.setIfInBounds_toArray, List.set_cons_zero, List.set_cons_succ]
  refine wpG.one (i := 10) (by kernel_rfl) ?_
  intro oi ho
  simp only [List.getElem?_toArray, List.getElem?_cons_succ, List.getElem?_cons_zero, Option.some.injEq] at ho
  subst ho
  intro K hK
  have HK := Lib.hid hK
  have HSH := Lib.hid HS
  clear hK HS
  go_simp
  go_at_call 41
  refine (dS1.quiet (same22 R Rc _ _ d1 (St.treeP dS1 2 (p := fun b => w.heap.size ≤ b) rfl).at (St.treeP dS1 3 (p := fun b => w.heap.size ≤ b) rfl).at)).mono ?_
  rintro e d2 ⟨rfl, dz2, dS2⟩
  dsimp only
  rw [HEQR.out]
  refine HK.out _ _ (fun _ => And.intro (dS2.two 0).1.1 (And.intro (dS2.two 0).2.1 (dS2.two 1).1.1)) ?_
  have HS := And.intro (dS2.two 0).1.1 (And.intro (dS2.two 0).2.1 (dS2.two 1).1.1)
  try simp only [Act.put, List.setIfInBounds_toArray, List.set_cons_zero, List.set_cons_succ]
  refine wpG.take (i := 11) (by kernel_rfl) (by kernel_rfl) (by kernel_rfl) (by kernel_rfl) (by kernel_rfl) HS ?_
  intro oi ho
  simp only [List.getElem?_toArray, List.getElem?_cons_succ, List.getElem?_cons_zero, Option.some.injEq] at ho
  subst ho
  refine ⟨?_, Or.inl ⟨by rfl, ?_⟩, fun _ _ _ h => h, ?_⟩
  rotate_left 1
  · intro W hW
    try dsimp only at hW
    go_simp
    try with_reducible rfl
  simp only [Act.put, List.setIfInBounds_toArray, List.set_cons_zero, List.set_cons_succ]
  refine wpG.one (i := 12) (by kernel_rfl) ?_
  intro oi ho
  simp only [List.getElem?_toArray, List.getElem?_cons_succ, List.getElem?_cons_zero, Option.some.injEq] at ho
  subst ho
  intro K hK
  have HK := Lib.hid hK
  have HSH := Lib.hid HS
  clear hK HS
  go_simp
  refine HK.out _ _ (fun h => absurd rfl h) ?_
  try simp only [Act.put, List.setIfInBounds_toArray, List.set_cons_zero, List.set_cons_succ]
  refine wpG.done (by kernel_rfl) ?_
  have HS2 := dS2.pick [0, 1, 2]
  have hzd : v0.drew.heap.size = v0.heap.size := rfl
  have zd2 : b6 + 2 ≤ d2.heap.size := by omega
  clear dS1 dS2 SD
  by_cases ha : 0 ≤ a ∧ a ≤ 5
  · by_cases hb : 0 ≤ b ∧ b ≤ 5
    · have HDA := Lib.hid (show decide (0 ≤ a ∧ a ≤ 5) = true from decide_eq_true ha)
      have HDB := Lib.hid (show decide (0 ≤ b ∧ b ≤ 5) = true from decide_eq_true hb)
      obtain ⟨n, rfl⟩ : ∃ n : Nat, a = n := ⟨a.toNat, by omega⟩
      obtain ⟨m, rfl⟩ : ∃ n : Nat, b = n := ⟨b.toNat, by omega⟩
      have hn5 : n ≤ 5 := by omega
      have hm5 : m ≤ 5 := by omega
      obtain ⟨NA, hNA⟩ : ∃ r, r = numT n := ⟨_, rfl⟩
      obtain ⟨NB, hNB⟩ : ∃ r, r = numT m := ⟨_, rfl⟩
      obtain ⟨PP, hPP⟩ : ∃ r, r = plusT n m := ⟨_, rfl⟩
      obtain ⟨RR, hRR⟩ : ∃ r, r = numT (n + m) := ⟨_, rfl⟩
      obtain ⟨RRc, hRRc⟩ : ∃ r, r = RR := ⟨_, rfl⟩
      have HNA : ∀ W, Calls Try.prog 40 #[.int .i64 (n : Int)] W (OneP (fun _ => False) NA W) := fun W => by rw [hNA]; exact number40 n (by omega) W
      have HNB : ∀ W, Calls Try.prog 40 #[.int .i64 (m : Int)] W (OneP (fun _ => False) NB W) := fun W => by rw [hNB]; exact number40 m (by omega) W
      have HNS : ∀ W, Calls Try.prog 40 #[.int .i64 (IntKind.i64.wrap ((n : Int) + (m : Int)))] W (OneP (fun _ => False) RRc W) := fun W => by rw [IntWalk.i64_in _ (by omega), hRRc, hRR]; have := number40 (n + m) (by omega) W; rwa [Int.natCast_add] at this
      have HTT : ∀ W p0 v u, (∀ b, p0 b → b < W.heap.size) → TreeP p0 W v NA → TreeP p0 W u NB → Calls Try.prog 39 #[.int .i64 3, v, u] W (OneP p0 PP W) := fun W p0 v u hp h1 h2 => by rw [hPP]; unfold plusT; rw [← hNA, ← hNB]; exact two39 p0 3 NA NB v u W hp h1 h2
      have HDD : ∀ W p0 v ao, (∀ b, p0 b → b < W.heap.size) → ruleE.Row p0 W ao rs → TreeP p0 W v PP → Calls Try.prog 37 #[.slice ao rs.length rs.length, v, .int .i64 100] W (DoRP (1, RR, (0, 0)) W) := fun W p0 v ao hp hr ht => by
        have h := do37 rs PP 100 p0 v ao rs.length W hp hr ht hrl
        rw [show doR rs PP 100 = (1, RR, (0, 0)) by rw [HRS.out, hPP, hRR]; exact evAll n m hn5 hm5] at h
        exact h
      have HEQRR := Lib.hid (show decide (RR = RRc) = true by rw [hRRc]; simp)
      clear hNA hNB hPP hRR hRRc ha hb
      go_wp2_with fail
      refine (in28 n 0 5 _).mono ?_
      rintro e W ⟨rfl, rfl⟩
      rw [HDA.out]
      go_wp2_with fail
      refine (in28 m 0 5 _).mono ?_
      rintro e W ⟨rfl, rfl⟩
      rw [HDB.out]
      go_wp2_with fail
      refine (HS2.ruled (B := w.heap.size) HS2.bel.size (HAD _)).mono ?_
      rintro e fa ⟨fro, rfl, fza, fSa⟩
      go_wp2_with fail
      refine (fSa.oned (B := w.heap.size) fSa.bel.size (fun b h => h.elim) (HNA fa)).mono ?_
      rintro e fb ⟨fk1, fs1, rfl, fzb, fSb⟩
      go_wp2_with fail
      refine (fSb.oned (B := w.heap.size) fSb.bel.size (fun b h => h.elim) (HNB fb)).mono ?_
      rintro e fc ⟨fk2, fs2, rfl, fzc, fSc⟩
      go_wp2_with fail
      refine (fSc.oned (B := w.heap.size) fSc.bel.size (fun b h => h.1) (HTT fc (fun b => w.heap.size ≤ b ∧ b < fc.heap.size) _ _ (fun b h => h.2) ((St.treeP fSc 4 (p := fun b => w.heap.size ≤ b) rfl).mono (fun b h hl => ⟨h, hl⟩)) ((St.treeP fSc 5 (p := fun b => w.heap.size ≤ b) rfl).mono (fun b h hl => ⟨h, hl⟩)))).mono ?_
      rintro e fd ⟨fk3, fs3, rfl, fzd, fSd⟩
      go_wp2_with fail
      refine (HDD fd (fun b => w.heap.size ≤ b ∧ b < fd.heap.size) _ fro (fun b h => h.2) ((fSd.rowE ruleE 3 (p := fun b => w.heap.size ≤ b) rfl).mono (fun b h hl => ⟨h, hl⟩)) ((St.treeP fSd 6 (p := fun b => w.heap.size ≤ b) rfl).mono (fun b h hl => ⟨h, hl⟩))).mono ?_
      rintro e fe ⟨fu, rfl, fhu, fhb⟩
      obtain ⟨fuk, fus, rfl⟩ := fhu.at.form
      simp only [FV]
      have fzf := fhb.size
      have fSe := (fSd.step fhb).add (.treeP (fun b => b6 + 2 ≤ b) (.agg #[.int .i64 RR.head, .slice fuk RR.kids.length (RR.kids.length + fus)]) RR) (fhu.mono (fun b h _ => by have h : fd.heap.size ≤ b := h; omega))
      clear fhu fhb
      have S := fSe.pick [0, 1, 7]
      obtain ⟨⟨x0, x1⟩, x2, x3⟩ := S.two 0
      obtain ⟨⟨y0, y1⟩, y2, y3⟩ := S.two 1
      have hl0 := S.lt 0
      have hl1 := S.lt 1
      have hb6 := HB6.out
      have S : St w _ [.box b6 #[.int .i64 RR.head, .slice fuk RR.kids.length (RR.kids.length + fus)] 44, .box (b6 + 1) #[.int .i64 0, .int .i64 0] 32, .treeP (fun b => b6 + 2 ≤ b) (.agg #[.int .i64 RR.head, .slice fuk RR.kids.length (RR.kids.length + fus)]) RR] := (S.set2 0 rfl (.int .i64 RR.head) (.slice fuk RR.kids.length (RR.kids.length + fus)) (by omega) (by simp only [List.map, Fct.at, fsnoc, offs, offAll, Fct.box, Fct.treeP, and_true]; omega)).set2 1 rfl (.int .i64 0) (.int .i64 0) (by omega) (by simp only [List.map, Fct.at, fsnoc, fset, offs, offAll, Fct.box, Fct.treeP, and_true]; omega)
      clear fSe fSd fSc fSb fSa HS2 hb6
      go_wp2_with fail
      refine S.genC (z := 0) (by omega) ?_
      intro v1 vz1 S
      have SD := S.drew
      clear S
      refine wpG_region 15 (fun W => W.cell? ⟨b6, 0, none⟩ = some (.int .i64 RR.head) ∧ W.cell? ⟨b6, 1, none⟩ = some (.slice fuk RR.kids.length (RR.kids.length + fus)) ∧ W.cell? ⟨b6 + 1, 0, none⟩ = some (.int .i64 0)) (by kernel_rfl) ?_
      have HS := And.intro (SD.two 0).1.1 (And.intro (SD.two 0).2.1 (SD.two 1).1.1)
      refine wpG.take (i := 0) (by kernel_rfl) (by kernel_rfl) (by kernel_rfl) (by kernel_rfl) (by kernel_rfl) HS ?_
      intro oi ho
      simp only [List.getElem?_toArray, List.getElem?_cons_zero, Option.some.injEq] at ho
      subst ho
      refine ⟨?_, Or.inl ⟨by rfl, ?_⟩, fun _ _ _ h => h, ?_⟩
      rotate_left 1
      · intro W hW
        try dsimp only at hW
        go_simp
        try with_reducible rfl
      simp only [Act.put, List.setIfInBounds_toArray, List.set_cons_zero, List.set_cons_succ]
      refine wpG.take (i := 1) (by kernel_rfl) (by kernel_rfl) (by kernel_rfl) (by kernel_rfl) (by kernel_rfl) HS ?_
      intro oi ho
      simp only [List.getElem?_toArray, List.getElem?_cons_succ, List.getElem?_cons_zero, Option.some.injEq] at ho
      subst ho
      refine ⟨?_, Or.inl ⟨by rfl, ?_⟩, fun _ _ _ h => h, ?_⟩
      rotate_left 1
      · intro W hW
        try dsimp only at hW
        go_simp
        try with_reducible rfl
      simp only [Act.put, List.setIfInBounds_toArray, List.set_cons_zero, List.set_cons_succ]
      refine wpG.take (i := 2) (by kernel_rfl) (by kernel_rfl) (by kernel_rfl) (by kernel_rfl) (by kernel_rfl) HS ?_
      intro oi ho
      simp only [List.getElem?_toArray, List.getElem?_cons_succ, List.getElem?_cons_zero, Option.some.injEq] at ho
      subst ho
      refine ⟨?_, Or.inl ⟨by rfl, ?_⟩, fun _ _ _ h => h, ?_⟩
      rotate_left 1
      · intro W hW
        try dsimp only at hW
        go_simp
        try with_reducible rfl
      simp only [Act.put, List.setIfInBounds_toArray, List.set_cons_zero, List.set_cons_succ]
      refine wpG.take (i := 3) (by kernel_rfl) (by kernel_rfl) (by kernel_rfl) (by kernel_rfl) (by kernel_rfl) HS ?_
      intro oi ho
      simp only [List.getElem?_toArray, List.getElem?_cons_succ, List.getElem?_cons_zero, Option.some.injEq] at ho
      subst ho
      refine ⟨?_, Or.inl ⟨by rfl, ?_⟩, fun _ _ _ h => h, ?_⟩
      rotate_left 1
      · intro W hW
        try dsimp only at hW
        go_simp
        try with_reducible rfl
      simp only [Act.put, List.setIfInBounds_toArray, List.set_cons_zero, List.set_cons_succ]
      refine wpG.take (i := 4) (by kernel_rfl) (by kernel_rfl) (by kernel_rfl) (by kernel_rfl) (by kernel_rfl) HS ?_
      intro oi ho
      simp only [List.getElem?_toArray, List.getElem?_cons_succ, List.getElem?_cons_zero, Option.some.injEq] at ho
      subst ho
      refine ⟨?_, Or.inl ⟨by rfl, ?_⟩, fun _ _ _ h => h, ?_⟩
      rotate_left 1
      · intro W hW
        try dsimp only at hW
        go_simp
        try with_reducible rfl
      simp only [Act.put, List.setIfInBounds_toArray, List.set_cons_zero, List.set_cons_succ]
      refine wpG.take (i := 5) (by kernel_rfl) (by kernel_rfl) (by kernel_rfl) (by kernel_rfl) (by kernel_rfl) HS ?_
      intro oi ho
      simp only [List.getElem?_toArray, List.getElem?_cons_succ, List.getElem?_cons_zero, Option.some.injEq] at ho
      subst ho
      refine ⟨?_, Or.inl ⟨by rfl, ?_⟩, fun _ _ _ h => h, ?_⟩
      rotate_left 1
      · intro W hW
        try dsimp only at hW
        go_simp
        try with_reducible rfl
      simp only [Act.put, List.setIfInBounds_toArray, List.set_cons_zero, List.set_cons_succ]
      refine wpG.take (i := 6) (by kernel_rfl) (by kernel_rfl) (by kernel_rfl) (by kernel_rfl) (by kernel_rfl) HS ?_
      intro oi ho
      simp only [List.getElem?_toArray, List.getElem?_cons_succ, List.getElem?_cons_zero, Option.some.injEq] at ho
      subst ho
      refine ⟨?_, Or.inl ⟨by rfl, ?_⟩, fun _ _ _ h => h, ?_⟩
      rotate_left 1
      · intro W hW
        try dsimp only at hW
        go_simp
        try with_reducible rfl
      simp only [Act.put, List.setIfInBounds_toArray, List.set_cons_zero, List.set_cons_succ]
      refine wpG.take (i := 7) (by kernel_rfl) (by kernel_rfl) (by kernel_rfl) (by kernel_rfl) (by kernel_rfl) HS ?_
      intro oi ho
      simp only [List.getElem?_toArray, List.getElem?_cons_succ, List.getElem?_cons_zero, Option.some.injEq] at ho
      subst ho
      refine ⟨?_, Or.inl ⟨by rfl, ?_⟩, fun _ _ _ h => h, ?_⟩
      rotate_left 1
      · intro W hW
        try dsimp only at hW
        go_simp
        try with_reducible rfl
      simp only [Act.put, List.setIfInBounds_toArray, List.set_cons_zero, List.set_cons_succ]
      refine wpG.take (i := 8) (by kernel_rfl) (by kernel_rfl) (by kernel_rfl) (by kernel_rfl) (by kernel_rfl) HS ?_
      intro oi ho
      simp only [List.getElem?_toArray, List.getElem?_cons_succ, List.getElem?_cons_zero, Option.some.injEq] at ho
      subst ho
      refine ⟨?_, Or.inl ⟨by rfl, ?_⟩, fun _ _ _ h => h, ?_⟩
      rotate_left 1
      · intro W hW
        try dsimp only at hW
        go_simp
        try with_reducible rfl
      simp only [Act.put, List.setIfInBounds_toArray, List.set_cons_zero, List.set_cons_succ]
      refine wpG.take (i := 9) (by kernel_rfl) (by kernel_rfl) (by kernel_rfl) (by kernel_rfl) (by kernel_rfl) HS ?_
      intro oi ho
      simp only [List.getElem?_toArray, List.getElem?_cons_succ, List.getElem?_cons_zero, Option.some.injEq] at ho
      subst ho
      refine ⟨?_, Or.inl ⟨by rfl, ?_⟩, fun _ _ _ h => h, ?_⟩
      rotate_left 1
      · intro W hW
        try dsimp only at hW
        go_simp
        try with_reducible rfl
      simp only [Act.put, List.setIfInBounds_toArray, List.set_cons_zero, List.set_cons_succ]
      refine wpG.take (i := 10) (by kernel_rfl) (by kernel_rfl) (by kernel_rfl) (by kernel_rfl) (by kernel_rfl) HS ?_
      intro oi ho
      simp only [List.getElem?_toArray, List.getElem?_cons_succ, List.getElem?_cons_zero, Option.some.injEq] at ho
      subst ho
      refine ⟨?_, Or.inl ⟨by rfl, ?_⟩, fun _ _ _ h => h, ?_⟩
      rotate_left 1
      · intro W hW
        try dsimp only at hW
        go_simp
        try with_reducible rfl
      simp only [Act.put, List.setIfInBounds_toArray, List.set_cons_zero, List.set_cons_succ]
      refine wpG.take (i := 11) (by kernel_rfl) (by kernel_rfl) (by kernel_rfl) (by kernel_rfl) (by kernel_rfl) HS ?_
      intro oi ho
      simp only [List.getElem?_toArray, List.getElem?_cons_succ, List.getElem?_cons_zero, Option.some.injEq] at ho
      subst ho
      refine ⟨?_, Or.inl ⟨by rfl, ?_⟩, fun _ _ _ h => h, ?_⟩
      rotate_left 1
      · intro W hW
        try dsimp only at hW
        go_simp
        try with_reducible rfl
      simp only [Act.put, List.setIfInBounds_toArray, List.set_cons_zero, List.set_cons_succ]
      refine wpG.one (i := 12) (by kernel_rfl) ?_
      intro oi ho
      simp only [List.getElem?_toArray, List.getElem?_cons_succ, List.getElem?_cons_zero, Option.some.injEq] at ho
      subst ho
      intro K hK
      have HK := Lib.hid hK
      have HSH := Lib.hid HS
      clear hK HS
      go_simp
      go_at_call 40
      refine (SD.oned (B := w.heap.size) SD.bel.size (fun b h => h.elim) (HNS _)).mono ?_
      rintro e g1 ⟨gnk, gns, rfl, gz1, gS1⟩
      dsimp only
      refine HK.out _ _ (fun _ => And.intro (gS1.two 0).1.1 (And.intro (gS1.two 0).2.1 (gS1.two 1).1.1)) ?_
      have HS := And.intro (gS1.two 0).1.1 (And.intro (gS1.two 0).2.1 (gS1.two 1).1.1)
      try simp only [Act.put, List.setIfInBounds_toArray, List.set_cons_zero, List.set_cons_succ]
      refine wpG.one (i := 13) (by kernel_rfl) ?_
      intro oi ho
      simp only [List.getElem?_toArray, List.getElem?_cons_succ, List.getElem?_cons_zero, Option.some.injEq] at ho
      subst ho
      intro K hK
      have HK := Lib.hid hK
      have HSH := Lib.hid HS
      clear hK HS
      go_simp
      go_at_call 41
      refine (gS1.quiet (same22 RR RRc _ _ g1 (St.treeP gS1 2 (p := fun b => b6 + 2 ≤ b) rfl).at (St.treeP gS1 3 (p := fun b => w.heap.size ≤ b) rfl).at)).mono ?_
      rintro e g2 ⟨rfl, gz2, gS2⟩
      dsimp only
      rw [HEQRR.out]
      refine HK.out _ _ (fun _ => And.intro (gS2.two 0).1.1 (And.intro (gS2.two 0).2.1 (gS2.two 1).1.1)) ?_
      have HS := And.intro (gS2.two 0).1.1 (And.intro (gS2.two 0).2.1 (gS2.two 1).1.1)
      try simp only [Act.put, List.setIfInBounds_toArray, List.set_cons_zero, List.set_cons_succ]
      refine wpG.take (i := 14) (by kernel_rfl) (by kernel_rfl) (by kernel_rfl) (by kernel_rfl) (by kernel_rfl) HS ?_
      intro oi ho
      simp only [List.getElem?_toArray, List.getElem?_cons_succ, List.getElem?_cons_zero, Option.some.injEq] at ho
      subst ho
      refine ⟨?_, Or.inl ⟨by rfl, ?_⟩, fun _ _ _ h => h, ?_⟩
      rotate_left 1
      · intro W hW
        try dsimp only at hW
        go_simp
        try with_reducible rfl
      simp only [Act.put, List.setIfInBounds_toArray, List.set_cons_zero, List.set_cons_succ]
      refine wpG.one (i := 15) (by kernel_rfl) ?_
      intro oi ho
      simp only [List.getElem?_toArray, List.getElem?_cons_succ, List.getElem?_cons_zero, Option.some.injEq] at ho
      subst ho
      intro K hK
      have HK := Lib.hid hK
      have HSH := Lib.hid HS
      clear hK HS
      go_simp
      refine HK.out _ _ (fun h => absurd rfl h) ?_
      try simp only [Act.put, List.setIfInBounds_toArray, List.set_cons_zero, List.set_cons_succ]
      refine wpG.done (by kernel_rfl) ?_
      have SE := Lib.hid gS2.bel
      clear gS1 gS2 SD
      go_wp2_with fail
      go_ret
      exact ⟨rfl, SE.out⟩
    · have HDA := Lib.hid (show decide (0 ≤ a ∧ a ≤ 5) = true from decide_eq_true ha)
      have HDB := Lib.hid (show decide (0 ≤ b ∧ b ≤ 5) = false from decide_eq_false hb)
      have SE := Lib.hid HS2.bel
      clear ha hb HS2
      go_wp2_with fail
      refine (in28 a 0 5 _).mono ?_
      rintro e W ⟨rfl, rfl⟩
      rw [HDA.out]
      go_wp2_with fail
      refine (in28 b 0 5 _).mono ?_
      rintro e W ⟨rfl, rfl⟩
      rw [HDB.out]
      go_wp2_with fail
      go_ret
      exact ⟨rfl, SE.out⟩
  · have HDA := Lib.hid (show decide (0 ≤ a ∧ a ≤ 5) = false from decide_eq_false ha)
    have SE := Lib.hid HS2.bel
    clear ha HS2
    go_wp2_with fail
    refine (in28 a 0 5 _).mono ?_
    rintro e W ⟨rfl, rfl⟩
    rw [HDA.out]
    go_wp2_with fail
    go_ret
    exact ⟨rfl, SE.out⟩
end Go.Proofs.Yteekoclfpehnpaa
