/-
  Walks: (*unify.solver).unify.
-/
import Derived.Test.YtlhnfdjidjgfgaaProg
import Derived.Test.YtlhnfdjidjgfgaaUx1
import Derived.Test.YtlhnfdjidjgfgaaG4
import Derived.Deep.RegionLaw
import Derived.RegionTactic
namespace Go.Proofs.Ytlhnfdjidjgfgaa
open Go.RowKit Go.Shelf Go.Maps
set_option linter.unusedVariables false
set_option maxHeartbeats 400000

def Fct.mapT (N : Nat) (p : Nat → Prop) (b : Nat) (M : PM) : Fct :=
  ⟨fun c => c = b ∨ p c, MapT N p b M, fun w w' h hm => hm.carry (h b (.inl rfl) hm.lt) (fun c hc hl => h c (.inr hc) hl)⟩
theorem St.mapT {w0 w : World} {l : List Fct} (S : St w0 w l) (i : Nat) {N : Nat} {p : Nat → Prop} {b : Nat} {M : PM} (h : Fct.at l i = Fct.mapT N p b M := by rfl) : MapT N p b M w := by
  have := S.2 i
  rw [h] at this; exact this
/-- a root has been found -/
theorem St.rooted {P : Program} {n : Nat} {a : Array Value} {w0 w : World} {l : List Fct} (S : St w0 w l) {p : Nat → Prop} {R : T → Prop} (h : Calls P n a w fun e w' => ∃ u t', e = .returned u ∧ TreeP p w' u t' ∧ R t' ∧ Below w.heap.size w w') :
    Calls P n a w fun e w' => ∃ t' k sp, e = .returned (.agg #[.int .i64 t'.head, .slice k t'.kids.length (t'.kids.length + sp)]) ∧ Hid (R t') ∧ w.heap.size ≤ w'.heap.size ∧ St w0 w' (fsnoc l (.treeP p (.agg #[.int .i64 t'.head, .slice k t'.kids.length (t'.kids.length + sp)]) t')) :=
  h.mono fun e w' ⟨u, t', h1, h2, h3, h4⟩ => by
    obtain ⟨k, sp, rfl⟩ := h2.at.form
    exact ⟨t', k, sp, h1, h3, h4.size, (S.step h4).add (.treeP p _ t') h2⟩
/-- the map has been written -/
theorem St.mapPutT {w0 w w1 : World} {l : List Fct} (S : St w0 w l) (i : Nat) {N : Nat} {p : Nat → Prop} {b : Nat} {M M' : PM} (hi : Fct.at l i = Fct.mapT N p b M) (hm : MapT N p b M' w1) (hg : w.grownBy w1 (some b)) (h0 : w0.heap.size ≤ b) (hoff : offs b i l) : St w0 w1 (fset l i (.mapT N p b M')) := by
  refine ⟨S.bel.grown hg S.size (fun c hc => by cases hc; exact h0), fun j => ?_⟩
  by_cases hj : j = i
  · subst hj
    rcases at_fset_same (.mapT N p b M') l j with h | h
    · rw [h]; exact hm
    · rw [h]; trivial
  · rw [at_fset_other _ _ _ _ hj]
    exact (Fct.at l j).stable w w1 (fun c hc hl => hg.block c hl (fun e => by cases e; exact offs_at hoff j hj hc)) (S.2 j)
/-- what unify leaves -/
def UniP (N : Nat) (p : Nat → Prop) (b : Nat) (M : PM) (A B : T) (w0 w : World) (e : Ending) (w' : World) : Prop :=
  ∃ (r : Bool) (M' : PM), e = .returned (.bool r) ∧ UPost N M A B r M' ∧ MapT N p b M' w' ∧ (∀ c, c < w.heap.size → c ≠ b → w'.heap[c]? = w.heap[c]?) ∧ w.heap.size ≤ w'.heap.size ∧ Below w0.heap.size w0 w'
theorem St.unified {n : Nat} {a : Array Value} {w0 w : World} {l : List Fct} (S : St w0 w l) (i : Nat) {N : Nat} {p : Nat → Prop} {b : Nat} {M : PM} {A B : T} (hi : Fct.at l i = .mapT N p b M) (hoff : offs b i l) (h : Calls Try.prog n a w (UniP N p b M A B w0 w)) :
    Calls Try.prog n a w fun e w' => ∃ (r : Bool) (M' : PM), e = .returned (.bool r) ∧ Hid (UPost N M A B r M') ∧ w.heap.size ≤ w'.heap.size ∧ St w0 w' (fset l i (.mapT N p b M')) :=
  h.mono fun e w' ⟨r, M', h1, h2, h3, h4, h5, h6⟩ => by
    refine ⟨r, M', h1, h2, h5, h6, fun j => ?_⟩
    by_cases hj : j = i
    · subst hj
      rcases at_fset_same (.mapT N p b M') l j with h | h
      · rw [h]; exact h3
      · rw [h]; trivial
    · rw [at_fset_other _ _ _ _ hj]
      exact (Fct.at l j).stable w w' (fun c hc hl => h4 c hl (fun e => offs_at hoff j hj (e ▸ hc))) (S.2 j)
theorem UniP.mk {N : Nat} {p : Nat → Prop} {b : Nat} {M M' : PM} {A B : T} {r : Bool} {w0 w w' : World} {f0 f1 f2 : Fct} {l : List Fct} (h : UPost N M A B r M') (S : St w0 w' (.mapT N p b M' :: f0 :: f1 :: f2 :: .kept w b :: l)) (hz : w.heap.size ≤ w'.heap.size) : UniP N p b M A B w0 w (.returned (.bool r)) w' :=
  ⟨r, M', rfl, h, S.mapT 0, S.kept 4, hz, S.bel⟩
def RoundOK : Prop := ∀ (N : Nat) (p : Nat → Prop) (b bs : Nat) (M : PM) (w : World), MapT N p b M w → w.heap[bs]? = some (.cells #[.map (some b)] 165 (0, 0)) → GoodM N M → N ≤ 1000 → (∀ c, p c → c < w.heap.size) →
  Calls Try.prog 153 #[.pointer (some ⟨bs, 0, none⟩)] w fun e w' => ∃ r : Bool, e = .returned (.bool r) ∧ (r = true → ∀ θ, ¬ Sol M θ) ∧ (r = false → Acyc M) ∧ Below w.heap.size w w'
def UniOK (N : Nat) (p : Nat → Prop) (b bs : Nat) (w0 : World) (n s : Nat) : Prop := ∀ (M : PM) (A B : T) (va vb : Value) (w : World), unb N M ≤ n → (∃ σ, Sol M σ ∧ (A.inst σ).size ≤ s) → St w0 w [.mapT N p b M, .box bs #[.map (some b)] 165] → GoodM N M → Acyc M → TreeP p w va A → TreeP p w vb B → VA N A → VA N B →
  Calls Try.prog 152 #[.pointer (some ⟨bs, 0, none⟩), va, vb] w (UniP N p b M A B w0 w)

set_option maxRecDepth 100000 in
set_option maxHeartbeats 16000000 in
theorem unify_step (HRD : Hid RoundOK) (N : Nat) (p : Nat → Prop) (b bs : Nat) (w0 : World) (hb0 : w0.heap.size ≤ b) (hbs0 : w0.heap.size ≤ bs) (hp : ∀ c, p c → c < w0.heap.size) (hN : N ≤ 1000) (n s : Nat) (ihn : ∀ n' s', n' < n → UniOK N p b bs w0 n' s') (ihs : ∀ s', s' < s → UniOK N p b bs w0 n s') : UniOK N p b bs w0 n s := by
  intro M A B va vb w hn hs S0 hg ha htA htB hvA hvB
  obtain ⟨ka, sa, rfl⟩ := htA.at.form
  obtain ⟨kb, sb, rfl⟩ := htB.at.form
  have HIN := Lib.hid ihn; have HIS := Lib.hid ihs; have HU := Lib.hid hn; have HSS := Lib.hid hs; have HG := Lib.hid hg; have HA := Lib.hid ha; have HVA := Lib.hid hvA; have HVB := Lib.hid hvB; have HP := Lib.hid hp; have HB := Lib.hid hb0; have HN := Lib.hid hN
  have HBL0 := Lib.hid (show b < w.heap.size from (S0.mapT 0).lt)
  have HSL0 := Lib.hid (S0.lt 1)
  have HNE := Lib.hid (show bs ≠ b from fun e => by
    have h1 := S0.block 1
    obtain ⟨D, k, ⟨es, clock, hm, _⟩, _⟩ := S0.mapT 0
    rw [e, hm] at h1; cases h1)
  obtain ⟨bx, hbx⟩ : ∃ b, b = w.heap.size := ⟨_, rfl⟩
  have SM := (S0.box hbx.symm #[.int .i64 A.head, .slice ka A.kids.length (A.kids.length + sa)] 38).box (b := bx + 1) (by simp [hbx]) #[.int .i64 B.head, .slice kb B.kids.length (B.kids.length + sb)] 38
  have hsz1 : ((w.alloc (.cells #[.int .i64 A.head, .slice ka A.kids.length (A.kids.length + sa)] 38)).alloc (.cells #[.int .i64 B.head, .slice kb B.kids.length (B.kids.length + sb)] 38)).heap.size = bx + 2 := by simp [hbx]
  have HBB := Lib.hid (show Below w.heap.size w ((w.alloc (.cells #[.int .i64 A.head, .slice ka A.kids.length (A.kids.length + sa)] 38)).alloc (.cells #[.int .i64 B.head, .slice kb B.kids.length (B.kids.length + sb)] 38)) from ((Below.refl w.heap.size w).alloc (Nat.le_refl _) _).alloc (by simp) _)
  have SM := ((SM.add (.kept w b) (fun c hc _ => HBB.out.block c hc)).add (.treeP p _ A) (htA.kept HBB.out)).add (.treeP p _ B) (htB.kept HBB.out)
  have HBL := Lib.hid (show b < bx by rw [hbx]; exact HBL0.out)
  have HSL := Lib.hid (show bs < bx by rw [hbx]; exact HSL0.out)
  have HW0 := Lib.hid S0.size
  clear ihn ihs hn hs S0 hg ha htA htB hvA hvB hp hb0 hbs0 hN HBB
  go_enter Try.func152, Try.ntmps152
  go_wp2_with fail
  rw [← hbx]
  refine SM.genC (z := bx + 2) (by omega) ?_
  intro w2 z2 S
  have HBX := Lib.hid (show w0.heap.size ≤ bx by have := HW0.out; omega)
  have HBW := Lib.hid hbx
  clear SM hbx hsz1
  have SD := Lib.hid S.drew
  have z2' : bx + 2 ≤ w2.drew.heap.size := z2
  clear S
  refine wpH_region [6, 7] (fun W => W.cell? ⟨bx, 0, none⟩ = some (.int .i64 A.head) ∧ W.cell? ⟨bx, 1, none⟩ = some (.slice ka A.kids.length (A.kids.length + sa)) ∧ W.cell? ⟨bx + 1, 0, none⟩ = some (.int .i64 B.head) ∧ W.cell? ⟨bx + 1, 1, none⟩ = some (.slice kb B.kids.length (B.kids.length + sb))) (by kernel_rfl) ?_
  have HS := (⟨(SD.out.two 2).1.1, (SD.out.two 2).2.1, (SD.out.two 3).1.1, (SD.out.two 3).2.1⟩ : _ ∧ _ ∧ _ ∧ _)
  refine wpH.take (i := 0) (by kernel_rfl) (by kernel_rfl) (by kernel_rfl) (by kernel_rfl) (by kernel_rfl) HS ?_
  intro oi ho
  simp only [List.getElem?_toArray, List.getElem?_cons_zero, Option.some.injEq] at ho
  subst ho
  refine ⟨?_, Or.inl ⟨by rfl, ?_⟩, fun _ _ _ h => h, ?_⟩
  rotate_left 1
  · intro W hW
    try dsimp only at hW
    go_simp
    try with_reducible rfl
  simp only [Act.put, List.setIfInBounds_toArray, List.set_cons_zero, List.set_cons_succ]
  refine wpH.take (i := 1) (by kernel_rfl) (by kernel_rfl) (by kernel_rfl) (by kernel_rfl) (by kernel_rfl) HS ?_
  intro oi ho
  simp only [List.getElem?_toArray, List.getElem?_cons_succ, List.getElem?_cons_zero, Option.some.injEq] at ho
  subst ho
  refine ⟨?_, Or.inl ⟨by rfl, ?_⟩, fun _ _ _ h => h, ?_⟩
  rotate_left 1
  · intro W hW
    try dsimp only at hW
    go_simp
    try with_reducible rfl
  simp only [Act.put, List.setIfInBounds_toArray, List.set_cons_zero, List.set_cons_succ]
  refine wpH.take (i := 3) (by kernel_rfl) (by kernel_rfl) (by kernel_rfl) (by kernel_rfl) (by kernel_rfl) HS ?_
  intro oi ho
  simp only [List.getElem?_toArray, List.getElem?_cons_succ, List.getElem?_cons_zero, Option.some.injEq] at ho
  subst ho
  refine ⟨?_, Or.inl ⟨by rfl, ?_⟩, fun _ _ _ h => h, ?_⟩
  rotate_left 1
  · intro W hW
    try dsimp only at hW
    go_simp
    try with_reducible rfl
  simp only [Act.put, List.setIfInBounds_toArray, List.set_cons_zero, List.set_cons_succ]
  refine wpH.take (i := 4) (by kernel_rfl) (by kernel_rfl) (by kernel_rfl) (by kernel_rfl) (by kernel_rfl) HS ?_
  intro oi ho
  simp only [List.getElem?_toArray, List.getElem?_cons_succ, List.getElem?_cons_zero, Option.some.injEq] at ho
  subst ho
  refine ⟨?_, Or.inl ⟨by rfl, ?_⟩, fun _ _ _ h => h, ?_⟩
  rotate_left 1
  · intro W hW
    try dsimp only at hW
    go_simp
    try with_reducible rfl
  simp only [Act.put, List.setIfInBounds_toArray, List.set_cons_zero, List.set_cons_succ]
  refine wpH.one (i := 2) (by kernel_rfl) ?_
  intro oi ho
  simp only [List.getElem?_toArray, List.getElem?_cons_succ, List.getElem?_cons_zero, Option.some.injEq] at ho
  subst ho
  intro K hK
  have HK := Lib.hid hK
  clear hK
  go_simp
  go_at_call 154
  refine (SD.out.rooted (R := fun t' => IsRoot N M A t') (root154 N p b bs M A _ _ (SD.out.mapT 0) (SD.out.block 1) HG.out HA.out (SD.out.treeP 5) HVA.out HN.out (fun c hc => Nat.lt_of_lt_of_le (HP.out c hc) SD.out.bel.size))).mono ?_
  rintro e w4 ⟨X, kx, xs, rfl, HRX, hz4, S4⟩
  have hz4 : w2.heap.size ≤ w4.heap.size := hz4
  dsimp only
  refine HK.out _ _ (fun _ => ⟨(S4.two 2).1.1, (S4.two 2).2.1, (S4.two 3).1.1, (S4.two 3).2.1⟩) ?_
  clear HS
  have HS := (⟨(S4.two 2).1.1, (S4.two 2).2.1, (S4.two 3).1.1, (S4.two 3).2.1⟩ : _ ∧ _ ∧ _ ∧ _)
  try simp only [Act.put, List.setIfInBounds_toArray, List.set_cons_zero, List.set_cons_succ]
  refine wpH.one (i := 5) (by kernel_rfl) ?_
  intro oi ho
  simp only [List.getElem?_toArray, List.getElem?_cons_succ, List.getElem?_cons_zero, Option.some.injEq] at ho
  subst ho
  intro K hK
  have HK := Lib.hid hK
  clear hK
  go_simp
  go_at_call 154
  refine (S4.rooted (R := fun t' => IsRoot N M B t') (root154 N p b bs M B _ _ (S4.mapT 0) (S4.block 1) HG.out HA.out (S4.treeP 6) HVB.out HN.out (fun c hc => Nat.lt_of_lt_of_le (HP.out c hc) S4.bel.size))).mono ?_
  rintro e w5 ⟨Y, ky, ys, rfl, HRY, hz5, S5⟩
  dsimp only
  refine HK.out _ _ (fun _ => ⟨(S5.two 2).1.1, (S5.two 2).2.1, (S5.two 3).1.1, (S5.two 3).2.1⟩) ?_
  clear HS
  try simp only [Act.put, List.setIfInBounds_toArray, List.set_cons_zero, List.set_cons_succ]
  refine wpH.one (i := 6) (by kernel_rfl) ?_
  intro oi ho
  simp only [List.getElem?_toArray, List.getElem?_cons_succ, List.getElem?_cons_zero, Option.some.injEq] at ho
  subst ho
  intro K hK
  have HK := Lib.hid hK
  clear hK
  obtain ⟨⟨u0, u1⟩, u2, u3⟩ := S5.two 2
  go_simp
  have S6 := S5.set2 2 rfl (.int .i64 X.head) (.slice kx X.kids.length (X.kids.length + xs)) (by have := HBX.out; omega) (by simp only [fsnoc, offs, offAll, Fct.box, Fct.treeP, Fct.kept, Fct.mapT, and_true]; have hbx0 := HBX.out; have h1 := HBL.out; have h2 := HSL.out; have h5 := HBW.out; have h3 : ∀ c, p c → c < bx := fun c hc => (by have := HP.out c hc; omega); refine ⟨fun e => ?_, by omega, by omega, by omega, fun e => absurd (h3 _ e) (by omega), fun e => absurd (h3 _ e) (by omega), fun e => absurd (h3 _ e) (by omega), fun e => absurd (h3 _ e) (by omega)⟩; rcases e with e | e; omega; exact absurd (h3 _ e) (by omega))
  refine HK.out _ _ (fun h => absurd h (by decide)) ?_
  try simp only [Act.put, List.setIfInBounds_toArray, List.set_cons_zero, List.set_cons_succ]
  refine wpH.one (i := 7) (by kernel_rfl) ?_
  intro oi ho
  simp only [List.getElem?_toArray, List.getElem?_cons_succ, List.getElem?_cons_zero, Option.some.injEq] at ho
  subst ho
  intro K hK
  have HK := Lib.hid hK
  clear hK
  clear u0 u1 u2 u3
  obtain ⟨⟨u0, u1⟩, u2, u3⟩ := S6.two 3
  go_simp
  have S7 := S6.set2 3 rfl (.int .i64 Y.head) (.slice ky Y.kids.length (Y.kids.length + ys)) (by have := HBX.out; omega) (by simp only [fset, fsnoc, offs, offAll, Fct.box, Fct.treeP, Fct.kept, Fct.mapT, and_true]; have hbx0 := HBX.out; have h1 := HBL.out; have h2 := HSL.out; have h5 := HBW.out; have h3 : ∀ c, p c → c < bx := fun c hc => (by have := HP.out c hc; omega); refine ⟨fun e => ?_, by omega, by omega, by omega, fun e => absurd (h3 _ e) (by omega), fun e => absurd (h3 _ e) (by omega), fun e => absurd (h3 _ e) (by omega), fun e => absurd (h3 _ e) (by omega)⟩; rcases e with e | e; omega; exact absurd (h3 _ e) (by omega))
  refine HK.out _ _ (fun h => absurd h (by decide)) ?_
  try simp only [Act.put, List.setIfInBounds_toArray, List.set_cons_zero, List.set_cons_succ]
  refine wpH.done (by kernel_rfl) ?_
  have S8 := S7.pick [0, 1, 2, 3, 4, 7, 8]
  have z8 : bx + 2 ≤ ((((w5.setCell ⟨bx, 0, none⟩ (.int .i64 X.head)).setCell ⟨bx, 1, none⟩ (.slice kx X.kids.length (X.kids.length + xs))).setCell ⟨bx + 1, 0, none⟩ (.int .i64 Y.head)).setCell ⟨bx + 1, 1, none⟩ (.slice ky Y.kids.length (Y.kids.length + ys))).heap.size := by simp; omega
  clear S7 S6 S5 S4 u0 u1 u2 u3
  refine S8.genX z8 ?_
  intro w3 z3 S
  have S : St w0 w3 [.mapT N p b M, .box bs #[.map (some b)] 165, .box bx #[.int .i64 X.head, .slice kx X.kids.length (X.kids.length + xs)] 38, .box (bx + 1) #[.int .i64 Y.head, .slice ky Y.kids.length (Y.kids.length + ys)] 38, .kept w b, .treeP p (.agg #[.int .i64 X.head, .slice kx X.kids.length (X.kids.length + xs)]) X, .treeP p (.agg #[.int .i64 Y.head, .slice ky Y.kids.length (Y.kids.length + ys)]) Y] := S
  clear S8 z8 SD hz4 hz5 z2 z2'
  have HVX := Lib.hid HRX.out.va; have HVY := Lib.hid HRY.out.va
  by_cases hX : X.head < 0
  · by_cases hY : Y.head < 0
    · by_cases h1 : X.head < Y.head
      · have hX2 := hX
        have HUP := Lib.hid (UPost.root HRX.out HRY.out (UPost.left HG.out HVX.out HVY.out hX (HRX.out.free hX) (fun _ => by unfold vI; omega)))
        have hwf := wf_low hX HVX.out HN.out
        obtain ⟨⟨x0, _⟩, x1, _⟩ := S.two 2
        obtain ⟨⟨y0, _⟩, y1, _⟩ := S.two 3
        have SD := Lib.hid S.drew
        obtain ⟨w6, hrun, hm6, hg6⟩ := (SD.out.mapT 0).put (c := (Y.head, ky, Y.kids.length, Y.kids.length + ys)) hX hwf (HRX.out.free hX) (HVX.out.leaf hX).2 HN.out (SD.out.treeP 6) (fun h => by have := HP.out b h; have := HB.out; omega)
        have hrun : (Instr.mapUpdate 163 (.map (some b)) (.int .i64 X.head) (.agg #[.int .i64 Y.head, .slice ky Y.kids.length (Y.kids.length + ys)])).run Try.prog w3.drew = .ok () w6 := hrun
        have SF := Lib.hid (SD.out.mapPutT 0 rfl hm6 hg6 HB.out (by simp only [offs, offAll, Fct.box, Fct.treeP, Fct.kept, and_true]; have hbx0 := HBX.out; have h1 := HBL.out; have h2 := HSL.out; have h4 := HB.out; refine ⟨fun e => HNE.out e.symm, by omega, by omega, by omega, fun e => by have := HP.out _ e; omega, fun e => by have := HP.out _ e; omega⟩))
        have hz6 : bx + 2 ≤ w6.heap.size := Nat.le_trans z3 hg6.size
        clear S hm6 hg6 hwf
        go_wp2_with fail
        refine wpH_region [7] (fun W => W.cell? ⟨bs, 0, none⟩ = some (.map (some b)) ∧ W.cell? ⟨bx, 0, none⟩ = some (.int .i64 X.head) ∧ W.cell? ⟨bx + 1, 0, none⟩ = some (.int .i64 Y.head) ∧ W.cell? ⟨bx + 1, 1, none⟩ = some (.slice ky Y.kids.length (Y.kids.length + ys))) (by kernel_rfl) ?_
        have HS := (⟨(SD.out.one 1).1, (SD.out.two 2).1.1, (SD.out.two 3).1.1, (SD.out.two 3).2.1⟩ : _ ∧ _ ∧ _ ∧ _)
        refine wpH.take (i := 0) (by kernel_rfl) (by kernel_rfl) (by kernel_rfl) (by kernel_rfl) (by kernel_rfl) HS ?_
        intro oi ho
        simp only [List.getElem?_toArray, List.getElem?_cons_zero, Option.some.injEq] at ho
        subst ho
        refine ⟨?_, Or.inl ⟨by rfl, ?_⟩, fun _ _ _ h => h, ?_⟩
        rotate_left 1
        · intro W hW
          try dsimp only at hW
          go_simp
          try with_reducible rfl
        simp only [Act.put, List.setIfInBounds_toArray, List.set_cons_zero, List.set_cons_succ]
        refine wpH.take (i := 1) (by kernel_rfl) (by kernel_rfl) (by kernel_rfl) (by kernel_rfl) (by kernel_rfl) HS ?_
        intro oi ho
        simp only [List.getElem?_toArray, List.getElem?_cons_succ, List.getElem?_cons_zero, Option.some.injEq] at ho
        subst ho
        refine ⟨?_, Or.inl ⟨by rfl, ?_⟩, fun _ _ _ h => h, ?_⟩
        rotate_left 1
        · intro W hW
          try dsimp only at hW
          go_simp
          try with_reducible rfl
        simp only [Act.put, List.setIfInBounds_toArray, List.set_cons_zero, List.set_cons_succ]
        refine wpH.take (i := 2) (by kernel_rfl) (by kernel_rfl) (by kernel_rfl) (by kernel_rfl) (by kernel_rfl) HS ?_
        intro oi ho
        simp only [List.getElem?_toArray, List.getElem?_cons_succ, List.getElem?_cons_zero, Option.some.injEq] at ho
        subst ho
        refine ⟨?_, Or.inl ⟨by rfl, ?_⟩, fun _ _ _ h => h, ?_⟩
        rotate_left 1
        · intro W hW
          try dsimp only at hW
          go_simp
          try with_reducible rfl
        simp only [Act.put, List.setIfInBounds_toArray, List.set_cons_zero, List.set_cons_succ]
        refine wpH.take (i := 3) (by kernel_rfl) (by kernel_rfl) (by kernel_rfl) (by kernel_rfl) (by kernel_rfl) HS ?_
        intro oi ho
        simp only [List.getElem?_toArray, List.getElem?_cons_succ, List.getElem?_cons_zero, Option.some.injEq] at ho
        subst ho
        refine ⟨?_, Or.inl ⟨by rfl, ?_⟩, fun _ _ _ h => h, ?_⟩
        rotate_left 1
        · intro W hW
          try dsimp only at hW
          go_simp
          try with_reducible rfl
        simp only [Act.put, List.setIfInBounds_toArray, List.set_cons_zero, List.set_cons_succ]
        refine wpH.take (i := 4) (by kernel_rfl) (by kernel_rfl) (by kernel_rfl) (by kernel_rfl) (by kernel_rfl) HS ?_
        intro oi ho
        simp only [List.getElem?_toArray, List.getElem?_cons_succ, List.getElem?_cons_zero, Option.some.injEq] at ho
        subst ho
        refine ⟨?_, Or.inl ⟨by rfl, ?_⟩, fun _ _ _ h => h, ?_⟩
        rotate_left 1
        · intro W hW
          try dsimp only at hW
          go_simp
          try with_reducible rfl
        simp only [Act.put, List.setIfInBounds_toArray, List.set_cons_zero, List.set_cons_succ]
        refine wpH.take (i := 5) (by kernel_rfl) (by kernel_rfl) (by kernel_rfl) (by kernel_rfl) (by kernel_rfl) HS ?_
        intro oi ho
        simp only [List.getElem?_toArray, List.getElem?_cons_succ, List.getElem?_cons_zero, Option.some.injEq] at ho
        subst ho
        refine ⟨?_, Or.inl ⟨by rfl, ?_⟩, fun _ _ _ h => h, ?_⟩
        rotate_left 1
        · intro W hW
          try dsimp only at hW
          go_simp
          try with_reducible rfl
        simp only [Act.put, List.setIfInBounds_toArray, List.set_cons_zero, List.set_cons_succ]
        refine wpH.take (i := 6) (by kernel_rfl) (by kernel_rfl) (by kernel_rfl) (by kernel_rfl) (by kernel_rfl) HS ?_
        intro oi ho
        simp only [List.getElem?_toArray, List.getElem?_cons_succ, List.getElem?_cons_zero, Option.some.injEq] at ho
        subst ho
        refine ⟨?_, Or.inl ⟨by rfl, ?_⟩, fun _ _ _ h => h, ?_⟩
        rotate_left 1
        · intro W hW
          try dsimp only at hW
          go_simp
          try with_reducible rfl
        simp only [Act.put, List.setIfInBounds_toArray, List.set_cons_zero, List.set_cons_succ]
        refine wpH.one (i := 7) (by kernel_rfl) ?_
        intro oi ho
        simp only [List.getElem?_toArray, List.getElem?_cons_succ, List.getElem?_cons_zero, Option.some.injEq] at ho
        subst ho
        intro K hK
        have HK := Lib.hid hK
        clear hK
        go_simp
        refine HK.out _ _ (fun h => absurd h (by decide)) ?_
        try simp only [Act.put, List.setIfInBounds_toArray, List.set_cons_zero, List.set_cons_succ]
        refine wpH.done (by kernel_rfl) ?_
        go_wp2_with fail
        go_ret
        exact UniP.mk HUP.out SF.out (by have := HBW.out; omega)
      · by_cases h2 : Y.head < X.head
        · have HUP := Lib.hid (UPost.root HRX.out HRY.out (UPost.right HG.out HVX.out HVY.out hY (HRY.out.free hY) (fun _ => by unfold vI; omega)))
          have hwf := wf_low hY HVY.out HN.out
          obtain ⟨⟨x0, _⟩, x1, _⟩ := S.two 2
          obtain ⟨⟨y0, _⟩, y1, _⟩ := S.two 3
          have SD := Lib.hid S.drew
          obtain ⟨w6, hrun, hm6, hg6⟩ := (SD.out.mapT 0).put (c := (X.head, kx, X.kids.length, X.kids.length + xs)) hY hwf (HRY.out.free hY) (HVY.out.leaf hY).2 HN.out (SD.out.treeP 5) (fun h => by have := HP.out b h; have := HB.out; omega)
          have hrun : (Instr.mapUpdate 163 (.map (some b)) (.int .i64 Y.head) (.agg #[.int .i64 X.head, .slice kx X.kids.length (X.kids.length + xs)])).run Try.prog w3.drew = .ok () w6 := hrun
          have SF := Lib.hid (SD.out.mapPutT 0 rfl hm6 hg6 HB.out (by simp only [offs, offAll, Fct.box, Fct.treeP, Fct.kept, and_true]; have hbx0 := HBX.out; have h1 := HBL.out; have h2 := HSL.out; have h4 := HB.out; refine ⟨fun e => HNE.out e.symm, by omega, by omega, by omega, fun e => by have := HP.out _ e; omega, fun e => by have := HP.out _ e; omega⟩))
          have hz6 : bx + 2 ≤ w6.heap.size := Nat.le_trans z3 hg6.size
          clear S hm6 hg6 hwf
          go_wp2_with fail
          refine wpH_region [7] (fun W => W.cell? ⟨bs, 0, none⟩ = some (.map (some b)) ∧ W.cell? ⟨bx + 1, 0, none⟩ = some (.int .i64 Y.head) ∧ W.cell? ⟨bx, 0, none⟩ = some (.int .i64 X.head) ∧ W.cell? ⟨bx, 1, none⟩ = some (.slice kx X.kids.length (X.kids.length + xs))) (by kernel_rfl) ?_
          have HS := (⟨(SD.out.one 1).1, (SD.out.two 3).1.1, (SD.out.two 2).1.1, (SD.out.two 2).2.1⟩ : _ ∧ _ ∧ _ ∧ _)
          refine wpH.take (i := 0) (by kernel_rfl) (by kernel_rfl) (by kernel_rfl) (by kernel_rfl) (by kernel_rfl) HS ?_
          intro oi ho
          simp only [List.getElem?_toArray, List.getElem?_cons_zero, Option.some.injEq] at ho
          subst ho
          refine ⟨?_, Or.inl ⟨by rfl, ?_⟩, fun _ _ _ h => h, ?_⟩
          rotate_left 1
          · intro W hW
            try dsimp only at hW
            go_simp
            try with_reducible rfl
          simp only [Act.put, List.setIfInBounds_toArray, List.set_cons_zero, List.set_cons_succ]
          refine wpH.take (i := 1) (by kernel_rfl) (by kernel_rfl) (by kernel_rfl) (by kernel_rfl) (by kernel_rfl) HS ?_
          intro oi ho
          simp only [List.getElem?_toArray, List.getElem?_cons_succ, List.getElem?_cons_zero, Option.some.injEq] at ho
          subst ho
          refine ⟨?_, Or.inl ⟨by rfl, ?_⟩, fun _ _ _ h => h, ?_⟩
          rotate_left 1
          · intro W hW
            try dsimp only at hW
            go_simp
            try with_reducible rfl
          simp only [Act.put, List.setIfInBounds_toArray, List.set_cons_zero, List.set_cons_succ]
          refine wpH.take (i := 2) (by kernel_rfl) (by kernel_rfl) (by kernel_rfl) (by kernel_rfl) (by kernel_rfl) HS ?_
          intro oi ho
          simp only [List.getElem?_toArray, List.getElem?_cons_succ, List.getElem?_cons_zero, Option.some.injEq] at ho
          subst ho
          refine ⟨?_, Or.inl ⟨by rfl, ?_⟩, fun _ _ _ h => h, ?_⟩
          rotate_left 1
          · intro W hW
            try dsimp only at hW
            go_simp
            try with_reducible rfl
          simp only [Act.put, List.setIfInBounds_toArray, List.set_cons_zero, List.set_cons_succ]
          refine wpH.take (i := 3) (by kernel_rfl) (by kernel_rfl) (by kernel_rfl) (by kernel_rfl) (by kernel_rfl) HS ?_
          intro oi ho
          simp only [List.getElem?_toArray, List.getElem?_cons_succ, List.getElem?_cons_zero, Option.some.injEq] at ho
          subst ho
          refine ⟨?_, Or.inl ⟨by rfl, ?_⟩, fun _ _ _ h => h, ?_⟩
          rotate_left 1
          · intro W hW
            try dsimp only at hW
            go_simp
            try with_reducible rfl
          simp only [Act.put, List.setIfInBounds_toArray, List.set_cons_zero, List.set_cons_succ]
          refine wpH.take (i := 4) (by kernel_rfl) (by kernel_rfl) (by kernel_rfl) (by kernel_rfl) (by kernel_rfl) HS ?_
          intro oi ho
          simp only [List.getElem?_toArray, List.getElem?_cons_succ, List.getElem?_cons_zero, Option.some.injEq] at ho
          subst ho
          refine ⟨?_, Or.inl ⟨by rfl, ?_⟩, fun _ _ _ h => h, ?_⟩
          rotate_left 1
          · intro W hW
            try dsimp only at hW
            go_simp
            try with_reducible rfl
          simp only [Act.put, List.setIfInBounds_toArray, List.set_cons_zero, List.set_cons_succ]
          refine wpH.take (i := 5) (by kernel_rfl) (by kernel_rfl) (by kernel_rfl) (by kernel_rfl) (by kernel_rfl) HS ?_
          intro oi ho
          simp only [List.getElem?_toArray, List.getElem?_cons_succ, List.getElem?_cons_zero, Option.some.injEq] at ho
          subst ho
          refine ⟨?_, Or.inl ⟨by rfl, ?_⟩, fun _ _ _ h => h, ?_⟩
          rotate_left 1
          · intro W hW
            try dsimp only at hW
            go_simp
            try with_reducible rfl
          simp only [Act.put, List.setIfInBounds_toArray, List.set_cons_zero, List.set_cons_succ]
          refine wpH.take (i := 6) (by kernel_rfl) (by kernel_rfl) (by kernel_rfl) (by kernel_rfl) (by kernel_rfl) HS ?_
          intro oi ho
          simp only [List.getElem?_toArray, List.getElem?_cons_succ, List.getElem?_cons_zero, Option.some.injEq] at ho
          subst ho
          refine ⟨?_, Or.inl ⟨by rfl, ?_⟩, fun _ _ _ h => h, ?_⟩
          rotate_left 1
          · intro W hW
            try dsimp only at hW
            go_simp
            try with_reducible rfl
          simp only [Act.put, List.setIfInBounds_toArray, List.set_cons_zero, List.set_cons_succ]
          refine wpH.one (i := 7) (by kernel_rfl) ?_
          intro oi ho
          simp only [List.getElem?_toArray, List.getElem?_cons_succ, List.getElem?_cons_zero, Option.some.injEq] at ho
          subst ho
          intro K hK
          have HK := Lib.hid hK
          clear hK
          go_simp
          refine HK.out _ _ (fun h => absurd h (by decide)) ?_
          try simp only [Act.put, List.setIfInBounds_toArray, List.set_cons_zero, List.set_cons_succ]
          refine wpH.done (by kernel_rfl) ?_
          go_wp2_with fail
          go_ret
          exact UniP.mk HUP.out SF.out (by have := HBW.out; omega)
        · have HUP := Lib.hid (UPost.root HRX.out HRY.out (UPost.same HG.out HVX.out HVY.out hX (by omega)))
          obtain ⟨⟨x0, _⟩, x1, _⟩ := S.two 2
          obtain ⟨⟨y0, _⟩, y1, _⟩ := S.two 3
          go_wp2_with fail
          go_ret
          exact UniP.mk HUP.out S (by have := HBW.out; omega)
    · have hX2 := hX
      have HUP := Lib.hid (UPost.root HRX.out HRY.out (UPost.left HG.out HVX.out HVY.out hX (HRX.out.free hX) (fun h => absurd h hY)))
      have hwf := wf_low hX HVX.out HN.out
      obtain ⟨⟨x0, _⟩, x1, _⟩ := S.two 2
      obtain ⟨⟨y0, _⟩, y1, _⟩ := S.two 3
      have SD := Lib.hid S.drew
      obtain ⟨w6, hrun, hm6, hg6⟩ := (SD.out.mapT 0).put (c := (Y.head, ky, Y.kids.length, Y.kids.length + ys)) hX hwf (HRX.out.free hX) (HVX.out.leaf hX).2 HN.out (SD.out.treeP 6) (fun h => by have := HP.out b h; have := HB.out; omega)
      have hrun : (Instr.mapUpdate 163 (.map (some b)) (.int .i64 X.head) (.agg #[.int .i64 Y.head, .slice ky Y.kids.length (Y.kids.length + ys)])).run Try.prog w3.drew = .ok () w6 := hrun
      have SF := Lib.hid (SD.out.mapPutT 0 rfl hm6 hg6 HB.out (by simp only [offs, offAll, Fct.box, Fct.treeP, Fct.kept, and_true]; have hbx0 := HBX.out; have h1 := HBL.out; have h2 := HSL.out; have h4 := HB.out; refine ⟨fun e => HNE.out e.symm, by omega, by omega, by omega, fun e => by have := HP.out _ e; omega, fun e => by have := HP.out _ e; omega⟩))
      have hz6 : bx + 2 ≤ w6.heap.size := Nat.le_trans z3 hg6.size
      clear S hm6 hg6 hwf
      go_wp2_with fail
      refine wpH_region [7] (fun W => W.cell? ⟨bs, 0, none⟩ = some (.map (some b)) ∧ W.cell? ⟨bx, 0, none⟩ = some (.int .i64 X.head) ∧ W.cell? ⟨bx + 1, 0, none⟩ = some (.int .i64 Y.head) ∧ W.cell? ⟨bx + 1, 1, none⟩ = some (.slice ky Y.kids.length (Y.kids.length + ys))) (by kernel_rfl) ?_
      have HS := (⟨(SD.out.one 1).1, (SD.out.two 2).1.1, (SD.out.two 3).1.1, (SD.out.two 3).2.1⟩ : _ ∧ _ ∧ _ ∧ _)
      refine wpH.take (i := 0) (by kernel_rfl) (by kernel_rfl) (by kernel_rfl) (by kernel_rfl) (by kernel_rfl) HS ?_
      intro oi ho
      simp only [List.getElem?_toArray, List.getElem?_cons_zero, Option.some.injEq] at ho
      subst ho
      refine ⟨?_, Or.inl ⟨by rfl, ?_⟩, fun _ _ _ h => h, ?_⟩
      rotate_left 1
      · intro W hW
        try dsimp only at hW
        go_simp
        try with_reducible rfl
      simp only [Act.put, List.setIfInBounds_toArray, List.set_cons_zero, List.set_cons_succ]
      refine wpH.take (i := 1) (by kernel_rfl) (by kernel_rfl) (by kernel_rfl) (by kernel_rfl) (by kernel_rfl) HS ?_
      intro oi ho
      simp only [List.getElem?_toArray, List.getElem?_cons_succ, List.getElem?_cons_zero, Option.some.injEq] at ho
      subst ho
      refine ⟨?_, Or.inl ⟨by rfl, ?_⟩, fun _ _ _ h => h, ?_⟩
      rotate_left 1
      · intro W hW
        try dsimp only at hW
        go_simp
        try with_reducible rfl
      simp only [Act.put, List.setIfInBounds_toArray, List.set_cons_zero, List.set_cons_succ]
      refine wpH.take (i := 2) (by kernel_rfl) (by kernel_rfl) (by kernel_rfl) (by kernel_rfl) (by kernel_rfl) HS ?_
      intro oi ho
      simp only [List.getElem?_toArray, List.getElem?_cons_succ, List.getElem?_cons_zero, Option.some.injEq] at ho
      subst ho
      refine ⟨?_, Or.inl ⟨by rfl, ?_⟩, fun _ _ _ h => h, ?_⟩
      rotate_left 1
      · intro W hW
        try dsimp only at hW
        go_simp
        try with_reducible rfl
      simp only [Act.put, List.setIfInBounds_toArray, List.set_cons_zero, List.set_cons_succ]
      refine wpH.take (i := 3) (by kernel_rfl) (by kernel_rfl) (by kernel_rfl) (by kernel_rfl) (by kernel_rfl) HS ?_
      intro oi ho
      simp only [List.getElem?_toArray, List.getElem?_cons_succ, List.getElem?_cons_zero, Option.some.injEq] at ho
      subst ho
      refine ⟨?_, Or.inl ⟨by rfl, ?_⟩, fun _ _ _ h => h, ?_⟩
      rotate_left 1
      · intro W hW
        try dsimp only at hW
        go_simp
        try with_reducible rfl
      simp only [Act.put, List.setIfInBounds_toArray, List.set_cons_zero, List.set_cons_succ]
      refine wpH.take (i := 4) (by kernel_rfl) (by kernel_rfl) (by kernel_rfl) (by kernel_rfl) (by kernel_rfl) HS ?_
      intro oi ho
      simp only [List.getElem?_toArray, List.getElem?_cons_succ, List.getElem?_cons_zero, Option.some.injEq] at ho
      subst ho
      refine ⟨?_, Or.inl ⟨by rfl, ?_⟩, fun _ _ _ h => h, ?_⟩
      rotate_left 1
      · intro W hW
        try dsimp only at hW
        go_simp
        try with_reducible rfl
      simp only [Act.put, List.setIfInBounds_toArray, List.set_cons_zero, List.set_cons_succ]
      refine wpH.take (i := 5) (by kernel_rfl) (by kernel_rfl) (by kernel_rfl) (by kernel_rfl) (by kernel_rfl) HS ?_
      intro oi ho
      simp only [List.getElem?_toArray, List.getElem?_cons_succ, List.getElem?_cons_zero, Option.some.injEq] at ho
      subst ho
      refine ⟨?_, Or.inl ⟨by rfl, ?_⟩, fun _ _ _ h => h, ?_⟩
      rotate_left 1
      · intro W hW
        try dsimp only at hW
        go_simp
        try with_reducible rfl
      simp only [Act.put, List.setIfInBounds_toArray, List.set_cons_zero, List.set_cons_succ]
      refine wpH.take (i := 6) (by kernel_rfl) (by kernel_rfl) (by kernel_rfl) (by kernel_rfl) (by kernel_rfl) HS ?_
      intro oi ho
      simp only [List.getElem?_toArray, List.getElem?_cons_succ, List.getElem?_cons_zero, Option.some.injEq] at ho
      subst ho
      refine ⟨?_, Or.inl ⟨by rfl, ?_⟩, fun _ _ _ h => h, ?_⟩
      rotate_left 1
      · intro W hW
        try dsimp only at hW
        go_simp
        try with_reducible rfl
      simp only [Act.put, List.setIfInBounds_toArray, List.set_cons_zero, List.set_cons_succ]
      refine wpH.one (i := 7) (by kernel_rfl) ?_
      intro oi ho
      simp only [List.getElem?_toArray, List.getElem?_cons_succ, List.getElem?_cons_zero, Option.some.injEq] at ho
      subst ho
      intro K hK
      have HK := Lib.hid hK
      clear hK
      go_simp
      refine HK.out _ _ (fun h => absurd h (by decide)) ?_
      try simp only [Act.put, List.setIfInBounds_toArray, List.set_cons_zero, List.set_cons_succ]
      refine wpH.done (by kernel_rfl) ?_
      go_wp2_with fail
      go_ret
      exact UniP.mk HUP.out SF.out (by have := HBW.out; omega)
  · by_cases hY : Y.head < 0
    · have hY2 := hY
      have HUP := Lib.hid (UPost.root HRX.out HRY.out (UPost.right HG.out HVX.out HVY.out hY (HRY.out.free hY) (fun h => absurd h hX)))
      have hwf := wf_low hY HVY.out HN.out
      obtain ⟨⟨x0, _⟩, x1, _⟩ := S.two 2
      obtain ⟨⟨y0, _⟩, y1, _⟩ := S.two 3
      have SD := Lib.hid S.drew
      obtain ⟨w6, hrun, hm6, hg6⟩ := (SD.out.mapT 0).put (c := (X.head, kx, X.kids.length, X.kids.length + xs)) hY hwf (HRY.out.free hY) (HVY.out.leaf hY).2 HN.out (SD.out.treeP 5) (fun h => by have := HP.out b h; have := HB.out; omega)
      have hrun : (Instr.mapUpdate 163 (.map (some b)) (.int .i64 Y.head) (.agg #[.int .i64 X.head, .slice kx X.kids.length (X.kids.length + xs)])).run Try.prog w3.drew = .ok () w6 := hrun
      have SF := Lib.hid (SD.out.mapPutT 0 rfl hm6 hg6 HB.out (by simp only [offs, offAll, Fct.box, Fct.treeP, Fct.kept, and_true]; have hbx0 := HBX.out; have h1 := HBL.out; have h2 := HSL.out; have h4 := HB.out; refine ⟨fun e => HNE.out e.symm, by omega, by omega, by omega, fun e => by have := HP.out _ e; omega, fun e => by have := HP.out _ e; omega⟩))
      have hz6 : bx + 2 ≤ w6.heap.size := Nat.le_trans z3 hg6.size
      clear S hm6 hg6 hwf
      go_wp2_with fail
      refine wpH_region [7] (fun W => W.cell? ⟨bs, 0, none⟩ = some (.map (some b)) ∧ W.cell? ⟨bx + 1, 0, none⟩ = some (.int .i64 Y.head) ∧ W.cell? ⟨bx, 0, none⟩ = some (.int .i64 X.head) ∧ W.cell? ⟨bx, 1, none⟩ = some (.slice kx X.kids.length (X.kids.length + xs))) (by kernel_rfl) ?_
      have HS := (⟨(SD.out.one 1).1, (SD.out.two 3).1.1, (SD.out.two 2).1.1, (SD.out.two 2).2.1⟩ : _ ∧ _ ∧ _ ∧ _)
      refine wpH.take (i := 0) (by kernel_rfl) (by kernel_rfl) (by kernel_rfl) (by kernel_rfl) (by kernel_rfl) HS ?_
      intro oi ho
      simp only [List.getElem?_toArray, List.getElem?_cons_zero, Option.some.injEq] at ho
      subst ho
      refine ⟨?_, Or.inl ⟨by rfl, ?_⟩, fun _ _ _ h => h, ?_⟩
      rotate_left 1
      · intro W hW
        try dsimp only at hW
        go_simp
        try with_reducible rfl
      simp only [Act.put, List.setIfInBounds_toArray, List.set_cons_zero, List.set_cons_succ]
      refine wpH.take (i := 1) (by kernel_rfl) (by kernel_rfl) (by kernel_rfl) (by kernel_rfl) (by kernel_rfl) HS ?_
      intro oi ho
      simp only [List.getElem?_toArray, List.getElem?_cons_succ, List.getElem?_cons_zero, Option.some.injEq] at ho
      subst ho
      refine ⟨?_, Or.inl ⟨by rfl, ?_⟩, fun _ _ _ h => h, ?_⟩
      rotate_left 1
      · intro W hW
        try dsimp only at hW
        go_simp
        try with_reducible rfl
      simp only [Act.put, List.setIfInBounds_toArray, List.set_cons_zero, List.set_cons_succ]
      refine wpH.take (i := 2) (by kernel_rfl) (by kernel_rfl) (by kernel_rfl) (by kernel_rfl) (by kernel_rfl) HS ?_
      intro oi ho
      simp only [List.getElem?_toArray, List.getElem?_cons_succ, List.getElem?_cons_zero, Option.some.injEq] at ho
      subst ho
      refine ⟨?_, Or.inl ⟨by rfl, ?_⟩, fun _ _ _ h => h, ?_⟩
      rotate_left 1
      · intro W hW
        try dsimp only at hW
        go_simp
        try with_reducible rfl
      simp only [Act.put, List.setIfInBounds_toArray, List.set_cons_zero, List.set_cons_succ]
      refine wpH.take (i := 3) (by kernel_rfl) (by kernel_rfl) (by kernel_rfl) (by kernel_rfl) (by kernel_rfl) HS ?_
      intro oi ho
      simp only [List.getElem?_toArray, List.getElem?_cons_succ, List.getElem?_cons_zero, Option.some.injEq] at ho
      subst ho
      refine ⟨?_, Or.inl ⟨by rfl, ?_⟩, fun _ _ _ h => h, ?_⟩
      rotate_left 1
      · intro W hW
        try dsimp only at hW
        go_simp
        try with_reducible rfl
      simp only [Act.put, List.setIfInBounds_toArray, List.set_cons_zero, List.set_cons_succ]
      refine wpH.take (i := 4) (by kernel_rfl) (by kernel_rfl) (by kernel_rfl) (by kernel_rfl) (by kernel_rfl) HS ?_
      intro oi ho
      simp only [List.getElem?_toArray, List.getElem?_cons_succ, List.getElem?_cons_zero, Option.some.injEq] at ho
      subst ho
      refine ⟨?_, Or.inl ⟨by rfl, ?_⟩, fun _ _ _ h => h, ?_⟩
      rotate_left 1
      · intro W hW
        try dsimp only at hW
        go_simp
        try with_reducible rfl
      simp only [Act.put, List.setIfInBounds_toArray, List.set_cons_zero, List.set_cons_succ]
      refine wpH.take (i := 5) (by kernel_rfl) (by kernel_rfl) (by kernel_rfl) (by kernel_rfl) (by kernel_rfl) HS ?_
      intro oi ho
      simp only [List.getElem?_toArray, List.getElem?_cons_succ, List.getElem?_cons_zero, Option.some.injEq] at ho
      subst ho
      refine ⟨?_, Or.inl ⟨by rfl, ?_⟩, fun _ _ _ h => h, ?_⟩
      rotate_left 1
      · intro W hW
        try dsimp only at hW
        go_simp
        try with_reducible rfl
      simp only [Act.put, List.setIfInBounds_toArray, List.set_cons_zero, List.set_cons_succ]
      refine wpH.take (i := 6) (by kernel_rfl) (by kernel_rfl) (by kernel_rfl) (by kernel_rfl) (by kernel_rfl) HS ?_
      intro oi ho
      simp only [List.getElem?_toArray, List.getElem?_cons_succ, List.getElem?_cons_zero, Option.some.injEq] at ho
      subst ho
      refine ⟨?_, Or.inl ⟨by rfl, ?_⟩, fun _ _ _ h => h, ?_⟩
      rotate_left 1
      · intro W hW
        try dsimp only at hW
        go_simp
        try with_reducible rfl
      simp only [Act.put, List.setIfInBounds_toArray, List.set_cons_zero, List.set_cons_succ]
      refine wpH.one (i := 7) (by kernel_rfl) ?_
      intro oi ho
      simp only [List.getElem?_toArray, List.getElem?_cons_succ, List.getElem?_cons_zero, Option.some.injEq] at ho
      subst ho
      intro K hK
      have HK := Lib.hid hK
      clear hK
      go_simp
      refine HK.out _ _ (fun h => absurd h (by decide)) ?_
      try simp only [Act.put, List.setIfInBounds_toArray, List.set_cons_zero, List.set_cons_succ]
      refine wpH.done (by kernel_rfl) ?_
      go_wp2_with fail
      go_ret
      exact UniP.mk HUP.out SF.out (by have := HBW.out; omega)
    · have HXN := Lib.hid (show ¬ X.head < 0 by omega); have HYN := Lib.hid (show ¬ Y.head < 0 by omega)
      by_cases hh : X.head = Y.head
      · have hhb : (X.head != Y.head) = false := by simp [hh]
        by_cases hl : X.kids.length = Y.kids.length
        · have hlb : ((X.kids.length : Int) != (Y.kids.length : Int)) = false := by simp [hl]
          have HH := Lib.hid hh; have HL := Lib.hid hl
          clear hh hl
          obtain ⟨⟨x0, _⟩, x1, _⟩ := S.two 2
          obtain ⟨⟨y0, _⟩, y1, _⟩ := S.two 3
          have HLX := Lib.hid (S.treeP 5).row.2; have HLY := Lib.hid (S.treeP 6).row.2
          have hlx63 : X.kids.length ≤ 9223372036854775807 := HLX.out
          have hly63 : Y.kids.length ≤ 9223372036854775807 := HLY.out
          go_wp2_with fail
          have S3 := Lib.hid S
          clear S x0 x1 y0 y1
          go_loopw [7, 87] (fun _ i wr => ∃ (k : Nat) (M1 : PM), k ≤ X.kids.length ∧ i = .int .i64 k ∧ UKids N M X Y k M1 ∧ Acyc M1 ∧ bx + 2 ≤ wr.heap.size ∧ St w0 wr [.mapT N p b M1, .box bs #[.map (some b)] 165, .box bx #[.int .i64 X.head, .slice kx X.kids.length (X.kids.length + xs)] 38, .box (bx + 1) #[.int .i64 Y.head, .slice ky Y.kids.length (Y.kids.length + ys)] 38, .kept w b, .treeP p (.agg #[.int .i64 X.head, .slice kx X.kids.length (X.kids.length + xs)]) X, .treeP p (.agg #[.int .i64 Y.head, .slice ky Y.kids.length (Y.kids.length + ys)]) Y]) (fun _ i _ => X.kids.length - (intOf i).toNat)
          case atStart => exact ⟨0, M, by omega, rfl, UKids.start HG.out X Y, HA.out, z3, S3.out⟩
          case round =>
            clear S3 z3
            obtain ⟨k, M1, hk, rfl, huk, hac, z3, S⟩ := hrel
            have HUK := Lib.hid huk; have HAC1 := Lib.hid hac
            clear huk hac
            by_cases hlt : k < X.kids.length
            · have hlti : (k : Int) < (X.kids.length : Int) := by omega
              have hlt2 : k < Y.kids.length := by have := HL.out; omega
              have hlti2 : (k : Int) < (Y.kids.length : Int) := by omega
              have SD := Lib.hid S.drew
              obtain ⟨ba, oa, ku, us, rfl, hpa, c1, c2, c3⟩ := (SD.out.treeP 5).row.1 k hlt
              obtain ⟨bb, ob, kv, vs, rfl, hpb, d1, d2, d3⟩ := (SD.out.treeP 6).row.1 k hlt2
              have HVU := Lib.hid (HVX.out.kid hlt); have HVV := Lib.hid (HVY.out.kid hlt2)
              have HCALL := Lib.hid (show ∀ W va vb, St w0 W [.mapT N p b M1, .box bs #[.map (some b)] 165] → TreeP p W va (gK X.kids k) → TreeP p W vb (gK Y.kids k) → Calls Try.prog 152 #[.pointer (some ⟨bs, 0, none⟩), va, vb] W (UniP N p b M1 (gK X.kids k) (gK Y.kids k) w0 W) from fun W va vb SW h1 h2 => by
                by_cases hMM : M1 = M
                · obtain ⟨σ, hσ, hsz⟩ := HSS.out
                  rw [hMM] at SW ⊢
                  rw [HRX.out.same σ hσ] at hsz
                  exact HIS.out _ (Nat.lt_of_lt_of_le (inst_size_kid (show ¬ X.head < 0 by have := HXN.out; omega) hlt) hsz) M _ _ va vb W HU.out ⟨σ, hσ, Nat.le_refl _⟩ SW HG.out HA.out h1 h2 HVU.out HVV.out
                · obtain ⟨σ, hσ⟩ := mgs_of HAC1.out
                  exact HIN.out (unb N M1) _ (Nat.lt_of_lt_of_le (unb_lt HUK.out.ext HUK.out.good hMM) HU.out) M1 _ _ va vb W (Nat.le_refl _) ⟨σ, hσ.sol, Nat.le_refl _⟩ SW HUK.out.good HAC1.out h1 h2 HVU.out HVV.out)
              obtain ⟨U, hUe⟩ : ∃ U, U = gK X.kids k := ⟨_, rfl⟩
              obtain ⟨V, hVe⟩ : ∃ V, V = gK Y.kids k := ⟨_, rfl⟩
              rw [← hUe] at c1 c2 c3
              rw [← hVe] at d1 d2 d3
              rw [← hUe, ← hVe] at HCALL
              have HKU := Lib.hid c3; have HKV := Lib.hid d3
              have HUE := Lib.hid hUe; have HVE := Lib.hid hVe
              clear hUe hVe c3 d3
              have HUK' := HUK
              obtain ⟨⟨x0, _⟩, x1, _⟩ := SD.out.two 2
              obtain ⟨⟨y0, _⟩, y1, _⟩ := SD.out.two 3
              have hzd : wr.drew.heap.size = wr.heap.size := rfl
              have HUX := Lib.hid (show ∀ (r : Bool) M2, UPost N M1 U V r M2 → UPost N M1 (gK X.kids k) (gK Y.kids k) r M2 from fun r M2 h => by rw [← HUE.out, ← HVE.out]; exact h)
              clear S
              go_wp2_with fail
              refine wpH_region [11, 12, 13, 14, 15, 16, 17, 18, 19, 20, 21, 22, 23, 24] (fun W => W.cell? ⟨bx, 1, none⟩ = some (.slice (some ⟨ba, oa, none⟩) X.kids.length (X.kids.length + xs)) ∧ W.cell? ⟨bx + 1, 1, none⟩ = some (.slice (some ⟨bb, ob, none⟩) Y.kids.length (Y.kids.length + ys)) ∧ W.cell? ⟨ba, oa + k * 2, none⟩ = some (.int .i64 U.head) ∧ W.cell? ⟨ba, oa + k * 2 + 1, none⟩ = some (.slice ku U.kids.length (U.kids.length + us)) ∧ W.cell? ⟨bb, ob + k * 2, none⟩ = some (.int .i64 V.head) ∧ W.cell? ⟨bb, ob + k * 2 + 1, none⟩ = some (.slice kv V.kids.length (V.kids.length + vs))) (by kernel_rfl) ?_
              have HS := (⟨x1, y1, c1, c2, d1, d2⟩ : _ ∧ _ ∧ _ ∧ _ ∧ _ ∧ _)
              refine wpH.take (i := 0) (by kernel_rfl) (by kernel_rfl) (by kernel_rfl) (by kernel_rfl) (by kernel_rfl) HS ?_
              intro oi ho
              simp only [List.getElem?_toArray, List.getElem?_cons_zero, Option.some.injEq] at ho
              subst ho
              refine ⟨?_, Or.inl ⟨by rfl, ?_⟩, fun _ _ _ h => h, ?_⟩
              rotate_left 1
              · intro W hW
                try dsimp only at hW
                go_simp
                try with_reducible rfl
              simp only [Act.put, List.setIfInBounds_toArray, List.set_cons_zero, List.set_cons_succ]
              refine wpH.take (i := 1) (by kernel_rfl) (by kernel_rfl) (by kernel_rfl) (by kernel_rfl) (by kernel_rfl) HS ?_
              intro oi ho
              simp only [List.getElem?_toArray, List.getElem?_cons_succ, List.getElem?_cons_zero, Option.some.injEq] at ho
              subst ho
              refine ⟨?_, Or.inl ⟨by rfl, ?_⟩, fun _ _ _ h => h, ?_⟩
              rotate_left 1
              · intro W hW
                try dsimp only at hW
                go_simp
                try with_reducible rfl
              simp only [Act.put, List.setIfInBounds_toArray, List.set_cons_zero, List.set_cons_succ]
              refine wpH.take (i := 2) (by kernel_rfl) (by kernel_rfl) (by kernel_rfl) (by kernel_rfl) (by kernel_rfl) HS ?_
              intro oi ho
              simp only [List.getElem?_toArray, List.getElem?_cons_succ, List.getElem?_cons_zero, Option.some.injEq] at ho
              subst ho
              refine ⟨?_, Or.inl ⟨by rfl, ?_⟩, fun _ _ _ h => h, ?_⟩
              rotate_left 1
              · intro W hW
                try dsimp only at hW
                go_simp
                try with_reducible rfl
              simp only [Act.put, List.setIfInBounds_toArray, List.set_cons_zero, List.set_cons_succ]
              refine wpH.take (i := 3) (by kernel_rfl) (by kernel_rfl) (by kernel_rfl) (by kernel_rfl) (by kernel_rfl) HS ?_
              intro oi ho
              simp only [List.getElem?_toArray, List.getElem?_cons_succ, List.getElem?_cons_zero, Option.some.injEq] at ho
              subst ho
              refine ⟨?_, Or.inl ⟨by rfl, ?_⟩, fun _ _ _ h => h, ?_⟩
              rotate_left 1
              · intro W hW
                try dsimp only at hW
                go_simp
                try with_reducible rfl
              simp only [Act.put, List.setIfInBounds_toArray, List.set_cons_zero, List.set_cons_succ]
              refine wpH.take (i := 4) (by kernel_rfl) (by kernel_rfl) (by kernel_rfl) (by kernel_rfl) (by kernel_rfl) HS ?_
              intro oi ho
              simp only [List.getElem?_toArray, List.getElem?_cons_succ, List.getElem?_cons_zero, Option.some.injEq] at ho
              subst ho
              refine ⟨?_, Or.inl ⟨by rfl, ?_⟩, fun _ _ _ h => h, ?_⟩
              rotate_left 1
              · intro W hW
                try dsimp only at hW
                go_simp
                try with_reducible rfl
              simp only [Act.put, List.setIfInBounds_toArray, List.set_cons_zero, List.set_cons_succ]
              refine wpH.take (i := 5) (by kernel_rfl) (by kernel_rfl) (by kernel_rfl) (by kernel_rfl) (by kernel_rfl) HS ?_
              intro oi ho
              simp only [List.getElem?_toArray, List.getElem?_cons_succ, List.getElem?_cons_zero, Option.some.injEq] at ho
              subst ho
              refine ⟨?_, Or.inl ⟨by rfl, ?_⟩, fun _ _ _ h => h, ?_⟩
              rotate_left 1
              · intro W hW
                try dsimp only at hW
                go_simp
                try with_reducible rfl
              simp only [Act.put, List.setIfInBounds_toArray, List.set_cons_zero, List.set_cons_succ]
              refine wpH.take (i := 6) (by kernel_rfl) (by kernel_rfl) (by kernel_rfl) (by kernel_rfl) (by kernel_rfl) HS ?_
              intro oi ho
              simp only [List.getElem?_toArray, List.getElem?_cons_succ, List.getElem?_cons_zero, Option.some.injEq] at ho
              subst ho
              refine ⟨?_, Or.inl ⟨by rfl, ?_⟩, fun _ _ _ h => h, ?_⟩
              rotate_left 1
              · intro W hW
                try dsimp only at hW
                go_simp
                try with_reducible rfl
              simp only [Act.put, List.setIfInBounds_toArray, List.set_cons_zero, List.set_cons_succ]
              refine wpH.take (i := 7) (by kernel_rfl) (by kernel_rfl) (by kernel_rfl) (by kernel_rfl) (by kernel_rfl) HS ?_
              intro oi ho
              simp only [List.getElem?_toArray, List.getElem?_cons_succ, List.getElem?_cons_zero, Option.some.injEq] at ho
              subst ho
              refine ⟨?_, Or.inl ⟨by rfl, ?_⟩, fun _ _ _ h => h, ?_⟩
              rotate_left 1
              · intro W hW
                try dsimp only at hW
                go_simp
                try with_reducible rfl
              simp only [Act.put, List.setIfInBounds_toArray, List.set_cons_zero, List.set_cons_succ]
              refine wpH.take (i := 8) (by kernel_rfl) (by kernel_rfl) (by kernel_rfl) (by kernel_rfl) (by kernel_rfl) HS ?_
              intro oi ho
              simp only [List.getElem?_toArray, List.getElem?_cons_succ, List.getElem?_cons_zero, Option.some.injEq] at ho
              subst ho
              refine ⟨?_, Or.inl ⟨by rfl, ?_⟩, fun _ _ _ h => h, ?_⟩
              rotate_left 1
              · intro W hW
                try dsimp only at hW
                go_simp
                try with_reducible rfl
              simp only [Act.put, List.setIfInBounds_toArray, List.set_cons_zero, List.set_cons_succ]
              refine wpH.take (i := 9) (by kernel_rfl) (by kernel_rfl) (by kernel_rfl) (by kernel_rfl) (by kernel_rfl) HS ?_
              intro oi ho
              simp only [List.getElem?_toArray, List.getElem?_cons_succ, List.getElem?_cons_zero, Option.some.injEq] at ho
              subst ho
              refine ⟨?_, Or.inl ⟨by rfl, ?_⟩, fun _ _ _ h => h, ?_⟩
              rotate_left 1
              · intro W hW
                try dsimp only at hW
                go_simp
                try with_reducible rfl
              simp only [Act.put, List.setIfInBounds_toArray, List.set_cons_zero, List.set_cons_succ]
              refine wpH.take (i := 10) (by kernel_rfl) (by kernel_rfl) (by kernel_rfl) (by kernel_rfl) (by kernel_rfl) HS ?_
              intro oi ho
              simp only [List.getElem?_toArray, List.getElem?_cons_succ, List.getElem?_cons_zero, Option.some.injEq] at ho
              subst ho
              refine ⟨?_, Or.inl ⟨by rfl, ?_⟩, fun _ _ _ h => h, ?_⟩
              rotate_left 1
              · intro W hW
                try dsimp only at hW
                go_simp
                try with_reducible rfl
              simp only [Act.put, List.setIfInBounds_toArray, List.set_cons_zero, List.set_cons_succ]
              refine wpH.one (i := 11) (by kernel_rfl) ?_
              intro oi ho
              simp only [List.getElem?_toArray, List.getElem?_cons_succ, List.getElem?_cons_zero, Option.some.injEq] at ho
              subst ho
              intro K hK
              have HK := Lib.hid hK
              clear hK
              go_simp
              go_at_call 152
              refine (SD.out.unified 0 rfl (by simp only [offs, offAll, Fct.box, Fct.treeP, Fct.kept, and_true]; have hbx0 := HBX.out; have h1 := HBL.out; have h2 := HSL.out; have h4 := HB.out; refine ⟨fun e => HNE.out e.symm, by omega, by omega, by omega, fun e => by have := HP.out _ e; omega, fun e => by have := HP.out _ e; omega⟩) (HCALL.out _ _ _ (SD.out.pick [0, 1]) HKU.out HKV.out)).mono ?_
              rintro e w5 ⟨r, M2, rfl, HU2, hz5, S5⟩
              obtain ⟨b0, _⟩ := S5.one 1
              dsimp only
              refine HK.out _ _ (fun h => absurd h (by decide)) ?_
              clear HS
              try simp only [Act.put, List.setIfInBounds_toArray, List.set_cons_zero, List.set_cons_succ]
              cases r with
              | false =>
                refine wpH.one (i := 12) (by kernel_rfl) ?_
                intro oi ho
                simp only [List.getElem?_toArray, List.getElem?_cons_succ, List.getElem?_cons_zero, Option.some.injEq] at ho
                subst ho
                intro K hK
                have HK := Lib.hid hK
                clear hK
                go_simp
                refine HK.out _ _ (fun h => absurd h (by decide)) ?_
                try simp only [Act.put, List.setIfInBounds_toArray, List.set_cons_zero, List.set_cons_succ]
                refine wpH.one (i := 13) (by kernel_rfl) ?_
                intro oi ho
                simp only [List.getElem?_toArray, List.getElem?_cons_succ, List.getElem?_cons_zero, Option.some.injEq] at ho
                subst ho
                intro K hK
                have HK := Lib.hid hK
                clear hK
                go_simp
                refine HK.out _ _ (fun h => absurd h (by decide)) ?_
                try simp only [Act.put, List.setIfInBounds_toArray, List.set_cons_zero, List.set_cons_succ]
                refine wpH.one (i := 14) (by kernel_rfl) ?_
                intro oi ho
                simp only [List.getElem?_toArray, List.getElem?_cons_succ, List.getElem?_cons_zero, Option.some.injEq] at ho
                subst ho
                intro K hK
                have HK := Lib.hid hK
                clear hK
                go_simp
                refine HK.out _ _ (fun h => absurd h (by decide)) ?_
                try simp only [Act.put, List.setIfInBounds_toArray, List.set_cons_zero, List.set_cons_succ]
                refine wpH.one (i := 15) (by kernel_rfl) ?_
                intro oi ho
                simp only [List.getElem?_toArray, List.getElem?_cons_succ, List.getElem?_cons_zero, Option.some.injEq] at ho
                subst ho
                intro K hK
                have HK := Lib.hid hK
                clear hK
                go_simp
                refine HK.out _ _ (fun h => absurd h (by decide)) ?_
                try simp only [Act.put, List.setIfInBounds_toArray, List.set_cons_zero, List.set_cons_succ]
                refine wpH.one (i := 16) (by kernel_rfl) ?_
                intro oi ho
                simp only [List.getElem?_toArray, List.getElem?_cons_succ, List.getElem?_cons_zero, Option.some.injEq] at ho
                subst ho
                intro K hK
                have HK := Lib.hid hK
                clear hK
                go_simp
                refine HK.out _ _ (fun h => absurd h (by decide)) ?_
                try simp only [Act.put, List.setIfInBounds_toArray, List.set_cons_zero, List.set_cons_succ]
                refine wpH.one (i := 17) (by kernel_rfl) ?_
                intro oi ho
                simp only [List.getElem?_toArray, List.getElem?_cons_succ, List.getElem?_cons_zero, Option.some.injEq] at ho
                subst ho
                intro K hK
                have HK := Lib.hid hK
                clear hK
                go_simp
                refine HK.out _ _ (fun h => absurd h (by decide)) ?_
                try simp only [Act.put, List.setIfInBounds_toArray, List.set_cons_zero, List.set_cons_succ]
                refine wpH.one (i := 18) (by kernel_rfl) ?_
                intro oi ho
                simp only [List.getElem?_toArray, List.getElem?_cons_succ, List.getElem?_cons_zero, Option.some.injEq] at ho
                subst ho
                intro K hK
                have HK := Lib.hid hK
                clear hK
                go_simp
                refine HK.out _ _ (fun h => absurd h (by decide)) ?_
                try simp only [Act.put, List.setIfInBounds_toArray, List.set_cons_zero, List.set_cons_succ]
                refine wpH.one (i := 19) (by kernel_rfl) ?_
                intro oi ho
                simp only [List.getElem?_toArray, List.getElem?_cons_succ, List.getElem?_cons_zero, Option.some.injEq] at ho
                subst ho
                intro K hK
                have HK := Lib.hid hK
                clear hK
                go_simp
                refine HK.out _ _ (fun h => absurd h (by decide)) ?_
                try simp only [Act.put, List.setIfInBounds_toArray, List.set_cons_zero, List.set_cons_succ]
                refine wpH.one (i := 20) (by kernel_rfl) ?_
                intro oi ho
                simp only [List.getElem?_toArray, List.getElem?_cons_succ, List.getElem?_cons_zero, Option.some.injEq] at ho
                subst ho
                intro K hK
                have HK := Lib.hid hK
                clear hK
                go_simp
                refine HK.out _ _ (fun h => absurd h (by decide)) ?_
                try simp only [Act.put, List.setIfInBounds_toArray, List.set_cons_zero, List.set_cons_succ]
                refine wpH.one (i := 21) (by kernel_rfl) ?_
                intro oi ho
                simp only [List.getElem?_toArray, List.getElem?_cons_succ, List.getElem?_cons_zero, Option.some.injEq] at ho
                subst ho
                intro K hK
                have HK := Lib.hid hK
                clear hK
                go_simp
                refine HK.out _ _ (fun h => absurd h (by decide)) ?_
                try simp only [Act.put, List.setIfInBounds_toArray, List.set_cons_zero, List.set_cons_succ]
                refine wpH.one (i := 22) (by kernel_rfl) ?_
                intro oi ho
                simp only [List.getElem?_toArray, List.getElem?_cons_succ, List.getElem?_cons_zero, Option.some.injEq] at ho
                subst ho
                intro K hK
                have HK := Lib.hid hK
                clear hK
                go_simp
                refine HK.out _ _ (fun h => absurd h (by decide)) ?_
                try simp only [Act.put, List.setIfInBounds_toArray, List.set_cons_zero, List.set_cons_succ]
                refine wpH.one (i := 23) (by kernel_rfl) ?_
                intro oi ho
                simp only [List.getElem?_toArray, List.getElem?_cons_succ, List.getElem?_cons_zero, Option.some.injEq] at ho
                subst ho
                intro K hK
                have HK := Lib.hid hK
                clear hK
                go_simp
                refine HK.out _ _ (fun h => absurd h (by decide)) ?_
                try simp only [Act.put, List.setIfInBounds_toArray, List.set_cons_zero, List.set_cons_succ]
                refine wpH.one (i := 24) (by kernel_rfl) ?_
                intro oi ho
                simp only [List.getElem?_toArray, List.getElem?_cons_succ, List.getElem?_cons_zero, Option.some.injEq] at ho
                subst ho
                intro K hK
                have HK := Lib.hid hK
                clear hK
                go_simp
                refine HK.out _ _ (fun h => absurd h (by decide)) ?_
                try simp only [Act.put, List.setIfInBounds_toArray, List.set_cons_zero, List.set_cons_succ]
                refine wpH.done (by kernel_rfl) ?_
                have HUP := Lib.hid (UPost.root HRX.out HRY.out (UKids.fail (show ¬ X.head < 0 by have := HXN.out; omega) (show ¬ Y.head < 0 by have := HYN.out; omega) hlt HUK.out (HUX.out _ _ HU2.out)))
                go_wp2_with fail
                go_ret
                exact UniP.mk HUP.out S5 (by have := HBW.out; omega)
              | true =>
                refine wpH.one (i := 12) (by kernel_rfl) ?_
                intro oi ho
                simp only [List.getElem?_toArray, List.getElem?_cons_succ, List.getElem?_cons_zero, Option.some.injEq] at ho
                subst ho
                intro K hK
                have HK := Lib.hid hK
                clear hK
                go_simp
                refine HK.out _ _ (fun h => absurd h (by decide)) ?_
                try simp only [Act.put, List.setIfInBounds_toArray, List.set_cons_zero, List.set_cons_succ]
                refine wpH.one (i := 13) (by kernel_rfl) ?_
                intro oi ho
                simp only [List.getElem?_toArray, List.getElem?_cons_succ, List.getElem?_cons_zero, Option.some.injEq] at ho
                subst ho
                intro K hK
                have HK := Lib.hid hK
                clear hK
                go_simp
                refine HK.out _ _ (fun h => absurd h (by decide)) ?_
                try simp only [Act.put, List.setIfInBounds_toArray, List.set_cons_zero, List.set_cons_succ]
                refine wpH.one (i := 14) (by kernel_rfl) ?_
                intro oi ho
                simp only [List.getElem?_toArray, List.getElem?_cons_succ, List.getElem?_cons_zero, Option.some.injEq] at ho
                subst ho
                intro K hK
                have HK := Lib.hid hK
                clear hK
                go_simp
                refine HK.out _ _ (fun h => absurd h (by decide)) ?_
                try simp only [Act.put, List.setIfInBounds_toArray, List.set_cons_zero, List.set_cons_succ]
                refine wpH.one (i := 15) (by kernel_rfl) ?_
                intro oi ho
                simp only [List.getElem?_toArray, List.getElem?_cons_succ, List.getElem?_cons_zero, Option.some.injEq] at ho
                subst ho
                intro K hK
                have HK := Lib.hid hK
                clear hK
                go_simp
                refine HK.out _ _ (fun h => absurd h (by decide)) ?_
                try simp only [Act.put, List.setIfInBounds_toArray, List.set_cons_zero, List.set_cons_succ]
                refine wpH.one (i := 16) (by kernel_rfl) ?_
                intro oi ho
                simp only [List.getElem?_toArray, List.getElem?_cons_succ, List.getElem?_cons_zero, Option.some.injEq] at ho
                subst ho
                intro K hK
                have HK := Lib.hid hK
                clear hK
                go_simp
                refine HK.out _ _ (fun h => absurd h (by decide)) ?_
                try simp only [Act.put, List.setIfInBounds_toArray, List.set_cons_zero, List.set_cons_succ]
                refine wpH.one (i := 17) (by kernel_rfl) ?_
                intro oi ho
                simp only [List.getElem?_toArray, List.getElem?_cons_succ, List.getElem?_cons_zero, Option.some.injEq] at ho
                subst ho
                intro K hK
                have HK := Lib.hid hK
                clear hK
                go_simp
                refine HK.out _ _ (fun h => absurd h (by decide)) ?_
                try simp only [Act.put, List.setIfInBounds_toArray, List.set_cons_zero, List.set_cons_succ]
                obtain ⟨nl, hlen, hnil⟩ := (S5.mapT 0).len
                have HNIL := Lib.hid hnil
                clear hnil
                by_cases hn0 : nl = 0
                · subst hn0
                  refine wpH.one (i := 18) (by kernel_rfl) ?_
                  intro oi ho
                  simp only [List.getElem?_toArray, List.getElem?_cons_succ, List.getElem?_cons_zero, Option.some.injEq] at ho
                  subst ho
                  intro K hK
                  have HK := Lib.hid hK
                  clear hK
                  go_simp
                  refine HK.out _ _ (fun h => absurd h (by decide)) ?_
                  try simp only [Act.put, List.setIfInBounds_toArray, List.set_cons_zero, List.set_cons_succ]
                  refine wpH.one (i := 19) (by kernel_rfl) ?_
                  intro oi ho
                  simp only [List.getElem?_toArray, List.getElem?_cons_succ, List.getElem?_cons_zero, Option.some.injEq] at ho
                  subst ho
                  intro K hK
                  have HK := Lib.hid hK
                  clear hK
                  go_simp
                  refine HK.out _ _ (fun h => absurd h (by decide)) ?_
                  try simp only [Act.put, List.setIfInBounds_toArray, List.set_cons_zero, List.set_cons_succ]
                  refine wpH.one (i := 20) (by kernel_rfl) ?_
                  intro oi ho
                  simp only [List.getElem?_toArray, List.getElem?_cons_succ, List.getElem?_cons_zero, Option.some.injEq] at ho
                  subst ho
                  intro K hK
                  have HK := Lib.hid hK
                  clear hK
                  go_simp
                  refine HK.out _ _ (fun h => absurd h (by decide)) ?_
                  try simp only [Act.put, List.setIfInBounds_toArray, List.set_cons_zero, List.set_cons_succ]
                  refine wpH.one (i := 21) (by kernel_rfl) ?_
                  intro oi ho
                  simp only [List.getElem?_toArray, List.getElem?_cons_succ, List.getElem?_cons_zero, Option.some.injEq] at ho
                  subst ho
                  intro K hK
                  have HK := Lib.hid hK
                  clear hK
                  go_simp
                  refine HK.out _ _ (fun h => absurd h (by decide)) ?_
                  try simp only [Act.put, List.setIfInBounds_toArray, List.set_cons_zero, List.set_cons_succ]
                  refine wpH.one (i := 22) (by kernel_rfl) ?_
                  intro oi ho
                  simp only [List.getElem?_toArray, List.getElem?_cons_succ, List.getElem?_cons_zero, Option.some.injEq] at ho
                  subst ho
                  intro K hK
                  have HK := Lib.hid hK
                  clear hK
                  go_simp
                  refine HK.out _ _ (fun h => absurd h (by decide)) ?_
                  try simp only [Act.put, List.setIfInBounds_toArray, List.set_cons_zero, List.set_cons_succ]
                  refine wpH.one (i := 23) (by kernel_rfl) ?_
                  intro oi ho
                  simp only [List.getElem?_toArray, List.getElem?_cons_succ, List.getElem?_cons_zero, Option.some.injEq] at ho
                  subst ho
                  intro K hK
                  have HK := Lib.hid hK
                  clear hK
                  go_simp
                  refine HK.out _ _ (fun h => absurd h (by decide)) ?_
                  try simp only [Act.put, List.setIfInBounds_toArray, List.set_cons_zero, List.set_cons_succ]
                  refine wpH.one (i := 24) (by kernel_rfl) ?_
                  intro oi ho
                  simp only [List.getElem?_toArray, List.getElem?_cons_succ, List.getElem?_cons_zero, Option.some.injEq] at ho
                  subst ho
                  intro K hK
                  have HK := Lib.hid hK
                  clear hK
                  go_simp
                  refine HK.out _ _ (fun h => absurd h (by decide)) ?_
                  try simp only [Act.put, List.setIfInBounds_toArray, List.set_cons_zero, List.set_cons_succ]
                  refine wpH.done (by kernel_rfl) ?_
                  have HAC := Lib.hid (show Acyc M2 from by rw [show M2 = fun _ => none from funext (HNIL.out rfl)]; exact acyc_empty)
                  go_wp2_with fail
                  go_roundw
                  case rel => exact ⟨k + 1, M2, by omega, by go_num, HUK.out.next (HUX.out _ _ HU2.out), HAC.out, by omega, S5⟩
                  case measure => simp [intOf] <;> omega
                · have hnpos : 0 < nl := by omega
                  clear hn0
                  refine wpH.one (i := 18) (by kernel_rfl) ?_
                  intro oi ho
                  simp only [List.getElem?_toArray, List.getElem?_cons_succ, List.getElem?_cons_zero, Option.some.injEq] at ho
                  subst ho
                  intro K hK
                  have HK := Lib.hid hK
                  clear hK
                  go_simp
                  refine HK.out _ _ (fun h => absurd h (by decide)) ?_
                  try simp only [Act.put, List.setIfInBounds_toArray, List.set_cons_zero, List.set_cons_succ]
                  refine wpH.one (i := 19) (by kernel_rfl) ?_
                  intro oi ho
                  simp only [List.getElem?_toArray, List.getElem?_cons_succ, List.getElem?_cons_zero, Option.some.injEq] at ho
                  subst ho
                  intro K hK
                  have HK := Lib.hid hK
                  clear hK
                  go_simp
                  refine HK.out _ _ (fun h => absurd h (by decide)) ?_
                  try simp only [Act.put, List.setIfInBounds_toArray, List.set_cons_zero, List.set_cons_succ]
                  refine wpH.one (i := 20) (by kernel_rfl) ?_
                  intro oi ho
                  simp only [List.getElem?_toArray, List.getElem?_cons_succ, List.getElem?_cons_zero, Option.some.injEq] at ho
                  subst ho
                  intro K hK
                  have HK := Lib.hid hK
                  clear hK
                  go_simp
                  refine HK.out _ _ (fun h => absurd h (by decide)) ?_
                  try simp only [Act.put, List.setIfInBounds_toArray, List.set_cons_zero, List.set_cons_succ]
                  refine wpH.one (i := 21) (by kernel_rfl) ?_
                  intro oi ho
                  simp only [List.getElem?_toArray, List.getElem?_cons_succ, List.getElem?_cons_zero, Option.some.injEq] at ho
                  subst ho
                  intro K hK
                  have HK := Lib.hid hK
                  clear hK
                  go_simp
                  refine HK.out _ _ (fun h => absurd h (by decide)) ?_
                  try simp only [Act.put, List.setIfInBounds_toArray, List.set_cons_zero, List.set_cons_succ]
                  refine wpH.one (i := 22) (by kernel_rfl) ?_
                  intro oi ho
                  simp only [List.getElem?_toArray, List.getElem?_cons_succ, List.getElem?_cons_zero, Option.some.injEq] at ho
                  subst ho
                  intro K hK
                  have HK := Lib.hid hK
                  clear hK
                  go_simp
                  go_at_call 153
                  refine (HRD.out N p b bs M2 w5 (S5.mapT 0) (S5.block 1) HU2.out.good HN.out (fun c hc => Nat.lt_of_lt_of_le (HP.out c hc) S5.bel.size)).mono ?_
                  rintro e w6 ⟨r2, rfl, h21, h22, hb6⟩
                  have H21 := Lib.hid h21; have H22 := Lib.hid h22
                  have S6 := S5.step hb6
                  have hz6 := hb6.size
                  clear h21 h22 hb6 hlen
                  dsimp only
                  refine HK.out _ _ (fun h => absurd h (by decide)) ?_
                  try simp only [Act.put, List.setIfInBounds_toArray, List.set_cons_zero, List.set_cons_succ]
                  cases r2 with
                  | true =>
                    refine wpH.one (i := 23) (by kernel_rfl) ?_
                    intro oi ho
                    simp only [List.getElem?_toArray, List.getElem?_cons_succ, List.getElem?_cons_zero, Option.some.injEq] at ho
                    subst ho
                    intro K hK
                    have HK := Lib.hid hK
                    clear hK
                    go_simp
                    refine HK.out _ _ (fun h => absurd h (by decide)) ?_
                    try simp only [Act.put, List.setIfInBounds_toArray, List.set_cons_zero, List.set_cons_succ]
                    refine wpH.one (i := 24) (by kernel_rfl) ?_
                    intro oi ho
                    simp only [List.getElem?_toArray, List.getElem?_cons_succ, List.getElem?_cons_zero, Option.some.injEq] at ho
                    subst ho
                    intro K hK
                    have HK := Lib.hid hK
                    clear hK
                    go_simp
                    refine HK.out _ _ (fun h => absurd h (by decide)) ?_
                    try simp only [Act.put, List.setIfInBounds_toArray, List.set_cons_zero, List.set_cons_succ]
                    refine wpH.done (by kernel_rfl) ?_
                    have HUP := Lib.hid (UPost.root HRX.out HRY.out (UKids.stuck (M1 := M1) (show ¬ X.head < 0 by have := HXN.out; omega) (show ¬ Y.head < 0 by have := HYN.out; omega) hlt (HUK.out.next (HUX.out _ _ HU2.out)) (H21.out rfl)))
                    go_wp2_with fail
                    go_ret
                    exact UniP.mk HUP.out S6 (by have := HBW.out; omega)
                  | false =>
                    refine wpH.one (i := 23) (by kernel_rfl) ?_
                    intro oi ho
                    simp only [List.getElem?_toArray, List.getElem?_cons_succ, List.getElem?_cons_zero, Option.some.injEq] at ho
                    subst ho
                    intro K hK
                    have HK := Lib.hid hK
                    clear hK
                    go_simp
                    refine HK.out _ _ (fun h => absurd h (by decide)) ?_
                    try simp only [Act.put, List.setIfInBounds_toArray, List.set_cons_zero, List.set_cons_succ]
                    refine wpH.one (i := 24) (by kernel_rfl) ?_
                    intro oi ho
                    simp only [List.getElem?_toArray, List.getElem?_cons_succ, List.getElem?_cons_zero, Option.some.injEq] at ho
                    subst ho
                    intro K hK
                    have HK := Lib.hid hK
                    clear hK
                    go_simp
                    refine HK.out _ _ (fun h => absurd h (by decide)) ?_
                    try simp only [Act.put, List.setIfInBounds_toArray, List.set_cons_zero, List.set_cons_succ]
                    refine wpH.done (by kernel_rfl) ?_
                    go_wp2_with fail
                    go_roundw
                    case rel => exact ⟨k + 1, M2, by omega, by go_num, HUK.out.next (HUX.out _ _ HU2.out), H22.out rfl, by omega, S6⟩
                    case measure => simp [intOf] <;> omega
            · obtain rfl : k = X.kids.length := by omega
              have HUP := Lib.hid (UPost.root HRX.out HRY.out (UKids.done (show ¬ X.head < 0 by have := HXN.out; omega) (show ¬ Y.head < 0 by have := HYN.out; omega) HH.out HL.out HUK.out))
              go_wp2_with fail
              go_ret
              exact UniP.mk HUP.out S (by have := HBW.out; omega)
        · have hlb : ((X.kids.length : Int) != (Y.kids.length : Int)) = true := by simp; omega
          have HUP := Lib.hid (UPost.root HRX.out HRY.out (UPost.clash HG.out hX hY (fun h => hl h.2)))
          clear hh hl
          obtain ⟨⟨x0, _⟩, x1, _⟩ := S.two 2
          obtain ⟨⟨y0, _⟩, y1, _⟩ := S.two 3
          go_wp2_with fail
          go_ret
          exact UniP.mk HUP.out S (by have := HBW.out; omega)
      · have hhb : (X.head != Y.head) = true := by simp [hh]
        have HUP := Lib.hid (UPost.root HRX.out HRY.out (UPost.clash HG.out hX hY (fun h => hh h.1)))
        clear hh
        obtain ⟨⟨x0, _⟩, x1, _⟩ := S.two 2
        obtain ⟨⟨y0, _⟩, y1, _⟩ := S.two 3
        go_wp2_with fail
        go_ret
        exact UniP.mk HUP.out S (by have := HBW.out; omega)

end Go.Proofs.Ytlhnfdjidjgfgaa
